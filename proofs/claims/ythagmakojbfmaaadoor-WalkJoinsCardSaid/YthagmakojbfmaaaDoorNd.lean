/- walk.Node: the node to which a path leads. -/
import Derived.Test.YthagmakojbfmaaaDoorWlk
set_option linter.unusedVariables false
set_option linter.unusedSimpArgs false
namespace Go.Proofs.YthagmakojbfmaaaDoor.Ext
open Go Go.RowKit Go.Proofs.YthagmakojbfmaaaDoor Go.Proofs.YthagmakojbfmaaaDoorW.PrintWords
def nodeF (ns : List S48) (who frm : Int) (path : ByteArray) (follow : Bool) : Int × Int :=
 if (walkF ns who frm path follow).1 = 0 then (if (walkF ns who frm path follow).2.f2 = -1 then (0, 2) else ((walkF ns who frm path follow).2.f2, 0)) else (0, (walkF ns who frm path follow).1)
def RetN (w : World) (s : Int × Int) (e : Ending) (w' : World) : Prop := e = .returned (.tuple #[.int .i64 s.1, .int .i64 s.2]) ∧ Below w.heap.size w w'
attribute [local go_sem] isRow_drew row_drew isRow_drewN row_drewN cell_isRow rowSz_isRow isHead_ptr blockOf_ptr row_alloc isRow_alloc rowSz_alloc setRow_alloc isRow_setRow isRow_setCell isRow_frozen setCell_setRow_same setCell_setRow_other cell_setRow_same' cell_setRow_other' frozen_setRow' row_setRow_same row_setRow_other rowSz_setRow_same rowSz_setRow_other setRow_setRow_same' setRow_comm' ne_l2 ne_r2 ne_l3 ne_r3 ne_l4 ne_r4 ne_l5 ne_r5 ne_l6 ne_r6 ne_l7 ne_r7 ne_l8 ne_r8 wk_len row_setCell_same
attribute [local go_sem ↓] ldx_28
attribute [local go_sem ↓] ldx_24
attribute [local go_sem ↓] Go.wp_at_zero Go.wp_at_succ
set_option maxRecDepth 100000 in
set_option maxHeartbeats 4000000 in
theorem node_calls (A : Option Addr) (c : Nat) (ns : List S48) (m r who frm : Int) (path : ByteArray) (follow : Bool) (w : World) (hd : Dk w A ns) (hg : Eg w) (hc : ns.length ≤ c) (hl : ns.length ≤ 1000000) (hf : Fit ns) (hp : path.size ≤ 1000)  :
  Calls Tryd.prog 15 #[.agg #[.slice A ns.length c, .int .i64 m, .int .i64 r], .int .i64 who, .int .i64 frm, .string path, .bool follow] w (RetN w (nodeF ns who frm path follow)) := by
 have HD := Lib.hid hd
 have HG := Lib.hid hg
 have HL := Lib.hid (And.intro hc (And.intro hl (And.intro hf hp)))
 clear hd hg hc hl hf hp
 obtain ⟨⟨no, s0, s1, s2, s3⟩, hs⟩ : ∃ s, walkF ns who frm path follow = s := ⟨_, rfl⟩
 have HW := Lib.hid hs
 clear hs
 go_enter Tryd.func15, Tryd.ntmps15
 go_wp2_with (first | (apply ld_row 28 4; (focus rfl); (focus go_simp); (focus (go_simp; rfl)); (focus (exact Tryd.underlying28)); (focus kernel_rfl)) | (apply st_row 28 4; (focus rfl); (focus rfl); (focus go_simp); (focus kernel_rfl); (focus rfl); (focus (first | (simp [Value.oneCell']; done) | (simp [Value.oneCell', Job.cells]; done)))) | (apply ld_row 24 3; (focus rfl); (focus go_simp); (focus (go_simp; rfl)); (focus (exact Tryd.underlying24)); (focus kernel_rfl)) | (apply st_row 24 3; (focus rfl); (focus rfl); (focus go_simp); (focus kernel_rfl); (focus rfl); (focus (first | (simp [Value.oneCell']; done) | (simp [Value.oneCell', Job.cells]; done)))) | fail)
 refine Calls.at_ fun W hW => ?_
 have B0 : Below w.heap.size w W := by rw [hW]; repeat' (first | with_reducible refine Below.alloc ?_ ?_ _ | with_reducible refine Below.setRow_ ?_ ?_ _ | with_reducible refine Below.setCell ?_ ?_ _ | with_reducible refine Below.drew ?_ | with_reducible refine Below.drewN_ ?_ _ | with_reducible exact Below.refl _ _ | assumption | (simp; done) | (simp; omega) | omega)
 have Yd : Box W (w.heap.size) #[.slice A ns.length c, .int .i64 m, .int .i64 r] := ⟨_, by rw [hW]; exact blk_new _ (by first | rfl | simp)⟩
 clear hW
 refine (walk_calls A c ns m r who frm path follow W (HD.out.step B0) (HG.out.step B0) HL.out.1 HL.out.2.1 HL.out.2.2.1 HL.out.2.2.2).mono ?_
 rintro e w1 h
 obtain ⟨rfl, hb⟩ := (show RetW W (walkF ns who frm path follow) e w1 from h)
 have C := B0.trans (hb.mono B0.size)
 have BB := Lib.hid C
 replace HD := Lib.hid (HD.out.step C)
 replace HG := Lib.hid (HG.out.step C)
 have Hd := Lib.hid (Yd.step hb)
 obtain ⟨bd, hbd⟩ : ∃ b, b = w.heap.size := ⟨_, rfl⟩
 rw [← hbd] at Hd ⊢
 clear Yd hbd
 obtain ⟨id, rd, ld, nd, md⟩ := boxAll Hd.out
 clear h hb C B0 W
 rw [HW.out]
 unfold spotV
 simp only
 by_cases h0 : no = 0
 ·subst h0
  by_cases h1 : s2 = -1
  ·subst h1
   go_wp2_with (first | (apply ld_row 28 4; (focus rfl); (focus go_simp); (focus (go_simp; rfl)); (focus (exact Tryd.underlying28)); (focus kernel_rfl)) | (apply st_row 28 4; (focus rfl); (focus rfl); (focus go_simp); (focus kernel_rfl); (focus rfl); (focus (first | (simp [Value.oneCell']; done) | (simp [Value.oneCell', Job.cells]; done)))) | (apply ld_row 24 3; (focus rfl); (focus go_simp); (focus (go_simp; rfl)); (focus (exact Tryd.underlying24)); (focus kernel_rfl)) | (apply st_row 24 3; (focus rfl); (focus rfl); (focus go_simp); (focus kernel_rfl); (focus rfl); (focus (first | (simp [Value.oneCell']; done) | (simp [Value.oneCell', Job.cells]; done)))) | fail)
   go_ret2
   have hN : nodeF ns who frm path follow = (0, 2) := by unfold nodeF; rw [HW.out]; simp
   unfold RetN; rw [hN]
   refine ⟨rfl, ?_⟩
   have hs := BB.out
   have hss := hs.size
   repeat' (first | with_reducible refine Below.alloc ?_ ?_ _ | with_reducible refine Below.setRow_ ?_ ?_ _ | with_reducible refine Below.setCell ?_ ?_ _ | with_reducible refine Below.drew ?_ | with_reducible refine Below.drewN_ ?_ _ | with_reducible exact Below.refl _ _ | assumption | (simp; done) | (simp; omega) | omega)
  ·have hd1 : (s2 == -1) = false := by simpa using h1
   go_wp2_with (first | (apply ld_row 28 4; (focus rfl); (focus go_simp); (focus (go_simp; rfl)); (focus (exact Tryd.underlying28)); (focus kernel_rfl)) | (apply st_row 28 4; (focus rfl); (focus rfl); (focus go_simp); (focus kernel_rfl); (focus rfl); (focus (first | (simp [Value.oneCell']; done) | (simp [Value.oneCell', Job.cells]; done)))) | (apply ld_row 24 3; (focus rfl); (focus go_simp); (focus (go_simp; rfl)); (focus (exact Tryd.underlying24)); (focus kernel_rfl)) | (apply st_row 24 3; (focus rfl); (focus rfl); (focus go_simp); (focus kernel_rfl); (focus rfl); (focus (first | (simp [Value.oneCell']; done) | (simp [Value.oneCell', Job.cells]; done)))) | fail)
   go_ret2
   have hN : nodeF ns who frm path follow = (s2, 0) := by unfold nodeF; rw [HW.out]; simp [h1]
   unfold RetN; rw [hN]
   refine ⟨rfl, ?_⟩
   have hs := BB.out
   have hss := hs.size
   repeat' (first | with_reducible refine Below.alloc ?_ ?_ _ | with_reducible refine Below.setRow_ ?_ ?_ _ | with_reducible refine Below.setCell ?_ ?_ _ | with_reducible refine Below.drew ?_ | with_reducible refine Below.drewN_ ?_ _ | with_reducible exact Below.refl _ _ | assumption | (simp; done) | (simp; omega) | omega)
 ·have hd0 : (no != 0) = true := by simpa using h0
  go_wp2_with (first | (apply ld_row 28 4; (focus rfl); (focus go_simp); (focus (go_simp; rfl)); (focus (exact Tryd.underlying28)); (focus kernel_rfl)) | (apply st_row 28 4; (focus rfl); (focus rfl); (focus go_simp); (focus kernel_rfl); (focus rfl); (focus (first | (simp [Value.oneCell']; done) | (simp [Value.oneCell', Job.cells]; done)))) | (apply ld_row 24 3; (focus rfl); (focus go_simp); (focus (go_simp; rfl)); (focus (exact Tryd.underlying24)); (focus kernel_rfl)) | (apply st_row 24 3; (focus rfl); (focus rfl); (focus go_simp); (focus kernel_rfl); (focus rfl); (focus (first | (simp [Value.oneCell']; done) | (simp [Value.oneCell', Job.cells]; done)))) | fail)
  go_ret2
  have hN : nodeF ns who frm path follow = (0, no) := by unfold nodeF; rw [HW.out]; simp [h0]
  unfold RetN; rw [hN]
  refine ⟨rfl, ?_⟩
  have hs := BB.out
  have hss := hs.size
  repeat' (first | with_reducible refine Below.alloc ?_ ?_ _ | with_reducible refine Below.setRow_ ?_ ?_ _ | with_reducible refine Below.setCell ?_ ?_ _ | with_reducible refine Below.drew ?_ | with_reducible refine Below.drewN_ ?_ _ | with_reducible exact Below.refl _ _ | assumption | (simp; done) | (simp; omega) | omega)
end Go.Proofs.YthagmakojbfmaaaDoor.Ext
