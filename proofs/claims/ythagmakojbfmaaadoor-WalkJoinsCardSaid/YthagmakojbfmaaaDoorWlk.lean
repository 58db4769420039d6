/- walk.Walk: where a path leads. -/
import Derived.Test.YthagmakojbfmaaaDoorAs
/- errors.As, for whatever error a way comes to. -/
set_option linter.unusedVariables false
set_option linter.unusedSimpArgs false
namespace Go.Proofs.YthagmakojbfmaaaDoor.Ext
open Go Go.RowKit Go.Proofs.YthagmakojbfmaaaDoor Go.Proofs.YthagmakojbfmaaaDoorW.PrintWords
def Eg (w : World) : Prop := w.cell? ⟨0, 0, none⟩ = some (.iface 120 (.agg #[.pointer (some ⟨4, 68, none⟩)]))
theorem Eg.pos {w : World} (h : Eg w) : 0 < w.heap.size := by
 unfold Eg at h
 rcases Nat.eq_zero_or_pos w.heap.size with h0 | h0
 ·simp [World.cell?, h0] at h
 ·exact h0
theorem Eg.step {w w1 : World} (h : Eg w) (hb : Below w.heap.size w w1) : Eg w1 := by
 have h1 := hb.block 0 h.pos
 unfold Eg at h ⊢
 unfold World.cell? at h ⊢
 simp only at h ⊢
 rw [h1]; exact h
theorem Gro.set1 {w : World} {t : Nat} (o1 o2 o3 o4 : Obj) (v : Value) : Gro (fun x => x = t) w (((((w.alloc o1).alloc o2).alloc o3).alloc o4).setCell ⟨t, 0, none⟩ v) :=
 Gro.setCell (B := fun x => x = t) (((((Gro.refl _ w).alloc o1).alloc o2).alloc o3).alloc o4) (p := ⟨t, 0, none⟩) (.inl rfl) v
theorem Box.gro {w w1 : World} {b t : Nat} {cs : Array Value} (h : Box w b cs) (hg : Gro (fun x => x = t) w w1) (hne : b ≠ t) : Box w1 b cs := by
 obtain ⟨y, h⟩ := h
 exact ⟨y, (hg.block b (Array.getElem?_eq_some_iff.1 h).1 hne).trans h⟩
theorem Box.ne {w : World} {b t : Nat} {cs ds : Array Value} (h : Box w b cs) (h2 : Box w t ds) (hne : cs ≠ ds) : b ≠ t := by
 rintro rfl
 exact hne (h.row.symm.trans h2.row)
theorem Box.alloc4 {w : World} {b : Nat} {cs : Array Value} (h : Box w b cs) (o1 o2 o3 o4 : Obj) : Box ((((w.alloc o1).alloc o2).alloc o3).alloc o4) b cs := by
 obtain ⟨y, h⟩ := h
 exact ⟨y, blk_old (blk_old (blk_old (blk_old h _) _) _) _⟩
theorem as_calls (ev : Value) (no : Int) (t : Nat) (w : World) (hg : Eg w) (ht : Box w t #[.pointer none]) (h : ErrC w ev no) :
  Calls Tryd.prog 24 #[ev, .iface 71 (.pointer (some ⟨t, 0, none⟩))] w fun e w' => Gro (fun x => x = t) w w' ∧ e = .returned (.bool (!decide (no = 0))) ∧ (no ≠ 0 → ∃ p, Box w' t #[.pointer (some ⟨p, 0, none⟩)] ∧ Box w' p #[.int .i64 no]) := by
 rcases h with ⟨h0, rfl⟩ | ⟨h0, p, hp, hc⟩
 ·refine (as_nil _ w).mono ?_
  rintro e w' ⟨rfl, rfl⟩
  exact ⟨Gro.refl _ _, by simp [h0], fun h => absurd h0 h⟩
 ·have hpt : p ≠ t := hp.ne ht (by intro h; have := congrArg (fun a : Array Value => a[0]?) h; simp at this)
  have htc : w.cell? ⟨t, 0, none⟩ = some (.pointer none) := by obtain ⟨y, h⟩ := ht; exact block_cell h 0
  have htf : w.frozen? ⟨t, 0, none⟩ = false := by obtain ⟨y, h⟩ := ht; exact block_free h 0
  have fin : ∀ o1 o2 o3 o4, ∃ q, Box (((((w.alloc o1).alloc o2).alloc o3).alloc o4).setCell ⟨t, 0, none⟩ (.pointer (some ⟨p, 0, none⟩))) t #[.pointer (some ⟨q, 0, none⟩)] ∧ Box (((((w.alloc o1).alloc o2).alloc o3).alloc o4).setCell ⟨t, 0, none⟩ (.pointer (some ⟨p, 0, none⟩))) q #[.int .i64 no] :=
   fun o1 o2 o3 o4 => ⟨p, (ht.alloc4 o1 o2 o3 o4).set 0 _, (hp.alloc4 o1 o2 o3 o4).far hpt _⟩
  rcases hc with rfl | ⟨q, part, rfl, hq⟩
  ·refine (as_hit ⟨p, 0, none⟩ ⟨t, 0, none⟩ _ w hg htc htf).mono ?_
   rintro e w' ⟨rfl, rfl⟩
   exact ⟨Gro.set1 _ _ _ _ _, by simp [h0], fun _ => fin _ _ _ _⟩
  ·refine (as_chain q ⟨p, 0, none⟩ ⟨t, 0, none⟩ _ w hg htc htf (by obtain ⟨y, h⟩ := hq; exact block_cell h 1)).mono ?_
   rintro e w' ⟨rfl, rfl⟩
   exact ⟨Gro.set1 _ _ _ _ _, by simp [h0], fun _ => fin _ _ _ _⟩
end Go.Proofs.YthagmakojbfmaaaDoor.Ext
set_option linter.unusedVariables false
set_option linter.unusedSimpArgs false
namespace Go.Proofs.YthagmakojbfmaaaDoor.Ext
open Go Go.RowKit Go.Proofs.YthagmakojbfmaaaDoor Go.Proofs.YthagmakojbfmaaaDoorW.PrintWords
def slashB (p : ByteArray) : Bool := Lib.hasSuffix p.data.toList [47]
def walk0 (who frm : Int) (path : ByteArray) (follow : Bool) : Wk := ⟨who, if rootB path = true then 0 else frm, .slice none 0 0, follow, slashB path, 0, 0, ⟨#[]⟩, 0, false, false⟩
def walkF (ns : List S48) (who frm : Int) (path : ByteArray) (follow : Bool) : Int × S28 :=
 if checkB path = 0 then (if (allF ns (walk0 who frm path follow) (namesL path)).1 = 0 then (0, ⟨(allF ns (walk0 who frm path follow) (namesL path)).2.dir, (allF ns (walk0 who frm path follow) (namesL path)).2.name, (allF ns (walk0 who frm path follow) (namesL path)).2.ino, (allF ns (walk0 who frm path follow) (namesL path)).2.slashed⟩) else ((allF ns (walk0 who frm path follow) (namesL path)).1, ⟨0, ⟨#[]⟩, 0, false⟩))
 else (checkB path, ⟨0, ⟨#[]⟩, 0, false⟩)
structure Fit (ns : List S48) : Prop where
 f7 : ∀ i, (getL ns i).f7.length ≤ 1000000
 so : ∀ i part, Sorted57 (getL ns i).f7 part
 tx : ∀ i, (getL ns i).f6.size ≤ 1000
def spotV (s : S28) : Value := .agg #[.int .i64 s.f0, .string s.f1, .int .i64 s.f2, .bool s.f3]
def RetW (w : World) (s : Int × S28) (e : Ending) (w' : World) : Prop := e = .returned (.tuple #[spotV s.2, .int .i64 s.1]) ∧ Below w.heap.size w w'
theorem Eg.low {w w1 : World} (h : Eg w) (hb : Below w.heap.size w w1) : Eg w1 := h.step hb
attribute [local go_sem] isRow_drew row_drew isRow_drewN row_drewN cell_isRow rowSz_isRow isHead_ptr blockOf_ptr row_alloc isRow_alloc rowSz_alloc setRow_alloc isRow_setRow isRow_setCell isRow_frozen setCell_setRow_same setCell_setRow_other cell_setRow_same' cell_setRow_other' frozen_setRow' row_setRow_same row_setRow_other rowSz_setRow_same rowSz_setRow_other setRow_setRow_same' setRow_comm' ne_l2 ne_r2 ne_l3 ne_r3 ne_l4 ne_r4 ne_l5 ne_r5 ne_l6 ne_r6 ne_l7 ne_r7 ne_l8 ne_r8 wk_len row_setCell_same
theorem ldx_28 {ρ : Operand → Value} {dst : Option Tmp} {tt : TypeId} {pos : String} {after : Array Edge} {gd : Option (Nat × Bool)} {x : Operand} {w : World} (h1 : isHead (ρ x) = true) (h2 : rowSz w (blockOf (ρ x)) 4 = true) : (execOp ρ { dst := dst, op := .load 28 x, type := tt, pos := pos, after := after, guard := gd }).run Tryd.prog w = .ok (.value (.agg (row w (blockOf (ρ x))))) w := ld_exec 28 4 Tryd.underlying28 (by kernel_rfl) h1 h2
attribute [local go_sem ↓] ldx_28
theorem ldx_24 {ρ : Operand → Value} {dst : Option Tmp} {tt : TypeId} {pos : String} {after : Array Edge} {gd : Option (Nat × Bool)} {x : Operand} {w : World} (h1 : isHead (ρ x) = true) (h2 : rowSz w (blockOf (ρ x)) 3 = true) : (execOp ρ { dst := dst, op := .load 24 x, type := tt, pos := pos, after := after, guard := gd }).run Tryd.prog w = .ok (.value (.agg (row w (blockOf (ρ x))))) w := ld_exec 24 3 Tryd.underlying24 (by kernel_rfl) h1 h2
attribute [local go_sem ↓] ldx_24
attribute [local go_sem ↓] Go.wp_at_zero Go.wp_at_succ
set_option maxRecDepth 100000 in
set_option maxHeartbeats 4000000 in
theorem walk_bad (A : Option Addr) (c : Nat) (ns : List S48) (m r who frm : Int) (path : ByteArray) (follow : Bool) (w : World) (hd : Dk w A ns) (hg : Eg w) (hc : ns.length ≤ c) (hl : ns.length ≤ 1000000) (hf : Fit ns) (hp : path.size ≤ 1000) (hk : ¬ checkB path = 0) :
  Calls Tryd.prog 12 #[.agg #[.slice A ns.length c, .int .i64 m, .int .i64 r], .int .i64 who, .int .i64 frm, .string path, .bool follow] w (RetW w (walkF ns who frm path follow)) := by
 have HC := Lib.hid hk
 clear hk
 have ht' : path.size ≤ 1000000000000 := by omega
 have HD := Lib.hid hd
 have HG := Lib.hid hg
 have HL := Lib.hid (And.intro hc (And.intro hl (And.intro hf hp)))
 clear hd hg hc hl hf hp
 go_enter Tryd.func12, Tryd.ntmps12
 go_wp2_with (first | (apply ld_row 28 4; (focus rfl); (focus go_simp); (focus (go_simp; rfl)); (focus (exact Tryd.underlying28)); (focus kernel_rfl)) | (apply st_row 28 4; (focus rfl); (focus rfl); (focus go_simp); (focus kernel_rfl); (focus rfl); (focus (first | (simp [Value.oneCell']; done) | (simp [Value.oneCell', Job.cells]; done)))) | (apply ld_row 24 3; (focus rfl); (focus go_simp); (focus (go_simp; rfl)); (focus (exact Tryd.underlying24)); (focus kernel_rfl)) | (apply st_row 24 3; (focus rfl); (focus rfl); (focus go_simp); (focus kernel_rfl); (focus rfl); (focus (first | (simp [Value.oneCell']; done) | (simp [Value.oneCell', Job.cells]; done)))) | fail)
 refine Calls.at_ fun W hW => ?_
 have B0 : Below w.heap.size w W := by rw [hW]; repeat' (first | with_reducible refine Below.alloc ?_ ?_ _ | with_reducible refine Below.setRow_ ?_ ?_ _ | with_reducible refine Below.setCell ?_ ?_ _ | with_reducible refine Below.drew ?_ | with_reducible refine Below.drewN_ ?_ _ | with_reducible exact Below.refl _ _ | assumption | (simp; done) | (simp; omega) | omega)
 have Yd : Box W (w.heap.size) #[.slice A ns.length c, .int .i64 m, .int .i64 r] := ⟨_, by rw [hW]; exact blk_old (blk_new _ (by first | rfl | simp)) _⟩
 have Yo : Box W (w.heap.size + 1) #[.int .i64 0, .string ⟨#[]⟩, .int .i64 0, .bool false] := ⟨_, by rw [hW]; exact blk_new _ (by first | rfl | simp)⟩
 clear hW
 refine (check_in path ht' W).mono ?_
 rintro e w1 h
 have h' := h
 obtain ⟨rfl, hb⟩ := h'
 have C := B0.trans (hb.mono B0.size)
 have BB := Lib.hid C
 replace HD := Lib.hid (HD.out.step C)
 replace HG := Lib.hid (HG.out.step C)
 have Hd := Lib.hid (Yd.step hb)
 have Ho := Lib.hid (Yo.step hb)
 obtain ⟨bo, hbo⟩ : ∃ b, b = w.heap.size + 1 := ⟨_, rfl⟩
 rw [← hbo] at Ho ⊢
 have GS := Lib.hid (show w.heap.size ≤ bo by rw [hbo]; omega)
 obtain ⟨bd, hbd⟩ : ∃ b, b = w.heap.size := ⟨_, rfl⟩
 rw [← hbd] at Hd ⊢
 clear Yd hbd Yo hbo
 obtain ⟨id, rd, ld, nd, md⟩ := boxAll Hd.out
 obtain ⟨io, ro, lo, no, mo⟩ := boxAll Ho.out
 clear h hb C B0 W
 have hcb : (checkB path != 0) = true := by simpa using HC.out
 go_wp2_with (first | (apply ld_row 28 4; (focus rfl); (focus go_simp); (focus (go_simp; rfl)); (focus (exact Tryd.underlying28)); (focus kernel_rfl)) | (apply st_row 28 4; (focus rfl); (focus rfl); (focus go_simp); (focus kernel_rfl); (focus rfl); (focus (first | (simp [Value.oneCell']; done) | (simp [Value.oneCell', Job.cells]; done)))) | (apply ld_row 24 3; (focus rfl); (focus go_simp); (focus (go_simp; rfl)); (focus (exact Tryd.underlying24)); (focus kernel_rfl)) | (apply st_row 24 3; (focus rfl); (focus rfl); (focus go_simp); (focus kernel_rfl); (focus rfl); (focus (first | (simp [Value.oneCell']; done) | (simp [Value.oneCell', Job.cells]; done)))) | fail)
 refine ret_row_tmp (n := 4) rfl rfl rfl (by go_simp) rfl Tryd.underlying28 (by kernel_rfl) rfl ?_
 unfold walkF; rw [if_neg HC.out]
 refine ⟨by unfold spotV; go_simp; try rfl, ?_⟩
 have hs := BB.out
 have hgs : w.heap.size ≤ bo := GS.out
 repeat' (first | with_reducible refine Below.alloc ?_ ?_ _ | with_reducible refine Below.setRow_ ?_ ?_ _ | with_reducible refine Below.setCell ?_ ?_ _ | with_reducible refine Below.drew ?_ | with_reducible refine Below.drewN_ ?_ _ | with_reducible exact Below.refl _ _ | assumption | (simp; done) | (simp; omega) | omega)
set_option maxRecDepth 100000 in
set_option maxHeartbeats 4000000 in
theorem walk_root (A : Option Addr) (c : Nat) (ns : List S48) (m r who frm : Int) (path : ByteArray) (follow : Bool) (w : World) (hd : Dk w A ns) (hg : Eg w) (hc : ns.length ≤ c) (hl : ns.length ≤ 1000000) (hf : Fit ns) (hp : path.size ≤ 1000) (hk : checkB path = 0) (hr : rootB path = true) :
  Calls Tryd.prog 12 #[.agg #[.slice A ns.length c, .int .i64 m, .int .i64 r], .int .i64 who, .int .i64 frm, .string path, .bool follow] w (RetW w (walkF ns who frm path follow)) := by
 have HC := Lib.hid hk
 clear hk
 have hr' : Lib.hasPrefix path.data.toList [47] = true := hr
 have HR := Lib.hid hr
 clear hr
 have ht' : path.size ≤ 1000000000000 := by omega
 have HD := Lib.hid hd
 have HG := Lib.hid hg
 have HD0 := Lib.hid hd
 have HG0 := Lib.hid hg
 have HL := Lib.hid (And.intro hc (And.intro hl (And.intro hf hp)))
 clear hd hg hc hl hf hp
 go_enter Tryd.func12, Tryd.ntmps12
 go_wp2_with (first | (apply ld_row 28 4; (focus rfl); (focus go_simp); (focus (go_simp; rfl)); (focus (exact Tryd.underlying28)); (focus kernel_rfl)) | (apply st_row 28 4; (focus rfl); (focus rfl); (focus go_simp); (focus kernel_rfl); (focus rfl); (focus (first | (simp [Value.oneCell']; done) | (simp [Value.oneCell', Job.cells]; done)))) | (apply ld_row 24 3; (focus rfl); (focus go_simp); (focus (go_simp; rfl)); (focus (exact Tryd.underlying24)); (focus kernel_rfl)) | (apply st_row 24 3; (focus rfl); (focus rfl); (focus go_simp); (focus kernel_rfl); (focus rfl); (focus (first | (simp [Value.oneCell']; done) | (simp [Value.oneCell', Job.cells]; done)))) | fail)
 refine Calls.at_ fun W hW => ?_
 have B0 : Below w.heap.size w W := by rw [hW]; repeat' (first | with_reducible refine Below.alloc ?_ ?_ _ | with_reducible refine Below.setRow_ ?_ ?_ _ | with_reducible refine Below.setCell ?_ ?_ _ | with_reducible refine Below.drew ?_ | with_reducible refine Below.drewN_ ?_ _ | with_reducible exact Below.refl _ _ | assumption | (simp; done) | (simp; omega) | omega)
 have Yd : Box W (w.heap.size) #[.slice A ns.length c, .int .i64 m, .int .i64 r] := ⟨_, by rw [hW]; exact blk_old (blk_new _ (by first | rfl | simp)) _⟩
 have Yo : Box W (w.heap.size + 1) #[.int .i64 0, .string ⟨#[]⟩, .int .i64 0, .bool false] := ⟨_, by rw [hW]; exact blk_new _ (by first | rfl | simp)⟩
 clear hW
 refine (check_in path ht' W).mono ?_
 rintro e w1 h
 have h' := h
 obtain ⟨rfl, hb⟩ := h'
 have C := B0.trans (hb.mono B0.size)
 have BB := Lib.hid C
 replace HD := Lib.hid (HD.out.step C)
 replace HG := Lib.hid (HG.out.step C)
 have Hd := Lib.hid (Yd.step hb)
 have Ho := Lib.hid (Yo.step hb)
 obtain ⟨bo, hbo⟩ : ∃ b, b = w.heap.size + 1 := ⟨_, rfl⟩
 rw [← hbo] at Ho ⊢
 have GS := Lib.hid (show w.heap.size ≤ bo by rw [hbo]; omega)
 obtain ⟨bd, hbd⟩ : ∃ b, b = w.heap.size := ⟨_, rfl⟩
 rw [← hbd] at Hd ⊢
 clear Yd hbd Yo hbo
 obtain ⟨id, rd, ld, nd, md⟩ := boxAll Hd.out
 obtain ⟨io, ro, lo, no, mo⟩ := boxAll Ho.out
 clear h hb C B0 W
 rw [HC.out]
 go_wp2_with (first | (apply ld_row 28 4; (focus rfl); (focus go_simp); (focus (go_simp; rfl)); (focus (exact Tryd.underlying28)); (focus kernel_rfl)) | (apply st_row 28 4; (focus rfl); (focus rfl); (focus go_simp); (focus kernel_rfl); (focus rfl); (focus (first | (simp [Value.oneCell']; done) | (simp [Value.oneCell', Job.cells]; done)))) | (apply ld_row 24 3; (focus rfl); (focus go_simp); (focus (go_simp; rfl)); (focus (exact Tryd.underlying24)); (focus kernel_rfl)) | (apply st_row 24 3; (focus rfl); (focus rfl); (focus go_simp); (focus kernel_rfl); (focus rfl); (focus (first | (simp [Value.oneCell']; done) | (simp [Value.oneCell', Job.cells]; done)))) | fail)
 refine Calls.at_ fun W hW => ?_
 have B0 : Below w1.heap.size w1 W := by rw [hW]; repeat' (first | with_reducible refine Below.alloc ?_ ?_ _ | with_reducible refine Below.setRow_ ?_ ?_ _ | with_reducible refine Below.setCell ?_ ?_ _ | with_reducible refine Below.drew ?_ | with_reducible refine Below.drewN_ ?_ _ | with_reducible exact Below.refl _ _ | assumption | (simp; done) | (simp; omega) | omega)
 have YW : Wb W w1.heap.size ⟨who, frm, .slice none 0 0, follow, false, 0, 0, ⟨#[]⟩, 0, false, false⟩ A c ns.length m r := by rw [hW]; exact blk_new _ rfl
 obtain ⟨bk, hbk⟩ : ∃ b, b = w1.heap.size := ⟨_, rfl⟩
 rw [← hbk] at YW ⊢
 have GK := Lib.hid (show w1.heap.size ≤ bk by omega)
 have GB := Lib.hid (show bo < w1.heap.size from lo)
 clear hW hbk
 refine (split_in path ht' W).mono ?_
 rintro e w2 ⟨v, rfl, ho, hb⟩
 have hP : Ps w2 bk v (namesL path) := Ps.of_own (names_own ho) YW.lt
 obtain ⟨s, rfl, hPs⟩ := hP
 have C := B0.trans (hb.mono B0.size)
 replace BB := Lib.hid (BB.out.trans (C.mono BB.out.size))
 replace HD := Lib.hid (HD.out.step C)
 replace HG := Lib.hid (HG.out.step C)
 replace Ho := Lib.hid (Ho.out.step C)
 have HW := Lib.hid (YW.step hb)
 have HP := Lib.hid hPs
 have HZ := Lib.hid C.size
 clear hb C B0 ho YW hPs Hd W
 try clear id rd ld nd md io ro lo mo
 have ik := HW.out.box.isRow; have rk := HW.out.box.row; have hw := wk_eq
 have hps : Lib.hasSuffix path.data.toList [47] = slashB path := rfl
 rw [hps]
 clear hps
 go_wp2_with (first | (apply ld_row 28 4; (focus rfl); (focus go_simp); (focus (go_simp; rfl)); (focus (exact Tryd.underlying28)); (focus kernel_rfl)) | (apply st_row 28 4; (focus rfl); (focus rfl); (focus go_simp); (focus kernel_rfl); (focus rfl); (focus (first | (simp [Value.oneCell']; done) | (simp [Value.oneCell', Job.cells]; done)))) | (apply ld_row 24 3; (focus rfl); (focus go_simp); (focus (go_simp; rfl)); (focus (exact Tryd.underlying24)); (focus kernel_rfl)) | (apply st_row 24 3; (focus rfl); (focus rfl); (focus go_simp); (focus kernel_rfl); (focus rfl); (focus (first | (simp [Value.oneCell']; done) | (simp [Value.oneCell', Job.cells]; done)))) | fail)
 refine Calls.at_ fun W hW => ?_
 have h3 : Wb W bk ⟨who, frm, .slice s.a (namesL path).length s.c, follow, slashB path, 0, 0, ⟨#[]⟩, 0, false, false⟩ A c ns.length m r := by rw [hW]; exact Wb.set (Wb.set (k' := ⟨who, frm, .slice s.a (namesL path).length s.c, follow, false, 0, 0, ⟨#[]⟩, 0, false, false⟩) HW.out 5 _ rfl) 7 _ rfl
 have g3 : Gro (fun x => x = bk) w2 W := by rw [hW]; exact Gro.setCell (B := fun x => x = bk) (Gro.setCell (B := fun x => x = bk) (Gro.refl _ _) (p := ⟨bk, 5, none⟩) (.inl rfl) _) (p := ⟨bk, 7, none⟩) (.inl rfl) _
 clear hW ik rk
 refine (Tryd.strings_HasPrefix path ⟨#[47]⟩ W).mono ?_
 rintro e w3 ⟨rfl, rfl⟩
 have hpp : Lib.hasPrefix path.data.toList (⟨#[47]⟩ : ByteArray).data.toList = true := hr'
 rw [hpp]
 clear hpp
 have H3 := Lib.hid (And.intro h3 g3)
 have ik := h3.box.isRow; have rk := h3.box.row
 clear h3 g3
 go_wp2_with (first | (apply ld_row 28 4; (focus rfl); (focus go_simp); (focus (go_simp; rfl)); (focus (exact Tryd.underlying28)); (focus kernel_rfl)) | (apply st_row 28 4; (focus rfl); (focus rfl); (focus go_simp); (focus kernel_rfl); (focus rfl); (focus (first | (simp [Value.oneCell']; done) | (simp [Value.oneCell', Job.cells]; done)))) | (apply ld_row 24 3; (focus rfl); (focus go_simp); (focus (go_simp; rfl)); (focus (exact Tryd.underlying24)); (focus kernel_rfl)) | (apply st_row 24 3; (focus rfl); (focus rfl); (focus go_simp); (focus kernel_rfl); (focus rfl); (focus (first | (simp [Value.oneCell']; done) | (simp [Value.oneCell', Job.cells]; done)))) | fail)
 refine Calls.at_ fun W hW => ?_
 have h4 : Wb (w3.setCell ⟨bk, 4, none⟩ (.int .i64 0)) bk ⟨who, 0, .slice s.a (namesL path).length s.c, follow, slashB path, 0, 0, ⟨#[]⟩, 0, false, false⟩ A c ns.length m r := Wb.set H3.out.1 4 _ rfl
 have g4 : Gro (fun x => x = bk) w2 (w3.setCell ⟨bk, 4, none⟩ (.int .i64 0)) := Gro.setCell (B := fun x => x = bk) H3.out.2 (p := ⟨bk, 4, none⟩) (.inl rfl) _
 have hsz : (w3.setCell ⟨bk, 4, none⟩ (.int .i64 0)).heap.size = w3.heap.size := by simp [World.setCell]
 have B0 : Below (w3.setCell ⟨bk, 4, none⟩ (.int .i64 0)).heap.size (w3.setCell ⟨bk, 4, none⟩ (.int .i64 0)) W := by rw [hW]; exact (Below.refl _ _).alloc (Nat.le_refl _) _
 have yh : Box W w3.heap.size #[.pointer none] := ⟨_, by rw [hW]; exact blk_new _ (by first | rfl | exact hsz.symm)⟩
 obtain ⟨bh, hbh⟩ : ∃ b, b = w3.heap.size := ⟨_, rfl⟩
 rw [← hbh] at yh ⊢
 have g5 := Gro.trans g4 (Gro.of_below (B := fun x => x = bk) B0)
 have h5 := h4.step B0
 have hkh : bh ≠ bk := by have := H3.out.1.lt; omega
 have hsk : bo ≠ bk := by have := GK.out; have := GB.out; omega
 have hws : w.heap.size ≤ bk := by have := GK.out; have := GS.out; have := GB.out; omega
 have hwh : w.heap.size ≤ bh := by have := H3.out.1.lt; omega
 have hsh : bo ≠ bh := by have := GK.out; have := GB.out; have := H3.out.1.lt; omega
 have B5 : Below w.heap.size w W := Gro.low g5 BB.out BB.out.size hws
 have H5 := Lib.hid (And.intro h5 (And.intro g5 (And.intro yh (And.intro B5 (And.intro (Box.gro Ho.out g5 hsk) (And.intro hkh (And.intro hsk (And.intro hws (And.intro hwh hsh)))))))))
 have HP5 := Lib.hid ((HP.out.move fun x hx => g5.block x hx.1 hx.2).weak (S' := But W bk) fun x hx => ⟨Nat.lt_of_lt_of_le hx.1 g5.size, hx.2⟩)
 clear hW hsz B0 yh hbh g4 h4 g5 h5 hkh hsk hws hwh hsh B5 ik rk
 have hfr : far ⟨who, 0, .slice s.a (namesL path).length s.c, follow, slashB path, 0, 0, ⟨#[]⟩, 0, false, false⟩ (namesL path) ≤ 10000 := by have := names_len path; have := HL.out.2.2.2; simp [far]; omega
 refine (all_calls ⟨who, 0, .slice s.a (namesL path).length s.c, follow, slashB path, 0, 0, ⟨#[]⟩, 0, false, false⟩ A c ns m r bk w W s (namesL path) H5.out.2.2.2.1 H5.out.2.2.2.2.2.2.2.1 H5.out.1 HD0.out HL.out.1 HL.out.2.1 rfl HP5.out HL.out.2.2.1.f7 HL.out.2.2.1.so HL.out.2.2.1.tx ⟨Int.le_refl _, (by decide : (0 : Int) ≤ 8)⟩ hfr rfl).mono ?_
 clear hfr
 have hkk : ⟨who, 0, .slice s.a (namesL path).length s.c, follow, slashB path, 0, 0, ⟨#[]⟩, 0, false, false⟩ = { walk0 who frm path follow with parts := .slice s.a (namesL path).length s.c } := by unfold walk0; rw [if_pos HR.out]
 rw [hkk, allF_parts]
 clear hkk
 generalize hQ : allF ns (walk0 who frm path follow) (namesL path) = Q
 have HQ := Lib.hid hQ
 clear hQ
 rintro e w5 ⟨g6, ev, rfl, hE, hK⟩
 have H6 := Lib.hid (And.intro (Gro.low g6 H5.out.2.2.2.1 H5.out.2.2.2.1.size H5.out.2.2.2.2.2.2.2.1) (And.intro (Box.gro H5.out.2.2.2.2.1 g6 H5.out.2.2.2.2.2.2.1) (And.intro (Box.gro H5.out.2.2.1 g6 H5.out.2.2.2.2.2.1) (And.intro hE hK))))
 clear g6 hE hK
 go_wp2_with (first | (apply ld_row 28 4; (focus rfl); (focus go_simp); (focus (go_simp; rfl)); (focus (exact Tryd.underlying28)); (focus kernel_rfl)) | (apply st_row 28 4; (focus rfl); (focus rfl); (focus go_simp); (focus kernel_rfl); (focus rfl); (focus (first | (simp [Value.oneCell']; done) | (simp [Value.oneCell', Job.cells]; done)))) | (apply ld_row 24 3; (focus rfl); (focus go_simp); (focus (go_simp; rfl)); (focus (exact Tryd.underlying24)); (focus kernel_rfl)) | (apply st_row 24 3; (focus rfl); (focus rfl); (focus go_simp); (focus kernel_rfl); (focus rfl); (focus (first | (simp [Value.oneCell']; done) | (simp [Value.oneCell', Job.cells]; done)))) | fail)
 refine (as_calls ev Q.1 bh w5 (Eg.low HG0.out H6.out.1) H6.out.2.2.1 H6.out.2.2.2.1).mono ?_
 rintro e w6 ⟨g7, rfl, hA⟩
 have H7 := Lib.hid (And.intro (Gro.low g7 H6.out.1 H6.out.1.size H5.out.2.2.2.2.2.2.2.2.1) (And.intro (Box.gro H6.out.2.1 g7 H5.out.2.2.2.2.2.2.2.2.2) (And.intro hA g7)))
 clear g7 hA
 have io := H7.out.2.1.isRow; have ro := H7.out.2.1.row
 by_cases h0 : Q.1 = 0
 ·have hd0 : (!decide (Q.1 = 0)) = false := by simp [h0]
  have HQ0 := Lib.hid h0
  rw [hd0]
  clear hd0 h0
  obtain ⟨v, hv⟩ := H6.out.2.2.2.2 HQ0.out
  have h7 : Wb w6 bk _ A c ns.length m r := (H7.out.2.2.2.block bk hv.lt (Ne.symm H5.out.2.2.2.2.2.1)).trans hv
  have ik := h7.box.isRow; have rk := h7.box.row
  clear hv
  have c9 : w6.cell? ⟨bk, 9, none⟩ = some (.int .i64 Q.2.dir) := block_cell h7 9
  have c10 : w6.cell? ⟨bk, 10, none⟩ = some (.string Q.2.name) := block_cell h7 10
  have c11 : w6.cell? ⟨bk, 11, none⟩ = some (.int .i64 Q.2.ino) := block_cell h7 11
  have c12 : w6.cell? ⟨bk, 12, none⟩ = some (.bool Q.2.slashed) := block_cell h7 12
  go_wp2_with (first | (apply ld_row 28 4; (focus rfl); (focus go_simp); (focus (go_simp; rfl)); (focus (exact Tryd.underlying28)); (focus kernel_rfl)) | (apply st_row 28 4; (focus rfl); (focus rfl); (focus go_simp); (focus kernel_rfl); (focus rfl); (focus (first | (simp [Value.oneCell']; done) | (simp [Value.oneCell', Job.cells]; done)))) | (apply ld_row 24 3; (focus rfl); (focus go_simp); (focus (go_simp; rfl)); (focus (exact Tryd.underlying24)); (focus kernel_rfl)) | (apply st_row 24 3; (focus rfl); (focus rfl); (focus go_simp); (focus kernel_rfl); (focus rfl); (focus (first | (simp [Value.oneCell']; done) | (simp [Value.oneCell', Job.cells]; done)))) | fail)
  refine ret_row_tmp (n := 4) rfl rfl rfl (by go_simp) rfl Tryd.underlying28 (by kernel_rfl) rfl ?_
  unfold walkF; rw [if_pos HC.out, HQ.out, if_pos HQ0.out]
  refine ⟨by unfold spotV; go_simp; try rfl, ?_⟩
  have hs := H7.out.1
  have hgs := GS.out
  repeat' (first | with_reducible refine Below.alloc ?_ ?_ _ | with_reducible refine Below.setRow_ ?_ ?_ _ | with_reducible refine Below.setCell ?_ ?_ _ | with_reducible refine Below.drew ?_ | with_reducible refine Below.drewN_ ?_ _ | with_reducible exact Below.refl _ _ | assumption | (simp; done) | (simp; omega) | omega)
 ·have hd0 : (!decide (Q.1 = 0)) = true := by simp [h0]
  have HQ0 := Lib.hid h0
  rw [hd0]
  clear hd0 h0
  obtain ⟨p, hh, hp⟩ := H7.out.2.2.1 HQ0.out
  have HY := Lib.hid (And.intro hh hp)
  have ih := hh.isRow; have rh := hh.row; have ip := hp.isRow; have rp := hp.row
  clear hh hp
  go_wp2_with (first | (apply ld_row 28 4; (focus rfl); (focus go_simp); (focus (go_simp; rfl)); (focus (exact Tryd.underlying28)); (focus kernel_rfl)) | (apply st_row 28 4; (focus rfl); (focus rfl); (focus go_simp); (focus kernel_rfl); (focus rfl); (focus (first | (simp [Value.oneCell']; done) | (simp [Value.oneCell', Job.cells]; done)))) | (apply ld_row 24 3; (focus rfl); (focus go_simp); (focus (go_simp; rfl)); (focus (exact Tryd.underlying24)); (focus kernel_rfl)) | (apply st_row 24 3; (focus rfl); (focus rfl); (focus go_simp); (focus kernel_rfl); (focus rfl); (focus (first | (simp [Value.oneCell']; done) | (simp [Value.oneCell', Job.cells]; done)))) | fail)
  have r4 : rowSz w6 bo 4 = true := by rw [rowSz_isRow io, ro]; rfl
  have hpb : p ≠ bo := HY.out.2.ne H7.out.2.1 (by intro h; have := congrArg Array.size h; simp at this)
  have hbp : bo ≠ p := Ne.symm hpb
  have hsh := H5.out.2.2.2.2.2.2.2.2.2
  have hhs := Ne.symm hsh
  have S0 := And.intro (And.intro ih (And.intro ip r4)) (And.intro rh rp)
  refine reg0 7 (fun w' => (isRow w' bh = true ∧ isRow w' p = true ∧ rowSz w' bo 4 = true) ∧ row w' bh = #[.pointer (some ⟨p, 0, none⟩)] ∧ row w' p = #[.int .i64 Q.1]) (by kernel_rfl) (by kernel_rfl) (by kernel_rfl) ?_ (fun l hg hHeld => ?_)
  ·(try dsimp only); (first | exact S0 | (go_simp; done))
  (apply tkT 0 1 hg; (focus rfl); (focus rfl); (focus kernel_rfl); (focus (intro w0 hSw; (try dsimp only at hSw); go_simp; try (with_reducible rfl))); (focus assumption))
  try simp only [zP, zA, zZ, zS]
  (apply tkT 1 3 hg; (focus rfl); (focus rfl); (focus kernel_rfl); (focus (intro w0 hSw; (try dsimp only at hSw); go_simp; try (with_reducible rfl))); (focus assumption))
  try simp only [zP, zA, zZ, zS]
  (apply tkT 2 7 hg; (focus rfl); (focus rfl); (focus kernel_rfl); (focus (intro w0 hSw; (try dsimp only at hSw); go_simp; try (with_reducible rfl))); (focus assumption))
  try simp only [zP, zA, zZ, zS]
  (apply tkT 3 15 hg; (focus rfl); (focus rfl); (focus kernel_rfl); (focus (intro w0 hSw; (try dsimp only at hSw); go_simp; try (with_reducible rfl))); (focus assumption))
  try simp only [zP, zA, zZ, zS]
  (apply tkT 4 31 hg; (focus rfl); (focus rfl); (focus kernel_rfl); (focus (intro w0 hSw; (try dsimp only at hSw); go_simp; try (with_reducible rfl))); (focus assumption))
  try simp only [zP, zA, zZ, zS]
  (apply act1 5 63 hg; (focus rfl); (focus rfl); (focus kernel_rfl))
  intro K hK
  apply wp_st_row 28 4; (focus rfl); (focus rfl); (focus go_simp); (focus kernel_rfl); (focus rfl); (focus (simp [Value.oneCell']; done))
  refine hK.out _ _ ?_ (fun hHeld => ?_)
  ·(try dsimp only); (first | exact S0 | (go_simp; done))
  clear hK K
  try simp only [zP, zA, zZ, zS]
  (apply tkT 6 127 hg; (focus rfl); (focus rfl); (focus kernel_rfl); (focus (intro w0 hSw; (try dsimp only at hSw); go_simp; try (with_reducible rfl))); (focus assumption))
  try simp only [zP, zA, zZ, zS]
  refine actE hg (by kernel_rfl) ?_
  clear S0
  go_wp2_with (first | (apply ld_row 28 4; (focus rfl); (focus go_simp); (focus (go_simp; rfl)); (focus (exact Tryd.underlying28)); (focus kernel_rfl)) | (apply st_row 28 4; (focus rfl); (focus rfl); (focus go_simp); (focus kernel_rfl); (focus rfl); (focus (first | (simp [Value.oneCell']; done) | (simp [Value.oneCell', Job.cells]; done)))) | (apply ld_row 24 3; (focus rfl); (focus go_simp); (focus (go_simp; rfl)); (focus (exact Tryd.underlying24)); (focus kernel_rfl)) | (apply st_row 24 3; (focus rfl); (focus rfl); (focus go_simp); (focus kernel_rfl); (focus rfl); (focus (first | (simp [Value.oneCell']; done) | (simp [Value.oneCell', Job.cells]; done)))) | fail)
  refine ret_row_tmp (n := 4) rfl rfl rfl (by go_simp) rfl Tryd.underlying28 (by kernel_rfl) rfl ?_
  unfold walkF; rw [if_pos HC.out, HQ.out, if_neg HQ0.out]
  refine ⟨by unfold spotV; go_simp; try rfl, ?_⟩
  have hs := H7.out.1
  have hgs := GS.out
  repeat' (first | with_reducible refine Below.alloc ?_ ?_ _ | with_reducible refine Below.setRow_ ?_ ?_ _ | with_reducible refine Below.setCell ?_ ?_ _ | with_reducible refine Below.drew ?_ | with_reducible refine Below.drewN_ ?_ _ | with_reducible exact Below.refl _ _ | assumption | (simp; done) | (simp; omega) | omega)
set_option maxRecDepth 100000 in
set_option maxHeartbeats 4000000 in
theorem walk_here (A : Option Addr) (c : Nat) (ns : List S48) (m r who frm : Int) (path : ByteArray) (follow : Bool) (w : World) (hd : Dk w A ns) (hg : Eg w) (hc : ns.length ≤ c) (hl : ns.length ≤ 1000000) (hf : Fit ns) (hp : path.size ≤ 1000) (hk : checkB path = 0) (hr : rootB path = false) :
  Calls Tryd.prog 12 #[.agg #[.slice A ns.length c, .int .i64 m, .int .i64 r], .int .i64 who, .int .i64 frm, .string path, .bool follow] w (RetW w (walkF ns who frm path follow)) := by
 have HC := Lib.hid hk
 clear hk
 have hr' : Lib.hasPrefix path.data.toList [47] = false := hr
 have HR := Lib.hid hr
 clear hr
 have ht' : path.size ≤ 1000000000000 := by omega
 have HD := Lib.hid hd
 have HG := Lib.hid hg
 have HD0 := Lib.hid hd
 have HG0 := Lib.hid hg
 have HL := Lib.hid (And.intro hc (And.intro hl (And.intro hf hp)))
 clear hd hg hc hl hf hp
 go_enter Tryd.func12, Tryd.ntmps12
 go_wp2_with (first | (apply ld_row 28 4; (focus rfl); (focus go_simp); (focus (go_simp; rfl)); (focus (exact Tryd.underlying28)); (focus kernel_rfl)) | (apply st_row 28 4; (focus rfl); (focus rfl); (focus go_simp); (focus kernel_rfl); (focus rfl); (focus (first | (simp [Value.oneCell']; done) | (simp [Value.oneCell', Job.cells]; done)))) | (apply ld_row 24 3; (focus rfl); (focus go_simp); (focus (go_simp; rfl)); (focus (exact Tryd.underlying24)); (focus kernel_rfl)) | (apply st_row 24 3; (focus rfl); (focus rfl); (focus go_simp); (focus kernel_rfl); (focus rfl); (focus (first | (simp [Value.oneCell']; done) | (simp [Value.oneCell', Job.cells]; done)))) | fail)
 refine Calls.at_ fun W hW => ?_
 have B0 : Below w.heap.size w W := by rw [hW]; repeat' (first | with_reducible refine Below.alloc ?_ ?_ _ | with_reducible refine Below.setRow_ ?_ ?_ _ | with_reducible refine Below.setCell ?_ ?_ _ | with_reducible refine Below.drew ?_ | with_reducible refine Below.drewN_ ?_ _ | with_reducible exact Below.refl _ _ | assumption | (simp; done) | (simp; omega) | omega)
 have Yd : Box W (w.heap.size) #[.slice A ns.length c, .int .i64 m, .int .i64 r] := ⟨_, by rw [hW]; exact blk_old (blk_new _ (by first | rfl | simp)) _⟩
 have Yo : Box W (w.heap.size + 1) #[.int .i64 0, .string ⟨#[]⟩, .int .i64 0, .bool false] := ⟨_, by rw [hW]; exact blk_new _ (by first | rfl | simp)⟩
 clear hW
 refine (check_in path ht' W).mono ?_
 rintro e w1 h
 have h' := h
 obtain ⟨rfl, hb⟩ := h'
 have C := B0.trans (hb.mono B0.size)
 have BB := Lib.hid C
 replace HD := Lib.hid (HD.out.step C)
 replace HG := Lib.hid (HG.out.step C)
 have Hd := Lib.hid (Yd.step hb)
 have Ho := Lib.hid (Yo.step hb)
 obtain ⟨bo, hbo⟩ : ∃ b, b = w.heap.size + 1 := ⟨_, rfl⟩
 rw [← hbo] at Ho ⊢
 have GS := Lib.hid (show w.heap.size ≤ bo by rw [hbo]; omega)
 obtain ⟨bd, hbd⟩ : ∃ b, b = w.heap.size := ⟨_, rfl⟩
 rw [← hbd] at Hd ⊢
 clear Yd hbd Yo hbo
 obtain ⟨id, rd, ld, nd, md⟩ := boxAll Hd.out
 obtain ⟨io, ro, lo, no, mo⟩ := boxAll Ho.out
 clear h hb C B0 W
 rw [HC.out]
 go_wp2_with (first | (apply ld_row 28 4; (focus rfl); (focus go_simp); (focus (go_simp; rfl)); (focus (exact Tryd.underlying28)); (focus kernel_rfl)) | (apply st_row 28 4; (focus rfl); (focus rfl); (focus go_simp); (focus kernel_rfl); (focus rfl); (focus (first | (simp [Value.oneCell']; done) | (simp [Value.oneCell', Job.cells]; done)))) | (apply ld_row 24 3; (focus rfl); (focus go_simp); (focus (go_simp; rfl)); (focus (exact Tryd.underlying24)); (focus kernel_rfl)) | (apply st_row 24 3; (focus rfl); (focus rfl); (focus go_simp); (focus kernel_rfl); (focus rfl); (focus (first | (simp [Value.oneCell']; done) | (simp [Value.oneCell', Job.cells]; done)))) | fail)
 refine Calls.at_ fun W hW => ?_
 have B0 : Below w1.heap.size w1 W := by rw [hW]; repeat' (first | with_reducible refine Below.alloc ?_ ?_ _ | with_reducible refine Below.setRow_ ?_ ?_ _ | with_reducible refine Below.setCell ?_ ?_ _ | with_reducible refine Below.drew ?_ | with_reducible refine Below.drewN_ ?_ _ | with_reducible exact Below.refl _ _ | assumption | (simp; done) | (simp; omega) | omega)
 have YW : Wb W w1.heap.size ⟨who, frm, .slice none 0 0, follow, false, 0, 0, ⟨#[]⟩, 0, false, false⟩ A c ns.length m r := by rw [hW]; exact blk_new _ rfl
 obtain ⟨bk, hbk⟩ : ∃ b, b = w1.heap.size := ⟨_, rfl⟩
 rw [← hbk] at YW ⊢
 have GK := Lib.hid (show w1.heap.size ≤ bk by omega)
 have GB := Lib.hid (show bo < w1.heap.size from lo)
 clear hW hbk
 refine (split_in path ht' W).mono ?_
 rintro e w2 ⟨v, rfl, ho, hb⟩
 have hP : Ps w2 bk v (namesL path) := Ps.of_own (names_own ho) YW.lt
 obtain ⟨s, rfl, hPs⟩ := hP
 have C := B0.trans (hb.mono B0.size)
 replace BB := Lib.hid (BB.out.trans (C.mono BB.out.size))
 replace HD := Lib.hid (HD.out.step C)
 replace HG := Lib.hid (HG.out.step C)
 replace Ho := Lib.hid (Ho.out.step C)
 have HW := Lib.hid (YW.step hb)
 have HP := Lib.hid hPs
 have HZ := Lib.hid C.size
 clear hb C B0 ho YW hPs Hd W
 try clear id rd ld nd md io ro lo mo
 have ik := HW.out.box.isRow; have rk := HW.out.box.row; have hw := wk_eq
 have hps : Lib.hasSuffix path.data.toList [47] = slashB path := rfl
 rw [hps]
 clear hps
 go_wp2_with (first | (apply ld_row 28 4; (focus rfl); (focus go_simp); (focus (go_simp; rfl)); (focus (exact Tryd.underlying28)); (focus kernel_rfl)) | (apply st_row 28 4; (focus rfl); (focus rfl); (focus go_simp); (focus kernel_rfl); (focus rfl); (focus (first | (simp [Value.oneCell']; done) | (simp [Value.oneCell', Job.cells]; done)))) | (apply ld_row 24 3; (focus rfl); (focus go_simp); (focus (go_simp; rfl)); (focus (exact Tryd.underlying24)); (focus kernel_rfl)) | (apply st_row 24 3; (focus rfl); (focus rfl); (focus go_simp); (focus kernel_rfl); (focus rfl); (focus (first | (simp [Value.oneCell']; done) | (simp [Value.oneCell', Job.cells]; done)))) | fail)
 refine Calls.at_ fun W hW => ?_
 have h3 : Wb W bk ⟨who, frm, .slice s.a (namesL path).length s.c, follow, slashB path, 0, 0, ⟨#[]⟩, 0, false, false⟩ A c ns.length m r := by rw [hW]; exact Wb.set (Wb.set (k' := ⟨who, frm, .slice s.a (namesL path).length s.c, follow, false, 0, 0, ⟨#[]⟩, 0, false, false⟩) HW.out 5 _ rfl) 7 _ rfl
 have g3 : Gro (fun x => x = bk) w2 W := by rw [hW]; exact Gro.setCell (B := fun x => x = bk) (Gro.setCell (B := fun x => x = bk) (Gro.refl _ _) (p := ⟨bk, 5, none⟩) (.inl rfl) _) (p := ⟨bk, 7, none⟩) (.inl rfl) _
 clear hW ik rk
 refine (Tryd.strings_HasPrefix path ⟨#[47]⟩ W).mono ?_
 rintro e w3 ⟨rfl, rfl⟩
 have hpp : Lib.hasPrefix path.data.toList (⟨#[47]⟩ : ByteArray).data.toList = false := hr'
 rw [hpp]
 clear hpp
 have H3 := Lib.hid (And.intro h3 g3)
 have ik := h3.box.isRow; have rk := h3.box.row
 clear h3 g3
 go_wp2_with (first | (apply ld_row 28 4; (focus rfl); (focus go_simp); (focus (go_simp; rfl)); (focus (exact Tryd.underlying28)); (focus kernel_rfl)) | (apply st_row 28 4; (focus rfl); (focus rfl); (focus go_simp); (focus kernel_rfl); (focus rfl); (focus (first | (simp [Value.oneCell']; done) | (simp [Value.oneCell', Job.cells]; done)))) | (apply ld_row 24 3; (focus rfl); (focus go_simp); (focus (go_simp; rfl)); (focus (exact Tryd.underlying24)); (focus kernel_rfl)) | (apply st_row 24 3; (focus rfl); (focus rfl); (focus go_simp); (focus kernel_rfl); (focus rfl); (focus (first | (simp [Value.oneCell']; done) | (simp [Value.oneCell', Job.cells]; done)))) | fail)
 refine Calls.at_ fun W hW => ?_
 have h4 : Wb w3 bk ⟨who, frm, .slice s.a (namesL path).length s.c, follow, slashB path, 0, 0, ⟨#[]⟩, 0, false, false⟩ A c ns.length m r := H3.out.1
 have g4 : Gro (fun x => x = bk) w2 w3 := H3.out.2
 have hsz : w3.heap.size = w3.heap.size := by simp [World.setCell]
 have B0 : Below w3.heap.size w3 W := by rw [hW]; exact (Below.refl _ _).alloc (Nat.le_refl _) _
 have yh : Box W w3.heap.size #[.pointer none] := ⟨_, by rw [hW]; exact blk_new _ (by first | rfl | exact hsz.symm)⟩
 obtain ⟨bh, hbh⟩ : ∃ b, b = w3.heap.size := ⟨_, rfl⟩
 rw [← hbh] at yh ⊢
 have g5 := Gro.trans g4 (Gro.of_below (B := fun x => x = bk) B0)
 have h5 := h4.step B0
 have hkh : bh ≠ bk := by have := H3.out.1.lt; omega
 have hsk : bo ≠ bk := by have := GK.out; have := GB.out; omega
 have hws : w.heap.size ≤ bk := by have := GK.out; have := GS.out; have := GB.out; omega
 have hwh : w.heap.size ≤ bh := by have := H3.out.1.lt; omega
 have hsh : bo ≠ bh := by have := GK.out; have := GB.out; have := H3.out.1.lt; omega
 have B5 : Below w.heap.size w W := Gro.low g5 BB.out BB.out.size hws
 have H5 := Lib.hid (And.intro h5 (And.intro g5 (And.intro yh (And.intro B5 (And.intro (Box.gro Ho.out g5 hsk) (And.intro hkh (And.intro hsk (And.intro hws (And.intro hwh hsh)))))))))
 have HP5 := Lib.hid ((HP.out.move fun x hx => g5.block x hx.1 hx.2).weak (S' := But W bk) fun x hx => ⟨Nat.lt_of_lt_of_le hx.1 g5.size, hx.2⟩)
 clear hW hsz B0 yh hbh g4 h4 g5 h5 hkh hsk hws hwh hsh B5 ik rk
 have hfr : far ⟨who, frm, .slice s.a (namesL path).length s.c, follow, slashB path, 0, 0, ⟨#[]⟩, 0, false, false⟩ (namesL path) ≤ 10000 := by have := names_len path; have := HL.out.2.2.2; simp [far]; omega
 refine (all_calls ⟨who, frm, .slice s.a (namesL path).length s.c, follow, slashB path, 0, 0, ⟨#[]⟩, 0, false, false⟩ A c ns m r bk w W s (namesL path) H5.out.2.2.2.1 H5.out.2.2.2.2.2.2.2.1 H5.out.1 HD0.out HL.out.1 HL.out.2.1 rfl HP5.out HL.out.2.2.1.f7 HL.out.2.2.1.so HL.out.2.2.1.tx ⟨Int.le_refl _, (by decide : (0 : Int) ≤ 8)⟩ hfr rfl).mono ?_
 clear hfr
 have hkk : ⟨who, frm, .slice s.a (namesL path).length s.c, follow, slashB path, 0, 0, ⟨#[]⟩, 0, false, false⟩ = { walk0 who frm path follow with parts := .slice s.a (namesL path).length s.c } := by unfold walk0; rw [if_neg (by rw [HR.out]; decide)]
 rw [hkk, allF_parts]
 clear hkk
 generalize hQ : allF ns (walk0 who frm path follow) (namesL path) = Q
 have HQ := Lib.hid hQ
 clear hQ
 rintro e w5 ⟨g6, ev, rfl, hE, hK⟩
 have H6 := Lib.hid (And.intro (Gro.low g6 H5.out.2.2.2.1 H5.out.2.2.2.1.size H5.out.2.2.2.2.2.2.2.1) (And.intro (Box.gro H5.out.2.2.2.2.1 g6 H5.out.2.2.2.2.2.2.1) (And.intro (Box.gro H5.out.2.2.1 g6 H5.out.2.2.2.2.2.1) (And.intro hE hK))))
 clear g6 hE hK
 go_wp2_with (first | (apply ld_row 28 4; (focus rfl); (focus go_simp); (focus (go_simp; rfl)); (focus (exact Tryd.underlying28)); (focus kernel_rfl)) | (apply st_row 28 4; (focus rfl); (focus rfl); (focus go_simp); (focus kernel_rfl); (focus rfl); (focus (first | (simp [Value.oneCell']; done) | (simp [Value.oneCell', Job.cells]; done)))) | (apply ld_row 24 3; (focus rfl); (focus go_simp); (focus (go_simp; rfl)); (focus (exact Tryd.underlying24)); (focus kernel_rfl)) | (apply st_row 24 3; (focus rfl); (focus rfl); (focus go_simp); (focus kernel_rfl); (focus rfl); (focus (first | (simp [Value.oneCell']; done) | (simp [Value.oneCell', Job.cells]; done)))) | fail)
 refine (as_calls ev Q.1 bh w5 (Eg.low HG0.out H6.out.1) H6.out.2.2.1 H6.out.2.2.2.1).mono ?_
 rintro e w6 ⟨g7, rfl, hA⟩
 have H7 := Lib.hid (And.intro (Gro.low g7 H6.out.1 H6.out.1.size H5.out.2.2.2.2.2.2.2.2.1) (And.intro (Box.gro H6.out.2.1 g7 H5.out.2.2.2.2.2.2.2.2.2) (And.intro hA g7)))
 clear g7 hA
 have io := H7.out.2.1.isRow; have ro := H7.out.2.1.row
 by_cases h0 : Q.1 = 0
 ·have hd0 : (!decide (Q.1 = 0)) = false := by simp [h0]
  have HQ0 := Lib.hid h0
  rw [hd0]
  clear hd0 h0
  obtain ⟨v, hv⟩ := H6.out.2.2.2.2 HQ0.out
  have h7 : Wb w6 bk _ A c ns.length m r := (H7.out.2.2.2.block bk hv.lt (Ne.symm H5.out.2.2.2.2.2.1)).trans hv
  have ik := h7.box.isRow; have rk := h7.box.row
  clear hv
  have c9 : w6.cell? ⟨bk, 9, none⟩ = some (.int .i64 Q.2.dir) := block_cell h7 9
  have c10 : w6.cell? ⟨bk, 10, none⟩ = some (.string Q.2.name) := block_cell h7 10
  have c11 : w6.cell? ⟨bk, 11, none⟩ = some (.int .i64 Q.2.ino) := block_cell h7 11
  have c12 : w6.cell? ⟨bk, 12, none⟩ = some (.bool Q.2.slashed) := block_cell h7 12
  go_wp2_with (first | (apply ld_row 28 4; (focus rfl); (focus go_simp); (focus (go_simp; rfl)); (focus (exact Tryd.underlying28)); (focus kernel_rfl)) | (apply st_row 28 4; (focus rfl); (focus rfl); (focus go_simp); (focus kernel_rfl); (focus rfl); (focus (first | (simp [Value.oneCell']; done) | (simp [Value.oneCell', Job.cells]; done)))) | (apply ld_row 24 3; (focus rfl); (focus go_simp); (focus (go_simp; rfl)); (focus (exact Tryd.underlying24)); (focus kernel_rfl)) | (apply st_row 24 3; (focus rfl); (focus rfl); (focus go_simp); (focus kernel_rfl); (focus rfl); (focus (first | (simp [Value.oneCell']; done) | (simp [Value.oneCell', Job.cells]; done)))) | fail)
  refine ret_row_tmp (n := 4) rfl rfl rfl (by go_simp) rfl Tryd.underlying28 (by kernel_rfl) rfl ?_
  unfold walkF; rw [if_pos HC.out, HQ.out, if_pos HQ0.out]
  refine ⟨by unfold spotV; go_simp; try rfl, ?_⟩
  have hs := H7.out.1
  have hgs := GS.out
  repeat' (first | with_reducible refine Below.alloc ?_ ?_ _ | with_reducible refine Below.setRow_ ?_ ?_ _ | with_reducible refine Below.setCell ?_ ?_ _ | with_reducible refine Below.drew ?_ | with_reducible refine Below.drewN_ ?_ _ | with_reducible exact Below.refl _ _ | assumption | (simp; done) | (simp; omega) | omega)
 ·have hd0 : (!decide (Q.1 = 0)) = true := by simp [h0]
  have HQ0 := Lib.hid h0
  rw [hd0]
  clear hd0 h0
  obtain ⟨p, hh, hp⟩ := H7.out.2.2.1 HQ0.out
  have HY := Lib.hid (And.intro hh hp)
  have ih := hh.isRow; have rh := hh.row; have ip := hp.isRow; have rp := hp.row
  clear hh hp
  go_wp2_with (first | (apply ld_row 28 4; (focus rfl); (focus go_simp); (focus (go_simp; rfl)); (focus (exact Tryd.underlying28)); (focus kernel_rfl)) | (apply st_row 28 4; (focus rfl); (focus rfl); (focus go_simp); (focus kernel_rfl); (focus rfl); (focus (first | (simp [Value.oneCell']; done) | (simp [Value.oneCell', Job.cells]; done)))) | (apply ld_row 24 3; (focus rfl); (focus go_simp); (focus (go_simp; rfl)); (focus (exact Tryd.underlying24)); (focus kernel_rfl)) | (apply st_row 24 3; (focus rfl); (focus rfl); (focus go_simp); (focus kernel_rfl); (focus rfl); (focus (first | (simp [Value.oneCell']; done) | (simp [Value.oneCell', Job.cells]; done)))) | fail)
  have r4 : rowSz w6 bo 4 = true := by rw [rowSz_isRow io, ro]; rfl
  have hpb : p ≠ bo := HY.out.2.ne H7.out.2.1 (by intro h; have := congrArg Array.size h; simp at this)
  have hbp : bo ≠ p := Ne.symm hpb
  have hsh := H5.out.2.2.2.2.2.2.2.2.2
  have hhs := Ne.symm hsh
  have S0 := And.intro (And.intro ih (And.intro ip r4)) (And.intro rh rp)
  refine reg0 7 (fun w' => (isRow w' bh = true ∧ isRow w' p = true ∧ rowSz w' bo 4 = true) ∧ row w' bh = #[.pointer (some ⟨p, 0, none⟩)] ∧ row w' p = #[.int .i64 Q.1]) (by kernel_rfl) (by kernel_rfl) (by kernel_rfl) ?_ (fun l hg hHeld => ?_)
  ·(try dsimp only); (first | exact S0 | (go_simp; done))
  (apply tkT 0 1 hg; (focus rfl); (focus rfl); (focus kernel_rfl); (focus (intro w0 hSw; (try dsimp only at hSw); go_simp; try (with_reducible rfl))); (focus assumption))
  try simp only [zP, zA, zZ, zS]
  (apply tkT 1 3 hg; (focus rfl); (focus rfl); (focus kernel_rfl); (focus (intro w0 hSw; (try dsimp only at hSw); go_simp; try (with_reducible rfl))); (focus assumption))
  try simp only [zP, zA, zZ, zS]
  (apply tkT 2 7 hg; (focus rfl); (focus rfl); (focus kernel_rfl); (focus (intro w0 hSw; (try dsimp only at hSw); go_simp; try (with_reducible rfl))); (focus assumption))
  try simp only [zP, zA, zZ, zS]
  (apply tkT 3 15 hg; (focus rfl); (focus rfl); (focus kernel_rfl); (focus (intro w0 hSw; (try dsimp only at hSw); go_simp; try (with_reducible rfl))); (focus assumption))
  try simp only [zP, zA, zZ, zS]
  (apply tkT 4 31 hg; (focus rfl); (focus rfl); (focus kernel_rfl); (focus (intro w0 hSw; (try dsimp only at hSw); go_simp; try (with_reducible rfl))); (focus assumption))
  try simp only [zP, zA, zZ, zS]
  (apply act1 5 63 hg; (focus rfl); (focus rfl); (focus kernel_rfl))
  intro K hK
  apply wp_st_row 28 4; (focus rfl); (focus rfl); (focus go_simp); (focus kernel_rfl); (focus rfl); (focus (simp [Value.oneCell']; done))
  refine hK.out _ _ ?_ (fun hHeld => ?_)
  ·(try dsimp only); (first | exact S0 | (go_simp; done))
  clear hK K
  try simp only [zP, zA, zZ, zS]
  (apply tkT 6 127 hg; (focus rfl); (focus rfl); (focus kernel_rfl); (focus (intro w0 hSw; (try dsimp only at hSw); go_simp; try (with_reducible rfl))); (focus assumption))
  try simp only [zP, zA, zZ, zS]
  refine actE hg (by kernel_rfl) ?_
  clear S0
  go_wp2_with (first | (apply ld_row 28 4; (focus rfl); (focus go_simp); (focus (go_simp; rfl)); (focus (exact Tryd.underlying28)); (focus kernel_rfl)) | (apply st_row 28 4; (focus rfl); (focus rfl); (focus go_simp); (focus kernel_rfl); (focus rfl); (focus (first | (simp [Value.oneCell']; done) | (simp [Value.oneCell', Job.cells]; done)))) | (apply ld_row 24 3; (focus rfl); (focus go_simp); (focus (go_simp; rfl)); (focus (exact Tryd.underlying24)); (focus kernel_rfl)) | (apply st_row 24 3; (focus rfl); (focus rfl); (focus go_simp); (focus kernel_rfl); (focus rfl); (focus (first | (simp [Value.oneCell']; done) | (simp [Value.oneCell', Job.cells]; done)))) | fail)
  refine ret_row_tmp (n := 4) rfl rfl rfl (by go_simp) rfl Tryd.underlying28 (by kernel_rfl) rfl ?_
  unfold walkF; rw [if_pos HC.out, HQ.out, if_neg HQ0.out]
  refine ⟨by unfold spotV; go_simp; try rfl, ?_⟩
  have hs := H7.out.1
  have hgs := GS.out
  repeat' (first | with_reducible refine Below.alloc ?_ ?_ _ | with_reducible refine Below.setRow_ ?_ ?_ _ | with_reducible refine Below.setCell ?_ ?_ _ | with_reducible refine Below.drew ?_ | with_reducible refine Below.drewN_ ?_ _ | with_reducible exact Below.refl _ _ | assumption | (simp; done) | (simp; omega) | omega)
theorem walk_calls (A : Option Addr) (c : Nat) (ns : List S48) (m r who frm : Int) (path : ByteArray) (follow : Bool) (w : World) (hd : Dk w A ns) (hg : Eg w) (hc : ns.length ≤ c) (hl : ns.length ≤ 1000000) (hf : Fit ns) (hp : path.size ≤ 1000) :
  Calls Tryd.prog 12 #[.agg #[.slice A ns.length c, .int .i64 m, .int .i64 r], .int .i64 who, .int .i64 frm, .string path, .bool follow] w (RetW w (walkF ns who frm path follow)) := by
 by_cases hk : checkB path = 0
 ·cases hr : rootB path with
  | true => exact walk_root A c ns m r who frm path follow w hd hg hc hl hf hp hk hr
  | false => exact walk_here A c ns m r who frm path follow w hd hg hc hl hf hp hk hr
 ·exact walk_bad A c ns m r who frm path follow w hd hg hc hl hf hp hk
end Go.Proofs.YthagmakojbfmaaaDoor.Ext
