/- The job layer: what the statements show first: it goes well. -/
import Derived.Test.YtjkjlegloicmcaaDoorJobE
import Derived.Test.YtjkjlegloicmcaaDoorJobG
import Derived.Test.YtjkjlegloicmcaaDoorJobH
set_option linter.unusedVariables false
set_option linter.unusedSimpArgs false
namespace Go.Proofs.YtjkjlegloicmcaaDoor
open Go.RowKit
/-- A job reads so, now. -/
def Job.now (j : Job) (w : World) (a : JA) : Prop := j.ok w (Now w) a
theorem Job.now.step {j : Job} {w w1 : World} {a : JA} (h : j.now w a) (hb : Below w.heap.size w w1) : j.now w1 a := (Job.ok.sub h (Sub.now w) hb).weak fun _ hk => Nat.lt_of_lt_of_le hk hb.size
theorem ext_now {w w1 : World} (hb : Below w.heap.size w w1) (k : Nat) (hk : Ext w w1 (Now w) k) : Now w1 k := hk.elim (fun h => Nat.lt_of_lt_of_le h hb.size) (·.2)
theorem Job.now_of {j : Job} {w w1 : World} {a : JA} (hb : Below w.heap.size w w1) (h : j.ok w1 (Ext w w1 (Now w)) a) : j.now w1 a := h.weak (ext_now hb)
theorem RetJ.now {w w1 : World} {j : Job} {e : Ending} (h : RetJ w (Now w) j e w1) : ∃ a, e = .returned (.agg (j.cells a).toArray) ∧ j.now w1 a ∧ Below w.heap.size w w1 := by
  obtain ⟨a, he, hj, hb⟩ := h
  exact ⟨a, he, Job.now_of hb hj, hb⟩
theorem RetJB.now {w w1 : World} {j : Job} {b : Bool} {e : Ending} (h : RetJB w (Now w) j b e w1) : ∃ a, e = .returned (.tuple #[.agg (j.cells a).toArray, .bool b]) ∧ j.now w1 a ∧ Below w.heap.size w w1 := by
  obtain ⟨a, he, hj, hb⟩ := h
  exact ⟨a, he, Job.now_of hb hj, hb⟩
theorem RetF.now {w w1 : World} {f : Frame} {b : Bool} {e : Ending} (h : RetF w (Now w) f b e w1) : ∃ s : Sl, e = .returned (.tuple #[.agg #[.int .i64 f.fd, .string f.name, .slice s.a f.names.length s.c], .bool b]) ∧ rStr.Is w1 (Now w1) s f.names ∧ Below w.heap.size w w1 := by
  obtain ⟨a, he, hj, hb⟩ := h
  exact ⟨a, he, hj.weak (ext_now hb), hb⟩
theorem RetD.now {w w1 : World} {j : Job} {l : List Int} {e : Ending} (h : RetD w (Now w) l j e w1) : ∃ s a, e = .returned (.tuple #[.slice s.a l.length s.c, .agg (j.cells a).toArray]) ∧ rInt.Is w1 (Now w1) s l ∧ j.now w1 a ∧ Below w.heap.size w w1 := by
  obtain ⟨s, a, he, hi, hj, hb⟩ := h
  exact ⟨s, a, he, hi.weak (ext_now hb), Job.now_of hb hj, hb⟩
def strs (l : List ByteArray) : Array Value := (l.map Value.string).toArray
theorem is_strs {w : World} {g : Nat} {l : List ByteArray} {t c : Nat} {S : Nat → Prop} (h : w.heap[g]? = some (.cells (strs l) t (0, 0))) (hS : S g) (hc : l.length ≤ c) (hm : l.length ≤ maxLen) : rStr.Is w S ⟨some ⟨g, 0, none⟩, c⟩ l := by
  refine ⟨hc, hm, fun k hk => ⟨g, 0, [.string l[k]], rfl, hS, rfl, fun i u hu => ?_⟩⟩
  rcases i with _ | i
  · simp at hu; subst hu
    rw [cell_of_row w g _ _ t (0, 0) h]
    simp [strs, rStr, Rp.scalar, hk]
  · simp at hu
/-- A variable in memory. -/
def Box (w : World) (b : Nat) (cs : Array Value) : Prop := ∃ t, w.heap[b]? = some (.cells cs t (0, 0))
theorem Box.step {w w1 : World} {b : Nat} {cs : Array Value} (h : Box w b cs) (hb : Below w.heap.size w w1) : Box w1 b cs := by
  obtain ⟨t, h⟩ := h
  exact ⟨t, blk_call hb h⟩
theorem Box.isRow {w : World} {b : Nat} {cs : Array Value} (h : Box w b cs) : isRow w b = true := by obtain ⟨t, h⟩ := h; exact isRow_of h
theorem Box.row {w : World} {b : Nat} {cs : Array Value} (h : Box w b cs) : row w b = cs := by obtain ⟨t, h⟩ := h; exact row_of h
theorem Box.lt {w : World} {b : Nat} {cs : Array Value} (h : Box w b cs) : b < w.heap.size := by obtain ⟨t, h⟩ := h; exact (Array.getElem?_eq_some_iff.1 h).1
theorem Rp.Is.step {α : Type} {d : Rp α} {w w1 : World} {s : Sl} {xs : List α} (h : d.Is w (Now w) s xs) (hb : Below w.heap.size w w1) : d.Is w1 (Now w1) s xs := (h.sub (Sub.now w) hb).weak fun _ hk => Nat.lt_of_lt_of_le hk hb.size
theorem cells_len (j : Job) (a : JA) : (j.cells a).length = 19 := rfl
def J0 : Job := ⟨2, 2, 0, -1, 0, 0, 0, 0, 0, ⟨#[]⟩, ⟨#[]⟩, ⟨#[]⟩, [], [], [7], false, 0, ⟨#[]⟩, 0⟩
def F0 : Job := { J0 with done := true, exit := 1, e := 2, out := failText ⟨#[97]⟩ ⟨#[50]⟩ }
def f1 : Frame := ⟨1, ⟨#[]⟩, []⟩
def f2 : Frame := ⟨2, ⟨#[]⟩, [⟨#[120]⟩, ⟨#[121]⟩]⟩
def f3 : Frame := ⟨2, ⟨#[]⟩, [⟨#[121]⟩]⟩
def P1 : Job := { J0 with stack := [f1] }
def P2 : Job := { J0 with stack := [f1, f2] }
def P3 : Job := { J0 with stack := [f1, f3] }
def K0 : Job := { J0 with at_ := 2 }
def E0 : Job := { J0 with done := true, exit := 0, out := ⟨#[111, 107]⟩ }
theorem cells_eq (j : Job) (a : JA) : j.cells a = [.int .i64 j.kind, .int .i64 j.p, .int .i64 j.phase, .int .i64 j.fd, .int .i64 j.n, .int .i64 j.mode, .int .i64 j.tries, .int .i64 j.at_, .int .i64 j.flags,
   .string j.path, .string j.path2, .string j.text, .slice a.n.a j.names.length a.n.c, .slice a.s.a j.stack.length a.s.c, .slice a.d.a j.draws.length a.d.c,
   .bool j.done, .int .i64 j.exit, .string j.out, .int .i64 j.e] := rfl
theorem field13 (c0 c1 c2 c3 c4 c5 c6 c7 c8 c9 c10 c11 c12 c13 c14 c15 c16 c17 c18 : Value) (w : World) : (Instr.field 27 (.agg #[c0, c1, c2, c3, c4, c5, c6, c7, c8, c9, c10, c11, c12, c13, c14, c15, c16, c17, c18]) 13).run Tryd.prog w = .ok c13 w := by kernel_rfl
theorem field15 (c0 c1 c2 c3 c4 c5 c6 c7 c8 c9 c10 c11 c12 c13 c14 c15 c16 c17 c18 : Value) (w : World) : (Instr.field 27 (.agg #[c0, c1, c2, c3, c4, c5, c6, c7, c8, c9, c10, c11, c12, c13, c14, c15, c16, c17, c18]) 15).run Tryd.prog w = .ok c15 w := by kernel_rfl
theorem keep52 {W w1 : World} (hb : Below W.heap.size W w1) {b1 b2 b3 b4 b5 p i j : Nat} {c1 c2 c3 c4 c5 : Array Value} {x y : Value}
    (h : (isRow W b1 = true ∧ isRow W b2 = true ∧ isRow W b3 = true ∧ isRow W b4 = true ∧ isRow W b5 = true) ∧ (row W b1 = c1 ∧ row W b2 = c2 ∧ row W b3 = c3 ∧ row W b4 = c4 ∧ row W b5 = c5) ∧ W.cell? ⟨p, i, none⟩ = some x ∧ W.cell? ⟨p, j, none⟩ = some y) :
    (isRow w1 b1 = true ∧ isRow w1 b2 = true ∧ isRow w1 b3 = true ∧ isRow w1 b4 = true ∧ isRow w1 b5 = true) ∧ (row w1 b1 = c1 ∧ row w1 b2 = c2 ∧ row w1 b3 = c3 ∧ row w1 b4 = c4 ∧ row w1 b5 = c5) ∧ w1.cell? ⟨p, i, none⟩ = some x ∧ w1.cell? ⟨p, j, none⟩ = some y := by
  obtain ⟨⟨i1, i2, i3, i4, i5⟩, ⟨r1, r2, r3, r4, r5⟩, hx, hy⟩ := h
  have hp := block_lt_of_cell hx
  exact ⟨⟨isRow_call hb i1, isRow_call hb i2, isRow_call hb i3, isRow_call hb i4, isRow_call hb i5⟩, ⟨row_call hb i1 r1, row_call hb i2 r2, row_call hb i3 r3, row_call hb i4 r4, row_call hb i5 r5⟩, ((bcell hb).1 p i hp).trans hx, ((bcell hb).1 p j hp).trans hy⟩
attribute [local go_sem] isRow_drew row_drew isRow_drewN row_drewN cell_isRow rowSz_isRow isHead_ptr blockOf_ptr row_alloc isRow_alloc rowSz_alloc setRow_alloc isRow_setRow isRow_setCell isRow_frozen setCell_setRow_same setCell_setRow_other cell_setRow_same' cell_setRow_other' frozen_setRow' row_setRow_same row_setRow_other rowSz_setRow_same rowSz_setRow_other setRow_setRow_same' setRow_comm' ne_l2 ne_r2 ne_l3 ne_r3 ne_l4 ne_r4 ne_l5 ne_r5 ne_l6 ne_r6 ne_l7 ne_r7 ne_l8 ne_r8 cells_len
attribute [local go_sem ↓] ldx_27
attribute [local go_sem ↓] Go.wp_at_zero Go.wp_at_succ
set_option maxRecDepth 100000 in
set_option maxHeartbeats 2000000 in
theorem shown_calls (w : World) : Calls Tryd.prog 8 #[] w (RetB w true) := by
  go_enter Tryd.func8, Tryd.ntmps8
  go_wp2_with (first | (apply ld_row 27 19; (focus rfl); (focus go_simp); (focus (go_simp; rfl)); (focus (exact Tryd.underlying27)); (focus kernel_rfl)) | (apply st_row 27 19; (focus rfl); (focus rfl); (focus go_simp); (focus kernel_rfl); (focus rfl); (focus (first | (simp [Value.oneCell']; done) | (simp [Value.oneCell', Job.cells]; done)))) | (apply ld_row 46 3; (focus rfl); (focus go_simp); (focus (go_simp; rfl)); (focus (exact Tryd.underlying46)); (focus kernel_rfl)) | (apply st_row 46 3; (focus rfl); (focus rfl); (focus go_simp); (focus kernel_rfl); (focus rfl); (focus (first | (simp [Value.oneCell']; done) | (simp [Value.oneCell', Job.cells]; done)))) | fail)
  refine Calls.at_ fun W hW => ?_
  have B0 : Below w.heap.size w W := by rw [hW]; repeat' (first | with_reducible refine Below.alloc ?_ ?_ _ | with_reducible refine Below.setRow_ ?_ ?_ _ | with_reducible refine Below.setCell ?_ ?_ _ | with_reducible refine Below.drew ?_ | with_reducible refine Below.drewN_ ?_ _ | with_reducible exact Below.refl _ _ | assumption | (simp; done) | (simp; omega) | omega)
  have hd : rInt.Is W (Now W) ⟨some ⟨w.heap.size, 0, none⟩, 1⟩ [7] := is_ints (t := 3) (by rw [hW]; exact blk_new _ rfl) (by rw [hW]; simp [Now]) (by simp) (by simp [maxLen])
  clear hW
  refine (new_calls 2 2 ⟨some ⟨w.heap.size, 0, none⟩, 1⟩ [7] W (Now W) (Sub.now W) hd).mono ?_
  rintro e w1 h
  obtain ⟨a1, rfl, hj, hb⟩ := (show RetJ W (Now W) J0 e w1 from h).now
  have C := B0.trans (hb.mono B0.size)
  have BB := Lib.hid C
  have HJ := Lib.hid hj
  clear h hb C B0 W hj hd
  go_wp2_with (first | (apply ld_row 27 19; (focus rfl); (focus go_simp); (focus (go_simp; rfl)); (focus (exact Tryd.underlying27)); (focus kernel_rfl)) | (apply st_row 27 19; (focus rfl); (focus rfl); (focus go_simp); (focus kernel_rfl); (focus rfl); (focus (first | (simp [Value.oneCell']; done) | (simp [Value.oneCell', Job.cells]; done)))) | (apply ld_row 46 3; (focus rfl); (focus go_simp); (focus (go_simp; rfl)); (focus (exact Tryd.underlying46)); (focus kernel_rfl)) | (apply st_row 46 3; (focus rfl); (focus rfl); (focus go_simp); (focus kernel_rfl); (focus rfl); (focus (first | (simp [Value.oneCell']; done) | (simp [Value.oneCell', Job.cells]; done)))) | fail)
  refine Calls.at_ fun W hW => ?_
  have B0 : Below w1.heap.size w1 W := by rw [hW]; repeat' (first | with_reducible refine Below.alloc ?_ ?_ _ | with_reducible refine Below.setRow_ ?_ ?_ _ | with_reducible refine Below.setCell ?_ ?_ _ | with_reducible refine Below.drew ?_ | with_reducible refine Below.drewN_ ?_ _ | with_reducible exact Below.refl _ _ | assumption | (simp; done) | (simp; omega) | omega)
  have Y1 : Box W (w1.heap.size) (J0.cells a1).toArray := ⟨_, by rw [hW]; exact blk_new _ (by first | rfl | simp)⟩
  clear hW
  refine (fail_2 J0 a1 ⟨#[97]⟩ W (Now W) (Sub.now W) (HJ.out.step B0) (by decide)).mono ?_
  rintro e w2 h
  obtain ⟨a2, rfl, hj, hb⟩ := (show RetJ W (Now W) F0 e w2 from h).now
  have C := B0.trans (hb.mono B0.size)
  replace BB := Lib.hid (BB.out.trans (C.mono BB.out.size))
  replace HJ := Lib.hid (HJ.out.step C)
  have H1 := Lib.hid (Y1.step hb)
  obtain ⟨b1, hb1⟩ : ∃ b, b = w1.heap.size := ⟨_, rfl⟩
  rw [← hb1] at H1 ⊢
  clear Y1 hb1
  have i1 := H1.out.isRow; have r1 := H1.out.row; have l1 := H1.out.lt; have n1 : ¬ b1 = w2.heap.size := Nat.ne_of_lt l1; have m1 : ¬ w2.heap.size = b1 := fun h => n1 h.symm
  clear h hb C B0 W hj
  go_wp2_with (first | (apply ld_row 27 19; (focus rfl); (focus go_simp); (focus (go_simp; rfl)); (focus (exact Tryd.underlying27)); (focus kernel_rfl)) | (apply st_row 27 19; (focus rfl); (focus rfl); (focus go_simp); (focus kernel_rfl); (focus rfl); (focus (first | (simp [Value.oneCell']; done) | (simp [Value.oneCell', Job.cells]; done)))) | (apply ld_row 46 3; (focus rfl); (focus go_simp); (focus (go_simp; rfl)); (focus (exact Tryd.underlying46)); (focus kernel_rfl)) | (apply st_row 46 3; (focus rfl); (focus rfl); (focus go_simp); (focus kernel_rfl); (focus rfl); (focus (first | (simp [Value.oneCell']; done) | (simp [Value.oneCell', Job.cells]; done)))) | fail)
  refine Calls.at_ fun W hW => ?_
  have B0 : Below w2.heap.size w2 W := by rw [hW]; repeat' (first | with_reducible refine Below.alloc ?_ ?_ _ | with_reducible refine Below.setRow_ ?_ ?_ _ | with_reducible refine Below.setCell ?_ ?_ _ | with_reducible refine Below.drew ?_ | with_reducible refine Below.drewN_ ?_ _ | with_reducible exact Below.refl _ _ | assumption | (simp; done) | (simp; omega) | omega)
  have Y2 : Box W (w2.heap.size) (F0.cells a2).toArray := ⟨_, by rw [hW]; exact blk_new _ (by first | rfl | simp)⟩
  clear hW
  refine (push_calls J0 a1 f1 ⟨none, 0⟩ W (Now W) (Sub.now W) (HJ.out.step B0) (Rp.Is.nil _ _ _ _) (by decide)).mono ?_
  rintro e w3 h
  obtain ⟨a3, rfl, hj, hb⟩ := (show RetJ W (Now W) P1 e w3 from h).now
  have C := B0.trans (hb.mono B0.size)
  replace BB := Lib.hid (BB.out.trans (C.mono BB.out.size))
  replace HJ := Lib.hid (HJ.out.step C)
  clear i1 r1 l1 n1 m1
  replace H1 := Lib.hid (H1.out.step C)
  have H2 := Lib.hid (Y2.step hb)
  obtain ⟨b2, hb2⟩ : ∃ b, b = w2.heap.size := ⟨_, rfl⟩
  rw [← hb2] at H2 ⊢
  clear Y2 hb2
  have i1 := H1.out.isRow; have r1 := H1.out.row; have l1 := H1.out.lt; have n1 : ¬ b1 = w3.heap.size := Nat.ne_of_lt l1; have m1 : ¬ w3.heap.size = b1 := fun h => n1 h.symm
  have i2 := H2.out.isRow; have r2 := H2.out.row; have l2 := H2.out.lt; have n2 : ¬ b2 = w3.heap.size := Nat.ne_of_lt l2; have m2 : ¬ w3.heap.size = b2 := fun h => n2 h.symm
  have HP := Lib.hid hj
  clear h hb C B0 W hj
  go_wp2_with (first | (apply ld_row 27 19; (focus rfl); (focus go_simp); (focus (go_simp; rfl)); (focus (exact Tryd.underlying27)); (focus kernel_rfl)) | (apply st_row 27 19; (focus rfl); (focus rfl); (focus go_simp); (focus kernel_rfl); (focus rfl); (focus (first | (simp [Value.oneCell']; done) | (simp [Value.oneCell', Job.cells]; done)))) | (apply ld_row 46 3; (focus rfl); (focus go_simp); (focus (go_simp; rfl)); (focus (exact Tryd.underlying46)); (focus kernel_rfl)) | (apply st_row 46 3; (focus rfl); (focus rfl); (focus go_simp); (focus kernel_rfl); (focus rfl); (focus (first | (simp [Value.oneCell']; done) | (simp [Value.oneCell', Job.cells]; done)))) | fail)
  refine Calls.at_ fun W hW => ?_
  have B0 : Below w3.heap.size w3 W := by rw [hW]; repeat' (first | with_reducible refine Below.alloc ?_ ?_ _ | with_reducible refine Below.setRow_ ?_ ?_ _ | with_reducible refine Below.setCell ?_ ?_ _ | with_reducible refine Below.drew ?_ | with_reducible refine Below.drewN_ ?_ _ | with_reducible exact Below.refl _ _ | assumption | (simp; done) | (simp; omega) | omega)
  have hd : rStr.Is W (Now W) ⟨some ⟨w3.heap.size, 0, none⟩, 2⟩ f2.names := is_strs (t := 9) (by rw [hW]; exact blk_new _ rfl) (by rw [hW]; simp [Now]) (by decide) (by simp [maxLen, f2])
  clear hW
  refine (push_calls P1 a3 f2 ⟨some ⟨w3.heap.size, 0, none⟩, 2⟩ W (Now W) (Sub.now W) (HP.out.step B0) hd (by decide)).mono ?_
  rintro e w4 h
  obtain ⟨a4, rfl, hj, hb⟩ := (show RetJ W (Now W) P2 e w4 from h).now
  have C := B0.trans (hb.mono B0.size)
  replace BB := Lib.hid (BB.out.trans (C.mono BB.out.size))
  replace HJ := Lib.hid (HJ.out.step C)
  replace HP := Lib.hid (HP.out.step C)
  clear i1 r1 l1 n1 m1
  replace H1 := Lib.hid (H1.out.step C)
  clear i2 r2 l2 n2 m2
  replace H2 := Lib.hid (H2.out.step C)
  have i1 := H1.out.isRow; have r1 := H1.out.row; have l1 := H1.out.lt; have n1 : ¬ b1 = w4.heap.size := Nat.ne_of_lt l1; have m1 : ¬ w4.heap.size = b1 := fun h => n1 h.symm
  have i2 := H2.out.isRow; have r2 := H2.out.row; have l2 := H2.out.lt; have n2 : ¬ b2 = w4.heap.size := Nat.ne_of_lt l2; have m2 : ¬ w4.heap.size = b2 := fun h => n2 h.symm
  have HQ := Lib.hid hj
  clear h hb C B0 W hj hd
  clear HP
  go_wp2_with (first | (apply ld_row 27 19; (focus rfl); (focus go_simp); (focus (go_simp; rfl)); (focus (exact Tryd.underlying27)); (focus kernel_rfl)) | (apply st_row 27 19; (focus rfl); (focus rfl); (focus go_simp); (focus kernel_rfl); (focus rfl); (focus (first | (simp [Value.oneCell']; done) | (simp [Value.oneCell', Job.cells]; done)))) | (apply ld_row 46 3; (focus rfl); (focus go_simp); (focus (go_simp; rfl)); (focus (exact Tryd.underlying46)); (focus kernel_rfl)) | (apply st_row 46 3; (focus rfl); (focus rfl); (focus go_simp); (focus kernel_rfl); (focus rfl); (focus (first | (simp [Value.oneCell']; done) | (simp [Value.oneCell', Job.cells]; done)))) | fail)
  refine Calls.at_ fun W hW => ?_
  have B0 : Below w4.heap.size w4 W := by rw [hW]; repeat' (first | with_reducible refine Below.alloc ?_ ?_ _ | with_reducible refine Below.setRow_ ?_ ?_ _ | with_reducible refine Below.setCell ?_ ?_ _ | with_reducible refine Below.drew ?_ | with_reducible refine Below.drewN_ ?_ _ | with_reducible exact Below.refl _ _ | assumption | (simp; done) | (simp; omega) | omega)
  clear hW
  refine (trim_cut P2 a4 W (Now W) (Sub.now W) (HQ.out.step B0) (by decide) (by decide) f2 rfl (by decide) (by decide)).mono ?_
  rintro e w5 h
  obtain ⟨a5, rfl, hj, hb⟩ := (show RetJ W (Now W) P3 e w5 from h).now
  have C := B0.trans (hb.mono B0.size)
  replace BB := Lib.hid (BB.out.trans (C.mono BB.out.size))
  replace HJ := Lib.hid (HJ.out.step C)
  replace HQ := Lib.hid (HQ.out.step C)
  clear i1 r1 l1 n1 m1
  replace H1 := Lib.hid (H1.out.step C)
  clear i2 r2 l2 n2 m2
  replace H2 := Lib.hid (H2.out.step C)
  have i1 := H1.out.isRow; have r1 := H1.out.row; have l1 := H1.out.lt; have n1 : ¬ b1 = w5.heap.size := Nat.ne_of_lt l1; have m1 : ¬ w5.heap.size = b1 := fun h => n1 h.symm
  have i2 := H2.out.isRow; have r2 := H2.out.row; have l2 := H2.out.lt; have n2 : ¬ b2 = w5.heap.size := Nat.ne_of_lt l2; have m2 : ¬ w5.heap.size = b2 := fun h => n2 h.symm
  have HP := Lib.hid hj
  clear h hb C B0 W hj
  clear HQ
  go_wp2_with (first | (apply ld_row 27 19; (focus rfl); (focus go_simp); (focus (go_simp; rfl)); (focus (exact Tryd.underlying27)); (focus kernel_rfl)) | (apply st_row 27 19; (focus rfl); (focus rfl); (focus go_simp); (focus kernel_rfl); (focus rfl); (focus (first | (simp [Value.oneCell']; done) | (simp [Value.oneCell', Job.cells]; done)))) | (apply ld_row 46 3; (focus rfl); (focus go_simp); (focus (go_simp; rfl)); (focus (exact Tryd.underlying46)); (focus kernel_rfl)) | (apply st_row 46 3; (focus rfl); (focus rfl); (focus go_simp); (focus kernel_rfl); (focus rfl); (focus (first | (simp [Value.oneCell']; done) | (simp [Value.oneCell', Job.cells]; done)))) | fail)
  refine Calls.at_ fun W hW => ?_
  have B0 : Below w5.heap.size w5 W := by rw [hW]; repeat' (first | with_reducible refine Below.alloc ?_ ?_ _ | with_reducible refine Below.setRow_ ?_ ?_ _ | with_reducible refine Below.setCell ?_ ?_ _ | with_reducible refine Below.drew ?_ | with_reducible refine Below.drewN_ ?_ _ | with_reducible exact Below.refl _ _ | assumption | (simp; done) | (simp; omega) | omega)
  have Y3 : Box W (w5.heap.size) (P3.cells a5).toArray := ⟨_, by rw [hW]; exact blk_new _ (by first | rfl | simp)⟩
  clear hW
  refine (top_calls P3 a5 W (Now W) (Sub.now W) (HP.out.step B0) (by decide) (by decide)).mono ?_
  rintro e w6 h
  obtain ⟨s6, rfl, hj, hb⟩ := (show RetF W (Now W) f3 true e w6 from h).now
  have C := B0.trans (hb.mono B0.size)
  replace BB := Lib.hid (BB.out.trans (C.mono BB.out.size))
  replace HJ := Lib.hid (HJ.out.step C)
  replace HP := Lib.hid (HP.out.step C)
  clear i1 r1 l1 n1 m1
  replace H1 := Lib.hid (H1.out.step C)
  clear i2 r2 l2 n2 m2
  replace H2 := Lib.hid (H2.out.step C)
  have H3 := Lib.hid (Y3.step hb)
  obtain ⟨b3, hb3⟩ : ∃ b, b = w5.heap.size := ⟨_, rfl⟩
  rw [← hb3] at H3 ⊢
  clear Y3 hb3
  have i1 := H1.out.isRow; have r1 := H1.out.row; have l1 := H1.out.lt; have n1 : ¬ b1 = w6.heap.size := Nat.ne_of_lt l1; have m1 : ¬ w6.heap.size = b1 := fun h => n1 h.symm
  have i2 := H2.out.isRow; have r2 := H2.out.row; have l2 := H2.out.lt; have n2 : ¬ b2 = w6.heap.size := Nat.ne_of_lt l2; have m2 : ¬ w6.heap.size = b2 := fun h => n2 h.symm
  have i3 := H3.out.isRow; have r3 := H3.out.row; have l3 := H3.out.lt; have n3 : ¬ b3 = w6.heap.size := Nat.ne_of_lt l3; have m3 : ¬ w6.heap.size = b3 := fun h => n3 h.symm
  clear h hb C B0 W hj
  go_wp2_with (first | (apply ld_row 27 19; (focus rfl); (focus go_simp); (focus (go_simp; rfl)); (focus (exact Tryd.underlying27)); (focus kernel_rfl)) | (apply st_row 27 19; (focus rfl); (focus rfl); (focus go_simp); (focus kernel_rfl); (focus rfl); (focus (first | (simp [Value.oneCell']; done) | (simp [Value.oneCell', Job.cells]; done)))) | (apply ld_row 46 3; (focus rfl); (focus go_simp); (focus (go_simp; rfl)); (focus (exact Tryd.underlying46)); (focus kernel_rfl)) | (apply st_row 46 3; (focus rfl); (focus rfl); (focus go_simp); (focus kernel_rfl); (focus rfl); (focus (first | (simp [Value.oneCell']; done) | (simp [Value.oneCell', Job.cells]; done)))) | fail)
  refine Calls.at_ fun W hW => ?_
  have B0 : Below w6.heap.size w6 W := by rw [hW]; repeat' (first | with_reducible refine Below.alloc ?_ ?_ _ | with_reducible refine Below.setRow_ ?_ ?_ _ | with_reducible refine Below.setCell ?_ ?_ _ | with_reducible refine Below.drew ?_ | with_reducible refine Below.drewN_ ?_ _ | with_reducible exact Below.refl _ _ | assumption | (simp; done) | (simp; omega) | omega)
  have Y4 : Box W (w6.heap.size) #[.int .i64 f3.fd, .string f3.name, .slice s6.a f3.names.length s6.c] := ⟨_, by rw [hW]; exact blk_new _ (by first | rfl | simp)⟩
  clear hW
  refine (draw_calls J0 a1 2 W (Now W) (Sub.now W) (HJ.out.step B0) (by decide) (by decide) (by decide) (by decide)).mono ?_
  rintro e w7 h
  obtain ⟨s7, a7, rfl, hd, hj, hb⟩ := (show RetD W (Now W) [7, 0] K0 e w7 from h).now
  have C := B0.trans (hb.mono B0.size)
  replace BB := Lib.hid (BB.out.trans (C.mono BB.out.size))
  replace HJ := Lib.hid (HJ.out.step C)
  replace HP := Lib.hid (HP.out.step C)
  clear i1 r1 l1 n1 m1
  replace H1 := Lib.hid (H1.out.step C)
  clear i2 r2 l2 n2 m2
  replace H2 := Lib.hid (H2.out.step C)
  clear i3 r3 l3 n3 m3
  replace H3 := Lib.hid (H3.out.step C)
  have H4 := Lib.hid (Y4.step hb)
  obtain ⟨b4, hb4⟩ : ∃ b, b = w6.heap.size := ⟨_, rfl⟩
  rw [← hb4] at H4 ⊢
  clear Y4 hb4
  have i1 := H1.out.isRow; have r1 := H1.out.row; have l1 := H1.out.lt; have n1 : ¬ b1 = w7.heap.size := Nat.ne_of_lt l1; have m1 : ¬ w7.heap.size = b1 := fun h => n1 h.symm
  have i2 := H2.out.isRow; have r2 := H2.out.row; have l2 := H2.out.lt; have n2 : ¬ b2 = w7.heap.size := Nat.ne_of_lt l2; have m2 : ¬ w7.heap.size = b2 := fun h => n2 h.symm
  have i3 := H3.out.isRow; have r3 := H3.out.row; have l3 := H3.out.lt; have n3 : ¬ b3 = w7.heap.size := Nat.ne_of_lt l3; have m3 : ¬ w7.heap.size = b3 := fun h => n3 h.symm
  have i4 := H4.out.isRow; have r4 := H4.out.row; have l4 := H4.out.lt; have n4 : ¬ b4 = w7.heap.size := Nat.ne_of_lt l4; have m4 : ¬ w7.heap.size = b4 := fun h => n4 h.symm
  have HD := Lib.hid hd
  clear h hb C B0 W hd hj
  go_wp2_with (first | (apply ld_row 27 19; (focus rfl); (focus go_simp); (focus (go_simp; rfl)); (focus (exact Tryd.underlying27)); (focus kernel_rfl)) | (apply st_row 27 19; (focus rfl); (focus rfl); (focus go_simp); (focus kernel_rfl); (focus rfl); (focus (first | (simp [Value.oneCell']; done) | (simp [Value.oneCell', Job.cells]; done)))) | (apply ld_row 46 3; (focus rfl); (focus go_simp); (focus (go_simp; rfl)); (focus (exact Tryd.underlying46)); (focus kernel_rfl)) | (apply st_row 46 3; (focus rfl); (focus rfl); (focus go_simp); (focus kernel_rfl); (focus rfl); (focus (first | (simp [Value.oneCell']; done) | (simp [Value.oneCell', Job.cells]; done)))) | fail)
  obtain ⟨bd, od, hA, g1, c0⟩ := HD.out.2.int 0 (by decide)
  obtain ⟨bd', od', hA', g2, c1⟩ := HD.out.2.int 1 (by decide)
  rw [hA] at hA'
  cases hA'
  obtain ⟨da, dc⟩ := s7
  simp only at hA
  subst hA
  have hdc : 2 ≤ dc := HD.out.1
  have hlt := block_lt_of_cell c0
  refine Code.at_ fun W hW => ?_
  have B0 : Below w7.heap.size w7 W := by rw [hW]; repeat' (first | with_reducible refine Below.alloc ?_ ?_ _ | with_reducible refine Below.setRow_ ?_ ?_ _ | with_reducible refine Below.setCell ?_ ?_ _ | with_reducible refine Below.drew ?_ | with_reducible refine Below.drewN_ ?_ _ | with_reducible exact Below.refl _ _ | assumption | (simp; done) | (simp; omega) | omega)
  have Y7 : Box W w7.heap.size (K0.cells a7).toArray := ⟨_, by rw [hW, setRow_alloc, if_pos rfl]; exact blk_new _ rfl⟩
  have S0 : (isRow W b1 = true ∧ isRow W b2 = true ∧ isRow W b3 = true ∧ isRow W b4 = true ∧ isRow W w7.heap.size = true) ∧ (row W b1 = (J0.cells a1).toArray ∧ row W b2 = (F0.cells a2).toArray ∧ row W b3 = (P3.cells a5).toArray ∧ row W b4 = #[.int .i64 f3.fd, .string f3.name, .slice s6.a f3.names.length s6.c] ∧ row W w7.heap.size = (K0.cells a7).toArray) ∧ W.cell? ⟨bd, od, none⟩ = some (.int .i64 7) ∧ W.cell? ⟨bd, od + 1, none⟩ = some (.int .i64 0) :=
    ⟨⟨(H1.out.step B0).isRow, (H2.out.step B0).isRow, (H3.out.step B0).isRow, (H4.out.step B0).isRow, Y7.isRow⟩, ⟨(H1.out.step B0).row, (H2.out.step B0).row, (H3.out.step B0).row, (H4.out.step B0).row, Y7.row⟩, ((bcell B0).1 bd od hlt).trans c0, ((bcell B0).1 bd (od + 1) hlt).trans c1⟩
  replace BB := Lib.hid (BB.out.trans (B0.mono BB.out.size))
  replace HJ := Lib.hid (HJ.out.step B0)
  replace HP := Lib.hid (HP.out.step B0)
  clear i1 i2 i3 i4 r1 r2 r3 r4 l1 l2 l3 l4 n1 n2 n3 n4 m1 m2 m3 m4 H1 H2 H3 H4 HD c0 c1 g1 g2 hlt hW B0 Y7
  generalize w7.heap.size = b7 at *
  clear w7
  have hc := cells_eq
  have hf13 := field13
  have hf15 := field15
  have dF1 : F0.done = true := rfl
  have dF2 : F0.exit = 1 := rfl
  have dF3 : F0.out.toList = [97, 58, 32, 101, 114, 114, 111, 114, 32, 50] := by decide +kernel
  have dF4 : F0.e = 2 := rfl
  have dT1 : f3.fd = 2 := rfl
  have dT2 : f3.names.length = 1 := rfl
  have dJ : J0.fd = -1 := rfl
  have dK : K0.at_ = 2 := rfl
  have dP : P1.stack.length = 1 := rfl
  have dE : E0.done = true := rfl
  dsimp only [List.append]
  refine reg0 84 (fun w' => (isRow w' b1 = true ∧ isRow w' b2 = true ∧ isRow w' b3 = true ∧ isRow w' b4 = true ∧ isRow w' b7 = true) ∧ (row w' b1 = (J0.cells a1).toArray ∧ row w' b2 = (F0.cells a2).toArray ∧ row w' b3 = (P3.cells a5).toArray ∧ row w' b4 = #[.int .i64 f3.fd, .string f3.name, .slice s6.a f3.names.length s6.c] ∧ row w' b7 = (K0.cells a7).toArray) ∧ w'.cell? ⟨bd, od, none⟩ = some (.int .i64 7) ∧ w'.cell? ⟨bd, od + 1, none⟩ = some (.int .i64 0)) (by kernel_rfl) (by kernel_rfl) (by kernel_rfl) ?_ (fun l hg hHeld => ?_)
  · (try dsimp only); (first | exact S6 | exact S5 | exact S4 | exact S3 | exact S2 | exact S1 | exact S0)
  (apply tkT 0 1 hg; (focus rfl); (focus rfl); (focus kernel_rfl); (focus (intro w0 hSw; (try dsimp only at hSw); go_simp; try (with_reducible rfl))); (focus assumption))
  try simp only [Act.put, List.setIfInBounds_toArray, List.set_cons_zero, List.set_cons_succ]
  (apply tkT 1 3 hg; (focus rfl); (focus rfl); (focus kernel_rfl); (focus (intro w0 hSw; (try dsimp only at hSw); go_simp; try (with_reducible rfl))); (focus assumption))
  try simp only [Act.put, List.setIfInBounds_toArray, List.set_cons_zero, List.set_cons_succ]
  (apply tkT 2 7 hg; (focus rfl); (focus rfl); (focus kernel_rfl); (focus (intro w0 hSw; (try dsimp only at hSw); go_simp; try (with_reducible rfl))); (focus assumption))
  try simp only [Act.put, List.setIfInBounds_toArray, List.set_cons_zero, List.set_cons_succ]
  (first | (apply tkT 3 15 hg; (focus rfl); (focus rfl); (focus kernel_rfl); (focus (intro w0 hSw; (try dsimp only at hSw); go_simp; try (with_reducible rfl))); (focus assumption)) | (apply tkF 3 15 hg; (focus rfl); (focus rfl); (focus kernel_rfl); (focus assumption)))
  try simp only [Act.put, List.setIfInBounds_toArray, List.set_cons_zero, List.set_cons_succ]
  (first | (apply tkT 4 31 hg; (focus rfl); (focus rfl); (focus kernel_rfl); (focus (intro w0 hSw; (try dsimp only at hSw); go_simp; try (with_reducible rfl))); (focus assumption)) | (apply tkF 4 31 hg; (focus rfl); (focus rfl); (focus kernel_rfl); (focus assumption)))
  try simp only [Act.put, List.setIfInBounds_toArray, List.set_cons_zero, List.set_cons_succ]
  (first | (apply tkT 5 63 hg; (focus rfl); (focus rfl); (focus kernel_rfl); (focus (intro w0 hSw; (try dsimp only at hSw); go_simp; try (with_reducible rfl))); (focus assumption)) | (apply tkF 5 63 hg; (focus rfl); (focus rfl); (focus kernel_rfl); (focus assumption)))
  try simp only [Act.put, List.setIfInBounds_toArray, List.set_cons_zero, List.set_cons_succ]
  (apply tkT 6 127 hg; (focus rfl); (focus rfl); (focus kernel_rfl); (focus (intro w0 hSw; (try dsimp only at hSw); go_simp; try (with_reducible rfl))); (focus assumption))
  try simp only [Act.put, List.setIfInBounds_toArray, List.set_cons_zero, List.set_cons_succ]
  (apply tkT 7 255 hg; (focus rfl); (focus rfl); (focus kernel_rfl); (focus (intro w0 hSw; (try dsimp only at hSw); go_simp; try (with_reducible rfl))); (focus assumption))
  try simp only [Act.put, List.setIfInBounds_toArray, List.set_cons_zero, List.set_cons_succ]
  (first | (apply tkT 8 511 hg; (focus rfl); (focus rfl); (focus kernel_rfl); (focus (intro w0 hSw; (try dsimp only at hSw); go_simp; try (with_reducible rfl))); (focus assumption)) | (apply tkF 8 511 hg; (focus rfl); (focus rfl); (focus kernel_rfl); (focus assumption)))
  try simp only [Act.put, List.setIfInBounds_toArray, List.set_cons_zero, List.set_cons_succ]
  (first | (apply tkT 9 1023 hg; (focus rfl); (focus rfl); (focus kernel_rfl); (focus (intro w0 hSw; (try dsimp only at hSw); go_simp; try (with_reducible rfl))); (focus assumption)) | (apply tkF 9 1023 hg; (focus rfl); (focus rfl); (focus kernel_rfl); (focus assumption)))
  try simp only [Act.put, List.setIfInBounds_toArray, List.set_cons_zero, List.set_cons_succ]
  (first | (apply tkT 10 2047 hg; (focus rfl); (focus rfl); (focus kernel_rfl); (focus (intro w0 hSw; (try dsimp only at hSw); go_simp; try (with_reducible rfl))); (focus assumption)) | (apply tkF 10 2047 hg; (focus rfl); (focus rfl); (focus kernel_rfl); (focus assumption)))
  try simp only [Act.put, List.setIfInBounds_toArray, List.set_cons_zero, List.set_cons_succ]
  (apply tkT 11 4095 hg; (focus rfl); (focus rfl); (focus kernel_rfl); (focus (intro w0 hSw; (try dsimp only at hSw); go_simp; try (with_reducible rfl))); (focus assumption))
  try simp only [Act.put, List.setIfInBounds_toArray, List.set_cons_zero, List.set_cons_succ]
  (apply tkT 12 8191 hg; (focus rfl); (focus rfl); (focus kernel_rfl); (focus (intro w0 hSw; (try dsimp only at hSw); go_simp; try (with_reducible rfl))); (focus assumption))
  try simp only [Act.put, List.setIfInBounds_toArray, List.set_cons_zero, List.set_cons_succ]
  (first | (apply tkT 13 16383 hg; (focus rfl); (focus rfl); (focus kernel_rfl); (focus (intro w0 hSw; (try dsimp only at hSw); go_simp; try (with_reducible rfl))); (focus assumption)) | (apply tkF 13 16383 hg; (focus rfl); (focus rfl); (focus kernel_rfl); (focus assumption)))
  try simp only [Act.put, List.setIfInBounds_toArray, List.set_cons_zero, List.set_cons_succ]
  (first | (apply tkT 14 32767 hg; (focus rfl); (focus rfl); (focus kernel_rfl); (focus (intro w0 hSw; (try dsimp only at hSw); go_simp; try (with_reducible rfl))); (focus assumption)) | (apply tkF 14 32767 hg; (focus rfl); (focus rfl); (focus kernel_rfl); (focus assumption)))
  try simp only [Act.put, List.setIfInBounds_toArray, List.set_cons_zero, List.set_cons_succ]
  (first | (apply tkT 15 65535 hg; (focus rfl); (focus rfl); (focus kernel_rfl); (focus (intro w0 hSw; (try dsimp only at hSw); go_simp; try (with_reducible rfl))); (focus assumption)) | (apply tkF 15 65535 hg; (focus rfl); (focus rfl); (focus kernel_rfl); (focus assumption)))
  try simp only [Act.put, List.setIfInBounds_toArray, List.set_cons_zero, List.set_cons_succ]
  (apply tkT 16 131071 hg; (focus rfl); (focus rfl); (focus kernel_rfl); (focus (intro w0 hSw; (try dsimp only at hSw); go_simp; try (with_reducible rfl))); (focus assumption))
  try simp only [Act.put, List.setIfInBounds_toArray, List.set_cons_zero, List.set_cons_succ]
  (apply tkT 17 262143 hg; (focus rfl); (focus rfl); (focus kernel_rfl); (focus (intro w0 hSw; (try dsimp only at hSw); go_simp; try (with_reducible rfl))); (focus assumption))
  try simp only [Act.put, List.setIfInBounds_toArray, List.set_cons_zero, List.set_cons_succ]
  (first | (apply tkT 18 524287 hg; (focus rfl); (focus rfl); (focus kernel_rfl); (focus (intro w0 hSw; (try dsimp only at hSw); go_simp; try (with_reducible rfl))); (focus assumption)) | (apply tkF 18 524287 hg; (focus rfl); (focus rfl); (focus kernel_rfl); (focus assumption)))
  try simp only [Act.put, List.setIfInBounds_toArray, List.set_cons_zero, List.set_cons_succ]
  (apply tkT 19 1048575 hg; (focus rfl); (focus rfl); (focus kernel_rfl); (focus (intro w0 hSw; (try dsimp only at hSw); go_simp; try (with_reducible rfl))); (focus assumption))
  try simp only [Act.put, List.setIfInBounds_toArray, List.set_cons_zero, List.set_cons_succ]
  (apply tkT 20 2097151 hg; (focus rfl); (focus rfl); (focus kernel_rfl); (focus (intro w0 hSw; (try dsimp only at hSw); go_simp; try (with_reducible rfl))); (focus assumption))
  try simp only [Act.put, List.setIfInBounds_toArray, List.set_cons_zero, List.set_cons_succ]
  (first | (apply tkT 21 4194303 hg; (focus rfl); (focus rfl); (focus kernel_rfl); (focus (intro w0 hSw; (try dsimp only at hSw); go_simp; try (with_reducible rfl))); (focus assumption)) | (apply tkF 21 4194303 hg; (focus rfl); (focus rfl); (focus kernel_rfl); (focus assumption)))
  try simp only [Act.put, List.setIfInBounds_toArray, List.set_cons_zero, List.set_cons_succ]
  (first | (apply tkT 22 8388607 hg; (focus rfl); (focus rfl); (focus kernel_rfl); (focus (intro w0 hSw; (try dsimp only at hSw); go_simp; try (with_reducible rfl))); (focus assumption)) | (apply tkF 22 8388607 hg; (focus rfl); (focus rfl); (focus kernel_rfl); (focus assumption)))
  try simp only [Act.put, List.setIfInBounds_toArray, List.set_cons_zero, List.set_cons_succ]
  (first | (apply tkT 23 16777215 hg; (focus rfl); (focus rfl); (focus kernel_rfl); (focus (intro w0 hSw; (try dsimp only at hSw); go_simp; try (with_reducible rfl))); (focus assumption)) | (apply tkF 23 16777215 hg; (focus rfl); (focus rfl); (focus kernel_rfl); (focus assumption)))
  try simp only [Act.put, List.setIfInBounds_toArray, List.set_cons_zero, List.set_cons_succ]
  (apply tkT 24 33554431 hg; (focus rfl); (focus rfl); (focus kernel_rfl); (focus (intro w0 hSw; (try dsimp only at hSw); go_simp; try (with_reducible rfl))); (focus assumption))
  try simp only [Act.put, List.setIfInBounds_toArray, List.set_cons_zero, List.set_cons_succ]
  (apply tkT 25 67108863 hg; (focus rfl); (focus rfl); (focus kernel_rfl); (focus (intro w0 hSw; (try dsimp only at hSw); go_simp; try (with_reducible rfl))); (focus assumption))
  try simp only [Act.put, List.setIfInBounds_toArray, List.set_cons_zero, List.set_cons_succ]
  (first | (apply tkT 26 134217727 hg; (focus rfl); (focus rfl); (focus kernel_rfl); (focus (intro w0 hSw; (try dsimp only at hSw); go_simp; try (with_reducible rfl))); (focus assumption)) | (apply tkF 26 134217727 hg; (focus rfl); (focus rfl); (focus kernel_rfl); (focus assumption)))
  try simp only [Act.put, List.setIfInBounds_toArray, List.set_cons_zero, List.set_cons_succ]
  (first | (apply tkT 27 268435455 hg; (focus rfl); (focus rfl); (focus kernel_rfl); (focus (intro w0 hSw; (try dsimp only at hSw); go_simp; try (with_reducible rfl))); (focus assumption)) | (apply tkF 27 268435455 hg; (focus rfl); (focus rfl); (focus kernel_rfl); (focus assumption)))
  try simp only [Act.put, List.setIfInBounds_toArray, List.set_cons_zero, List.set_cons_succ]
  (first | (apply tkT 28 536870911 hg; (focus rfl); (focus rfl); (focus kernel_rfl); (focus (intro w0 hSw; (try dsimp only at hSw); go_simp; try (with_reducible rfl))); (focus assumption)) | (apply tkF 28 536870911 hg; (focus rfl); (focus rfl); (focus kernel_rfl); (focus assumption)))
  try simp only [Act.put, List.setIfInBounds_toArray, List.set_cons_zero, List.set_cons_succ]
  (first | (apply tkT 29 1073741823 hg; (focus rfl); (focus rfl); (focus kernel_rfl); (focus (intro w0 hSw; (try dsimp only at hSw); go_simp; try (with_reducible rfl))); (focus assumption)) | (apply tkF 29 1073741823 hg; (focus rfl); (focus rfl); (focus kernel_rfl); (focus assumption)))
  try simp only [Act.put, List.setIfInBounds_toArray, List.set_cons_zero, List.set_cons_succ]
  (apply tkT 30 2147483647 hg; (focus rfl); (focus rfl); (focus kernel_rfl); (focus (intro w0 hSw; (try dsimp only at hSw); go_simp; try (with_reducible rfl))); (focus assumption))
  try simp only [Act.put, List.setIfInBounds_toArray, List.set_cons_zero, List.set_cons_succ]
  (apply tkT 31 4294967295 hg; (focus rfl); (focus rfl); (focus kernel_rfl); (focus (intro w0 hSw; (try dsimp only at hSw); go_simp; try (with_reducible rfl))); (focus assumption))
  try simp only [Act.put, List.setIfInBounds_toArray, List.set_cons_zero, List.set_cons_succ]
  (first | (apply tkT 32 8589934591 hg; (focus rfl); (focus rfl); (focus kernel_rfl); (focus (intro w0 hSw; (try dsimp only at hSw); go_simp; try (with_reducible rfl))); (focus assumption)) | (apply tkF 32 8589934591 hg; (focus rfl); (focus rfl); (focus kernel_rfl); (focus assumption)))
  try simp only [Act.put, List.setIfInBounds_toArray, List.set_cons_zero, List.set_cons_succ]
  (apply act1 33 17179869183 hg; (focus rfl); (focus rfl); (focus kernel_rfl))
  intro K hK
  go_simp
  refine (pop_calls P3 a5 _ (Now _) (Sub.now _) (HP.out.step (Below.refl _ _).drew) (by decide)).mono ?_; rintro e u1 h; obtain ⟨x1, rfl, hj, hb⟩ := (show RetJ _ (Now _) P1 e u1 from h).now; replace hb := Below.undrew hb; have S1 := keep52 hb S0; have B1 := Lib.hid (BB.out.trans (hb.mono BB.out.size)); replace HP := Lib.hid (HP.out.step hb); replace HJ := Lib.hid (HJ.out.step hb); clear h hj hb
  refine hK.out _ _ ?_ (fun hHeld => ?_)
  · (try dsimp only); (first | exact S6 | exact S5 | exact S4 | exact S3 | exact S2 | exact S1 | exact S0)
  clear hK K
  try simp only [Act.put, List.setIfInBounds_toArray, List.set_cons_zero, List.set_cons_succ]
  (first | (apply tkT 34 34359738367 hg; (focus rfl); (focus rfl); (focus kernel_rfl); (focus (intro w0 hSw; (try dsimp only at hSw); go_simp; try (with_reducible rfl))); (focus assumption)) | (apply tkF 34 34359738367 hg; (focus rfl); (focus rfl); (focus kernel_rfl); (focus assumption)))
  try simp only [Act.put, List.setIfInBounds_toArray, List.set_cons_zero, List.set_cons_succ]
  (first | (apply tkT 35 68719476735 hg; (focus rfl); (focus rfl); (focus kernel_rfl); (focus (intro w0 hSw; (try dsimp only at hSw); go_simp; try (with_reducible rfl))); (focus assumption)) | (apply tkF 35 68719476735 hg; (focus rfl); (focus rfl); (focus kernel_rfl); (focus assumption)))
  try simp only [Act.put, List.setIfInBounds_toArray, List.set_cons_zero, List.set_cons_succ]
  (first | (apply tkT 36 137438953471 hg; (focus rfl); (focus rfl); (focus kernel_rfl); (focus (intro w0 hSw; (try dsimp only at hSw); go_simp; try (with_reducible rfl))); (focus assumption)) | (apply tkF 36 137438953471 hg; (focus rfl); (focus rfl); (focus kernel_rfl); (focus assumption)))
  try simp only [Act.put, List.setIfInBounds_toArray, List.set_cons_zero, List.set_cons_succ]
  (apply tkT 37 274877906943 hg; (focus rfl); (focus rfl); (focus kernel_rfl); (focus (intro w0 hSw; (try dsimp only at hSw); go_simp; try (with_reducible rfl))); (focus assumption))
  try simp only [Act.put, List.setIfInBounds_toArray, List.set_cons_zero, List.set_cons_succ]
  (apply tkT 38 549755813887 hg; (focus rfl); (focus rfl); (focus kernel_rfl); (focus (intro w0 hSw; (try dsimp only at hSw); go_simp; try (with_reducible rfl))); (focus assumption))
  try simp only [Act.put, List.setIfInBounds_toArray, List.set_cons_zero, List.set_cons_succ]
  (first | (apply tkT 39 1099511627775 hg; (focus rfl); (focus rfl); (focus kernel_rfl); (focus (intro w0 hSw; (try dsimp only at hSw); go_simp; try (with_reducible rfl))); (focus assumption)) | (apply tkF 39 1099511627775 hg; (focus rfl); (focus rfl); (focus kernel_rfl); (focus assumption)))
  try simp only [Act.put, List.setIfInBounds_toArray, List.set_cons_zero, List.set_cons_succ]
  (first | (apply tkT 40 2199023255551 hg; (focus rfl); (focus rfl); (focus kernel_rfl); (focus (intro w0 hSw; (try dsimp only at hSw); go_simp; try (with_reducible rfl))); (focus assumption)) | (apply tkF 40 2199023255551 hg; (focus rfl); (focus rfl); (focus kernel_rfl); (focus assumption)))
  try simp only [Act.put, List.setIfInBounds_toArray, List.set_cons_zero, List.set_cons_succ]
  (first | (apply tkT 41 4398046511103 hg; (focus rfl); (focus rfl); (focus kernel_rfl); (focus (intro w0 hSw; (try dsimp only at hSw); go_simp; try (with_reducible rfl))); (focus assumption)) | (apply tkF 41 4398046511103 hg; (focus rfl); (focus rfl); (focus kernel_rfl); (focus assumption)))
  try simp only [Act.put, List.setIfInBounds_toArray, List.set_cons_zero, List.set_cons_succ]
  (apply tkT 42 8796093022207 hg; (focus rfl); (focus rfl); (focus kernel_rfl); (focus (intro w0 hSw; (try dsimp only at hSw); go_simp; try (with_reducible rfl))); (focus assumption))
  try simp only [Act.put, List.setIfInBounds_toArray, List.set_cons_zero, List.set_cons_succ]
  (apply tkT 43 17592186044415 hg; (focus rfl); (focus rfl); (focus kernel_rfl); (focus (intro w0 hSw; (try dsimp only at hSw); go_simp; try (with_reducible rfl))); (focus assumption))
  try simp only [Act.put, List.setIfInBounds_toArray, List.set_cons_zero, List.set_cons_succ]
  (first | (apply tkT 44 35184372088831 hg; (focus rfl); (focus rfl); (focus kernel_rfl); (focus (intro w0 hSw; (try dsimp only at hSw); go_simp; try (with_reducible rfl))); (focus assumption)) | (apply tkF 44 35184372088831 hg; (focus rfl); (focus rfl); (focus kernel_rfl); (focus assumption)))
  try simp only [Act.put, List.setIfInBounds_toArray, List.set_cons_zero, List.set_cons_succ]
  (first | (apply tkT 45 70368744177663 hg; (focus rfl); (focus rfl); (focus kernel_rfl); (focus (intro w0 hSw; (try dsimp only at hSw); go_simp; try (with_reducible rfl))); (focus assumption)) | (apply tkF 45 70368744177663 hg; (focus rfl); (focus rfl); (focus kernel_rfl); (focus assumption)))
  try simp only [Act.put, List.setIfInBounds_toArray, List.set_cons_zero, List.set_cons_succ]
  (first | (apply tkT 46 140737488355327 hg; (focus rfl); (focus rfl); (focus kernel_rfl); (focus (intro w0 hSw; (try dsimp only at hSw); go_simp; try (with_reducible rfl))); (focus assumption)) | (apply tkF 46 140737488355327 hg; (focus rfl); (focus rfl); (focus kernel_rfl); (focus assumption)))
  try simp only [Act.put, List.setIfInBounds_toArray, List.set_cons_zero, List.set_cons_succ]
  (first | (apply tkT 47 281474976710655 hg; (focus rfl); (focus rfl); (focus kernel_rfl); (focus (intro w0 hSw; (try dsimp only at hSw); go_simp; try (with_reducible rfl))); (focus assumption)) | (apply tkF 47 281474976710655 hg; (focus rfl); (focus rfl); (focus kernel_rfl); (focus assumption)))
  try simp only [Act.put, List.setIfInBounds_toArray, List.set_cons_zero, List.set_cons_succ]
  (apply tkT 48 562949953421311 hg; (focus rfl); (focus rfl); (focus kernel_rfl); (focus (intro w0 hSw; (try dsimp only at hSw); go_simp; try (with_reducible rfl))); (focus assumption))
  try simp only [Act.put, List.setIfInBounds_toArray, List.set_cons_zero, List.set_cons_succ]
  (apply tkT 49 1125899906842623 hg; (focus rfl); (focus rfl); (focus kernel_rfl); (focus (intro w0 hSw; (try dsimp only at hSw); go_simp; try (with_reducible rfl))); (focus assumption))
  try simp only [Act.put, List.setIfInBounds_toArray, List.set_cons_zero, List.set_cons_succ]
  (first | (apply tkT 50 2251799813685247 hg; (focus rfl); (focus rfl); (focus kernel_rfl); (focus (intro w0 hSw; (try dsimp only at hSw); go_simp; try (with_reducible rfl))); (focus assumption)) | (apply tkF 50 2251799813685247 hg; (focus rfl); (focus rfl); (focus kernel_rfl); (focus assumption)))
  try simp only [Act.put, List.setIfInBounds_toArray, List.set_cons_zero, List.set_cons_succ]
  (first | (apply tkT 51 4503599627370495 hg; (focus rfl); (focus rfl); (focus kernel_rfl); (focus (intro w0 hSw; (try dsimp only at hSw); go_simp; try (with_reducible rfl))); (focus assumption)) | (apply tkF 51 4503599627370495 hg; (focus rfl); (focus rfl); (focus kernel_rfl); (focus assumption)))
  try simp only [Act.put, List.setIfInBounds_toArray, List.set_cons_zero, List.set_cons_succ]
  (first | (apply tkT 52 9007199254740991 hg; (focus rfl); (focus rfl); (focus kernel_rfl); (focus (intro w0 hSw; (try dsimp only at hSw); go_simp; try (with_reducible rfl))); (focus assumption)) | (apply tkF 52 9007199254740991 hg; (focus rfl); (focus rfl); (focus kernel_rfl); (focus assumption)))
  try simp only [Act.put, List.setIfInBounds_toArray, List.set_cons_zero, List.set_cons_succ]
  (first | (apply tkT 53 18014398509481983 hg; (focus rfl); (focus rfl); (focus kernel_rfl); (focus (intro w0 hSw; (try dsimp only at hSw); go_simp; try (with_reducible rfl))); (focus assumption)) | (apply tkF 53 18014398509481983 hg; (focus rfl); (focus rfl); (focus kernel_rfl); (focus assumption)))
  try simp only [Act.put, List.setIfInBounds_toArray, List.set_cons_zero, List.set_cons_succ]
  (apply tkT 54 36028797018963967 hg; (focus rfl); (focus rfl); (focus kernel_rfl); (focus (intro w0 hSw; (try dsimp only at hSw); go_simp; try (with_reducible rfl))); (focus assumption))
  try simp only [Act.put, List.setIfInBounds_toArray, List.set_cons_zero, List.set_cons_succ]
  (apply tkT 55 72057594037927935 hg; (focus rfl); (focus rfl); (focus kernel_rfl); (focus (intro w0 hSw; (try dsimp only at hSw); go_simp; try (with_reducible rfl))); (focus assumption))
  try simp only [Act.put, List.setIfInBounds_toArray, List.set_cons_zero, List.set_cons_succ]
  (first | (apply tkT 56 144115188075855871 hg; (focus rfl); (focus rfl); (focus kernel_rfl); (focus (intro w0 hSw; (try dsimp only at hSw); go_simp; try (with_reducible rfl))); (focus assumption)) | (apply tkF 56 144115188075855871 hg; (focus rfl); (focus rfl); (focus kernel_rfl); (focus assumption)))
  try simp only [Act.put, List.setIfInBounds_toArray, List.set_cons_zero, List.set_cons_succ]
  (first | (apply tkT 57 288230376151711743 hg; (focus rfl); (focus rfl); (focus kernel_rfl); (focus (intro w0 hSw; (try dsimp only at hSw); go_simp; try (with_reducible rfl))); (focus assumption)) | (apply tkF 57 288230376151711743 hg; (focus rfl); (focus rfl); (focus kernel_rfl); (focus assumption)))
  try simp only [Act.put, List.setIfInBounds_toArray, List.set_cons_zero, List.set_cons_succ]
  (first | (apply tkT 58 576460752303423487 hg; (focus rfl); (focus rfl); (focus kernel_rfl); (focus (intro w0 hSw; (try dsimp only at hSw); go_simp; try (with_reducible rfl))); (focus assumption)) | (apply tkF 58 576460752303423487 hg; (focus rfl); (focus rfl); (focus kernel_rfl); (focus assumption)))
  try simp only [Act.put, List.setIfInBounds_toArray, List.set_cons_zero, List.set_cons_succ]
  (apply tkT 59 1152921504606846975 hg; (focus rfl); (focus rfl); (focus kernel_rfl); (focus (intro w0 hSw; (try dsimp only at hSw); go_simp; try (with_reducible rfl))); (focus assumption))
  try simp only [Act.put, List.setIfInBounds_toArray, List.set_cons_zero, List.set_cons_succ]
  (apply tkT 60 2305843009213693951 hg; (focus rfl); (focus rfl); (focus kernel_rfl); (focus (intro w0 hSw; (try dsimp only at hSw); go_simp; try (with_reducible rfl))); (focus assumption))
  try simp only [Act.put, List.setIfInBounds_toArray, List.set_cons_zero, List.set_cons_succ]
  (first | (apply tkT 61 4611686018427387903 hg; (focus rfl); (focus rfl); (focus kernel_rfl); (focus (intro w0 hSw; (try dsimp only at hSw); go_simp; try (with_reducible rfl))); (focus assumption)) | (apply tkF 61 4611686018427387903 hg; (focus rfl); (focus rfl); (focus kernel_rfl); (focus assumption)))
  try simp only [Act.put, List.setIfInBounds_toArray, List.set_cons_zero, List.set_cons_succ]
  (first | (apply tkT 62 9223372036854775807 hg; (focus rfl); (focus rfl); (focus kernel_rfl); (focus (intro w0 hSw; (try dsimp only at hSw); go_simp; try (with_reducible rfl))); (focus assumption)) | (apply tkF 62 9223372036854775807 hg; (focus rfl); (focus rfl); (focus kernel_rfl); (focus assumption)))
  try simp only [Act.put, List.setIfInBounds_toArray, List.set_cons_zero, List.set_cons_succ]
  (first | (apply tkT 63 18446744073709551615 hg; (focus rfl); (focus rfl); (focus kernel_rfl); (focus (intro w0 hSw; (try dsimp only at hSw); go_simp; try (with_reducible rfl))); (focus assumption)) | (apply tkF 63 18446744073709551615 hg; (focus rfl); (focus rfl); (focus kernel_rfl); (focus assumption)))
  try simp only [Act.put, List.setIfInBounds_toArray, List.set_cons_zero, List.set_cons_succ]
  (apply tkT 64 36893488147419103231 hg; (focus rfl); (focus rfl); (focus kernel_rfl); (focus (intro w0 hSw; (try dsimp only at hSw); go_simp; try (with_reducible rfl))); (focus assumption))
  try simp only [Act.put, List.setIfInBounds_toArray, List.set_cons_zero, List.set_cons_succ]
  (apply tkT 65 73786976294838206463 hg; (focus rfl); (focus rfl); (focus kernel_rfl); (focus (intro w0 hSw; (try dsimp only at hSw); go_simp; try (with_reducible rfl))); (focus assumption))
  try simp only [Act.put, List.setIfInBounds_toArray, List.set_cons_zero, List.set_cons_succ]
  (first | (apply tkT 66 147573952589676412927 hg; (focus rfl); (focus rfl); (focus kernel_rfl); (focus (intro w0 hSw; (try dsimp only at hSw); go_simp; try (with_reducible rfl))); (focus assumption)) | (apply tkF 66 147573952589676412927 hg; (focus rfl); (focus rfl); (focus kernel_rfl); (focus assumption)))
  try simp only [Act.put, List.setIfInBounds_toArray, List.set_cons_zero, List.set_cons_succ]
  (first | (apply tkT 69 737869762948382064639 hg; (focus rfl); (focus rfl); (focus kernel_rfl); (focus (intro w0 hSw; (try dsimp only at hSw); go_simp; try (with_reducible rfl))); (focus assumption)) | (apply tkF 69 737869762948382064639 hg; (focus rfl); (focus rfl); (focus kernel_rfl); (focus assumption)))
  try simp only [Act.put, List.setIfInBounds_toArray, List.set_cons_zero, List.set_cons_succ]
  (apply act1 67 885443715538058477567 hg; (focus rfl); (focus rfl); (focus kernel_rfl))
  intro K hK
  go_simp
  refine (pop_calls P3 a5 _ (Now _) (Sub.now _) HP.out (by decide)).mono ?_; rintro e u2 h; obtain ⟨x2, rfl, hj, hb⟩ := (show RetJ _ (Now _) P1 e u2 from h).now; have S2 := keep52 hb S1; have B2 := Lib.hid (B1.out.trans (hb.mono B1.out.size)); replace HP := Lib.hid (HP.out.step hb); replace HJ := Lib.hid (HJ.out.step hb); have HQ := Lib.hid hj; clear h hj hb
  refine hK.out _ _ ?_ (fun hHeld => ?_)
  · (try dsimp only); (first | exact S6 | exact S5 | exact S4 | exact S3 | exact S2 | exact S1 | exact S0)
  clear hK K
  try simp only [Act.put, List.setIfInBounds_toArray, List.set_cons_zero, List.set_cons_succ]
  (apply act1 68 1180591620717411303423 hg; (focus rfl); (focus rfl); (focus kernel_rfl))
  intro K hK
  go_simp
  refine (pop_calls P1 x2 _ (Now _) (Sub.now _) HQ.out (by decide)).mono ?_; rintro e u3 h; obtain ⟨x3, rfl, hj, hb⟩ := (show RetJ _ (Now _) J0 e u3 from h).now; have S3 := keep52 hb S2; have B3 := Lib.hid (B2.out.trans (hb.mono B2.out.size)); replace HP := Lib.hid (HP.out.step hb); replace HJ := Lib.hid (HJ.out.step hb); clear HQ; have HQ := Lib.hid hj; clear h hj hb
  refine hK.out _ _ ?_ (fun hHeld => ?_)
  · (try dsimp only); (first | exact S6 | exact S5 | exact S4 | exact S3 | exact S2 | exact S1 | exact S0)
  clear hK K
  try simp only [Act.put, List.setIfInBounds_toArray, List.set_cons_zero, List.set_cons_succ]
  (apply act1 70 2361183241434822606847 hg; (focus rfl); (focus rfl); (focus kernel_rfl))
  intro K hK
  go_simp
  refine (same_calls J0 J0 x3 a1 _ (Now _) (Sub.now _) HQ.out HJ.out (by decide) (by decide) (by decide) (by decide)).mono ?_; rintro e u4 h; obtain ⟨rfl, hb⟩ := (show RetB _ true e u4 from by rw [show decide (J0 = J0) = true by simp] at h; exact h); have S4 := keep52 hb S3; have B4 := Lib.hid (B3.out.trans (hb.mono B3.out.size)); replace HP := Lib.hid (HP.out.step hb); replace HJ := Lib.hid (HJ.out.step hb); clear h hb HQ
  refine hK.out _ _ ?_ (fun hHeld => ?_)
  · (try dsimp only); (first | exact S6 | exact S5 | exact S4 | exact S3 | exact S2 | exact S1 | exact S0)
  clear hK K
  try simp only [Act.put, List.setIfInBounds_toArray, List.set_cons_zero, List.set_cons_succ]
  (apply tkT 71 4722366482869645213695 hg; (focus rfl); (focus rfl); (focus kernel_rfl); (focus (intro w0 hSw; (try dsimp only at hSw); go_simp; try (with_reducible rfl))); (focus assumption))
  try simp only [Act.put, List.setIfInBounds_toArray, List.set_cons_zero, List.set_cons_succ]
  (apply tkT 72 9444732965739290427391 hg; (focus rfl); (focus rfl); (focus kernel_rfl); (focus (intro w0 hSw; (try dsimp only at hSw); go_simp; try (with_reducible rfl))); (focus assumption))
  try simp only [Act.put, List.setIfInBounds_toArray, List.set_cons_zero, List.set_cons_succ]
  (first | (apply tkT 73 18889465931478580854783 hg; (focus rfl); (focus rfl); (focus kernel_rfl); (focus (intro w0 hSw; (try dsimp only at hSw); go_simp; try (with_reducible rfl))); (focus assumption)) | (apply tkF 73 18889465931478580854783 hg; (focus rfl); (focus rfl); (focus kernel_rfl); (focus assumption)))
  try simp only [Act.put, List.setIfInBounds_toArray, List.set_cons_zero, List.set_cons_succ]
  (first | (apply tkT 74 37778931862957161709567 hg; (focus rfl); (focus rfl); (focus kernel_rfl); (focus (intro w0 hSw; (try dsimp only at hSw); go_simp; try (with_reducible rfl))); (focus assumption)) | (apply tkF 74 37778931862957161709567 hg; (focus rfl); (focus rfl); (focus kernel_rfl); (focus assumption)))
  try simp only [Act.put, List.setIfInBounds_toArray, List.set_cons_zero, List.set_cons_succ]
  (apply act1 75 75557863725914323419135 hg; (focus rfl); (focus rfl); (focus kernel_rfl))
  intro K hK
  go_simp
  refine (same_calls P3 J0 a5 a1 _ (Now _) (Sub.now _) HP.out HJ.out (by decide) (by decide) (by decide) (by decide)).mono ?_; rintro e u5 h; obtain ⟨rfl, hb⟩ := (show RetB _ false e u5 from by rw [show decide (P3 = J0) = false by decide] at h; exact h); have S5 := keep52 hb S4; have B5 := Lib.hid (B4.out.trans (hb.mono B4.out.size)); replace HJ := Lib.hid (HJ.out.step hb); clear h hb HP
  refine hK.out _ _ ?_ (fun hHeld => ?_)
  · (try dsimp only); (first | exact S6 | exact S5 | exact S4 | exact S3 | exact S2 | exact S1 | exact S0)
  clear hK K
  try simp only [Act.put, List.setIfInBounds_toArray, List.set_cons_zero, List.set_cons_succ]
  (first | (apply tkT 76 151115727451828646838271 hg; (focus rfl); (focus rfl); (focus kernel_rfl); (focus (intro w0 hSw; (try dsimp only at hSw); go_simp; try (with_reducible rfl))); (focus assumption)) | (apply tkF 76 151115727451828646838271 hg; (focus rfl); (focus rfl); (focus kernel_rfl); (focus assumption)))
  try simp only [Act.put, List.setIfInBounds_toArray, List.set_cons_zero, List.set_cons_succ]
  (apply tkT 77 302231454903657293676543 hg; (focus rfl); (focus rfl); (focus kernel_rfl); (focus (intro w0 hSw; (try dsimp only at hSw); go_simp; try (with_reducible rfl))); (focus assumption))
  try simp only [Act.put, List.setIfInBounds_toArray, List.set_cons_zero, List.set_cons_succ]
  (apply tkT 78 604462909807314587353087 hg; (focus rfl); (focus rfl); (focus kernel_rfl); (focus (intro w0 hSw; (try dsimp only at hSw); go_simp; try (with_reducible rfl))); (focus assumption))
  try simp only [Act.put, List.setIfInBounds_toArray, List.set_cons_zero, List.set_cons_succ]
  (first | (apply tkT 79 1208925819614629174706175 hg; (focus rfl); (focus rfl); (focus kernel_rfl); (focus (intro w0 hSw; (try dsimp only at hSw); go_simp; try (with_reducible rfl))); (focus assumption)) | (apply tkF 79 1208925819614629174706175 hg; (focus rfl); (focus rfl); (focus kernel_rfl); (focus assumption)))
  try simp only [Act.put, List.setIfInBounds_toArray, List.set_cons_zero, List.set_cons_succ]
  (apply act1 80 2417851639229258349412351 hg; (focus rfl); (focus rfl); (focus kernel_rfl))
  intro K hK
  go_simp
  refine (end_calls J0 a1 ⟨#[111, 107]⟩ _ (Now _) (Sub.now _) HJ.out).mono ?_; rintro e u6 h; obtain ⟨x6, rfl, hj, hb⟩ := (show RetJ _ (Now _) E0 e u6 from h).now; have S6 := keep52 hb S5; have B6 := Lib.hid (B5.out.trans (hb.mono B5.out.size)); clear h hj hb
  refine hK.out _ _ ?_ (fun hHeld => ?_)
  · (try dsimp only); (first | exact S6 | exact S5 | exact S4 | exact S3 | exact S2 | exact S1 | exact S0)
  clear hK K
  try simp only [Act.put, List.setIfInBounds_toArray, List.set_cons_zero, List.set_cons_succ]
  (first | (apply tkT 81 4835703278458516698824703 hg; (focus rfl); (focus rfl); (focus kernel_rfl); (focus (intro w0 hSw; (try dsimp only at hSw); go_simp; try (with_reducible rfl))); (focus assumption)) | (apply tkF 81 4835703278458516698824703 hg; (focus rfl); (focus rfl); (focus kernel_rfl); (focus assumption)))
  try simp only [Act.put, List.setIfInBounds_toArray, List.set_cons_zero, List.set_cons_succ]
  (apply tkT 82 9671406556917033397649407 hg; (focus rfl); (focus rfl); (focus kernel_rfl); (focus (intro w0 hSw; (try dsimp only at hSw); go_simp; try (with_reducible rfl))); (focus assumption))
  try simp only [Act.put, List.setIfInBounds_toArray, List.set_cons_zero, List.set_cons_succ]
  (apply tkT 83 19342813113834066795298815 hg; (focus rfl); (focus rfl); (focus kernel_rfl); (focus (intro w0 hSw; (try dsimp only at hSw); go_simp; try (with_reducible rfl))); (focus assumption))
  try simp only [Act.put, List.setIfInBounds_toArray, List.set_cons_zero, List.set_cons_succ]
  refine actE hg (by kernel_rfl) ?_
  go_wp2
  go_ret
  exact ⟨rfl, B6.out⟩
end Go.Proofs.YtjkjlegloicmcaaDoor
