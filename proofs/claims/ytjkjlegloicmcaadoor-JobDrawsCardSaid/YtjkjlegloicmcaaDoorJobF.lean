/- The job layer: job.Trim. -/
import Derived.Test.YtjkjlegloicmcaaDoorJobB
import Derived.Test.YtjkjlegloicmcaaDoorReg
set_option linter.unusedSimpArgs false
set_option linter.unusedVariables false
namespace Go.Proofs.YtjkjlegloicmcaaDoor
open Go.RowKit

theorem RetJ.gro {w w1 wf : World} {S B : Nat → Prop} {j : Job} {a : JA} (hS : Sub S w) (hb : Below w.heap.size w w1) (ho : Gro B w1 wf) (hB : ∀ k, B k → w.heap.size ≤ k)
    (h : j.ok w1 (fun k => Ext w w1 S k ∧ ¬ B k) a) : RetJ w S j (.returned (.agg (j.cells a).toArray)) wf :=
  ⟨a, rfl, (h.move fun k hk => ho.block k (hk.1.elim (fun h => Nat.lt_of_lt_of_le (hS k h) hb.size) (·.2)) hk.2).weak fun _ hk => hk.1.imp id fun h => ⟨h.1, Nat.lt_of_lt_of_le h.2 ho.size⟩, Below.gro hb ho hB hb.size⟩
attribute [local go_sem] isRow_drew row_drew isRow_drewN row_drewN cell_isRow rowSz_isRow isHead_ptr blockOf_ptr row_alloc isRow_alloc rowSz_alloc setRow_alloc isRow_setRow isRow_setCell isRow_frozen setCell_setRow_same setCell_setRow_other cell_setRow_same' cell_setRow_other' frozen_setRow' row_setRow_same row_setRow_other rowSz_setRow_same rowSz_setRow_other setRow_setRow_same' setRow_comm' ne_l2 ne_r2 ne_l3 ne_r3 ne_l4 ne_r4 ne_l5 ne_r5 ne_l6 ne_r6 ne_l7 ne_r7 ne_l8 ne_r8
theorem ldx_27 {ρ : Operand → Value} {dst : Option Tmp} {tt : TypeId} {pos : String} {after : Array Edge} {gd : Option (Nat × Bool)} {x : Operand} {w : World} (h1 : isHead (ρ x) = true) (h2 : rowSz w (blockOf (ρ x)) 19 = true) : (execOp ρ { dst := dst, op := .load 27 x, type := tt, pos := pos, after := after, guard := gd }).run Tryd.prog w = .ok (.value (.agg (row w (blockOf (ρ x))))) w := ld_exec 27 19 Tryd.underlying27 (by kernel_rfl) h1 h2
attribute [local go_sem ↓] ldx_27
attribute [local go_sem ↓] Go.wp_at_zero Go.wp_at_succ
set_option maxHeartbeats 400000 in
theorem trim_none (j : Job) (a : JA) (w : World) (S : Nat → Prop) (hS : Sub S w) (hj : j.ok w S a) (h1 : j.stack = []) :
    Calls Tryd.prog 22 #[.agg (j.cells a).toArray] w (RetJ w S j) := by
  have HJ := Lib.hid hj
  clear hj
  have ht := fun w hS' => top_none j a w S hS' (by rw [h1]; rfl)
  obtain ⟨kind, p, phase, fd, n, mode, tries, at_, flags, path, path2, text, names, stack, draws, done, exit, out, e⟩ := j
  simp only at h1
  subst h1
  unfold Job.cells at ht ⊢
  simp only [List.length_nil] at ht ⊢
  go_enter Tryd.func22, Tryd.ntmps22
  go_wp2_with (first | (apply ld_row 27 19; (focus rfl); (focus go_simp); (focus (go_simp; rfl)); (focus (exact Tryd.underlying27)); (focus kernel_rfl)) | (apply st_row 27 19; (focus rfl); (focus rfl); (focus go_simp); (focus kernel_rfl); (focus rfl); (focus (first | (simp [Value.oneCell']; done) | (simp [Value.oneCell', Job.cells]; done)))))
  refine Calls.at_ fun W hW => ?_
  have B0 : Below w.heap.size w W := by rw [hW]; repeat' (first | with_reducible refine Below.alloc ?_ ?_ _ | with_reducible exact Below.refl _ _ | assumption | (simp; done) | (simp; omega) | omega)
  have hWn : W.heap.size = w.heap.size + 2 := by rw [hW]; simp
  refine (ht _ (hS.mono B0)).mono ?_
  rintro e w1 ⟨s, rfl, hs, hb⟩
  clear hs ht
  have k0 := blk_call (b := w.heap.size) hb (by rw [hW]; exact blk_old (blk_new _ (by first | rfl | simp)) _)
  have i0 := isRow_of k0
  have k1 := blk_call (b := w.heap.size + 1) hb (by rw [hW]; exact blk_new _ (by first | rfl | simp))
  have i1 := isRow_of k1
  have hz := hb.size
  rw [hWn] at hz
  have y0 : ¬ w.heap.size = w1.heap.size := by omega
  have z0 : ¬ w1.heap.size = w.heap.size := by omega
  have y1 : ¬ w.heap.size + 1 = w1.heap.size := by omega
  have z1 : ¬ w1.heap.size = w.heap.size + 1 := by omega
  have HB := Lib.hid (B0.trans (hb.mono B0.size))
  rw [rows2 k0 k1]
  clear hb B0 hWn hW k0 k1 W
  go_wp2_with (first | (apply ld_row 27 19; (focus rfl); (focus go_simp); (focus (go_simp; rfl)); (focus (exact Tryd.underlying27)); (focus kernel_rfl)) | (apply st_row 27 19; (focus rfl); (focus rfl); (focus go_simp); (focus kernel_rfl); (focus rfl); (focus (first | (simp [Value.oneCell']; done) | (simp [Value.oneCell', Job.cells]; done)))))
  all_goals (first | (simp [Value.oneCell']; done) | skip)
  all_goals (refine ret_row (n := 19) (cs := (Job.cells ⟨kind, p, phase, fd, n, mode, tries, at_, flags, path, path2, text, names, [], draws, done, exit, out, e⟩ a).toArray) rfl rfl (by go_simp) (by go_simp; try simp [Job.cells]; try (first | omega | rfl)) Tryd.underlying27 (by kernel_rfl) rfl ?_; exact RetJ.gro (B := fun k => k = w.heap.size ∨ k = w.heap.size + 1) hS HB.out (by repeat' (first | with_reducible refine Gro.setRow ?_ (by simp) _ | with_reducible refine Gro.alloc ?_ _ | with_reducible exact Gro.refl _ _)) (by omega) (HJ.out.old hS HB.out (by omega)))

set_option maxHeartbeats 400000 in
theorem trim_same (j : Job) (a : JA) (w : World) (S : Nat → Prop) (hS : Sub S w) (hj : j.ok w S a) (hl : j.stack.length ≤ 1000) (h1 : 0 < j.stack.length) (h2 : (j.stack[j.stack.length - 1]'(by omega)).names = []) :
    Calls Tryd.prog 22 #[.agg (j.cells a).toArray] w (RetJ w S j) := by
  have HJ := Lib.hid hj
  have HT := Lib.hid (fun w' (hb : Below w.heap.size w w') => top_calls j a w' S (hS.mono hb) (hj.sub hS hb) hl h1)
  clear hj
  generalize j.stack[j.stack.length - 1] = f at *
  obtain ⟨fd, name, names⟩ := f
  simp only at h2
  subst h2
  unfold Job.cells at HT ⊢
  go_enter Tryd.func22, Tryd.ntmps22
  go_wp2_with (first | (apply ld_row 27 19; (focus rfl); (focus go_simp); (focus (go_simp; rfl)); (focus (exact Tryd.underlying27)); (focus kernel_rfl)) | (apply st_row 27 19; (focus rfl); (focus rfl); (focus go_simp); (focus kernel_rfl); (focus rfl); (focus (first | (simp [Value.oneCell']; done) | (simp [Value.oneCell', Job.cells]; done)))))
  refine Calls.at_ fun W hW => ?_
  have B0 : Below w.heap.size w W := by rw [hW]; repeat' (first | with_reducible refine Below.alloc ?_ ?_ _ | with_reducible exact Below.refl _ _ | assumption | (simp; done) | (simp; omega) | omega)
  have hWn : W.heap.size = w.heap.size + 2 := by rw [hW]; simp
  refine (HT.out _ B0).mono ?_
  clear HT
  rintro e w1 ⟨s, rfl, hs, hb⟩
  clear hs
  have k0 := blk_call (b := w.heap.size) hb (by rw [hW]; exact blk_old (blk_new _ (by first | rfl | simp)) _)
  have i0 := isRow_of k0
  have k1 := blk_call (b := w.heap.size + 1) hb (by rw [hW]; exact blk_new _ (by first | rfl | simp))
  have i1 := isRow_of k1
  have hz := hb.size
  rw [hWn] at hz
  have y0 : ¬ w.heap.size = w1.heap.size := by omega
  have z0 : ¬ w1.heap.size = w.heap.size := by omega
  have y1 : ¬ w.heap.size + 1 = w1.heap.size := by omega
  have z1 : ¬ w1.heap.size = w.heap.size + 1 := by omega
  have HB := Lib.hid (B0.trans (hb.mono B0.size))
  rw [rows2 k0 k1]
  clear hb B0 hWn hW k0 k1 W
  go_wp2_with (first | (apply ld_row 27 19; (focus rfl); (focus go_simp); (focus (go_simp; rfl)); (focus (exact Tryd.underlying27)); (focus kernel_rfl)) | (apply st_row 27 19; (focus rfl); (focus rfl); (focus go_simp); (focus kernel_rfl); (focus rfl); (focus (first | (simp [Value.oneCell']; done) | (simp [Value.oneCell', Job.cells]; done)))))
  refine ret_row (n := 19) (cs := (Job.cells j a).toArray) rfl rfl (by go_simp) (by go_simp; try simp [Job.cells]; try (first | omega | rfl)) Tryd.underlying27 (by kernel_rfl) rfl ?_
  exact RetJ.gro (B := fun k => k = w.heap.size ∨ k = w.heap.size + 1) hS HB.out (by repeat' (first | with_reducible refine Gro.setRow ?_ (by simp) _ | with_reducible refine Gro.alloc ?_ _ | with_reducible exact Gro.refl _ _)) (by omega) (HJ.out.old hS HB.out (by omega))
end Go.Proofs.YtjkjlegloicmcaaDoor
