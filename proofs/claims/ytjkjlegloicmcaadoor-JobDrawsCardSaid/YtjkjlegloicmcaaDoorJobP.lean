/- The laws' guard: is a job not too much to look at? -/
import Derived.Test.YtjkjlegloicmcaaDoorJobB
set_option linter.unusedVariables false
set_option linter.unusedSimpArgs false
namespace Go.Proofs.YtjkjlegloicmcaaDoor
open Go.RowKit
/-- A Bool comes back; nothing that was there has changed. -/
def RetP (w : World) (b : Bool) (e : Ending) (w' : World) : Prop := e = .returned (.bool b) ∧ Below w.heap.size w w'
def tailB (j : Job) : Bool := decide (j.stack.length ≤ 20) && (decide (j.names.length ≤ 120) && (decide (j.draws.length ≤ 200) && (decide (j.path.size ≤ 400) && (decide (j.path2.size ≤ 400) && (decide (j.text.size ≤ 400) && (decide (0 ≤ j.at_) && decide (j.at_ ≤ 1000000)))))))
def plainB (j : Job) : Bool := (j.stack.take 30).all (fun f => decide (f.names.length ≤ 60)) && tailB j
theorem ret_b {a b : Bool} (h : a = b) : Ending.returned (.bool a) = .returned (.bool b) := by rw [h]
theorem plain_no (j : Job) (i : Nat) (h : i < j.stack.length) (hi : i < 30) (hn : ¬ (j.stack[i]'h).names.length ≤ 60) : plainB j = false := by
  unfold plainB
  rw [Bool.and_eq_false_iff]
  left
  rw [← Bool.not_eq_true, List.all_eq_true]
  intro hx
  have := hx (j.stack[i]'h) (by rw [List.mem_take_iff_getElem]; exact ⟨i, by omega, rfl⟩)
  simp at this; omega
theorem plain_yes (j : Job) (h : ∀ i, (hi : i < j.stack.length) → i < 30 → (j.stack[i]'hi).names.length ≤ 60) : plainB j = tailB j := by
  unfold plainB
  rw [Bool.and_eq_right_iff_imp]
  intro _
  rw [List.all_eq_true]
  intro f hf
  rw [List.mem_take_iff_getElem] at hf
  obtain ⟨i, hi, rfl⟩ := hf
  simpa using h i (by omega) (by omega)
attribute [local go_sem] isRow_drew row_drew isRow_drewN row_drewN cell_isRow rowSz_isRow isHead_ptr blockOf_ptr row_alloc isRow_alloc rowSz_alloc setRow_alloc isRow_setRow isRow_setCell isRow_frozen setCell_setRow_same setCell_setRow_other cell_setRow_same' cell_setRow_other' frozen_setRow' row_setRow_same row_setRow_other rowSz_setRow_same rowSz_setRow_other setRow_setRow_same' setRow_comm' ne_l2 ne_r2 ne_l3 ne_r3 ne_l4 ne_r4 ne_l5 ne_r5 ne_l6 ne_r6 ne_l7 ne_r7 ne_l8 ne_r8
set_option maxRecDepth 100000 in
set_option maxHeartbeats 4000000 in
theorem plain_calls (j : Job) (a : JA) (w : World) (S : Nat → Prop) (hS : Sub S w) (hj : j.ok w S a) :
    Calls Tryd.prog 7 #[.agg (j.cells a).toArray] w (RetP w (plainB j)) := by
  have HJ := Lib.hid hj
  clear hj
  unfold Job.cells
  go_enter Tryd.func7, Tryd.ntmps7
  go_wp2_with (first | (apply ld_row 27 19; (focus rfl); (focus go_simp); (focus (go_simp; rfl)); (focus (exact Tryd.underlying27)); (focus kernel_rfl)) | (apply st_row 27 19; (focus rfl); (focus rfl); (focus go_simp); (focus kernel_rfl); (focus rfl); (focus (first | (simp [Value.oneCell']; done) | (simp [Value.oneCell', Job.cells]; done)))) | fail)
  refine Code.at_ fun W hW => ?_
  have B0 : Below w.heap.size w W := by rw [hW]; repeat' (first | with_reducible refine Below.alloc ?_ ?_ _ | with_reducible refine Below.setRow_ ?_ ?_ _ | with_reducible refine Below.setCell ?_ ?_ _ | with_reducible refine Below.drew ?_ | with_reducible refine Below.drewN_ ?_ _ | with_reducible exact Below.refl _ _ | assumption | (simp; done) | (simp; omega) | omega)
  have k0 : W.heap[w.heap.size]? = some (.cells (Job.cells j a).toArray 27 (0, 0)) := by rw [hW]; exact blk_new _ rfl
  have i0 := isRow_of k0
  have r0 : row W w.heap.size = _ := row_of k0
  unfold Job.cells at r0
  have HK := Lib.hid (HJ.out.sub hS B0)
  have BB := Lib.hid B0
  clear hW k0 B0 HJ
  obtain ⟨b0, hb0⟩ : ∃ b, b = w.heap.size := ⟨_, rfl⟩
  rw [← hb0] at i0 r0 ⊢
  clear hb0
  have out : ∀ (k : Nat), k ≤ j.stack.length → (k = j.stack.length ∨ k = 30) → (∀ m, (h : m < j.stack.length) → m < k → (j.stack[m]'h).names.length ≤ 60) → plainB j = tailB j := fun k h1 h2 h3 => plain_yes j fun i hi h30 => h3 i hi (by omega)
  go_loopw [3] (fun i wr => ∃ k : Nat, i = .int .i64 k ∧ k ≤ j.stack.length ∧ k ≤ 30 ∧ (∀ m, (h : m < j.stack.length) → m < k → (j.stack[m]'h).names.length ≤ 60) ∧ wr = W) (fun i _ => 30 - (intOf i).toNat)
  case atStart => exact ⟨0, rfl, by omega, by omega, fun m _ h => by omega, rfl⟩
  case round =>
    obtain ⟨k, rfl, hk1, hk2, hk, rfl⟩ := hrel
    have HQ := Lib.hid hk
    clear hk
    by_cases h1 : k < j.stack.length
    · by_cases h2 : k < 30
      · obtain ⟨b, off, s, hA, hSb, hs, c0, c1, c2⟩ := HK.out.2.1.2.frame k h1
        have hn : ∀ h, ¬ (j.stack[k]'h).names.length ≤ 60 → plainB j = false := fun h hh => plain_no j k h h2 hh
        have HN := Lib.hid (hn h1)
        generalize hf : j.stack[k]'h1 = f at *
        have HF := Lib.hid hf
        clear hf hs hn out
        by_cases h3 : f.names.length ≤ 60
        · go_wp2_with (first | (apply ld_row 27 19; (focus rfl); (focus go_simp); (focus (go_simp; rfl)); (focus (exact Tryd.underlying27)); (focus kernel_rfl)) | (apply st_row 27 19; (focus rfl); (focus rfl); (focus go_simp); (focus kernel_rfl); (focus rfl); (focus (first | (simp [Value.oneCell']; done) | (simp [Value.oneCell', Job.cells]; done)))) | fail)
          go_roundw
          case rel =>
            refine ⟨k + 1, by go_num, by omega, by omega, fun m hm h => ?_, by trivial⟩
            rcases Nat.lt_or_ge m k with h5 | h5
            · exact HQ.out m hm h5
            · obtain rfl : m = k := by omega
              rw [HF.out]; exact h3
          case measure => simp [intOf]; omega
        · go_wp2_with (first | (apply ld_row 27 19; (focus rfl); (focus go_simp); (focus (go_simp; rfl)); (focus (exact Tryd.underlying27)); (focus kernel_rfl)) | (apply st_row 27 19; (focus rfl); (focus rfl); (focus go_simp); (focus kernel_rfl); (focus rfl); (focus (first | (simp [Value.oneCell']; done) | (simp [Value.oneCell', Job.cells]; done)))) | fail)
          go_ret
          exact ⟨ret_b (HN.out h3).symm, BB.out⟩
      · have ho := out k hk1 (by omega) HQ.out
        have h20 : ¬ (j.stack.length : Int) ≤ 20 := by omega
        have ht : tailB j = false := by unfold tailB; simp; omega
        have HT := Lib.hid (ho.trans ht)
        clear out HQ ho ht
        go_wp2_with (first | (apply ld_row 27 19; (focus rfl); (focus go_simp); (focus (go_simp; rfl)); (focus (exact Tryd.underlying27)); (focus kernel_rfl)) | (apply st_row 27 19; (focus rfl); (focus rfl); (focus go_simp); (focus kernel_rfl); (focus rfl); (focus (first | (simp [Value.oneCell']; done) | (simp [Value.oneCell', Job.cells]; done)))) | fail)
        go_ret
        exact ⟨ret_b HT.out.symm, BB.out⟩
    · have ho := out k hk1 (by omega) HQ.out
      have HO := Lib.hid ho
      clear out HQ ho
      go_wp2_with (first | (apply ld_row 27 19; (focus rfl); (focus go_simp); (focus (go_simp; rfl)); (focus (exact Tryd.underlying27)); (focus kernel_rfl)) | (apply st_row 27 19; (focus rfl); (focus rfl); (focus go_simp); (focus kernel_rfl); (focus rfl); (focus (first | (simp [Value.oneCell']; done) | (simp [Value.oneCell', Job.cells]; done)))) | fail)
      all_goals
        go_ret
        refine ⟨ret_b ?_, BB.out⟩
        rw [HO.out, Bool.eq_iff_iff]
        unfold tailB
        first | (simp; done) | (simp; omega) | (simp; intros; omega) | (simp only [Bool.and_eq_true, decide_eq_true_eq, Bool.false_eq_true, false_iff]; omega)
end Go.Proofs.YtjkjlegloicmcaaDoor
