/- The job layer: job.Same, by the test that fails first. -/
import Derived.Test.YtjkjlegloicmcaaDoorJobC
import Derived.Test.YtjkjlegloicmcaaDoorReg
set_option linter.unusedSimpArgs false
set_option linter.unusedVariables false
namespace Go.Proofs.YtjkjlegloicmcaaDoor
open Go.RowKit
attribute [local go_sem] isRow_drew row_drew isRow_drewN row_drewN cell_isRow rowSz_isRow isHead_ptr blockOf_ptr row_alloc isRow_alloc rowSz_alloc setRow_alloc isRow_setRow isRow_setCell isRow_frozen setCell_setRow_same setCell_setRow_other cell_setRow_same' cell_setRow_other' frozen_setRow' row_setRow_same row_setRow_other rowSz_setRow_same rowSz_setRow_other setRow_setRow_same' setRow_comm' ne_l2 ne_r2 ne_l3 ne_r3 ne_l4 ne_r4 ne_l5 ne_r5 ne_l6 ne_r6 ne_l7 ne_r7 ne_l8 ne_r8
attribute [local go_sem ↓] ldx_27
attribute [local go_sem] Job.cells
attribute [local go_sem ↓] Go.wp_at_zero Go.wp_at_succ

set_option maxRecDepth 100000 in
set_option maxHeartbeats 2000000 in
theorem same_case0 (j k : Job) (a b : JA) (w : World) (S : Nat → Prop) (hS : Sub S w) (hj : j.ok w S a) (hk : k.ok w S b) (hl : j.stack.length ≤ 1000) (hn : ∀ f ∈ j.stack, f.names.length ≤ 100000) (hl2 : j.names.length ≤ 100000) (hl3 : j.draws.length ≤ 100000)
    (h0 : (decide (j.nums = k.nums)) = false) :
    Calls Tryd.prog 16 #[.agg (j.cells a).toArray, .agg (k.cells b).toArray] w (RetB w false) := by
  have HJ := Lib.hid hj
  have HK := Lib.hid hk
  have HN := Lib.hid hn
  clear hj hk hn
  have heq := fun w => eqArr (w := w) j.nums k.nums rfl rfl
  rw [h0] at heq
  clear h0
  unfold Job.cells
  go_enter Tryd.func16, Tryd.ntmps16
  go_wp2_with (first | (apply ld_row 27 19; (focus rfl); (focus go_simp); (focus (go_simp; rfl)); (focus (exact Tryd.underlying27)); (focus kernel_rfl)) | (apply st_row 27 19; (focus rfl); (focus rfl); (focus go_simp); (focus kernel_rfl); (focus rfl); (focus (first | (simp [Value.oneCell']; done) | (simp [Value.oneCell', Job.cells]; done)))) | fail)
  refine Code.at_ fun W hW => ?_
  have B0 : Below w.heap.size w W := by rw [hW]; repeat' (first | with_reducible refine Below.alloc ?_ ?_ _ | with_reducible refine Below.setRow_ ?_ ?_ _ | with_reducible refine Below.setCell ?_ ?_ _ | with_reducible refine Below.drew ?_ | with_reducible refine Below.drewN_ ?_ _ | with_reducible exact Below.refl _ _ | assumption | (simp; done) | (simp; omega) | omega)
  have k0 := heap_at (W := W) (b := w.heap.size) (by rw [hW]; exact blk_old (blk_new _ rfl) _)
  have k1 := heap_at (W := W) (b := w.heap.size + 1) (by rw [hW]; exact blk_new _ (by simp))
  have i0 := isRow_of k0
  have i1 := isRow_of k1
  have r0 := row_of k0
  have r1 := row_of k1
  have HB0 := Lib.hid B0
  clear k0 k1 hW B0
  dsimp only [List.append]
  refine reg0 72 (fun w' => isRow w' w.heap.size = true ∧ isRow w' (w.heap.size + 1) = true ∧ row w' w.heap.size = (j.cells a).toArray ∧ row w' (w.heap.size + 1) = (k.cells b).toArray) (by kernel_rfl) (by kernel_rfl) (by kernel_rfl) ?_ (fun l hg hHeld => ?_)
  · (try dsimp only); (first | exact ⟨i03, i13, r03, r13⟩ | exact ⟨i02, i12, r02, r12⟩ | exact ⟨i0, i1, r0, r1⟩)
  (apply tkT 0 1 hg; (focus rfl); (focus rfl); (focus kernel_rfl); (focus (intro w0 hSw; (try dsimp only at hSw); go_simp; try (with_reducible rfl))); (focus assumption))
  try simp only [Act.put, List.setIfInBounds_toArray, List.set_cons_zero, List.set_cons_succ]
  (apply tkT 1 3 hg; (focus rfl); (focus rfl); (focus kernel_rfl); (focus (intro w0 hSw; (try dsimp only at hSw); go_simp; try (with_reducible rfl))); (focus assumption))
  try simp only [Act.put, List.setIfInBounds_toArray, List.set_cons_zero, List.set_cons_succ]
  (apply tkT 3 11 hg; (focus rfl); (focus rfl); (focus kernel_rfl); (focus (intro w0 hSw; (try dsimp only at hSw); go_simp; try (with_reducible rfl))); (focus assumption))
  try simp only [Act.put, List.setIfInBounds_toArray, List.set_cons_zero, List.set_cons_succ]
  (apply tkT 4 27 hg; (focus rfl); (focus rfl); (focus kernel_rfl); (focus (intro w0 hSw; (try dsimp only at hSw); go_simp; try (with_reducible rfl))); (focus assumption))
  try simp only [Act.put, List.setIfInBounds_toArray, List.set_cons_zero, List.set_cons_succ]
  (apply act1 2 31 hg; (focus rfl); (focus rfl); (focus kernel_rfl))
  intro K hK
  go_simp
  refine (same1_calls j a _).mono ?_; rintro e w2 ⟨rfl, hb2⟩; replace hb2 := Below.undrew hb2; have i02 := isRow_call hb2 i0; have i12 := isRow_call hb2 i1; have r02 := row_call hb2 i0 r0; have r12 := row_call hb2 i1 r1
  refine hK.out _ _ ?_ (fun hHeld => ?_)
  · (try dsimp only); (first | exact ⟨i03, i13, r03, r13⟩ | exact ⟨i02, i12, r02, r12⟩ | exact ⟨i0, i1, r0, r1⟩)
  clear hK K
  try simp only [Act.put, List.setIfInBounds_toArray, List.set_cons_zero, List.set_cons_succ]
  (apply act1 5 63 hg; (focus rfl); (focus rfl); (focus kernel_rfl))
  intro K hK
  go_simp
  refine (same1_calls k b _).mono ?_; rintro e w3 ⟨rfl, hb3⟩; have i03 := isRow_call hb3 i02; have i13 := isRow_call hb3 i12; have r03 := row_call hb3 i02 r02; have r13 := row_call hb3 i12 r12; have c3 := (hb2.mono HB0.out.size).trans (hb3.mono (HB0.out.trans (hb2.mono HB0.out.size)).size)
  refine hK.out _ _ ?_ (fun hHeld => ?_)
  · (try dsimp only); (first | exact ⟨i03, i13, r03, r13⟩ | exact ⟨i02, i12, r02, r12⟩ | exact ⟨i0, i1, r0, r1⟩)
  clear hK K
  try simp only [Act.put, List.setIfInBounds_toArray, List.set_cons_zero, List.set_cons_succ]
  (apply tkT 6 127 hg; (focus rfl); (focus rfl); (focus kernel_rfl); (focus (intro w0 hSw; (try dsimp only at hSw); go_simp; try (with_reducible rfl))); (focus assumption))
  try simp only [Act.put, List.setIfInBounds_toArray, List.set_cons_zero, List.set_cons_succ]
  (apply tkT 7 255 hg; (focus rfl); (focus rfl); (focus kernel_rfl); (focus (intro w0 hSw; (try dsimp only at hSw); go_simp; try (with_reducible rfl))); (focus assumption))
  try simp only [Act.put, List.setIfInBounds_toArray, List.set_cons_zero, List.set_cons_succ]
  (first | (apply tkT 8 511 hg; (focus rfl); (focus rfl); (focus kernel_rfl); (focus (intro w0 hSw; (try dsimp only at hSw); go_simp; try (with_reducible rfl))); (focus assumption)) | (apply tkF 8 511 hg; (focus rfl); (focus rfl); (focus kernel_rfl); (focus assumption)))
  try simp only [Act.put, List.setIfInBounds_toArray, List.set_cons_zero, List.set_cons_succ]
  (first | (apply tkT 9 1023 hg; (focus rfl); (focus rfl); (focus kernel_rfl); (focus (intro w0 hSw; (try dsimp only at hSw); go_simp; try (with_reducible rfl))); (focus assumption)) | (apply tkF 9 1023 hg; (focus rfl); (focus rfl); (focus kernel_rfl); (focus assumption)))
  try simp only [Act.put, List.setIfInBounds_toArray, List.set_cons_zero, List.set_cons_succ]
  (first | (apply tkT 10 2047 hg; (focus rfl); (focus rfl); (focus kernel_rfl); (focus (intro w0 hSw; (try dsimp only at hSw); go_simp; try (with_reducible rfl))); (focus assumption)) | (apply tkF 10 2047 hg; (focus rfl); (focus rfl); (focus kernel_rfl); (focus assumption)))
  try simp only [Act.put, List.setIfInBounds_toArray, List.set_cons_zero, List.set_cons_succ]
  (first | (apply tkT 11 4095 hg; (focus rfl); (focus rfl); (focus kernel_rfl); (focus (intro w0 hSw; (try dsimp only at hSw); go_simp; try (with_reducible rfl))); (focus assumption)) | (apply tkF 11 4095 hg; (focus rfl); (focus rfl); (focus kernel_rfl); (focus assumption)))
  try simp only [Act.put, List.setIfInBounds_toArray, List.set_cons_zero, List.set_cons_succ]
  (first | (apply tkT 12 8191 hg; (focus rfl); (focus rfl); (focus kernel_rfl); (focus (intro w0 hSw; (try dsimp only at hSw); go_simp; try (with_reducible rfl))); (focus assumption)) | (apply tkF 12 8191 hg; (focus rfl); (focus rfl); (focus kernel_rfl); (focus assumption)))
  try simp only [Act.put, List.setIfInBounds_toArray, List.set_cons_zero, List.set_cons_succ]
  (apply tkT 13 16383 hg; (focus rfl); (focus rfl); (focus kernel_rfl); (focus (intro w0 hSw; (try dsimp only at hSw); go_simp; try (with_reducible rfl))); (focus assumption))
  try simp only [Act.put, List.setIfInBounds_toArray, List.set_cons_zero, List.set_cons_succ]
  (apply tkT 14 32767 hg; (focus rfl); (focus rfl); (focus kernel_rfl); (focus (intro w0 hSw; (try dsimp only at hSw); go_simp; try (with_reducible rfl))); (focus assumption))
  try simp only [Act.put, List.setIfInBounds_toArray, List.set_cons_zero, List.set_cons_succ]
  (first | (apply tkT 15 65535 hg; (focus rfl); (focus rfl); (focus kernel_rfl); (focus (intro w0 hSw; (try dsimp only at hSw); go_simp; try (with_reducible rfl))); (focus assumption)) | (apply tkF 15 65535 hg; (focus rfl); (focus rfl); (focus kernel_rfl); (focus assumption)))
  try simp only [Act.put, List.setIfInBounds_toArray, List.set_cons_zero, List.set_cons_succ]
  (first | (apply tkT 16 131071 hg; (focus rfl); (focus rfl); (focus kernel_rfl); (focus (intro w0 hSw; (try dsimp only at hSw); go_simp; try (with_reducible rfl))); (focus assumption)) | (apply tkF 16 131071 hg; (focus rfl); (focus rfl); (focus kernel_rfl); (focus assumption)))
  try simp only [Act.put, List.setIfInBounds_toArray, List.set_cons_zero, List.set_cons_succ]
  (first | (apply tkT 17 262143 hg; (focus rfl); (focus rfl); (focus kernel_rfl); (focus (intro w0 hSw; (try dsimp only at hSw); go_simp; try (with_reducible rfl))); (focus assumption)) | (apply tkF 17 262143 hg; (focus rfl); (focus rfl); (focus kernel_rfl); (focus assumption)))
  try simp only [Act.put, List.setIfInBounds_toArray, List.set_cons_zero, List.set_cons_succ]
  (first | (apply tkT 18 524287 hg; (focus rfl); (focus rfl); (focus kernel_rfl); (focus (intro w0 hSw; (try dsimp only at hSw); go_simp; try (with_reducible rfl))); (focus assumption)) | (apply tkF 18 524287 hg; (focus rfl); (focus rfl); (focus kernel_rfl); (focus assumption)))
  try simp only [Act.put, List.setIfInBounds_toArray, List.set_cons_zero, List.set_cons_succ]
  (first | (apply tkT 19 1048575 hg; (focus rfl); (focus rfl); (focus kernel_rfl); (focus (intro w0 hSw; (try dsimp only at hSw); go_simp; try (with_reducible rfl))); (focus assumption)) | (apply tkF 19 1048575 hg; (focus rfl); (focus rfl); (focus kernel_rfl); (focus assumption)))
  try simp only [Act.put, List.setIfInBounds_toArray, List.set_cons_zero, List.set_cons_succ]
  (apply tkT 20 2097151 hg; (focus rfl); (focus rfl); (focus kernel_rfl); (focus (intro w0 hSw; (try dsimp only at hSw); go_simp; try (with_reducible rfl))); (focus assumption))
  try simp only [Act.put, List.setIfInBounds_toArray, List.set_cons_zero, List.set_cons_succ]
  (apply tkT 21 4194303 hg; (focus rfl); (focus rfl); (focus kernel_rfl); (focus (intro w0 hSw; (try dsimp only at hSw); go_simp; try (with_reducible rfl))); (focus assumption))
  try simp only [Act.put, List.setIfInBounds_toArray, List.set_cons_zero, List.set_cons_succ]
  (first | (apply tkT 22 8388607 hg; (focus rfl); (focus rfl); (focus kernel_rfl); (focus (intro w0 hSw; (try dsimp only at hSw); go_simp; try (with_reducible rfl))); (focus assumption)) | (apply tkF 22 8388607 hg; (focus rfl); (focus rfl); (focus kernel_rfl); (focus assumption)))
  try simp only [Act.put, List.setIfInBounds_toArray, List.set_cons_zero, List.set_cons_succ]
  (first | (apply tkT 23 16777215 hg; (focus rfl); (focus rfl); (focus kernel_rfl); (focus (intro w0 hSw; (try dsimp only at hSw); go_simp; try (with_reducible rfl))); (focus assumption)) | (apply tkF 23 16777215 hg; (focus rfl); (focus rfl); (focus kernel_rfl); (focus assumption)))
  try simp only [Act.put, List.setIfInBounds_toArray, List.set_cons_zero, List.set_cons_succ]
  (first | (apply tkT 24 33554431 hg; (focus rfl); (focus rfl); (focus kernel_rfl); (focus (intro w0 hSw; (try dsimp only at hSw); go_simp; try (with_reducible rfl))); (focus assumption)) | (apply tkF 24 33554431 hg; (focus rfl); (focus rfl); (focus kernel_rfl); (focus assumption)))
  try simp only [Act.put, List.setIfInBounds_toArray, List.set_cons_zero, List.set_cons_succ]
  (first | (apply tkT 25 67108863 hg; (focus rfl); (focus rfl); (focus kernel_rfl); (focus (intro w0 hSw; (try dsimp only at hSw); go_simp; try (with_reducible rfl))); (focus assumption)) | (apply tkF 25 67108863 hg; (focus rfl); (focus rfl); (focus kernel_rfl); (focus assumption)))
  try simp only [Act.put, List.setIfInBounds_toArray, List.set_cons_zero, List.set_cons_succ]
  (first | (apply tkT 26 134217727 hg; (focus rfl); (focus rfl); (focus kernel_rfl); (focus (intro w0 hSw; (try dsimp only at hSw); go_simp; try (with_reducible rfl))); (focus assumption)) | (apply tkF 26 134217727 hg; (focus rfl); (focus rfl); (focus kernel_rfl); (focus assumption)))
  try simp only [Act.put, List.setIfInBounds_toArray, List.set_cons_zero, List.set_cons_succ]
  (apply tkT 27 268435455 hg; (focus rfl); (focus rfl); (focus kernel_rfl); (focus (intro w0 hSw; (try dsimp only at hSw); go_simp; try (with_reducible rfl))); (focus assumption))
  try simp only [Act.put, List.setIfInBounds_toArray, List.set_cons_zero, List.set_cons_succ]
  (apply tkT 28 536870911 hg; (focus rfl); (focus rfl); (focus kernel_rfl); (focus (intro w0 hSw; (try dsimp only at hSw); go_simp; try (with_reducible rfl))); (focus assumption))
  try simp only [Act.put, List.setIfInBounds_toArray, List.set_cons_zero, List.set_cons_succ]
  (first | (apply tkT 29 1073741823 hg; (focus rfl); (focus rfl); (focus kernel_rfl); (focus (intro w0 hSw; (try dsimp only at hSw); go_simp; try (with_reducible rfl))); (focus assumption)) | (apply tkF 29 1073741823 hg; (focus rfl); (focus rfl); (focus kernel_rfl); (focus assumption)))
  try simp only [Act.put, List.setIfInBounds_toArray, List.set_cons_zero, List.set_cons_succ]
  (first | (apply tkT 30 2147483647 hg; (focus rfl); (focus rfl); (focus kernel_rfl); (focus (intro w0 hSw; (try dsimp only at hSw); go_simp; try (with_reducible rfl))); (focus assumption)) | (apply tkF 30 2147483647 hg; (focus rfl); (focus rfl); (focus kernel_rfl); (focus assumption)))
  try simp only [Act.put, List.setIfInBounds_toArray, List.set_cons_zero, List.set_cons_succ]
  (first | (apply tkT 31 4294967295 hg; (focus rfl); (focus rfl); (focus kernel_rfl); (focus (intro w0 hSw; (try dsimp only at hSw); go_simp; try (with_reducible rfl))); (focus assumption)) | (apply tkF 31 4294967295 hg; (focus rfl); (focus rfl); (focus kernel_rfl); (focus assumption)))
  try simp only [Act.put, List.setIfInBounds_toArray, List.set_cons_zero, List.set_cons_succ]
  (first | (apply tkT 32 8589934591 hg; (focus rfl); (focus rfl); (focus kernel_rfl); (focus (intro w0 hSw; (try dsimp only at hSw); go_simp; try (with_reducible rfl))); (focus assumption)) | (apply tkF 32 8589934591 hg; (focus rfl); (focus rfl); (focus kernel_rfl); (focus assumption)))
  try simp only [Act.put, List.setIfInBounds_toArray, List.set_cons_zero, List.set_cons_succ]
  (first | (apply tkT 33 17179869183 hg; (focus rfl); (focus rfl); (focus kernel_rfl); (focus (intro w0 hSw; (try dsimp only at hSw); go_simp; try (with_reducible rfl))); (focus assumption)) | (apply tkF 33 17179869183 hg; (focus rfl); (focus rfl); (focus kernel_rfl); (focus assumption)))
  try simp only [Act.put, List.setIfInBounds_toArray, List.set_cons_zero, List.set_cons_succ]
  (apply tkT 34 34359738367 hg; (focus rfl); (focus rfl); (focus kernel_rfl); (focus (intro w0 hSw; (try dsimp only at hSw); go_simp; try (with_reducible rfl))); (focus assumption))
  try simp only [Act.put, List.setIfInBounds_toArray, List.set_cons_zero, List.set_cons_succ]
  (apply tkT 35 68719476735 hg; (focus rfl); (focus rfl); (focus kernel_rfl); (focus (intro w0 hSw; (try dsimp only at hSw); go_simp; try (with_reducible rfl))); (focus assumption))
  try simp only [Act.put, List.setIfInBounds_toArray, List.set_cons_zero, List.set_cons_succ]
  (first | (apply tkT 36 137438953471 hg; (focus rfl); (focus rfl); (focus kernel_rfl); (focus (intro w0 hSw; (try dsimp only at hSw); go_simp; try (with_reducible rfl))); (focus assumption)) | (apply tkF 36 137438953471 hg; (focus rfl); (focus rfl); (focus kernel_rfl); (focus assumption)))
  try simp only [Act.put, List.setIfInBounds_toArray, List.set_cons_zero, List.set_cons_succ]
  (first | (apply tkT 37 274877906943 hg; (focus rfl); (focus rfl); (focus kernel_rfl); (focus (intro w0 hSw; (try dsimp only at hSw); go_simp; try (with_reducible rfl))); (focus assumption)) | (apply tkF 37 274877906943 hg; (focus rfl); (focus rfl); (focus kernel_rfl); (focus assumption)))
  try simp only [Act.put, List.setIfInBounds_toArray, List.set_cons_zero, List.set_cons_succ]
  (first | (apply tkT 38 549755813887 hg; (focus rfl); (focus rfl); (focus kernel_rfl); (focus (intro w0 hSw; (try dsimp only at hSw); go_simp; try (with_reducible rfl))); (focus assumption)) | (apply tkF 38 549755813887 hg; (focus rfl); (focus rfl); (focus kernel_rfl); (focus assumption)))
  try simp only [Act.put, List.setIfInBounds_toArray, List.set_cons_zero, List.set_cons_succ]
  (first | (apply tkT 39 1099511627775 hg; (focus rfl); (focus rfl); (focus kernel_rfl); (focus (intro w0 hSw; (try dsimp only at hSw); go_simp; try (with_reducible rfl))); (focus assumption)) | (apply tkF 39 1099511627775 hg; (focus rfl); (focus rfl); (focus kernel_rfl); (focus assumption)))
  try simp only [Act.put, List.setIfInBounds_toArray, List.set_cons_zero, List.set_cons_succ]
  (first | (apply tkT 40 2199023255551 hg; (focus rfl); (focus rfl); (focus kernel_rfl); (focus (intro w0 hSw; (try dsimp only at hSw); go_simp; try (with_reducible rfl))); (focus assumption)) | (apply tkF 40 2199023255551 hg; (focus rfl); (focus rfl); (focus kernel_rfl); (focus assumption)))
  try simp only [Act.put, List.setIfInBounds_toArray, List.set_cons_zero, List.set_cons_succ]
  (apply tkT 41 4398046511103 hg; (focus rfl); (focus rfl); (focus kernel_rfl); (focus (intro w0 hSw; (try dsimp only at hSw); go_simp; try (with_reducible rfl))); (focus assumption))
  try simp only [Act.put, List.setIfInBounds_toArray, List.set_cons_zero, List.set_cons_succ]
  (apply tkT 42 8796093022207 hg; (focus rfl); (focus rfl); (focus kernel_rfl); (focus (intro w0 hSw; (try dsimp only at hSw); go_simp; try (with_reducible rfl))); (focus assumption))
  try simp only [Act.put, List.setIfInBounds_toArray, List.set_cons_zero, List.set_cons_succ]
  (first | (apply tkT 43 17592186044415 hg; (focus rfl); (focus rfl); (focus kernel_rfl); (focus (intro w0 hSw; (try dsimp only at hSw); go_simp; try (with_reducible rfl))); (focus assumption)) | (apply tkF 43 17592186044415 hg; (focus rfl); (focus rfl); (focus kernel_rfl); (focus assumption)))
  try simp only [Act.put, List.setIfInBounds_toArray, List.set_cons_zero, List.set_cons_succ]
  (first | (apply tkT 44 35184372088831 hg; (focus rfl); (focus rfl); (focus kernel_rfl); (focus (intro w0 hSw; (try dsimp only at hSw); go_simp; try (with_reducible rfl))); (focus assumption)) | (apply tkF 44 35184372088831 hg; (focus rfl); (focus rfl); (focus kernel_rfl); (focus assumption)))
  try simp only [Act.put, List.setIfInBounds_toArray, List.set_cons_zero, List.set_cons_succ]
  (first | (apply tkT 45 70368744177663 hg; (focus rfl); (focus rfl); (focus kernel_rfl); (focus (intro w0 hSw; (try dsimp only at hSw); go_simp; try (with_reducible rfl))); (focus assumption)) | (apply tkF 45 70368744177663 hg; (focus rfl); (focus rfl); (focus kernel_rfl); (focus assumption)))
  try simp only [Act.put, List.setIfInBounds_toArray, List.set_cons_zero, List.set_cons_succ]
  (first | (apply tkT 46 140737488355327 hg; (focus rfl); (focus rfl); (focus kernel_rfl); (focus (intro w0 hSw; (try dsimp only at hSw); go_simp; try (with_reducible rfl))); (focus assumption)) | (apply tkF 46 140737488355327 hg; (focus rfl); (focus rfl); (focus kernel_rfl); (focus assumption)))
  try simp only [Act.put, List.setIfInBounds_toArray, List.set_cons_zero, List.set_cons_succ]
  (first | (apply tkT 47 281474976710655 hg; (focus rfl); (focus rfl); (focus kernel_rfl); (focus (intro w0 hSw; (try dsimp only at hSw); go_simp; try (with_reducible rfl))); (focus assumption)) | (apply tkF 47 281474976710655 hg; (focus rfl); (focus rfl); (focus kernel_rfl); (focus assumption)))
  try simp only [Act.put, List.setIfInBounds_toArray, List.set_cons_zero, List.set_cons_succ]
  (apply tkT 48 562949953421311 hg; (focus rfl); (focus rfl); (focus kernel_rfl); (focus (intro w0 hSw; (try dsimp only at hSw); go_simp; try (with_reducible rfl))); (focus assumption))
  try simp only [Act.put, List.setIfInBounds_toArray, List.set_cons_zero, List.set_cons_succ]
  (apply tkT 49 1125899906842623 hg; (focus rfl); (focus rfl); (focus kernel_rfl); (focus (intro w0 hSw; (try dsimp only at hSw); go_simp; try (with_reducible rfl))); (focus assumption))
  try simp only [Act.put, List.setIfInBounds_toArray, List.set_cons_zero, List.set_cons_succ]
  (first | (apply tkT 50 2251799813685247 hg; (focus rfl); (focus rfl); (focus kernel_rfl); (focus (intro w0 hSw; (try dsimp only at hSw); go_simp; try (with_reducible rfl))); (focus assumption)) | (apply tkF 50 2251799813685247 hg; (focus rfl); (focus rfl); (focus kernel_rfl); (focus assumption)))
  try simp only [Act.put, List.setIfInBounds_toArray, List.set_cons_zero, List.set_cons_succ]
  (first | (apply tkT 51 4503599627370495 hg; (focus rfl); (focus rfl); (focus kernel_rfl); (focus (intro w0 hSw; (try dsimp only at hSw); go_simp; try (with_reducible rfl))); (focus assumption)) | (apply tkF 51 4503599627370495 hg; (focus rfl); (focus rfl); (focus kernel_rfl); (focus assumption)))
  try simp only [Act.put, List.setIfInBounds_toArray, List.set_cons_zero, List.set_cons_succ]
  (first | (apply tkT 52 9007199254740991 hg; (focus rfl); (focus rfl); (focus kernel_rfl); (focus (intro w0 hSw; (try dsimp only at hSw); go_simp; try (with_reducible rfl))); (focus assumption)) | (apply tkF 52 9007199254740991 hg; (focus rfl); (focus rfl); (focus kernel_rfl); (focus assumption)))
  try simp only [Act.put, List.setIfInBounds_toArray, List.set_cons_zero, List.set_cons_succ]
  (first | (apply tkT 53 18014398509481983 hg; (focus rfl); (focus rfl); (focus kernel_rfl); (focus (intro w0 hSw; (try dsimp only at hSw); go_simp; try (with_reducible rfl))); (focus assumption)) | (apply tkF 53 18014398509481983 hg; (focus rfl); (focus rfl); (focus kernel_rfl); (focus assumption)))
  try simp only [Act.put, List.setIfInBounds_toArray, List.set_cons_zero, List.set_cons_succ]
  (apply tkF 54 36028797018963967 hg; (focus rfl); (focus rfl); (focus kernel_rfl); (focus assumption))
  try simp only [Act.put, List.setIfInBounds_toArray, List.set_cons_zero, List.set_cons_succ]
  (apply tkT 55 72057594037927935 hg; (focus rfl); (focus rfl); (focus kernel_rfl); (focus (intro w0 hSw; (try dsimp only at hSw); go_simp; try (with_reducible rfl))); (focus assumption))
  try simp only [Act.put, List.setIfInBounds_toArray, List.set_cons_zero, List.set_cons_succ]
  (apply tkT 56 144115188075855871 hg; (focus rfl); (focus rfl); (focus kernel_rfl); (focus (intro w0 hSw; (try dsimp only at hSw); go_simp; try (with_reducible rfl))); (focus assumption))
  try simp only [Act.put, List.setIfInBounds_toArray, List.set_cons_zero, List.set_cons_succ]
  (first | (apply tkT 57 288230376151711743 hg; (focus rfl); (focus rfl); (focus kernel_rfl); (focus (intro w0 hSw; (try dsimp only at hSw); go_simp; try (with_reducible rfl))); (focus assumption)) | (apply tkF 57 288230376151711743 hg; (focus rfl); (focus rfl); (focus kernel_rfl); (focus assumption)))
  try simp only [Act.put, List.setIfInBounds_toArray, List.set_cons_zero, List.set_cons_succ]
  (first | (apply tkT 58 576460752303423487 hg; (focus rfl); (focus rfl); (focus kernel_rfl); (focus (intro w0 hSw; (try dsimp only at hSw); go_simp; try (with_reducible rfl))); (focus assumption)) | (apply tkF 58 576460752303423487 hg; (focus rfl); (focus rfl); (focus kernel_rfl); (focus assumption)))
  try simp only [Act.put, List.setIfInBounds_toArray, List.set_cons_zero, List.set_cons_succ]
  (first | (apply tkT 59 1152921504606846975 hg; (focus rfl); (focus rfl); (focus kernel_rfl); (focus (intro w0 hSw; (try dsimp only at hSw); go_simp; try (with_reducible rfl))); (focus assumption)) | (apply tkF 59 1152921504606846975 hg; (focus rfl); (focus rfl); (focus kernel_rfl); (focus assumption)))
  try simp only [Act.put, List.setIfInBounds_toArray, List.set_cons_zero, List.set_cons_succ]
  (first | (apply tkT 60 2305843009213693951 hg; (focus rfl); (focus rfl); (focus kernel_rfl); (focus (intro w0 hSw; (try dsimp only at hSw); go_simp; try (with_reducible rfl))); (focus assumption)) | (apply tkF 60 2305843009213693951 hg; (focus rfl); (focus rfl); (focus kernel_rfl); (focus assumption)))
  try simp only [Act.put, List.setIfInBounds_toArray, List.set_cons_zero, List.set_cons_succ]
  (apply tkF 61 4611686018427387903 hg; (focus rfl); (focus rfl); (focus kernel_rfl); (focus assumption))
  try simp only [Act.put, List.setIfInBounds_toArray, List.set_cons_zero, List.set_cons_succ]
  (apply tkT 62 9223372036854775807 hg; (focus rfl); (focus rfl); (focus kernel_rfl); (focus (intro w0 hSw; (try dsimp only at hSw); go_simp; try (with_reducible rfl))); (focus assumption))
  try simp only [Act.put, List.setIfInBounds_toArray, List.set_cons_zero, List.set_cons_succ]
  (apply tkT 63 18446744073709551615 hg; (focus rfl); (focus rfl); (focus kernel_rfl); (focus (intro w0 hSw; (try dsimp only at hSw); go_simp; try (with_reducible rfl))); (focus assumption))
  try simp only [Act.put, List.setIfInBounds_toArray, List.set_cons_zero, List.set_cons_succ]
  (first | (apply tkT 64 36893488147419103231 hg; (focus rfl); (focus rfl); (focus kernel_rfl); (focus (intro w0 hSw; (try dsimp only at hSw); go_simp; try (with_reducible rfl))); (focus assumption)) | (apply tkF 64 36893488147419103231 hg; (focus rfl); (focus rfl); (focus kernel_rfl); (focus assumption)))
  try simp only [Act.put, List.setIfInBounds_toArray, List.set_cons_zero, List.set_cons_succ]
  (first | (apply tkT 65 73786976294838206463 hg; (focus rfl); (focus rfl); (focus kernel_rfl); (focus (intro w0 hSw; (try dsimp only at hSw); go_simp; try (with_reducible rfl))); (focus assumption)) | (apply tkF 65 73786976294838206463 hg; (focus rfl); (focus rfl); (focus kernel_rfl); (focus assumption)))
  try simp only [Act.put, List.setIfInBounds_toArray, List.set_cons_zero, List.set_cons_succ]
  (first | (apply tkT 66 147573952589676412927 hg; (focus rfl); (focus rfl); (focus kernel_rfl); (focus (intro w0 hSw; (try dsimp only at hSw); go_simp; try (with_reducible rfl))); (focus assumption)) | (apply tkF 66 147573952589676412927 hg; (focus rfl); (focus rfl); (focus kernel_rfl); (focus assumption)))
  try simp only [Act.put, List.setIfInBounds_toArray, List.set_cons_zero, List.set_cons_succ]
  (first | (apply tkT 67 295147905179352825855 hg; (focus rfl); (focus rfl); (focus kernel_rfl); (focus (intro w0 hSw; (try dsimp only at hSw); go_simp; try (with_reducible rfl))); (focus assumption)) | (apply tkF 67 295147905179352825855 hg; (focus rfl); (focus rfl); (focus kernel_rfl); (focus assumption)))
  try simp only [Act.put, List.setIfInBounds_toArray, List.set_cons_zero, List.set_cons_succ]
  (first | (apply tkT 68 590295810358705651711 hg; (focus rfl); (focus rfl); (focus kernel_rfl); (focus (intro w0 hSw; (try dsimp only at hSw); go_simp; try (with_reducible rfl))); (focus assumption)) | (apply tkF 68 590295810358705651711 hg; (focus rfl); (focus rfl); (focus kernel_rfl); (focus assumption)))
  try simp only [Act.put, List.setIfInBounds_toArray, List.set_cons_zero, List.set_cons_succ]
  (apply tkF 69 1180591620717411303423 hg; (focus rfl); (focus rfl); (focus kernel_rfl); (focus assumption))
  try simp only [Act.put, List.setIfInBounds_toArray, List.set_cons_zero, List.set_cons_succ]
  (apply tkT 70 2361183241434822606847 hg; (focus rfl); (focus rfl); (focus kernel_rfl); (focus (intro w0 hSw; (try dsimp only at hSw); go_simp; try (with_reducible rfl))); (focus assumption))
  try simp only [Act.put, List.setIfInBounds_toArray, List.set_cons_zero, List.set_cons_succ]
  (apply tkT 71 4722366482869645213695 hg; (focus rfl); (focus rfl); (focus kernel_rfl); (focus (intro w0 hSw; (try dsimp only at hSw); go_simp; try (with_reducible rfl))); (focus assumption))
  try simp only [Act.put, List.setIfInBounds_toArray, List.set_cons_zero, List.set_cons_succ]
  refine actE hg (by kernel_rfl) ?_
  go_wp2
  go_ret
  exact ⟨ret_bool (by simp), HB0.out.trans c3⟩

set_option maxRecDepth 100000 in
set_option maxHeartbeats 2000000 in
theorem same_case1 (j k : Job) (a b : JA) (w : World) (S : Nat → Prop) (hS : Sub S w) (hj : j.ok w S a) (hk : k.ok w S b) (hl : j.stack.length ≤ 1000) (hn : ∀ f ∈ j.stack, f.names.length ≤ 100000) (hl2 : j.names.length ≤ 100000) (hl3 : j.draws.length ≤ 100000)
    (h0 : (decide (j.nums = k.nums)) = true)
    (h1 : (j.path.toList == k.path.toList) = false) :
    Calls Tryd.prog 16 #[.agg (j.cells a).toArray, .agg (k.cells b).toArray] w (RetB w false) := by
  have HJ := Lib.hid hj
  have HK := Lib.hid hk
  have HN := Lib.hid hn
  clear hj hk hn
  have heq := fun w => eqArr (w := w) j.nums k.nums rfl rfl
  rw [h0] at heq
  clear h0
  unfold Job.cells
  go_enter Tryd.func16, Tryd.ntmps16
  go_wp2_with (first | (apply ld_row 27 19; (focus rfl); (focus go_simp); (focus (go_simp; rfl)); (focus (exact Tryd.underlying27)); (focus kernel_rfl)) | (apply st_row 27 19; (focus rfl); (focus rfl); (focus go_simp); (focus kernel_rfl); (focus rfl); (focus (first | (simp [Value.oneCell']; done) | (simp [Value.oneCell', Job.cells]; done)))) | fail)
  refine Code.at_ fun W hW => ?_
  have B0 : Below w.heap.size w W := by rw [hW]; repeat' (first | with_reducible refine Below.alloc ?_ ?_ _ | with_reducible refine Below.setRow_ ?_ ?_ _ | with_reducible refine Below.setCell ?_ ?_ _ | with_reducible refine Below.drew ?_ | with_reducible refine Below.drewN_ ?_ _ | with_reducible exact Below.refl _ _ | assumption | (simp; done) | (simp; omega) | omega)
  have k0 := heap_at (W := W) (b := w.heap.size) (by rw [hW]; exact blk_old (blk_new _ rfl) _)
  have k1 := heap_at (W := W) (b := w.heap.size + 1) (by rw [hW]; exact blk_new _ (by simp))
  have i0 := isRow_of k0
  have i1 := isRow_of k1
  have r0 := row_of k0
  have r1 := row_of k1
  have HB0 := Lib.hid B0
  clear k0 k1 hW B0
  dsimp only [List.append]
  refine reg0 72 (fun w' => isRow w' w.heap.size = true ∧ isRow w' (w.heap.size + 1) = true ∧ row w' w.heap.size = (j.cells a).toArray ∧ row w' (w.heap.size + 1) = (k.cells b).toArray) (by kernel_rfl) (by kernel_rfl) (by kernel_rfl) ?_ (fun l hg hHeld => ?_)
  · (try dsimp only); (first | exact ⟨i03, i13, r03, r13⟩ | exact ⟨i02, i12, r02, r12⟩ | exact ⟨i0, i1, r0, r1⟩)
  (apply tkT 0 1 hg; (focus rfl); (focus rfl); (focus kernel_rfl); (focus (intro w0 hSw; (try dsimp only at hSw); go_simp; try (with_reducible rfl))); (focus assumption))
  try simp only [Act.put, List.setIfInBounds_toArray, List.set_cons_zero, List.set_cons_succ]
  (apply tkT 1 3 hg; (focus rfl); (focus rfl); (focus kernel_rfl); (focus (intro w0 hSw; (try dsimp only at hSw); go_simp; try (with_reducible rfl))); (focus assumption))
  try simp only [Act.put, List.setIfInBounds_toArray, List.set_cons_zero, List.set_cons_succ]
  (apply tkT 3 11 hg; (focus rfl); (focus rfl); (focus kernel_rfl); (focus (intro w0 hSw; (try dsimp only at hSw); go_simp; try (with_reducible rfl))); (focus assumption))
  try simp only [Act.put, List.setIfInBounds_toArray, List.set_cons_zero, List.set_cons_succ]
  (apply tkT 4 27 hg; (focus rfl); (focus rfl); (focus kernel_rfl); (focus (intro w0 hSw; (try dsimp only at hSw); go_simp; try (with_reducible rfl))); (focus assumption))
  try simp only [Act.put, List.setIfInBounds_toArray, List.set_cons_zero, List.set_cons_succ]
  (apply act1 2 31 hg; (focus rfl); (focus rfl); (focus kernel_rfl))
  intro K hK
  go_simp
  refine (same1_calls j a _).mono ?_; rintro e w2 ⟨rfl, hb2⟩; replace hb2 := Below.undrew hb2; have i02 := isRow_call hb2 i0; have i12 := isRow_call hb2 i1; have r02 := row_call hb2 i0 r0; have r12 := row_call hb2 i1 r1
  refine hK.out _ _ ?_ (fun hHeld => ?_)
  · (try dsimp only); (first | exact ⟨i03, i13, r03, r13⟩ | exact ⟨i02, i12, r02, r12⟩ | exact ⟨i0, i1, r0, r1⟩)
  clear hK K
  try simp only [Act.put, List.setIfInBounds_toArray, List.set_cons_zero, List.set_cons_succ]
  (apply act1 5 63 hg; (focus rfl); (focus rfl); (focus kernel_rfl))
  intro K hK
  go_simp
  refine (same1_calls k b _).mono ?_; rintro e w3 ⟨rfl, hb3⟩; have i03 := isRow_call hb3 i02; have i13 := isRow_call hb3 i12; have r03 := row_call hb3 i02 r02; have r13 := row_call hb3 i12 r12; have c3 := (hb2.mono HB0.out.size).trans (hb3.mono (HB0.out.trans (hb2.mono HB0.out.size)).size)
  refine hK.out _ _ ?_ (fun hHeld => ?_)
  · (try dsimp only); (first | exact ⟨i03, i13, r03, r13⟩ | exact ⟨i02, i12, r02, r12⟩ | exact ⟨i0, i1, r0, r1⟩)
  clear hK K
  try simp only [Act.put, List.setIfInBounds_toArray, List.set_cons_zero, List.set_cons_succ]
  (apply tkT 6 127 hg; (focus rfl); (focus rfl); (focus kernel_rfl); (focus (intro w0 hSw; (try dsimp only at hSw); go_simp; try (with_reducible rfl))); (focus assumption))
  try simp only [Act.put, List.setIfInBounds_toArray, List.set_cons_zero, List.set_cons_succ]
  (apply tkT 7 255 hg; (focus rfl); (focus rfl); (focus kernel_rfl); (focus (intro w0 hSw; (try dsimp only at hSw); go_simp; try (with_reducible rfl))); (focus assumption))
  try simp only [Act.put, List.setIfInBounds_toArray, List.set_cons_zero, List.set_cons_succ]
  (first | (apply tkT 8 511 hg; (focus rfl); (focus rfl); (focus kernel_rfl); (focus (intro w0 hSw; (try dsimp only at hSw); go_simp; try (with_reducible rfl))); (focus assumption)) | (apply tkF 8 511 hg; (focus rfl); (focus rfl); (focus kernel_rfl); (focus assumption)))
  try simp only [Act.put, List.setIfInBounds_toArray, List.set_cons_zero, List.set_cons_succ]
  (first | (apply tkT 9 1023 hg; (focus rfl); (focus rfl); (focus kernel_rfl); (focus (intro w0 hSw; (try dsimp only at hSw); go_simp; try (with_reducible rfl))); (focus assumption)) | (apply tkF 9 1023 hg; (focus rfl); (focus rfl); (focus kernel_rfl); (focus assumption)))
  try simp only [Act.put, List.setIfInBounds_toArray, List.set_cons_zero, List.set_cons_succ]
  (first | (apply tkT 10 2047 hg; (focus rfl); (focus rfl); (focus kernel_rfl); (focus (intro w0 hSw; (try dsimp only at hSw); go_simp; try (with_reducible rfl))); (focus assumption)) | (apply tkF 10 2047 hg; (focus rfl); (focus rfl); (focus kernel_rfl); (focus assumption)))
  try simp only [Act.put, List.setIfInBounds_toArray, List.set_cons_zero, List.set_cons_succ]
  (first | (apply tkT 11 4095 hg; (focus rfl); (focus rfl); (focus kernel_rfl); (focus (intro w0 hSw; (try dsimp only at hSw); go_simp; try (with_reducible rfl))); (focus assumption)) | (apply tkF 11 4095 hg; (focus rfl); (focus rfl); (focus kernel_rfl); (focus assumption)))
  try simp only [Act.put, List.setIfInBounds_toArray, List.set_cons_zero, List.set_cons_succ]
  (first | (apply tkT 12 8191 hg; (focus rfl); (focus rfl); (focus kernel_rfl); (focus (intro w0 hSw; (try dsimp only at hSw); go_simp; try (with_reducible rfl))); (focus assumption)) | (apply tkF 12 8191 hg; (focus rfl); (focus rfl); (focus kernel_rfl); (focus assumption)))
  try simp only [Act.put, List.setIfInBounds_toArray, List.set_cons_zero, List.set_cons_succ]
  (apply tkT 13 16383 hg; (focus rfl); (focus rfl); (focus kernel_rfl); (focus (intro w0 hSw; (try dsimp only at hSw); go_simp; try (with_reducible rfl))); (focus assumption))
  try simp only [Act.put, List.setIfInBounds_toArray, List.set_cons_zero, List.set_cons_succ]
  (apply tkT 14 32767 hg; (focus rfl); (focus rfl); (focus kernel_rfl); (focus (intro w0 hSw; (try dsimp only at hSw); go_simp; try (with_reducible rfl))); (focus assumption))
  try simp only [Act.put, List.setIfInBounds_toArray, List.set_cons_zero, List.set_cons_succ]
  (first | (apply tkT 15 65535 hg; (focus rfl); (focus rfl); (focus kernel_rfl); (focus (intro w0 hSw; (try dsimp only at hSw); go_simp; try (with_reducible rfl))); (focus assumption)) | (apply tkF 15 65535 hg; (focus rfl); (focus rfl); (focus kernel_rfl); (focus assumption)))
  try simp only [Act.put, List.setIfInBounds_toArray, List.set_cons_zero, List.set_cons_succ]
  (first | (apply tkT 16 131071 hg; (focus rfl); (focus rfl); (focus kernel_rfl); (focus (intro w0 hSw; (try dsimp only at hSw); go_simp; try (with_reducible rfl))); (focus assumption)) | (apply tkF 16 131071 hg; (focus rfl); (focus rfl); (focus kernel_rfl); (focus assumption)))
  try simp only [Act.put, List.setIfInBounds_toArray, List.set_cons_zero, List.set_cons_succ]
  (first | (apply tkT 17 262143 hg; (focus rfl); (focus rfl); (focus kernel_rfl); (focus (intro w0 hSw; (try dsimp only at hSw); go_simp; try (with_reducible rfl))); (focus assumption)) | (apply tkF 17 262143 hg; (focus rfl); (focus rfl); (focus kernel_rfl); (focus assumption)))
  try simp only [Act.put, List.setIfInBounds_toArray, List.set_cons_zero, List.set_cons_succ]
  (first | (apply tkT 18 524287 hg; (focus rfl); (focus rfl); (focus kernel_rfl); (focus (intro w0 hSw; (try dsimp only at hSw); go_simp; try (with_reducible rfl))); (focus assumption)) | (apply tkF 18 524287 hg; (focus rfl); (focus rfl); (focus kernel_rfl); (focus assumption)))
  try simp only [Act.put, List.setIfInBounds_toArray, List.set_cons_zero, List.set_cons_succ]
  (first | (apply tkT 19 1048575 hg; (focus rfl); (focus rfl); (focus kernel_rfl); (focus (intro w0 hSw; (try dsimp only at hSw); go_simp; try (with_reducible rfl))); (focus assumption)) | (apply tkF 19 1048575 hg; (focus rfl); (focus rfl); (focus kernel_rfl); (focus assumption)))
  try simp only [Act.put, List.setIfInBounds_toArray, List.set_cons_zero, List.set_cons_succ]
  (apply tkT 20 2097151 hg; (focus rfl); (focus rfl); (focus kernel_rfl); (focus (intro w0 hSw; (try dsimp only at hSw); go_simp; try (with_reducible rfl))); (focus assumption))
  try simp only [Act.put, List.setIfInBounds_toArray, List.set_cons_zero, List.set_cons_succ]
  (apply tkT 21 4194303 hg; (focus rfl); (focus rfl); (focus kernel_rfl); (focus (intro w0 hSw; (try dsimp only at hSw); go_simp; try (with_reducible rfl))); (focus assumption))
  try simp only [Act.put, List.setIfInBounds_toArray, List.set_cons_zero, List.set_cons_succ]
  (first | (apply tkT 22 8388607 hg; (focus rfl); (focus rfl); (focus kernel_rfl); (focus (intro w0 hSw; (try dsimp only at hSw); go_simp; try (with_reducible rfl))); (focus assumption)) | (apply tkF 22 8388607 hg; (focus rfl); (focus rfl); (focus kernel_rfl); (focus assumption)))
  try simp only [Act.put, List.setIfInBounds_toArray, List.set_cons_zero, List.set_cons_succ]
  (first | (apply tkT 23 16777215 hg; (focus rfl); (focus rfl); (focus kernel_rfl); (focus (intro w0 hSw; (try dsimp only at hSw); go_simp; try (with_reducible rfl))); (focus assumption)) | (apply tkF 23 16777215 hg; (focus rfl); (focus rfl); (focus kernel_rfl); (focus assumption)))
  try simp only [Act.put, List.setIfInBounds_toArray, List.set_cons_zero, List.set_cons_succ]
  (first | (apply tkT 24 33554431 hg; (focus rfl); (focus rfl); (focus kernel_rfl); (focus (intro w0 hSw; (try dsimp only at hSw); go_simp; try (with_reducible rfl))); (focus assumption)) | (apply tkF 24 33554431 hg; (focus rfl); (focus rfl); (focus kernel_rfl); (focus assumption)))
  try simp only [Act.put, List.setIfInBounds_toArray, List.set_cons_zero, List.set_cons_succ]
  (first | (apply tkT 25 67108863 hg; (focus rfl); (focus rfl); (focus kernel_rfl); (focus (intro w0 hSw; (try dsimp only at hSw); go_simp; try (with_reducible rfl))); (focus assumption)) | (apply tkF 25 67108863 hg; (focus rfl); (focus rfl); (focus kernel_rfl); (focus assumption)))
  try simp only [Act.put, List.setIfInBounds_toArray, List.set_cons_zero, List.set_cons_succ]
  (first | (apply tkT 26 134217727 hg; (focus rfl); (focus rfl); (focus kernel_rfl); (focus (intro w0 hSw; (try dsimp only at hSw); go_simp; try (with_reducible rfl))); (focus assumption)) | (apply tkF 26 134217727 hg; (focus rfl); (focus rfl); (focus kernel_rfl); (focus assumption)))
  try simp only [Act.put, List.setIfInBounds_toArray, List.set_cons_zero, List.set_cons_succ]
  (apply tkT 27 268435455 hg; (focus rfl); (focus rfl); (focus kernel_rfl); (focus (intro w0 hSw; (try dsimp only at hSw); go_simp; try (with_reducible rfl))); (focus assumption))
  try simp only [Act.put, List.setIfInBounds_toArray, List.set_cons_zero, List.set_cons_succ]
  (apply tkT 28 536870911 hg; (focus rfl); (focus rfl); (focus kernel_rfl); (focus (intro w0 hSw; (try dsimp only at hSw); go_simp; try (with_reducible rfl))); (focus assumption))
  try simp only [Act.put, List.setIfInBounds_toArray, List.set_cons_zero, List.set_cons_succ]
  (first | (apply tkT 29 1073741823 hg; (focus rfl); (focus rfl); (focus kernel_rfl); (focus (intro w0 hSw; (try dsimp only at hSw); go_simp; try (with_reducible rfl))); (focus assumption)) | (apply tkF 29 1073741823 hg; (focus rfl); (focus rfl); (focus kernel_rfl); (focus assumption)))
  try simp only [Act.put, List.setIfInBounds_toArray, List.set_cons_zero, List.set_cons_succ]
  (first | (apply tkT 30 2147483647 hg; (focus rfl); (focus rfl); (focus kernel_rfl); (focus (intro w0 hSw; (try dsimp only at hSw); go_simp; try (with_reducible rfl))); (focus assumption)) | (apply tkF 30 2147483647 hg; (focus rfl); (focus rfl); (focus kernel_rfl); (focus assumption)))
  try simp only [Act.put, List.setIfInBounds_toArray, List.set_cons_zero, List.set_cons_succ]
  (first | (apply tkT 31 4294967295 hg; (focus rfl); (focus rfl); (focus kernel_rfl); (focus (intro w0 hSw; (try dsimp only at hSw); go_simp; try (with_reducible rfl))); (focus assumption)) | (apply tkF 31 4294967295 hg; (focus rfl); (focus rfl); (focus kernel_rfl); (focus assumption)))
  try simp only [Act.put, List.setIfInBounds_toArray, List.set_cons_zero, List.set_cons_succ]
  (first | (apply tkT 32 8589934591 hg; (focus rfl); (focus rfl); (focus kernel_rfl); (focus (intro w0 hSw; (try dsimp only at hSw); go_simp; try (with_reducible rfl))); (focus assumption)) | (apply tkF 32 8589934591 hg; (focus rfl); (focus rfl); (focus kernel_rfl); (focus assumption)))
  try simp only [Act.put, List.setIfInBounds_toArray, List.set_cons_zero, List.set_cons_succ]
  (first | (apply tkT 33 17179869183 hg; (focus rfl); (focus rfl); (focus kernel_rfl); (focus (intro w0 hSw; (try dsimp only at hSw); go_simp; try (with_reducible rfl))); (focus assumption)) | (apply tkF 33 17179869183 hg; (focus rfl); (focus rfl); (focus kernel_rfl); (focus assumption)))
  try simp only [Act.put, List.setIfInBounds_toArray, List.set_cons_zero, List.set_cons_succ]
  (apply tkT 34 34359738367 hg; (focus rfl); (focus rfl); (focus kernel_rfl); (focus (intro w0 hSw; (try dsimp only at hSw); go_simp; try (with_reducible rfl))); (focus assumption))
  try simp only [Act.put, List.setIfInBounds_toArray, List.set_cons_zero, List.set_cons_succ]
  (apply tkT 35 68719476735 hg; (focus rfl); (focus rfl); (focus kernel_rfl); (focus (intro w0 hSw; (try dsimp only at hSw); go_simp; try (with_reducible rfl))); (focus assumption))
  try simp only [Act.put, List.setIfInBounds_toArray, List.set_cons_zero, List.set_cons_succ]
  (first | (apply tkT 36 137438953471 hg; (focus rfl); (focus rfl); (focus kernel_rfl); (focus (intro w0 hSw; (try dsimp only at hSw); go_simp; try (with_reducible rfl))); (focus assumption)) | (apply tkF 36 137438953471 hg; (focus rfl); (focus rfl); (focus kernel_rfl); (focus assumption)))
  try simp only [Act.put, List.setIfInBounds_toArray, List.set_cons_zero, List.set_cons_succ]
  (first | (apply tkT 37 274877906943 hg; (focus rfl); (focus rfl); (focus kernel_rfl); (focus (intro w0 hSw; (try dsimp only at hSw); go_simp; try (with_reducible rfl))); (focus assumption)) | (apply tkF 37 274877906943 hg; (focus rfl); (focus rfl); (focus kernel_rfl); (focus assumption)))
  try simp only [Act.put, List.setIfInBounds_toArray, List.set_cons_zero, List.set_cons_succ]
  (first | (apply tkT 38 549755813887 hg; (focus rfl); (focus rfl); (focus kernel_rfl); (focus (intro w0 hSw; (try dsimp only at hSw); go_simp; try (with_reducible rfl))); (focus assumption)) | (apply tkF 38 549755813887 hg; (focus rfl); (focus rfl); (focus kernel_rfl); (focus assumption)))
  try simp only [Act.put, List.setIfInBounds_toArray, List.set_cons_zero, List.set_cons_succ]
  (first | (apply tkT 39 1099511627775 hg; (focus rfl); (focus rfl); (focus kernel_rfl); (focus (intro w0 hSw; (try dsimp only at hSw); go_simp; try (with_reducible rfl))); (focus assumption)) | (apply tkF 39 1099511627775 hg; (focus rfl); (focus rfl); (focus kernel_rfl); (focus assumption)))
  try simp only [Act.put, List.setIfInBounds_toArray, List.set_cons_zero, List.set_cons_succ]
  (first | (apply tkT 40 2199023255551 hg; (focus rfl); (focus rfl); (focus kernel_rfl); (focus (intro w0 hSw; (try dsimp only at hSw); go_simp; try (with_reducible rfl))); (focus assumption)) | (apply tkF 40 2199023255551 hg; (focus rfl); (focus rfl); (focus kernel_rfl); (focus assumption)))
  try simp only [Act.put, List.setIfInBounds_toArray, List.set_cons_zero, List.set_cons_succ]
  (apply tkT 41 4398046511103 hg; (focus rfl); (focus rfl); (focus kernel_rfl); (focus (intro w0 hSw; (try dsimp only at hSw); go_simp; try (with_reducible rfl))); (focus assumption))
  try simp only [Act.put, List.setIfInBounds_toArray, List.set_cons_zero, List.set_cons_succ]
  (apply tkT 42 8796093022207 hg; (focus rfl); (focus rfl); (focus kernel_rfl); (focus (intro w0 hSw; (try dsimp only at hSw); go_simp; try (with_reducible rfl))); (focus assumption))
  try simp only [Act.put, List.setIfInBounds_toArray, List.set_cons_zero, List.set_cons_succ]
  (first | (apply tkT 43 17592186044415 hg; (focus rfl); (focus rfl); (focus kernel_rfl); (focus (intro w0 hSw; (try dsimp only at hSw); go_simp; try (with_reducible rfl))); (focus assumption)) | (apply tkF 43 17592186044415 hg; (focus rfl); (focus rfl); (focus kernel_rfl); (focus assumption)))
  try simp only [Act.put, List.setIfInBounds_toArray, List.set_cons_zero, List.set_cons_succ]
  (first | (apply tkT 44 35184372088831 hg; (focus rfl); (focus rfl); (focus kernel_rfl); (focus (intro w0 hSw; (try dsimp only at hSw); go_simp; try (with_reducible rfl))); (focus assumption)) | (apply tkF 44 35184372088831 hg; (focus rfl); (focus rfl); (focus kernel_rfl); (focus assumption)))
  try simp only [Act.put, List.setIfInBounds_toArray, List.set_cons_zero, List.set_cons_succ]
  (first | (apply tkT 45 70368744177663 hg; (focus rfl); (focus rfl); (focus kernel_rfl); (focus (intro w0 hSw; (try dsimp only at hSw); go_simp; try (with_reducible rfl))); (focus assumption)) | (apply tkF 45 70368744177663 hg; (focus rfl); (focus rfl); (focus kernel_rfl); (focus assumption)))
  try simp only [Act.put, List.setIfInBounds_toArray, List.set_cons_zero, List.set_cons_succ]
  (first | (apply tkT 46 140737488355327 hg; (focus rfl); (focus rfl); (focus kernel_rfl); (focus (intro w0 hSw; (try dsimp only at hSw); go_simp; try (with_reducible rfl))); (focus assumption)) | (apply tkF 46 140737488355327 hg; (focus rfl); (focus rfl); (focus kernel_rfl); (focus assumption)))
  try simp only [Act.put, List.setIfInBounds_toArray, List.set_cons_zero, List.set_cons_succ]
  (first | (apply tkT 47 281474976710655 hg; (focus rfl); (focus rfl); (focus kernel_rfl); (focus (intro w0 hSw; (try dsimp only at hSw); go_simp; try (with_reducible rfl))); (focus assumption)) | (apply tkF 47 281474976710655 hg; (focus rfl); (focus rfl); (focus kernel_rfl); (focus assumption)))
  try simp only [Act.put, List.setIfInBounds_toArray, List.set_cons_zero, List.set_cons_succ]
  (apply tkT 48 562949953421311 hg; (focus rfl); (focus rfl); (focus kernel_rfl); (focus (intro w0 hSw; (try dsimp only at hSw); go_simp; try (with_reducible rfl))); (focus assumption))
  try simp only [Act.put, List.setIfInBounds_toArray, List.set_cons_zero, List.set_cons_succ]
  (apply tkT 49 1125899906842623 hg; (focus rfl); (focus rfl); (focus kernel_rfl); (focus (intro w0 hSw; (try dsimp only at hSw); go_simp; try (with_reducible rfl))); (focus assumption))
  try simp only [Act.put, List.setIfInBounds_toArray, List.set_cons_zero, List.set_cons_succ]
  (first | (apply tkT 50 2251799813685247 hg; (focus rfl); (focus rfl); (focus kernel_rfl); (focus (intro w0 hSw; (try dsimp only at hSw); go_simp; try (with_reducible rfl))); (focus assumption)) | (apply tkF 50 2251799813685247 hg; (focus rfl); (focus rfl); (focus kernel_rfl); (focus assumption)))
  try simp only [Act.put, List.setIfInBounds_toArray, List.set_cons_zero, List.set_cons_succ]
  (first | (apply tkT 51 4503599627370495 hg; (focus rfl); (focus rfl); (focus kernel_rfl); (focus (intro w0 hSw; (try dsimp only at hSw); go_simp; try (with_reducible rfl))); (focus assumption)) | (apply tkF 51 4503599627370495 hg; (focus rfl); (focus rfl); (focus kernel_rfl); (focus assumption)))
  try simp only [Act.put, List.setIfInBounds_toArray, List.set_cons_zero, List.set_cons_succ]
  (first | (apply tkT 52 9007199254740991 hg; (focus rfl); (focus rfl); (focus kernel_rfl); (focus (intro w0 hSw; (try dsimp only at hSw); go_simp; try (with_reducible rfl))); (focus assumption)) | (apply tkF 52 9007199254740991 hg; (focus rfl); (focus rfl); (focus kernel_rfl); (focus assumption)))
  try simp only [Act.put, List.setIfInBounds_toArray, List.set_cons_zero, List.set_cons_succ]
  (first | (apply tkT 53 18014398509481983 hg; (focus rfl); (focus rfl); (focus kernel_rfl); (focus (intro w0 hSw; (try dsimp only at hSw); go_simp; try (with_reducible rfl))); (focus assumption)) | (apply tkF 53 18014398509481983 hg; (focus rfl); (focus rfl); (focus kernel_rfl); (focus assumption)))
  try simp only [Act.put, List.setIfInBounds_toArray, List.set_cons_zero, List.set_cons_succ]
  (apply tkF 54 36028797018963967 hg; (focus rfl); (focus rfl); (focus kernel_rfl); (focus assumption))
  try simp only [Act.put, List.setIfInBounds_toArray, List.set_cons_zero, List.set_cons_succ]
  (apply tkT 55 72057594037927935 hg; (focus rfl); (focus rfl); (focus kernel_rfl); (focus (intro w0 hSw; (try dsimp only at hSw); go_simp; try (with_reducible rfl))); (focus assumption))
  try simp only [Act.put, List.setIfInBounds_toArray, List.set_cons_zero, List.set_cons_succ]
  (apply tkT 56 144115188075855871 hg; (focus rfl); (focus rfl); (focus kernel_rfl); (focus (intro w0 hSw; (try dsimp only at hSw); go_simp; try (with_reducible rfl))); (focus assumption))
  try simp only [Act.put, List.setIfInBounds_toArray, List.set_cons_zero, List.set_cons_succ]
  (first | (apply tkT 57 288230376151711743 hg; (focus rfl); (focus rfl); (focus kernel_rfl); (focus (intro w0 hSw; (try dsimp only at hSw); go_simp; try (with_reducible rfl))); (focus assumption)) | (apply tkF 57 288230376151711743 hg; (focus rfl); (focus rfl); (focus kernel_rfl); (focus assumption)))
  try simp only [Act.put, List.setIfInBounds_toArray, List.set_cons_zero, List.set_cons_succ]
  (first | (apply tkT 58 576460752303423487 hg; (focus rfl); (focus rfl); (focus kernel_rfl); (focus (intro w0 hSw; (try dsimp only at hSw); go_simp; try (with_reducible rfl))); (focus assumption)) | (apply tkF 58 576460752303423487 hg; (focus rfl); (focus rfl); (focus kernel_rfl); (focus assumption)))
  try simp only [Act.put, List.setIfInBounds_toArray, List.set_cons_zero, List.set_cons_succ]
  (first | (apply tkT 59 1152921504606846975 hg; (focus rfl); (focus rfl); (focus kernel_rfl); (focus (intro w0 hSw; (try dsimp only at hSw); go_simp; try (with_reducible rfl))); (focus assumption)) | (apply tkF 59 1152921504606846975 hg; (focus rfl); (focus rfl); (focus kernel_rfl); (focus assumption)))
  try simp only [Act.put, List.setIfInBounds_toArray, List.set_cons_zero, List.set_cons_succ]
  (first | (apply tkT 60 2305843009213693951 hg; (focus rfl); (focus rfl); (focus kernel_rfl); (focus (intro w0 hSw; (try dsimp only at hSw); go_simp; try (with_reducible rfl))); (focus assumption)) | (apply tkF 60 2305843009213693951 hg; (focus rfl); (focus rfl); (focus kernel_rfl); (focus assumption)))
  try simp only [Act.put, List.setIfInBounds_toArray, List.set_cons_zero, List.set_cons_succ]
  (apply tkF 61 4611686018427387903 hg; (focus rfl); (focus rfl); (focus kernel_rfl); (focus assumption))
  try simp only [Act.put, List.setIfInBounds_toArray, List.set_cons_zero, List.set_cons_succ]
  (apply tkT 62 9223372036854775807 hg; (focus rfl); (focus rfl); (focus kernel_rfl); (focus (intro w0 hSw; (try dsimp only at hSw); go_simp; try (with_reducible rfl))); (focus assumption))
  try simp only [Act.put, List.setIfInBounds_toArray, List.set_cons_zero, List.set_cons_succ]
  (apply tkT 63 18446744073709551615 hg; (focus rfl); (focus rfl); (focus kernel_rfl); (focus (intro w0 hSw; (try dsimp only at hSw); go_simp; try (with_reducible rfl))); (focus assumption))
  try simp only [Act.put, List.setIfInBounds_toArray, List.set_cons_zero, List.set_cons_succ]
  (first | (apply tkT 64 36893488147419103231 hg; (focus rfl); (focus rfl); (focus kernel_rfl); (focus (intro w0 hSw; (try dsimp only at hSw); go_simp; try (with_reducible rfl))); (focus assumption)) | (apply tkF 64 36893488147419103231 hg; (focus rfl); (focus rfl); (focus kernel_rfl); (focus assumption)))
  try simp only [Act.put, List.setIfInBounds_toArray, List.set_cons_zero, List.set_cons_succ]
  (first | (apply tkT 65 73786976294838206463 hg; (focus rfl); (focus rfl); (focus kernel_rfl); (focus (intro w0 hSw; (try dsimp only at hSw); go_simp; try (with_reducible rfl))); (focus assumption)) | (apply tkF 65 73786976294838206463 hg; (focus rfl); (focus rfl); (focus kernel_rfl); (focus assumption)))
  try simp only [Act.put, List.setIfInBounds_toArray, List.set_cons_zero, List.set_cons_succ]
  (first | (apply tkT 66 147573952589676412927 hg; (focus rfl); (focus rfl); (focus kernel_rfl); (focus (intro w0 hSw; (try dsimp only at hSw); go_simp; try (with_reducible rfl))); (focus assumption)) | (apply tkF 66 147573952589676412927 hg; (focus rfl); (focus rfl); (focus kernel_rfl); (focus assumption)))
  try simp only [Act.put, List.setIfInBounds_toArray, List.set_cons_zero, List.set_cons_succ]
  (first | (apply tkT 67 295147905179352825855 hg; (focus rfl); (focus rfl); (focus kernel_rfl); (focus (intro w0 hSw; (try dsimp only at hSw); go_simp; try (with_reducible rfl))); (focus assumption)) | (apply tkF 67 295147905179352825855 hg; (focus rfl); (focus rfl); (focus kernel_rfl); (focus assumption)))
  try simp only [Act.put, List.setIfInBounds_toArray, List.set_cons_zero, List.set_cons_succ]
  (first | (apply tkT 68 590295810358705651711 hg; (focus rfl); (focus rfl); (focus kernel_rfl); (focus (intro w0 hSw; (try dsimp only at hSw); go_simp; try (with_reducible rfl))); (focus assumption)) | (apply tkF 68 590295810358705651711 hg; (focus rfl); (focus rfl); (focus kernel_rfl); (focus assumption)))
  try simp only [Act.put, List.setIfInBounds_toArray, List.set_cons_zero, List.set_cons_succ]
  (apply tkF 69 1180591620717411303423 hg; (focus rfl); (focus rfl); (focus kernel_rfl); (focus assumption))
  try simp only [Act.put, List.setIfInBounds_toArray, List.set_cons_zero, List.set_cons_succ]
  (apply tkT 70 2361183241434822606847 hg; (focus rfl); (focus rfl); (focus kernel_rfl); (focus (intro w0 hSw; (try dsimp only at hSw); go_simp; try (with_reducible rfl))); (focus assumption))
  try simp only [Act.put, List.setIfInBounds_toArray, List.set_cons_zero, List.set_cons_succ]
  (apply tkT 71 4722366482869645213695 hg; (focus rfl); (focus rfl); (focus kernel_rfl); (focus (intro w0 hSw; (try dsimp only at hSw); go_simp; try (with_reducible rfl))); (focus assumption))
  try simp only [Act.put, List.setIfInBounds_toArray, List.set_cons_zero, List.set_cons_succ]
  refine actE hg (by kernel_rfl) ?_
  go_wp2
  go_ret
  exact ⟨ret_bool (by simp), HB0.out.trans c3⟩

set_option maxRecDepth 100000 in
set_option maxHeartbeats 2000000 in
theorem same_case2 (j k : Job) (a b : JA) (w : World) (S : Nat → Prop) (hS : Sub S w) (hj : j.ok w S a) (hk : k.ok w S b) (hl : j.stack.length ≤ 1000) (hn : ∀ f ∈ j.stack, f.names.length ≤ 100000) (hl2 : j.names.length ≤ 100000) (hl3 : j.draws.length ≤ 100000)
    (h0 : (decide (j.nums = k.nums)) = true)
    (h1 : (j.path.toList == k.path.toList) = true)
    (h2 : (j.path2.toList == k.path2.toList) = false) :
    Calls Tryd.prog 16 #[.agg (j.cells a).toArray, .agg (k.cells b).toArray] w (RetB w false) := by
  have HJ := Lib.hid hj
  have HK := Lib.hid hk
  have HN := Lib.hid hn
  clear hj hk hn
  have heq := fun w => eqArr (w := w) j.nums k.nums rfl rfl
  rw [h0] at heq
  clear h0
  unfold Job.cells
  go_enter Tryd.func16, Tryd.ntmps16
  go_wp2_with (first | (apply ld_row 27 19; (focus rfl); (focus go_simp); (focus (go_simp; rfl)); (focus (exact Tryd.underlying27)); (focus kernel_rfl)) | (apply st_row 27 19; (focus rfl); (focus rfl); (focus go_simp); (focus kernel_rfl); (focus rfl); (focus (first | (simp [Value.oneCell']; done) | (simp [Value.oneCell', Job.cells]; done)))) | fail)
  refine Code.at_ fun W hW => ?_
  have B0 : Below w.heap.size w W := by rw [hW]; repeat' (first | with_reducible refine Below.alloc ?_ ?_ _ | with_reducible refine Below.setRow_ ?_ ?_ _ | with_reducible refine Below.setCell ?_ ?_ _ | with_reducible refine Below.drew ?_ | with_reducible refine Below.drewN_ ?_ _ | with_reducible exact Below.refl _ _ | assumption | (simp; done) | (simp; omega) | omega)
  have k0 := heap_at (W := W) (b := w.heap.size) (by rw [hW]; exact blk_old (blk_new _ rfl) _)
  have k1 := heap_at (W := W) (b := w.heap.size + 1) (by rw [hW]; exact blk_new _ (by simp))
  have i0 := isRow_of k0
  have i1 := isRow_of k1
  have r0 := row_of k0
  have r1 := row_of k1
  have HB0 := Lib.hid B0
  clear k0 k1 hW B0
  dsimp only [List.append]
  refine reg0 72 (fun w' => isRow w' w.heap.size = true ∧ isRow w' (w.heap.size + 1) = true ∧ row w' w.heap.size = (j.cells a).toArray ∧ row w' (w.heap.size + 1) = (k.cells b).toArray) (by kernel_rfl) (by kernel_rfl) (by kernel_rfl) ?_ (fun l hg hHeld => ?_)
  · (try dsimp only); (first | exact ⟨i03, i13, r03, r13⟩ | exact ⟨i02, i12, r02, r12⟩ | exact ⟨i0, i1, r0, r1⟩)
  (apply tkT 0 1 hg; (focus rfl); (focus rfl); (focus kernel_rfl); (focus (intro w0 hSw; (try dsimp only at hSw); go_simp; try (with_reducible rfl))); (focus assumption))
  try simp only [Act.put, List.setIfInBounds_toArray, List.set_cons_zero, List.set_cons_succ]
  (apply tkT 1 3 hg; (focus rfl); (focus rfl); (focus kernel_rfl); (focus (intro w0 hSw; (try dsimp only at hSw); go_simp; try (with_reducible rfl))); (focus assumption))
  try simp only [Act.put, List.setIfInBounds_toArray, List.set_cons_zero, List.set_cons_succ]
  (apply tkT 3 11 hg; (focus rfl); (focus rfl); (focus kernel_rfl); (focus (intro w0 hSw; (try dsimp only at hSw); go_simp; try (with_reducible rfl))); (focus assumption))
  try simp only [Act.put, List.setIfInBounds_toArray, List.set_cons_zero, List.set_cons_succ]
  (apply tkT 4 27 hg; (focus rfl); (focus rfl); (focus kernel_rfl); (focus (intro w0 hSw; (try dsimp only at hSw); go_simp; try (with_reducible rfl))); (focus assumption))
  try simp only [Act.put, List.setIfInBounds_toArray, List.set_cons_zero, List.set_cons_succ]
  (apply act1 2 31 hg; (focus rfl); (focus rfl); (focus kernel_rfl))
  intro K hK
  go_simp
  refine (same1_calls j a _).mono ?_; rintro e w2 ⟨rfl, hb2⟩; replace hb2 := Below.undrew hb2; have i02 := isRow_call hb2 i0; have i12 := isRow_call hb2 i1; have r02 := row_call hb2 i0 r0; have r12 := row_call hb2 i1 r1
  refine hK.out _ _ ?_ (fun hHeld => ?_)
  · (try dsimp only); (first | exact ⟨i03, i13, r03, r13⟩ | exact ⟨i02, i12, r02, r12⟩ | exact ⟨i0, i1, r0, r1⟩)
  clear hK K
  try simp only [Act.put, List.setIfInBounds_toArray, List.set_cons_zero, List.set_cons_succ]
  (apply act1 5 63 hg; (focus rfl); (focus rfl); (focus kernel_rfl))
  intro K hK
  go_simp
  refine (same1_calls k b _).mono ?_; rintro e w3 ⟨rfl, hb3⟩; have i03 := isRow_call hb3 i02; have i13 := isRow_call hb3 i12; have r03 := row_call hb3 i02 r02; have r13 := row_call hb3 i12 r12; have c3 := (hb2.mono HB0.out.size).trans (hb3.mono (HB0.out.trans (hb2.mono HB0.out.size)).size)
  refine hK.out _ _ ?_ (fun hHeld => ?_)
  · (try dsimp only); (first | exact ⟨i03, i13, r03, r13⟩ | exact ⟨i02, i12, r02, r12⟩ | exact ⟨i0, i1, r0, r1⟩)
  clear hK K
  try simp only [Act.put, List.setIfInBounds_toArray, List.set_cons_zero, List.set_cons_succ]
  (apply tkT 6 127 hg; (focus rfl); (focus rfl); (focus kernel_rfl); (focus (intro w0 hSw; (try dsimp only at hSw); go_simp; try (with_reducible rfl))); (focus assumption))
  try simp only [Act.put, List.setIfInBounds_toArray, List.set_cons_zero, List.set_cons_succ]
  (apply tkT 7 255 hg; (focus rfl); (focus rfl); (focus kernel_rfl); (focus (intro w0 hSw; (try dsimp only at hSw); go_simp; try (with_reducible rfl))); (focus assumption))
  try simp only [Act.put, List.setIfInBounds_toArray, List.set_cons_zero, List.set_cons_succ]
  (first | (apply tkT 8 511 hg; (focus rfl); (focus rfl); (focus kernel_rfl); (focus (intro w0 hSw; (try dsimp only at hSw); go_simp; try (with_reducible rfl))); (focus assumption)) | (apply tkF 8 511 hg; (focus rfl); (focus rfl); (focus kernel_rfl); (focus assumption)))
  try simp only [Act.put, List.setIfInBounds_toArray, List.set_cons_zero, List.set_cons_succ]
  (first | (apply tkT 9 1023 hg; (focus rfl); (focus rfl); (focus kernel_rfl); (focus (intro w0 hSw; (try dsimp only at hSw); go_simp; try (with_reducible rfl))); (focus assumption)) | (apply tkF 9 1023 hg; (focus rfl); (focus rfl); (focus kernel_rfl); (focus assumption)))
  try simp only [Act.put, List.setIfInBounds_toArray, List.set_cons_zero, List.set_cons_succ]
  (first | (apply tkT 10 2047 hg; (focus rfl); (focus rfl); (focus kernel_rfl); (focus (intro w0 hSw; (try dsimp only at hSw); go_simp; try (with_reducible rfl))); (focus assumption)) | (apply tkF 10 2047 hg; (focus rfl); (focus rfl); (focus kernel_rfl); (focus assumption)))
  try simp only [Act.put, List.setIfInBounds_toArray, List.set_cons_zero, List.set_cons_succ]
  (first | (apply tkT 11 4095 hg; (focus rfl); (focus rfl); (focus kernel_rfl); (focus (intro w0 hSw; (try dsimp only at hSw); go_simp; try (with_reducible rfl))); (focus assumption)) | (apply tkF 11 4095 hg; (focus rfl); (focus rfl); (focus kernel_rfl); (focus assumption)))
  try simp only [Act.put, List.setIfInBounds_toArray, List.set_cons_zero, List.set_cons_succ]
  (first | (apply tkT 12 8191 hg; (focus rfl); (focus rfl); (focus kernel_rfl); (focus (intro w0 hSw; (try dsimp only at hSw); go_simp; try (with_reducible rfl))); (focus assumption)) | (apply tkF 12 8191 hg; (focus rfl); (focus rfl); (focus kernel_rfl); (focus assumption)))
  try simp only [Act.put, List.setIfInBounds_toArray, List.set_cons_zero, List.set_cons_succ]
  (apply tkT 13 16383 hg; (focus rfl); (focus rfl); (focus kernel_rfl); (focus (intro w0 hSw; (try dsimp only at hSw); go_simp; try (with_reducible rfl))); (focus assumption))
  try simp only [Act.put, List.setIfInBounds_toArray, List.set_cons_zero, List.set_cons_succ]
  (apply tkT 14 32767 hg; (focus rfl); (focus rfl); (focus kernel_rfl); (focus (intro w0 hSw; (try dsimp only at hSw); go_simp; try (with_reducible rfl))); (focus assumption))
  try simp only [Act.put, List.setIfInBounds_toArray, List.set_cons_zero, List.set_cons_succ]
  (first | (apply tkT 15 65535 hg; (focus rfl); (focus rfl); (focus kernel_rfl); (focus (intro w0 hSw; (try dsimp only at hSw); go_simp; try (with_reducible rfl))); (focus assumption)) | (apply tkF 15 65535 hg; (focus rfl); (focus rfl); (focus kernel_rfl); (focus assumption)))
  try simp only [Act.put, List.setIfInBounds_toArray, List.set_cons_zero, List.set_cons_succ]
  (first | (apply tkT 16 131071 hg; (focus rfl); (focus rfl); (focus kernel_rfl); (focus (intro w0 hSw; (try dsimp only at hSw); go_simp; try (with_reducible rfl))); (focus assumption)) | (apply tkF 16 131071 hg; (focus rfl); (focus rfl); (focus kernel_rfl); (focus assumption)))
  try simp only [Act.put, List.setIfInBounds_toArray, List.set_cons_zero, List.set_cons_succ]
  (first | (apply tkT 17 262143 hg; (focus rfl); (focus rfl); (focus kernel_rfl); (focus (intro w0 hSw; (try dsimp only at hSw); go_simp; try (with_reducible rfl))); (focus assumption)) | (apply tkF 17 262143 hg; (focus rfl); (focus rfl); (focus kernel_rfl); (focus assumption)))
  try simp only [Act.put, List.setIfInBounds_toArray, List.set_cons_zero, List.set_cons_succ]
  (first | (apply tkT 18 524287 hg; (focus rfl); (focus rfl); (focus kernel_rfl); (focus (intro w0 hSw; (try dsimp only at hSw); go_simp; try (with_reducible rfl))); (focus assumption)) | (apply tkF 18 524287 hg; (focus rfl); (focus rfl); (focus kernel_rfl); (focus assumption)))
  try simp only [Act.put, List.setIfInBounds_toArray, List.set_cons_zero, List.set_cons_succ]
  (first | (apply tkT 19 1048575 hg; (focus rfl); (focus rfl); (focus kernel_rfl); (focus (intro w0 hSw; (try dsimp only at hSw); go_simp; try (with_reducible rfl))); (focus assumption)) | (apply tkF 19 1048575 hg; (focus rfl); (focus rfl); (focus kernel_rfl); (focus assumption)))
  try simp only [Act.put, List.setIfInBounds_toArray, List.set_cons_zero, List.set_cons_succ]
  (apply tkT 20 2097151 hg; (focus rfl); (focus rfl); (focus kernel_rfl); (focus (intro w0 hSw; (try dsimp only at hSw); go_simp; try (with_reducible rfl))); (focus assumption))
  try simp only [Act.put, List.setIfInBounds_toArray, List.set_cons_zero, List.set_cons_succ]
  (apply tkT 21 4194303 hg; (focus rfl); (focus rfl); (focus kernel_rfl); (focus (intro w0 hSw; (try dsimp only at hSw); go_simp; try (with_reducible rfl))); (focus assumption))
  try simp only [Act.put, List.setIfInBounds_toArray, List.set_cons_zero, List.set_cons_succ]
  (first | (apply tkT 22 8388607 hg; (focus rfl); (focus rfl); (focus kernel_rfl); (focus (intro w0 hSw; (try dsimp only at hSw); go_simp; try (with_reducible rfl))); (focus assumption)) | (apply tkF 22 8388607 hg; (focus rfl); (focus rfl); (focus kernel_rfl); (focus assumption)))
  try simp only [Act.put, List.setIfInBounds_toArray, List.set_cons_zero, List.set_cons_succ]
  (first | (apply tkT 23 16777215 hg; (focus rfl); (focus rfl); (focus kernel_rfl); (focus (intro w0 hSw; (try dsimp only at hSw); go_simp; try (with_reducible rfl))); (focus assumption)) | (apply tkF 23 16777215 hg; (focus rfl); (focus rfl); (focus kernel_rfl); (focus assumption)))
  try simp only [Act.put, List.setIfInBounds_toArray, List.set_cons_zero, List.set_cons_succ]
  (first | (apply tkT 24 33554431 hg; (focus rfl); (focus rfl); (focus kernel_rfl); (focus (intro w0 hSw; (try dsimp only at hSw); go_simp; try (with_reducible rfl))); (focus assumption)) | (apply tkF 24 33554431 hg; (focus rfl); (focus rfl); (focus kernel_rfl); (focus assumption)))
  try simp only [Act.put, List.setIfInBounds_toArray, List.set_cons_zero, List.set_cons_succ]
  (first | (apply tkT 25 67108863 hg; (focus rfl); (focus rfl); (focus kernel_rfl); (focus (intro w0 hSw; (try dsimp only at hSw); go_simp; try (with_reducible rfl))); (focus assumption)) | (apply tkF 25 67108863 hg; (focus rfl); (focus rfl); (focus kernel_rfl); (focus assumption)))
  try simp only [Act.put, List.setIfInBounds_toArray, List.set_cons_zero, List.set_cons_succ]
  (first | (apply tkT 26 134217727 hg; (focus rfl); (focus rfl); (focus kernel_rfl); (focus (intro w0 hSw; (try dsimp only at hSw); go_simp; try (with_reducible rfl))); (focus assumption)) | (apply tkF 26 134217727 hg; (focus rfl); (focus rfl); (focus kernel_rfl); (focus assumption)))
  try simp only [Act.put, List.setIfInBounds_toArray, List.set_cons_zero, List.set_cons_succ]
  (apply tkT 27 268435455 hg; (focus rfl); (focus rfl); (focus kernel_rfl); (focus (intro w0 hSw; (try dsimp only at hSw); go_simp; try (with_reducible rfl))); (focus assumption))
  try simp only [Act.put, List.setIfInBounds_toArray, List.set_cons_zero, List.set_cons_succ]
  (apply tkT 28 536870911 hg; (focus rfl); (focus rfl); (focus kernel_rfl); (focus (intro w0 hSw; (try dsimp only at hSw); go_simp; try (with_reducible rfl))); (focus assumption))
  try simp only [Act.put, List.setIfInBounds_toArray, List.set_cons_zero, List.set_cons_succ]
  (first | (apply tkT 29 1073741823 hg; (focus rfl); (focus rfl); (focus kernel_rfl); (focus (intro w0 hSw; (try dsimp only at hSw); go_simp; try (with_reducible rfl))); (focus assumption)) | (apply tkF 29 1073741823 hg; (focus rfl); (focus rfl); (focus kernel_rfl); (focus assumption)))
  try simp only [Act.put, List.setIfInBounds_toArray, List.set_cons_zero, List.set_cons_succ]
  (first | (apply tkT 30 2147483647 hg; (focus rfl); (focus rfl); (focus kernel_rfl); (focus (intro w0 hSw; (try dsimp only at hSw); go_simp; try (with_reducible rfl))); (focus assumption)) | (apply tkF 30 2147483647 hg; (focus rfl); (focus rfl); (focus kernel_rfl); (focus assumption)))
  try simp only [Act.put, List.setIfInBounds_toArray, List.set_cons_zero, List.set_cons_succ]
  (first | (apply tkT 31 4294967295 hg; (focus rfl); (focus rfl); (focus kernel_rfl); (focus (intro w0 hSw; (try dsimp only at hSw); go_simp; try (with_reducible rfl))); (focus assumption)) | (apply tkF 31 4294967295 hg; (focus rfl); (focus rfl); (focus kernel_rfl); (focus assumption)))
  try simp only [Act.put, List.setIfInBounds_toArray, List.set_cons_zero, List.set_cons_succ]
  (first | (apply tkT 32 8589934591 hg; (focus rfl); (focus rfl); (focus kernel_rfl); (focus (intro w0 hSw; (try dsimp only at hSw); go_simp; try (with_reducible rfl))); (focus assumption)) | (apply tkF 32 8589934591 hg; (focus rfl); (focus rfl); (focus kernel_rfl); (focus assumption)))
  try simp only [Act.put, List.setIfInBounds_toArray, List.set_cons_zero, List.set_cons_succ]
  (first | (apply tkT 33 17179869183 hg; (focus rfl); (focus rfl); (focus kernel_rfl); (focus (intro w0 hSw; (try dsimp only at hSw); go_simp; try (with_reducible rfl))); (focus assumption)) | (apply tkF 33 17179869183 hg; (focus rfl); (focus rfl); (focus kernel_rfl); (focus assumption)))
  try simp only [Act.put, List.setIfInBounds_toArray, List.set_cons_zero, List.set_cons_succ]
  (apply tkT 34 34359738367 hg; (focus rfl); (focus rfl); (focus kernel_rfl); (focus (intro w0 hSw; (try dsimp only at hSw); go_simp; try (with_reducible rfl))); (focus assumption))
  try simp only [Act.put, List.setIfInBounds_toArray, List.set_cons_zero, List.set_cons_succ]
  (apply tkT 35 68719476735 hg; (focus rfl); (focus rfl); (focus kernel_rfl); (focus (intro w0 hSw; (try dsimp only at hSw); go_simp; try (with_reducible rfl))); (focus assumption))
  try simp only [Act.put, List.setIfInBounds_toArray, List.set_cons_zero, List.set_cons_succ]
  (first | (apply tkT 36 137438953471 hg; (focus rfl); (focus rfl); (focus kernel_rfl); (focus (intro w0 hSw; (try dsimp only at hSw); go_simp; try (with_reducible rfl))); (focus assumption)) | (apply tkF 36 137438953471 hg; (focus rfl); (focus rfl); (focus kernel_rfl); (focus assumption)))
  try simp only [Act.put, List.setIfInBounds_toArray, List.set_cons_zero, List.set_cons_succ]
  (first | (apply tkT 37 274877906943 hg; (focus rfl); (focus rfl); (focus kernel_rfl); (focus (intro w0 hSw; (try dsimp only at hSw); go_simp; try (with_reducible rfl))); (focus assumption)) | (apply tkF 37 274877906943 hg; (focus rfl); (focus rfl); (focus kernel_rfl); (focus assumption)))
  try simp only [Act.put, List.setIfInBounds_toArray, List.set_cons_zero, List.set_cons_succ]
  (first | (apply tkT 38 549755813887 hg; (focus rfl); (focus rfl); (focus kernel_rfl); (focus (intro w0 hSw; (try dsimp only at hSw); go_simp; try (with_reducible rfl))); (focus assumption)) | (apply tkF 38 549755813887 hg; (focus rfl); (focus rfl); (focus kernel_rfl); (focus assumption)))
  try simp only [Act.put, List.setIfInBounds_toArray, List.set_cons_zero, List.set_cons_succ]
  (first | (apply tkT 39 1099511627775 hg; (focus rfl); (focus rfl); (focus kernel_rfl); (focus (intro w0 hSw; (try dsimp only at hSw); go_simp; try (with_reducible rfl))); (focus assumption)) | (apply tkF 39 1099511627775 hg; (focus rfl); (focus rfl); (focus kernel_rfl); (focus assumption)))
  try simp only [Act.put, List.setIfInBounds_toArray, List.set_cons_zero, List.set_cons_succ]
  (first | (apply tkT 40 2199023255551 hg; (focus rfl); (focus rfl); (focus kernel_rfl); (focus (intro w0 hSw; (try dsimp only at hSw); go_simp; try (with_reducible rfl))); (focus assumption)) | (apply tkF 40 2199023255551 hg; (focus rfl); (focus rfl); (focus kernel_rfl); (focus assumption)))
  try simp only [Act.put, List.setIfInBounds_toArray, List.set_cons_zero, List.set_cons_succ]
  (apply tkT 41 4398046511103 hg; (focus rfl); (focus rfl); (focus kernel_rfl); (focus (intro w0 hSw; (try dsimp only at hSw); go_simp; try (with_reducible rfl))); (focus assumption))
  try simp only [Act.put, List.setIfInBounds_toArray, List.set_cons_zero, List.set_cons_succ]
  (apply tkT 42 8796093022207 hg; (focus rfl); (focus rfl); (focus kernel_rfl); (focus (intro w0 hSw; (try dsimp only at hSw); go_simp; try (with_reducible rfl))); (focus assumption))
  try simp only [Act.put, List.setIfInBounds_toArray, List.set_cons_zero, List.set_cons_succ]
  (first | (apply tkT 43 17592186044415 hg; (focus rfl); (focus rfl); (focus kernel_rfl); (focus (intro w0 hSw; (try dsimp only at hSw); go_simp; try (with_reducible rfl))); (focus assumption)) | (apply tkF 43 17592186044415 hg; (focus rfl); (focus rfl); (focus kernel_rfl); (focus assumption)))
  try simp only [Act.put, List.setIfInBounds_toArray, List.set_cons_zero, List.set_cons_succ]
  (first | (apply tkT 44 35184372088831 hg; (focus rfl); (focus rfl); (focus kernel_rfl); (focus (intro w0 hSw; (try dsimp only at hSw); go_simp; try (with_reducible rfl))); (focus assumption)) | (apply tkF 44 35184372088831 hg; (focus rfl); (focus rfl); (focus kernel_rfl); (focus assumption)))
  try simp only [Act.put, List.setIfInBounds_toArray, List.set_cons_zero, List.set_cons_succ]
  (first | (apply tkT 45 70368744177663 hg; (focus rfl); (focus rfl); (focus kernel_rfl); (focus (intro w0 hSw; (try dsimp only at hSw); go_simp; try (with_reducible rfl))); (focus assumption)) | (apply tkF 45 70368744177663 hg; (focus rfl); (focus rfl); (focus kernel_rfl); (focus assumption)))
  try simp only [Act.put, List.setIfInBounds_toArray, List.set_cons_zero, List.set_cons_succ]
  (first | (apply tkT 46 140737488355327 hg; (focus rfl); (focus rfl); (focus kernel_rfl); (focus (intro w0 hSw; (try dsimp only at hSw); go_simp; try (with_reducible rfl))); (focus assumption)) | (apply tkF 46 140737488355327 hg; (focus rfl); (focus rfl); (focus kernel_rfl); (focus assumption)))
  try simp only [Act.put, List.setIfInBounds_toArray, List.set_cons_zero, List.set_cons_succ]
  (first | (apply tkT 47 281474976710655 hg; (focus rfl); (focus rfl); (focus kernel_rfl); (focus (intro w0 hSw; (try dsimp only at hSw); go_simp; try (with_reducible rfl))); (focus assumption)) | (apply tkF 47 281474976710655 hg; (focus rfl); (focus rfl); (focus kernel_rfl); (focus assumption)))
  try simp only [Act.put, List.setIfInBounds_toArray, List.set_cons_zero, List.set_cons_succ]
  (apply tkT 48 562949953421311 hg; (focus rfl); (focus rfl); (focus kernel_rfl); (focus (intro w0 hSw; (try dsimp only at hSw); go_simp; try (with_reducible rfl))); (focus assumption))
  try simp only [Act.put, List.setIfInBounds_toArray, List.set_cons_zero, List.set_cons_succ]
  (apply tkT 49 1125899906842623 hg; (focus rfl); (focus rfl); (focus kernel_rfl); (focus (intro w0 hSw; (try dsimp only at hSw); go_simp; try (with_reducible rfl))); (focus assumption))
  try simp only [Act.put, List.setIfInBounds_toArray, List.set_cons_zero, List.set_cons_succ]
  (first | (apply tkT 50 2251799813685247 hg; (focus rfl); (focus rfl); (focus kernel_rfl); (focus (intro w0 hSw; (try dsimp only at hSw); go_simp; try (with_reducible rfl))); (focus assumption)) | (apply tkF 50 2251799813685247 hg; (focus rfl); (focus rfl); (focus kernel_rfl); (focus assumption)))
  try simp only [Act.put, List.setIfInBounds_toArray, List.set_cons_zero, List.set_cons_succ]
  (first | (apply tkT 51 4503599627370495 hg; (focus rfl); (focus rfl); (focus kernel_rfl); (focus (intro w0 hSw; (try dsimp only at hSw); go_simp; try (with_reducible rfl))); (focus assumption)) | (apply tkF 51 4503599627370495 hg; (focus rfl); (focus rfl); (focus kernel_rfl); (focus assumption)))
  try simp only [Act.put, List.setIfInBounds_toArray, List.set_cons_zero, List.set_cons_succ]
  (first | (apply tkT 52 9007199254740991 hg; (focus rfl); (focus rfl); (focus kernel_rfl); (focus (intro w0 hSw; (try dsimp only at hSw); go_simp; try (with_reducible rfl))); (focus assumption)) | (apply tkF 52 9007199254740991 hg; (focus rfl); (focus rfl); (focus kernel_rfl); (focus assumption)))
  try simp only [Act.put, List.setIfInBounds_toArray, List.set_cons_zero, List.set_cons_succ]
  (first | (apply tkT 53 18014398509481983 hg; (focus rfl); (focus rfl); (focus kernel_rfl); (focus (intro w0 hSw; (try dsimp only at hSw); go_simp; try (with_reducible rfl))); (focus assumption)) | (apply tkF 53 18014398509481983 hg; (focus rfl); (focus rfl); (focus kernel_rfl); (focus assumption)))
  try simp only [Act.put, List.setIfInBounds_toArray, List.set_cons_zero, List.set_cons_succ]
  (apply tkF 54 36028797018963967 hg; (focus rfl); (focus rfl); (focus kernel_rfl); (focus assumption))
  try simp only [Act.put, List.setIfInBounds_toArray, List.set_cons_zero, List.set_cons_succ]
  (apply tkT 55 72057594037927935 hg; (focus rfl); (focus rfl); (focus kernel_rfl); (focus (intro w0 hSw; (try dsimp only at hSw); go_simp; try (with_reducible rfl))); (focus assumption))
  try simp only [Act.put, List.setIfInBounds_toArray, List.set_cons_zero, List.set_cons_succ]
  (apply tkT 56 144115188075855871 hg; (focus rfl); (focus rfl); (focus kernel_rfl); (focus (intro w0 hSw; (try dsimp only at hSw); go_simp; try (with_reducible rfl))); (focus assumption))
  try simp only [Act.put, List.setIfInBounds_toArray, List.set_cons_zero, List.set_cons_succ]
  (first | (apply tkT 57 288230376151711743 hg; (focus rfl); (focus rfl); (focus kernel_rfl); (focus (intro w0 hSw; (try dsimp only at hSw); go_simp; try (with_reducible rfl))); (focus assumption)) | (apply tkF 57 288230376151711743 hg; (focus rfl); (focus rfl); (focus kernel_rfl); (focus assumption)))
  try simp only [Act.put, List.setIfInBounds_toArray, List.set_cons_zero, List.set_cons_succ]
  (first | (apply tkT 58 576460752303423487 hg; (focus rfl); (focus rfl); (focus kernel_rfl); (focus (intro w0 hSw; (try dsimp only at hSw); go_simp; try (with_reducible rfl))); (focus assumption)) | (apply tkF 58 576460752303423487 hg; (focus rfl); (focus rfl); (focus kernel_rfl); (focus assumption)))
  try simp only [Act.put, List.setIfInBounds_toArray, List.set_cons_zero, List.set_cons_succ]
  (first | (apply tkT 59 1152921504606846975 hg; (focus rfl); (focus rfl); (focus kernel_rfl); (focus (intro w0 hSw; (try dsimp only at hSw); go_simp; try (with_reducible rfl))); (focus assumption)) | (apply tkF 59 1152921504606846975 hg; (focus rfl); (focus rfl); (focus kernel_rfl); (focus assumption)))
  try simp only [Act.put, List.setIfInBounds_toArray, List.set_cons_zero, List.set_cons_succ]
  (first | (apply tkT 60 2305843009213693951 hg; (focus rfl); (focus rfl); (focus kernel_rfl); (focus (intro w0 hSw; (try dsimp only at hSw); go_simp; try (with_reducible rfl))); (focus assumption)) | (apply tkF 60 2305843009213693951 hg; (focus rfl); (focus rfl); (focus kernel_rfl); (focus assumption)))
  try simp only [Act.put, List.setIfInBounds_toArray, List.set_cons_zero, List.set_cons_succ]
  (apply tkF 61 4611686018427387903 hg; (focus rfl); (focus rfl); (focus kernel_rfl); (focus assumption))
  try simp only [Act.put, List.setIfInBounds_toArray, List.set_cons_zero, List.set_cons_succ]
  (apply tkT 62 9223372036854775807 hg; (focus rfl); (focus rfl); (focus kernel_rfl); (focus (intro w0 hSw; (try dsimp only at hSw); go_simp; try (with_reducible rfl))); (focus assumption))
  try simp only [Act.put, List.setIfInBounds_toArray, List.set_cons_zero, List.set_cons_succ]
  (apply tkT 63 18446744073709551615 hg; (focus rfl); (focus rfl); (focus kernel_rfl); (focus (intro w0 hSw; (try dsimp only at hSw); go_simp; try (with_reducible rfl))); (focus assumption))
  try simp only [Act.put, List.setIfInBounds_toArray, List.set_cons_zero, List.set_cons_succ]
  (first | (apply tkT 64 36893488147419103231 hg; (focus rfl); (focus rfl); (focus kernel_rfl); (focus (intro w0 hSw; (try dsimp only at hSw); go_simp; try (with_reducible rfl))); (focus assumption)) | (apply tkF 64 36893488147419103231 hg; (focus rfl); (focus rfl); (focus kernel_rfl); (focus assumption)))
  try simp only [Act.put, List.setIfInBounds_toArray, List.set_cons_zero, List.set_cons_succ]
  (first | (apply tkT 65 73786976294838206463 hg; (focus rfl); (focus rfl); (focus kernel_rfl); (focus (intro w0 hSw; (try dsimp only at hSw); go_simp; try (with_reducible rfl))); (focus assumption)) | (apply tkF 65 73786976294838206463 hg; (focus rfl); (focus rfl); (focus kernel_rfl); (focus assumption)))
  try simp only [Act.put, List.setIfInBounds_toArray, List.set_cons_zero, List.set_cons_succ]
  (first | (apply tkT 66 147573952589676412927 hg; (focus rfl); (focus rfl); (focus kernel_rfl); (focus (intro w0 hSw; (try dsimp only at hSw); go_simp; try (with_reducible rfl))); (focus assumption)) | (apply tkF 66 147573952589676412927 hg; (focus rfl); (focus rfl); (focus kernel_rfl); (focus assumption)))
  try simp only [Act.put, List.setIfInBounds_toArray, List.set_cons_zero, List.set_cons_succ]
  (first | (apply tkT 67 295147905179352825855 hg; (focus rfl); (focus rfl); (focus kernel_rfl); (focus (intro w0 hSw; (try dsimp only at hSw); go_simp; try (with_reducible rfl))); (focus assumption)) | (apply tkF 67 295147905179352825855 hg; (focus rfl); (focus rfl); (focus kernel_rfl); (focus assumption)))
  try simp only [Act.put, List.setIfInBounds_toArray, List.set_cons_zero, List.set_cons_succ]
  (first | (apply tkT 68 590295810358705651711 hg; (focus rfl); (focus rfl); (focus kernel_rfl); (focus (intro w0 hSw; (try dsimp only at hSw); go_simp; try (with_reducible rfl))); (focus assumption)) | (apply tkF 68 590295810358705651711 hg; (focus rfl); (focus rfl); (focus kernel_rfl); (focus assumption)))
  try simp only [Act.put, List.setIfInBounds_toArray, List.set_cons_zero, List.set_cons_succ]
  (apply tkF 69 1180591620717411303423 hg; (focus rfl); (focus rfl); (focus kernel_rfl); (focus assumption))
  try simp only [Act.put, List.setIfInBounds_toArray, List.set_cons_zero, List.set_cons_succ]
  (apply tkT 70 2361183241434822606847 hg; (focus rfl); (focus rfl); (focus kernel_rfl); (focus (intro w0 hSw; (try dsimp only at hSw); go_simp; try (with_reducible rfl))); (focus assumption))
  try simp only [Act.put, List.setIfInBounds_toArray, List.set_cons_zero, List.set_cons_succ]
  (apply tkT 71 4722366482869645213695 hg; (focus rfl); (focus rfl); (focus kernel_rfl); (focus (intro w0 hSw; (try dsimp only at hSw); go_simp; try (with_reducible rfl))); (focus assumption))
  try simp only [Act.put, List.setIfInBounds_toArray, List.set_cons_zero, List.set_cons_succ]
  refine actE hg (by kernel_rfl) ?_
  go_wp2
  go_ret
  exact ⟨ret_bool (by simp), HB0.out.trans c3⟩

set_option maxRecDepth 100000 in
set_option maxHeartbeats 2000000 in
theorem same_case3 (j k : Job) (a b : JA) (w : World) (S : Nat → Prop) (hS : Sub S w) (hj : j.ok w S a) (hk : k.ok w S b) (hl : j.stack.length ≤ 1000) (hn : ∀ f ∈ j.stack, f.names.length ≤ 100000) (hl2 : j.names.length ≤ 100000) (hl3 : j.draws.length ≤ 100000)
    (h0 : (decide (j.nums = k.nums)) = true)
    (h1 : (j.path.toList == k.path.toList) = true)
    (h2 : (j.path2.toList == k.path2.toList) = true)
    (h3 : (j.text.toList == k.text.toList) = false) :
    Calls Tryd.prog 16 #[.agg (j.cells a).toArray, .agg (k.cells b).toArray] w (RetB w false) := by
  have HJ := Lib.hid hj
  have HK := Lib.hid hk
  have HN := Lib.hid hn
  clear hj hk hn
  have heq := fun w => eqArr (w := w) j.nums k.nums rfl rfl
  rw [h0] at heq
  clear h0
  unfold Job.cells
  go_enter Tryd.func16, Tryd.ntmps16
  go_wp2_with (first | (apply ld_row 27 19; (focus rfl); (focus go_simp); (focus (go_simp; rfl)); (focus (exact Tryd.underlying27)); (focus kernel_rfl)) | (apply st_row 27 19; (focus rfl); (focus rfl); (focus go_simp); (focus kernel_rfl); (focus rfl); (focus (first | (simp [Value.oneCell']; done) | (simp [Value.oneCell', Job.cells]; done)))) | fail)
  refine Code.at_ fun W hW => ?_
  have B0 : Below w.heap.size w W := by rw [hW]; repeat' (first | with_reducible refine Below.alloc ?_ ?_ _ | with_reducible refine Below.setRow_ ?_ ?_ _ | with_reducible refine Below.setCell ?_ ?_ _ | with_reducible refine Below.drew ?_ | with_reducible refine Below.drewN_ ?_ _ | with_reducible exact Below.refl _ _ | assumption | (simp; done) | (simp; omega) | omega)
  have k0 := heap_at (W := W) (b := w.heap.size) (by rw [hW]; exact blk_old (blk_new _ rfl) _)
  have k1 := heap_at (W := W) (b := w.heap.size + 1) (by rw [hW]; exact blk_new _ (by simp))
  have i0 := isRow_of k0
  have i1 := isRow_of k1
  have r0 := row_of k0
  have r1 := row_of k1
  have HB0 := Lib.hid B0
  clear k0 k1 hW B0
  dsimp only [List.append]
  refine reg0 72 (fun w' => isRow w' w.heap.size = true ∧ isRow w' (w.heap.size + 1) = true ∧ row w' w.heap.size = (j.cells a).toArray ∧ row w' (w.heap.size + 1) = (k.cells b).toArray) (by kernel_rfl) (by kernel_rfl) (by kernel_rfl) ?_ (fun l hg hHeld => ?_)
  · (try dsimp only); (first | exact ⟨i03, i13, r03, r13⟩ | exact ⟨i02, i12, r02, r12⟩ | exact ⟨i0, i1, r0, r1⟩)
  (apply tkT 0 1 hg; (focus rfl); (focus rfl); (focus kernel_rfl); (focus (intro w0 hSw; (try dsimp only at hSw); go_simp; try (with_reducible rfl))); (focus assumption))
  try simp only [Act.put, List.setIfInBounds_toArray, List.set_cons_zero, List.set_cons_succ]
  (apply tkT 1 3 hg; (focus rfl); (focus rfl); (focus kernel_rfl); (focus (intro w0 hSw; (try dsimp only at hSw); go_simp; try (with_reducible rfl))); (focus assumption))
  try simp only [Act.put, List.setIfInBounds_toArray, List.set_cons_zero, List.set_cons_succ]
  (apply tkT 3 11 hg; (focus rfl); (focus rfl); (focus kernel_rfl); (focus (intro w0 hSw; (try dsimp only at hSw); go_simp; try (with_reducible rfl))); (focus assumption))
  try simp only [Act.put, List.setIfInBounds_toArray, List.set_cons_zero, List.set_cons_succ]
  (apply tkT 4 27 hg; (focus rfl); (focus rfl); (focus kernel_rfl); (focus (intro w0 hSw; (try dsimp only at hSw); go_simp; try (with_reducible rfl))); (focus assumption))
  try simp only [Act.put, List.setIfInBounds_toArray, List.set_cons_zero, List.set_cons_succ]
  (apply act1 2 31 hg; (focus rfl); (focus rfl); (focus kernel_rfl))
  intro K hK
  go_simp
  refine (same1_calls j a _).mono ?_; rintro e w2 ⟨rfl, hb2⟩; replace hb2 := Below.undrew hb2; have i02 := isRow_call hb2 i0; have i12 := isRow_call hb2 i1; have r02 := row_call hb2 i0 r0; have r12 := row_call hb2 i1 r1
  refine hK.out _ _ ?_ (fun hHeld => ?_)
  · (try dsimp only); (first | exact ⟨i03, i13, r03, r13⟩ | exact ⟨i02, i12, r02, r12⟩ | exact ⟨i0, i1, r0, r1⟩)
  clear hK K
  try simp only [Act.put, List.setIfInBounds_toArray, List.set_cons_zero, List.set_cons_succ]
  (apply act1 5 63 hg; (focus rfl); (focus rfl); (focus kernel_rfl))
  intro K hK
  go_simp
  refine (same1_calls k b _).mono ?_; rintro e w3 ⟨rfl, hb3⟩; have i03 := isRow_call hb3 i02; have i13 := isRow_call hb3 i12; have r03 := row_call hb3 i02 r02; have r13 := row_call hb3 i12 r12; have c3 := (hb2.mono HB0.out.size).trans (hb3.mono (HB0.out.trans (hb2.mono HB0.out.size)).size)
  refine hK.out _ _ ?_ (fun hHeld => ?_)
  · (try dsimp only); (first | exact ⟨i03, i13, r03, r13⟩ | exact ⟨i02, i12, r02, r12⟩ | exact ⟨i0, i1, r0, r1⟩)
  clear hK K
  try simp only [Act.put, List.setIfInBounds_toArray, List.set_cons_zero, List.set_cons_succ]
  (apply tkT 6 127 hg; (focus rfl); (focus rfl); (focus kernel_rfl); (focus (intro w0 hSw; (try dsimp only at hSw); go_simp; try (with_reducible rfl))); (focus assumption))
  try simp only [Act.put, List.setIfInBounds_toArray, List.set_cons_zero, List.set_cons_succ]
  (apply tkT 7 255 hg; (focus rfl); (focus rfl); (focus kernel_rfl); (focus (intro w0 hSw; (try dsimp only at hSw); go_simp; try (with_reducible rfl))); (focus assumption))
  try simp only [Act.put, List.setIfInBounds_toArray, List.set_cons_zero, List.set_cons_succ]
  (first | (apply tkT 8 511 hg; (focus rfl); (focus rfl); (focus kernel_rfl); (focus (intro w0 hSw; (try dsimp only at hSw); go_simp; try (with_reducible rfl))); (focus assumption)) | (apply tkF 8 511 hg; (focus rfl); (focus rfl); (focus kernel_rfl); (focus assumption)))
  try simp only [Act.put, List.setIfInBounds_toArray, List.set_cons_zero, List.set_cons_succ]
  (first | (apply tkT 9 1023 hg; (focus rfl); (focus rfl); (focus kernel_rfl); (focus (intro w0 hSw; (try dsimp only at hSw); go_simp; try (with_reducible rfl))); (focus assumption)) | (apply tkF 9 1023 hg; (focus rfl); (focus rfl); (focus kernel_rfl); (focus assumption)))
  try simp only [Act.put, List.setIfInBounds_toArray, List.set_cons_zero, List.set_cons_succ]
  (first | (apply tkT 10 2047 hg; (focus rfl); (focus rfl); (focus kernel_rfl); (focus (intro w0 hSw; (try dsimp only at hSw); go_simp; try (with_reducible rfl))); (focus assumption)) | (apply tkF 10 2047 hg; (focus rfl); (focus rfl); (focus kernel_rfl); (focus assumption)))
  try simp only [Act.put, List.setIfInBounds_toArray, List.set_cons_zero, List.set_cons_succ]
  (first | (apply tkT 11 4095 hg; (focus rfl); (focus rfl); (focus kernel_rfl); (focus (intro w0 hSw; (try dsimp only at hSw); go_simp; try (with_reducible rfl))); (focus assumption)) | (apply tkF 11 4095 hg; (focus rfl); (focus rfl); (focus kernel_rfl); (focus assumption)))
  try simp only [Act.put, List.setIfInBounds_toArray, List.set_cons_zero, List.set_cons_succ]
  (first | (apply tkT 12 8191 hg; (focus rfl); (focus rfl); (focus kernel_rfl); (focus (intro w0 hSw; (try dsimp only at hSw); go_simp; try (with_reducible rfl))); (focus assumption)) | (apply tkF 12 8191 hg; (focus rfl); (focus rfl); (focus kernel_rfl); (focus assumption)))
  try simp only [Act.put, List.setIfInBounds_toArray, List.set_cons_zero, List.set_cons_succ]
  (apply tkT 13 16383 hg; (focus rfl); (focus rfl); (focus kernel_rfl); (focus (intro w0 hSw; (try dsimp only at hSw); go_simp; try (with_reducible rfl))); (focus assumption))
  try simp only [Act.put, List.setIfInBounds_toArray, List.set_cons_zero, List.set_cons_succ]
  (apply tkT 14 32767 hg; (focus rfl); (focus rfl); (focus kernel_rfl); (focus (intro w0 hSw; (try dsimp only at hSw); go_simp; try (with_reducible rfl))); (focus assumption))
  try simp only [Act.put, List.setIfInBounds_toArray, List.set_cons_zero, List.set_cons_succ]
  (first | (apply tkT 15 65535 hg; (focus rfl); (focus rfl); (focus kernel_rfl); (focus (intro w0 hSw; (try dsimp only at hSw); go_simp; try (with_reducible rfl))); (focus assumption)) | (apply tkF 15 65535 hg; (focus rfl); (focus rfl); (focus kernel_rfl); (focus assumption)))
  try simp only [Act.put, List.setIfInBounds_toArray, List.set_cons_zero, List.set_cons_succ]
  (first | (apply tkT 16 131071 hg; (focus rfl); (focus rfl); (focus kernel_rfl); (focus (intro w0 hSw; (try dsimp only at hSw); go_simp; try (with_reducible rfl))); (focus assumption)) | (apply tkF 16 131071 hg; (focus rfl); (focus rfl); (focus kernel_rfl); (focus assumption)))
  try simp only [Act.put, List.setIfInBounds_toArray, List.set_cons_zero, List.set_cons_succ]
  (first | (apply tkT 17 262143 hg; (focus rfl); (focus rfl); (focus kernel_rfl); (focus (intro w0 hSw; (try dsimp only at hSw); go_simp; try (with_reducible rfl))); (focus assumption)) | (apply tkF 17 262143 hg; (focus rfl); (focus rfl); (focus kernel_rfl); (focus assumption)))
  try simp only [Act.put, List.setIfInBounds_toArray, List.set_cons_zero, List.set_cons_succ]
  (first | (apply tkT 18 524287 hg; (focus rfl); (focus rfl); (focus kernel_rfl); (focus (intro w0 hSw; (try dsimp only at hSw); go_simp; try (with_reducible rfl))); (focus assumption)) | (apply tkF 18 524287 hg; (focus rfl); (focus rfl); (focus kernel_rfl); (focus assumption)))
  try simp only [Act.put, List.setIfInBounds_toArray, List.set_cons_zero, List.set_cons_succ]
  (first | (apply tkT 19 1048575 hg; (focus rfl); (focus rfl); (focus kernel_rfl); (focus (intro w0 hSw; (try dsimp only at hSw); go_simp; try (with_reducible rfl))); (focus assumption)) | (apply tkF 19 1048575 hg; (focus rfl); (focus rfl); (focus kernel_rfl); (focus assumption)))
  try simp only [Act.put, List.setIfInBounds_toArray, List.set_cons_zero, List.set_cons_succ]
  (apply tkT 20 2097151 hg; (focus rfl); (focus rfl); (focus kernel_rfl); (focus (intro w0 hSw; (try dsimp only at hSw); go_simp; try (with_reducible rfl))); (focus assumption))
  try simp only [Act.put, List.setIfInBounds_toArray, List.set_cons_zero, List.set_cons_succ]
  (apply tkT 21 4194303 hg; (focus rfl); (focus rfl); (focus kernel_rfl); (focus (intro w0 hSw; (try dsimp only at hSw); go_simp; try (with_reducible rfl))); (focus assumption))
  try simp only [Act.put, List.setIfInBounds_toArray, List.set_cons_zero, List.set_cons_succ]
  (first | (apply tkT 22 8388607 hg; (focus rfl); (focus rfl); (focus kernel_rfl); (focus (intro w0 hSw; (try dsimp only at hSw); go_simp; try (with_reducible rfl))); (focus assumption)) | (apply tkF 22 8388607 hg; (focus rfl); (focus rfl); (focus kernel_rfl); (focus assumption)))
  try simp only [Act.put, List.setIfInBounds_toArray, List.set_cons_zero, List.set_cons_succ]
  (first | (apply tkT 23 16777215 hg; (focus rfl); (focus rfl); (focus kernel_rfl); (focus (intro w0 hSw; (try dsimp only at hSw); go_simp; try (with_reducible rfl))); (focus assumption)) | (apply tkF 23 16777215 hg; (focus rfl); (focus rfl); (focus kernel_rfl); (focus assumption)))
  try simp only [Act.put, List.setIfInBounds_toArray, List.set_cons_zero, List.set_cons_succ]
  (first | (apply tkT 24 33554431 hg; (focus rfl); (focus rfl); (focus kernel_rfl); (focus (intro w0 hSw; (try dsimp only at hSw); go_simp; try (with_reducible rfl))); (focus assumption)) | (apply tkF 24 33554431 hg; (focus rfl); (focus rfl); (focus kernel_rfl); (focus assumption)))
  try simp only [Act.put, List.setIfInBounds_toArray, List.set_cons_zero, List.set_cons_succ]
  (first | (apply tkT 25 67108863 hg; (focus rfl); (focus rfl); (focus kernel_rfl); (focus (intro w0 hSw; (try dsimp only at hSw); go_simp; try (with_reducible rfl))); (focus assumption)) | (apply tkF 25 67108863 hg; (focus rfl); (focus rfl); (focus kernel_rfl); (focus assumption)))
  try simp only [Act.put, List.setIfInBounds_toArray, List.set_cons_zero, List.set_cons_succ]
  (first | (apply tkT 26 134217727 hg; (focus rfl); (focus rfl); (focus kernel_rfl); (focus (intro w0 hSw; (try dsimp only at hSw); go_simp; try (with_reducible rfl))); (focus assumption)) | (apply tkF 26 134217727 hg; (focus rfl); (focus rfl); (focus kernel_rfl); (focus assumption)))
  try simp only [Act.put, List.setIfInBounds_toArray, List.set_cons_zero, List.set_cons_succ]
  (apply tkT 27 268435455 hg; (focus rfl); (focus rfl); (focus kernel_rfl); (focus (intro w0 hSw; (try dsimp only at hSw); go_simp; try (with_reducible rfl))); (focus assumption))
  try simp only [Act.put, List.setIfInBounds_toArray, List.set_cons_zero, List.set_cons_succ]
  (apply tkT 28 536870911 hg; (focus rfl); (focus rfl); (focus kernel_rfl); (focus (intro w0 hSw; (try dsimp only at hSw); go_simp; try (with_reducible rfl))); (focus assumption))
  try simp only [Act.put, List.setIfInBounds_toArray, List.set_cons_zero, List.set_cons_succ]
  (first | (apply tkT 29 1073741823 hg; (focus rfl); (focus rfl); (focus kernel_rfl); (focus (intro w0 hSw; (try dsimp only at hSw); go_simp; try (with_reducible rfl))); (focus assumption)) | (apply tkF 29 1073741823 hg; (focus rfl); (focus rfl); (focus kernel_rfl); (focus assumption)))
  try simp only [Act.put, List.setIfInBounds_toArray, List.set_cons_zero, List.set_cons_succ]
  (first | (apply tkT 30 2147483647 hg; (focus rfl); (focus rfl); (focus kernel_rfl); (focus (intro w0 hSw; (try dsimp only at hSw); go_simp; try (with_reducible rfl))); (focus assumption)) | (apply tkF 30 2147483647 hg; (focus rfl); (focus rfl); (focus kernel_rfl); (focus assumption)))
  try simp only [Act.put, List.setIfInBounds_toArray, List.set_cons_zero, List.set_cons_succ]
  (first | (apply tkT 31 4294967295 hg; (focus rfl); (focus rfl); (focus kernel_rfl); (focus (intro w0 hSw; (try dsimp only at hSw); go_simp; try (with_reducible rfl))); (focus assumption)) | (apply tkF 31 4294967295 hg; (focus rfl); (focus rfl); (focus kernel_rfl); (focus assumption)))
  try simp only [Act.put, List.setIfInBounds_toArray, List.set_cons_zero, List.set_cons_succ]
  (first | (apply tkT 32 8589934591 hg; (focus rfl); (focus rfl); (focus kernel_rfl); (focus (intro w0 hSw; (try dsimp only at hSw); go_simp; try (with_reducible rfl))); (focus assumption)) | (apply tkF 32 8589934591 hg; (focus rfl); (focus rfl); (focus kernel_rfl); (focus assumption)))
  try simp only [Act.put, List.setIfInBounds_toArray, List.set_cons_zero, List.set_cons_succ]
  (first | (apply tkT 33 17179869183 hg; (focus rfl); (focus rfl); (focus kernel_rfl); (focus (intro w0 hSw; (try dsimp only at hSw); go_simp; try (with_reducible rfl))); (focus assumption)) | (apply tkF 33 17179869183 hg; (focus rfl); (focus rfl); (focus kernel_rfl); (focus assumption)))
  try simp only [Act.put, List.setIfInBounds_toArray, List.set_cons_zero, List.set_cons_succ]
  (apply tkT 34 34359738367 hg; (focus rfl); (focus rfl); (focus kernel_rfl); (focus (intro w0 hSw; (try dsimp only at hSw); go_simp; try (with_reducible rfl))); (focus assumption))
  try simp only [Act.put, List.setIfInBounds_toArray, List.set_cons_zero, List.set_cons_succ]
  (apply tkT 35 68719476735 hg; (focus rfl); (focus rfl); (focus kernel_rfl); (focus (intro w0 hSw; (try dsimp only at hSw); go_simp; try (with_reducible rfl))); (focus assumption))
  try simp only [Act.put, List.setIfInBounds_toArray, List.set_cons_zero, List.set_cons_succ]
  (first | (apply tkT 36 137438953471 hg; (focus rfl); (focus rfl); (focus kernel_rfl); (focus (intro w0 hSw; (try dsimp only at hSw); go_simp; try (with_reducible rfl))); (focus assumption)) | (apply tkF 36 137438953471 hg; (focus rfl); (focus rfl); (focus kernel_rfl); (focus assumption)))
  try simp only [Act.put, List.setIfInBounds_toArray, List.set_cons_zero, List.set_cons_succ]
  (first | (apply tkT 37 274877906943 hg; (focus rfl); (focus rfl); (focus kernel_rfl); (focus (intro w0 hSw; (try dsimp only at hSw); go_simp; try (with_reducible rfl))); (focus assumption)) | (apply tkF 37 274877906943 hg; (focus rfl); (focus rfl); (focus kernel_rfl); (focus assumption)))
  try simp only [Act.put, List.setIfInBounds_toArray, List.set_cons_zero, List.set_cons_succ]
  (first | (apply tkT 38 549755813887 hg; (focus rfl); (focus rfl); (focus kernel_rfl); (focus (intro w0 hSw; (try dsimp only at hSw); go_simp; try (with_reducible rfl))); (focus assumption)) | (apply tkF 38 549755813887 hg; (focus rfl); (focus rfl); (focus kernel_rfl); (focus assumption)))
  try simp only [Act.put, List.setIfInBounds_toArray, List.set_cons_zero, List.set_cons_succ]
  (first | (apply tkT 39 1099511627775 hg; (focus rfl); (focus rfl); (focus kernel_rfl); (focus (intro w0 hSw; (try dsimp only at hSw); go_simp; try (with_reducible rfl))); (focus assumption)) | (apply tkF 39 1099511627775 hg; (focus rfl); (focus rfl); (focus kernel_rfl); (focus assumption)))
  try simp only [Act.put, List.setIfInBounds_toArray, List.set_cons_zero, List.set_cons_succ]
  (first | (apply tkT 40 2199023255551 hg; (focus rfl); (focus rfl); (focus kernel_rfl); (focus (intro w0 hSw; (try dsimp only at hSw); go_simp; try (with_reducible rfl))); (focus assumption)) | (apply tkF 40 2199023255551 hg; (focus rfl); (focus rfl); (focus kernel_rfl); (focus assumption)))
  try simp only [Act.put, List.setIfInBounds_toArray, List.set_cons_zero, List.set_cons_succ]
  (apply tkT 41 4398046511103 hg; (focus rfl); (focus rfl); (focus kernel_rfl); (focus (intro w0 hSw; (try dsimp only at hSw); go_simp; try (with_reducible rfl))); (focus assumption))
  try simp only [Act.put, List.setIfInBounds_toArray, List.set_cons_zero, List.set_cons_succ]
  (apply tkT 42 8796093022207 hg; (focus rfl); (focus rfl); (focus kernel_rfl); (focus (intro w0 hSw; (try dsimp only at hSw); go_simp; try (with_reducible rfl))); (focus assumption))
  try simp only [Act.put, List.setIfInBounds_toArray, List.set_cons_zero, List.set_cons_succ]
  (first | (apply tkT 43 17592186044415 hg; (focus rfl); (focus rfl); (focus kernel_rfl); (focus (intro w0 hSw; (try dsimp only at hSw); go_simp; try (with_reducible rfl))); (focus assumption)) | (apply tkF 43 17592186044415 hg; (focus rfl); (focus rfl); (focus kernel_rfl); (focus assumption)))
  try simp only [Act.put, List.setIfInBounds_toArray, List.set_cons_zero, List.set_cons_succ]
  (first | (apply tkT 44 35184372088831 hg; (focus rfl); (focus rfl); (focus kernel_rfl); (focus (intro w0 hSw; (try dsimp only at hSw); go_simp; try (with_reducible rfl))); (focus assumption)) | (apply tkF 44 35184372088831 hg; (focus rfl); (focus rfl); (focus kernel_rfl); (focus assumption)))
  try simp only [Act.put, List.setIfInBounds_toArray, List.set_cons_zero, List.set_cons_succ]
  (first | (apply tkT 45 70368744177663 hg; (focus rfl); (focus rfl); (focus kernel_rfl); (focus (intro w0 hSw; (try dsimp only at hSw); go_simp; try (with_reducible rfl))); (focus assumption)) | (apply tkF 45 70368744177663 hg; (focus rfl); (focus rfl); (focus kernel_rfl); (focus assumption)))
  try simp only [Act.put, List.setIfInBounds_toArray, List.set_cons_zero, List.set_cons_succ]
  (first | (apply tkT 46 140737488355327 hg; (focus rfl); (focus rfl); (focus kernel_rfl); (focus (intro w0 hSw; (try dsimp only at hSw); go_simp; try (with_reducible rfl))); (focus assumption)) | (apply tkF 46 140737488355327 hg; (focus rfl); (focus rfl); (focus kernel_rfl); (focus assumption)))
  try simp only [Act.put, List.setIfInBounds_toArray, List.set_cons_zero, List.set_cons_succ]
  (first | (apply tkT 47 281474976710655 hg; (focus rfl); (focus rfl); (focus kernel_rfl); (focus (intro w0 hSw; (try dsimp only at hSw); go_simp; try (with_reducible rfl))); (focus assumption)) | (apply tkF 47 281474976710655 hg; (focus rfl); (focus rfl); (focus kernel_rfl); (focus assumption)))
  try simp only [Act.put, List.setIfInBounds_toArray, List.set_cons_zero, List.set_cons_succ]
  (apply tkT 48 562949953421311 hg; (focus rfl); (focus rfl); (focus kernel_rfl); (focus (intro w0 hSw; (try dsimp only at hSw); go_simp; try (with_reducible rfl))); (focus assumption))
  try simp only [Act.put, List.setIfInBounds_toArray, List.set_cons_zero, List.set_cons_succ]
  (apply tkT 49 1125899906842623 hg; (focus rfl); (focus rfl); (focus kernel_rfl); (focus (intro w0 hSw; (try dsimp only at hSw); go_simp; try (with_reducible rfl))); (focus assumption))
  try simp only [Act.put, List.setIfInBounds_toArray, List.set_cons_zero, List.set_cons_succ]
  (first | (apply tkT 50 2251799813685247 hg; (focus rfl); (focus rfl); (focus kernel_rfl); (focus (intro w0 hSw; (try dsimp only at hSw); go_simp; try (with_reducible rfl))); (focus assumption)) | (apply tkF 50 2251799813685247 hg; (focus rfl); (focus rfl); (focus kernel_rfl); (focus assumption)))
  try simp only [Act.put, List.setIfInBounds_toArray, List.set_cons_zero, List.set_cons_succ]
  (first | (apply tkT 51 4503599627370495 hg; (focus rfl); (focus rfl); (focus kernel_rfl); (focus (intro w0 hSw; (try dsimp only at hSw); go_simp; try (with_reducible rfl))); (focus assumption)) | (apply tkF 51 4503599627370495 hg; (focus rfl); (focus rfl); (focus kernel_rfl); (focus assumption)))
  try simp only [Act.put, List.setIfInBounds_toArray, List.set_cons_zero, List.set_cons_succ]
  (first | (apply tkT 52 9007199254740991 hg; (focus rfl); (focus rfl); (focus kernel_rfl); (focus (intro w0 hSw; (try dsimp only at hSw); go_simp; try (with_reducible rfl))); (focus assumption)) | (apply tkF 52 9007199254740991 hg; (focus rfl); (focus rfl); (focus kernel_rfl); (focus assumption)))
  try simp only [Act.put, List.setIfInBounds_toArray, List.set_cons_zero, List.set_cons_succ]
  (first | (apply tkT 53 18014398509481983 hg; (focus rfl); (focus rfl); (focus kernel_rfl); (focus (intro w0 hSw; (try dsimp only at hSw); go_simp; try (with_reducible rfl))); (focus assumption)) | (apply tkF 53 18014398509481983 hg; (focus rfl); (focus rfl); (focus kernel_rfl); (focus assumption)))
  try simp only [Act.put, List.setIfInBounds_toArray, List.set_cons_zero, List.set_cons_succ]
  (apply tkF 54 36028797018963967 hg; (focus rfl); (focus rfl); (focus kernel_rfl); (focus assumption))
  try simp only [Act.put, List.setIfInBounds_toArray, List.set_cons_zero, List.set_cons_succ]
  (apply tkT 55 72057594037927935 hg; (focus rfl); (focus rfl); (focus kernel_rfl); (focus (intro w0 hSw; (try dsimp only at hSw); go_simp; try (with_reducible rfl))); (focus assumption))
  try simp only [Act.put, List.setIfInBounds_toArray, List.set_cons_zero, List.set_cons_succ]
  (apply tkT 56 144115188075855871 hg; (focus rfl); (focus rfl); (focus kernel_rfl); (focus (intro w0 hSw; (try dsimp only at hSw); go_simp; try (with_reducible rfl))); (focus assumption))
  try simp only [Act.put, List.setIfInBounds_toArray, List.set_cons_zero, List.set_cons_succ]
  (first | (apply tkT 57 288230376151711743 hg; (focus rfl); (focus rfl); (focus kernel_rfl); (focus (intro w0 hSw; (try dsimp only at hSw); go_simp; try (with_reducible rfl))); (focus assumption)) | (apply tkF 57 288230376151711743 hg; (focus rfl); (focus rfl); (focus kernel_rfl); (focus assumption)))
  try simp only [Act.put, List.setIfInBounds_toArray, List.set_cons_zero, List.set_cons_succ]
  (first | (apply tkT 58 576460752303423487 hg; (focus rfl); (focus rfl); (focus kernel_rfl); (focus (intro w0 hSw; (try dsimp only at hSw); go_simp; try (with_reducible rfl))); (focus assumption)) | (apply tkF 58 576460752303423487 hg; (focus rfl); (focus rfl); (focus kernel_rfl); (focus assumption)))
  try simp only [Act.put, List.setIfInBounds_toArray, List.set_cons_zero, List.set_cons_succ]
  (first | (apply tkT 59 1152921504606846975 hg; (focus rfl); (focus rfl); (focus kernel_rfl); (focus (intro w0 hSw; (try dsimp only at hSw); go_simp; try (with_reducible rfl))); (focus assumption)) | (apply tkF 59 1152921504606846975 hg; (focus rfl); (focus rfl); (focus kernel_rfl); (focus assumption)))
  try simp only [Act.put, List.setIfInBounds_toArray, List.set_cons_zero, List.set_cons_succ]
  (first | (apply tkT 60 2305843009213693951 hg; (focus rfl); (focus rfl); (focus kernel_rfl); (focus (intro w0 hSw; (try dsimp only at hSw); go_simp; try (with_reducible rfl))); (focus assumption)) | (apply tkF 60 2305843009213693951 hg; (focus rfl); (focus rfl); (focus kernel_rfl); (focus assumption)))
  try simp only [Act.put, List.setIfInBounds_toArray, List.set_cons_zero, List.set_cons_succ]
  (apply tkF 61 4611686018427387903 hg; (focus rfl); (focus rfl); (focus kernel_rfl); (focus assumption))
  try simp only [Act.put, List.setIfInBounds_toArray, List.set_cons_zero, List.set_cons_succ]
  (apply tkT 62 9223372036854775807 hg; (focus rfl); (focus rfl); (focus kernel_rfl); (focus (intro w0 hSw; (try dsimp only at hSw); go_simp; try (with_reducible rfl))); (focus assumption))
  try simp only [Act.put, List.setIfInBounds_toArray, List.set_cons_zero, List.set_cons_succ]
  (apply tkT 63 18446744073709551615 hg; (focus rfl); (focus rfl); (focus kernel_rfl); (focus (intro w0 hSw; (try dsimp only at hSw); go_simp; try (with_reducible rfl))); (focus assumption))
  try simp only [Act.put, List.setIfInBounds_toArray, List.set_cons_zero, List.set_cons_succ]
  (first | (apply tkT 64 36893488147419103231 hg; (focus rfl); (focus rfl); (focus kernel_rfl); (focus (intro w0 hSw; (try dsimp only at hSw); go_simp; try (with_reducible rfl))); (focus assumption)) | (apply tkF 64 36893488147419103231 hg; (focus rfl); (focus rfl); (focus kernel_rfl); (focus assumption)))
  try simp only [Act.put, List.setIfInBounds_toArray, List.set_cons_zero, List.set_cons_succ]
  (first | (apply tkT 65 73786976294838206463 hg; (focus rfl); (focus rfl); (focus kernel_rfl); (focus (intro w0 hSw; (try dsimp only at hSw); go_simp; try (with_reducible rfl))); (focus assumption)) | (apply tkF 65 73786976294838206463 hg; (focus rfl); (focus rfl); (focus kernel_rfl); (focus assumption)))
  try simp only [Act.put, List.setIfInBounds_toArray, List.set_cons_zero, List.set_cons_succ]
  (first | (apply tkT 66 147573952589676412927 hg; (focus rfl); (focus rfl); (focus kernel_rfl); (focus (intro w0 hSw; (try dsimp only at hSw); go_simp; try (with_reducible rfl))); (focus assumption)) | (apply tkF 66 147573952589676412927 hg; (focus rfl); (focus rfl); (focus kernel_rfl); (focus assumption)))
  try simp only [Act.put, List.setIfInBounds_toArray, List.set_cons_zero, List.set_cons_succ]
  (first | (apply tkT 67 295147905179352825855 hg; (focus rfl); (focus rfl); (focus kernel_rfl); (focus (intro w0 hSw; (try dsimp only at hSw); go_simp; try (with_reducible rfl))); (focus assumption)) | (apply tkF 67 295147905179352825855 hg; (focus rfl); (focus rfl); (focus kernel_rfl); (focus assumption)))
  try simp only [Act.put, List.setIfInBounds_toArray, List.set_cons_zero, List.set_cons_succ]
  (first | (apply tkT 68 590295810358705651711 hg; (focus rfl); (focus rfl); (focus kernel_rfl); (focus (intro w0 hSw; (try dsimp only at hSw); go_simp; try (with_reducible rfl))); (focus assumption)) | (apply tkF 68 590295810358705651711 hg; (focus rfl); (focus rfl); (focus kernel_rfl); (focus assumption)))
  try simp only [Act.put, List.setIfInBounds_toArray, List.set_cons_zero, List.set_cons_succ]
  (apply tkF 69 1180591620717411303423 hg; (focus rfl); (focus rfl); (focus kernel_rfl); (focus assumption))
  try simp only [Act.put, List.setIfInBounds_toArray, List.set_cons_zero, List.set_cons_succ]
  (apply tkT 70 2361183241434822606847 hg; (focus rfl); (focus rfl); (focus kernel_rfl); (focus (intro w0 hSw; (try dsimp only at hSw); go_simp; try (with_reducible rfl))); (focus assumption))
  try simp only [Act.put, List.setIfInBounds_toArray, List.set_cons_zero, List.set_cons_succ]
  (apply tkT 71 4722366482869645213695 hg; (focus rfl); (focus rfl); (focus kernel_rfl); (focus (intro w0 hSw; (try dsimp only at hSw); go_simp; try (with_reducible rfl))); (focus assumption))
  try simp only [Act.put, List.setIfInBounds_toArray, List.set_cons_zero, List.set_cons_succ]
  refine actE hg (by kernel_rfl) ?_
  go_wp2
  go_ret
  exact ⟨ret_bool (by simp), HB0.out.trans c3⟩
end Go.Proofs.YtjkjlegloicmcaaDoor
