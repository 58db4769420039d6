/- JobSame: whether any two jobs are the same is the document's. -/
import Derived.Test.YtjkjlegloicmcaaDoorWork
import Derived.Test.YtjkjlegloicmcaaDoorJobP
import Derived.Test.YtjkjlegloicmcaaDoorRsm
set_option linter.unusedVariables false
set_option linter.unusedSimpArgs false
namespace Go.Proofs.YtjkjlegloicmcaaDoor
open Go.RowKit
theorem plain_at {j : Job} (h : plainB j = true) : j.stack.length ≤ 1000 ∧ (∀ f ∈ j.stack, f.names.length ≤ 100000) ∧ j.names.length ≤ 100000 ∧ j.draws.length ≤ 100000 ∧ 0 ≤ j.at_ ∧ j.at_ ≤ 1000000 := by
  unfold plainB tailB at h
  simp only [Bool.and_eq_true, decide_eq_true_eq, List.all_eq_true] at h
  obtain ⟨h1, h2, h3, h4, _, _, _, h5, h6⟩ := h
  exact ⟨by omega, fun f hf => by have := h1 f (by rw [List.take_of_length_le (by omega)]; exact hf); omega, by omega, by omega, h5, h6⟩
theorem keep2 {W w1 : World} (hb : Below W.heap.size W w1) {b1 b2 : Nat} {c1 c2 : Array Value} (h : (isRow W b1 = true ∧ isRow W b2 = true) ∧ row W b1 = c1 ∧ row W b2 = c2) : (isRow w1 b1 = true ∧ isRow w1 b2 = true) ∧ row w1 b1 = c1 ∧ row w1 b2 = c2 := by
  obtain ⟨⟨i1, i2⟩, r1, r2⟩ := h
  exact ⟨⟨isRow_call hb i1, isRow_call hb i2⟩, row_call hb i1 r1, row_call hb i2 r2⟩
attribute [local go_sem] isRow_drew row_drew isRow_drewN row_drewN cell_isRow rowSz_isRow isHead_ptr blockOf_ptr row_alloc isRow_alloc rowSz_alloc setRow_alloc isRow_setRow isRow_setCell isRow_frozen setCell_setRow_same setCell_setRow_other cell_setRow_same' cell_setRow_other' frozen_setRow' row_setRow_same row_setRow_other rowSz_setRow_same rowSz_setRow_other setRow_setRow_same' setRow_comm' ne_l2 ne_r2 ne_l3 ne_r3 ne_l4 ne_r4 ne_l5 ne_r5 ne_l6 ne_r6 ne_l7 ne_r7 ne_l8 ne_r8 cells_len
attribute [local go_sem ↓] ldx_27
attribute [local go_sem ↓] Go.wp_at_zero Go.wp_at_succ
set_option maxRecDepth 100000 in
set_option maxHeartbeats 4000000 in
theorem jobSame_g1 (j k : Job) (a b : JA) (w : World) (hj : j.now w a) (hk : k.now w b) (hp1 : plainB j = false) :
    Calls Tryd.prog 4 #[.agg (j.cells a).toArray, .agg (k.cells b).toArray] w (RetB w true) := by
  have HJ := Lib.hid hj
  have HK := Lib.hid hk
  clear hj hk
  go_enter Tryd.func4, Tryd.ntmps4
  go_wp2_with fail
  refine Calls.at_ fun W hW => ?_
  have B0 : Below w.heap.size w W := by rw [hW]; repeat' (first | with_reducible refine Below.alloc ?_ ?_ _ | with_reducible refine Below.setRow_ ?_ ?_ _ | with_reducible refine Below.setCell ?_ ?_ _ | with_reducible refine Below.drew ?_ | with_reducible refine Below.drewN_ ?_ _ | with_reducible exact Below.refl _ _ | assumption | (simp; done) | (simp; omega) | omega)
  have Yx : Box W (w.heap.size) (j.cells a).toArray := ⟨_, by rw [hW]; exact blk_old (blk_new _ (by first | rfl | simp)) _⟩
  have Yq : Box W (w.heap.size + 1) (k.cells b).toArray := ⟨_, by rw [hW]; exact blk_new _ (by first | rfl | simp)⟩
  clear hW
  refine (plain_calls j a W (Now W) (Sub.now W) (HJ.out.step B0)).mono ?_
  rintro e w1 h
  obtain ⟨rfl, hb⟩ := (show RetP W false e w1 from by rw [hp1] at h; exact h)
  have C := B0.trans (hb.mono B0.size)
  have BB := Lib.hid C
  replace HJ := Lib.hid (HJ.out.step C)
  replace HK := Lib.hid (HK.out.step C)
  have Hx := Lib.hid (Yx.step hb)
  have Hq := Lib.hid (Yq.step hb)
  obtain ⟨bq, hbq⟩ : ∃ b, b = w.heap.size + 1 := ⟨_, rfl⟩
  rw [← hbq] at Hq ⊢
  obtain ⟨bx, hbx⟩ : ∃ b, b = w.heap.size := ⟨_, rfl⟩
  rw [← hbx] at Hx ⊢
  clear Yx hbx Yq hbq
  have ix := Hx.out.isRow; have rx := Hx.out.row; have lx := Hx.out.lt; have nx : ¬ bx = w1.heap.size := Nat.ne_of_lt lx; have mx : ¬ w1.heap.size = bx := fun h => nx h.symm
  have iq := Hq.out.isRow; have rq := Hq.out.row; have lq := Hq.out.lt; have nq : ¬ bq = w1.heap.size := Nat.ne_of_lt lq; have mq : ¬ w1.heap.size = bq := fun h => nq h.symm
  clear h hb C B0 W
  clear hp1
  go_wp2_with fail
  refine Calls.at_ fun W hW => ?_
  have B0 : Below w1.heap.size w1 W := by rw [hW]; repeat' (first | with_reducible refine Below.alloc ?_ ?_ _ | with_reducible refine Below.setRow_ ?_ ?_ _ | with_reducible refine Below.setCell ?_ ?_ _ | with_reducible refine Below.drew ?_ | with_reducible refine Below.drewN_ ?_ _ | with_reducible exact Below.refl _ _ | assumption | (simp; done) | (simp; omega) | omega)
  clear hW
  refine (shown_calls W).mono ?_
  rintro e w2 h
  obtain ⟨rfl, hb⟩ := (show RetB W true e w2 from h)
  have C := B0.trans (hb.mono B0.size)
  replace BB := Lib.hid (BB.out.trans (C.mono BB.out.size))
  replace HJ := Lib.hid (HJ.out.step C)
  replace HK := Lib.hid (HK.out.step C)
  clear ix rx lx nx mx
  replace Hx := Lib.hid (Hx.out.step C)
  clear iq rq lq nq mq
  replace Hq := Lib.hid (Hq.out.step C)
  have ix := Hx.out.isRow; have rx := Hx.out.row; have lx := Hx.out.lt; have nx : ¬ bx = w2.heap.size := Nat.ne_of_lt lx; have mx : ¬ w2.heap.size = bx := fun h => nx h.symm
  have iq := Hq.out.isRow; have rq := Hq.out.row; have lq := Hq.out.lt; have nq : ¬ bq = w2.heap.size := Nat.ne_of_lt lq; have mq : ¬ w2.heap.size = bq := fun h => nq h.symm
  clear h hb C B0 W
  go_wp2_with fail
  go_ret
  exact ⟨rfl, BB.out⟩
set_option maxRecDepth 100000 in
set_option maxHeartbeats 4000000 in
theorem jobSame_g2 (j k : Job) (a b : JA) (w : World) (hj : j.now w a) (hk : k.now w b) (hp1 : plainB j = true) (hp2 : plainB k = false) :
    Calls Tryd.prog 4 #[.agg (j.cells a).toArray, .agg (k.cells b).toArray] w (RetB w true) := by
  have HJ := Lib.hid hj
  have HK := Lib.hid hk
  clear hj hk
  go_enter Tryd.func4, Tryd.ntmps4
  go_wp2_with fail
  refine Calls.at_ fun W hW => ?_
  have B0 : Below w.heap.size w W := by rw [hW]; repeat' (first | with_reducible refine Below.alloc ?_ ?_ _ | with_reducible refine Below.setRow_ ?_ ?_ _ | with_reducible refine Below.setCell ?_ ?_ _ | with_reducible refine Below.drew ?_ | with_reducible refine Below.drewN_ ?_ _ | with_reducible exact Below.refl _ _ | assumption | (simp; done) | (simp; omega) | omega)
  have Yx : Box W (w.heap.size) (j.cells a).toArray := ⟨_, by rw [hW]; exact blk_old (blk_new _ (by first | rfl | simp)) _⟩
  have Yq : Box W (w.heap.size + 1) (k.cells b).toArray := ⟨_, by rw [hW]; exact blk_new _ (by first | rfl | simp)⟩
  clear hW
  refine (plain_calls j a W (Now W) (Sub.now W) (HJ.out.step B0)).mono ?_
  rintro e w1 h
  obtain ⟨rfl, hb⟩ := (show RetP W true e w1 from by rw [hp1] at h; exact h)
  have C := B0.trans (hb.mono B0.size)
  have BB := Lib.hid C
  replace HJ := Lib.hid (HJ.out.step C)
  replace HK := Lib.hid (HK.out.step C)
  have Hx := Lib.hid (Yx.step hb)
  have Hq := Lib.hid (Yq.step hb)
  obtain ⟨bq, hbq⟩ : ∃ b, b = w.heap.size + 1 := ⟨_, rfl⟩
  rw [← hbq] at Hq ⊢
  obtain ⟨bx, hbx⟩ : ∃ b, b = w.heap.size := ⟨_, rfl⟩
  rw [← hbx] at Hx ⊢
  clear Yx hbx Yq hbq
  have ix := Hx.out.isRow; have rx := Hx.out.row; have lx := Hx.out.lt; have nx : ¬ bx = w1.heap.size := Nat.ne_of_lt lx; have mx : ¬ w1.heap.size = bx := fun h => nx h.symm
  have iq := Hq.out.isRow; have rq := Hq.out.row; have lq := Hq.out.lt; have nq : ¬ bq = w1.heap.size := Nat.ne_of_lt lq; have mq : ¬ w1.heap.size = bq := fun h => nq h.symm
  clear h hb C B0 W
  clear hp1
  go_wp2_with fail
  refine Calls.at_ fun W hW => ?_
  have B0 : Below w1.heap.size w1 W := by rw [hW]; repeat' (first | with_reducible refine Below.alloc ?_ ?_ _ | with_reducible refine Below.setRow_ ?_ ?_ _ | with_reducible refine Below.setCell ?_ ?_ _ | with_reducible refine Below.drew ?_ | with_reducible refine Below.drewN_ ?_ _ | with_reducible exact Below.refl _ _ | assumption | (simp; done) | (simp; omega) | omega)
  clear hW
  refine (plain_calls k b W (Now W) (Sub.now W) (HK.out.step B0)).mono ?_
  rintro e w2 h
  obtain ⟨rfl, hb⟩ := (show RetP W false e w2 from by rw [hp2] at h; exact h)
  have C := B0.trans (hb.mono B0.size)
  replace BB := Lib.hid (BB.out.trans (C.mono BB.out.size))
  replace HJ := Lib.hid (HJ.out.step C)
  replace HK := Lib.hid (HK.out.step C)
  clear ix rx lx nx mx
  replace Hx := Lib.hid (Hx.out.step C)
  clear iq rq lq nq mq
  replace Hq := Lib.hid (Hq.out.step C)
  have ix := Hx.out.isRow; have rx := Hx.out.row; have lx := Hx.out.lt; have nx : ¬ bx = w2.heap.size := Nat.ne_of_lt lx; have mx : ¬ w2.heap.size = bx := fun h => nx h.symm
  have iq := Hq.out.isRow; have rq := Hq.out.row; have lq := Hq.out.lt; have nq : ¬ bq = w2.heap.size := Nat.ne_of_lt lq; have mq : ¬ w2.heap.size = bq := fun h => nq h.symm
  clear h hb C B0 W
  clear hp2
  go_wp2_with fail
  refine Calls.at_ fun W hW => ?_
  have B0 : Below w2.heap.size w2 W := by rw [hW]; repeat' (first | with_reducible refine Below.alloc ?_ ?_ _ | with_reducible refine Below.setRow_ ?_ ?_ _ | with_reducible refine Below.setCell ?_ ?_ _ | with_reducible refine Below.drew ?_ | with_reducible refine Below.drewN_ ?_ _ | with_reducible exact Below.refl _ _ | assumption | (simp; done) | (simp; omega) | omega)
  clear hW
  refine (shown_calls W).mono ?_
  rintro e w3 h
  obtain ⟨rfl, hb⟩ := (show RetB W true e w3 from h)
  have C := B0.trans (hb.mono B0.size)
  replace BB := Lib.hid (BB.out.trans (C.mono BB.out.size))
  replace HJ := Lib.hid (HJ.out.step C)
  replace HK := Lib.hid (HK.out.step C)
  clear ix rx lx nx mx
  replace Hx := Lib.hid (Hx.out.step C)
  clear iq rq lq nq mq
  replace Hq := Lib.hid (Hq.out.step C)
  have ix := Hx.out.isRow; have rx := Hx.out.row; have lx := Hx.out.lt; have nx : ¬ bx = w3.heap.size := Nat.ne_of_lt lx; have mx : ¬ w3.heap.size = bx := fun h => nx h.symm
  have iq := Hq.out.isRow; have rq := Hq.out.row; have lq := Hq.out.lt; have nq : ¬ bq = w3.heap.size := Nat.ne_of_lt lq; have mq : ¬ w3.heap.size = bq := fun h => nq h.symm
  clear h hb C B0 W
  go_wp2_with fail
  go_ret
  exact ⟨rfl, BB.out⟩
set_option maxRecDepth 100000 in
set_option maxHeartbeats 4000000 in
theorem jobSame_main (j k : Job) (a b : JA) (w : World) (hj : j.now w a) (hk : k.now w b) (hp1 : plainB j = true) (hp2 : plainB k = true) :
    Calls Tryd.prog 4 #[.agg (j.cells a).toArray, .agg (k.cells b).toArray] w (RetB w true) := by
  have PJ := Lib.hid (plain_at hp1)
  have PK := Lib.hid (plain_at hp2)
  have HJ := Lib.hid hj
  have HK := Lib.hid hk
  clear hj hk
  go_enter Tryd.func4, Tryd.ntmps4
  go_wp2_with fail
  refine Calls.at_ fun W hW => ?_
  have B0 : Below w.heap.size w W := by rw [hW]; repeat' (first | with_reducible refine Below.alloc ?_ ?_ _ | with_reducible refine Below.setRow_ ?_ ?_ _ | with_reducible refine Below.setCell ?_ ?_ _ | with_reducible refine Below.drew ?_ | with_reducible refine Below.drewN_ ?_ _ | with_reducible exact Below.refl _ _ | assumption | (simp; done) | (simp; omega) | omega)
  have Yx : Box W (w.heap.size) (j.cells a).toArray := ⟨_, by rw [hW]; exact blk_old (blk_new _ (by first | rfl | simp)) _⟩
  have Yq : Box W (w.heap.size + 1) (k.cells b).toArray := ⟨_, by rw [hW]; exact blk_new _ (by first | rfl | simp)⟩
  clear hW
  refine (plain_calls j a W (Now W) (Sub.now W) (HJ.out.step B0)).mono ?_
  rintro e w1 h
  obtain ⟨rfl, hb⟩ := (show RetP W true e w1 from by rw [hp1] at h; exact h)
  have C := B0.trans (hb.mono B0.size)
  have BB := Lib.hid C
  replace HJ := Lib.hid (HJ.out.step C)
  replace HK := Lib.hid (HK.out.step C)
  have Hx := Lib.hid (Yx.step hb)
  have Hq := Lib.hid (Yq.step hb)
  obtain ⟨bq, hbq⟩ : ∃ b, b = w.heap.size + 1 := ⟨_, rfl⟩
  rw [← hbq] at Hq ⊢
  obtain ⟨bx, hbx⟩ : ∃ b, b = w.heap.size := ⟨_, rfl⟩
  rw [← hbx] at Hx ⊢
  clear Yx hbx Yq hbq
  have ix := Hx.out.isRow; have rx := Hx.out.row; have lx := Hx.out.lt; have nx : ¬ bx = w1.heap.size := Nat.ne_of_lt lx; have mx : ¬ w1.heap.size = bx := fun h => nx h.symm
  have iq := Hq.out.isRow; have rq := Hq.out.row; have lq := Hq.out.lt; have nq : ¬ bq = w1.heap.size := Nat.ne_of_lt lq; have mq : ¬ w1.heap.size = bq := fun h => nq h.symm
  clear h hb C B0 W
  clear hp1
  go_wp2_with fail
  refine Calls.at_ fun W hW => ?_
  have B0 : Below w1.heap.size w1 W := by rw [hW]; repeat' (first | with_reducible refine Below.alloc ?_ ?_ _ | with_reducible refine Below.setRow_ ?_ ?_ _ | with_reducible refine Below.setCell ?_ ?_ _ | with_reducible refine Below.drew ?_ | with_reducible refine Below.drewN_ ?_ _ | with_reducible exact Below.refl _ _ | assumption | (simp; done) | (simp; omega) | omega)
  clear hW
  refine (plain_calls k b W (Now W) (Sub.now W) (HK.out.step B0)).mono ?_
  rintro e w2 h
  obtain ⟨rfl, hb⟩ := (show RetP W true e w2 from by rw [hp2] at h; exact h)
  have C := B0.trans (hb.mono B0.size)
  replace BB := Lib.hid (BB.out.trans (C.mono BB.out.size))
  replace HJ := Lib.hid (HJ.out.step C)
  replace HK := Lib.hid (HK.out.step C)
  clear ix rx lx nx mx
  replace Hx := Lib.hid (Hx.out.step C)
  clear iq rq lq nq mq
  replace Hq := Lib.hid (Hq.out.step C)
  have ix := Hx.out.isRow; have rx := Hx.out.row; have lx := Hx.out.lt; have nx : ¬ bx = w2.heap.size := Nat.ne_of_lt lx; have mx : ¬ w2.heap.size = bx := fun h => nx h.symm
  have iq := Hq.out.isRow; have rq := Hq.out.row; have lq := Hq.out.lt; have nq : ¬ bq = w2.heap.size := Nat.ne_of_lt lq; have mq : ¬ w2.heap.size = bq := fun h => nq h.symm
  clear h hb C B0 W
  clear hp2
  go_wp2_with fail
  refine Calls.at_ fun W hW => ?_
  have B0 : Below w2.heap.size w2 W := by rw [hW]; repeat' (first | with_reducible refine Below.alloc ?_ ?_ _ | with_reducible refine Below.setRow_ ?_ ?_ _ | with_reducible refine Below.setCell ?_ ?_ _ | with_reducible refine Below.drew ?_ | with_reducible refine Below.drewN_ ?_ _ | with_reducible exact Below.refl _ _ | assumption | (simp; done) | (simp; omega) | omega)
  clear hW
  refine (shown_calls W).mono ?_
  rintro e w3 h
  obtain ⟨rfl, hb⟩ := (show RetB W true e w3 from h)
  have C := B0.trans (hb.mono B0.size)
  replace BB := Lib.hid (BB.out.trans (C.mono BB.out.size))
  replace HJ := Lib.hid (HJ.out.step C)
  replace HK := Lib.hid (HK.out.step C)
  clear ix rx lx nx mx
  replace Hx := Lib.hid (Hx.out.step C)
  clear iq rq lq nq mq
  replace Hq := Lib.hid (Hq.out.step C)
  have ix := Hx.out.isRow; have rx := Hx.out.row; have lx := Hx.out.lt; have nx : ¬ bx = w3.heap.size := Nat.ne_of_lt lx; have mx : ¬ w3.heap.size = bx := fun h => nx h.symm
  have iq := Hq.out.isRow; have rq := Hq.out.row; have lq := Hq.out.lt; have nq : ¬ bq = w3.heap.size := Nat.ne_of_lt lq; have mq : ¬ w3.heap.size = bq := fun h => nq h.symm
  clear h hb C B0 W
  go_wp2_with fail
  refine Code.at_ fun v4 hW => ?_
  have B0 : Below w3.heap.size w3 v4 := by rw [hW]; repeat' (first | with_reducible refine Below.alloc ?_ ?_ _ | with_reducible refine Below.setRow_ ?_ ?_ _ | with_reducible refine Below.setCell ?_ ?_ _ | with_reducible refine Below.drew ?_ | with_reducible refine Below.drewN_ ?_ _ | with_reducible exact Below.refl _ _ | assumption | (simp; done) | (simp; omega) | omega)
  clear hW
  have C := B0
  replace BB := Lib.hid (BB.out.trans (C.mono BB.out.size))
  replace HJ := Lib.hid (HJ.out.step C)
  replace HK := Lib.hid (HK.out.step C)
  clear ix rx lx nx mx
  replace Hx := Lib.hid (Hx.out.step C)
  clear iq rq lq nq mq
  replace Hq := Lib.hid (Hq.out.step C)
  clear C B0
  have hc := cells_eq
  have S0 : (isRow v4 bx = true ∧ isRow v4 bq = true) ∧ row v4 bx = (j.cells a).toArray ∧ row v4 bq = (k.cells b).toArray := ⟨⟨Hx.out.isRow, Hq.out.isRow⟩, Hx.out.row, Hq.out.row⟩
  refine reg0 15 (fun w' => (isRow w' bx = true ∧ isRow w' bq = true) ∧ row w' bx = (j.cells a).toArray ∧ row w' bq = (k.cells b).toArray) (by kernel_rfl) (by kernel_rfl) (by kernel_rfl) ?_ (fun l hg hHeld => ?_)
  · (try dsimp only); (first | exact S5 | exact S4 | exact S3 | exact S2 | exact S1 | exact S0)
  (apply tkT 0 1 hg; (focus rfl); (focus rfl); (focus kernel_rfl); (focus (intro w0 hSw; (try dsimp only at hSw); go_simp; try (with_reducible rfl))); (focus assumption))
  try simp only [Act.put, List.setIfInBounds_toArray, List.set_cons_zero, List.set_cons_succ]
  (apply tkT 1 3 hg; (focus rfl); (focus rfl); (focus kernel_rfl); (focus (intro w0 hSw; (try dsimp only at hSw); go_simp; try (with_reducible rfl))); (focus assumption))
  try simp only [Act.put, List.setIfInBounds_toArray, List.set_cons_zero, List.set_cons_succ]
  (apply tkT 3 11 hg; (focus rfl); (focus rfl); (focus kernel_rfl); (focus (intro w0 hSw; (try dsimp only at hSw); go_simp; try (with_reducible rfl))); (focus assumption))
  try simp only [Act.put, List.setIfInBounds_toArray, List.set_cons_zero, List.set_cons_succ]
  (apply tkT 5 43 hg; (focus rfl); (focus rfl); (focus kernel_rfl); (focus (intro w0 hSw; (try dsimp only at hSw); go_simp; try (with_reducible rfl))); (focus assumption))
  try simp only [Act.put, List.setIfInBounds_toArray, List.set_cons_zero, List.set_cons_succ]
  (apply act1 2 47 hg; (focus rfl); (focus rfl); (focus kernel_rfl))
  intro K hK
  go_simp
  refine (same_calls j k a b _ (Now _) (Sub.now _) (HJ.out.step (Below.refl _ _).drew) (HK.out.step (Below.refl _ _).drew) PJ.out.1 PJ.out.2.1 PJ.out.2.2.1 PJ.out.2.2.2.1).mono ?_
  rintro e u1 ⟨rfl, hb⟩
  replace hb : Below v4.heap.size v4 u1 := Below.undrew hb
  have D1 := Lib.hid hb
  have S1 := keep2 hb S0
  clear hb
  refine hK.out _ _ ?_ (fun hHeld => ?_)
  · (try dsimp only); (first | exact S5 | exact S4 | exact S3 | exact S2 | exact S1 | exact S0)
  clear hK K
  try simp only [Act.put, List.setIfInBounds_toArray, List.set_cons_zero, List.set_cons_succ]
  (apply act1 4 63 hg; (focus rfl); (focus rfl); (focus kernel_rfl))
  intro K hK
  go_simp
  refine (work_calls j a _ (Now _) (Sub.now _) (HJ.out.step D1.out) PJ.out.1).mono ?_
  rintro e u2 h
  obtain ⟨x2, rfl, hj2, hb⟩ := h.now
  have D2 := Lib.hid (D1.out.trans (hb.mono D1.out.size))
  have S2 := keep2 hb S1
  have HX := Lib.hid hj2
  clear h hb hj2
  refine hK.out _ _ ?_ (fun hHeld => ?_)
  · (try dsimp only); (first | exact S5 | exact S4 | exact S3 | exact S2 | exact S1 | exact S0)
  clear hK K
  try simp only [Act.put, List.setIfInBounds_toArray, List.set_cons_zero, List.set_cons_succ]
  (apply act1 6 127 hg; (focus rfl); (focus rfl); (focus kernel_rfl))
  intro K hK
  go_simp
  refine (work_calls k b _ (Now _) (Sub.now _) (HK.out.step D2.out) PK.out.1).mono ?_
  rintro e u3 h
  obtain ⟨x3, rfl, hk3, hb⟩ := h.now
  have D3 := Lib.hid (D2.out.trans (hb.mono D2.out.size))
  have S3 := keep2 hb S2
  replace HX := Lib.hid (HX.out.step hb)
  have HY := Lib.hid hk3
  clear h hb hk3
  refine hK.out _ _ ?_ (fun hHeld => ?_)
  · (try dsimp only); (first | exact S5 | exact S4 | exact S3 | exact S2 | exact S1 | exact S0)
  clear hK K
  try simp only [Act.put, List.setIfInBounds_toArray, List.set_cons_zero, List.set_cons_succ]
  (apply act1 7 255 hg; (focus rfl); (focus rfl); (focus kernel_rfl))
  intro K hK
  go_simp
  refine (refSame_calls j k x2 x3 _ HX.out HY.out PJ.out.1 PJ.out.2.1 PJ.out.2.2.1 PJ.out.2.2.2.1).mono ?_
  rintro e u4 ⟨rfl, hb⟩
  have D4 := Lib.hid (D3.out.trans (hb.mono D3.out.size))
  have S4 := keep2 hb S3
  clear hb HX HY
  refine hK.out _ _ ?_ (fun hHeld => ?_)
  · (try dsimp only); (first | exact S5 | exact S4 | exact S3 | exact S2 | exact S1 | exact S0)
  clear hK K
  try simp only [Act.put, List.setIfInBounds_toArray, List.set_cons_zero, List.set_cons_succ]
  (apply tkT 8 511 hg; (focus rfl); (focus rfl); (focus kernel_rfl); (focus (intro w0 hSw; (try dsimp only at hSw); go_simp; try (with_reducible rfl))); (focus assumption))
  try simp only [Act.put, List.setIfInBounds_toArray, List.set_cons_zero, List.set_cons_succ]
  (apply tkT 9 1023 hg; (focus rfl); (focus rfl); (focus kernel_rfl); (focus (intro w0 hSw; (try dsimp only at hSw); go_simp; try (with_reducible rfl))); (focus assumption))
  try simp only [Act.put, List.setIfInBounds_toArray, List.set_cons_zero, List.set_cons_succ]
  (first | (apply tkT 10 2047 hg; (focus rfl); (focus rfl); (focus kernel_rfl); (focus (intro w0 hSw; (try dsimp only at hSw); go_simp; try (with_reducible rfl))); (focus assumption)) | (apply tkF 10 2047 hg; (focus rfl); (focus rfl); (focus kernel_rfl); (focus assumption)))
  try simp only [Act.put, List.setIfInBounds_toArray, List.set_cons_zero, List.set_cons_succ]
  (first | (apply tkT 11 4095 hg; (focus rfl); (focus rfl); (focus kernel_rfl); (focus (intro w0 hSw; (try dsimp only at hSw); go_simp; try (with_reducible rfl))); (focus assumption)) | (apply tkF 11 4095 hg; (focus rfl); (focus rfl); (focus kernel_rfl); (focus assumption)))
  try simp only [Act.put, List.setIfInBounds_toArray, List.set_cons_zero, List.set_cons_succ]
  (apply act1 12 8191 hg; (focus rfl); (focus rfl); (focus kernel_rfl))
  intro K hK
  go_simp
  refine (same_calls j j a a _ (Now _) (Sub.now _) (HJ.out.step D4.out) (HJ.out.step D4.out) PJ.out.1 PJ.out.2.1 PJ.out.2.2.1 PJ.out.2.2.2.1).mono ?_
  rintro e u5 h
  obtain ⟨rfl, hb⟩ := (show RetB _ true e u5 from by rw [show decide (j = j) = true by simp] at h; exact h)
  have D5 := Lib.hid (D4.out.trans (hb.mono D4.out.size))
  have S5 := keep2 hb S4
  clear h hb
  refine hK.out _ _ ?_ (fun hHeld => ?_)
  · (try dsimp only); (first | exact S5 | exact S4 | exact S3 | exact S2 | exact S1 | exact S0)
  clear hK K
  try simp only [Act.put, List.setIfInBounds_toArray, List.set_cons_zero, List.set_cons_succ]
  (apply tkT 13 16383 hg; (focus rfl); (focus rfl); (focus kernel_rfl); (focus (intro w0 hSw; (try dsimp only at hSw); go_simp; try (with_reducible rfl))); (focus assumption))
  try simp only [Act.put, List.setIfInBounds_toArray, List.set_cons_zero, List.set_cons_succ]
  (apply tkT 14 32767 hg; (focus rfl); (focus rfl); (focus kernel_rfl); (focus (intro w0 hSw; (try dsimp only at hSw); go_simp; try (with_reducible rfl))); (focus assumption))
  try simp only [Act.put, List.setIfInBounds_toArray, List.set_cons_zero, List.set_cons_succ]
  refine actE hg (by kernel_rfl) ?_
  go_wp2
  go_ret
  exact ⟨rfl, BB.out.trans (D5.out.mono BB.out.size)⟩
set_option maxRecDepth 100000 in
set_option maxHeartbeats 4000000 in
theorem jobSame_calls (j k : Job) (a b : JA) (w : World) (hj : j.now w a) (hk : k.now w b)  :
    Calls Tryd.prog 4 #[.agg (j.cells a).toArray, .agg (k.cells b).toArray] w (RetB w true) := by
  cases hp1 : plainB j with
  | false => exact jobSame_g1 j k a b w hj hk hp1
  | true =>
    cases hp2 : plainB k with
    | false => exact jobSame_g2 j k a b w hj hk hp1 hp2
    | true => exact jobSame_main j k a b w hj hk hp1 hp2
end Go.Proofs.YtjkjlegloicmcaaDoor
