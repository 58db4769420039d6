/- JobDraws: what any job draws, and a new job, are the document's. -/
import Derived.Test.YtjkjlegloicmcaaDoorSam
import Derived.Test.YtjkjlegloicmcaaDoorRdr
import Derived.DataShut
set_option linter.unusedVariables false
set_option linter.unusedSimpArgs false
namespace Go.Proofs.YtjkjlegloicmcaaDoor
open Go.RowKit
def Job.moved (j : Job) (n : Int) : Job := { j with at_ := j.at_ + n }
theorem draw_len (l : List Int) (at_ n : Int) : (drawL l at_ n).length = n.toNat := by simp [drawL]
theorem keep3 {W w1 : World} (hb : Below W.heap.size W w1) {b1 b2 b3 : Nat} {c1 c2 c3 : Array Value} (h : (isRow W b1 = true ∧ isRow W b2 = true ∧ isRow W b3 = true) ∧ row W b1 = c1 ∧ row W b2 = c2 ∧ row W b3 = c3) : (isRow w1 b1 = true ∧ isRow w1 b2 = true ∧ isRow w1 b3 = true) ∧ row w1 b1 = c1 ∧ row w1 b2 = c2 ∧ row w1 b3 = c3 := by
  obtain ⟨⟨i1, i2, i3⟩, r1, r2, r3⟩ := h
  exact ⟨⟨isRow_call hb i1, isRow_call hb i2, isRow_call hb i3⟩, row_call hb i1 r1, row_call hb i2 r2, row_call hb i3 r3⟩
attribute [local go_sem] isRow_drew row_drew isRow_drewN row_drewN cell_isRow rowSz_isRow isHead_ptr blockOf_ptr row_alloc isRow_alloc rowSz_alloc setRow_alloc isRow_setRow isRow_setCell isRow_frozen setCell_setRow_same setCell_setRow_other cell_setRow_same' cell_setRow_other' frozen_setRow' row_setRow_same row_setRow_other rowSz_setRow_same rowSz_setRow_other setRow_setRow_same' setRow_comm' ne_l2 ne_r2 ne_l3 ne_r3 ne_l4 ne_r4 ne_l5 ne_r5 ne_l6 ne_r6 ne_l7 ne_r7 ne_l8 ne_r8 cells_len
attribute [local go_sem ↓] ldx_27
attribute [local go_sem ↓] ldx_35
attribute [local go_sem ↓] Go.wp_at_zero Go.wp_at_succ
set_option maxRecDepth 100000 in
set_option maxHeartbeats 4000000 in
theorem jobDraws_g1 (j : Job) (a : JA) (n kind p : Int) (w : World) (hj : j.now w a) (hn1 : -128 ≤ n) (hn2 : n ≤ 127) (hp : plainB j = false) :
    Calls Tryd.prog 3 #[.agg (j.cells a).toArray, .int .i8 n, .int .i64 kind, .int .i64 p] w (RetB w true) := by
  have HJ := Lib.hid hj
  clear hj
  clear hn1 hn2
  go_enter Tryd.func3, Tryd.ntmps3
  go_wp2_with fail
  refine Calls.at_ fun W hW => ?_
  have B0 : Below w.heap.size w W := by rw [hW]; repeat' (first | with_reducible refine Below.alloc ?_ ?_ _ | with_reducible refine Below.setRow_ ?_ ?_ _ | with_reducible refine Below.setCell ?_ ?_ _ | with_reducible refine Below.drew ?_ | with_reducible refine Below.drewN_ ?_ _ | with_reducible exact Below.refl _ _ | assumption | (simp; done) | (simp; omega) | omega)
  have Yx : Box W (w.heap.size) (j.cells a).toArray := ⟨_, by rw [hW]; exact blk_new _ (by first | rfl | simp)⟩
  clear hW
  refine (plain_calls j a W (Now W) (Sub.now W) (HJ.out.step B0)).mono ?_
  rintro e w1 h
  obtain ⟨rfl, hb⟩ := (show RetP W false e w1 from by rw [hp] at h; exact h)
  have C := B0.trans (hb.mono B0.size)
  have BB := Lib.hid C
  replace HJ := Lib.hid (HJ.out.step C)
  have Hx := Lib.hid (Yx.step hb)
  obtain ⟨bx, hbx⟩ : ∃ b, b = w.heap.size := ⟨_, rfl⟩
  rw [← hbx] at Hx ⊢
  clear Yx hbx
  have ix := Hx.out.isRow; have rx := Hx.out.row; have lx := Hx.out.lt; have nx : ¬ bx = w1.heap.size := Nat.ne_of_lt lx; have mx : ¬ w1.heap.size = bx := fun h => nx h.symm
  clear h hb C B0 W
  clear hp
  go_wp2_with fail
  refine Calls.at_ fun W hW => ?_
  have B0 : Below w1.heap.size w1 W := by rw [hW]; repeat' (first | with_reducible refine Below.alloc ?_ ?_ _ | with_reducible refine Below.setRow_ ?_ ?_ _ | with_reducible refine Below.setCell ?_ ?_ _ | with_reducible refine Below.drew ?_ | with_reducible refine Below.drewN_ ?_ _ | with_reducible exact Below.refl _ _ | assumption | (simp; done) | (simp; omega) | omega)
  clear hW
  refine (shown_calls W).mono ?_
  rintro e w2 h
  obtain ⟨rfl, hb⟩ := (show RetB W true e w2 from h)
  have C := B0.trans (hb.mono B0.size)
  replace BB := Lib.hid (BB.out.trans (C.mono BB.out.size))
  replace HJ := Lib.hid (HJ.out.step C)
  clear ix rx lx nx mx
  replace Hx := Lib.hid (Hx.out.step C)
  have ix := Hx.out.isRow; have rx := Hx.out.row; have lx := Hx.out.lt; have nx : ¬ bx = w2.heap.size := Nat.ne_of_lt lx; have mx : ¬ w2.heap.size = bx := fun h => nx h.symm
  clear h hb C B0 W
  go_wp2_with fail
  go_ret
  exact ⟨rfl, BB.out⟩
set_option maxRecDepth 100000 in
set_option maxHeartbeats 4000000 in
theorem jobDraws_main (j : Job) (a : JA) (n kind p : Int) (w : World) (hj : j.now w a) (hn1 : -128 ≤ n) (hn2 : n ≤ 127) (hp : plainB j = true) :
    Calls Tryd.prog 3 #[.agg (j.cells a).toArray, .int .i8 n, .int .i64 kind, .int .i64 p] w (RetB w true) := by
  have HJ := Lib.hid hj
  clear hj
  have PJ := Lib.hid (plain_at hp)
  obtain ⟨m, hm⟩ : ∃ m : Int, m = Int.tmod n 100 := ⟨_, rfl⟩
  have hab : m.natAbs < 100 := by rw [hm, Int.natAbs_tmod]; exact Nat.mod_lt _ (by decide)
  have hm1 : -1000 ≤ m := by omega
  have hm2 : m ≤ 1000 := by omega
  have hm3 : m.toNat ≤ 1000 := by omega
  have hw := Lib.hid (And.intro hm1 (And.intro hm2 hm3))
  have hw1 : IntKind.i64.wrap n = n := by rw [IntKind.wrap_i64] <;> omega
  have hmt := hm.symm
  clear hn1 hn2 hm hm1 hm2 hm3 hab
  go_enter Tryd.func3, Tryd.ntmps3
  go_wp2_with fail
  refine Calls.at_ fun W hW => ?_
  have B0 : Below w.heap.size w W := by rw [hW]; repeat' (first | with_reducible refine Below.alloc ?_ ?_ _ | with_reducible refine Below.setRow_ ?_ ?_ _ | with_reducible refine Below.setCell ?_ ?_ _ | with_reducible refine Below.drew ?_ | with_reducible refine Below.drewN_ ?_ _ | with_reducible exact Below.refl _ _ | assumption | (simp; done) | (simp; omega) | omega)
  have Yx : Box W (w.heap.size) (j.cells a).toArray := ⟨_, by rw [hW]; exact blk_new _ (by first | rfl | simp)⟩
  clear hW
  refine (plain_calls j a W (Now W) (Sub.now W) (HJ.out.step B0)).mono ?_
  rintro e w1 h
  obtain ⟨rfl, hb⟩ := (show RetP W true e w1 from by rw [hp] at h; exact h)
  have C := B0.trans (hb.mono B0.size)
  have BB := Lib.hid C
  replace HJ := Lib.hid (HJ.out.step C)
  have Hx := Lib.hid (Yx.step hb)
  obtain ⟨bx, hbx⟩ : ∃ b, b = w.heap.size := ⟨_, rfl⟩
  rw [← hbx] at Hx ⊢
  clear Yx hbx
  have ix := Hx.out.isRow; have rx := Hx.out.row; have lx := Hx.out.lt; have nx : ¬ bx = w1.heap.size := Nat.ne_of_lt lx; have mx : ¬ w1.heap.size = bx := fun h => nx h.symm
  clear h hb C B0 W
  clear hp
  go_wp2_with fail
  refine Calls.at_ fun W hW => ?_
  have B0 : Below w1.heap.size w1 W := by rw [hW]; repeat' (first | with_reducible refine Below.alloc ?_ ?_ _ | with_reducible refine Below.setRow_ ?_ ?_ _ | with_reducible refine Below.setCell ?_ ?_ _ | with_reducible refine Below.drew ?_ | with_reducible refine Below.drewN_ ?_ _ | with_reducible exact Below.refl _ _ | assumption | (simp; done) | (simp; omega) | omega)
  clear hW
  refine (shown_calls W).mono ?_
  rintro e w2 h
  obtain ⟨rfl, hb⟩ := (show RetB W true e w2 from h)
  have C := B0.trans (hb.mono B0.size)
  replace BB := Lib.hid (BB.out.trans (C.mono BB.out.size))
  replace HJ := Lib.hid (HJ.out.step C)
  clear ix rx lx nx mx
  replace Hx := Lib.hid (Hx.out.step C)
  have ix := Hx.out.isRow; have rx := Hx.out.row; have lx := Hx.out.lt; have nx : ¬ bx = w2.heap.size := Nat.ne_of_lt lx; have mx : ¬ w2.heap.size = bx := fun h => nx h.symm
  clear h hb C B0 W
  go_wp2_with fail
  refine Calls.at_ fun W hW => ?_
  have B0 : Below w2.heap.size w2 W := by rw [hW]; repeat' (first | with_reducible refine Below.alloc ?_ ?_ _ | with_reducible refine Below.setRow_ ?_ ?_ _ | with_reducible refine Below.setCell ?_ ?_ _ | with_reducible refine Below.drew ?_ | with_reducible refine Below.drewN_ ?_ _ | with_reducible exact Below.refl _ _ | assumption | (simp; done) | (simp; omega) | omega)
  clear hW
  refine (draw_calls j a m W (Now W) (Sub.now W) (HJ.out.step B0) PJ.out.2.2.2.2.1 PJ.out.2.2.2.2.2 hw.out.1 hw.out.2.1).mono ?_
  rintro e w3 h
  obtain ⟨s1, a1, rfl, hd, hj, hb⟩ := (show RetD W (Now W) (drawL j.draws j.at_ m) (j.moved m) e w3 from h).now
  have C := B0.trans (hb.mono B0.size)
  replace BB := Lib.hid (BB.out.trans (C.mono BB.out.size))
  replace HJ := Lib.hid (HJ.out.step C)
  clear ix rx lx nx mx
  replace Hx := Lib.hid (Hx.out.step C)
  have ix := Hx.out.isRow; have rx := Hx.out.row; have lx := Hx.out.lt; have nx : ¬ bx = w3.heap.size := Nat.ne_of_lt lx; have mx : ¬ w3.heap.size = bx := fun h => nx h.symm
  have HD := Lib.hid hd
  have HA := Lib.hid hj
  clear h hb C B0 W hd hj
  go_wp2_with (first | (apply ld_row 27 19; (focus rfl); (focus go_simp); (focus (go_simp; rfl)); (focus (exact Tryd.underlying27)); (focus kernel_rfl)) | (apply st_row 27 19; (focus rfl); (focus rfl); (focus go_simp); (focus kernel_rfl); (focus rfl); (focus (first | (simp [Value.oneCell']; done) | (simp [Value.oneCell', Job.cells]; done)))) | (apply ld_row 35 19; (focus rfl); (focus go_simp); (focus (go_simp; rfl)); (focus (exact Tryd.underlying35)); (focus kernel_rfl)) | (apply st_row 35 19; (focus rfl); (focus rfl); (focus go_simp); (focus kernel_rfl); (focus rfl); (focus (first | (simp [Value.oneCell']; done) | (simp [Value.oneCell', Job.cells]; done)))) | fail)
  refine Calls.at_ fun W hW => ?_
  have B0 : Below w3.heap.size w3 W := by rw [hW]; repeat' (first | with_reducible refine Below.alloc ?_ ?_ _ | with_reducible refine Below.setRow_ ?_ ?_ _ | with_reducible refine Below.setCell ?_ ?_ _ | with_reducible refine Below.drew ?_ | with_reducible refine Below.drewN_ ?_ _ | with_reducible exact Below.refl _ _ | assumption | (simp; done) | (simp; omega) | omega)
  have Yq : Box W (w3.heap.size) ((j.moved m).cells a1).toArray := ⟨_, by rw [hW]; exact blk_new _ (by first | rfl | simp)⟩
  clear hW
  refine (work_calls j a W (Now W) (Sub.now W) (HJ.out.step B0) PJ.out.1).mono ?_
  rintro e w4 h
  obtain ⟨x2, rfl, hj, hb⟩ := (show RetJ W (Now W) j e w4 from h).now
  have C := B0.trans (hb.mono B0.size)
  replace BB := Lib.hid (BB.out.trans (C.mono BB.out.size))
  replace HJ := Lib.hid (HJ.out.step C)
  replace HD := Lib.hid (HD.out.step C)
  replace HA := Lib.hid (HA.out.step C)
  clear ix rx lx nx mx
  replace Hx := Lib.hid (Hx.out.step C)
  have Hq := Lib.hid (Yq.step hb)
  obtain ⟨bq, hbq⟩ : ∃ b, b = w3.heap.size := ⟨_, rfl⟩
  rw [← hbq] at Hq ⊢
  clear Yq hbq
  have ix := Hx.out.isRow; have rx := Hx.out.row; have lx := Hx.out.lt; have nx : ¬ bx = w4.heap.size := Nat.ne_of_lt lx; have mx : ¬ w4.heap.size = bx := fun h => nx h.symm
  have iq := Hq.out.isRow; have rq := Hq.out.row; have lq := Hq.out.lt; have nq : ¬ bq = w4.heap.size := Nat.ne_of_lt lq; have mq : ¬ w4.heap.size = bq := fun h => nq h.symm
  have HX := Lib.hid hj
  clear h hb C B0 W hj
  go_wp2_with fail
  refine Calls.at_ fun W hW => ?_
  have B0 : Below w4.heap.size w4 W := by rw [hW]; repeat' (first | with_reducible refine Below.alloc ?_ ?_ _ | with_reducible refine Below.setRow_ ?_ ?_ _ | with_reducible refine Below.setCell ?_ ?_ _ | with_reducible refine Below.drew ?_ | with_reducible refine Below.drewN_ ?_ _ | with_reducible exact Below.refl _ _ | assumption | (simp; done) | (simp; omega) | omega)
  clear hW
  refine (rdraw_calls j x2 m W (Now W) (Sub.now W) (HX.out.step B0) PJ.out.2.2.2.2.1 PJ.out.2.2.2.2.2 hw.out.1 hw.out.2.1).mono ?_
  rintro e w5 h
  obtain ⟨s3, a3, rfl, hd, hj, hb⟩ := (show RetD W (Now W) (drawL j.draws j.at_ m) (j.moved m) e w5 from h).now
  have C := B0.trans (hb.mono B0.size)
  replace BB := Lib.hid (BB.out.trans (C.mono BB.out.size))
  replace HJ := Lib.hid (HJ.out.step C)
  replace HD := Lib.hid (HD.out.step C)
  replace HA := Lib.hid (HA.out.step C)
  replace HX := Lib.hid (HX.out.step C)
  clear ix rx lx nx mx
  replace Hx := Lib.hid (Hx.out.step C)
  clear iq rq lq nq mq
  replace Hq := Lib.hid (Hq.out.step C)
  have ix := Hx.out.isRow; have rx := Hx.out.row; have lx := Hx.out.lt; have nx : ¬ bx = w5.heap.size := Nat.ne_of_lt lx; have mx : ¬ w5.heap.size = bx := fun h => nx h.symm
  have iq := Hq.out.isRow; have rq := Hq.out.row; have lq := Hq.out.lt; have nq : ¬ bq = w5.heap.size := Nat.ne_of_lt lq; have mq : ¬ w5.heap.size = bq := fun h => nq h.symm
  have HE := Lib.hid hd
  have HB := Lib.hid hj
  clear h hb C B0 W hd hj
  clear HX
  go_wp2_with (first | (apply ld_row 27 19; (focus rfl); (focus go_simp); (focus (go_simp; rfl)); (focus (exact Tryd.underlying27)); (focus kernel_rfl)) | (apply st_row 27 19; (focus rfl); (focus rfl); (focus go_simp); (focus kernel_rfl); (focus rfl); (focus (first | (simp [Value.oneCell']; done) | (simp [Value.oneCell', Job.cells]; done)))) | (apply ld_row 35 19; (focus rfl); (focus go_simp); (focus (go_simp; rfl)); (focus (exact Tryd.underlying35)); (focus kernel_rfl)) | (apply st_row 35 19; (focus rfl); (focus rfl); (focus go_simp); (focus kernel_rfl); (focus rfl); (focus (first | (simp [Value.oneCell']; done) | (simp [Value.oneCell', Job.cells]; done)))) | fail)
  refine Code.at_ fun v6 hW => ?_
  have B0 : Below w5.heap.size w5 v6 := by rw [hW]; repeat' (first | with_reducible refine Below.alloc ?_ ?_ _ | with_reducible refine Below.setRow_ ?_ ?_ _ | with_reducible refine Below.setCell ?_ ?_ _ | with_reducible refine Below.drew ?_ | with_reducible refine Below.drewN_ ?_ _ | with_reducible exact Below.refl _ _ | assumption | (simp; done) | (simp; omega) | omega)
  have Hz := Lib.hid (show Box v6 (w5.heap.size) ((j.moved m).cells a3).toArray from ⟨_, by rw [hW]; (try rw [setRow_alloc, if_pos rfl]); exact blk_new _ (by first | rfl | simp)⟩)
  clear hW
  have C := B0
  replace BB := Lib.hid (BB.out.trans (C.mono BB.out.size))
  replace HJ := Lib.hid (HJ.out.step C)
  replace HD := Lib.hid (HD.out.step C)
  replace HA := Lib.hid (HA.out.step C)
  replace HE := Lib.hid (HE.out.step C)
  replace HB := Lib.hid (HB.out.step C)
  clear ix rx lx nx mx
  replace Hx := Lib.hid (Hx.out.step C)
  clear iq rq lq nq mq
  replace Hq := Lib.hid (Hq.out.step C)
  obtain ⟨bz, hbz⟩ : ∃ b, b = w5.heap.size := ⟨_, rfl⟩
  rw [← hbz] at Hz ⊢
  clear hbz
  clear C B0
  have hc := cells_eq
  have S0 : (isRow v6 bx = true ∧ isRow v6 bq = true ∧ isRow v6 bz = true) ∧ row v6 bx = (j.cells a).toArray ∧ row v6 bq = ((j.moved m).cells a1).toArray ∧ row v6 bz = ((j.moved m).cells a3).toArray := ⟨⟨Hx.out.isRow, Hq.out.isRow, Hz.out.isRow⟩, Hx.out.row, Hq.out.row, Hz.out.row⟩
  refine reg0 24 (fun w' => (isRow w' bx = true ∧ isRow w' bq = true ∧ isRow w' bz = true) ∧ row w' bx = (j.cells a).toArray ∧ row w' bq = ((j.moved m).cells a1).toArray ∧ row w' bz = ((j.moved m).cells a3).toArray) (by kernel_rfl) (by kernel_rfl) (by kernel_rfl) ?_ (fun l hg hHeld => ?_)
  · (try dsimp only); (first | exact S7 | exact S6 | exact S5 | exact S4 | exact S3 | exact S2 | exact S1 | exact S0)
  (apply tkT 0 1 hg; (focus rfl); (focus rfl); (focus kernel_rfl); (focus (intro w0 hSw; (try dsimp only at hSw); go_simp; try (with_reducible rfl))); (focus assumption))
  try simp only [Act.put, List.setIfInBounds_toArray, List.set_cons_zero, List.set_cons_succ]
  (apply tkT 1 3 hg; (focus rfl); (focus rfl); (focus kernel_rfl); (focus (intro w0 hSw; (try dsimp only at hSw); go_simp; try (with_reducible rfl))); (focus assumption))
  try simp only [Act.put, List.setIfInBounds_toArray, List.set_cons_zero, List.set_cons_succ]
  (apply act1 2 7 hg; (focus rfl); (focus rfl); (focus kernel_rfl))
  intro K hK
  go_simp
  refine ((lints_calls s1 s3 (drawL j.draws j.at_ m) (drawL j.draws j.at_ m) v6.drew (Now v6) (HD.out.move fun _ _ => rfl) (HE.out.move fun _ _ => rfl) (by rw [draw_len]; have := hw.out.2.2; omega)).mono fun _ _ h => h.ret).mono ?_
  rintro e u1 h
  obtain ⟨rfl, hb⟩ := (show RetB _ true e u1 from by rw [show decide ((drawL j.draws j.at_ m) = (drawL j.draws j.at_ m)) = true by simp] at h; exact h)
  replace hb : Below v6.heap.size v6 u1 := Below.undrew hb
  have D1 := Lib.hid hb
  have S1 := keep3 hb S0
  clear h hb
  refine hK.out _ _ ?_ (fun hHeld => ?_)
  · (try dsimp only); (first | exact S7 | exact S6 | exact S5 | exact S4 | exact S3 | exact S2 | exact S1 | exact S0)
  clear hK K
  try simp only [Act.put, List.setIfInBounds_toArray, List.set_cons_zero, List.set_cons_succ]
  (apply tkT 3 15 hg; (focus rfl); (focus rfl); (focus kernel_rfl); (focus (intro w0 hSw; (try dsimp only at hSw); go_simp; try (with_reducible rfl))); (focus assumption))
  try simp only [Act.put, List.setIfInBounds_toArray, List.set_cons_zero, List.set_cons_succ]
  (first | (apply tkT 4 31 hg; (focus rfl); (focus rfl); (focus kernel_rfl); (focus (intro w0 hSw; (try dsimp only at hSw); go_simp; try (with_reducible rfl))); (focus assumption)) | (apply tkF 4 31 hg; (focus rfl); (focus rfl); (focus kernel_rfl); (focus assumption)))
  try simp only [Act.put, List.setIfInBounds_toArray, List.set_cons_zero, List.set_cons_succ]
  (first | (apply tkT 6 95 hg; (focus rfl); (focus rfl); (focus kernel_rfl); (focus (intro w0 hSw; (try dsimp only at hSw); go_simp; try (with_reducible rfl))); (focus assumption)) | (apply tkF 6 95 hg; (focus rfl); (focus rfl); (focus kernel_rfl); (focus assumption)))
  try simp only [Act.put, List.setIfInBounds_toArray, List.set_cons_zero, List.set_cons_succ]
  (apply act1 5 127 hg; (focus rfl); (focus rfl); (focus kernel_rfl))
  intro K hK
  go_simp
  refine (work_calls (j.moved m) a1 _ (Now _) (Sub.now _) (HA.out.step D1.out) PJ.out.1).mono ?_
  rintro e u2 h
  obtain ⟨y2, rfl, hy2, hb⟩ := h.now
  have D2 := Lib.hid (D1.out.trans (hb.mono D1.out.size))
  have S2 := keep3 hb S1
  have HY := Lib.hid hy2
  clear h hb hy2
  refine hK.out _ _ ?_ (fun hHeld => ?_)
  · (try dsimp only); (first | exact S7 | exact S6 | exact S5 | exact S4 | exact S3 | exact S2 | exact S1 | exact S0)
  clear hK K
  try simp only [Act.put, List.setIfInBounds_toArray, List.set_cons_zero, List.set_cons_succ]
  (apply act1 7 255 hg; (focus rfl); (focus rfl); (focus kernel_rfl))
  intro K hK
  go_simp
  refine (refSame_calls (j.moved m) (j.moved m) y2 a3 _ HY.out (HB.out.step D2.out) PJ.out.1 PJ.out.2.1 PJ.out.2.2.1 PJ.out.2.2.2.1).mono ?_
  rintro e u3 h
  obtain ⟨rfl, hb⟩ := (show RetB _ true e u3 from by rw [show decide (j.moved m = j.moved m) = true by simp] at h; exact h)
  have D3 := Lib.hid (D2.out.trans (hb.mono D2.out.size))
  have S3 := keep3 hb S2
  clear h hb HY
  refine hK.out _ _ ?_ (fun hHeld => ?_)
  · (try dsimp only); (first | exact S7 | exact S6 | exact S5 | exact S4 | exact S3 | exact S2 | exact S1 | exact S0)
  clear hK K
  try simp only [Act.put, List.setIfInBounds_toArray, List.set_cons_zero, List.set_cons_succ]
  (apply tkT 8 511 hg; (focus rfl); (focus rfl); (focus kernel_rfl); (focus (intro w0 hSw; (try dsimp only at hSw); go_simp; try (with_reducible rfl))); (focus assumption))
  try simp only [Act.put, List.setIfInBounds_toArray, List.set_cons_zero, List.set_cons_succ]
  (apply tkT 9 1023 hg; (focus rfl); (focus rfl); (focus kernel_rfl); (focus (intro w0 hSw; (try dsimp only at hSw); go_simp; try (with_reducible rfl))); (focus assumption))
  try simp only [Act.put, List.setIfInBounds_toArray, List.set_cons_zero, List.set_cons_succ]
  (first | (apply tkT 10 2047 hg; (focus rfl); (focus rfl); (focus kernel_rfl); (focus (intro w0 hSw; (try dsimp only at hSw); go_simp; try (with_reducible rfl))); (focus assumption)) | (apply tkF 10 2047 hg; (focus rfl); (focus rfl); (focus kernel_rfl); (focus assumption)))
  try simp only [Act.put, List.setIfInBounds_toArray, List.set_cons_zero, List.set_cons_succ]
  (first | (apply tkT 11 4095 hg; (focus rfl); (focus rfl); (focus kernel_rfl); (focus (intro w0 hSw; (try dsimp only at hSw); go_simp; try (with_reducible rfl))); (focus assumption)) | (apply tkF 11 4095 hg; (focus rfl); (focus rfl); (focus kernel_rfl); (focus assumption)))
  try simp only [Act.put, List.setIfInBounds_toArray, List.set_cons_zero, List.set_cons_succ]
  (first | (apply tkT 12 8191 hg; (focus rfl); (focus rfl); (focus kernel_rfl); (focus (intro w0 hSw; (try dsimp only at hSw); go_simp; try (with_reducible rfl))); (focus assumption)) | (apply tkF 12 8191 hg; (focus rfl); (focus rfl); (focus kernel_rfl); (focus assumption)))
  try simp only [Act.put, List.setIfInBounds_toArray, List.set_cons_zero, List.set_cons_succ]
  (first | (apply tkT 13 16383 hg; (focus rfl); (focus rfl); (focus kernel_rfl); (focus (intro w0 hSw; (try dsimp only at hSw); go_simp; try (with_reducible rfl))); (focus assumption)) | (apply tkF 13 16383 hg; (focus rfl); (focus rfl); (focus kernel_rfl); (focus assumption)))
  try simp only [Act.put, List.setIfInBounds_toArray, List.set_cons_zero, List.set_cons_succ]
  (first | (apply tkT 16 81919 hg; (focus rfl); (focus rfl); (focus kernel_rfl); (focus (intro w0 hSw; (try dsimp only at hSw); go_simp; try (with_reducible rfl))); (focus assumption)) | (apply tkF 16 81919 hg; (focus rfl); (focus rfl); (focus kernel_rfl); (focus assumption)))
  try simp only [Act.put, List.setIfInBounds_toArray, List.set_cons_zero, List.set_cons_succ]
  (first | (apply tkT 17 212991 hg; (focus rfl); (focus rfl); (focus kernel_rfl); (focus (intro w0 hSw; (try dsimp only at hSw); go_simp; try (with_reducible rfl))); (focus assumption)) | (apply tkF 17 212991 hg; (focus rfl); (focus rfl); (focus kernel_rfl); (focus assumption)))
  try simp only [Act.put, List.setIfInBounds_toArray, List.set_cons_zero, List.set_cons_succ]
  (first | (apply tkT 18 475135 hg; (focus rfl); (focus rfl); (focus kernel_rfl); (focus (intro w0 hSw; (try dsimp only at hSw); go_simp; try (with_reducible rfl))); (focus assumption)) | (apply tkF 18 475135 hg; (focus rfl); (focus rfl); (focus kernel_rfl); (focus assumption)))
  try simp only [Act.put, List.setIfInBounds_toArray, List.set_cons_zero, List.set_cons_succ]
  (first | (apply tkT 19 999423 hg; (focus rfl); (focus rfl); (focus kernel_rfl); (focus (intro w0 hSw; (try dsimp only at hSw); go_simp; try (with_reducible rfl))); (focus assumption)) | (apply tkF 19 999423 hg; (focus rfl); (focus rfl); (focus kernel_rfl); (focus assumption)))
  try simp only [Act.put, List.setIfInBounds_toArray, List.set_cons_zero, List.set_cons_succ]
  (apply act1 14 1015807 hg; (focus rfl); (focus rfl); (focus kernel_rfl))
  intro K hK
  go_simp
  refine (new_calls kind p a.d j.draws _ (Now _) (Sub.now _) (HJ.out.step D3.out).2.2).mono ?_
  rintro e u4 h
  obtain ⟨y4, rfl, hy4, hb⟩ := (show RetJ _ (Now _) (newJob kind p j.draws) e u4 from h).now
  have D4 := Lib.hid (D3.out.trans (hb.mono D3.out.size))
  have S4 := keep3 hb S3
  have HY := Lib.hid hy4
  clear h hb hy4
  refine hK.out _ _ ?_ (fun hHeld => ?_)
  · (try dsimp only); (first | exact S7 | exact S6 | exact S5 | exact S4 | exact S3 | exact S2 | exact S1 | exact S0)
  clear hK K
  try simp only [Act.put, List.setIfInBounds_toArray, List.set_cons_zero, List.set_cons_succ]
  (apply act1 15 1048575 hg; (focus rfl); (focus rfl); (focus kernel_rfl))
  intro K hK
  go_simp
  refine (work_calls (newJob kind p j.draws) y4 _ (Now _) (Sub.now _) HY.out (Nat.zero_le _)).mono ?_
  rintro e u5 h
  obtain ⟨y5, rfl, hy5, hb⟩ := h.now
  have D5 := Lib.hid (D4.out.trans (hb.mono D4.out.size))
  have S5 := keep3 hb S4
  have HY5 := Lib.hid hy5
  clear h hb hy5 HY
  refine hK.out _ _ ?_ (fun hHeld => ?_)
  · (try dsimp only); (first | exact S7 | exact S6 | exact S5 | exact S4 | exact S3 | exact S2 | exact S1 | exact S0)
  clear hK K
  try simp only [Act.put, List.setIfInBounds_toArray, List.set_cons_zero, List.set_cons_succ]
  (apply act1 20 2097151 hg; (focus rfl); (focus rfl); (focus kernel_rfl))
  intro K hK
  go_simp
  refine (rnew_calls kind p a.d j.draws _ (Now _) (Sub.now _) (HJ.out.step D5.out).2.2).mono ?_
  rintro e u6 h
  obtain ⟨y6, rfl, hy6, hb⟩ := h.now
  have D6 := Lib.hid (D5.out.trans (hb.mono D5.out.size))
  have S6 := keep3 hb S5
  replace HY5 := Lib.hid (HY5.out.step hb)
  have HY6 := Lib.hid hy6
  clear h hb hy6
  refine hK.out _ _ ?_ (fun hHeld => ?_)
  · (try dsimp only); (first | exact S7 | exact S6 | exact S5 | exact S4 | exact S3 | exact S2 | exact S1 | exact S0)
  clear hK K
  try simp only [Act.put, List.setIfInBounds_toArray, List.set_cons_zero, List.set_cons_succ]
  (apply act1 21 4194303 hg; (focus rfl); (focus rfl); (focus kernel_rfl))
  intro K hK
  go_simp
  refine (refSame_calls (newJob kind p j.draws) (newJob kind p j.draws) y5 y6 _ HY5.out HY6.out (Nat.zero_le _) (fun f hf => by cases hf) (Nat.zero_le _) PJ.out.2.2.2.1).mono ?_
  rintro e u7 h
  obtain ⟨rfl, hb⟩ := (show RetB _ true e u7 from by rw [show decide ((newJob kind p j.draws) = (newJob kind p j.draws)) = true by simp] at h; exact h)
  have D7 := Lib.hid (D6.out.trans (hb.mono D6.out.size))
  have S7 := keep3 hb S6
  clear h hb HY5 HY6
  refine hK.out _ _ ?_ (fun hHeld => ?_)
  · (try dsimp only); (first | exact S7 | exact S6 | exact S5 | exact S4 | exact S3 | exact S2 | exact S1 | exact S0)
  clear hK K
  try simp only [Act.put, List.setIfInBounds_toArray, List.set_cons_zero, List.set_cons_succ]
  (apply tkT 22 8388607 hg; (focus rfl); (focus rfl); (focus kernel_rfl); (focus (intro w0 hSw; (try dsimp only at hSw); go_simp; try (with_reducible rfl))); (focus assumption))
  try simp only [Act.put, List.setIfInBounds_toArray, List.set_cons_zero, List.set_cons_succ]
  (apply tkT 23 16777215 hg; (focus rfl); (focus rfl); (focus kernel_rfl); (focus (intro w0 hSw; (try dsimp only at hSw); go_simp; try (with_reducible rfl))); (focus assumption))
  try simp only [Act.put, List.setIfInBounds_toArray, List.set_cons_zero, List.set_cons_succ]
  refine actE hg (by kernel_rfl) ?_
  go_wp2
  go_ret
  exact ⟨rfl, BB.out.trans (D7.out.mono BB.out.size)⟩
set_option maxRecDepth 100000 in
set_option maxHeartbeats 4000000 in
theorem jobDraws_calls' (j : Job) (a : JA) (n kind p : Int) (w : World) (hj : j.now w a) (hn1 : -128 ≤ n) (hn2 : n ≤ 127)  :
    Calls Tryd.prog 3 #[.agg (j.cells a).toArray, .int .i8 n, .int .i64 kind, .int .i64 p] w (RetB w true) := by
  cases hp : plainB j with
  | false => exact jobDraws_g1 j a n kind p w hj hn1 hn2 hp
  | true => exact jobDraws_main j a n kind p w hj hn1 hn2 hp
theorem jobDraws_calls (j : Job) (a : JA) (n kind p : Int) (w : World) (hj : j.now w a) (hn : (Lit.int .i8 n).wf = true) :
    Calls Tryd.prog 3 #[.agg (j.cells a).toArray, .int .i8 n, .int .i64 kind, .int .i64 p] w (RetB w true) := by
  rw [Lit.wf_int_iff] at hn
  simp only [IntKind.min, IntKind.max, IntKind.signed, IntKind.bits] at hn
  exact jobDraws_calls' j a n kind p w hj (by have := hn.1; simpa using this) (by have := hn.2; simpa using this)
end Go.Proofs.YtjkjlegloicmcaaDoor
