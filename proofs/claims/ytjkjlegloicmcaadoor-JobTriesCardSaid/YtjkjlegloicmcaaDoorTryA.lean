/- JobTries: a job tries again as often as it may, and then fails with too many tries. -/
import Derived.Test.YtjkjlegloicmcaaDoorJobI
import Derived.Test.YtjkjlegloicmcaaDoorJobP
set_option linter.unusedVariables false
set_option linter.unusedSimpArgs false
namespace Go.Proofs.YtjkjlegloicmcaaDoor
open Go.RowKit
/-- The job behind c tries more. -/
def Job.tried (j : Job) (c : Nat) : Job := { j with tries := j.tries + c }
theorem tried_succ (j : Job) (c : Nat) : { j.tried c with tries := (j.tried c).tries + 1 } = j.tried (c + 1) := by
  unfold Job.tried
  simp only [Job.mk.injEq, true_and, and_true]
  omega
theorem tried_zero (j : Job) : j.tried 0 = j := by unfold Job.tried; simp
theorem fail_text (path : ByteArray) : (failText path ⟨#[51, 50]⟩).toList = path.toList ++ [58, 32, 101, 114, 114, 111, 114, 32, 51, 50] := by
  unfold failText
  simp [ByteArray.toList_eq, ByteArray.data_append]
attribute [local go_sem] isRow_drew row_drew isRow_drewN row_drewN cell_isRow rowSz_isRow isHead_ptr blockOf_ptr row_alloc isRow_alloc rowSz_alloc setRow_alloc isRow_setRow isRow_setCell isRow_frozen setCell_setRow_same setCell_setRow_other cell_setRow_same' cell_setRow_other' frozen_setRow' row_setRow_same row_setRow_other rowSz_setRow_same rowSz_setRow_other setRow_setRow_same' setRow_comm' ne_l2 ne_r2 ne_l3 ne_r3 ne_l4 ne_r4 ne_l5 ne_r5 ne_l6 ne_r6 ne_l7 ne_r7 ne_l8 ne_r8 cells_len
attribute [local go_sem ↓] ldx_27
attribute [local go_sem ↓] Go.wp_at_zero Go.wp_at_succ
set_option maxRecDepth 100000 in
set_option maxHeartbeats 4000000 in
theorem jobTries_g0 (j : Job) (a : JA) (path : ByteArray) (w : World) (hj : j.now w a) (hp : plainB j = false) :
    Calls Tryd.prog 6 #[.agg (j.cells a).toArray, .string path] w (RetB w true) := by
  have HJ := Lib.hid hj
  clear hj
  have hc := cells_eq
  go_enter Tryd.func6, Tryd.ntmps6
  go_wp2_with (first | (apply ld_row 27 19; (focus rfl); (focus go_simp); (focus (go_simp; rfl)); (focus (exact Tryd.underlying27)); (focus kernel_rfl)) | (apply st_row 27 19; (focus rfl); (focus rfl); (focus go_simp); (focus kernel_rfl); (focus rfl); (focus (first | (simp [Value.oneCell']; done) | (simp [Value.oneCell', Job.cells]; done)))) | (apply ld_row 46 3; (focus rfl); (focus go_simp); (focus (go_simp; rfl)); (focus (exact Tryd.underlying46)); (focus kernel_rfl)) | (apply st_row 46 3; (focus rfl); (focus rfl); (focus go_simp); (focus kernel_rfl); (focus rfl); (focus (first | (simp [Value.oneCell']; done) | (simp [Value.oneCell', Job.cells]; done)))) | fail)
  refine Calls.at_ fun W hW => ?_
  have B0 : Below w.heap.size w W := by rw [hW]; repeat' (first | with_reducible refine Below.alloc ?_ ?_ _ | with_reducible refine Below.setRow_ ?_ ?_ _ | with_reducible refine Below.setCell ?_ ?_ _ | with_reducible refine Below.drew ?_ | with_reducible refine Below.drewN_ ?_ _ | with_reducible exact Below.refl _ _ | assumption | (simp; done) | (simp; omega) | omega)
  have Yj : Box W (w.heap.size) (j.cells a).toArray := ⟨_, by rw [hW]; exact blk_new _ (by first | rfl | simp)⟩
  clear hW
  refine (plain_calls j a W (Now W) (Sub.now W) (HJ.out.step B0)).mono ?_
  rintro e w1 h
  obtain ⟨rfl, hb⟩ := (show RetP W false e w1 from by rw [hp] at h; exact h)
  have C := B0.trans (hb.mono B0.size)
  have BB := Lib.hid C
  replace HJ := Lib.hid (HJ.out.step C)
  have Hj := Lib.hid (Yj.step hb)
  obtain ⟨bj, hbj⟩ : ∃ b, b = w.heap.size := ⟨_, rfl⟩
  rw [← hbj] at Hj ⊢
  clear Yj hbj
  have ij := Hj.out.isRow; have rj := Hj.out.row; have lj := Hj.out.lt; have nj : ¬ bj = w1.heap.size := Nat.ne_of_lt lj; have mj : ¬ w1.heap.size = bj := fun h => nj h.symm
  clear h hb C B0 W
  clear hp
  go_wp2_with (first | (apply ld_row 27 19; (focus rfl); (focus go_simp); (focus (go_simp; rfl)); (focus (exact Tryd.underlying27)); (focus kernel_rfl)) | (apply st_row 27 19; (focus rfl); (focus rfl); (focus go_simp); (focus kernel_rfl); (focus rfl); (focus (first | (simp [Value.oneCell']; done) | (simp [Value.oneCell', Job.cells]; done)))) | (apply ld_row 46 3; (focus rfl); (focus go_simp); (focus (go_simp; rfl)); (focus (exact Tryd.underlying46)); (focus kernel_rfl)) | (apply st_row 46 3; (focus rfl); (focus rfl); (focus go_simp); (focus kernel_rfl); (focus rfl); (focus (first | (simp [Value.oneCell']; done) | (simp [Value.oneCell', Job.cells]; done)))) | fail)
  refine Calls.at_ fun W hW => ?_
  have B0 : Below w1.heap.size w1 W := by rw [hW]; repeat' (first | with_reducible refine Below.alloc ?_ ?_ _ | with_reducible refine Below.setRow_ ?_ ?_ _ | with_reducible refine Below.setCell ?_ ?_ _ | with_reducible refine Below.drew ?_ | with_reducible refine Below.drewN_ ?_ _ | with_reducible exact Below.refl _ _ | assumption | (simp; done) | (simp; omega) | omega)
  clear hW
  refine (shown_calls W).mono ?_
  rintro e w2 h
  obtain ⟨rfl, hb⟩ := (show RetB W true e w2 from h)
  have C := B0.trans (hb.mono B0.size)
  replace BB := Lib.hid (BB.out.trans (C.mono BB.out.size))
  replace HJ := Lib.hid (HJ.out.step C)
  clear ij rj lj nj mj
  replace Hj := Lib.hid (Hj.out.step C)
  have ij := Hj.out.isRow; have rj := Hj.out.row; have lj := Hj.out.lt; have nj : ¬ bj = w2.heap.size := Nat.ne_of_lt lj; have mj : ¬ w2.heap.size = bj := fun h => nj h.symm
  clear h hb C B0 W
  go_wp2_with (first | (apply ld_row 27 19; (focus rfl); (focus go_simp); (focus (go_simp; rfl)); (focus (exact Tryd.underlying27)); (focus kernel_rfl)) | (apply st_row 27 19; (focus rfl); (focus rfl); (focus go_simp); (focus kernel_rfl); (focus rfl); (focus (first | (simp [Value.oneCell']; done) | (simp [Value.oneCell', Job.cells]; done)))) | (apply ld_row 46 3; (focus rfl); (focus go_simp); (focus (go_simp; rfl)); (focus (exact Tryd.underlying46)); (focus kernel_rfl)) | (apply st_row 46 3; (focus rfl); (focus rfl); (focus go_simp); (focus kernel_rfl); (focus rfl); (focus (first | (simp [Value.oneCell']; done) | (simp [Value.oneCell', Job.cells]; done)))) | fail)
  go_ret
  exact ⟨rfl, BB.out⟩
set_option maxRecDepth 100000 in
set_option maxHeartbeats 4000000 in
theorem jobTries_g1 (j : Job) (a : JA) (path : ByteArray) (w : World) (hj : j.now w a) (hp : plainB j = true) (h1 : ¬ (path.size : Int) ≤ 200) :
    Calls Tryd.prog 6 #[.agg (j.cells a).toArray, .string path] w (RetB w true) := by
  have HJ := Lib.hid hj
  clear hj
  have hc := cells_eq
  go_enter Tryd.func6, Tryd.ntmps6
  go_wp2_with (first | (apply ld_row 27 19; (focus rfl); (focus go_simp); (focus (go_simp; rfl)); (focus (exact Tryd.underlying27)); (focus kernel_rfl)) | (apply st_row 27 19; (focus rfl); (focus rfl); (focus go_simp); (focus kernel_rfl); (focus rfl); (focus (first | (simp [Value.oneCell']; done) | (simp [Value.oneCell', Job.cells]; done)))) | (apply ld_row 46 3; (focus rfl); (focus go_simp); (focus (go_simp; rfl)); (focus (exact Tryd.underlying46)); (focus kernel_rfl)) | (apply st_row 46 3; (focus rfl); (focus rfl); (focus go_simp); (focus kernel_rfl); (focus rfl); (focus (first | (simp [Value.oneCell']; done) | (simp [Value.oneCell', Job.cells]; done)))) | fail)
  refine Calls.at_ fun W hW => ?_
  have B0 : Below w.heap.size w W := by rw [hW]; repeat' (first | with_reducible refine Below.alloc ?_ ?_ _ | with_reducible refine Below.setRow_ ?_ ?_ _ | with_reducible refine Below.setCell ?_ ?_ _ | with_reducible refine Below.drew ?_ | with_reducible refine Below.drewN_ ?_ _ | with_reducible exact Below.refl _ _ | assumption | (simp; done) | (simp; omega) | omega)
  have Yj : Box W (w.heap.size) (j.cells a).toArray := ⟨_, by rw [hW]; exact blk_new _ (by first | rfl | simp)⟩
  clear hW
  refine (plain_calls j a W (Now W) (Sub.now W) (HJ.out.step B0)).mono ?_
  rintro e w1 h
  obtain ⟨rfl, hb⟩ := (show RetP W true e w1 from by rw [hp] at h; exact h)
  have C := B0.trans (hb.mono B0.size)
  have BB := Lib.hid C
  replace HJ := Lib.hid (HJ.out.step C)
  have Hj := Lib.hid (Yj.step hb)
  obtain ⟨bj, hbj⟩ : ∃ b, b = w.heap.size := ⟨_, rfl⟩
  rw [← hbj] at Hj ⊢
  clear Yj hbj
  have ij := Hj.out.isRow; have rj := Hj.out.row; have lj := Hj.out.lt; have nj : ¬ bj = w1.heap.size := Nat.ne_of_lt lj; have mj : ¬ w1.heap.size = bj := fun h => nj h.symm
  clear h hb C B0 W
  clear hp
  go_wp2_with (first | (apply ld_row 27 19; (focus rfl); (focus go_simp); (focus (go_simp; rfl)); (focus (exact Tryd.underlying27)); (focus kernel_rfl)) | (apply st_row 27 19; (focus rfl); (focus rfl); (focus go_simp); (focus kernel_rfl); (focus rfl); (focus (first | (simp [Value.oneCell']; done) | (simp [Value.oneCell', Job.cells]; done)))) | (apply ld_row 46 3; (focus rfl); (focus go_simp); (focus (go_simp; rfl)); (focus (exact Tryd.underlying46)); (focus kernel_rfl)) | (apply st_row 46 3; (focus rfl); (focus rfl); (focus go_simp); (focus kernel_rfl); (focus rfl); (focus (first | (simp [Value.oneCell']; done) | (simp [Value.oneCell', Job.cells]; done)))) | fail)
  refine Calls.at_ fun W hW => ?_
  have B0 : Below w1.heap.size w1 W := by rw [hW]; repeat' (first | with_reducible refine Below.alloc ?_ ?_ _ | with_reducible refine Below.setRow_ ?_ ?_ _ | with_reducible refine Below.setCell ?_ ?_ _ | with_reducible refine Below.drew ?_ | with_reducible refine Below.drewN_ ?_ _ | with_reducible exact Below.refl _ _ | assumption | (simp; done) | (simp; omega) | omega)
  clear hW
  refine (shown_calls W).mono ?_
  rintro e w2 h
  obtain ⟨rfl, hb⟩ := (show RetB W true e w2 from h)
  have C := B0.trans (hb.mono B0.size)
  replace BB := Lib.hid (BB.out.trans (C.mono BB.out.size))
  replace HJ := Lib.hid (HJ.out.step C)
  clear ij rj lj nj mj
  replace Hj := Lib.hid (Hj.out.step C)
  have ij := Hj.out.isRow; have rj := Hj.out.row; have lj := Hj.out.lt; have nj : ¬ bj = w2.heap.size := Nat.ne_of_lt lj; have mj : ¬ w2.heap.size = bj := fun h => nj h.symm
  clear h hb C B0 W
  go_wp2_with (first | (apply ld_row 27 19; (focus rfl); (focus go_simp); (focus (go_simp; rfl)); (focus (exact Tryd.underlying27)); (focus kernel_rfl)) | (apply st_row 27 19; (focus rfl); (focus rfl); (focus go_simp); (focus kernel_rfl); (focus rfl); (focus (first | (simp [Value.oneCell']; done) | (simp [Value.oneCell', Job.cells]; done)))) | (apply ld_row 46 3; (focus rfl); (focus go_simp); (focus (go_simp; rfl)); (focus (exact Tryd.underlying46)); (focus kernel_rfl)) | (apply st_row 46 3; (focus rfl); (focus rfl); (focus go_simp); (focus kernel_rfl); (focus rfl); (focus (first | (simp [Value.oneCell']; done) | (simp [Value.oneCell', Job.cells]; done)))) | fail)
  go_ret
  exact ⟨rfl, BB.out⟩
set_option maxRecDepth 100000 in
set_option maxHeartbeats 4000000 in
theorem jobTries_g2 (j : Job) (a : JA) (path : ByteArray) (w : World) (hj : j.now w a) (hp : plainB j = true) (h1 : (path.size : Int) ≤ 200) (h2 : decide (j.tries < 0) = true) :
    Calls Tryd.prog 6 #[.agg (j.cells a).toArray, .string path] w (RetB w true) := by
  have HJ := Lib.hid hj
  clear hj
  have hc := cells_eq
  go_enter Tryd.func6, Tryd.ntmps6
  go_wp2_with (first | (apply ld_row 27 19; (focus rfl); (focus go_simp); (focus (go_simp; rfl)); (focus (exact Tryd.underlying27)); (focus kernel_rfl)) | (apply st_row 27 19; (focus rfl); (focus rfl); (focus go_simp); (focus kernel_rfl); (focus rfl); (focus (first | (simp [Value.oneCell']; done) | (simp [Value.oneCell', Job.cells]; done)))) | (apply ld_row 46 3; (focus rfl); (focus go_simp); (focus (go_simp; rfl)); (focus (exact Tryd.underlying46)); (focus kernel_rfl)) | (apply st_row 46 3; (focus rfl); (focus rfl); (focus go_simp); (focus kernel_rfl); (focus rfl); (focus (first | (simp [Value.oneCell']; done) | (simp [Value.oneCell', Job.cells]; done)))) | fail)
  refine Calls.at_ fun W hW => ?_
  have B0 : Below w.heap.size w W := by rw [hW]; repeat' (first | with_reducible refine Below.alloc ?_ ?_ _ | with_reducible refine Below.setRow_ ?_ ?_ _ | with_reducible refine Below.setCell ?_ ?_ _ | with_reducible refine Below.drew ?_ | with_reducible refine Below.drewN_ ?_ _ | with_reducible exact Below.refl _ _ | assumption | (simp; done) | (simp; omega) | omega)
  have Yj : Box W (w.heap.size) (j.cells a).toArray := ⟨_, by rw [hW]; exact blk_new _ (by first | rfl | simp)⟩
  clear hW
  refine (plain_calls j a W (Now W) (Sub.now W) (HJ.out.step B0)).mono ?_
  rintro e w1 h
  obtain ⟨rfl, hb⟩ := (show RetP W true e w1 from by rw [hp] at h; exact h)
  have C := B0.trans (hb.mono B0.size)
  have BB := Lib.hid C
  replace HJ := Lib.hid (HJ.out.step C)
  have Hj := Lib.hid (Yj.step hb)
  obtain ⟨bj, hbj⟩ : ∃ b, b = w.heap.size := ⟨_, rfl⟩
  rw [← hbj] at Hj ⊢
  clear Yj hbj
  have ij := Hj.out.isRow; have rj := Hj.out.row; have lj := Hj.out.lt; have nj : ¬ bj = w1.heap.size := Nat.ne_of_lt lj; have mj : ¬ w1.heap.size = bj := fun h => nj h.symm
  clear h hb C B0 W
  clear hp
  go_wp2_with (first | (apply ld_row 27 19; (focus rfl); (focus go_simp); (focus (go_simp; rfl)); (focus (exact Tryd.underlying27)); (focus kernel_rfl)) | (apply st_row 27 19; (focus rfl); (focus rfl); (focus go_simp); (focus kernel_rfl); (focus rfl); (focus (first | (simp [Value.oneCell']; done) | (simp [Value.oneCell', Job.cells]; done)))) | (apply ld_row 46 3; (focus rfl); (focus go_simp); (focus (go_simp; rfl)); (focus (exact Tryd.underlying46)); (focus kernel_rfl)) | (apply st_row 46 3; (focus rfl); (focus rfl); (focus go_simp); (focus kernel_rfl); (focus rfl); (focus (first | (simp [Value.oneCell']; done) | (simp [Value.oneCell', Job.cells]; done)))) | fail)
  refine Calls.at_ fun W hW => ?_
  have B0 : Below w1.heap.size w1 W := by rw [hW]; repeat' (first | with_reducible refine Below.alloc ?_ ?_ _ | with_reducible refine Below.setRow_ ?_ ?_ _ | with_reducible refine Below.setCell ?_ ?_ _ | with_reducible refine Below.drew ?_ | with_reducible refine Below.drewN_ ?_ _ | with_reducible exact Below.refl _ _ | assumption | (simp; done) | (simp; omega) | omega)
  clear hW
  refine (shown_calls W).mono ?_
  rintro e w2 h
  obtain ⟨rfl, hb⟩ := (show RetB W true e w2 from h)
  have C := B0.trans (hb.mono B0.size)
  replace BB := Lib.hid (BB.out.trans (C.mono BB.out.size))
  replace HJ := Lib.hid (HJ.out.step C)
  clear ij rj lj nj mj
  replace Hj := Lib.hid (Hj.out.step C)
  have ij := Hj.out.isRow; have rj := Hj.out.row; have lj := Hj.out.lt; have nj : ¬ bj = w2.heap.size := Nat.ne_of_lt lj; have mj : ¬ w2.heap.size = bj := fun h => nj h.symm
  clear h hb C B0 W
  go_wp2_with (first | (apply ld_row 27 19; (focus rfl); (focus go_simp); (focus (go_simp; rfl)); (focus (exact Tryd.underlying27)); (focus kernel_rfl)) | (apply st_row 27 19; (focus rfl); (focus rfl); (focus go_simp); (focus kernel_rfl); (focus rfl); (focus (first | (simp [Value.oneCell']; done) | (simp [Value.oneCell', Job.cells]; done)))) | (apply ld_row 46 3; (focus rfl); (focus go_simp); (focus (go_simp; rfl)); (focus (exact Tryd.underlying46)); (focus kernel_rfl)) | (apply st_row 46 3; (focus rfl); (focus rfl); (focus go_simp); (focus kernel_rfl); (focus rfl); (focus (first | (simp [Value.oneCell']; done) | (simp [Value.oneCell', Job.cells]; done)))) | fail)
  go_ret
  exact ⟨rfl, BB.out⟩
set_option maxRecDepth 100000 in
set_option maxHeartbeats 4000000 in
theorem jobTries_g3 (j : Job) (a : JA) (path : ByteArray) (w : World) (hj : j.now w a) (hp : plainB j = true) (h1 : (path.size : Int) ≤ 200) (h2 : decide (j.tries < 0) = false) (h3 : decide (3 < j.tries) = true) :
    Calls Tryd.prog 6 #[.agg (j.cells a).toArray, .string path] w (RetB w true) := by
  have HJ := Lib.hid hj
  clear hj
  have hc := cells_eq
  go_enter Tryd.func6, Tryd.ntmps6
  go_wp2_with (first | (apply ld_row 27 19; (focus rfl); (focus go_simp); (focus (go_simp; rfl)); (focus (exact Tryd.underlying27)); (focus kernel_rfl)) | (apply st_row 27 19; (focus rfl); (focus rfl); (focus go_simp); (focus kernel_rfl); (focus rfl); (focus (first | (simp [Value.oneCell']; done) | (simp [Value.oneCell', Job.cells]; done)))) | (apply ld_row 46 3; (focus rfl); (focus go_simp); (focus (go_simp; rfl)); (focus (exact Tryd.underlying46)); (focus kernel_rfl)) | (apply st_row 46 3; (focus rfl); (focus rfl); (focus go_simp); (focus kernel_rfl); (focus rfl); (focus (first | (simp [Value.oneCell']; done) | (simp [Value.oneCell', Job.cells]; done)))) | fail)
  refine Calls.at_ fun W hW => ?_
  have B0 : Below w.heap.size w W := by rw [hW]; repeat' (first | with_reducible refine Below.alloc ?_ ?_ _ | with_reducible refine Below.setRow_ ?_ ?_ _ | with_reducible refine Below.setCell ?_ ?_ _ | with_reducible refine Below.drew ?_ | with_reducible refine Below.drewN_ ?_ _ | with_reducible exact Below.refl _ _ | assumption | (simp; done) | (simp; omega) | omega)
  have Yj : Box W (w.heap.size) (j.cells a).toArray := ⟨_, by rw [hW]; exact blk_new _ (by first | rfl | simp)⟩
  clear hW
  refine (plain_calls j a W (Now W) (Sub.now W) (HJ.out.step B0)).mono ?_
  rintro e w1 h
  obtain ⟨rfl, hb⟩ := (show RetP W true e w1 from by rw [hp] at h; exact h)
  have C := B0.trans (hb.mono B0.size)
  have BB := Lib.hid C
  replace HJ := Lib.hid (HJ.out.step C)
  have Hj := Lib.hid (Yj.step hb)
  obtain ⟨bj, hbj⟩ : ∃ b, b = w.heap.size := ⟨_, rfl⟩
  rw [← hbj] at Hj ⊢
  clear Yj hbj
  have ij := Hj.out.isRow; have rj := Hj.out.row; have lj := Hj.out.lt; have nj : ¬ bj = w1.heap.size := Nat.ne_of_lt lj; have mj : ¬ w1.heap.size = bj := fun h => nj h.symm
  clear h hb C B0 W
  clear hp
  go_wp2_with (first | (apply ld_row 27 19; (focus rfl); (focus go_simp); (focus (go_simp; rfl)); (focus (exact Tryd.underlying27)); (focus kernel_rfl)) | (apply st_row 27 19; (focus rfl); (focus rfl); (focus go_simp); (focus kernel_rfl); (focus rfl); (focus (first | (simp [Value.oneCell']; done) | (simp [Value.oneCell', Job.cells]; done)))) | (apply ld_row 46 3; (focus rfl); (focus go_simp); (focus (go_simp; rfl)); (focus (exact Tryd.underlying46)); (focus kernel_rfl)) | (apply st_row 46 3; (focus rfl); (focus rfl); (focus go_simp); (focus kernel_rfl); (focus rfl); (focus (first | (simp [Value.oneCell']; done) | (simp [Value.oneCell', Job.cells]; done)))) | fail)
  refine Calls.at_ fun W hW => ?_
  have B0 : Below w1.heap.size w1 W := by rw [hW]; repeat' (first | with_reducible refine Below.alloc ?_ ?_ _ | with_reducible refine Below.setRow_ ?_ ?_ _ | with_reducible refine Below.setCell ?_ ?_ _ | with_reducible refine Below.drew ?_ | with_reducible refine Below.drewN_ ?_ _ | with_reducible exact Below.refl _ _ | assumption | (simp; done) | (simp; omega) | omega)
  clear hW
  refine (shown_calls W).mono ?_
  rintro e w2 h
  obtain ⟨rfl, hb⟩ := (show RetB W true e w2 from h)
  have C := B0.trans (hb.mono B0.size)
  replace BB := Lib.hid (BB.out.trans (C.mono BB.out.size))
  replace HJ := Lib.hid (HJ.out.step C)
  clear ij rj lj nj mj
  replace Hj := Lib.hid (Hj.out.step C)
  have ij := Hj.out.isRow; have rj := Hj.out.row; have lj := Hj.out.lt; have nj : ¬ bj = w2.heap.size := Nat.ne_of_lt lj; have mj : ¬ w2.heap.size = bj := fun h => nj h.symm
  clear h hb C B0 W
  go_wp2_with (first | (apply ld_row 27 19; (focus rfl); (focus go_simp); (focus (go_simp; rfl)); (focus (exact Tryd.underlying27)); (focus kernel_rfl)) | (apply st_row 27 19; (focus rfl); (focus rfl); (focus go_simp); (focus kernel_rfl); (focus rfl); (focus (first | (simp [Value.oneCell']; done) | (simp [Value.oneCell', Job.cells]; done)))) | (apply ld_row 46 3; (focus rfl); (focus go_simp); (focus (go_simp; rfl)); (focus (exact Tryd.underlying46)); (focus kernel_rfl)) | (apply st_row 46 3; (focus rfl); (focus rfl); (focus go_simp); (focus kernel_rfl); (focus rfl); (focus (first | (simp [Value.oneCell']; done) | (simp [Value.oneCell', Job.cells]; done)))) | fail)
  go_ret
  exact ⟨rfl, BB.out⟩
end Go.Proofs.YtjkjlegloicmcaaDoor
