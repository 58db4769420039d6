/- JobStack: what is pushed is on top, and popped again, all is as it was. -/
import Derived.Test.YtjkjlegloicmcaaDoorJobI
import Derived.Test.YtjkjlegloicmcaaDoorJobP
set_option linter.unusedVariables false
set_option linter.unusedSimpArgs false
namespace Go.Proofs.YtjkjlegloicmcaaDoor
open Go.RowKit
def Job.push (j : Job) (f : Frame) : Job := { j with stack := j.stack ++ [f] }
def Job.pop (j : Job) : Job := { j with stack := j.stack.take (j.stack.length - 1) }
theorem push_len (j : Job) (f : Frame) : (j.push f).stack.length = j.stack.length + 1 := by simp [Job.push]
theorem push_top (j : Job) (f : Frame) (h : (j.push f).stack.length - 1 < (j.push f).stack.length) : (j.push f).stack[(j.push f).stack.length - 1]'h = f := by simp [Job.push]
theorem pop_push (j : Job) (f : Frame) : (j.push f).pop = j := by simp [Job.push, Job.pop]
theorem plain_of {j : Job} (h : plainB j = true) : j.stack.length ≤ 20 ∧ (∀ f ∈ j.stack, f.names.length ≤ 60) ∧ j.names.length ≤ 120 ∧ j.draws.length ≤ 200 ∧ 0 ≤ j.at_ ∧ j.at_ ≤ 1000000 := by
  unfold plainB tailB at h
  simp only [Bool.and_eq_true, decide_eq_true_eq, List.all_eq_true] at h
  obtain ⟨h1, h2, h3, h4, _, _, _, h5, h6⟩ := h
  exact ⟨h2, fun f hf => h1 f (by rw [List.take_of_length_le (by omega)]; exact hf), h3, h4, h5, h6⟩
attribute [local go_sem] isRow_drew row_drew isRow_drewN row_drewN cell_isRow rowSz_isRow isHead_ptr blockOf_ptr row_alloc isRow_alloc rowSz_alloc setRow_alloc isRow_setRow isRow_setCell isRow_frozen setCell_setRow_same setCell_setRow_other cell_setRow_same' cell_setRow_other' frozen_setRow' row_setRow_same row_setRow_other rowSz_setRow_same rowSz_setRow_other setRow_setRow_same' setRow_comm' ne_l2 ne_r2 ne_l3 ne_r3 ne_l4 ne_r4 ne_l5 ne_r5 ne_l6 ne_r6 ne_l7 ne_r7 ne_l8 ne_r8 cells_len
attribute [local go_sem ↓] ldx_27
attribute [local go_sem ↓] ldx_46
attribute [local go_sem ↓] Go.wp_at_zero Go.wp_at_succ
set_option maxRecDepth 100000 in
set_option maxHeartbeats 4000000 in
theorem jobStack_g1 (j : Job) (a : JA) (f g : Frame) (fa ga : Sl) (w : World) (hj : j.now w a) (hf : rStr.Is w (Now w) fa f.names) (hg : rStr.Is w (Now w) ga g.names) (hp : plainB j = false) :
    Calls Tryd.prog 5 #[.agg (j.cells a).toArray, .agg #[.int .i64 f.fd, .string f.name, .slice fa.a f.names.length fa.c], .agg #[.int .i64 g.fd, .string g.name, .slice ga.a g.names.length ga.c]] w (RetB w true) := by
  have HJ := Lib.hid hj
  have HF := Lib.hid hf
  have HG := Lib.hid hg
  clear hj hf hg
  go_enter Tryd.func5, Tryd.ntmps5
  go_wp2_with (first | (apply ld_row 27 19; (focus rfl); (focus go_simp); (focus (go_simp; rfl)); (focus (exact Tryd.underlying27)); (focus kernel_rfl)) | (apply st_row 27 19; (focus rfl); (focus rfl); (focus go_simp); (focus kernel_rfl); (focus rfl); (focus (first | (simp [Value.oneCell']; done) | (simp [Value.oneCell', Job.cells]; done)))) | (apply ld_row 46 3; (focus rfl); (focus go_simp); (focus (go_simp; rfl)); (focus (exact Tryd.underlying46)); (focus kernel_rfl)) | (apply st_row 46 3; (focus rfl); (focus rfl); (focus go_simp); (focus kernel_rfl); (focus rfl); (focus (first | (simp [Value.oneCell']; done) | (simp [Value.oneCell', Job.cells]; done)))) | fail)
  refine Calls.at_ fun W hW => ?_
  have B0 : Below w.heap.size w W := by rw [hW]; repeat' (first | with_reducible refine Below.alloc ?_ ?_ _ | with_reducible refine Below.setRow_ ?_ ?_ _ | with_reducible refine Below.setCell ?_ ?_ _ | with_reducible refine Below.drew ?_ | with_reducible refine Below.drewN_ ?_ _ | with_reducible exact Below.refl _ _ | assumption | (simp; done) | (simp; omega) | omega)
  have Yj : Box W (w.heap.size) (j.cells a).toArray := ⟨_, by rw [hW]; exact blk_old (blk_old (blk_new _ (by first | rfl | simp)) _) _⟩
  have Yx : Box W (w.heap.size + 1) #[.int .i64 f.fd, .string f.name, .slice fa.a f.names.length fa.c] := ⟨_, by rw [hW]; exact blk_old (blk_new _ (by first | rfl | simp)) _⟩
  have Yq : Box W (w.heap.size + 1 + 1) #[.int .i64 g.fd, .string g.name, .slice ga.a g.names.length ga.c] := ⟨_, by rw [hW]; exact blk_new _ (by first | rfl | simp)⟩
  clear hW
  refine (plain_calls j a W (Now W) (Sub.now W) (HJ.out.step B0)).mono ?_
  rintro e w1 h
  obtain ⟨rfl, hb⟩ := (show RetP W false e w1 from by rw [hp] at h; exact h)
  have C := B0.trans (hb.mono B0.size)
  have BB := Lib.hid C
  replace HJ := Lib.hid (HJ.out.step C)
  replace HF := Lib.hid (HF.out.step C)
  replace HG := Lib.hid (HG.out.step C)
  have Hj := Lib.hid (Yj.step hb)
  have Hx := Lib.hid (Yx.step hb)
  have Hq := Lib.hid (Yq.step hb)
  obtain ⟨bq, hbq⟩ : ∃ b, b = w.heap.size + 1 + 1 := ⟨_, rfl⟩
  rw [← hbq] at Hq ⊢
  obtain ⟨bx, hbx⟩ : ∃ b, b = w.heap.size + 1 := ⟨_, rfl⟩
  rw [← hbx] at Hx ⊢
  obtain ⟨bj, hbj⟩ : ∃ b, b = w.heap.size := ⟨_, rfl⟩
  rw [← hbj] at Hj ⊢
  clear Yj hbj Yx hbx Yq hbq
  have ij := Hj.out.isRow; have rj := Hj.out.row; have lj := Hj.out.lt; have nj : ¬ bj = w1.heap.size := Nat.ne_of_lt lj; have mj : ¬ w1.heap.size = bj := fun h => nj h.symm
  have ix := Hx.out.isRow; have rx := Hx.out.row; have lx := Hx.out.lt; have nx : ¬ bx = w1.heap.size := Nat.ne_of_lt lx; have mx : ¬ w1.heap.size = bx := fun h => nx h.symm
  have iq := Hq.out.isRow; have rq := Hq.out.row; have lq := Hq.out.lt; have nq : ¬ bq = w1.heap.size := Nat.ne_of_lt lq; have mq : ¬ w1.heap.size = bq := fun h => nq h.symm
  clear h hb C B0 W
  clear hp
  go_wp2_with (first | (apply ld_row 27 19; (focus rfl); (focus go_simp); (focus (go_simp; rfl)); (focus (exact Tryd.underlying27)); (focus kernel_rfl)) | (apply st_row 27 19; (focus rfl); (focus rfl); (focus go_simp); (focus kernel_rfl); (focus rfl); (focus (first | (simp [Value.oneCell']; done) | (simp [Value.oneCell', Job.cells]; done)))) | (apply ld_row 46 3; (focus rfl); (focus go_simp); (focus (go_simp; rfl)); (focus (exact Tryd.underlying46)); (focus kernel_rfl)) | (apply st_row 46 3; (focus rfl); (focus rfl); (focus go_simp); (focus kernel_rfl); (focus rfl); (focus (first | (simp [Value.oneCell']; done) | (simp [Value.oneCell', Job.cells]; done)))) | fail)
  refine Calls.at_ fun W hW => ?_
  have B0 : Below w1.heap.size w1 W := by rw [hW]; repeat' (first | with_reducible refine Below.alloc ?_ ?_ _ | with_reducible refine Below.setRow_ ?_ ?_ _ | with_reducible refine Below.setCell ?_ ?_ _ | with_reducible refine Below.drew ?_ | with_reducible refine Below.drewN_ ?_ _ | with_reducible exact Below.refl _ _ | assumption | (simp; done) | (simp; omega) | omega)
  clear hW
  refine (shown_calls W).mono ?_
  rintro e w2 h
  obtain ⟨rfl, hb⟩ := (show RetB W true e w2 from h)
  have C := B0.trans (hb.mono B0.size)
  replace BB := Lib.hid (BB.out.trans (C.mono BB.out.size))
  replace HJ := Lib.hid (HJ.out.step C)
  replace HF := Lib.hid (HF.out.step C)
  replace HG := Lib.hid (HG.out.step C)
  clear ij rj lj nj mj
  replace Hj := Lib.hid (Hj.out.step C)
  clear ix rx lx nx mx
  replace Hx := Lib.hid (Hx.out.step C)
  clear iq rq lq nq mq
  replace Hq := Lib.hid (Hq.out.step C)
  have ij := Hj.out.isRow; have rj := Hj.out.row; have lj := Hj.out.lt; have nj : ¬ bj = w2.heap.size := Nat.ne_of_lt lj; have mj : ¬ w2.heap.size = bj := fun h => nj h.symm
  have ix := Hx.out.isRow; have rx := Hx.out.row; have lx := Hx.out.lt; have nx : ¬ bx = w2.heap.size := Nat.ne_of_lt lx; have mx : ¬ w2.heap.size = bx := fun h => nx h.symm
  have iq := Hq.out.isRow; have rq := Hq.out.row; have lq := Hq.out.lt; have nq : ¬ bq = w2.heap.size := Nat.ne_of_lt lq; have mq : ¬ w2.heap.size = bq := fun h => nq h.symm
  clear h hb C B0 W
  go_wp2_with (first | (apply ld_row 27 19; (focus rfl); (focus go_simp); (focus (go_simp; rfl)); (focus (exact Tryd.underlying27)); (focus kernel_rfl)) | (apply st_row 27 19; (focus rfl); (focus rfl); (focus go_simp); (focus kernel_rfl); (focus rfl); (focus (first | (simp [Value.oneCell']; done) | (simp [Value.oneCell', Job.cells]; done)))) | (apply ld_row 46 3; (focus rfl); (focus go_simp); (focus (go_simp; rfl)); (focus (exact Tryd.underlying46)); (focus kernel_rfl)) | (apply st_row 46 3; (focus rfl); (focus rfl); (focus go_simp); (focus kernel_rfl); (focus rfl); (focus (first | (simp [Value.oneCell']; done) | (simp [Value.oneCell', Job.cells]; done)))) | fail)
  go_ret
  exact ⟨rfl, BB.out⟩
set_option maxRecDepth 100000 in
set_option maxHeartbeats 4000000 in
theorem jobStack_g2 (j : Job) (a : JA) (f g : Frame) (fa ga : Sl) (w : World) (hj : j.now w a) (hf : rStr.Is w (Now w) fa f.names) (hg : rStr.Is w (Now w) ga g.names) (hp : plainB j = true) (h60 : ¬ (f.names.length : Int) ≤ 60) :
    Calls Tryd.prog 5 #[.agg (j.cells a).toArray, .agg #[.int .i64 f.fd, .string f.name, .slice fa.a f.names.length fa.c], .agg #[.int .i64 g.fd, .string g.name, .slice ga.a g.names.length ga.c]] w (RetB w true) := by
  have HJ := Lib.hid hj
  have HF := Lib.hid hf
  have HG := Lib.hid hg
  clear hj hf hg
  go_enter Tryd.func5, Tryd.ntmps5
  go_wp2_with (first | (apply ld_row 27 19; (focus rfl); (focus go_simp); (focus (go_simp; rfl)); (focus (exact Tryd.underlying27)); (focus kernel_rfl)) | (apply st_row 27 19; (focus rfl); (focus rfl); (focus go_simp); (focus kernel_rfl); (focus rfl); (focus (first | (simp [Value.oneCell']; done) | (simp [Value.oneCell', Job.cells]; done)))) | (apply ld_row 46 3; (focus rfl); (focus go_simp); (focus (go_simp; rfl)); (focus (exact Tryd.underlying46)); (focus kernel_rfl)) | (apply st_row 46 3; (focus rfl); (focus rfl); (focus go_simp); (focus kernel_rfl); (focus rfl); (focus (first | (simp [Value.oneCell']; done) | (simp [Value.oneCell', Job.cells]; done)))) | fail)
  refine Calls.at_ fun W hW => ?_
  have B0 : Below w.heap.size w W := by rw [hW]; repeat' (first | with_reducible refine Below.alloc ?_ ?_ _ | with_reducible refine Below.setRow_ ?_ ?_ _ | with_reducible refine Below.setCell ?_ ?_ _ | with_reducible refine Below.drew ?_ | with_reducible refine Below.drewN_ ?_ _ | with_reducible exact Below.refl _ _ | assumption | (simp; done) | (simp; omega) | omega)
  have Yj : Box W (w.heap.size) (j.cells a).toArray := ⟨_, by rw [hW]; exact blk_old (blk_old (blk_new _ (by first | rfl | simp)) _) _⟩
  have Yx : Box W (w.heap.size + 1) #[.int .i64 f.fd, .string f.name, .slice fa.a f.names.length fa.c] := ⟨_, by rw [hW]; exact blk_old (blk_new _ (by first | rfl | simp)) _⟩
  have Yq : Box W (w.heap.size + 1 + 1) #[.int .i64 g.fd, .string g.name, .slice ga.a g.names.length ga.c] := ⟨_, by rw [hW]; exact blk_new _ (by first | rfl | simp)⟩
  clear hW
  refine (plain_calls j a W (Now W) (Sub.now W) (HJ.out.step B0)).mono ?_
  rintro e w1 h
  obtain ⟨rfl, hb⟩ := (show RetP W true e w1 from by rw [hp] at h; exact h)
  have C := B0.trans (hb.mono B0.size)
  have BB := Lib.hid C
  replace HJ := Lib.hid (HJ.out.step C)
  replace HF := Lib.hid (HF.out.step C)
  replace HG := Lib.hid (HG.out.step C)
  have Hj := Lib.hid (Yj.step hb)
  have Hx := Lib.hid (Yx.step hb)
  have Hq := Lib.hid (Yq.step hb)
  obtain ⟨bq, hbq⟩ : ∃ b, b = w.heap.size + 1 + 1 := ⟨_, rfl⟩
  rw [← hbq] at Hq ⊢
  obtain ⟨bx, hbx⟩ : ∃ b, b = w.heap.size + 1 := ⟨_, rfl⟩
  rw [← hbx] at Hx ⊢
  obtain ⟨bj, hbj⟩ : ∃ b, b = w.heap.size := ⟨_, rfl⟩
  rw [← hbj] at Hj ⊢
  clear Yj hbj Yx hbx Yq hbq
  have ij := Hj.out.isRow; have rj := Hj.out.row; have lj := Hj.out.lt; have nj : ¬ bj = w1.heap.size := Nat.ne_of_lt lj; have mj : ¬ w1.heap.size = bj := fun h => nj h.symm
  have ix := Hx.out.isRow; have rx := Hx.out.row; have lx := Hx.out.lt; have nx : ¬ bx = w1.heap.size := Nat.ne_of_lt lx; have mx : ¬ w1.heap.size = bx := fun h => nx h.symm
  have iq := Hq.out.isRow; have rq := Hq.out.row; have lq := Hq.out.lt; have nq : ¬ bq = w1.heap.size := Nat.ne_of_lt lq; have mq : ¬ w1.heap.size = bq := fun h => nq h.symm
  clear h hb C B0 W
  clear hp
  go_wp2_with (first | (apply ld_row 27 19; (focus rfl); (focus go_simp); (focus (go_simp; rfl)); (focus (exact Tryd.underlying27)); (focus kernel_rfl)) | (apply st_row 27 19; (focus rfl); (focus rfl); (focus go_simp); (focus kernel_rfl); (focus rfl); (focus (first | (simp [Value.oneCell']; done) | (simp [Value.oneCell', Job.cells]; done)))) | (apply ld_row 46 3; (focus rfl); (focus go_simp); (focus (go_simp; rfl)); (focus (exact Tryd.underlying46)); (focus kernel_rfl)) | (apply st_row 46 3; (focus rfl); (focus rfl); (focus go_simp); (focus kernel_rfl); (focus rfl); (focus (first | (simp [Value.oneCell']; done) | (simp [Value.oneCell', Job.cells]; done)))) | fail)
  refine Calls.at_ fun W hW => ?_
  have B0 : Below w1.heap.size w1 W := by rw [hW]; repeat' (first | with_reducible refine Below.alloc ?_ ?_ _ | with_reducible refine Below.setRow_ ?_ ?_ _ | with_reducible refine Below.setCell ?_ ?_ _ | with_reducible refine Below.drew ?_ | with_reducible refine Below.drewN_ ?_ _ | with_reducible exact Below.refl _ _ | assumption | (simp; done) | (simp; omega) | omega)
  clear hW
  refine (shown_calls W).mono ?_
  rintro e w2 h
  obtain ⟨rfl, hb⟩ := (show RetB W true e w2 from h)
  have C := B0.trans (hb.mono B0.size)
  replace BB := Lib.hid (BB.out.trans (C.mono BB.out.size))
  replace HJ := Lib.hid (HJ.out.step C)
  replace HF := Lib.hid (HF.out.step C)
  replace HG := Lib.hid (HG.out.step C)
  clear ij rj lj nj mj
  replace Hj := Lib.hid (Hj.out.step C)
  clear ix rx lx nx mx
  replace Hx := Lib.hid (Hx.out.step C)
  clear iq rq lq nq mq
  replace Hq := Lib.hid (Hq.out.step C)
  have ij := Hj.out.isRow; have rj := Hj.out.row; have lj := Hj.out.lt; have nj : ¬ bj = w2.heap.size := Nat.ne_of_lt lj; have mj : ¬ w2.heap.size = bj := fun h => nj h.symm
  have ix := Hx.out.isRow; have rx := Hx.out.row; have lx := Hx.out.lt; have nx : ¬ bx = w2.heap.size := Nat.ne_of_lt lx; have mx : ¬ w2.heap.size = bx := fun h => nx h.symm
  have iq := Hq.out.isRow; have rq := Hq.out.row; have lq := Hq.out.lt; have nq : ¬ bq = w2.heap.size := Nat.ne_of_lt lq; have mq : ¬ w2.heap.size = bq := fun h => nq h.symm
  clear h hb C B0 W
  go_wp2_with (first | (apply ld_row 27 19; (focus rfl); (focus go_simp); (focus (go_simp; rfl)); (focus (exact Tryd.underlying27)); (focus kernel_rfl)) | (apply st_row 27 19; (focus rfl); (focus rfl); (focus go_simp); (focus kernel_rfl); (focus rfl); (focus (first | (simp [Value.oneCell']; done) | (simp [Value.oneCell', Job.cells]; done)))) | (apply ld_row 46 3; (focus rfl); (focus go_simp); (focus (go_simp; rfl)); (focus (exact Tryd.underlying46)); (focus kernel_rfl)) | (apply st_row 46 3; (focus rfl); (focus rfl); (focus go_simp); (focus kernel_rfl); (focus rfl); (focus (first | (simp [Value.oneCell']; done) | (simp [Value.oneCell', Job.cells]; done)))) | fail)
  go_ret
  exact ⟨rfl, BB.out⟩
set_option maxRecDepth 100000 in
set_option maxHeartbeats 4000000 in
theorem jobStack_g3 (j : Job) (a : JA) (f g : Frame) (fa ga : Sl) (w : World) (hj : j.now w a) (hf : rStr.Is w (Now w) fa f.names) (hg : rStr.Is w (Now w) ga g.names) (hp : plainB j = true) (h60 : (f.names.length : Int) ≤ 60) (g60 : ¬ (g.names.length : Int) ≤ 60) :
    Calls Tryd.prog 5 #[.agg (j.cells a).toArray, .agg #[.int .i64 f.fd, .string f.name, .slice fa.a f.names.length fa.c], .agg #[.int .i64 g.fd, .string g.name, .slice ga.a g.names.length ga.c]] w (RetB w true) := by
  have HJ := Lib.hid hj
  have HF := Lib.hid hf
  have HG := Lib.hid hg
  clear hj hf hg
  go_enter Tryd.func5, Tryd.ntmps5
  go_wp2_with (first | (apply ld_row 27 19; (focus rfl); (focus go_simp); (focus (go_simp; rfl)); (focus (exact Tryd.underlying27)); (focus kernel_rfl)) | (apply st_row 27 19; (focus rfl); (focus rfl); (focus go_simp); (focus kernel_rfl); (focus rfl); (focus (first | (simp [Value.oneCell']; done) | (simp [Value.oneCell', Job.cells]; done)))) | (apply ld_row 46 3; (focus rfl); (focus go_simp); (focus (go_simp; rfl)); (focus (exact Tryd.underlying46)); (focus kernel_rfl)) | (apply st_row 46 3; (focus rfl); (focus rfl); (focus go_simp); (focus kernel_rfl); (focus rfl); (focus (first | (simp [Value.oneCell']; done) | (simp [Value.oneCell', Job.cells]; done)))) | fail)
  refine Calls.at_ fun W hW => ?_
  have B0 : Below w.heap.size w W := by rw [hW]; repeat' (first | with_reducible refine Below.alloc ?_ ?_ _ | with_reducible refine Below.setRow_ ?_ ?_ _ | with_reducible refine Below.setCell ?_ ?_ _ | with_reducible refine Below.drew ?_ | with_reducible refine Below.drewN_ ?_ _ | with_reducible exact Below.refl _ _ | assumption | (simp; done) | (simp; omega) | omega)
  have Yj : Box W (w.heap.size) (j.cells a).toArray := ⟨_, by rw [hW]; exact blk_old (blk_old (blk_new _ (by first | rfl | simp)) _) _⟩
  have Yx : Box W (w.heap.size + 1) #[.int .i64 f.fd, .string f.name, .slice fa.a f.names.length fa.c] := ⟨_, by rw [hW]; exact blk_old (blk_new _ (by first | rfl | simp)) _⟩
  have Yq : Box W (w.heap.size + 1 + 1) #[.int .i64 g.fd, .string g.name, .slice ga.a g.names.length ga.c] := ⟨_, by rw [hW]; exact blk_new _ (by first | rfl | simp)⟩
  clear hW
  refine (plain_calls j a W (Now W) (Sub.now W) (HJ.out.step B0)).mono ?_
  rintro e w1 h
  obtain ⟨rfl, hb⟩ := (show RetP W true e w1 from by rw [hp] at h; exact h)
  have C := B0.trans (hb.mono B0.size)
  have BB := Lib.hid C
  replace HJ := Lib.hid (HJ.out.step C)
  replace HF := Lib.hid (HF.out.step C)
  replace HG := Lib.hid (HG.out.step C)
  have Hj := Lib.hid (Yj.step hb)
  have Hx := Lib.hid (Yx.step hb)
  have Hq := Lib.hid (Yq.step hb)
  obtain ⟨bq, hbq⟩ : ∃ b, b = w.heap.size + 1 + 1 := ⟨_, rfl⟩
  rw [← hbq] at Hq ⊢
  obtain ⟨bx, hbx⟩ : ∃ b, b = w.heap.size + 1 := ⟨_, rfl⟩
  rw [← hbx] at Hx ⊢
  obtain ⟨bj, hbj⟩ : ∃ b, b = w.heap.size := ⟨_, rfl⟩
  rw [← hbj] at Hj ⊢
  clear Yj hbj Yx hbx Yq hbq
  have ij := Hj.out.isRow; have rj := Hj.out.row; have lj := Hj.out.lt; have nj : ¬ bj = w1.heap.size := Nat.ne_of_lt lj; have mj : ¬ w1.heap.size = bj := fun h => nj h.symm
  have ix := Hx.out.isRow; have rx := Hx.out.row; have lx := Hx.out.lt; have nx : ¬ bx = w1.heap.size := Nat.ne_of_lt lx; have mx : ¬ w1.heap.size = bx := fun h => nx h.symm
  have iq := Hq.out.isRow; have rq := Hq.out.row; have lq := Hq.out.lt; have nq : ¬ bq = w1.heap.size := Nat.ne_of_lt lq; have mq : ¬ w1.heap.size = bq := fun h => nq h.symm
  clear h hb C B0 W
  clear hp
  go_wp2_with (first | (apply ld_row 27 19; (focus rfl); (focus go_simp); (focus (go_simp; rfl)); (focus (exact Tryd.underlying27)); (focus kernel_rfl)) | (apply st_row 27 19; (focus rfl); (focus rfl); (focus go_simp); (focus kernel_rfl); (focus rfl); (focus (first | (simp [Value.oneCell']; done) | (simp [Value.oneCell', Job.cells]; done)))) | (apply ld_row 46 3; (focus rfl); (focus go_simp); (focus (go_simp; rfl)); (focus (exact Tryd.underlying46)); (focus kernel_rfl)) | (apply st_row 46 3; (focus rfl); (focus rfl); (focus go_simp); (focus kernel_rfl); (focus rfl); (focus (first | (simp [Value.oneCell']; done) | (simp [Value.oneCell', Job.cells]; done)))) | fail)
  refine Calls.at_ fun W hW => ?_
  have B0 : Below w1.heap.size w1 W := by rw [hW]; repeat' (first | with_reducible refine Below.alloc ?_ ?_ _ | with_reducible refine Below.setRow_ ?_ ?_ _ | with_reducible refine Below.setCell ?_ ?_ _ | with_reducible refine Below.drew ?_ | with_reducible refine Below.drewN_ ?_ _ | with_reducible exact Below.refl _ _ | assumption | (simp; done) | (simp; omega) | omega)
  clear hW
  refine (shown_calls W).mono ?_
  rintro e w2 h
  obtain ⟨rfl, hb⟩ := (show RetB W true e w2 from h)
  have C := B0.trans (hb.mono B0.size)
  replace BB := Lib.hid (BB.out.trans (C.mono BB.out.size))
  replace HJ := Lib.hid (HJ.out.step C)
  replace HF := Lib.hid (HF.out.step C)
  replace HG := Lib.hid (HG.out.step C)
  clear ij rj lj nj mj
  replace Hj := Lib.hid (Hj.out.step C)
  clear ix rx lx nx mx
  replace Hx := Lib.hid (Hx.out.step C)
  clear iq rq lq nq mq
  replace Hq := Lib.hid (Hq.out.step C)
  have ij := Hj.out.isRow; have rj := Hj.out.row; have lj := Hj.out.lt; have nj : ¬ bj = w2.heap.size := Nat.ne_of_lt lj; have mj : ¬ w2.heap.size = bj := fun h => nj h.symm
  have ix := Hx.out.isRow; have rx := Hx.out.row; have lx := Hx.out.lt; have nx : ¬ bx = w2.heap.size := Nat.ne_of_lt lx; have mx : ¬ w2.heap.size = bx := fun h => nx h.symm
  have iq := Hq.out.isRow; have rq := Hq.out.row; have lq := Hq.out.lt; have nq : ¬ bq = w2.heap.size := Nat.ne_of_lt lq; have mq : ¬ w2.heap.size = bq := fun h => nq h.symm
  clear h hb C B0 W
  go_wp2_with (first | (apply ld_row 27 19; (focus rfl); (focus go_simp); (focus (go_simp; rfl)); (focus (exact Tryd.underlying27)); (focus kernel_rfl)) | (apply st_row 27 19; (focus rfl); (focus rfl); (focus go_simp); (focus kernel_rfl); (focus rfl); (focus (first | (simp [Value.oneCell']; done) | (simp [Value.oneCell', Job.cells]; done)))) | (apply ld_row 46 3; (focus rfl); (focus go_simp); (focus (go_simp; rfl)); (focus (exact Tryd.underlying46)); (focus kernel_rfl)) | (apply st_row 46 3; (focus rfl); (focus rfl); (focus go_simp); (focus kernel_rfl); (focus rfl); (focus (first | (simp [Value.oneCell']; done) | (simp [Value.oneCell', Job.cells]; done)))) | fail)
  go_ret
  exact ⟨rfl, BB.out⟩
end Go.Proofs.YtjkjlegloicmcaaDoor
