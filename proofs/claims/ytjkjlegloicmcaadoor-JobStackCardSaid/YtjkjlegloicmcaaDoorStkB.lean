/- JobStack: the road that is told of. -/
import Derived.Test.YtjkjlegloicmcaaDoorStkA
set_option linter.unusedVariables false
set_option linter.unusedSimpArgs false
namespace Go.Proofs.YtjkjlegloicmcaaDoor
open Go.RowKit
theorem keep2 {W w1 : World} (hb : Below W.heap.size W w1) {b1 b2 : Nat} {c1 c2 : Array Value} (h : (isRow W b1 = true ∧ isRow W b2 = true) ∧ row W b1 = c1 ∧ row W b2 = c2) : (isRow w1 b1 = true ∧ isRow w1 b2 = true) ∧ row w1 b1 = c1 ∧ row w1 b2 = c2 := by
  obtain ⟨⟨i1, i2⟩, r1, r2⟩ := h
  exact ⟨⟨isRow_call hb i1, isRow_call hb i2⟩, row_call hb i1 r1, row_call hb i2 r2⟩
theorem keep8 {W w1 : World} (hb : Below W.heap.size W w1) {b1 b2 b3 b4 b5 b6 b7 b8 : Nat} {c1 c2 c3 c4 c5 c6 c7 c8 : Array Value} (h : (isRow W b1 = true ∧ isRow W b2 = true ∧ isRow W b3 = true ∧ isRow W b4 = true ∧ isRow W b5 = true ∧ isRow W b6 = true ∧ isRow W b7 = true ∧ isRow W b8 = true) ∧ row W b1 = c1 ∧ row W b2 = c2 ∧ row W b3 = c3 ∧ row W b4 = c4 ∧ row W b5 = c5 ∧ row W b6 = c6 ∧ row W b7 = c7 ∧ row W b8 = c8) : (isRow w1 b1 = true ∧ isRow w1 b2 = true ∧ isRow w1 b3 = true ∧ isRow w1 b4 = true ∧ isRow w1 b5 = true ∧ isRow w1 b6 = true ∧ isRow w1 b7 = true ∧ isRow w1 b8 = true) ∧ row w1 b1 = c1 ∧ row w1 b2 = c2 ∧ row w1 b3 = c3 ∧ row w1 b4 = c4 ∧ row w1 b5 = c5 ∧ row w1 b6 = c6 ∧ row w1 b7 = c7 ∧ row w1 b8 = c8 := by
  obtain ⟨⟨i1, i2, i3, i4, i5, i6, i7, i8⟩, r1, r2, r3, r4, r5, r6, r7, r8⟩ := h
  exact ⟨⟨isRow_call hb i1, isRow_call hb i2, isRow_call hb i3, isRow_call hb i4, isRow_call hb i5, isRow_call hb i6, isRow_call hb i7, isRow_call hb i8⟩, row_call hb i1 r1, row_call hb i2 r2, row_call hb i3 r3, row_call hb i4 r4, row_call hb i5 r5, row_call hb i6 r6, row_call hb i7 r7, row_call hb i8 r8⟩
attribute [local go_sem] isRow_drew row_drew isRow_drewN row_drewN cell_isRow rowSz_isRow isHead_ptr blockOf_ptr row_alloc isRow_alloc rowSz_alloc setRow_alloc isRow_setRow isRow_setCell isRow_frozen setCell_setRow_same setCell_setRow_other cell_setRow_same' cell_setRow_other' frozen_setRow' row_setRow_same row_setRow_other rowSz_setRow_same rowSz_setRow_other setRow_setRow_same' setRow_comm' ne_l2 ne_r2 ne_l3 ne_r3 ne_l4 ne_r4 ne_l5 ne_r5 ne_l6 ne_r6 ne_l7 ne_r7 ne_l8 ne_r8 cells_len
attribute [local go_sem ↓] ldx_27
attribute [local go_sem ↓] ldx_46
attribute [local go_sem ↓] Go.wp_at_zero Go.wp_at_succ
set_option maxRecDepth 100000 in
set_option maxHeartbeats 4000000 in
theorem jobStack_main (j : Job) (a : JA) (f g : Frame) (fa ga : Sl) (w : World) (hj : j.now w a) (hf : rStr.Is w (Now w) fa f.names) (hg : rStr.Is w (Now w) ga g.names) (hp : plainB j = true) (h60 : (f.names.length : Int) ≤ 60) (g60 : (g.names.length : Int) ≤ 60) :
    Calls Tryd.prog 5 #[.agg (j.cells a).toArray, .agg #[.int .i64 f.fd, .string f.name, .slice fa.a f.names.length fa.c], .agg #[.int .i64 g.fd, .string g.name, .slice ga.a g.names.length ga.c]] w (RetB w true) := by
  obtain ⟨p1, p2, p3, p4, _⟩ := plain_of hp
  have q1 : (j.push f).stack.length = j.stack.length + 1 := push_len j f
  have q2 : (j.push g).stack.length = j.stack.length + 1 := push_len j g
  have PP := Lib.hid (And.intro p1 (And.intro p2 (And.intro p3 (And.intro p4 (And.intro q1 q2)))))
  clear p1 p2 p3 p4 q1 q2
  have HJ := Lib.hid hj
  have HF := Lib.hid hf
  have HG := Lib.hid hg
  clear hj hf hg
  go_enter Tryd.func5, Tryd.ntmps5
  go_wp2_with (first | (apply ld_row 27 19; (focus rfl); (focus go_simp); (focus (go_simp; rfl)); (focus (exact Tryd.underlying27)); (focus kernel_rfl)) | (apply st_row 27 19; (focus rfl); (focus rfl); (focus go_simp); (focus kernel_rfl); (focus rfl); (focus (first | (simp [Value.oneCell']; done) | (simp [Value.oneCell', Job.cells]; done)))) | (apply ld_row 46 3; (focus rfl); (focus go_simp); (focus (go_simp; rfl)); (focus (exact Tryd.underlying46)); (focus kernel_rfl)) | (apply st_row 46 3; (focus rfl); (focus rfl); (focus go_simp); (focus kernel_rfl); (focus rfl); (focus (first | (simp [Value.oneCell']; done) | (simp [Value.oneCell', Job.cells]; done)))) | fail)
  refine Calls.at_ fun W hW => ?_
  have B0 : Below w.heap.size w W := by rw [hW]; repeat' (first | with_reducible refine Below.alloc ?_ ?_ _ | with_reducible refine Below.setRow_ ?_ ?_ _ | with_reducible refine Below.setCell ?_ ?_ _ | with_reducible refine Below.drew ?_ | with_reducible refine Below.drewN_ ?_ _ | with_reducible exact Below.refl _ _ | assumption | (simp; done) | (simp; omega) | omega)
  have Yj : Box W (w.heap.size) (j.cells a).toArray := ⟨_, by rw [hW]; exact blk_old (blk_old (blk_new _ (by first | rfl | simp)) _) _⟩
  have Yx : Box W (w.heap.size + 1) #[.int .i64 f.fd, .string f.name, .slice fa.a f.names.length fa.c] := ⟨_, by rw [hW]; exact blk_old (blk_new _ (by first | rfl | simp)) _⟩
  have Yq : Box W (w.heap.size + 1 + 1) #[.int .i64 g.fd, .string g.name, .slice ga.a g.names.length ga.c] := ⟨_, by rw [hW]; exact blk_new _ (by first | rfl | simp)⟩
  clear hW
  refine (plain_calls j a W (Now W) (Sub.now W) (HJ.out.step B0)).mono ?_
  rintro e w1 h
  obtain ⟨rfl, hb⟩ := (show RetP W true e w1 from by rw [hp] at h; exact h)
  have C := B0.trans (hb.mono B0.size)
  have BB := Lib.hid C
  replace HJ := Lib.hid (HJ.out.step C)
  replace HF := Lib.hid (HF.out.step C)
  replace HG := Lib.hid (HG.out.step C)
  have Hj := Lib.hid (Yj.step hb)
  have Hx := Lib.hid (Yx.step hb)
  have Hq := Lib.hid (Yq.step hb)
  obtain ⟨bq, hbq⟩ : ∃ b, b = w.heap.size + 1 + 1 := ⟨_, rfl⟩
  rw [← hbq] at Hq ⊢
  obtain ⟨bx, hbx⟩ : ∃ b, b = w.heap.size + 1 := ⟨_, rfl⟩
  rw [← hbx] at Hx ⊢
  obtain ⟨bj, hbj⟩ : ∃ b, b = w.heap.size := ⟨_, rfl⟩
  rw [← hbj] at Hj ⊢
  clear Yj hbj Yx hbx Yq hbq
  have ij := Hj.out.isRow; have rj := Hj.out.row; have lj := Hj.out.lt; have nj : ¬ bj = w1.heap.size := Nat.ne_of_lt lj; have mj : ¬ w1.heap.size = bj := fun h => nj h.symm
  have ix := Hx.out.isRow; have rx := Hx.out.row; have lx := Hx.out.lt; have nx : ¬ bx = w1.heap.size := Nat.ne_of_lt lx; have mx : ¬ w1.heap.size = bx := fun h => nx h.symm
  have iq := Hq.out.isRow; have rq := Hq.out.row; have lq := Hq.out.lt; have nq : ¬ bq = w1.heap.size := Nat.ne_of_lt lq; have mq : ¬ w1.heap.size = bq := fun h => nq h.symm
  clear h hb C B0 W
  clear hp
  go_wp2_with (first | (apply ld_row 27 19; (focus rfl); (focus go_simp); (focus (go_simp; rfl)); (focus (exact Tryd.underlying27)); (focus kernel_rfl)) | (apply st_row 27 19; (focus rfl); (focus rfl); (focus go_simp); (focus kernel_rfl); (focus rfl); (focus (first | (simp [Value.oneCell']; done) | (simp [Value.oneCell', Job.cells]; done)))) | (apply ld_row 46 3; (focus rfl); (focus go_simp); (focus (go_simp; rfl)); (focus (exact Tryd.underlying46)); (focus kernel_rfl)) | (apply st_row 46 3; (focus rfl); (focus rfl); (focus go_simp); (focus kernel_rfl); (focus rfl); (focus (first | (simp [Value.oneCell']; done) | (simp [Value.oneCell', Job.cells]; done)))) | fail)
  refine Calls.at_ fun W hW => ?_
  have B0 : Below w1.heap.size w1 W := by rw [hW]; repeat' (first | with_reducible refine Below.alloc ?_ ?_ _ | with_reducible refine Below.setRow_ ?_ ?_ _ | with_reducible refine Below.setCell ?_ ?_ _ | with_reducible refine Below.drew ?_ | with_reducible refine Below.drewN_ ?_ _ | with_reducible exact Below.refl _ _ | assumption | (simp; done) | (simp; omega) | omega)
  clear hW
  refine (shown_calls W).mono ?_
  rintro e w2 h
  obtain ⟨rfl, hb⟩ := (show RetB W true e w2 from h)
  have C := B0.trans (hb.mono B0.size)
  replace BB := Lib.hid (BB.out.trans (C.mono BB.out.size))
  replace HJ := Lib.hid (HJ.out.step C)
  replace HF := Lib.hid (HF.out.step C)
  replace HG := Lib.hid (HG.out.step C)
  clear ij rj lj nj mj
  replace Hj := Lib.hid (Hj.out.step C)
  clear ix rx lx nx mx
  replace Hx := Lib.hid (Hx.out.step C)
  clear iq rq lq nq mq
  replace Hq := Lib.hid (Hq.out.step C)
  have ij := Hj.out.isRow; have rj := Hj.out.row; have lj := Hj.out.lt; have nj : ¬ bj = w2.heap.size := Nat.ne_of_lt lj; have mj : ¬ w2.heap.size = bj := fun h => nj h.symm
  have ix := Hx.out.isRow; have rx := Hx.out.row; have lx := Hx.out.lt; have nx : ¬ bx = w2.heap.size := Nat.ne_of_lt lx; have mx : ¬ w2.heap.size = bx := fun h => nx h.symm
  have iq := Hq.out.isRow; have rq := Hq.out.row; have lq := Hq.out.lt; have nq : ¬ bq = w2.heap.size := Nat.ne_of_lt lq; have mq : ¬ w2.heap.size = bq := fun h => nq h.symm
  clear h hb C B0 W
  go_wp2_with (first | (apply ld_row 27 19; (focus rfl); (focus go_simp); (focus (go_simp; rfl)); (focus (exact Tryd.underlying27)); (focus kernel_rfl)) | (apply st_row 27 19; (focus rfl); (focus rfl); (focus go_simp); (focus kernel_rfl); (focus rfl); (focus (first | (simp [Value.oneCell']; done) | (simp [Value.oneCell', Job.cells]; done)))) | (apply ld_row 46 3; (focus rfl); (focus go_simp); (focus (go_simp; rfl)); (focus (exact Tryd.underlying46)); (focus kernel_rfl)) | (apply st_row 46 3; (focus rfl); (focus rfl); (focus go_simp); (focus kernel_rfl); (focus rfl); (focus (first | (simp [Value.oneCell']; done) | (simp [Value.oneCell', Job.cells]; done)))) | fail)
  clear h60 g60
  refine Calls.at_ fun W hW => ?_
  have B0 : Below w2.heap.size w2 W := by rw [hW]; repeat' (first | with_reducible refine Below.alloc ?_ ?_ _ | with_reducible refine Below.setRow_ ?_ ?_ _ | with_reducible refine Below.setCell ?_ ?_ _ | with_reducible refine Below.drew ?_ | with_reducible refine Below.drewN_ ?_ _ | with_reducible exact Below.refl _ _ | assumption | (simp; done) | (simp; omega) | omega)
  clear hW
  refine (push_calls j a f fa W (Now W) (Sub.now W) (HJ.out.step B0) (HF.out.step B0) (by have := PP.out.1; omega)).mono ?_
  rintro e w3 h
  obtain ⟨a1, rfl, hj, hb⟩ := (show RetJ W (Now W) (j.push f) e w3 from h).now
  have C := B0.trans (hb.mono B0.size)
  replace BB := Lib.hid (BB.out.trans (C.mono BB.out.size))
  replace HJ := Lib.hid (HJ.out.step C)
  replace HF := Lib.hid (HF.out.step C)
  replace HG := Lib.hid (HG.out.step C)
  clear ij rj lj nj mj
  replace Hj := Lib.hid (Hj.out.step C)
  clear ix rx lx nx mx
  replace Hx := Lib.hid (Hx.out.step C)
  clear iq rq lq nq mq
  replace Hq := Lib.hid (Hq.out.step C)
  have ij := Hj.out.isRow; have rj := Hj.out.row; have lj := Hj.out.lt; have nj : ¬ bj = w3.heap.size := Nat.ne_of_lt lj; have mj : ¬ w3.heap.size = bj := fun h => nj h.symm
  have ix := Hx.out.isRow; have rx := Hx.out.row; have lx := Hx.out.lt; have nx : ¬ bx = w3.heap.size := Nat.ne_of_lt lx; have mx : ¬ w3.heap.size = bx := fun h => nx h.symm
  have iq := Hq.out.isRow; have rq := Hq.out.row; have lq := Hq.out.lt; have nq : ¬ bq = w3.heap.size := Nat.ne_of_lt lq; have mq : ¬ w3.heap.size = bq := fun h => nq h.symm
  have HA := Lib.hid hj
  clear h hb C B0 W hj
  go_wp2_with (first | (apply ld_row 27 19; (focus rfl); (focus go_simp); (focus (go_simp; rfl)); (focus (exact Tryd.underlying27)); (focus kernel_rfl)) | (apply st_row 27 19; (focus rfl); (focus rfl); (focus go_simp); (focus kernel_rfl); (focus rfl); (focus (first | (simp [Value.oneCell']; done) | (simp [Value.oneCell', Job.cells]; done)))) | (apply ld_row 46 3; (focus rfl); (focus go_simp); (focus (go_simp; rfl)); (focus (exact Tryd.underlying46)); (focus kernel_rfl)) | (apply st_row 46 3; (focus rfl); (focus rfl); (focus go_simp); (focus kernel_rfl); (focus rfl); (focus (first | (simp [Value.oneCell']; done) | (simp [Value.oneCell', Job.cells]; done)))) | fail)
  refine Calls.at_ fun W hW => ?_
  have B0 : Below w3.heap.size w3 W := by rw [hW]; repeat' (first | with_reducible refine Below.alloc ?_ ?_ _ | with_reducible refine Below.setRow_ ?_ ?_ _ | with_reducible refine Below.setCell ?_ ?_ _ | with_reducible refine Below.drew ?_ | with_reducible refine Below.drewN_ ?_ _ | with_reducible exact Below.refl _ _ | assumption | (simp; done) | (simp; omega) | omega)
  have Ya : Box W (w3.heap.size) ((j.push f).cells a1).toArray := ⟨_, by rw [hW]; exact blk_new _ (by first | rfl | simp)⟩
  clear hW
  refine (push_calls j a g ga W (Now W) (Sub.now W) (HJ.out.step B0) (HG.out.step B0) (by have := PP.out.1; omega)).mono ?_
  rintro e w4 h
  obtain ⟨a2, rfl, hj, hb⟩ := (show RetJ W (Now W) (j.push g) e w4 from h).now
  have C := B0.trans (hb.mono B0.size)
  replace BB := Lib.hid (BB.out.trans (C.mono BB.out.size))
  replace HJ := Lib.hid (HJ.out.step C)
  replace HF := Lib.hid (HF.out.step C)
  replace HG := Lib.hid (HG.out.step C)
  replace HA := Lib.hid (HA.out.step C)
  clear ij rj lj nj mj
  replace Hj := Lib.hid (Hj.out.step C)
  clear ix rx lx nx mx
  replace Hx := Lib.hid (Hx.out.step C)
  clear iq rq lq nq mq
  replace Hq := Lib.hid (Hq.out.step C)
  have Ha := Lib.hid (Ya.step hb)
  obtain ⟨ba, hba⟩ : ∃ b, b = w3.heap.size := ⟨_, rfl⟩
  rw [← hba] at Ha ⊢
  clear Ya hba
  have ij := Hj.out.isRow; have rj := Hj.out.row; have lj := Hj.out.lt; have nj : ¬ bj = w4.heap.size := Nat.ne_of_lt lj; have mj : ¬ w4.heap.size = bj := fun h => nj h.symm
  have ix := Hx.out.isRow; have rx := Hx.out.row; have lx := Hx.out.lt; have nx : ¬ bx = w4.heap.size := Nat.ne_of_lt lx; have mx : ¬ w4.heap.size = bx := fun h => nx h.symm
  have iq := Hq.out.isRow; have rq := Hq.out.row; have lq := Hq.out.lt; have nq : ¬ bq = w4.heap.size := Nat.ne_of_lt lq; have mq : ¬ w4.heap.size = bq := fun h => nq h.symm
  have ia := Ha.out.isRow; have ra := Ha.out.row; have la := Ha.out.lt; have na : ¬ ba = w4.heap.size := Nat.ne_of_lt la; have ma : ¬ w4.heap.size = ba := fun h => na h.symm
  have HB := Lib.hid hj
  clear h hb C B0 W hj
  go_wp2_with (first | (apply ld_row 27 19; (focus rfl); (focus go_simp); (focus (go_simp; rfl)); (focus (exact Tryd.underlying27)); (focus kernel_rfl)) | (apply st_row 27 19; (focus rfl); (focus rfl); (focus go_simp); (focus kernel_rfl); (focus rfl); (focus (first | (simp [Value.oneCell']; done) | (simp [Value.oneCell', Job.cells]; done)))) | (apply ld_row 46 3; (focus rfl); (focus go_simp); (focus (go_simp; rfl)); (focus (exact Tryd.underlying46)); (focus kernel_rfl)) | (apply st_row 46 3; (focus rfl); (focus rfl); (focus go_simp); (focus kernel_rfl); (focus rfl); (focus (first | (simp [Value.oneCell']; done) | (simp [Value.oneCell', Job.cells]; done)))) | fail)
  refine Calls.at_ fun W hW => ?_
  have B0 : Below w4.heap.size w4 W := by rw [hW]; repeat' (first | with_reducible refine Below.alloc ?_ ?_ _ | with_reducible refine Below.setRow_ ?_ ?_ _ | with_reducible refine Below.setCell ?_ ?_ _ | with_reducible refine Below.drew ?_ | with_reducible refine Below.drewN_ ?_ _ | with_reducible exact Below.refl _ _ | assumption | (simp; done) | (simp; omega) | omega)
  have Yb : Box W (w4.heap.size) ((j.push g).cells a2).toArray := ⟨_, by rw [hW]; exact blk_new _ (by first | rfl | simp)⟩
  clear hW
  refine (top_calls (j.push f) a1 W (Now W) (Sub.now W) (HA.out.step B0) (by have := PP.out; omega) (by have := PP.out; omega)).mono ?_
  rintro e w5 h
  rw [push_top] at h
  obtain ⟨s1, rfl, hj, hb⟩ := (show RetF W (Now W) f true e w5 from h).now
  have C := B0.trans (hb.mono B0.size)
  replace BB := Lib.hid (BB.out.trans (C.mono BB.out.size))
  replace HJ := Lib.hid (HJ.out.step C)
  replace HF := Lib.hid (HF.out.step C)
  replace HG := Lib.hid (HG.out.step C)
  replace HA := Lib.hid (HA.out.step C)
  replace HB := Lib.hid (HB.out.step C)
  clear ij rj lj nj mj
  replace Hj := Lib.hid (Hj.out.step C)
  clear ix rx lx nx mx
  replace Hx := Lib.hid (Hx.out.step C)
  clear iq rq lq nq mq
  replace Hq := Lib.hid (Hq.out.step C)
  clear ia ra la na ma
  replace Ha := Lib.hid (Ha.out.step C)
  have Hb := Lib.hid (Yb.step hb)
  obtain ⟨bb, hbb⟩ : ∃ b, b = w4.heap.size := ⟨_, rfl⟩
  rw [← hbb] at Hb ⊢
  clear Yb hbb
  have ij := Hj.out.isRow; have rj := Hj.out.row; have lj := Hj.out.lt; have nj : ¬ bj = w5.heap.size := Nat.ne_of_lt lj; have mj : ¬ w5.heap.size = bj := fun h => nj h.symm
  have ix := Hx.out.isRow; have rx := Hx.out.row; have lx := Hx.out.lt; have nx : ¬ bx = w5.heap.size := Nat.ne_of_lt lx; have mx : ¬ w5.heap.size = bx := fun h => nx h.symm
  have iq := Hq.out.isRow; have rq := Hq.out.row; have lq := Hq.out.lt; have nq : ¬ bq = w5.heap.size := Nat.ne_of_lt lq; have mq : ¬ w5.heap.size = bq := fun h => nq h.symm
  have ia := Ha.out.isRow; have ra := Ha.out.row; have la := Ha.out.lt; have na : ¬ ba = w5.heap.size := Nat.ne_of_lt la; have ma : ¬ w5.heap.size = ba := fun h => na h.symm
  have ib := Hb.out.isRow; have rb := Hb.out.row; have lb := Hb.out.lt; have nb : ¬ bb = w5.heap.size := Nat.ne_of_lt lb; have mb : ¬ w5.heap.size = bb := fun h => nb h.symm
  clear h hb C B0 W hj
  go_wp2_with (first | (apply ld_row 27 19; (focus rfl); (focus go_simp); (focus (go_simp; rfl)); (focus (exact Tryd.underlying27)); (focus kernel_rfl)) | (apply st_row 27 19; (focus rfl); (focus rfl); (focus go_simp); (focus kernel_rfl); (focus rfl); (focus (first | (simp [Value.oneCell']; done) | (simp [Value.oneCell', Job.cells]; done)))) | (apply ld_row 46 3; (focus rfl); (focus go_simp); (focus (go_simp; rfl)); (focus (exact Tryd.underlying46)); (focus kernel_rfl)) | (apply st_row 46 3; (focus rfl); (focus rfl); (focus go_simp); (focus kernel_rfl); (focus rfl); (focus (first | (simp [Value.oneCell']; done) | (simp [Value.oneCell', Job.cells]; done)))) | fail)
  refine Calls.at_ fun W hW => ?_
  have B0 : Below w5.heap.size w5 W := by rw [hW]; repeat' (first | with_reducible refine Below.alloc ?_ ?_ _ | with_reducible refine Below.setRow_ ?_ ?_ _ | with_reducible refine Below.setCell ?_ ?_ _ | with_reducible refine Below.drew ?_ | with_reducible refine Below.drewN_ ?_ _ | with_reducible exact Below.refl _ _ | assumption | (simp; done) | (simp; omega) | omega)
  have Yt : Box W (w5.heap.size) #[.int .i64 f.fd, .string f.name, .slice s1.a f.names.length s1.c] := ⟨_, by rw [hW]; exact blk_new _ (by first | rfl | simp)⟩
  clear hW
  refine (top_calls (j.push g) a2 W (Now W) (Sub.now W) (HB.out.step B0) (by have := PP.out; omega) (by have := PP.out; omega)).mono ?_
  rintro e w6 h
  rw [push_top] at h
  obtain ⟨s2, rfl, hj, hb⟩ := (show RetF W (Now W) g true e w6 from h).now
  have C := B0.trans (hb.mono B0.size)
  replace BB := Lib.hid (BB.out.trans (C.mono BB.out.size))
  replace HJ := Lib.hid (HJ.out.step C)
  replace HF := Lib.hid (HF.out.step C)
  replace HG := Lib.hid (HG.out.step C)
  replace HA := Lib.hid (HA.out.step C)
  replace HB := Lib.hid (HB.out.step C)
  clear ij rj lj nj mj
  replace Hj := Lib.hid (Hj.out.step C)
  clear ix rx lx nx mx
  replace Hx := Lib.hid (Hx.out.step C)
  clear iq rq lq nq mq
  replace Hq := Lib.hid (Hq.out.step C)
  clear ia ra la na ma
  replace Ha := Lib.hid (Ha.out.step C)
  clear ib rb lb nb mb
  replace Hb := Lib.hid (Hb.out.step C)
  have Ht := Lib.hid (Yt.step hb)
  obtain ⟨bt, hbt⟩ : ∃ b, b = w5.heap.size := ⟨_, rfl⟩
  rw [← hbt] at Ht ⊢
  clear Yt hbt
  have ij := Hj.out.isRow; have rj := Hj.out.row; have lj := Hj.out.lt; have nj : ¬ bj = w6.heap.size := Nat.ne_of_lt lj; have mj : ¬ w6.heap.size = bj := fun h => nj h.symm
  have ix := Hx.out.isRow; have rx := Hx.out.row; have lx := Hx.out.lt; have nx : ¬ bx = w6.heap.size := Nat.ne_of_lt lx; have mx : ¬ w6.heap.size = bx := fun h => nx h.symm
  have iq := Hq.out.isRow; have rq := Hq.out.row; have lq := Hq.out.lt; have nq : ¬ bq = w6.heap.size := Nat.ne_of_lt lq; have mq : ¬ w6.heap.size = bq := fun h => nq h.symm
  have ia := Ha.out.isRow; have ra := Ha.out.row; have la := Ha.out.lt; have na : ¬ ba = w6.heap.size := Nat.ne_of_lt la; have ma : ¬ w6.heap.size = ba := fun h => na h.symm
  have ib := Hb.out.isRow; have rb := Hb.out.row; have lb := Hb.out.lt; have nb : ¬ bb = w6.heap.size := Nat.ne_of_lt lb; have mb : ¬ w6.heap.size = bb := fun h => nb h.symm
  have it := Ht.out.isRow; have rt := Ht.out.row; have lt := Ht.out.lt; have nt : ¬ bt = w6.heap.size := Nat.ne_of_lt lt; have mt : ¬ w6.heap.size = bt := fun h => nt h.symm
  clear h hb C B0 W hj
  go_wp2_with (first | (apply ld_row 27 19; (focus rfl); (focus go_simp); (focus (go_simp; rfl)); (focus (exact Tryd.underlying27)); (focus kernel_rfl)) | (apply st_row 27 19; (focus rfl); (focus rfl); (focus go_simp); (focus kernel_rfl); (focus rfl); (focus (first | (simp [Value.oneCell']; done) | (simp [Value.oneCell', Job.cells]; done)))) | (apply ld_row 46 3; (focus rfl); (focus go_simp); (focus (go_simp; rfl)); (focus (exact Tryd.underlying46)); (focus kernel_rfl)) | (apply st_row 46 3; (focus rfl); (focus rfl); (focus go_simp); (focus kernel_rfl); (focus rfl); (focus (first | (simp [Value.oneCell']; done) | (simp [Value.oneCell', Job.cells]; done)))) | fail)
  refine Code.at_ fun v7 hW => ?_
  have B0 : Below w6.heap.size w6 v7 := by rw [hW]; repeat' (first | with_reducible refine Below.alloc ?_ ?_ _ | with_reducible refine Below.setRow_ ?_ ?_ _ | with_reducible refine Below.setCell ?_ ?_ _ | with_reducible refine Below.drew ?_ | with_reducible refine Below.drewN_ ?_ _ | with_reducible exact Below.refl _ _ | assumption | (simp; done) | (simp; omega) | omega)
  have Hu := Lib.hid (show Box v7 (w6.heap.size) #[.int .i64 g.fd, .string g.name, .slice s2.a g.names.length s2.c] from ⟨_, by rw [hW]; (try rw [setRow_alloc, if_pos rfl]); exact blk_new _ (by first | rfl | simp)⟩)
  clear hW
  have C := B0
  replace BB := Lib.hid (BB.out.trans (C.mono BB.out.size))
  replace HJ := Lib.hid (HJ.out.step C)
  replace HF := Lib.hid (HF.out.step C)
  replace HG := Lib.hid (HG.out.step C)
  replace HA := Lib.hid (HA.out.step C)
  replace HB := Lib.hid (HB.out.step C)
  clear ij rj lj nj mj
  replace Hj := Lib.hid (Hj.out.step C)
  clear ix rx lx nx mx
  replace Hx := Lib.hid (Hx.out.step C)
  clear iq rq lq nq mq
  replace Hq := Lib.hid (Hq.out.step C)
  clear ia ra la na ma
  replace Ha := Lib.hid (Ha.out.step C)
  clear ib rb lb nb mb
  replace Hb := Lib.hid (Hb.out.step C)
  clear it rt lt nt mt
  replace Ht := Lib.hid (Ht.out.step C)
  obtain ⟨bu, hbu⟩ : ∃ b, b = w6.heap.size := ⟨_, rfl⟩
  rw [← hbu] at Hu ⊢
  clear hbu
  clear C B0
  have D0 : Below v7.heap.size v7 v7.drew := (Below.refl _ _).drew
  have S0 : (isRow v7.drew ba = true ∧ isRow v7.drew bq = true) ∧ row v7.drew ba = ((j.push f).cells a1).toArray ∧ row v7.drew bq = #[.int .i64 g.fd, .string g.name, .slice ga.a g.names.length ga.c] := ⟨⟨Ha.out.isRow, Hq.out.isRow⟩, Ha.out.row, Hq.out.row⟩
  replace D0 := Lib.hid D0
  refine reg0 11 (fun w' => (isRow w' ba = true ∧ isRow w' bq = true) ∧ row w' ba = ((j.push f).cells a1).toArray ∧ row w' bq = #[.int .i64 g.fd, .string g.name, .slice ga.a g.names.length ga.c]) (by kernel_rfl) (by kernel_rfl) (by kernel_rfl) ?_ (fun l hg hHeld => ?_)
  · (try dsimp only); exact S0
  (apply tkT 0 1 hg; (focus rfl); (focus rfl); (focus kernel_rfl); (focus (intro w0 hSw; (try dsimp only at hSw); go_simp; try (with_reducible rfl))); (focus assumption))
  try simp only [Act.put, List.setIfInBounds_toArray, List.set_cons_zero, List.set_cons_succ]
  (apply tkT 2 5 hg; (focus rfl); (focus rfl); (focus kernel_rfl); (focus (intro w0 hSw; (try dsimp only at hSw); go_simp; try (with_reducible rfl))); (focus assumption))
  try simp only [Act.put, List.setIfInBounds_toArray, List.set_cons_zero, List.set_cons_succ]
  refine act2 1 8 7 261 hg rfl rfl (by rfl) (by rfl) (by kernel_rfl) ?_ ?_
  · intro K hK
    go_simp
    refine (pop_calls (j.push f) a1 _ (Now _) (Sub.now _) (HA.out.step D0.out) (by have := PP.out; omega)).mono ?_
    rintro e u8_1 h
    obtain ⟨x1, rfl, hj, hb⟩ := (show RetJ _ (Now _) j e u8_1 from by have h2 : RetJ _ (Now _) (j.push f).pop e u8_1 := h; rw [pop_push] at h2; exact h2).now
    replace D0 := Lib.hid (D0.out.trans (hb.mono D0.out.size))
    replace S0 := keep2 hb S0
    have HX := Lib.hid hj
    clear hb h hj
    refine hK.out _ _ ?_ (fun hHeld => ?_)
    · (try dsimp only); exact S0
    clear hK K
    try simp only [Act.put, List.setIfInBounds_toArray, List.set_cons_zero, List.set_cons_succ]
    refine act2 3 8 15 263 hg rfl rfl (by rfl) (by rfl) (by kernel_rfl) ?_ ?_
    · intro K hK
      go_simp
      refine (push_calls j x1 g ga _ (Now _) (Sub.now _) HX.out (HG.out.step D0.out) (by have := PP.out.1; omega)).mono ?_
      rintro e u8_2 h
      obtain ⟨x2, rfl, hj, hb⟩ := (show RetJ _ (Now _) (j.push g) e u8_2 from h).now
      replace D0 := Lib.hid (D0.out.trans (hb.mono D0.out.size))
      replace S0 := keep2 hb S0
      clear HX
      have HX2 := Lib.hid hj
      clear hb h hj
      refine hK.out _ _ ?_ (fun hHeld => ?_)
      · (try dsimp only); exact S0
      clear hK K
      try simp only [Act.put, List.setIfInBounds_toArray, List.set_cons_zero, List.set_cons_succ]
      refine act2 4 8 31 271 hg rfl rfl (by rfl) (by rfl) (by kernel_rfl) ?_ ?_
      · intro K hK
        go_simp
        refine (top_calls (j.push g) x2 _ (Now _) (Sub.now _) HX2.out (by have := PP.out; omega) (by have := PP.out; omega)).mono ?_
        rintro e u8_3 h
        rw [push_top] at h
        obtain ⟨s3, rfl, hj, hb⟩ := (show RetF _ (Now _) g true e u8_3 from h).now
        clear hj
        replace D0 := Lib.hid (D0.out.trans (hb.mono D0.out.size))
        replace S0 := keep2 hb S0
        clear HX2
        clear hb h
        refine hK.out _ _ ?_ (fun hHeld => ?_)
        · (try dsimp only); exact S0
        clear hK K
        try simp only [Act.put, List.setIfInBounds_toArray, List.set_cons_zero, List.set_cons_succ]
        (apply tkT 5 63 hg; (focus rfl); (focus rfl); (focus kernel_rfl); (focus (intro w0 hSw; (try dsimp only at hSw); go_simp; try (with_reducible rfl))); (focus assumption))
        try simp only [Act.put, List.setIfInBounds_toArray, List.set_cons_zero, List.set_cons_succ]
        (apply tkT 6 127 hg; (focus rfl); (focus rfl); (focus kernel_rfl); (focus (intro w0 hSw; (try dsimp only at hSw); go_simp; try (with_reducible rfl))); (focus assumption))
        try simp only [Act.put, List.setIfInBounds_toArray, List.set_cons_zero, List.set_cons_succ]
        (apply tkT 7 255 hg; (focus rfl); (focus rfl); (focus kernel_rfl); (focus (intro w0 hSw; (try dsimp only at hSw); go_simp; try (with_reducible rfl))); (focus assumption))
        try simp only [Act.put, List.setIfInBounds_toArray, List.set_cons_zero, List.set_cons_succ]
        (apply act1 8 511 hg; (focus rfl); (focus rfl); (focus kernel_rfl))
        intro K hK
        go_simp
        refine K_at (K := K) fun u8_4 hW => ?_
        have hb : Below u8_3.heap.size u8_3 u8_4 := by rw [hW]; exact (Below.refl _ _).alloc (Nat.le_refl _) _
        have Y : Box u8_4 u8_3.heap.size #[.int .i64 0, .string ⟨#[]⟩, .slice none 0 0] := ⟨_, by rw [hW]; exact blk_new _ rfl⟩
        obtain ⟨bm, hbx⟩ : ∃ b, b = u8_3.heap.size := ⟨_, rfl⟩
        try simp only [drew_size] at hbx Y
        rw [← hbx] at Y ⊢
        have hbl : v7.heap.size ≤ bm := by rw [hbx]; exact D0.out.size
        have Hm := Lib.hid Y
        clear hW Y hbx
        replace D0 := Lib.hid (D0.out.trans (hb.mono D0.out.size))
        replace S0 := keep2 hb S0
        clear hb
        refine hK.out _ _ ?_ (fun hHeld => ?_)
        · (try dsimp only); exact S0
        clear hK K
        try simp only [Act.put, List.setIfInBounds_toArray, List.set_cons_zero, List.set_cons_succ]
        (apply act1 9 1023 hg; (focus rfl); (focus rfl); (focus kernel_rfl))
        intro K hK
        have i_ := Hm.out.isRow; have r_ := Hm.out.row
        (apply wp_st_row 46 3; (focus rfl); (focus rfl); (focus go_simp); (focus kernel_rfl); (focus rfl); (focus (first | (simp [Value.oneCell']; done) | (simp [Value.oneCell', Job.cells]; done))))
        refine K_at (K := K) fun u8_5 hW => ?_
        have hb : Below bm u8_4 u8_5 := by rw [hW]; exact Below.setRow_ (Below.refl _ _) (Nat.le_refl _) _
        have Y : Box u8_5 bm #[.int .i64 g.fd, .string g.name, .slice s3.a g.names.length s3.c] := by obtain ⟨t, h⟩ := Hm.out; exact ⟨t, by rw [hW]; exact blk_row h⟩
        clear hW i_ r_
        replace D0 := Lib.hid (D0.out.trans (hb.mono hbl))
        have S1 : (isRow u8_5 ba = true ∧ isRow u8_5 bq = true) ∧ row u8_5 ba = ((j.push f).cells a1).toArray ∧ row u8_5 bq = #[.int .i64 g.fd, .string g.name, .slice ga.a g.names.length ga.c] := keep2 D0.out (⟨⟨Ha.out.isRow, Hq.out.isRow⟩, Ha.out.row, Hq.out.row⟩)
        clear S0
        have S0 := S1
        clear S1
        replace Hm := Lib.hid Y
        clear hb Y hbl
        refine hK.out _ _ ?_ (fun hHeld => ?_)
        · (try dsimp only); exact S0
        clear hK K
        try simp only [Act.put, List.setIfInBounds_toArray, List.set_cons_zero, List.set_cons_succ]
        (apply tkT 10 2047 hg; (focus rfl); (focus rfl); (focus kernel_rfl); (focus (intro w0 hSw; (try dsimp only at hSw); go_simp; try (with_reducible rfl))); (focus assumption))
        try simp only [Act.put, List.setIfInBounds_toArray, List.set_cons_zero, List.set_cons_succ]
        refine actE hg (by kernel_rfl) ?_
        have C := D0.out
        replace BB := Lib.hid (BB.out.trans (C.mono BB.out.size))
        replace Hj := Lib.hid (Hj.out.step C)
        replace Hx := Lib.hid (Hx.out.step C)
        replace Hq := Lib.hid (Hq.out.step C)
        replace Ha := Lib.hid (Ha.out.step C)
        replace Hb := Lib.hid (Hb.out.step C)
        replace Ht := Lib.hid (Ht.out.step C)
        replace Hu := Lib.hid (Hu.out.step C)
        replace HJ := Lib.hid (HJ.out.step C)
        replace HF := Lib.hid (HF.out.step C)
        replace HG := Lib.hid (HG.out.step C)
        replace HA := Lib.hid (HA.out.step C)
        replace HB := Lib.hid (HB.out.step C)
        clear C D0 S0
        have ij := Hj.out.isRow; have rj := Hj.out.row; have lj := Hj.out.lt; have nj : ¬ bj = u8_5.heap.size := Nat.ne_of_lt lj; have mj : ¬ u8_5.heap.size = bj := fun h => nj h.symm
        have ix := Hx.out.isRow; have rx := Hx.out.row; have lx := Hx.out.lt; have nx : ¬ bx = u8_5.heap.size := Nat.ne_of_lt lx; have mx : ¬ u8_5.heap.size = bx := fun h => nx h.symm
        have iq := Hq.out.isRow; have rq := Hq.out.row; have lq := Hq.out.lt; have nq : ¬ bq = u8_5.heap.size := Nat.ne_of_lt lq; have mq : ¬ u8_5.heap.size = bq := fun h => nq h.symm
        have ia := Ha.out.isRow; have ra := Ha.out.row; have la := Ha.out.lt; have na : ¬ ba = u8_5.heap.size := Nat.ne_of_lt la; have ma : ¬ u8_5.heap.size = ba := fun h => na h.symm
        have ib := Hb.out.isRow; have rb := Hb.out.row; have lb := Hb.out.lt; have nb : ¬ bb = u8_5.heap.size := Nat.ne_of_lt lb; have mb : ¬ u8_5.heap.size = bb := fun h => nb h.symm
        have it := Ht.out.isRow; have rt := Ht.out.row; have lt := Ht.out.lt; have nt : ¬ bt = u8_5.heap.size := Nat.ne_of_lt lt; have mt : ¬ u8_5.heap.size = bt := fun h => nt h.symm
        have iu := Hu.out.isRow; have ru := Hu.out.row; have lu := Hu.out.lt; have nu : ¬ bu = u8_5.heap.size := Nat.ne_of_lt lu; have mu : ¬ u8_5.heap.size = bu := fun h => nu h.symm
        have im := Hm.out.isRow; have rm := Hm.out.row; have lm := Hm.out.lt; have nm : ¬ bm = u8_5.heap.size := Nat.ne_of_lt lm; have mm : ¬ u8_5.heap.size = bm := fun h => nm h.symm
        go_wp2_with (first | (apply ld_row 27 19; (focus rfl); (focus go_simp); (focus (go_simp; rfl)); (focus (exact Tryd.underlying27)); (focus kernel_rfl)) | (apply st_row 27 19; (focus rfl); (focus rfl); (focus go_simp); (focus kernel_rfl); (focus rfl); (focus (first | (simp [Value.oneCell']; done) | (simp [Value.oneCell', Job.cells]; done)))) | (apply ld_row 46 3; (focus rfl); (focus go_simp); (focus (go_simp; rfl)); (focus (exact Tryd.underlying46)); (focus kernel_rfl)) | (apply st_row 46 3; (focus rfl); (focus rfl); (focus go_simp); (focus kernel_rfl); (focus rfl); (focus (first | (simp [Value.oneCell']; done) | (simp [Value.oneCell', Job.cells]; done)))) | fail)
        refine Calls.at_ fun W hW => ?_
        have B0 : Below u8_5.heap.size u8_5 W := by rw [hW]; repeat' (first | with_reducible refine Below.alloc ?_ ?_ _ | with_reducible refine Below.setRow_ ?_ ?_ _ | with_reducible refine Below.setCell ?_ ?_ _ | with_reducible refine Below.drew ?_ | with_reducible refine Below.drewN_ ?_ _ | with_reducible exact Below.refl _ _ | assumption | (simp; done) | (simp; omega) | omega)
        clear hW
        refine (top_calls (j.push f) a1 W (Now W) (Sub.now W) (HA.out.step B0) (by have := PP.out; omega) (by have := PP.out; omega)).mono ?_
        rintro e w9 h
        rw [push_top] at h
        obtain ⟨s4, rfl, hj, hb⟩ := (show RetF W (Now W) f true e w9 from h).now
        have C := B0.trans (hb.mono B0.size)
        replace BB := Lib.hid (BB.out.trans (C.mono BB.out.size))
        replace HJ := Lib.hid (HJ.out.step C)
        replace HF := Lib.hid (HF.out.step C)
        replace HG := Lib.hid (HG.out.step C)
        replace HA := Lib.hid (HA.out.step C)
        replace HB := Lib.hid (HB.out.step C)
        clear ij rj lj nj mj
        replace Hj := Lib.hid (Hj.out.step C)
        clear ix rx lx nx mx
        replace Hx := Lib.hid (Hx.out.step C)
        clear iq rq lq nq mq
        replace Hq := Lib.hid (Hq.out.step C)
        clear ia ra la na ma
        replace Ha := Lib.hid (Ha.out.step C)
        clear ib rb lb nb mb
        replace Hb := Lib.hid (Hb.out.step C)
        clear it rt lt nt mt
        replace Ht := Lib.hid (Ht.out.step C)
        clear iu ru lu nu mu
        replace Hu := Lib.hid (Hu.out.step C)
        clear im rm lm nm mm
        replace Hm := Lib.hid (Hm.out.step C)
        have ij := Hj.out.isRow; have rj := Hj.out.row; have lj := Hj.out.lt; have nj : ¬ bj = w9.heap.size := Nat.ne_of_lt lj; have mj : ¬ w9.heap.size = bj := fun h => nj h.symm
        have ix := Hx.out.isRow; have rx := Hx.out.row; have lx := Hx.out.lt; have nx : ¬ bx = w9.heap.size := Nat.ne_of_lt lx; have mx : ¬ w9.heap.size = bx := fun h => nx h.symm
        have iq := Hq.out.isRow; have rq := Hq.out.row; have lq := Hq.out.lt; have nq : ¬ bq = w9.heap.size := Nat.ne_of_lt lq; have mq : ¬ w9.heap.size = bq := fun h => nq h.symm
        have ia := Ha.out.isRow; have ra := Ha.out.row; have la := Ha.out.lt; have na : ¬ ba = w9.heap.size := Nat.ne_of_lt la; have ma : ¬ w9.heap.size = ba := fun h => na h.symm
        have ib := Hb.out.isRow; have rb := Hb.out.row; have lb := Hb.out.lt; have nb : ¬ bb = w9.heap.size := Nat.ne_of_lt lb; have mb : ¬ w9.heap.size = bb := fun h => nb h.symm
        have it := Ht.out.isRow; have rt := Ht.out.row; have lt := Ht.out.lt; have nt : ¬ bt = w9.heap.size := Nat.ne_of_lt lt; have mt : ¬ w9.heap.size = bt := fun h => nt h.symm
        have iu := Hu.out.isRow; have ru := Hu.out.row; have lu := Hu.out.lt; have nu : ¬ bu = w9.heap.size := Nat.ne_of_lt lu; have mu : ¬ w9.heap.size = bu := fun h => nu h.symm
        have im := Hm.out.isRow; have rm := Hm.out.row; have lm := Hm.out.lt; have nm : ¬ bm = w9.heap.size := Nat.ne_of_lt lm; have mm : ¬ w9.heap.size = bm := fun h => nm h.symm
        clear h hb C B0 W hj
        go_wp2_with (first | (apply ld_row 27 19; (focus rfl); (focus go_simp); (focus (go_simp; rfl)); (focus (exact Tryd.underlying27)); (focus kernel_rfl)) | (apply st_row 27 19; (focus rfl); (focus rfl); (focus go_simp); (focus kernel_rfl); (focus rfl); (focus (first | (simp [Value.oneCell']; done) | (simp [Value.oneCell', Job.cells]; done)))) | (apply ld_row 46 3; (focus rfl); (focus go_simp); (focus (go_simp; rfl)); (focus (exact Tryd.underlying46)); (focus kernel_rfl)) | (apply st_row 46 3; (focus rfl); (focus rfl); (focus go_simp); (focus kernel_rfl); (focus rfl); (focus (first | (simp [Value.oneCell']; done) | (simp [Value.oneCell', Job.cells]; done)))) | fail)
        refine Code.at_ fun v10 hW => ?_
        have B0 : Below w9.heap.size w9 v10 := by rw [hW]; repeat' (first | with_reducible refine Below.alloc ?_ ?_ _ | with_reducible refine Below.setRow_ ?_ ?_ _ | with_reducible refine Below.setCell ?_ ?_ _ | with_reducible refine Below.drew ?_ | with_reducible refine Below.drewN_ ?_ _ | with_reducible exact Below.refl _ _ | assumption | (simp; done) | (simp; omega) | omega)
        have Hl := Lib.hid (show Box v10 (w9.heap.size) #[.int .i64 f.fd, .string f.name, .slice s4.a f.names.length s4.c] from ⟨_, by rw [hW]; (try rw [setRow_alloc, if_pos rfl]); exact blk_new _ (by first | rfl | simp)⟩)
        clear hW
        have C := B0
        replace BB := Lib.hid (BB.out.trans (C.mono BB.out.size))
        replace HJ := Lib.hid (HJ.out.step C)
        replace HF := Lib.hid (HF.out.step C)
        replace HG := Lib.hid (HG.out.step C)
        replace HA := Lib.hid (HA.out.step C)
        replace HB := Lib.hid (HB.out.step C)
        clear ij rj lj nj mj
        replace Hj := Lib.hid (Hj.out.step C)
        clear ix rx lx nx mx
        replace Hx := Lib.hid (Hx.out.step C)
        clear iq rq lq nq mq
        replace Hq := Lib.hid (Hq.out.step C)
        clear ia ra la na ma
        replace Ha := Lib.hid (Ha.out.step C)
        clear ib rb lb nb mb
        replace Hb := Lib.hid (Hb.out.step C)
        clear it rt lt nt mt
        replace Ht := Lib.hid (Ht.out.step C)
        clear iu ru lu nu mu
        replace Hu := Lib.hid (Hu.out.step C)
        clear im rm lm nm mm
        replace Hm := Lib.hid (Hm.out.step C)
        obtain ⟨bl, hbl⟩ : ∃ b, b = w9.heap.size := ⟨_, rfl⟩
        rw [← hbl] at Hl ⊢
        clear hbl
        clear C B0
        have hc := cells_eq
        have q1 : ((j.push f).stack.length : Int) = (j.stack.length : Int) + 1 := by rw [push_len]; simp
        have hw : IntKind.i64.wrap ((j.stack.length : Int) + 1) = (j.stack.length : Int) + 1 := by have := PP.out.1; rw [IntKind.wrap_i64] <;> omega
        try dsimp only [List.append]
        have S0 : (isRow v10 bj = true ∧ isRow v10 bx = true ∧ isRow v10 bq = true ∧ isRow v10 ba = true ∧ isRow v10 bt = true ∧ isRow v10 bu = true ∧ isRow v10 bm = true ∧ isRow v10 bl = true) ∧ row v10 bj = (j.cells a).toArray ∧ row v10 bx = #[.int .i64 f.fd, .string f.name, .slice fa.a f.names.length fa.c] ∧ row v10 bq = #[.int .i64 g.fd, .string g.name, .slice ga.a g.names.length ga.c] ∧ row v10 ba = ((j.push f).cells a1).toArray ∧ row v10 bt = #[.int .i64 f.fd, .string f.name, .slice s1.a f.names.length s1.c] ∧ row v10 bu = #[.int .i64 g.fd, .string g.name, .slice s2.a g.names.length s2.c] ∧ row v10 bm = #[.int .i64 g.fd, .string g.name, .slice s3.a g.names.length s3.c] ∧ row v10 bl = #[.int .i64 f.fd, .string f.name, .slice s4.a f.names.length s4.c] := ⟨⟨Hj.out.isRow, Hx.out.isRow, Hq.out.isRow, Ha.out.isRow, Ht.out.isRow, Hu.out.isRow, Hm.out.isRow, Hl.out.isRow⟩, Hj.out.row, Hx.out.row, Hq.out.row, Ha.out.row, Ht.out.row, Hu.out.row, Hm.out.row, Hl.out.row⟩
        refine reg0 62 (fun w' => (isRow w' bj = true ∧ isRow w' bx = true ∧ isRow w' bq = true ∧ isRow w' ba = true ∧ isRow w' bt = true ∧ isRow w' bu = true ∧ isRow w' bm = true ∧ isRow w' bl = true) ∧ row w' bj = (j.cells a).toArray ∧ row w' bx = #[.int .i64 f.fd, .string f.name, .slice fa.a f.names.length fa.c] ∧ row w' bq = #[.int .i64 g.fd, .string g.name, .slice ga.a g.names.length ga.c] ∧ row w' ba = ((j.push f).cells a1).toArray ∧ row w' bt = #[.int .i64 f.fd, .string f.name, .slice s1.a f.names.length s1.c] ∧ row w' bu = #[.int .i64 g.fd, .string g.name, .slice s2.a g.names.length s2.c] ∧ row w' bm = #[.int .i64 g.fd, .string g.name, .slice s3.a g.names.length s3.c] ∧ row w' bl = #[.int .i64 f.fd, .string f.name, .slice s4.a f.names.length s4.c]) (by kernel_rfl) (by kernel_rfl) (by kernel_rfl) ?_ (fun l hg hHeld => ?_)
        · (try dsimp only); (first | exact S2 | exact S1 | exact S0)
        (apply tkT 0 1 hg; (focus rfl); (focus rfl); (focus kernel_rfl); (focus (intro w0 hSw; (try dsimp only at hSw); go_simp; try (with_reducible rfl))); (focus assumption))
        try simp only [Act.put, List.setIfInBounds_toArray, List.set_cons_zero, List.set_cons_succ]
        (apply tkT 1 3 hg; (focus rfl); (focus rfl); (focus kernel_rfl); (focus (intro w0 hSw; (try dsimp only at hSw); go_simp; try (with_reducible rfl))); (focus assumption))
        try simp only [Act.put, List.setIfInBounds_toArray, List.set_cons_zero, List.set_cons_succ]
        (first | (apply tkT 2 7 hg; (focus rfl); (focus rfl); (focus kernel_rfl); (focus (intro w0 hSw; (try dsimp only at hSw); go_simp; try (with_reducible rfl))); (focus assumption)) | (apply tkF 2 7 hg; (focus rfl); (focus rfl); (focus kernel_rfl); (focus assumption)))
        try simp only [Act.put, List.setIfInBounds_toArray, List.set_cons_zero, List.set_cons_succ]
        (apply tkT 3 15 hg; (focus rfl); (focus rfl); (focus kernel_rfl); (focus (intro w0 hSw; (try dsimp only at hSw); go_simp; try (with_reducible rfl))); (focus assumption))
        try simp only [Act.put, List.setIfInBounds_toArray, List.set_cons_zero, List.set_cons_succ]
        (apply tkT 4 31 hg; (focus rfl); (focus rfl); (focus kernel_rfl); (focus (intro w0 hSw; (try dsimp only at hSw); go_simp; try (with_reducible rfl))); (focus assumption))
        try simp only [Act.put, List.setIfInBounds_toArray, List.set_cons_zero, List.set_cons_succ]
        (first | (apply tkT 5 63 hg; (focus rfl); (focus rfl); (focus kernel_rfl); (focus (intro w0 hSw; (try dsimp only at hSw); go_simp; try (with_reducible rfl))); (focus assumption)) | (apply tkF 5 63 hg; (focus rfl); (focus rfl); (focus kernel_rfl); (focus assumption)))
        try simp only [Act.put, List.setIfInBounds_toArray, List.set_cons_zero, List.set_cons_succ]
        (apply tkT 6 127 hg; (focus rfl); (focus rfl); (focus kernel_rfl); (focus (intro w0 hSw; (try dsimp only at hSw); go_simp; try (with_reducible rfl))); (focus assumption))
        try simp only [Act.put, List.setIfInBounds_toArray, List.set_cons_zero, List.set_cons_succ]
        (apply tkT 7 255 hg; (focus rfl); (focus rfl); (focus kernel_rfl); (focus (intro w0 hSw; (try dsimp only at hSw); go_simp; try (with_reducible rfl))); (focus assumption))
        try simp only [Act.put, List.setIfInBounds_toArray, List.set_cons_zero, List.set_cons_succ]
        (first | (apply tkT 8 511 hg; (focus rfl); (focus rfl); (focus kernel_rfl); (focus (intro w0 hSw; (try dsimp only at hSw); go_simp; try (with_reducible rfl))); (focus assumption)) | (apply tkF 8 511 hg; (focus rfl); (focus rfl); (focus kernel_rfl); (focus assumption)))
        try simp only [Act.put, List.setIfInBounds_toArray, List.set_cons_zero, List.set_cons_succ]
        (apply tkT 9 1023 hg; (focus rfl); (focus rfl); (focus kernel_rfl); (focus (intro w0 hSw; (try dsimp only at hSw); go_simp; try (with_reducible rfl))); (focus assumption))
        try simp only [Act.put, List.setIfInBounds_toArray, List.set_cons_zero, List.set_cons_succ]
        (apply tkT 10 2047 hg; (focus rfl); (focus rfl); (focus kernel_rfl); (focus (intro w0 hSw; (try dsimp only at hSw); go_simp; try (with_reducible rfl))); (focus assumption))
        try simp only [Act.put, List.setIfInBounds_toArray, List.set_cons_zero, List.set_cons_succ]
        (first | (apply tkT 11 4095 hg; (focus rfl); (focus rfl); (focus kernel_rfl); (focus (intro w0 hSw; (try dsimp only at hSw); go_simp; try (with_reducible rfl))); (focus assumption)) | (apply tkF 11 4095 hg; (focus rfl); (focus rfl); (focus kernel_rfl); (focus assumption)))
        try simp only [Act.put, List.setIfInBounds_toArray, List.set_cons_zero, List.set_cons_succ]
        (first | (apply tkT 12 8191 hg; (focus rfl); (focus rfl); (focus kernel_rfl); (focus (intro w0 hSw; (try dsimp only at hSw); go_simp; try (with_reducible rfl))); (focus assumption)) | (apply tkF 12 8191 hg; (focus rfl); (focus rfl); (focus kernel_rfl); (focus assumption)))
        try simp only [Act.put, List.setIfInBounds_toArray, List.set_cons_zero, List.set_cons_succ]
        (first | (apply tkT 13 16383 hg; (focus rfl); (focus rfl); (focus kernel_rfl); (focus (intro w0 hSw; (try dsimp only at hSw); go_simp; try (with_reducible rfl))); (focus assumption)) | (apply tkF 13 16383 hg; (focus rfl); (focus rfl); (focus kernel_rfl); (focus assumption)))
        try simp only [Act.put, List.setIfInBounds_toArray, List.set_cons_zero, List.set_cons_succ]
        (first | (apply tkT 14 32767 hg; (focus rfl); (focus rfl); (focus kernel_rfl); (focus (intro w0 hSw; (try dsimp only at hSw); go_simp; try (with_reducible rfl))); (focus assumption)) | (apply tkF 14 32767 hg; (focus rfl); (focus rfl); (focus kernel_rfl); (focus assumption)))
        try simp only [Act.put, List.setIfInBounds_toArray, List.set_cons_zero, List.set_cons_succ]
        (first | (apply tkT 15 65535 hg; (focus rfl); (focus rfl); (focus kernel_rfl); (focus (intro w0 hSw; (try dsimp only at hSw); go_simp; try (with_reducible rfl))); (focus assumption)) | (apply tkF 15 65535 hg; (focus rfl); (focus rfl); (focus kernel_rfl); (focus assumption)))
        try simp only [Act.put, List.setIfInBounds_toArray, List.set_cons_zero, List.set_cons_succ]
        (apply tkT 16 131071 hg; (focus rfl); (focus rfl); (focus kernel_rfl); (focus (intro w0 hSw; (try dsimp only at hSw); go_simp; try (with_reducible rfl))); (focus assumption))
        try simp only [Act.put, List.setIfInBounds_toArray, List.set_cons_zero, List.set_cons_succ]
        (apply tkT 17 262143 hg; (focus rfl); (focus rfl); (focus kernel_rfl); (focus (intro w0 hSw; (try dsimp only at hSw); go_simp; try (with_reducible rfl))); (focus assumption))
        try simp only [Act.put, List.setIfInBounds_toArray, List.set_cons_zero, List.set_cons_succ]
        (first | (apply tkT 18 524287 hg; (focus rfl); (focus rfl); (focus kernel_rfl); (focus (intro w0 hSw; (try dsimp only at hSw); go_simp; try (with_reducible rfl))); (focus assumption)) | (apply tkF 18 524287 hg; (focus rfl); (focus rfl); (focus kernel_rfl); (focus assumption)))
        try simp only [Act.put, List.setIfInBounds_toArray, List.set_cons_zero, List.set_cons_succ]
        (first | (apply tkT 19 1048575 hg; (focus rfl); (focus rfl); (focus kernel_rfl); (focus (intro w0 hSw; (try dsimp only at hSw); go_simp; try (with_reducible rfl))); (focus assumption)) | (apply tkF 19 1048575 hg; (focus rfl); (focus rfl); (focus kernel_rfl); (focus assumption)))
        try simp only [Act.put, List.setIfInBounds_toArray, List.set_cons_zero, List.set_cons_succ]
        (first | (apply tkT 20 2097151 hg; (focus rfl); (focus rfl); (focus kernel_rfl); (focus (intro w0 hSw; (try dsimp only at hSw); go_simp; try (with_reducible rfl))); (focus assumption)) | (apply tkF 20 2097151 hg; (focus rfl); (focus rfl); (focus kernel_rfl); (focus assumption)))
        try simp only [Act.put, List.setIfInBounds_toArray, List.set_cons_zero, List.set_cons_succ]
        (first | (apply tkT 21 4194303 hg; (focus rfl); (focus rfl); (focus kernel_rfl); (focus (intro w0 hSw; (try dsimp only at hSw); go_simp; try (with_reducible rfl))); (focus assumption)) | (apply tkF 21 4194303 hg; (focus rfl); (focus rfl); (focus kernel_rfl); (focus assumption)))
        try simp only [Act.put, List.setIfInBounds_toArray, List.set_cons_zero, List.set_cons_succ]
        (first | (apply tkT 22 8388607 hg; (focus rfl); (focus rfl); (focus kernel_rfl); (focus (intro w0 hSw; (try dsimp only at hSw); go_simp; try (with_reducible rfl))); (focus assumption)) | (apply tkF 22 8388607 hg; (focus rfl); (focus rfl); (focus kernel_rfl); (focus assumption)))
        try simp only [Act.put, List.setIfInBounds_toArray, List.set_cons_zero, List.set_cons_succ]
        (apply tkT 23 16777215 hg; (focus rfl); (focus rfl); (focus kernel_rfl); (focus (intro w0 hSw; (try dsimp only at hSw); go_simp; try (with_reducible rfl))); (focus assumption))
        try simp only [Act.put, List.setIfInBounds_toArray, List.set_cons_zero, List.set_cons_succ]
        (apply tkT 24 33554431 hg; (focus rfl); (focus rfl); (focus kernel_rfl); (focus (intro w0 hSw; (try dsimp only at hSw); go_simp; try (with_reducible rfl))); (focus assumption))
        try simp only [Act.put, List.setIfInBounds_toArray, List.set_cons_zero, List.set_cons_succ]
        (first | (apply tkT 25 67108863 hg; (focus rfl); (focus rfl); (focus kernel_rfl); (focus (intro w0 hSw; (try dsimp only at hSw); go_simp; try (with_reducible rfl))); (focus assumption)) | (apply tkF 25 67108863 hg; (focus rfl); (focus rfl); (focus kernel_rfl); (focus assumption)))
        try simp only [Act.put, List.setIfInBounds_toArray, List.set_cons_zero, List.set_cons_succ]
        (first | (apply tkT 26 134217727 hg; (focus rfl); (focus rfl); (focus kernel_rfl); (focus (intro w0 hSw; (try dsimp only at hSw); go_simp; try (with_reducible rfl))); (focus assumption)) | (apply tkF 26 134217727 hg; (focus rfl); (focus rfl); (focus kernel_rfl); (focus assumption)))
        try simp only [Act.put, List.setIfInBounds_toArray, List.set_cons_zero, List.set_cons_succ]
        (first | (apply tkT 27 268435455 hg; (focus rfl); (focus rfl); (focus kernel_rfl); (focus (intro w0 hSw; (try dsimp only at hSw); go_simp; try (with_reducible rfl))); (focus assumption)) | (apply tkF 27 268435455 hg; (focus rfl); (focus rfl); (focus kernel_rfl); (focus assumption)))
        try simp only [Act.put, List.setIfInBounds_toArray, List.set_cons_zero, List.set_cons_succ]
        (first | (apply tkT 28 536870911 hg; (focus rfl); (focus rfl); (focus kernel_rfl); (focus (intro w0 hSw; (try dsimp only at hSw); go_simp; try (with_reducible rfl))); (focus assumption)) | (apply tkF 28 536870911 hg; (focus rfl); (focus rfl); (focus kernel_rfl); (focus assumption)))
        try simp only [Act.put, List.setIfInBounds_toArray, List.set_cons_zero, List.set_cons_succ]
        (first | (apply tkT 29 1073741823 hg; (focus rfl); (focus rfl); (focus kernel_rfl); (focus (intro w0 hSw; (try dsimp only at hSw); go_simp; try (with_reducible rfl))); (focus assumption)) | (apply tkF 29 1073741823 hg; (focus rfl); (focus rfl); (focus kernel_rfl); (focus assumption)))
        try simp only [Act.put, List.setIfInBounds_toArray, List.set_cons_zero, List.set_cons_succ]
        (apply tkT 30 2147483647 hg; (focus rfl); (focus rfl); (focus kernel_rfl); (focus (intro w0 hSw; (try dsimp only at hSw); go_simp; try (with_reducible rfl))); (focus assumption))
        try simp only [Act.put, List.setIfInBounds_toArray, List.set_cons_zero, List.set_cons_succ]
        (apply tkT 31 4294967295 hg; (focus rfl); (focus rfl); (focus kernel_rfl); (focus (intro w0 hSw; (try dsimp only at hSw); go_simp; try (with_reducible rfl))); (focus assumption))
        try simp only [Act.put, List.setIfInBounds_toArray, List.set_cons_zero, List.set_cons_succ]
        (first | (apply tkT 32 8589934591 hg; (focus rfl); (focus rfl); (focus kernel_rfl); (focus (intro w0 hSw; (try dsimp only at hSw); go_simp; try (with_reducible rfl))); (focus assumption)) | (apply tkF 32 8589934591 hg; (focus rfl); (focus rfl); (focus kernel_rfl); (focus assumption)))
        try simp only [Act.put, List.setIfInBounds_toArray, List.set_cons_zero, List.set_cons_succ]
        (first | (apply tkT 33 17179869183 hg; (focus rfl); (focus rfl); (focus kernel_rfl); (focus (intro w0 hSw; (try dsimp only at hSw); go_simp; try (with_reducible rfl))); (focus assumption)) | (apply tkF 33 17179869183 hg; (focus rfl); (focus rfl); (focus kernel_rfl); (focus assumption)))
        try simp only [Act.put, List.setIfInBounds_toArray, List.set_cons_zero, List.set_cons_succ]
        (first | (apply tkT 34 34359738367 hg; (focus rfl); (focus rfl); (focus kernel_rfl); (focus (intro w0 hSw; (try dsimp only at hSw); go_simp; try (with_reducible rfl))); (focus assumption)) | (apply tkF 34 34359738367 hg; (focus rfl); (focus rfl); (focus kernel_rfl); (focus assumption)))
        try simp only [Act.put, List.setIfInBounds_toArray, List.set_cons_zero, List.set_cons_succ]
        (first | (apply tkT 35 68719476735 hg; (focus rfl); (focus rfl); (focus kernel_rfl); (focus (intro w0 hSw; (try dsimp only at hSw); go_simp; try (with_reducible rfl))); (focus assumption)) | (apply tkF 35 68719476735 hg; (focus rfl); (focus rfl); (focus kernel_rfl); (focus assumption)))
        try simp only [Act.put, List.setIfInBounds_toArray, List.set_cons_zero, List.set_cons_succ]
        (first | (apply tkT 36 137438953471 hg; (focus rfl); (focus rfl); (focus kernel_rfl); (focus (intro w0 hSw; (try dsimp only at hSw); go_simp; try (with_reducible rfl))); (focus assumption)) | (apply tkF 36 137438953471 hg; (focus rfl); (focus rfl); (focus kernel_rfl); (focus assumption)))
        try simp only [Act.put, List.setIfInBounds_toArray, List.set_cons_zero, List.set_cons_succ]
        (apply tkT 37 274877906943 hg; (focus rfl); (focus rfl); (focus kernel_rfl); (focus (intro w0 hSw; (try dsimp only at hSw); go_simp; try (with_reducible rfl))); (focus assumption))
        try simp only [Act.put, List.setIfInBounds_toArray, List.set_cons_zero, List.set_cons_succ]
        (apply tkT 38 549755813887 hg; (focus rfl); (focus rfl); (focus kernel_rfl); (focus (intro w0 hSw; (try dsimp only at hSw); go_simp; try (with_reducible rfl))); (focus assumption))
        try simp only [Act.put, List.setIfInBounds_toArray, List.set_cons_zero, List.set_cons_succ]
        (first | (apply tkT 39 1099511627775 hg; (focus rfl); (focus rfl); (focus kernel_rfl); (focus (intro w0 hSw; (try dsimp only at hSw); go_simp; try (with_reducible rfl))); (focus assumption)) | (apply tkF 39 1099511627775 hg; (focus rfl); (focus rfl); (focus kernel_rfl); (focus assumption)))
        try simp only [Act.put, List.setIfInBounds_toArray, List.set_cons_zero, List.set_cons_succ]
        (first | (apply tkT 40 2199023255551 hg; (focus rfl); (focus rfl); (focus kernel_rfl); (focus (intro w0 hSw; (try dsimp only at hSw); go_simp; try (with_reducible rfl))); (focus assumption)) | (apply tkF 40 2199023255551 hg; (focus rfl); (focus rfl); (focus kernel_rfl); (focus assumption)))
        try simp only [Act.put, List.setIfInBounds_toArray, List.set_cons_zero, List.set_cons_succ]
        (first | (apply tkT 41 4398046511103 hg; (focus rfl); (focus rfl); (focus kernel_rfl); (focus (intro w0 hSw; (try dsimp only at hSw); go_simp; try (with_reducible rfl))); (focus assumption)) | (apply tkF 41 4398046511103 hg; (focus rfl); (focus rfl); (focus kernel_rfl); (focus assumption)))
        try simp only [Act.put, List.setIfInBounds_toArray, List.set_cons_zero, List.set_cons_succ]
        (first | (apply tkT 42 8796093022207 hg; (focus rfl); (focus rfl); (focus kernel_rfl); (focus (intro w0 hSw; (try dsimp only at hSw); go_simp; try (with_reducible rfl))); (focus assumption)) | (apply tkF 42 8796093022207 hg; (focus rfl); (focus rfl); (focus kernel_rfl); (focus assumption)))
        try simp only [Act.put, List.setIfInBounds_toArray, List.set_cons_zero, List.set_cons_succ]
        (first | (apply tkT 43 17592186044415 hg; (focus rfl); (focus rfl); (focus kernel_rfl); (focus (intro w0 hSw; (try dsimp only at hSw); go_simp; try (with_reducible rfl))); (focus assumption)) | (apply tkF 43 17592186044415 hg; (focus rfl); (focus rfl); (focus kernel_rfl); (focus assumption)))
        try simp only [Act.put, List.setIfInBounds_toArray, List.set_cons_zero, List.set_cons_succ]
        (apply tkT 44 35184372088831 hg; (focus rfl); (focus rfl); (focus kernel_rfl); (focus (intro w0 hSw; (try dsimp only at hSw); go_simp; try (with_reducible rfl))); (focus assumption))
        try simp only [Act.put, List.setIfInBounds_toArray, List.set_cons_zero, List.set_cons_succ]
        (apply tkT 45 70368744177663 hg; (focus rfl); (focus rfl); (focus kernel_rfl); (focus (intro w0 hSw; (try dsimp only at hSw); go_simp; try (with_reducible rfl))); (focus assumption))
        try simp only [Act.put, List.setIfInBounds_toArray, List.set_cons_zero, List.set_cons_succ]
        (first | (apply tkT 46 140737488355327 hg; (focus rfl); (focus rfl); (focus kernel_rfl); (focus (intro w0 hSw; (try dsimp only at hSw); go_simp; try (with_reducible rfl))); (focus assumption)) | (apply tkF 46 140737488355327 hg; (focus rfl); (focus rfl); (focus kernel_rfl); (focus assumption)))
        try simp only [Act.put, List.setIfInBounds_toArray, List.set_cons_zero, List.set_cons_succ]
        (first | (apply tkT 48 422212465065983 hg; (focus rfl); (focus rfl); (focus kernel_rfl); (focus (intro w0 hSw; (try dsimp only at hSw); go_simp; try (with_reducible rfl))); (focus assumption)) | (apply tkF 48 422212465065983 hg; (focus rfl); (focus rfl); (focus kernel_rfl); (focus assumption)))
        try simp only [Act.put, List.setIfInBounds_toArray, List.set_cons_zero, List.set_cons_succ]
        (apply act1 47 562949953421311 hg; (focus rfl); (focus rfl); (focus kernel_rfl))
        intro K hK
        go_simp
        refine (pop_calls (j.push f) a1 _ (Now _) (Sub.now _) (HA.out.step (Below.refl _ _).drew) (by have := PP.out; omega)).mono ?_; rintro e u10_1 h; obtain ⟨x9, rfl, hj, hb⟩ := (show RetJ _ (Now _) j e u10_1 from by have h2 : RetJ _ (Now _) (j.push f).pop e u10_1 := h; rw [pop_push] at h2; exact h2).now; replace hb : Below v10.heap.size v10 u10_1 := Below.undrew hb; have D1 := Lib.hid hb; have S1 := keep8 hb S0; have HX := Lib.hid hj; clear hj; clear h hb
        refine hK.out _ _ ?_ (fun hHeld => ?_)
        · (try dsimp only); (first | exact S2 | exact S1 | exact S0)
        clear hK K
        try simp only [Act.put, List.setIfInBounds_toArray, List.set_cons_zero, List.set_cons_succ]
        (apply act1 49 1125899906842623 hg; (focus rfl); (focus rfl); (focus kernel_rfl))
        intro K hK
        go_simp
        refine (same_calls j j x9 a _ (Now _) (Sub.now _) HX.out (HJ.out.step D1.out) (by have := PP.out.1; omega) (fun f hf => by have := PP.out.2.1 f hf; omega) (by have := PP.out; omega) (by have := PP.out; omega)).mono ?_; rintro e u10_2 h; obtain ⟨rfl, hb⟩ := (show RetB _ true e u10_2 from by rw [show decide (j = j) = true by simp] at h; exact h); have D2 := Lib.hid (D1.out.trans (hb.mono D1.out.size)); have S2 := keep8 hb S1; clear HX; clear h hb
        refine hK.out _ _ ?_ (fun hHeld => ?_)
        · (try dsimp only); (first | exact S2 | exact S1 | exact S0)
        clear hK K
        try simp only [Act.put, List.setIfInBounds_toArray, List.set_cons_zero, List.set_cons_succ]
        (apply tkT 50 2251799813685247 hg; (focus rfl); (focus rfl); (focus kernel_rfl); (focus (intro w0 hSw; (try dsimp only at hSw); go_simp; try (with_reducible rfl))); (focus assumption))
        try simp only [Act.put, List.setIfInBounds_toArray, List.set_cons_zero, List.set_cons_succ]
        (apply tkT 51 4503599627370495 hg; (focus rfl); (focus rfl); (focus kernel_rfl); (focus (intro w0 hSw; (try dsimp only at hSw); go_simp; try (with_reducible rfl))); (focus assumption))
        try simp only [Act.put, List.setIfInBounds_toArray, List.set_cons_zero, List.set_cons_succ]
        (first | (apply tkT 52 9007199254740991 hg; (focus rfl); (focus rfl); (focus kernel_rfl); (focus (intro w0 hSw; (try dsimp only at hSw); go_simp; try (with_reducible rfl))); (focus assumption)) | (apply tkF 52 9007199254740991 hg; (focus rfl); (focus rfl); (focus kernel_rfl); (focus assumption)))
        try simp only [Act.put, List.setIfInBounds_toArray, List.set_cons_zero, List.set_cons_succ]
        (first | (apply tkT 53 18014398509481983 hg; (focus rfl); (focus rfl); (focus kernel_rfl); (focus (intro w0 hSw; (try dsimp only at hSw); go_simp; try (with_reducible rfl))); (focus assumption)) | (apply tkF 53 18014398509481983 hg; (focus rfl); (focus rfl); (focus kernel_rfl); (focus assumption)))
        try simp only [Act.put, List.setIfInBounds_toArray, List.set_cons_zero, List.set_cons_succ]
        (first | (apply tkT 54 36028797018963967 hg; (focus rfl); (focus rfl); (focus kernel_rfl); (focus (intro w0 hSw; (try dsimp only at hSw); go_simp; try (with_reducible rfl))); (focus assumption)) | (apply tkF 54 36028797018963967 hg; (focus rfl); (focus rfl); (focus kernel_rfl); (focus assumption)))
        try simp only [Act.put, List.setIfInBounds_toArray, List.set_cons_zero, List.set_cons_succ]
        (first | (apply tkT 55 72057594037927935 hg; (focus rfl); (focus rfl); (focus kernel_rfl); (focus (intro w0 hSw; (try dsimp only at hSw); go_simp; try (with_reducible rfl))); (focus assumption)) | (apply tkF 55 72057594037927935 hg; (focus rfl); (focus rfl); (focus kernel_rfl); (focus assumption)))
        try simp only [Act.put, List.setIfInBounds_toArray, List.set_cons_zero, List.set_cons_succ]
        (first | (apply tkT 56 144115188075855871 hg; (focus rfl); (focus rfl); (focus kernel_rfl); (focus (intro w0 hSw; (try dsimp only at hSw); go_simp; try (with_reducible rfl))); (focus assumption)) | (apply tkF 56 144115188075855871 hg; (focus rfl); (focus rfl); (focus kernel_rfl); (focus assumption)))
        try simp only [Act.put, List.setIfInBounds_toArray, List.set_cons_zero, List.set_cons_succ]
        (first | (apply tkT 57 288230376151711743 hg; (focus rfl); (focus rfl); (focus kernel_rfl); (focus (intro w0 hSw; (try dsimp only at hSw); go_simp; try (with_reducible rfl))); (focus assumption)) | (apply tkF 57 288230376151711743 hg; (focus rfl); (focus rfl); (focus kernel_rfl); (focus assumption)))
        try simp only [Act.put, List.setIfInBounds_toArray, List.set_cons_zero, List.set_cons_succ]
        (first | (apply tkT 58 576460752303423487 hg; (focus rfl); (focus rfl); (focus kernel_rfl); (focus (intro w0 hSw; (try dsimp only at hSw); go_simp; try (with_reducible rfl))); (focus assumption)) | (apply tkF 58 576460752303423487 hg; (focus rfl); (focus rfl); (focus kernel_rfl); (focus assumption)))
        try simp only [Act.put, List.setIfInBounds_toArray, List.set_cons_zero, List.set_cons_succ]
        (first | (apply tkT 59 1152921504606846975 hg; (focus rfl); (focus rfl); (focus kernel_rfl); (focus (intro w0 hSw; (try dsimp only at hSw); go_simp; try (with_reducible rfl))); (focus assumption)) | (apply tkF 59 1152921504606846975 hg; (focus rfl); (focus rfl); (focus kernel_rfl); (focus assumption)))
        try simp only [Act.put, List.setIfInBounds_toArray, List.set_cons_zero, List.set_cons_succ]
        (apply tkT 60 2305843009213693951 hg; (focus rfl); (focus rfl); (focus kernel_rfl); (focus (intro w0 hSw; (try dsimp only at hSw); go_simp; try (with_reducible rfl))); (focus assumption))
        try simp only [Act.put, List.setIfInBounds_toArray, List.set_cons_zero, List.set_cons_succ]
        (apply tkT 61 4611686018427387903 hg; (focus rfl); (focus rfl); (focus kernel_rfl); (focus (intro w0 hSw; (try dsimp only at hSw); go_simp; try (with_reducible rfl))); (focus assumption))
        try simp only [Act.put, List.setIfInBounds_toArray, List.set_cons_zero, List.set_cons_succ]
        refine actE hg (by kernel_rfl) ?_
        have C := D2.out
        replace BB := Lib.hid (BB.out.trans (C.mono BB.out.size))
        try replace HJ := Lib.hid (HJ.out.step C)
        try replace HF := Lib.hid (HF.out.step C)
        try replace HG := Lib.hid (HG.out.step C)
        try replace HA := Lib.hid (HA.out.step C)
        try replace HB := Lib.hid (HB.out.step C)
        replace Hj := Lib.hid (Hj.out.step C)
        replace Hx := Lib.hid (Hx.out.step C)
        replace Hq := Lib.hid (Hq.out.step C)
        replace Ha := Lib.hid (Ha.out.step C)
        replace Hb := Lib.hid (Hb.out.step C)
        replace Ht := Lib.hid (Ht.out.step C)
        replace Hu := Lib.hid (Hu.out.step C)
        replace Hm := Lib.hid (Hm.out.step C)
        replace Hl := Lib.hid (Hl.out.step C)
        clear C S0 S1 S2 D1 D2
        go_wp2
        go_ret
        exact ⟨rfl, BB.out⟩
      · intro K hK
        go_simp
        refine K_at (K := K) fun u8_3 hW => ?_
        have hb : Below u8_2.heap.size u8_2 u8_3 := by rw [hW]; exact (Below.refl _ _).alloc (Nat.le_refl _) _
        have Y : Box u8_3 u8_2.heap.size #[.int .i64 0, .string ⟨#[]⟩, .slice none 0 0] := ⟨_, by rw [hW]; exact blk_new _ rfl⟩
        obtain ⟨bm, hbx⟩ : ∃ b, b = u8_2.heap.size := ⟨_, rfl⟩
        try simp only [drew_size] at hbx Y
        rw [← hbx] at Y ⊢
        have hbl : v7.heap.size ≤ bm := by rw [hbx]; exact D0.out.size
        have Hm := Lib.hid Y
        clear hW Y hbx
        replace D0 := Lib.hid (D0.out.trans (hb.mono D0.out.size))
        replace S0 := keep2 hb S0
        replace HX2 := Lib.hid (HX2.out.step hb)
        clear hb
        refine hK.out _ _ ?_ (fun hHeld => ?_)
        · (try dsimp only); exact S0
        clear hK K
        try simp only [Act.put, List.setIfInBounds_toArray, List.set_cons_zero, List.set_cons_succ]
        (apply act1 4 287 hg; (focus rfl); (focus rfl); (focus kernel_rfl))
        intro K hK
        go_simp
        refine (top_calls (j.push g) x2 _ (Now _) (Sub.now _) HX2.out (by have := PP.out; omega) (by have := PP.out; omega)).mono ?_
        rintro e u8_4 h
        rw [push_top] at h
        obtain ⟨s3, rfl, hj, hb⟩ := (show RetF _ (Now _) g true e u8_4 from h).now
        clear hj
        replace D0 := Lib.hid (D0.out.trans (hb.mono D0.out.size))
        replace S0 := keep2 hb S0
        clear HX2
        replace Hm := Lib.hid (Hm.out.step hb)
        clear hb h
        refine hK.out _ _ ?_ (fun hHeld => ?_)
        · (try dsimp only); exact S0
        clear hK K
        try simp only [Act.put, List.setIfInBounds_toArray, List.set_cons_zero, List.set_cons_succ]
        (apply tkT 5 319 hg; (focus rfl); (focus rfl); (focus kernel_rfl); (focus (intro w0 hSw; (try dsimp only at hSw); go_simp; try (with_reducible rfl))); (focus assumption))
        try simp only [Act.put, List.setIfInBounds_toArray, List.set_cons_zero, List.set_cons_succ]
        (apply tkT 6 383 hg; (focus rfl); (focus rfl); (focus kernel_rfl); (focus (intro w0 hSw; (try dsimp only at hSw); go_simp; try (with_reducible rfl))); (focus assumption))
        try simp only [Act.put, List.setIfInBounds_toArray, List.set_cons_zero, List.set_cons_succ]
        (apply tkT 7 511 hg; (focus rfl); (focus rfl); (focus kernel_rfl); (focus (intro w0 hSw; (try dsimp only at hSw); go_simp; try (with_reducible rfl))); (focus assumption))
        try simp only [Act.put, List.setIfInBounds_toArray, List.set_cons_zero, List.set_cons_succ]
        (apply act1 9 1023 hg; (focus rfl); (focus rfl); (focus kernel_rfl))
        intro K hK
        have i_ := Hm.out.isRow; have r_ := Hm.out.row
        (apply wp_st_row 46 3; (focus rfl); (focus rfl); (focus go_simp); (focus kernel_rfl); (focus rfl); (focus (first | (simp [Value.oneCell']; done) | (simp [Value.oneCell', Job.cells]; done))))
        refine K_at (K := K) fun u8_5 hW => ?_
        have hb : Below bm u8_4 u8_5 := by rw [hW]; exact Below.setRow_ (Below.refl _ _) (Nat.le_refl _) _
        have Y : Box u8_5 bm #[.int .i64 g.fd, .string g.name, .slice s3.a g.names.length s3.c] := by obtain ⟨t, h⟩ := Hm.out; exact ⟨t, by rw [hW]; exact blk_row h⟩
        clear hW i_ r_
        replace D0 := Lib.hid (D0.out.trans (hb.mono hbl))
        have S1 : (isRow u8_5 ba = true ∧ isRow u8_5 bq = true) ∧ row u8_5 ba = ((j.push f).cells a1).toArray ∧ row u8_5 bq = #[.int .i64 g.fd, .string g.name, .slice ga.a g.names.length ga.c] := keep2 D0.out (⟨⟨Ha.out.isRow, Hq.out.isRow⟩, Ha.out.row, Hq.out.row⟩)
        clear S0
        have S0 := S1
        clear S1
        replace Hm := Lib.hid Y
        clear hb Y hbl
        refine hK.out _ _ ?_ (fun hHeld => ?_)
        · (try dsimp only); exact S0
        clear hK K
        try simp only [Act.put, List.setIfInBounds_toArray, List.set_cons_zero, List.set_cons_succ]
        (apply tkT 10 2047 hg; (focus rfl); (focus rfl); (focus kernel_rfl); (focus (intro w0 hSw; (try dsimp only at hSw); go_simp; try (with_reducible rfl))); (focus assumption))
        try simp only [Act.put, List.setIfInBounds_toArray, List.set_cons_zero, List.set_cons_succ]
        refine actE hg (by kernel_rfl) ?_
        have C := D0.out
        replace BB := Lib.hid (BB.out.trans (C.mono BB.out.size))
        replace Hj := Lib.hid (Hj.out.step C)
        replace Hx := Lib.hid (Hx.out.step C)
        replace Hq := Lib.hid (Hq.out.step C)
        replace Ha := Lib.hid (Ha.out.step C)
        replace Hb := Lib.hid (Hb.out.step C)
        replace Ht := Lib.hid (Ht.out.step C)
        replace Hu := Lib.hid (Hu.out.step C)
        replace HJ := Lib.hid (HJ.out.step C)
        replace HF := Lib.hid (HF.out.step C)
        replace HG := Lib.hid (HG.out.step C)
        replace HA := Lib.hid (HA.out.step C)
        replace HB := Lib.hid (HB.out.step C)
        clear C D0 S0
        have ij := Hj.out.isRow; have rj := Hj.out.row; have lj := Hj.out.lt; have nj : ¬ bj = u8_5.heap.size := Nat.ne_of_lt lj; have mj : ¬ u8_5.heap.size = bj := fun h => nj h.symm
        have ix := Hx.out.isRow; have rx := Hx.out.row; have lx := Hx.out.lt; have nx : ¬ bx = u8_5.heap.size := Nat.ne_of_lt lx; have mx : ¬ u8_5.heap.size = bx := fun h => nx h.symm
        have iq := Hq.out.isRow; have rq := Hq.out.row; have lq := Hq.out.lt; have nq : ¬ bq = u8_5.heap.size := Nat.ne_of_lt lq; have mq : ¬ u8_5.heap.size = bq := fun h => nq h.symm
        have ia := Ha.out.isRow; have ra := Ha.out.row; have la := Ha.out.lt; have na : ¬ ba = u8_5.heap.size := Nat.ne_of_lt la; have ma : ¬ u8_5.heap.size = ba := fun h => na h.symm
        have ib := Hb.out.isRow; have rb := Hb.out.row; have lb := Hb.out.lt; have nb : ¬ bb = u8_5.heap.size := Nat.ne_of_lt lb; have mb : ¬ u8_5.heap.size = bb := fun h => nb h.symm
        have it := Ht.out.isRow; have rt := Ht.out.row; have lt := Ht.out.lt; have nt : ¬ bt = u8_5.heap.size := Nat.ne_of_lt lt; have mt : ¬ u8_5.heap.size = bt := fun h => nt h.symm
        have iu := Hu.out.isRow; have ru := Hu.out.row; have lu := Hu.out.lt; have nu : ¬ bu = u8_5.heap.size := Nat.ne_of_lt lu; have mu : ¬ u8_5.heap.size = bu := fun h => nu h.symm
        have im := Hm.out.isRow; have rm := Hm.out.row; have lm := Hm.out.lt; have nm : ¬ bm = u8_5.heap.size := Nat.ne_of_lt lm; have mm : ¬ u8_5.heap.size = bm := fun h => nm h.symm
        go_wp2_with (first | (apply ld_row 27 19; (focus rfl); (focus go_simp); (focus (go_simp; rfl)); (focus (exact Tryd.underlying27)); (focus kernel_rfl)) | (apply st_row 27 19; (focus rfl); (focus rfl); (focus go_simp); (focus kernel_rfl); (focus rfl); (focus (first | (simp [Value.oneCell']; done) | (simp [Value.oneCell', Job.cells]; done)))) | (apply ld_row 46 3; (focus rfl); (focus go_simp); (focus (go_simp; rfl)); (focus (exact Tryd.underlying46)); (focus kernel_rfl)) | (apply st_row 46 3; (focus rfl); (focus rfl); (focus go_simp); (focus kernel_rfl); (focus rfl); (focus (first | (simp [Value.oneCell']; done) | (simp [Value.oneCell', Job.cells]; done)))) | fail)
        refine Calls.at_ fun W hW => ?_
        have B0 : Below u8_5.heap.size u8_5 W := by rw [hW]; repeat' (first | with_reducible refine Below.alloc ?_ ?_ _ | with_reducible refine Below.setRow_ ?_ ?_ _ | with_reducible refine Below.setCell ?_ ?_ _ | with_reducible refine Below.drew ?_ | with_reducible refine Below.drewN_ ?_ _ | with_reducible exact Below.refl _ _ | assumption | (simp; done) | (simp; omega) | omega)
        clear hW
        refine (top_calls (j.push f) a1 W (Now W) (Sub.now W) (HA.out.step B0) (by have := PP.out; omega) (by have := PP.out; omega)).mono ?_
        rintro e w9 h
        rw [push_top] at h
        obtain ⟨s4, rfl, hj, hb⟩ := (show RetF W (Now W) f true e w9 from h).now
        have C := B0.trans (hb.mono B0.size)
        replace BB := Lib.hid (BB.out.trans (C.mono BB.out.size))
        replace HJ := Lib.hid (HJ.out.step C)
        replace HF := Lib.hid (HF.out.step C)
        replace HG := Lib.hid (HG.out.step C)
        replace HA := Lib.hid (HA.out.step C)
        replace HB := Lib.hid (HB.out.step C)
        clear ij rj lj nj mj
        replace Hj := Lib.hid (Hj.out.step C)
        clear ix rx lx nx mx
        replace Hx := Lib.hid (Hx.out.step C)
        clear iq rq lq nq mq
        replace Hq := Lib.hid (Hq.out.step C)
        clear ia ra la na ma
        replace Ha := Lib.hid (Ha.out.step C)
        clear ib rb lb nb mb
        replace Hb := Lib.hid (Hb.out.step C)
        clear it rt lt nt mt
        replace Ht := Lib.hid (Ht.out.step C)
        clear iu ru lu nu mu
        replace Hu := Lib.hid (Hu.out.step C)
        clear im rm lm nm mm
        replace Hm := Lib.hid (Hm.out.step C)
        have ij := Hj.out.isRow; have rj := Hj.out.row; have lj := Hj.out.lt; have nj : ¬ bj = w9.heap.size := Nat.ne_of_lt lj; have mj : ¬ w9.heap.size = bj := fun h => nj h.symm
        have ix := Hx.out.isRow; have rx := Hx.out.row; have lx := Hx.out.lt; have nx : ¬ bx = w9.heap.size := Nat.ne_of_lt lx; have mx : ¬ w9.heap.size = bx := fun h => nx h.symm
        have iq := Hq.out.isRow; have rq := Hq.out.row; have lq := Hq.out.lt; have nq : ¬ bq = w9.heap.size := Nat.ne_of_lt lq; have mq : ¬ w9.heap.size = bq := fun h => nq h.symm
        have ia := Ha.out.isRow; have ra := Ha.out.row; have la := Ha.out.lt; have na : ¬ ba = w9.heap.size := Nat.ne_of_lt la; have ma : ¬ w9.heap.size = ba := fun h => na h.symm
        have ib := Hb.out.isRow; have rb := Hb.out.row; have lb := Hb.out.lt; have nb : ¬ bb = w9.heap.size := Nat.ne_of_lt lb; have mb : ¬ w9.heap.size = bb := fun h => nb h.symm
        have it := Ht.out.isRow; have rt := Ht.out.row; have lt := Ht.out.lt; have nt : ¬ bt = w9.heap.size := Nat.ne_of_lt lt; have mt : ¬ w9.heap.size = bt := fun h => nt h.symm
        have iu := Hu.out.isRow; have ru := Hu.out.row; have lu := Hu.out.lt; have nu : ¬ bu = w9.heap.size := Nat.ne_of_lt lu; have mu : ¬ w9.heap.size = bu := fun h => nu h.symm
        have im := Hm.out.isRow; have rm := Hm.out.row; have lm := Hm.out.lt; have nm : ¬ bm = w9.heap.size := Nat.ne_of_lt lm; have mm : ¬ w9.heap.size = bm := fun h => nm h.symm
        clear h hb C B0 W hj
        go_wp2_with (first | (apply ld_row 27 19; (focus rfl); (focus go_simp); (focus (go_simp; rfl)); (focus (exact Tryd.underlying27)); (focus kernel_rfl)) | (apply st_row 27 19; (focus rfl); (focus rfl); (focus go_simp); (focus kernel_rfl); (focus rfl); (focus (first | (simp [Value.oneCell']; done) | (simp [Value.oneCell', Job.cells]; done)))) | (apply ld_row 46 3; (focus rfl); (focus go_simp); (focus (go_simp; rfl)); (focus (exact Tryd.underlying46)); (focus kernel_rfl)) | (apply st_row 46 3; (focus rfl); (focus rfl); (focus go_simp); (focus kernel_rfl); (focus rfl); (focus (first | (simp [Value.oneCell']; done) | (simp [Value.oneCell', Job.cells]; done)))) | fail)
        refine Code.at_ fun v10 hW => ?_
        have B0 : Below w9.heap.size w9 v10 := by rw [hW]; repeat' (first | with_reducible refine Below.alloc ?_ ?_ _ | with_reducible refine Below.setRow_ ?_ ?_ _ | with_reducible refine Below.setCell ?_ ?_ _ | with_reducible refine Below.drew ?_ | with_reducible refine Below.drewN_ ?_ _ | with_reducible exact Below.refl _ _ | assumption | (simp; done) | (simp; omega) | omega)
        have Hl := Lib.hid (show Box v10 (w9.heap.size) #[.int .i64 f.fd, .string f.name, .slice s4.a f.names.length s4.c] from ⟨_, by rw [hW]; (try rw [setRow_alloc, if_pos rfl]); exact blk_new _ (by first | rfl | simp)⟩)
        clear hW
        have C := B0
        replace BB := Lib.hid (BB.out.trans (C.mono BB.out.size))
        replace HJ := Lib.hid (HJ.out.step C)
        replace HF := Lib.hid (HF.out.step C)
        replace HG := Lib.hid (HG.out.step C)
        replace HA := Lib.hid (HA.out.step C)
        replace HB := Lib.hid (HB.out.step C)
        clear ij rj lj nj mj
        replace Hj := Lib.hid (Hj.out.step C)
        clear ix rx lx nx mx
        replace Hx := Lib.hid (Hx.out.step C)
        clear iq rq lq nq mq
        replace Hq := Lib.hid (Hq.out.step C)
        clear ia ra la na ma
        replace Ha := Lib.hid (Ha.out.step C)
        clear ib rb lb nb mb
        replace Hb := Lib.hid (Hb.out.step C)
        clear it rt lt nt mt
        replace Ht := Lib.hid (Ht.out.step C)
        clear iu ru lu nu mu
        replace Hu := Lib.hid (Hu.out.step C)
        clear im rm lm nm mm
        replace Hm := Lib.hid (Hm.out.step C)
        obtain ⟨bl, hbl⟩ : ∃ b, b = w9.heap.size := ⟨_, rfl⟩
        rw [← hbl] at Hl ⊢
        clear hbl
        clear C B0
        have hc := cells_eq
        have q1 : ((j.push f).stack.length : Int) = (j.stack.length : Int) + 1 := by rw [push_len]; simp
        have hw : IntKind.i64.wrap ((j.stack.length : Int) + 1) = (j.stack.length : Int) + 1 := by have := PP.out.1; rw [IntKind.wrap_i64] <;> omega
        try dsimp only [List.append]
        have S0 : (isRow v10 bj = true ∧ isRow v10 bx = true ∧ isRow v10 bq = true ∧ isRow v10 ba = true ∧ isRow v10 bt = true ∧ isRow v10 bu = true ∧ isRow v10 bm = true ∧ isRow v10 bl = true) ∧ row v10 bj = (j.cells a).toArray ∧ row v10 bx = #[.int .i64 f.fd, .string f.name, .slice fa.a f.names.length fa.c] ∧ row v10 bq = #[.int .i64 g.fd, .string g.name, .slice ga.a g.names.length ga.c] ∧ row v10 ba = ((j.push f).cells a1).toArray ∧ row v10 bt = #[.int .i64 f.fd, .string f.name, .slice s1.a f.names.length s1.c] ∧ row v10 bu = #[.int .i64 g.fd, .string g.name, .slice s2.a g.names.length s2.c] ∧ row v10 bm = #[.int .i64 g.fd, .string g.name, .slice s3.a g.names.length s3.c] ∧ row v10 bl = #[.int .i64 f.fd, .string f.name, .slice s4.a f.names.length s4.c] := ⟨⟨Hj.out.isRow, Hx.out.isRow, Hq.out.isRow, Ha.out.isRow, Ht.out.isRow, Hu.out.isRow, Hm.out.isRow, Hl.out.isRow⟩, Hj.out.row, Hx.out.row, Hq.out.row, Ha.out.row, Ht.out.row, Hu.out.row, Hm.out.row, Hl.out.row⟩
        refine reg0 62 (fun w' => (isRow w' bj = true ∧ isRow w' bx = true ∧ isRow w' bq = true ∧ isRow w' ba = true ∧ isRow w' bt = true ∧ isRow w' bu = true ∧ isRow w' bm = true ∧ isRow w' bl = true) ∧ row w' bj = (j.cells a).toArray ∧ row w' bx = #[.int .i64 f.fd, .string f.name, .slice fa.a f.names.length fa.c] ∧ row w' bq = #[.int .i64 g.fd, .string g.name, .slice ga.a g.names.length ga.c] ∧ row w' ba = ((j.push f).cells a1).toArray ∧ row w' bt = #[.int .i64 f.fd, .string f.name, .slice s1.a f.names.length s1.c] ∧ row w' bu = #[.int .i64 g.fd, .string g.name, .slice s2.a g.names.length s2.c] ∧ row w' bm = #[.int .i64 g.fd, .string g.name, .slice s3.a g.names.length s3.c] ∧ row w' bl = #[.int .i64 f.fd, .string f.name, .slice s4.a f.names.length s4.c]) (by kernel_rfl) (by kernel_rfl) (by kernel_rfl) ?_ (fun l hg hHeld => ?_)
        · (try dsimp only); (first | exact S2 | exact S1 | exact S0)
        (apply tkT 0 1 hg; (focus rfl); (focus rfl); (focus kernel_rfl); (focus (intro w0 hSw; (try dsimp only at hSw); go_simp; try (with_reducible rfl))); (focus assumption))
        try simp only [Act.put, List.setIfInBounds_toArray, List.set_cons_zero, List.set_cons_succ]
        (apply tkT 1 3 hg; (focus rfl); (focus rfl); (focus kernel_rfl); (focus (intro w0 hSw; (try dsimp only at hSw); go_simp; try (with_reducible rfl))); (focus assumption))
        try simp only [Act.put, List.setIfInBounds_toArray, List.set_cons_zero, List.set_cons_succ]
        (first | (apply tkT 2 7 hg; (focus rfl); (focus rfl); (focus kernel_rfl); (focus (intro w0 hSw; (try dsimp only at hSw); go_simp; try (with_reducible rfl))); (focus assumption)) | (apply tkF 2 7 hg; (focus rfl); (focus rfl); (focus kernel_rfl); (focus assumption)))
        try simp only [Act.put, List.setIfInBounds_toArray, List.set_cons_zero, List.set_cons_succ]
        (apply tkT 3 15 hg; (focus rfl); (focus rfl); (focus kernel_rfl); (focus (intro w0 hSw; (try dsimp only at hSw); go_simp; try (with_reducible rfl))); (focus assumption))
        try simp only [Act.put, List.setIfInBounds_toArray, List.set_cons_zero, List.set_cons_succ]
        (apply tkT 4 31 hg; (focus rfl); (focus rfl); (focus kernel_rfl); (focus (intro w0 hSw; (try dsimp only at hSw); go_simp; try (with_reducible rfl))); (focus assumption))
        try simp only [Act.put, List.setIfInBounds_toArray, List.set_cons_zero, List.set_cons_succ]
        (first | (apply tkT 5 63 hg; (focus rfl); (focus rfl); (focus kernel_rfl); (focus (intro w0 hSw; (try dsimp only at hSw); go_simp; try (with_reducible rfl))); (focus assumption)) | (apply tkF 5 63 hg; (focus rfl); (focus rfl); (focus kernel_rfl); (focus assumption)))
        try simp only [Act.put, List.setIfInBounds_toArray, List.set_cons_zero, List.set_cons_succ]
        (apply tkT 6 127 hg; (focus rfl); (focus rfl); (focus kernel_rfl); (focus (intro w0 hSw; (try dsimp only at hSw); go_simp; try (with_reducible rfl))); (focus assumption))
        try simp only [Act.put, List.setIfInBounds_toArray, List.set_cons_zero, List.set_cons_succ]
        (apply tkT 7 255 hg; (focus rfl); (focus rfl); (focus kernel_rfl); (focus (intro w0 hSw; (try dsimp only at hSw); go_simp; try (with_reducible rfl))); (focus assumption))
        try simp only [Act.put, List.setIfInBounds_toArray, List.set_cons_zero, List.set_cons_succ]
        (first | (apply tkT 8 511 hg; (focus rfl); (focus rfl); (focus kernel_rfl); (focus (intro w0 hSw; (try dsimp only at hSw); go_simp; try (with_reducible rfl))); (focus assumption)) | (apply tkF 8 511 hg; (focus rfl); (focus rfl); (focus kernel_rfl); (focus assumption)))
        try simp only [Act.put, List.setIfInBounds_toArray, List.set_cons_zero, List.set_cons_succ]
        (apply tkT 9 1023 hg; (focus rfl); (focus rfl); (focus kernel_rfl); (focus (intro w0 hSw; (try dsimp only at hSw); go_simp; try (with_reducible rfl))); (focus assumption))
        try simp only [Act.put, List.setIfInBounds_toArray, List.set_cons_zero, List.set_cons_succ]
        (apply tkT 10 2047 hg; (focus rfl); (focus rfl); (focus kernel_rfl); (focus (intro w0 hSw; (try dsimp only at hSw); go_simp; try (with_reducible rfl))); (focus assumption))
        try simp only [Act.put, List.setIfInBounds_toArray, List.set_cons_zero, List.set_cons_succ]
        (first | (apply tkT 11 4095 hg; (focus rfl); (focus rfl); (focus kernel_rfl); (focus (intro w0 hSw; (try dsimp only at hSw); go_simp; try (with_reducible rfl))); (focus assumption)) | (apply tkF 11 4095 hg; (focus rfl); (focus rfl); (focus kernel_rfl); (focus assumption)))
        try simp only [Act.put, List.setIfInBounds_toArray, List.set_cons_zero, List.set_cons_succ]
        (first | (apply tkT 12 8191 hg; (focus rfl); (focus rfl); (focus kernel_rfl); (focus (intro w0 hSw; (try dsimp only at hSw); go_simp; try (with_reducible rfl))); (focus assumption)) | (apply tkF 12 8191 hg; (focus rfl); (focus rfl); (focus kernel_rfl); (focus assumption)))
        try simp only [Act.put, List.setIfInBounds_toArray, List.set_cons_zero, List.set_cons_succ]
        (first | (apply tkT 13 16383 hg; (focus rfl); (focus rfl); (focus kernel_rfl); (focus (intro w0 hSw; (try dsimp only at hSw); go_simp; try (with_reducible rfl))); (focus assumption)) | (apply tkF 13 16383 hg; (focus rfl); (focus rfl); (focus kernel_rfl); (focus assumption)))
        try simp only [Act.put, List.setIfInBounds_toArray, List.set_cons_zero, List.set_cons_succ]
        (first | (apply tkT 14 32767 hg; (focus rfl); (focus rfl); (focus kernel_rfl); (focus (intro w0 hSw; (try dsimp only at hSw); go_simp; try (with_reducible rfl))); (focus assumption)) | (apply tkF 14 32767 hg; (focus rfl); (focus rfl); (focus kernel_rfl); (focus assumption)))
        try simp only [Act.put, List.setIfInBounds_toArray, List.set_cons_zero, List.set_cons_succ]
        (first | (apply tkT 15 65535 hg; (focus rfl); (focus rfl); (focus kernel_rfl); (focus (intro w0 hSw; (try dsimp only at hSw); go_simp; try (with_reducible rfl))); (focus assumption)) | (apply tkF 15 65535 hg; (focus rfl); (focus rfl); (focus kernel_rfl); (focus assumption)))
        try simp only [Act.put, List.setIfInBounds_toArray, List.set_cons_zero, List.set_cons_succ]
        (apply tkT 16 131071 hg; (focus rfl); (focus rfl); (focus kernel_rfl); (focus (intro w0 hSw; (try dsimp only at hSw); go_simp; try (with_reducible rfl))); (focus assumption))
        try simp only [Act.put, List.setIfInBounds_toArray, List.set_cons_zero, List.set_cons_succ]
        (apply tkT 17 262143 hg; (focus rfl); (focus rfl); (focus kernel_rfl); (focus (intro w0 hSw; (try dsimp only at hSw); go_simp; try (with_reducible rfl))); (focus assumption))
        try simp only [Act.put, List.setIfInBounds_toArray, List.set_cons_zero, List.set_cons_succ]
        (first | (apply tkT 18 524287 hg; (focus rfl); (focus rfl); (focus kernel_rfl); (focus (intro w0 hSw; (try dsimp only at hSw); go_simp; try (with_reducible rfl))); (focus assumption)) | (apply tkF 18 524287 hg; (focus rfl); (focus rfl); (focus kernel_rfl); (focus assumption)))
        try simp only [Act.put, List.setIfInBounds_toArray, List.set_cons_zero, List.set_cons_succ]
        (first | (apply tkT 19 1048575 hg; (focus rfl); (focus rfl); (focus kernel_rfl); (focus (intro w0 hSw; (try dsimp only at hSw); go_simp; try (with_reducible rfl))); (focus assumption)) | (apply tkF 19 1048575 hg; (focus rfl); (focus rfl); (focus kernel_rfl); (focus assumption)))
        try simp only [Act.put, List.setIfInBounds_toArray, List.set_cons_zero, List.set_cons_succ]
        (first | (apply tkT 20 2097151 hg; (focus rfl); (focus rfl); (focus kernel_rfl); (focus (intro w0 hSw; (try dsimp only at hSw); go_simp; try (with_reducible rfl))); (focus assumption)) | (apply tkF 20 2097151 hg; (focus rfl); (focus rfl); (focus kernel_rfl); (focus assumption)))
        try simp only [Act.put, List.setIfInBounds_toArray, List.set_cons_zero, List.set_cons_succ]
        (first | (apply tkT 21 4194303 hg; (focus rfl); (focus rfl); (focus kernel_rfl); (focus (intro w0 hSw; (try dsimp only at hSw); go_simp; try (with_reducible rfl))); (focus assumption)) | (apply tkF 21 4194303 hg; (focus rfl); (focus rfl); (focus kernel_rfl); (focus assumption)))
        try simp only [Act.put, List.setIfInBounds_toArray, List.set_cons_zero, List.set_cons_succ]
        (first | (apply tkT 22 8388607 hg; (focus rfl); (focus rfl); (focus kernel_rfl); (focus (intro w0 hSw; (try dsimp only at hSw); go_simp; try (with_reducible rfl))); (focus assumption)) | (apply tkF 22 8388607 hg; (focus rfl); (focus rfl); (focus kernel_rfl); (focus assumption)))
        try simp only [Act.put, List.setIfInBounds_toArray, List.set_cons_zero, List.set_cons_succ]
        (apply tkT 23 16777215 hg; (focus rfl); (focus rfl); (focus kernel_rfl); (focus (intro w0 hSw; (try dsimp only at hSw); go_simp; try (with_reducible rfl))); (focus assumption))
        try simp only [Act.put, List.setIfInBounds_toArray, List.set_cons_zero, List.set_cons_succ]
        (apply tkT 24 33554431 hg; (focus rfl); (focus rfl); (focus kernel_rfl); (focus (intro w0 hSw; (try dsimp only at hSw); go_simp; try (with_reducible rfl))); (focus assumption))
        try simp only [Act.put, List.setIfInBounds_toArray, List.set_cons_zero, List.set_cons_succ]
        (first | (apply tkT 25 67108863 hg; (focus rfl); (focus rfl); (focus kernel_rfl); (focus (intro w0 hSw; (try dsimp only at hSw); go_simp; try (with_reducible rfl))); (focus assumption)) | (apply tkF 25 67108863 hg; (focus rfl); (focus rfl); (focus kernel_rfl); (focus assumption)))
        try simp only [Act.put, List.setIfInBounds_toArray, List.set_cons_zero, List.set_cons_succ]
        (first | (apply tkT 26 134217727 hg; (focus rfl); (focus rfl); (focus kernel_rfl); (focus (intro w0 hSw; (try dsimp only at hSw); go_simp; try (with_reducible rfl))); (focus assumption)) | (apply tkF 26 134217727 hg; (focus rfl); (focus rfl); (focus kernel_rfl); (focus assumption)))
        try simp only [Act.put, List.setIfInBounds_toArray, List.set_cons_zero, List.set_cons_succ]
        (first | (apply tkT 27 268435455 hg; (focus rfl); (focus rfl); (focus kernel_rfl); (focus (intro w0 hSw; (try dsimp only at hSw); go_simp; try (with_reducible rfl))); (focus assumption)) | (apply tkF 27 268435455 hg; (focus rfl); (focus rfl); (focus kernel_rfl); (focus assumption)))
        try simp only [Act.put, List.setIfInBounds_toArray, List.set_cons_zero, List.set_cons_succ]
        (first | (apply tkT 28 536870911 hg; (focus rfl); (focus rfl); (focus kernel_rfl); (focus (intro w0 hSw; (try dsimp only at hSw); go_simp; try (with_reducible rfl))); (focus assumption)) | (apply tkF 28 536870911 hg; (focus rfl); (focus rfl); (focus kernel_rfl); (focus assumption)))
        try simp only [Act.put, List.setIfInBounds_toArray, List.set_cons_zero, List.set_cons_succ]
        (first | (apply tkT 29 1073741823 hg; (focus rfl); (focus rfl); (focus kernel_rfl); (focus (intro w0 hSw; (try dsimp only at hSw); go_simp; try (with_reducible rfl))); (focus assumption)) | (apply tkF 29 1073741823 hg; (focus rfl); (focus rfl); (focus kernel_rfl); (focus assumption)))
        try simp only [Act.put, List.setIfInBounds_toArray, List.set_cons_zero, List.set_cons_succ]
        (apply tkT 30 2147483647 hg; (focus rfl); (focus rfl); (focus kernel_rfl); (focus (intro w0 hSw; (try dsimp only at hSw); go_simp; try (with_reducible rfl))); (focus assumption))
        try simp only [Act.put, List.setIfInBounds_toArray, List.set_cons_zero, List.set_cons_succ]
        (apply tkT 31 4294967295 hg; (focus rfl); (focus rfl); (focus kernel_rfl); (focus (intro w0 hSw; (try dsimp only at hSw); go_simp; try (with_reducible rfl))); (focus assumption))
        try simp only [Act.put, List.setIfInBounds_toArray, List.set_cons_zero, List.set_cons_succ]
        (first | (apply tkT 32 8589934591 hg; (focus rfl); (focus rfl); (focus kernel_rfl); (focus (intro w0 hSw; (try dsimp only at hSw); go_simp; try (with_reducible rfl))); (focus assumption)) | (apply tkF 32 8589934591 hg; (focus rfl); (focus rfl); (focus kernel_rfl); (focus assumption)))
        try simp only [Act.put, List.setIfInBounds_toArray, List.set_cons_zero, List.set_cons_succ]
        (first | (apply tkT 33 17179869183 hg; (focus rfl); (focus rfl); (focus kernel_rfl); (focus (intro w0 hSw; (try dsimp only at hSw); go_simp; try (with_reducible rfl))); (focus assumption)) | (apply tkF 33 17179869183 hg; (focus rfl); (focus rfl); (focus kernel_rfl); (focus assumption)))
        try simp only [Act.put, List.setIfInBounds_toArray, List.set_cons_zero, List.set_cons_succ]
        (first | (apply tkT 34 34359738367 hg; (focus rfl); (focus rfl); (focus kernel_rfl); (focus (intro w0 hSw; (try dsimp only at hSw); go_simp; try (with_reducible rfl))); (focus assumption)) | (apply tkF 34 34359738367 hg; (focus rfl); (focus rfl); (focus kernel_rfl); (focus assumption)))
        try simp only [Act.put, List.setIfInBounds_toArray, List.set_cons_zero, List.set_cons_succ]
        (first | (apply tkT 35 68719476735 hg; (focus rfl); (focus rfl); (focus kernel_rfl); (focus (intro w0 hSw; (try dsimp only at hSw); go_simp; try (with_reducible rfl))); (focus assumption)) | (apply tkF 35 68719476735 hg; (focus rfl); (focus rfl); (focus kernel_rfl); (focus assumption)))
        try simp only [Act.put, List.setIfInBounds_toArray, List.set_cons_zero, List.set_cons_succ]
        (first | (apply tkT 36 137438953471 hg; (focus rfl); (focus rfl); (focus kernel_rfl); (focus (intro w0 hSw; (try dsimp only at hSw); go_simp; try (with_reducible rfl))); (focus assumption)) | (apply tkF 36 137438953471 hg; (focus rfl); (focus rfl); (focus kernel_rfl); (focus assumption)))
        try simp only [Act.put, List.setIfInBounds_toArray, List.set_cons_zero, List.set_cons_succ]
        (apply tkT 37 274877906943 hg; (focus rfl); (focus rfl); (focus kernel_rfl); (focus (intro w0 hSw; (try dsimp only at hSw); go_simp; try (with_reducible rfl))); (focus assumption))
        try simp only [Act.put, List.setIfInBounds_toArray, List.set_cons_zero, List.set_cons_succ]
        (apply tkT 38 549755813887 hg; (focus rfl); (focus rfl); (focus kernel_rfl); (focus (intro w0 hSw; (try dsimp only at hSw); go_simp; try (with_reducible rfl))); (focus assumption))
        try simp only [Act.put, List.setIfInBounds_toArray, List.set_cons_zero, List.set_cons_succ]
        (first | (apply tkT 39 1099511627775 hg; (focus rfl); (focus rfl); (focus kernel_rfl); (focus (intro w0 hSw; (try dsimp only at hSw); go_simp; try (with_reducible rfl))); (focus assumption)) | (apply tkF 39 1099511627775 hg; (focus rfl); (focus rfl); (focus kernel_rfl); (focus assumption)))
        try simp only [Act.put, List.setIfInBounds_toArray, List.set_cons_zero, List.set_cons_succ]
        (first | (apply tkT 40 2199023255551 hg; (focus rfl); (focus rfl); (focus kernel_rfl); (focus (intro w0 hSw; (try dsimp only at hSw); go_simp; try (with_reducible rfl))); (focus assumption)) | (apply tkF 40 2199023255551 hg; (focus rfl); (focus rfl); (focus kernel_rfl); (focus assumption)))
        try simp only [Act.put, List.setIfInBounds_toArray, List.set_cons_zero, List.set_cons_succ]
        (first | (apply tkT 41 4398046511103 hg; (focus rfl); (focus rfl); (focus kernel_rfl); (focus (intro w0 hSw; (try dsimp only at hSw); go_simp; try (with_reducible rfl))); (focus assumption)) | (apply tkF 41 4398046511103 hg; (focus rfl); (focus rfl); (focus kernel_rfl); (focus assumption)))
        try simp only [Act.put, List.setIfInBounds_toArray, List.set_cons_zero, List.set_cons_succ]
        (first | (apply tkT 42 8796093022207 hg; (focus rfl); (focus rfl); (focus kernel_rfl); (focus (intro w0 hSw; (try dsimp only at hSw); go_simp; try (with_reducible rfl))); (focus assumption)) | (apply tkF 42 8796093022207 hg; (focus rfl); (focus rfl); (focus kernel_rfl); (focus assumption)))
        try simp only [Act.put, List.setIfInBounds_toArray, List.set_cons_zero, List.set_cons_succ]
        (first | (apply tkT 43 17592186044415 hg; (focus rfl); (focus rfl); (focus kernel_rfl); (focus (intro w0 hSw; (try dsimp only at hSw); go_simp; try (with_reducible rfl))); (focus assumption)) | (apply tkF 43 17592186044415 hg; (focus rfl); (focus rfl); (focus kernel_rfl); (focus assumption)))
        try simp only [Act.put, List.setIfInBounds_toArray, List.set_cons_zero, List.set_cons_succ]
        (apply tkT 44 35184372088831 hg; (focus rfl); (focus rfl); (focus kernel_rfl); (focus (intro w0 hSw; (try dsimp only at hSw); go_simp; try (with_reducible rfl))); (focus assumption))
        try simp only [Act.put, List.setIfInBounds_toArray, List.set_cons_zero, List.set_cons_succ]
        (apply tkT 45 70368744177663 hg; (focus rfl); (focus rfl); (focus kernel_rfl); (focus (intro w0 hSw; (try dsimp only at hSw); go_simp; try (with_reducible rfl))); (focus assumption))
        try simp only [Act.put, List.setIfInBounds_toArray, List.set_cons_zero, List.set_cons_succ]
        (first | (apply tkT 46 140737488355327 hg; (focus rfl); (focus rfl); (focus kernel_rfl); (focus (intro w0 hSw; (try dsimp only at hSw); go_simp; try (with_reducible rfl))); (focus assumption)) | (apply tkF 46 140737488355327 hg; (focus rfl); (focus rfl); (focus kernel_rfl); (focus assumption)))
        try simp only [Act.put, List.setIfInBounds_toArray, List.set_cons_zero, List.set_cons_succ]
        (first | (apply tkT 48 422212465065983 hg; (focus rfl); (focus rfl); (focus kernel_rfl); (focus (intro w0 hSw; (try dsimp only at hSw); go_simp; try (with_reducible rfl))); (focus assumption)) | (apply tkF 48 422212465065983 hg; (focus rfl); (focus rfl); (focus kernel_rfl); (focus assumption)))
        try simp only [Act.put, List.setIfInBounds_toArray, List.set_cons_zero, List.set_cons_succ]
        (apply act1 47 562949953421311 hg; (focus rfl); (focus rfl); (focus kernel_rfl))
        intro K hK
        go_simp
        refine (pop_calls (j.push f) a1 _ (Now _) (Sub.now _) (HA.out.step (Below.refl _ _).drew) (by have := PP.out; omega)).mono ?_; rintro e u10_1 h; obtain ⟨x9, rfl, hj, hb⟩ := (show RetJ _ (Now _) j e u10_1 from by have h2 : RetJ _ (Now _) (j.push f).pop e u10_1 := h; rw [pop_push] at h2; exact h2).now; replace hb : Below v10.heap.size v10 u10_1 := Below.undrew hb; have D1 := Lib.hid hb; have S1 := keep8 hb S0; have HX := Lib.hid hj; clear hj; clear h hb
        refine hK.out _ _ ?_ (fun hHeld => ?_)
        · (try dsimp only); (first | exact S2 | exact S1 | exact S0)
        clear hK K
        try simp only [Act.put, List.setIfInBounds_toArray, List.set_cons_zero, List.set_cons_succ]
        (apply act1 49 1125899906842623 hg; (focus rfl); (focus rfl); (focus kernel_rfl))
        intro K hK
        go_simp
        refine (same_calls j j x9 a _ (Now _) (Sub.now _) HX.out (HJ.out.step D1.out) (by have := PP.out.1; omega) (fun f hf => by have := PP.out.2.1 f hf; omega) (by have := PP.out; omega) (by have := PP.out; omega)).mono ?_; rintro e u10_2 h; obtain ⟨rfl, hb⟩ := (show RetB _ true e u10_2 from by rw [show decide (j = j) = true by simp] at h; exact h); have D2 := Lib.hid (D1.out.trans (hb.mono D1.out.size)); have S2 := keep8 hb S1; clear HX; clear h hb
        refine hK.out _ _ ?_ (fun hHeld => ?_)
        · (try dsimp only); (first | exact S2 | exact S1 | exact S0)
        clear hK K
        try simp only [Act.put, List.setIfInBounds_toArray, List.set_cons_zero, List.set_cons_succ]
        (apply tkT 50 2251799813685247 hg; (focus rfl); (focus rfl); (focus kernel_rfl); (focus (intro w0 hSw; (try dsimp only at hSw); go_simp; try (with_reducible rfl))); (focus assumption))
        try simp only [Act.put, List.setIfInBounds_toArray, List.set_cons_zero, List.set_cons_succ]
        (apply tkT 51 4503599627370495 hg; (focus rfl); (focus rfl); (focus kernel_rfl); (focus (intro w0 hSw; (try dsimp only at hSw); go_simp; try (with_reducible rfl))); (focus assumption))
        try simp only [Act.put, List.setIfInBounds_toArray, List.set_cons_zero, List.set_cons_succ]
        (first | (apply tkT 52 9007199254740991 hg; (focus rfl); (focus rfl); (focus kernel_rfl); (focus (intro w0 hSw; (try dsimp only at hSw); go_simp; try (with_reducible rfl))); (focus assumption)) | (apply tkF 52 9007199254740991 hg; (focus rfl); (focus rfl); (focus kernel_rfl); (focus assumption)))
        try simp only [Act.put, List.setIfInBounds_toArray, List.set_cons_zero, List.set_cons_succ]
        (first | (apply tkT 53 18014398509481983 hg; (focus rfl); (focus rfl); (focus kernel_rfl); (focus (intro w0 hSw; (try dsimp only at hSw); go_simp; try (with_reducible rfl))); (focus assumption)) | (apply tkF 53 18014398509481983 hg; (focus rfl); (focus rfl); (focus kernel_rfl); (focus assumption)))
        try simp only [Act.put, List.setIfInBounds_toArray, List.set_cons_zero, List.set_cons_succ]
        (first | (apply tkT 54 36028797018963967 hg; (focus rfl); (focus rfl); (focus kernel_rfl); (focus (intro w0 hSw; (try dsimp only at hSw); go_simp; try (with_reducible rfl))); (focus assumption)) | (apply tkF 54 36028797018963967 hg; (focus rfl); (focus rfl); (focus kernel_rfl); (focus assumption)))
        try simp only [Act.put, List.setIfInBounds_toArray, List.set_cons_zero, List.set_cons_succ]
        (first | (apply tkT 55 72057594037927935 hg; (focus rfl); (focus rfl); (focus kernel_rfl); (focus (intro w0 hSw; (try dsimp only at hSw); go_simp; try (with_reducible rfl))); (focus assumption)) | (apply tkF 55 72057594037927935 hg; (focus rfl); (focus rfl); (focus kernel_rfl); (focus assumption)))
        try simp only [Act.put, List.setIfInBounds_toArray, List.set_cons_zero, List.set_cons_succ]
        (first | (apply tkT 56 144115188075855871 hg; (focus rfl); (focus rfl); (focus kernel_rfl); (focus (intro w0 hSw; (try dsimp only at hSw); go_simp; try (with_reducible rfl))); (focus assumption)) | (apply tkF 56 144115188075855871 hg; (focus rfl); (focus rfl); (focus kernel_rfl); (focus assumption)))
        try simp only [Act.put, List.setIfInBounds_toArray, List.set_cons_zero, List.set_cons_succ]
        (first | (apply tkT 57 288230376151711743 hg; (focus rfl); (focus rfl); (focus kernel_rfl); (focus (intro w0 hSw; (try dsimp only at hSw); go_simp; try (with_reducible rfl))); (focus assumption)) | (apply tkF 57 288230376151711743 hg; (focus rfl); (focus rfl); (focus kernel_rfl); (focus assumption)))
        try simp only [Act.put, List.setIfInBounds_toArray, List.set_cons_zero, List.set_cons_succ]
        (first | (apply tkT 58 576460752303423487 hg; (focus rfl); (focus rfl); (focus kernel_rfl); (focus (intro w0 hSw; (try dsimp only at hSw); go_simp; try (with_reducible rfl))); (focus assumption)) | (apply tkF 58 576460752303423487 hg; (focus rfl); (focus rfl); (focus kernel_rfl); (focus assumption)))
        try simp only [Act.put, List.setIfInBounds_toArray, List.set_cons_zero, List.set_cons_succ]
        (first | (apply tkT 59 1152921504606846975 hg; (focus rfl); (focus rfl); (focus kernel_rfl); (focus (intro w0 hSw; (try dsimp only at hSw); go_simp; try (with_reducible rfl))); (focus assumption)) | (apply tkF 59 1152921504606846975 hg; (focus rfl); (focus rfl); (focus kernel_rfl); (focus assumption)))
        try simp only [Act.put, List.setIfInBounds_toArray, List.set_cons_zero, List.set_cons_succ]
        (apply tkT 60 2305843009213693951 hg; (focus rfl); (focus rfl); (focus kernel_rfl); (focus (intro w0 hSw; (try dsimp only at hSw); go_simp; try (with_reducible rfl))); (focus assumption))
        try simp only [Act.put, List.setIfInBounds_toArray, List.set_cons_zero, List.set_cons_succ]
        (apply tkT 61 4611686018427387903 hg; (focus rfl); (focus rfl); (focus kernel_rfl); (focus (intro w0 hSw; (try dsimp only at hSw); go_simp; try (with_reducible rfl))); (focus assumption))
        try simp only [Act.put, List.setIfInBounds_toArray, List.set_cons_zero, List.set_cons_succ]
        refine actE hg (by kernel_rfl) ?_
        have C := D2.out
        replace BB := Lib.hid (BB.out.trans (C.mono BB.out.size))
        try replace HJ := Lib.hid (HJ.out.step C)
        try replace HF := Lib.hid (HF.out.step C)
        try replace HG := Lib.hid (HG.out.step C)
        try replace HA := Lib.hid (HA.out.step C)
        try replace HB := Lib.hid (HB.out.step C)
        replace Hj := Lib.hid (Hj.out.step C)
        replace Hx := Lib.hid (Hx.out.step C)
        replace Hq := Lib.hid (Hq.out.step C)
        replace Ha := Lib.hid (Ha.out.step C)
        replace Hb := Lib.hid (Hb.out.step C)
        replace Ht := Lib.hid (Ht.out.step C)
        replace Hu := Lib.hid (Hu.out.step C)
        replace Hm := Lib.hid (Hm.out.step C)
        replace Hl := Lib.hid (Hl.out.step C)
        clear C S0 S1 S2 D1 D2
        go_wp2
        go_ret
        exact ⟨rfl, BB.out⟩
    · intro K hK
      go_simp
      refine K_at (K := K) fun u8_2 hW => ?_
      have hb : Below u8_1.heap.size u8_1 u8_2 := by rw [hW]; exact (Below.refl _ _).alloc (Nat.le_refl _) _
      have Y : Box u8_2 u8_1.heap.size #[.int .i64 0, .string ⟨#[]⟩, .slice none 0 0] := ⟨_, by rw [hW]; exact blk_new _ rfl⟩
      obtain ⟨bm, hbx⟩ : ∃ b, b = u8_1.heap.size := ⟨_, rfl⟩
      try simp only [drew_size] at hbx Y
      rw [← hbx] at Y ⊢
      have hbl : v7.heap.size ≤ bm := by rw [hbx]; exact D0.out.size
      have Hm := Lib.hid Y
      clear hW Y hbx
      replace D0 := Lib.hid (D0.out.trans (hb.mono D0.out.size))
      replace S0 := keep2 hb S0
      replace HX := Lib.hid (HX.out.step hb)
      clear hb
      refine hK.out _ _ ?_ (fun hHeld => ?_)
      · (try dsimp only); exact S0
      clear hK K
      try simp only [Act.put, List.setIfInBounds_toArray, List.set_cons_zero, List.set_cons_succ]
      (apply act1 3 271 hg; (focus rfl); (focus rfl); (focus kernel_rfl))
      intro K hK
      go_simp
      refine (push_calls j x1 g ga _ (Now _) (Sub.now _) HX.out (HG.out.step D0.out) (by have := PP.out.1; omega)).mono ?_
      rintro e u8_3 h
      obtain ⟨x2, rfl, hj, hb⟩ := (show RetJ _ (Now _) (j.push g) e u8_3 from h).now
      replace D0 := Lib.hid (D0.out.trans (hb.mono D0.out.size))
      replace S0 := keep2 hb S0
      clear HX
      replace Hm := Lib.hid (Hm.out.step hb)
      have HX2 := Lib.hid hj
      clear hb h hj
      refine hK.out _ _ ?_ (fun hHeld => ?_)
      · (try dsimp only); exact S0
      clear hK K
      try simp only [Act.put, List.setIfInBounds_toArray, List.set_cons_zero, List.set_cons_succ]
      (apply act1 4 287 hg; (focus rfl); (focus rfl); (focus kernel_rfl))
      intro K hK
      go_simp
      refine (top_calls (j.push g) x2 _ (Now _) (Sub.now _) HX2.out (by have := PP.out; omega) (by have := PP.out; omega)).mono ?_
      rintro e u8_4 h
      rw [push_top] at h
      obtain ⟨s3, rfl, hj, hb⟩ := (show RetF _ (Now _) g true e u8_4 from h).now
      clear hj
      replace D0 := Lib.hid (D0.out.trans (hb.mono D0.out.size))
      replace S0 := keep2 hb S0
      clear HX2
      replace Hm := Lib.hid (Hm.out.step hb)
      clear hb h
      refine hK.out _ _ ?_ (fun hHeld => ?_)
      · (try dsimp only); exact S0
      clear hK K
      try simp only [Act.put, List.setIfInBounds_toArray, List.set_cons_zero, List.set_cons_succ]
      (apply tkT 5 319 hg; (focus rfl); (focus rfl); (focus kernel_rfl); (focus (intro w0 hSw; (try dsimp only at hSw); go_simp; try (with_reducible rfl))); (focus assumption))
      try simp only [Act.put, List.setIfInBounds_toArray, List.set_cons_zero, List.set_cons_succ]
      (apply tkT 6 383 hg; (focus rfl); (focus rfl); (focus kernel_rfl); (focus (intro w0 hSw; (try dsimp only at hSw); go_simp; try (with_reducible rfl))); (focus assumption))
      try simp only [Act.put, List.setIfInBounds_toArray, List.set_cons_zero, List.set_cons_succ]
      (apply tkT 7 511 hg; (focus rfl); (focus rfl); (focus kernel_rfl); (focus (intro w0 hSw; (try dsimp only at hSw); go_simp; try (with_reducible rfl))); (focus assumption))
      try simp only [Act.put, List.setIfInBounds_toArray, List.set_cons_zero, List.set_cons_succ]
      (apply act1 9 1023 hg; (focus rfl); (focus rfl); (focus kernel_rfl))
      intro K hK
      have i_ := Hm.out.isRow; have r_ := Hm.out.row
      (apply wp_st_row 46 3; (focus rfl); (focus rfl); (focus go_simp); (focus kernel_rfl); (focus rfl); (focus (first | (simp [Value.oneCell']; done) | (simp [Value.oneCell', Job.cells]; done))))
      refine K_at (K := K) fun u8_5 hW => ?_
      have hb : Below bm u8_4 u8_5 := by rw [hW]; exact Below.setRow_ (Below.refl _ _) (Nat.le_refl _) _
      have Y : Box u8_5 bm #[.int .i64 g.fd, .string g.name, .slice s3.a g.names.length s3.c] := by obtain ⟨t, h⟩ := Hm.out; exact ⟨t, by rw [hW]; exact blk_row h⟩
      clear hW i_ r_
      replace D0 := Lib.hid (D0.out.trans (hb.mono hbl))
      have S1 : (isRow u8_5 ba = true ∧ isRow u8_5 bq = true) ∧ row u8_5 ba = ((j.push f).cells a1).toArray ∧ row u8_5 bq = #[.int .i64 g.fd, .string g.name, .slice ga.a g.names.length ga.c] := keep2 D0.out (⟨⟨Ha.out.isRow, Hq.out.isRow⟩, Ha.out.row, Hq.out.row⟩)
      clear S0
      have S0 := S1
      clear S1
      replace Hm := Lib.hid Y
      clear hb Y hbl
      refine hK.out _ _ ?_ (fun hHeld => ?_)
      · (try dsimp only); exact S0
      clear hK K
      try simp only [Act.put, List.setIfInBounds_toArray, List.set_cons_zero, List.set_cons_succ]
      (apply tkT 10 2047 hg; (focus rfl); (focus rfl); (focus kernel_rfl); (focus (intro w0 hSw; (try dsimp only at hSw); go_simp; try (with_reducible rfl))); (focus assumption))
      try simp only [Act.put, List.setIfInBounds_toArray, List.set_cons_zero, List.set_cons_succ]
      refine actE hg (by kernel_rfl) ?_
      have C := D0.out
      replace BB := Lib.hid (BB.out.trans (C.mono BB.out.size))
      replace Hj := Lib.hid (Hj.out.step C)
      replace Hx := Lib.hid (Hx.out.step C)
      replace Hq := Lib.hid (Hq.out.step C)
      replace Ha := Lib.hid (Ha.out.step C)
      replace Hb := Lib.hid (Hb.out.step C)
      replace Ht := Lib.hid (Ht.out.step C)
      replace Hu := Lib.hid (Hu.out.step C)
      replace HJ := Lib.hid (HJ.out.step C)
      replace HF := Lib.hid (HF.out.step C)
      replace HG := Lib.hid (HG.out.step C)
      replace HA := Lib.hid (HA.out.step C)
      replace HB := Lib.hid (HB.out.step C)
      clear C D0 S0
      have ij := Hj.out.isRow; have rj := Hj.out.row; have lj := Hj.out.lt; have nj : ¬ bj = u8_5.heap.size := Nat.ne_of_lt lj; have mj : ¬ u8_5.heap.size = bj := fun h => nj h.symm
      have ix := Hx.out.isRow; have rx := Hx.out.row; have lx := Hx.out.lt; have nx : ¬ bx = u8_5.heap.size := Nat.ne_of_lt lx; have mx : ¬ u8_5.heap.size = bx := fun h => nx h.symm
      have iq := Hq.out.isRow; have rq := Hq.out.row; have lq := Hq.out.lt; have nq : ¬ bq = u8_5.heap.size := Nat.ne_of_lt lq; have mq : ¬ u8_5.heap.size = bq := fun h => nq h.symm
      have ia := Ha.out.isRow; have ra := Ha.out.row; have la := Ha.out.lt; have na : ¬ ba = u8_5.heap.size := Nat.ne_of_lt la; have ma : ¬ u8_5.heap.size = ba := fun h => na h.symm
      have ib := Hb.out.isRow; have rb := Hb.out.row; have lb := Hb.out.lt; have nb : ¬ bb = u8_5.heap.size := Nat.ne_of_lt lb; have mb : ¬ u8_5.heap.size = bb := fun h => nb h.symm
      have it := Ht.out.isRow; have rt := Ht.out.row; have lt := Ht.out.lt; have nt : ¬ bt = u8_5.heap.size := Nat.ne_of_lt lt; have mt : ¬ u8_5.heap.size = bt := fun h => nt h.symm
      have iu := Hu.out.isRow; have ru := Hu.out.row; have lu := Hu.out.lt; have nu : ¬ bu = u8_5.heap.size := Nat.ne_of_lt lu; have mu : ¬ u8_5.heap.size = bu := fun h => nu h.symm
      have im := Hm.out.isRow; have rm := Hm.out.row; have lm := Hm.out.lt; have nm : ¬ bm = u8_5.heap.size := Nat.ne_of_lt lm; have mm : ¬ u8_5.heap.size = bm := fun h => nm h.symm
      go_wp2_with (first | (apply ld_row 27 19; (focus rfl); (focus go_simp); (focus (go_simp; rfl)); (focus (exact Tryd.underlying27)); (focus kernel_rfl)) | (apply st_row 27 19; (focus rfl); (focus rfl); (focus go_simp); (focus kernel_rfl); (focus rfl); (focus (first | (simp [Value.oneCell']; done) | (simp [Value.oneCell', Job.cells]; done)))) | (apply ld_row 46 3; (focus rfl); (focus go_simp); (focus (go_simp; rfl)); (focus (exact Tryd.underlying46)); (focus kernel_rfl)) | (apply st_row 46 3; (focus rfl); (focus rfl); (focus go_simp); (focus kernel_rfl); (focus rfl); (focus (first | (simp [Value.oneCell']; done) | (simp [Value.oneCell', Job.cells]; done)))) | fail)
      refine Calls.at_ fun W hW => ?_
      have B0 : Below u8_5.heap.size u8_5 W := by rw [hW]; repeat' (first | with_reducible refine Below.alloc ?_ ?_ _ | with_reducible refine Below.setRow_ ?_ ?_ _ | with_reducible refine Below.setCell ?_ ?_ _ | with_reducible refine Below.drew ?_ | with_reducible refine Below.drewN_ ?_ _ | with_reducible exact Below.refl _ _ | assumption | (simp; done) | (simp; omega) | omega)
      clear hW
      refine (top_calls (j.push f) a1 W (Now W) (Sub.now W) (HA.out.step B0) (by have := PP.out; omega) (by have := PP.out; omega)).mono ?_
      rintro e w9 h
      rw [push_top] at h
      obtain ⟨s4, rfl, hj, hb⟩ := (show RetF W (Now W) f true e w9 from h).now
      have C := B0.trans (hb.mono B0.size)
      replace BB := Lib.hid (BB.out.trans (C.mono BB.out.size))
      replace HJ := Lib.hid (HJ.out.step C)
      replace HF := Lib.hid (HF.out.step C)
      replace HG := Lib.hid (HG.out.step C)
      replace HA := Lib.hid (HA.out.step C)
      replace HB := Lib.hid (HB.out.step C)
      clear ij rj lj nj mj
      replace Hj := Lib.hid (Hj.out.step C)
      clear ix rx lx nx mx
      replace Hx := Lib.hid (Hx.out.step C)
      clear iq rq lq nq mq
      replace Hq := Lib.hid (Hq.out.step C)
      clear ia ra la na ma
      replace Ha := Lib.hid (Ha.out.step C)
      clear ib rb lb nb mb
      replace Hb := Lib.hid (Hb.out.step C)
      clear it rt lt nt mt
      replace Ht := Lib.hid (Ht.out.step C)
      clear iu ru lu nu mu
      replace Hu := Lib.hid (Hu.out.step C)
      clear im rm lm nm mm
      replace Hm := Lib.hid (Hm.out.step C)
      have ij := Hj.out.isRow; have rj := Hj.out.row; have lj := Hj.out.lt; have nj : ¬ bj = w9.heap.size := Nat.ne_of_lt lj; have mj : ¬ w9.heap.size = bj := fun h => nj h.symm
      have ix := Hx.out.isRow; have rx := Hx.out.row; have lx := Hx.out.lt; have nx : ¬ bx = w9.heap.size := Nat.ne_of_lt lx; have mx : ¬ w9.heap.size = bx := fun h => nx h.symm
      have iq := Hq.out.isRow; have rq := Hq.out.row; have lq := Hq.out.lt; have nq : ¬ bq = w9.heap.size := Nat.ne_of_lt lq; have mq : ¬ w9.heap.size = bq := fun h => nq h.symm
      have ia := Ha.out.isRow; have ra := Ha.out.row; have la := Ha.out.lt; have na : ¬ ba = w9.heap.size := Nat.ne_of_lt la; have ma : ¬ w9.heap.size = ba := fun h => na h.symm
      have ib := Hb.out.isRow; have rb := Hb.out.row; have lb := Hb.out.lt; have nb : ¬ bb = w9.heap.size := Nat.ne_of_lt lb; have mb : ¬ w9.heap.size = bb := fun h => nb h.symm
      have it := Ht.out.isRow; have rt := Ht.out.row; have lt := Ht.out.lt; have nt : ¬ bt = w9.heap.size := Nat.ne_of_lt lt; have mt : ¬ w9.heap.size = bt := fun h => nt h.symm
      have iu := Hu.out.isRow; have ru := Hu.out.row; have lu := Hu.out.lt; have nu : ¬ bu = w9.heap.size := Nat.ne_of_lt lu; have mu : ¬ w9.heap.size = bu := fun h => nu h.symm
      have im := Hm.out.isRow; have rm := Hm.out.row; have lm := Hm.out.lt; have nm : ¬ bm = w9.heap.size := Nat.ne_of_lt lm; have mm : ¬ w9.heap.size = bm := fun h => nm h.symm
      clear h hb C B0 W hj
      go_wp2_with (first | (apply ld_row 27 19; (focus rfl); (focus go_simp); (focus (go_simp; rfl)); (focus (exact Tryd.underlying27)); (focus kernel_rfl)) | (apply st_row 27 19; (focus rfl); (focus rfl); (focus go_simp); (focus kernel_rfl); (focus rfl); (focus (first | (simp [Value.oneCell']; done) | (simp [Value.oneCell', Job.cells]; done)))) | (apply ld_row 46 3; (focus rfl); (focus go_simp); (focus (go_simp; rfl)); (focus (exact Tryd.underlying46)); (focus kernel_rfl)) | (apply st_row 46 3; (focus rfl); (focus rfl); (focus go_simp); (focus kernel_rfl); (focus rfl); (focus (first | (simp [Value.oneCell']; done) | (simp [Value.oneCell', Job.cells]; done)))) | fail)
      refine Code.at_ fun v10 hW => ?_
      have B0 : Below w9.heap.size w9 v10 := by rw [hW]; repeat' (first | with_reducible refine Below.alloc ?_ ?_ _ | with_reducible refine Below.setRow_ ?_ ?_ _ | with_reducible refine Below.setCell ?_ ?_ _ | with_reducible refine Below.drew ?_ | with_reducible refine Below.drewN_ ?_ _ | with_reducible exact Below.refl _ _ | assumption | (simp; done) | (simp; omega) | omega)
      have Hl := Lib.hid (show Box v10 (w9.heap.size) #[.int .i64 f.fd, .string f.name, .slice s4.a f.names.length s4.c] from ⟨_, by rw [hW]; (try rw [setRow_alloc, if_pos rfl]); exact blk_new _ (by first | rfl | simp)⟩)
      clear hW
      have C := B0
      replace BB := Lib.hid (BB.out.trans (C.mono BB.out.size))
      replace HJ := Lib.hid (HJ.out.step C)
      replace HF := Lib.hid (HF.out.step C)
      replace HG := Lib.hid (HG.out.step C)
      replace HA := Lib.hid (HA.out.step C)
      replace HB := Lib.hid (HB.out.step C)
      clear ij rj lj nj mj
      replace Hj := Lib.hid (Hj.out.step C)
      clear ix rx lx nx mx
      replace Hx := Lib.hid (Hx.out.step C)
      clear iq rq lq nq mq
      replace Hq := Lib.hid (Hq.out.step C)
      clear ia ra la na ma
      replace Ha := Lib.hid (Ha.out.step C)
      clear ib rb lb nb mb
      replace Hb := Lib.hid (Hb.out.step C)
      clear it rt lt nt mt
      replace Ht := Lib.hid (Ht.out.step C)
      clear iu ru lu nu mu
      replace Hu := Lib.hid (Hu.out.step C)
      clear im rm lm nm mm
      replace Hm := Lib.hid (Hm.out.step C)
      obtain ⟨bl, hbl⟩ : ∃ b, b = w9.heap.size := ⟨_, rfl⟩
      rw [← hbl] at Hl ⊢
      clear hbl
      clear C B0
      have hc := cells_eq
      have q1 : ((j.push f).stack.length : Int) = (j.stack.length : Int) + 1 := by rw [push_len]; simp
      have hw : IntKind.i64.wrap ((j.stack.length : Int) + 1) = (j.stack.length : Int) + 1 := by have := PP.out.1; rw [IntKind.wrap_i64] <;> omega
      try dsimp only [List.append]
      have S0 : (isRow v10 bj = true ∧ isRow v10 bx = true ∧ isRow v10 bq = true ∧ isRow v10 ba = true ∧ isRow v10 bt = true ∧ isRow v10 bu = true ∧ isRow v10 bm = true ∧ isRow v10 bl = true) ∧ row v10 bj = (j.cells a).toArray ∧ row v10 bx = #[.int .i64 f.fd, .string f.name, .slice fa.a f.names.length fa.c] ∧ row v10 bq = #[.int .i64 g.fd, .string g.name, .slice ga.a g.names.length ga.c] ∧ row v10 ba = ((j.push f).cells a1).toArray ∧ row v10 bt = #[.int .i64 f.fd, .string f.name, .slice s1.a f.names.length s1.c] ∧ row v10 bu = #[.int .i64 g.fd, .string g.name, .slice s2.a g.names.length s2.c] ∧ row v10 bm = #[.int .i64 g.fd, .string g.name, .slice s3.a g.names.length s3.c] ∧ row v10 bl = #[.int .i64 f.fd, .string f.name, .slice s4.a f.names.length s4.c] := ⟨⟨Hj.out.isRow, Hx.out.isRow, Hq.out.isRow, Ha.out.isRow, Ht.out.isRow, Hu.out.isRow, Hm.out.isRow, Hl.out.isRow⟩, Hj.out.row, Hx.out.row, Hq.out.row, Ha.out.row, Ht.out.row, Hu.out.row, Hm.out.row, Hl.out.row⟩
      refine reg0 62 (fun w' => (isRow w' bj = true ∧ isRow w' bx = true ∧ isRow w' bq = true ∧ isRow w' ba = true ∧ isRow w' bt = true ∧ isRow w' bu = true ∧ isRow w' bm = true ∧ isRow w' bl = true) ∧ row w' bj = (j.cells a).toArray ∧ row w' bx = #[.int .i64 f.fd, .string f.name, .slice fa.a f.names.length fa.c] ∧ row w' bq = #[.int .i64 g.fd, .string g.name, .slice ga.a g.names.length ga.c] ∧ row w' ba = ((j.push f).cells a1).toArray ∧ row w' bt = #[.int .i64 f.fd, .string f.name, .slice s1.a f.names.length s1.c] ∧ row w' bu = #[.int .i64 g.fd, .string g.name, .slice s2.a g.names.length s2.c] ∧ row w' bm = #[.int .i64 g.fd, .string g.name, .slice s3.a g.names.length s3.c] ∧ row w' bl = #[.int .i64 f.fd, .string f.name, .slice s4.a f.names.length s4.c]) (by kernel_rfl) (by kernel_rfl) (by kernel_rfl) ?_ (fun l hg hHeld => ?_)
      · (try dsimp only); (first | exact S2 | exact S1 | exact S0)
      (apply tkT 0 1 hg; (focus rfl); (focus rfl); (focus kernel_rfl); (focus (intro w0 hSw; (try dsimp only at hSw); go_simp; try (with_reducible rfl))); (focus assumption))
      try simp only [Act.put, List.setIfInBounds_toArray, List.set_cons_zero, List.set_cons_succ]
      (apply tkT 1 3 hg; (focus rfl); (focus rfl); (focus kernel_rfl); (focus (intro w0 hSw; (try dsimp only at hSw); go_simp; try (with_reducible rfl))); (focus assumption))
      try simp only [Act.put, List.setIfInBounds_toArray, List.set_cons_zero, List.set_cons_succ]
      (first | (apply tkT 2 7 hg; (focus rfl); (focus rfl); (focus kernel_rfl); (focus (intro w0 hSw; (try dsimp only at hSw); go_simp; try (with_reducible rfl))); (focus assumption)) | (apply tkF 2 7 hg; (focus rfl); (focus rfl); (focus kernel_rfl); (focus assumption)))
      try simp only [Act.put, List.setIfInBounds_toArray, List.set_cons_zero, List.set_cons_succ]
      (apply tkT 3 15 hg; (focus rfl); (focus rfl); (focus kernel_rfl); (focus (intro w0 hSw; (try dsimp only at hSw); go_simp; try (with_reducible rfl))); (focus assumption))
      try simp only [Act.put, List.setIfInBounds_toArray, List.set_cons_zero, List.set_cons_succ]
      (apply tkT 4 31 hg; (focus rfl); (focus rfl); (focus kernel_rfl); (focus (intro w0 hSw; (try dsimp only at hSw); go_simp; try (with_reducible rfl))); (focus assumption))
      try simp only [Act.put, List.setIfInBounds_toArray, List.set_cons_zero, List.set_cons_succ]
      (first | (apply tkT 5 63 hg; (focus rfl); (focus rfl); (focus kernel_rfl); (focus (intro w0 hSw; (try dsimp only at hSw); go_simp; try (with_reducible rfl))); (focus assumption)) | (apply tkF 5 63 hg; (focus rfl); (focus rfl); (focus kernel_rfl); (focus assumption)))
      try simp only [Act.put, List.setIfInBounds_toArray, List.set_cons_zero, List.set_cons_succ]
      (apply tkT 6 127 hg; (focus rfl); (focus rfl); (focus kernel_rfl); (focus (intro w0 hSw; (try dsimp only at hSw); go_simp; try (with_reducible rfl))); (focus assumption))
      try simp only [Act.put, List.setIfInBounds_toArray, List.set_cons_zero, List.set_cons_succ]
      (apply tkT 7 255 hg; (focus rfl); (focus rfl); (focus kernel_rfl); (focus (intro w0 hSw; (try dsimp only at hSw); go_simp; try (with_reducible rfl))); (focus assumption))
      try simp only [Act.put, List.setIfInBounds_toArray, List.set_cons_zero, List.set_cons_succ]
      (first | (apply tkT 8 511 hg; (focus rfl); (focus rfl); (focus kernel_rfl); (focus (intro w0 hSw; (try dsimp only at hSw); go_simp; try (with_reducible rfl))); (focus assumption)) | (apply tkF 8 511 hg; (focus rfl); (focus rfl); (focus kernel_rfl); (focus assumption)))
      try simp only [Act.put, List.setIfInBounds_toArray, List.set_cons_zero, List.set_cons_succ]
      (apply tkT 9 1023 hg; (focus rfl); (focus rfl); (focus kernel_rfl); (focus (intro w0 hSw; (try dsimp only at hSw); go_simp; try (with_reducible rfl))); (focus assumption))
      try simp only [Act.put, List.setIfInBounds_toArray, List.set_cons_zero, List.set_cons_succ]
      (apply tkT 10 2047 hg; (focus rfl); (focus rfl); (focus kernel_rfl); (focus (intro w0 hSw; (try dsimp only at hSw); go_simp; try (with_reducible rfl))); (focus assumption))
      try simp only [Act.put, List.setIfInBounds_toArray, List.set_cons_zero, List.set_cons_succ]
      (first | (apply tkT 11 4095 hg; (focus rfl); (focus rfl); (focus kernel_rfl); (focus (intro w0 hSw; (try dsimp only at hSw); go_simp; try (with_reducible rfl))); (focus assumption)) | (apply tkF 11 4095 hg; (focus rfl); (focus rfl); (focus kernel_rfl); (focus assumption)))
      try simp only [Act.put, List.setIfInBounds_toArray, List.set_cons_zero, List.set_cons_succ]
      (first | (apply tkT 12 8191 hg; (focus rfl); (focus rfl); (focus kernel_rfl); (focus (intro w0 hSw; (try dsimp only at hSw); go_simp; try (with_reducible rfl))); (focus assumption)) | (apply tkF 12 8191 hg; (focus rfl); (focus rfl); (focus kernel_rfl); (focus assumption)))
      try simp only [Act.put, List.setIfInBounds_toArray, List.set_cons_zero, List.set_cons_succ]
      (first | (apply tkT 13 16383 hg; (focus rfl); (focus rfl); (focus kernel_rfl); (focus (intro w0 hSw; (try dsimp only at hSw); go_simp; try (with_reducible rfl))); (focus assumption)) | (apply tkF 13 16383 hg; (focus rfl); (focus rfl); (focus kernel_rfl); (focus assumption)))
      try simp only [Act.put, List.setIfInBounds_toArray, List.set_cons_zero, List.set_cons_succ]
      (first | (apply tkT 14 32767 hg; (focus rfl); (focus rfl); (focus kernel_rfl); (focus (intro w0 hSw; (try dsimp only at hSw); go_simp; try (with_reducible rfl))); (focus assumption)) | (apply tkF 14 32767 hg; (focus rfl); (focus rfl); (focus kernel_rfl); (focus assumption)))
      try simp only [Act.put, List.setIfInBounds_toArray, List.set_cons_zero, List.set_cons_succ]
      (first | (apply tkT 15 65535 hg; (focus rfl); (focus rfl); (focus kernel_rfl); (focus (intro w0 hSw; (try dsimp only at hSw); go_simp; try (with_reducible rfl))); (focus assumption)) | (apply tkF 15 65535 hg; (focus rfl); (focus rfl); (focus kernel_rfl); (focus assumption)))
      try simp only [Act.put, List.setIfInBounds_toArray, List.set_cons_zero, List.set_cons_succ]
      (apply tkT 16 131071 hg; (focus rfl); (focus rfl); (focus kernel_rfl); (focus (intro w0 hSw; (try dsimp only at hSw); go_simp; try (with_reducible rfl))); (focus assumption))
      try simp only [Act.put, List.setIfInBounds_toArray, List.set_cons_zero, List.set_cons_succ]
      (apply tkT 17 262143 hg; (focus rfl); (focus rfl); (focus kernel_rfl); (focus (intro w0 hSw; (try dsimp only at hSw); go_simp; try (with_reducible rfl))); (focus assumption))
      try simp only [Act.put, List.setIfInBounds_toArray, List.set_cons_zero, List.set_cons_succ]
      (first | (apply tkT 18 524287 hg; (focus rfl); (focus rfl); (focus kernel_rfl); (focus (intro w0 hSw; (try dsimp only at hSw); go_simp; try (with_reducible rfl))); (focus assumption)) | (apply tkF 18 524287 hg; (focus rfl); (focus rfl); (focus kernel_rfl); (focus assumption)))
      try simp only [Act.put, List.setIfInBounds_toArray, List.set_cons_zero, List.set_cons_succ]
      (first | (apply tkT 19 1048575 hg; (focus rfl); (focus rfl); (focus kernel_rfl); (focus (intro w0 hSw; (try dsimp only at hSw); go_simp; try (with_reducible rfl))); (focus assumption)) | (apply tkF 19 1048575 hg; (focus rfl); (focus rfl); (focus kernel_rfl); (focus assumption)))
      try simp only [Act.put, List.setIfInBounds_toArray, List.set_cons_zero, List.set_cons_succ]
      (first | (apply tkT 20 2097151 hg; (focus rfl); (focus rfl); (focus kernel_rfl); (focus (intro w0 hSw; (try dsimp only at hSw); go_simp; try (with_reducible rfl))); (focus assumption)) | (apply tkF 20 2097151 hg; (focus rfl); (focus rfl); (focus kernel_rfl); (focus assumption)))
      try simp only [Act.put, List.setIfInBounds_toArray, List.set_cons_zero, List.set_cons_succ]
      (first | (apply tkT 21 4194303 hg; (focus rfl); (focus rfl); (focus kernel_rfl); (focus (intro w0 hSw; (try dsimp only at hSw); go_simp; try (with_reducible rfl))); (focus assumption)) | (apply tkF 21 4194303 hg; (focus rfl); (focus rfl); (focus kernel_rfl); (focus assumption)))
      try simp only [Act.put, List.setIfInBounds_toArray, List.set_cons_zero, List.set_cons_succ]
      (first | (apply tkT 22 8388607 hg; (focus rfl); (focus rfl); (focus kernel_rfl); (focus (intro w0 hSw; (try dsimp only at hSw); go_simp; try (with_reducible rfl))); (focus assumption)) | (apply tkF 22 8388607 hg; (focus rfl); (focus rfl); (focus kernel_rfl); (focus assumption)))
      try simp only [Act.put, List.setIfInBounds_toArray, List.set_cons_zero, List.set_cons_succ]
      (apply tkT 23 16777215 hg; (focus rfl); (focus rfl); (focus kernel_rfl); (focus (intro w0 hSw; (try dsimp only at hSw); go_simp; try (with_reducible rfl))); (focus assumption))
      try simp only [Act.put, List.setIfInBounds_toArray, List.set_cons_zero, List.set_cons_succ]
      (apply tkT 24 33554431 hg; (focus rfl); (focus rfl); (focus kernel_rfl); (focus (intro w0 hSw; (try dsimp only at hSw); go_simp; try (with_reducible rfl))); (focus assumption))
      try simp only [Act.put, List.setIfInBounds_toArray, List.set_cons_zero, List.set_cons_succ]
      (first | (apply tkT 25 67108863 hg; (focus rfl); (focus rfl); (focus kernel_rfl); (focus (intro w0 hSw; (try dsimp only at hSw); go_simp; try (with_reducible rfl))); (focus assumption)) | (apply tkF 25 67108863 hg; (focus rfl); (focus rfl); (focus kernel_rfl); (focus assumption)))
      try simp only [Act.put, List.setIfInBounds_toArray, List.set_cons_zero, List.set_cons_succ]
      (first | (apply tkT 26 134217727 hg; (focus rfl); (focus rfl); (focus kernel_rfl); (focus (intro w0 hSw; (try dsimp only at hSw); go_simp; try (with_reducible rfl))); (focus assumption)) | (apply tkF 26 134217727 hg; (focus rfl); (focus rfl); (focus kernel_rfl); (focus assumption)))
      try simp only [Act.put, List.setIfInBounds_toArray, List.set_cons_zero, List.set_cons_succ]
      (first | (apply tkT 27 268435455 hg; (focus rfl); (focus rfl); (focus kernel_rfl); (focus (intro w0 hSw; (try dsimp only at hSw); go_simp; try (with_reducible rfl))); (focus assumption)) | (apply tkF 27 268435455 hg; (focus rfl); (focus rfl); (focus kernel_rfl); (focus assumption)))
      try simp only [Act.put, List.setIfInBounds_toArray, List.set_cons_zero, List.set_cons_succ]
      (first | (apply tkT 28 536870911 hg; (focus rfl); (focus rfl); (focus kernel_rfl); (focus (intro w0 hSw; (try dsimp only at hSw); go_simp; try (with_reducible rfl))); (focus assumption)) | (apply tkF 28 536870911 hg; (focus rfl); (focus rfl); (focus kernel_rfl); (focus assumption)))
      try simp only [Act.put, List.setIfInBounds_toArray, List.set_cons_zero, List.set_cons_succ]
      (first | (apply tkT 29 1073741823 hg; (focus rfl); (focus rfl); (focus kernel_rfl); (focus (intro w0 hSw; (try dsimp only at hSw); go_simp; try (with_reducible rfl))); (focus assumption)) | (apply tkF 29 1073741823 hg; (focus rfl); (focus rfl); (focus kernel_rfl); (focus assumption)))
      try simp only [Act.put, List.setIfInBounds_toArray, List.set_cons_zero, List.set_cons_succ]
      (apply tkT 30 2147483647 hg; (focus rfl); (focus rfl); (focus kernel_rfl); (focus (intro w0 hSw; (try dsimp only at hSw); go_simp; try (with_reducible rfl))); (focus assumption))
      try simp only [Act.put, List.setIfInBounds_toArray, List.set_cons_zero, List.set_cons_succ]
      (apply tkT 31 4294967295 hg; (focus rfl); (focus rfl); (focus kernel_rfl); (focus (intro w0 hSw; (try dsimp only at hSw); go_simp; try (with_reducible rfl))); (focus assumption))
      try simp only [Act.put, List.setIfInBounds_toArray, List.set_cons_zero, List.set_cons_succ]
      (first | (apply tkT 32 8589934591 hg; (focus rfl); (focus rfl); (focus kernel_rfl); (focus (intro w0 hSw; (try dsimp only at hSw); go_simp; try (with_reducible rfl))); (focus assumption)) | (apply tkF 32 8589934591 hg; (focus rfl); (focus rfl); (focus kernel_rfl); (focus assumption)))
      try simp only [Act.put, List.setIfInBounds_toArray, List.set_cons_zero, List.set_cons_succ]
      (first | (apply tkT 33 17179869183 hg; (focus rfl); (focus rfl); (focus kernel_rfl); (focus (intro w0 hSw; (try dsimp only at hSw); go_simp; try (with_reducible rfl))); (focus assumption)) | (apply tkF 33 17179869183 hg; (focus rfl); (focus rfl); (focus kernel_rfl); (focus assumption)))
      try simp only [Act.put, List.setIfInBounds_toArray, List.set_cons_zero, List.set_cons_succ]
      (first | (apply tkT 34 34359738367 hg; (focus rfl); (focus rfl); (focus kernel_rfl); (focus (intro w0 hSw; (try dsimp only at hSw); go_simp; try (with_reducible rfl))); (focus assumption)) | (apply tkF 34 34359738367 hg; (focus rfl); (focus rfl); (focus kernel_rfl); (focus assumption)))
      try simp only [Act.put, List.setIfInBounds_toArray, List.set_cons_zero, List.set_cons_succ]
      (first | (apply tkT 35 68719476735 hg; (focus rfl); (focus rfl); (focus kernel_rfl); (focus (intro w0 hSw; (try dsimp only at hSw); go_simp; try (with_reducible rfl))); (focus assumption)) | (apply tkF 35 68719476735 hg; (focus rfl); (focus rfl); (focus kernel_rfl); (focus assumption)))
      try simp only [Act.put, List.setIfInBounds_toArray, List.set_cons_zero, List.set_cons_succ]
      (first | (apply tkT 36 137438953471 hg; (focus rfl); (focus rfl); (focus kernel_rfl); (focus (intro w0 hSw; (try dsimp only at hSw); go_simp; try (with_reducible rfl))); (focus assumption)) | (apply tkF 36 137438953471 hg; (focus rfl); (focus rfl); (focus kernel_rfl); (focus assumption)))
      try simp only [Act.put, List.setIfInBounds_toArray, List.set_cons_zero, List.set_cons_succ]
      (apply tkT 37 274877906943 hg; (focus rfl); (focus rfl); (focus kernel_rfl); (focus (intro w0 hSw; (try dsimp only at hSw); go_simp; try (with_reducible rfl))); (focus assumption))
      try simp only [Act.put, List.setIfInBounds_toArray, List.set_cons_zero, List.set_cons_succ]
      (apply tkT 38 549755813887 hg; (focus rfl); (focus rfl); (focus kernel_rfl); (focus (intro w0 hSw; (try dsimp only at hSw); go_simp; try (with_reducible rfl))); (focus assumption))
      try simp only [Act.put, List.setIfInBounds_toArray, List.set_cons_zero, List.set_cons_succ]
      (first | (apply tkT 39 1099511627775 hg; (focus rfl); (focus rfl); (focus kernel_rfl); (focus (intro w0 hSw; (try dsimp only at hSw); go_simp; try (with_reducible rfl))); (focus assumption)) | (apply tkF 39 1099511627775 hg; (focus rfl); (focus rfl); (focus kernel_rfl); (focus assumption)))
      try simp only [Act.put, List.setIfInBounds_toArray, List.set_cons_zero, List.set_cons_succ]
      (first | (apply tkT 40 2199023255551 hg; (focus rfl); (focus rfl); (focus kernel_rfl); (focus (intro w0 hSw; (try dsimp only at hSw); go_simp; try (with_reducible rfl))); (focus assumption)) | (apply tkF 40 2199023255551 hg; (focus rfl); (focus rfl); (focus kernel_rfl); (focus assumption)))
      try simp only [Act.put, List.setIfInBounds_toArray, List.set_cons_zero, List.set_cons_succ]
      (first | (apply tkT 41 4398046511103 hg; (focus rfl); (focus rfl); (focus kernel_rfl); (focus (intro w0 hSw; (try dsimp only at hSw); go_simp; try (with_reducible rfl))); (focus assumption)) | (apply tkF 41 4398046511103 hg; (focus rfl); (focus rfl); (focus kernel_rfl); (focus assumption)))
      try simp only [Act.put, List.setIfInBounds_toArray, List.set_cons_zero, List.set_cons_succ]
      (first | (apply tkT 42 8796093022207 hg; (focus rfl); (focus rfl); (focus kernel_rfl); (focus (intro w0 hSw; (try dsimp only at hSw); go_simp; try (with_reducible rfl))); (focus assumption)) | (apply tkF 42 8796093022207 hg; (focus rfl); (focus rfl); (focus kernel_rfl); (focus assumption)))
      try simp only [Act.put, List.setIfInBounds_toArray, List.set_cons_zero, List.set_cons_succ]
      (first | (apply tkT 43 17592186044415 hg; (focus rfl); (focus rfl); (focus kernel_rfl); (focus (intro w0 hSw; (try dsimp only at hSw); go_simp; try (with_reducible rfl))); (focus assumption)) | (apply tkF 43 17592186044415 hg; (focus rfl); (focus rfl); (focus kernel_rfl); (focus assumption)))
      try simp only [Act.put, List.setIfInBounds_toArray, List.set_cons_zero, List.set_cons_succ]
      (apply tkT 44 35184372088831 hg; (focus rfl); (focus rfl); (focus kernel_rfl); (focus (intro w0 hSw; (try dsimp only at hSw); go_simp; try (with_reducible rfl))); (focus assumption))
      try simp only [Act.put, List.setIfInBounds_toArray, List.set_cons_zero, List.set_cons_succ]
      (apply tkT 45 70368744177663 hg; (focus rfl); (focus rfl); (focus kernel_rfl); (focus (intro w0 hSw; (try dsimp only at hSw); go_simp; try (with_reducible rfl))); (focus assumption))
      try simp only [Act.put, List.setIfInBounds_toArray, List.set_cons_zero, List.set_cons_succ]
      (first | (apply tkT 46 140737488355327 hg; (focus rfl); (focus rfl); (focus kernel_rfl); (focus (intro w0 hSw; (try dsimp only at hSw); go_simp; try (with_reducible rfl))); (focus assumption)) | (apply tkF 46 140737488355327 hg; (focus rfl); (focus rfl); (focus kernel_rfl); (focus assumption)))
      try simp only [Act.put, List.setIfInBounds_toArray, List.set_cons_zero, List.set_cons_succ]
      (first | (apply tkT 48 422212465065983 hg; (focus rfl); (focus rfl); (focus kernel_rfl); (focus (intro w0 hSw; (try dsimp only at hSw); go_simp; try (with_reducible rfl))); (focus assumption)) | (apply tkF 48 422212465065983 hg; (focus rfl); (focus rfl); (focus kernel_rfl); (focus assumption)))
      try simp only [Act.put, List.setIfInBounds_toArray, List.set_cons_zero, List.set_cons_succ]
      (apply act1 47 562949953421311 hg; (focus rfl); (focus rfl); (focus kernel_rfl))
      intro K hK
      go_simp
      refine (pop_calls (j.push f) a1 _ (Now _) (Sub.now _) (HA.out.step (Below.refl _ _).drew) (by have := PP.out; omega)).mono ?_; rintro e u10_1 h; obtain ⟨x9, rfl, hj, hb⟩ := (show RetJ _ (Now _) j e u10_1 from by have h2 : RetJ _ (Now _) (j.push f).pop e u10_1 := h; rw [pop_push] at h2; exact h2).now; replace hb : Below v10.heap.size v10 u10_1 := Below.undrew hb; have D1 := Lib.hid hb; have S1 := keep8 hb S0; have HX := Lib.hid hj; clear hj; clear h hb
      refine hK.out _ _ ?_ (fun hHeld => ?_)
      · (try dsimp only); (first | exact S2 | exact S1 | exact S0)
      clear hK K
      try simp only [Act.put, List.setIfInBounds_toArray, List.set_cons_zero, List.set_cons_succ]
      (apply act1 49 1125899906842623 hg; (focus rfl); (focus rfl); (focus kernel_rfl))
      intro K hK
      go_simp
      refine (same_calls j j x9 a _ (Now _) (Sub.now _) HX.out (HJ.out.step D1.out) (by have := PP.out.1; omega) (fun f hf => by have := PP.out.2.1 f hf; omega) (by have := PP.out; omega) (by have := PP.out; omega)).mono ?_; rintro e u10_2 h; obtain ⟨rfl, hb⟩ := (show RetB _ true e u10_2 from by rw [show decide (j = j) = true by simp] at h; exact h); have D2 := Lib.hid (D1.out.trans (hb.mono D1.out.size)); have S2 := keep8 hb S1; clear HX; clear h hb
      refine hK.out _ _ ?_ (fun hHeld => ?_)
      · (try dsimp only); (first | exact S2 | exact S1 | exact S0)
      clear hK K
      try simp only [Act.put, List.setIfInBounds_toArray, List.set_cons_zero, List.set_cons_succ]
      (apply tkT 50 2251799813685247 hg; (focus rfl); (focus rfl); (focus kernel_rfl); (focus (intro w0 hSw; (try dsimp only at hSw); go_simp; try (with_reducible rfl))); (focus assumption))
      try simp only [Act.put, List.setIfInBounds_toArray, List.set_cons_zero, List.set_cons_succ]
      (apply tkT 51 4503599627370495 hg; (focus rfl); (focus rfl); (focus kernel_rfl); (focus (intro w0 hSw; (try dsimp only at hSw); go_simp; try (with_reducible rfl))); (focus assumption))
      try simp only [Act.put, List.setIfInBounds_toArray, List.set_cons_zero, List.set_cons_succ]
      (first | (apply tkT 52 9007199254740991 hg; (focus rfl); (focus rfl); (focus kernel_rfl); (focus (intro w0 hSw; (try dsimp only at hSw); go_simp; try (with_reducible rfl))); (focus assumption)) | (apply tkF 52 9007199254740991 hg; (focus rfl); (focus rfl); (focus kernel_rfl); (focus assumption)))
      try simp only [Act.put, List.setIfInBounds_toArray, List.set_cons_zero, List.set_cons_succ]
      (first | (apply tkT 53 18014398509481983 hg; (focus rfl); (focus rfl); (focus kernel_rfl); (focus (intro w0 hSw; (try dsimp only at hSw); go_simp; try (with_reducible rfl))); (focus assumption)) | (apply tkF 53 18014398509481983 hg; (focus rfl); (focus rfl); (focus kernel_rfl); (focus assumption)))
      try simp only [Act.put, List.setIfInBounds_toArray, List.set_cons_zero, List.set_cons_succ]
      (first | (apply tkT 54 36028797018963967 hg; (focus rfl); (focus rfl); (focus kernel_rfl); (focus (intro w0 hSw; (try dsimp only at hSw); go_simp; try (with_reducible rfl))); (focus assumption)) | (apply tkF 54 36028797018963967 hg; (focus rfl); (focus rfl); (focus kernel_rfl); (focus assumption)))
      try simp only [Act.put, List.setIfInBounds_toArray, List.set_cons_zero, List.set_cons_succ]
      (first | (apply tkT 55 72057594037927935 hg; (focus rfl); (focus rfl); (focus kernel_rfl); (focus (intro w0 hSw; (try dsimp only at hSw); go_simp; try (with_reducible rfl))); (focus assumption)) | (apply tkF 55 72057594037927935 hg; (focus rfl); (focus rfl); (focus kernel_rfl); (focus assumption)))
      try simp only [Act.put, List.setIfInBounds_toArray, List.set_cons_zero, List.set_cons_succ]
      (first | (apply tkT 56 144115188075855871 hg; (focus rfl); (focus rfl); (focus kernel_rfl); (focus (intro w0 hSw; (try dsimp only at hSw); go_simp; try (with_reducible rfl))); (focus assumption)) | (apply tkF 56 144115188075855871 hg; (focus rfl); (focus rfl); (focus kernel_rfl); (focus assumption)))
      try simp only [Act.put, List.setIfInBounds_toArray, List.set_cons_zero, List.set_cons_succ]
      (first | (apply tkT 57 288230376151711743 hg; (focus rfl); (focus rfl); (focus kernel_rfl); (focus (intro w0 hSw; (try dsimp only at hSw); go_simp; try (with_reducible rfl))); (focus assumption)) | (apply tkF 57 288230376151711743 hg; (focus rfl); (focus rfl); (focus kernel_rfl); (focus assumption)))
      try simp only [Act.put, List.setIfInBounds_toArray, List.set_cons_zero, List.set_cons_succ]
      (first | (apply tkT 58 576460752303423487 hg; (focus rfl); (focus rfl); (focus kernel_rfl); (focus (intro w0 hSw; (try dsimp only at hSw); go_simp; try (with_reducible rfl))); (focus assumption)) | (apply tkF 58 576460752303423487 hg; (focus rfl); (focus rfl); (focus kernel_rfl); (focus assumption)))
      try simp only [Act.put, List.setIfInBounds_toArray, List.set_cons_zero, List.set_cons_succ]
      (first | (apply tkT 59 1152921504606846975 hg; (focus rfl); (focus rfl); (focus kernel_rfl); (focus (intro w0 hSw; (try dsimp only at hSw); go_simp; try (with_reducible rfl))); (focus assumption)) | (apply tkF 59 1152921504606846975 hg; (focus rfl); (focus rfl); (focus kernel_rfl); (focus assumption)))
      try simp only [Act.put, List.setIfInBounds_toArray, List.set_cons_zero, List.set_cons_succ]
      (apply tkT 60 2305843009213693951 hg; (focus rfl); (focus rfl); (focus kernel_rfl); (focus (intro w0 hSw; (try dsimp only at hSw); go_simp; try (with_reducible rfl))); (focus assumption))
      try simp only [Act.put, List.setIfInBounds_toArray, List.set_cons_zero, List.set_cons_succ]
      (apply tkT 61 4611686018427387903 hg; (focus rfl); (focus rfl); (focus kernel_rfl); (focus (intro w0 hSw; (try dsimp only at hSw); go_simp; try (with_reducible rfl))); (focus assumption))
      try simp only [Act.put, List.setIfInBounds_toArray, List.set_cons_zero, List.set_cons_succ]
      refine actE hg (by kernel_rfl) ?_
      have C := D2.out
      replace BB := Lib.hid (BB.out.trans (C.mono BB.out.size))
      try replace HJ := Lib.hid (HJ.out.step C)
      try replace HF := Lib.hid (HF.out.step C)
      try replace HG := Lib.hid (HG.out.step C)
      try replace HA := Lib.hid (HA.out.step C)
      try replace HB := Lib.hid (HB.out.step C)
      replace Hj := Lib.hid (Hj.out.step C)
      replace Hx := Lib.hid (Hx.out.step C)
      replace Hq := Lib.hid (Hq.out.step C)
      replace Ha := Lib.hid (Ha.out.step C)
      replace Hb := Lib.hid (Hb.out.step C)
      replace Ht := Lib.hid (Ht.out.step C)
      replace Hu := Lib.hid (Hu.out.step C)
      replace Hm := Lib.hid (Hm.out.step C)
      replace Hl := Lib.hid (Hl.out.step C)
      clear C S0 S1 S2 D1 D2
      go_wp2
      go_ret
      exact ⟨rfl, BB.out⟩
  · intro K hK
    go_simp
    refine K_at (K := K) fun u8_1 hW => ?_
    have hb : Below v7.drew.heap.size v7.drew u8_1 := by rw [hW]; exact (Below.refl _ _).alloc (Nat.le_refl _) _
    have Y : Box u8_1 v7.drew.heap.size #[.int .i64 0, .string ⟨#[]⟩, .slice none 0 0] := ⟨_, by rw [hW]; exact blk_new _ rfl⟩
    obtain ⟨bm, hbx⟩ : ∃ b, b = v7.drew.heap.size := ⟨_, rfl⟩
    try simp only [drew_size] at hbx Y
    rw [← hbx] at Y ⊢
    have hbl : v7.heap.size ≤ bm := by rw [hbx]; exact D0.out.size
    have Hm := Lib.hid Y
    clear hW Y hbx
    replace D0 := Lib.hid (D0.out.trans (hb.mono D0.out.size))
    replace S0 := keep2 hb S0
    clear hb
    refine hK.out _ _ ?_ (fun hHeld => ?_)
    · (try dsimp only); exact S0
    clear hK K
    try simp only [Act.put, List.setIfInBounds_toArray, List.set_cons_zero, List.set_cons_succ]
    (apply act1 1 263 hg; (focus rfl); (focus rfl); (focus kernel_rfl))
    intro K hK
    go_simp
    refine (pop_calls (j.push f) a1 _ (Now _) (Sub.now _) (HA.out.step D0.out) (by have := PP.out; omega)).mono ?_
    rintro e u8_2 h
    obtain ⟨x1, rfl, hj, hb⟩ := (show RetJ _ (Now _) j e u8_2 from by have h2 : RetJ _ (Now _) (j.push f).pop e u8_2 := h; rw [pop_push] at h2; exact h2).now
    replace D0 := Lib.hid (D0.out.trans (hb.mono D0.out.size))
    replace S0 := keep2 hb S0
    replace Hm := Lib.hid (Hm.out.step hb)
    have HX := Lib.hid hj
    clear hb h hj
    refine hK.out _ _ ?_ (fun hHeld => ?_)
    · (try dsimp only); exact S0
    clear hK K
    try simp only [Act.put, List.setIfInBounds_toArray, List.set_cons_zero, List.set_cons_succ]
    (apply act1 3 271 hg; (focus rfl); (focus rfl); (focus kernel_rfl))
    intro K hK
    go_simp
    refine (push_calls j x1 g ga _ (Now _) (Sub.now _) HX.out (HG.out.step D0.out) (by have := PP.out.1; omega)).mono ?_
    rintro e u8_3 h
    obtain ⟨x2, rfl, hj, hb⟩ := (show RetJ _ (Now _) (j.push g) e u8_3 from h).now
    replace D0 := Lib.hid (D0.out.trans (hb.mono D0.out.size))
    replace S0 := keep2 hb S0
    clear HX
    replace Hm := Lib.hid (Hm.out.step hb)
    have HX2 := Lib.hid hj
    clear hb h hj
    refine hK.out _ _ ?_ (fun hHeld => ?_)
    · (try dsimp only); exact S0
    clear hK K
    try simp only [Act.put, List.setIfInBounds_toArray, List.set_cons_zero, List.set_cons_succ]
    (apply act1 4 287 hg; (focus rfl); (focus rfl); (focus kernel_rfl))
    intro K hK
    go_simp
    refine (top_calls (j.push g) x2 _ (Now _) (Sub.now _) HX2.out (by have := PP.out; omega) (by have := PP.out; omega)).mono ?_
    rintro e u8_4 h
    rw [push_top] at h
    obtain ⟨s3, rfl, hj, hb⟩ := (show RetF _ (Now _) g true e u8_4 from h).now
    clear hj
    replace D0 := Lib.hid (D0.out.trans (hb.mono D0.out.size))
    replace S0 := keep2 hb S0
    clear HX2
    replace Hm := Lib.hid (Hm.out.step hb)
    clear hb h
    refine hK.out _ _ ?_ (fun hHeld => ?_)
    · (try dsimp only); exact S0
    clear hK K
    try simp only [Act.put, List.setIfInBounds_toArray, List.set_cons_zero, List.set_cons_succ]
    (apply tkT 5 319 hg; (focus rfl); (focus rfl); (focus kernel_rfl); (focus (intro w0 hSw; (try dsimp only at hSw); go_simp; try (with_reducible rfl))); (focus assumption))
    try simp only [Act.put, List.setIfInBounds_toArray, List.set_cons_zero, List.set_cons_succ]
    (apply tkT 6 383 hg; (focus rfl); (focus rfl); (focus kernel_rfl); (focus (intro w0 hSw; (try dsimp only at hSw); go_simp; try (with_reducible rfl))); (focus assumption))
    try simp only [Act.put, List.setIfInBounds_toArray, List.set_cons_zero, List.set_cons_succ]
    (apply tkT 7 511 hg; (focus rfl); (focus rfl); (focus kernel_rfl); (focus (intro w0 hSw; (try dsimp only at hSw); go_simp; try (with_reducible rfl))); (focus assumption))
    try simp only [Act.put, List.setIfInBounds_toArray, List.set_cons_zero, List.set_cons_succ]
    (apply act1 9 1023 hg; (focus rfl); (focus rfl); (focus kernel_rfl))
    intro K hK
    have i_ := Hm.out.isRow; have r_ := Hm.out.row
    (apply wp_st_row 46 3; (focus rfl); (focus rfl); (focus go_simp); (focus kernel_rfl); (focus rfl); (focus (first | (simp [Value.oneCell']; done) | (simp [Value.oneCell', Job.cells]; done))))
    refine K_at (K := K) fun u8_5 hW => ?_
    have hb : Below bm u8_4 u8_5 := by rw [hW]; exact Below.setRow_ (Below.refl _ _) (Nat.le_refl _) _
    have Y : Box u8_5 bm #[.int .i64 g.fd, .string g.name, .slice s3.a g.names.length s3.c] := by obtain ⟨t, h⟩ := Hm.out; exact ⟨t, by rw [hW]; exact blk_row h⟩
    clear hW i_ r_
    replace D0 := Lib.hid (D0.out.trans (hb.mono hbl))
    have S1 : (isRow u8_5 ba = true ∧ isRow u8_5 bq = true) ∧ row u8_5 ba = ((j.push f).cells a1).toArray ∧ row u8_5 bq = #[.int .i64 g.fd, .string g.name, .slice ga.a g.names.length ga.c] := keep2 D0.out (⟨⟨Ha.out.isRow, Hq.out.isRow⟩, Ha.out.row, Hq.out.row⟩)
    clear S0
    have S0 := S1
    clear S1
    replace Hm := Lib.hid Y
    clear hb Y hbl
    refine hK.out _ _ ?_ (fun hHeld => ?_)
    · (try dsimp only); exact S0
    clear hK K
    try simp only [Act.put, List.setIfInBounds_toArray, List.set_cons_zero, List.set_cons_succ]
    (apply tkT 10 2047 hg; (focus rfl); (focus rfl); (focus kernel_rfl); (focus (intro w0 hSw; (try dsimp only at hSw); go_simp; try (with_reducible rfl))); (focus assumption))
    try simp only [Act.put, List.setIfInBounds_toArray, List.set_cons_zero, List.set_cons_succ]
    refine actE hg (by kernel_rfl) ?_
    have C := D0.out
    replace BB := Lib.hid (BB.out.trans (C.mono BB.out.size))
    replace Hj := Lib.hid (Hj.out.step C)
    replace Hx := Lib.hid (Hx.out.step C)
    replace Hq := Lib.hid (Hq.out.step C)
    replace Ha := Lib.hid (Ha.out.step C)
    replace Hb := Lib.hid (Hb.out.step C)
    replace Ht := Lib.hid (Ht.out.step C)
    replace Hu := Lib.hid (Hu.out.step C)
    replace HJ := Lib.hid (HJ.out.step C)
    replace HF := Lib.hid (HF.out.step C)
    replace HG := Lib.hid (HG.out.step C)
    replace HA := Lib.hid (HA.out.step C)
    replace HB := Lib.hid (HB.out.step C)
    clear C D0 S0
    have ij := Hj.out.isRow; have rj := Hj.out.row; have lj := Hj.out.lt; have nj : ¬ bj = u8_5.heap.size := Nat.ne_of_lt lj; have mj : ¬ u8_5.heap.size = bj := fun h => nj h.symm
    have ix := Hx.out.isRow; have rx := Hx.out.row; have lx := Hx.out.lt; have nx : ¬ bx = u8_5.heap.size := Nat.ne_of_lt lx; have mx : ¬ u8_5.heap.size = bx := fun h => nx h.symm
    have iq := Hq.out.isRow; have rq := Hq.out.row; have lq := Hq.out.lt; have nq : ¬ bq = u8_5.heap.size := Nat.ne_of_lt lq; have mq : ¬ u8_5.heap.size = bq := fun h => nq h.symm
    have ia := Ha.out.isRow; have ra := Ha.out.row; have la := Ha.out.lt; have na : ¬ ba = u8_5.heap.size := Nat.ne_of_lt la; have ma : ¬ u8_5.heap.size = ba := fun h => na h.symm
    have ib := Hb.out.isRow; have rb := Hb.out.row; have lb := Hb.out.lt; have nb : ¬ bb = u8_5.heap.size := Nat.ne_of_lt lb; have mb : ¬ u8_5.heap.size = bb := fun h => nb h.symm
    have it := Ht.out.isRow; have rt := Ht.out.row; have lt := Ht.out.lt; have nt : ¬ bt = u8_5.heap.size := Nat.ne_of_lt lt; have mt : ¬ u8_5.heap.size = bt := fun h => nt h.symm
    have iu := Hu.out.isRow; have ru := Hu.out.row; have lu := Hu.out.lt; have nu : ¬ bu = u8_5.heap.size := Nat.ne_of_lt lu; have mu : ¬ u8_5.heap.size = bu := fun h => nu h.symm
    have im := Hm.out.isRow; have rm := Hm.out.row; have lm := Hm.out.lt; have nm : ¬ bm = u8_5.heap.size := Nat.ne_of_lt lm; have mm : ¬ u8_5.heap.size = bm := fun h => nm h.symm
    go_wp2_with (first | (apply ld_row 27 19; (focus rfl); (focus go_simp); (focus (go_simp; rfl)); (focus (exact Tryd.underlying27)); (focus kernel_rfl)) | (apply st_row 27 19; (focus rfl); (focus rfl); (focus go_simp); (focus kernel_rfl); (focus rfl); (focus (first | (simp [Value.oneCell']; done) | (simp [Value.oneCell', Job.cells]; done)))) | (apply ld_row 46 3; (focus rfl); (focus go_simp); (focus (go_simp; rfl)); (focus (exact Tryd.underlying46)); (focus kernel_rfl)) | (apply st_row 46 3; (focus rfl); (focus rfl); (focus go_simp); (focus kernel_rfl); (focus rfl); (focus (first | (simp [Value.oneCell']; done) | (simp [Value.oneCell', Job.cells]; done)))) | fail)
    refine Calls.at_ fun W hW => ?_
    have B0 : Below u8_5.heap.size u8_5 W := by rw [hW]; repeat' (first | with_reducible refine Below.alloc ?_ ?_ _ | with_reducible refine Below.setRow_ ?_ ?_ _ | with_reducible refine Below.setCell ?_ ?_ _ | with_reducible refine Below.drew ?_ | with_reducible refine Below.drewN_ ?_ _ | with_reducible exact Below.refl _ _ | assumption | (simp; done) | (simp; omega) | omega)
    clear hW
    refine (top_calls (j.push f) a1 W (Now W) (Sub.now W) (HA.out.step B0) (by have := PP.out; omega) (by have := PP.out; omega)).mono ?_
    rintro e w9 h
    rw [push_top] at h
    obtain ⟨s4, rfl, hj, hb⟩ := (show RetF W (Now W) f true e w9 from h).now
    have C := B0.trans (hb.mono B0.size)
    replace BB := Lib.hid (BB.out.trans (C.mono BB.out.size))
    replace HJ := Lib.hid (HJ.out.step C)
    replace HF := Lib.hid (HF.out.step C)
    replace HG := Lib.hid (HG.out.step C)
    replace HA := Lib.hid (HA.out.step C)
    replace HB := Lib.hid (HB.out.step C)
    clear ij rj lj nj mj
    replace Hj := Lib.hid (Hj.out.step C)
    clear ix rx lx nx mx
    replace Hx := Lib.hid (Hx.out.step C)
    clear iq rq lq nq mq
    replace Hq := Lib.hid (Hq.out.step C)
    clear ia ra la na ma
    replace Ha := Lib.hid (Ha.out.step C)
    clear ib rb lb nb mb
    replace Hb := Lib.hid (Hb.out.step C)
    clear it rt lt nt mt
    replace Ht := Lib.hid (Ht.out.step C)
    clear iu ru lu nu mu
    replace Hu := Lib.hid (Hu.out.step C)
    clear im rm lm nm mm
    replace Hm := Lib.hid (Hm.out.step C)
    have ij := Hj.out.isRow; have rj := Hj.out.row; have lj := Hj.out.lt; have nj : ¬ bj = w9.heap.size := Nat.ne_of_lt lj; have mj : ¬ w9.heap.size = bj := fun h => nj h.symm
    have ix := Hx.out.isRow; have rx := Hx.out.row; have lx := Hx.out.lt; have nx : ¬ bx = w9.heap.size := Nat.ne_of_lt lx; have mx : ¬ w9.heap.size = bx := fun h => nx h.symm
    have iq := Hq.out.isRow; have rq := Hq.out.row; have lq := Hq.out.lt; have nq : ¬ bq = w9.heap.size := Nat.ne_of_lt lq; have mq : ¬ w9.heap.size = bq := fun h => nq h.symm
    have ia := Ha.out.isRow; have ra := Ha.out.row; have la := Ha.out.lt; have na : ¬ ba = w9.heap.size := Nat.ne_of_lt la; have ma : ¬ w9.heap.size = ba := fun h => na h.symm
    have ib := Hb.out.isRow; have rb := Hb.out.row; have lb := Hb.out.lt; have nb : ¬ bb = w9.heap.size := Nat.ne_of_lt lb; have mb : ¬ w9.heap.size = bb := fun h => nb h.symm
    have it := Ht.out.isRow; have rt := Ht.out.row; have lt := Ht.out.lt; have nt : ¬ bt = w9.heap.size := Nat.ne_of_lt lt; have mt : ¬ w9.heap.size = bt := fun h => nt h.symm
    have iu := Hu.out.isRow; have ru := Hu.out.row; have lu := Hu.out.lt; have nu : ¬ bu = w9.heap.size := Nat.ne_of_lt lu; have mu : ¬ w9.heap.size = bu := fun h => nu h.symm
    have im := Hm.out.isRow; have rm := Hm.out.row; have lm := Hm.out.lt; have nm : ¬ bm = w9.heap.size := Nat.ne_of_lt lm; have mm : ¬ w9.heap.size = bm := fun h => nm h.symm
    clear h hb C B0 W hj
    go_wp2_with (first | (apply ld_row 27 19; (focus rfl); (focus go_simp); (focus (go_simp; rfl)); (focus (exact Tryd.underlying27)); (focus kernel_rfl)) | (apply st_row 27 19; (focus rfl); (focus rfl); (focus go_simp); (focus kernel_rfl); (focus rfl); (focus (first | (simp [Value.oneCell']; done) | (simp [Value.oneCell', Job.cells]; done)))) | (apply ld_row 46 3; (focus rfl); (focus go_simp); (focus (go_simp; rfl)); (focus (exact Tryd.underlying46)); (focus kernel_rfl)) | (apply st_row 46 3; (focus rfl); (focus rfl); (focus go_simp); (focus kernel_rfl); (focus rfl); (focus (first | (simp [Value.oneCell']; done) | (simp [Value.oneCell', Job.cells]; done)))) | fail)
    refine Code.at_ fun v10 hW => ?_
    have B0 : Below w9.heap.size w9 v10 := by rw [hW]; repeat' (first | with_reducible refine Below.alloc ?_ ?_ _ | with_reducible refine Below.setRow_ ?_ ?_ _ | with_reducible refine Below.setCell ?_ ?_ _ | with_reducible refine Below.drew ?_ | with_reducible refine Below.drewN_ ?_ _ | with_reducible exact Below.refl _ _ | assumption | (simp; done) | (simp; omega) | omega)
    have Hl := Lib.hid (show Box v10 (w9.heap.size) #[.int .i64 f.fd, .string f.name, .slice s4.a f.names.length s4.c] from ⟨_, by rw [hW]; (try rw [setRow_alloc, if_pos rfl]); exact blk_new _ (by first | rfl | simp)⟩)
    clear hW
    have C := B0
    replace BB := Lib.hid (BB.out.trans (C.mono BB.out.size))
    replace HJ := Lib.hid (HJ.out.step C)
    replace HF := Lib.hid (HF.out.step C)
    replace HG := Lib.hid (HG.out.step C)
    replace HA := Lib.hid (HA.out.step C)
    replace HB := Lib.hid (HB.out.step C)
    clear ij rj lj nj mj
    replace Hj := Lib.hid (Hj.out.step C)
    clear ix rx lx nx mx
    replace Hx := Lib.hid (Hx.out.step C)
    clear iq rq lq nq mq
    replace Hq := Lib.hid (Hq.out.step C)
    clear ia ra la na ma
    replace Ha := Lib.hid (Ha.out.step C)
    clear ib rb lb nb mb
    replace Hb := Lib.hid (Hb.out.step C)
    clear it rt lt nt mt
    replace Ht := Lib.hid (Ht.out.step C)
    clear iu ru lu nu mu
    replace Hu := Lib.hid (Hu.out.step C)
    clear im rm lm nm mm
    replace Hm := Lib.hid (Hm.out.step C)
    obtain ⟨bl, hbl⟩ : ∃ b, b = w9.heap.size := ⟨_, rfl⟩
    rw [← hbl] at Hl ⊢
    clear hbl
    clear C B0
    have hc := cells_eq
    have q1 : ((j.push f).stack.length : Int) = (j.stack.length : Int) + 1 := by rw [push_len]; simp
    have hw : IntKind.i64.wrap ((j.stack.length : Int) + 1) = (j.stack.length : Int) + 1 := by have := PP.out.1; rw [IntKind.wrap_i64] <;> omega
    try dsimp only [List.append]
    have S0 : (isRow v10 bj = true ∧ isRow v10 bx = true ∧ isRow v10 bq = true ∧ isRow v10 ba = true ∧ isRow v10 bt = true ∧ isRow v10 bu = true ∧ isRow v10 bm = true ∧ isRow v10 bl = true) ∧ row v10 bj = (j.cells a).toArray ∧ row v10 bx = #[.int .i64 f.fd, .string f.name, .slice fa.a f.names.length fa.c] ∧ row v10 bq = #[.int .i64 g.fd, .string g.name, .slice ga.a g.names.length ga.c] ∧ row v10 ba = ((j.push f).cells a1).toArray ∧ row v10 bt = #[.int .i64 f.fd, .string f.name, .slice s1.a f.names.length s1.c] ∧ row v10 bu = #[.int .i64 g.fd, .string g.name, .slice s2.a g.names.length s2.c] ∧ row v10 bm = #[.int .i64 g.fd, .string g.name, .slice s3.a g.names.length s3.c] ∧ row v10 bl = #[.int .i64 f.fd, .string f.name, .slice s4.a f.names.length s4.c] := ⟨⟨Hj.out.isRow, Hx.out.isRow, Hq.out.isRow, Ha.out.isRow, Ht.out.isRow, Hu.out.isRow, Hm.out.isRow, Hl.out.isRow⟩, Hj.out.row, Hx.out.row, Hq.out.row, Ha.out.row, Ht.out.row, Hu.out.row, Hm.out.row, Hl.out.row⟩
    refine reg0 62 (fun w' => (isRow w' bj = true ∧ isRow w' bx = true ∧ isRow w' bq = true ∧ isRow w' ba = true ∧ isRow w' bt = true ∧ isRow w' bu = true ∧ isRow w' bm = true ∧ isRow w' bl = true) ∧ row w' bj = (j.cells a).toArray ∧ row w' bx = #[.int .i64 f.fd, .string f.name, .slice fa.a f.names.length fa.c] ∧ row w' bq = #[.int .i64 g.fd, .string g.name, .slice ga.a g.names.length ga.c] ∧ row w' ba = ((j.push f).cells a1).toArray ∧ row w' bt = #[.int .i64 f.fd, .string f.name, .slice s1.a f.names.length s1.c] ∧ row w' bu = #[.int .i64 g.fd, .string g.name, .slice s2.a g.names.length s2.c] ∧ row w' bm = #[.int .i64 g.fd, .string g.name, .slice s3.a g.names.length s3.c] ∧ row w' bl = #[.int .i64 f.fd, .string f.name, .slice s4.a f.names.length s4.c]) (by kernel_rfl) (by kernel_rfl) (by kernel_rfl) ?_ (fun l hg hHeld => ?_)
    · (try dsimp only); (first | exact S2 | exact S1 | exact S0)
    (apply tkT 0 1 hg; (focus rfl); (focus rfl); (focus kernel_rfl); (focus (intro w0 hSw; (try dsimp only at hSw); go_simp; try (with_reducible rfl))); (focus assumption))
    try simp only [Act.put, List.setIfInBounds_toArray, List.set_cons_zero, List.set_cons_succ]
    (apply tkT 1 3 hg; (focus rfl); (focus rfl); (focus kernel_rfl); (focus (intro w0 hSw; (try dsimp only at hSw); go_simp; try (with_reducible rfl))); (focus assumption))
    try simp only [Act.put, List.setIfInBounds_toArray, List.set_cons_zero, List.set_cons_succ]
    (first | (apply tkT 2 7 hg; (focus rfl); (focus rfl); (focus kernel_rfl); (focus (intro w0 hSw; (try dsimp only at hSw); go_simp; try (with_reducible rfl))); (focus assumption)) | (apply tkF 2 7 hg; (focus rfl); (focus rfl); (focus kernel_rfl); (focus assumption)))
    try simp only [Act.put, List.setIfInBounds_toArray, List.set_cons_zero, List.set_cons_succ]
    (apply tkT 3 15 hg; (focus rfl); (focus rfl); (focus kernel_rfl); (focus (intro w0 hSw; (try dsimp only at hSw); go_simp; try (with_reducible rfl))); (focus assumption))
    try simp only [Act.put, List.setIfInBounds_toArray, List.set_cons_zero, List.set_cons_succ]
    (apply tkT 4 31 hg; (focus rfl); (focus rfl); (focus kernel_rfl); (focus (intro w0 hSw; (try dsimp only at hSw); go_simp; try (with_reducible rfl))); (focus assumption))
    try simp only [Act.put, List.setIfInBounds_toArray, List.set_cons_zero, List.set_cons_succ]
    (first | (apply tkT 5 63 hg; (focus rfl); (focus rfl); (focus kernel_rfl); (focus (intro w0 hSw; (try dsimp only at hSw); go_simp; try (with_reducible rfl))); (focus assumption)) | (apply tkF 5 63 hg; (focus rfl); (focus rfl); (focus kernel_rfl); (focus assumption)))
    try simp only [Act.put, List.setIfInBounds_toArray, List.set_cons_zero, List.set_cons_succ]
    (apply tkT 6 127 hg; (focus rfl); (focus rfl); (focus kernel_rfl); (focus (intro w0 hSw; (try dsimp only at hSw); go_simp; try (with_reducible rfl))); (focus assumption))
    try simp only [Act.put, List.setIfInBounds_toArray, List.set_cons_zero, List.set_cons_succ]
    (apply tkT 7 255 hg; (focus rfl); (focus rfl); (focus kernel_rfl); (focus (intro w0 hSw; (try dsimp only at hSw); go_simp; try (with_reducible rfl))); (focus assumption))
    try simp only [Act.put, List.setIfInBounds_toArray, List.set_cons_zero, List.set_cons_succ]
    (first | (apply tkT 8 511 hg; (focus rfl); (focus rfl); (focus kernel_rfl); (focus (intro w0 hSw; (try dsimp only at hSw); go_simp; try (with_reducible rfl))); (focus assumption)) | (apply tkF 8 511 hg; (focus rfl); (focus rfl); (focus kernel_rfl); (focus assumption)))
    try simp only [Act.put, List.setIfInBounds_toArray, List.set_cons_zero, List.set_cons_succ]
    (apply tkT 9 1023 hg; (focus rfl); (focus rfl); (focus kernel_rfl); (focus (intro w0 hSw; (try dsimp only at hSw); go_simp; try (with_reducible rfl))); (focus assumption))
    try simp only [Act.put, List.setIfInBounds_toArray, List.set_cons_zero, List.set_cons_succ]
    (apply tkT 10 2047 hg; (focus rfl); (focus rfl); (focus kernel_rfl); (focus (intro w0 hSw; (try dsimp only at hSw); go_simp; try (with_reducible rfl))); (focus assumption))
    try simp only [Act.put, List.setIfInBounds_toArray, List.set_cons_zero, List.set_cons_succ]
    (first | (apply tkT 11 4095 hg; (focus rfl); (focus rfl); (focus kernel_rfl); (focus (intro w0 hSw; (try dsimp only at hSw); go_simp; try (with_reducible rfl))); (focus assumption)) | (apply tkF 11 4095 hg; (focus rfl); (focus rfl); (focus kernel_rfl); (focus assumption)))
    try simp only [Act.put, List.setIfInBounds_toArray, List.set_cons_zero, List.set_cons_succ]
    (first | (apply tkT 12 8191 hg; (focus rfl); (focus rfl); (focus kernel_rfl); (focus (intro w0 hSw; (try dsimp only at hSw); go_simp; try (with_reducible rfl))); (focus assumption)) | (apply tkF 12 8191 hg; (focus rfl); (focus rfl); (focus kernel_rfl); (focus assumption)))
    try simp only [Act.put, List.setIfInBounds_toArray, List.set_cons_zero, List.set_cons_succ]
    (first | (apply tkT 13 16383 hg; (focus rfl); (focus rfl); (focus kernel_rfl); (focus (intro w0 hSw; (try dsimp only at hSw); go_simp; try (with_reducible rfl))); (focus assumption)) | (apply tkF 13 16383 hg; (focus rfl); (focus rfl); (focus kernel_rfl); (focus assumption)))
    try simp only [Act.put, List.setIfInBounds_toArray, List.set_cons_zero, List.set_cons_succ]
    (first | (apply tkT 14 32767 hg; (focus rfl); (focus rfl); (focus kernel_rfl); (focus (intro w0 hSw; (try dsimp only at hSw); go_simp; try (with_reducible rfl))); (focus assumption)) | (apply tkF 14 32767 hg; (focus rfl); (focus rfl); (focus kernel_rfl); (focus assumption)))
    try simp only [Act.put, List.setIfInBounds_toArray, List.set_cons_zero, List.set_cons_succ]
    (first | (apply tkT 15 65535 hg; (focus rfl); (focus rfl); (focus kernel_rfl); (focus (intro w0 hSw; (try dsimp only at hSw); go_simp; try (with_reducible rfl))); (focus assumption)) | (apply tkF 15 65535 hg; (focus rfl); (focus rfl); (focus kernel_rfl); (focus assumption)))
    try simp only [Act.put, List.setIfInBounds_toArray, List.set_cons_zero, List.set_cons_succ]
    (apply tkT 16 131071 hg; (focus rfl); (focus rfl); (focus kernel_rfl); (focus (intro w0 hSw; (try dsimp only at hSw); go_simp; try (with_reducible rfl))); (focus assumption))
    try simp only [Act.put, List.setIfInBounds_toArray, List.set_cons_zero, List.set_cons_succ]
    (apply tkT 17 262143 hg; (focus rfl); (focus rfl); (focus kernel_rfl); (focus (intro w0 hSw; (try dsimp only at hSw); go_simp; try (with_reducible rfl))); (focus assumption))
    try simp only [Act.put, List.setIfInBounds_toArray, List.set_cons_zero, List.set_cons_succ]
    (first | (apply tkT 18 524287 hg; (focus rfl); (focus rfl); (focus kernel_rfl); (focus (intro w0 hSw; (try dsimp only at hSw); go_simp; try (with_reducible rfl))); (focus assumption)) | (apply tkF 18 524287 hg; (focus rfl); (focus rfl); (focus kernel_rfl); (focus assumption)))
    try simp only [Act.put, List.setIfInBounds_toArray, List.set_cons_zero, List.set_cons_succ]
    (first | (apply tkT 19 1048575 hg; (focus rfl); (focus rfl); (focus kernel_rfl); (focus (intro w0 hSw; (try dsimp only at hSw); go_simp; try (with_reducible rfl))); (focus assumption)) | (apply tkF 19 1048575 hg; (focus rfl); (focus rfl); (focus kernel_rfl); (focus assumption)))
    try simp only [Act.put, List.setIfInBounds_toArray, List.set_cons_zero, List.set_cons_succ]
    (first | (apply tkT 20 2097151 hg; (focus rfl); (focus rfl); (focus kernel_rfl); (focus (intro w0 hSw; (try dsimp only at hSw); go_simp; try (with_reducible rfl))); (focus assumption)) | (apply tkF 20 2097151 hg; (focus rfl); (focus rfl); (focus kernel_rfl); (focus assumption)))
    try simp only [Act.put, List.setIfInBounds_toArray, List.set_cons_zero, List.set_cons_succ]
    (first | (apply tkT 21 4194303 hg; (focus rfl); (focus rfl); (focus kernel_rfl); (focus (intro w0 hSw; (try dsimp only at hSw); go_simp; try (with_reducible rfl))); (focus assumption)) | (apply tkF 21 4194303 hg; (focus rfl); (focus rfl); (focus kernel_rfl); (focus assumption)))
    try simp only [Act.put, List.setIfInBounds_toArray, List.set_cons_zero, List.set_cons_succ]
    (first | (apply tkT 22 8388607 hg; (focus rfl); (focus rfl); (focus kernel_rfl); (focus (intro w0 hSw; (try dsimp only at hSw); go_simp; try (with_reducible rfl))); (focus assumption)) | (apply tkF 22 8388607 hg; (focus rfl); (focus rfl); (focus kernel_rfl); (focus assumption)))
    try simp only [Act.put, List.setIfInBounds_toArray, List.set_cons_zero, List.set_cons_succ]
    (apply tkT 23 16777215 hg; (focus rfl); (focus rfl); (focus kernel_rfl); (focus (intro w0 hSw; (try dsimp only at hSw); go_simp; try (with_reducible rfl))); (focus assumption))
    try simp only [Act.put, List.setIfInBounds_toArray, List.set_cons_zero, List.set_cons_succ]
    (apply tkT 24 33554431 hg; (focus rfl); (focus rfl); (focus kernel_rfl); (focus (intro w0 hSw; (try dsimp only at hSw); go_simp; try (with_reducible rfl))); (focus assumption))
    try simp only [Act.put, List.setIfInBounds_toArray, List.set_cons_zero, List.set_cons_succ]
    (first | (apply tkT 25 67108863 hg; (focus rfl); (focus rfl); (focus kernel_rfl); (focus (intro w0 hSw; (try dsimp only at hSw); go_simp; try (with_reducible rfl))); (focus assumption)) | (apply tkF 25 67108863 hg; (focus rfl); (focus rfl); (focus kernel_rfl); (focus assumption)))
    try simp only [Act.put, List.setIfInBounds_toArray, List.set_cons_zero, List.set_cons_succ]
    (first | (apply tkT 26 134217727 hg; (focus rfl); (focus rfl); (focus kernel_rfl); (focus (intro w0 hSw; (try dsimp only at hSw); go_simp; try (with_reducible rfl))); (focus assumption)) | (apply tkF 26 134217727 hg; (focus rfl); (focus rfl); (focus kernel_rfl); (focus assumption)))
    try simp only [Act.put, List.setIfInBounds_toArray, List.set_cons_zero, List.set_cons_succ]
    (first | (apply tkT 27 268435455 hg; (focus rfl); (focus rfl); (focus kernel_rfl); (focus (intro w0 hSw; (try dsimp only at hSw); go_simp; try (with_reducible rfl))); (focus assumption)) | (apply tkF 27 268435455 hg; (focus rfl); (focus rfl); (focus kernel_rfl); (focus assumption)))
    try simp only [Act.put, List.setIfInBounds_toArray, List.set_cons_zero, List.set_cons_succ]
    (first | (apply tkT 28 536870911 hg; (focus rfl); (focus rfl); (focus kernel_rfl); (focus (intro w0 hSw; (try dsimp only at hSw); go_simp; try (with_reducible rfl))); (focus assumption)) | (apply tkF 28 536870911 hg; (focus rfl); (focus rfl); (focus kernel_rfl); (focus assumption)))
    try simp only [Act.put, List.setIfInBounds_toArray, List.set_cons_zero, List.set_cons_succ]
    (first | (apply tkT 29 1073741823 hg; (focus rfl); (focus rfl); (focus kernel_rfl); (focus (intro w0 hSw; (try dsimp only at hSw); go_simp; try (with_reducible rfl))); (focus assumption)) | (apply tkF 29 1073741823 hg; (focus rfl); (focus rfl); (focus kernel_rfl); (focus assumption)))
    try simp only [Act.put, List.setIfInBounds_toArray, List.set_cons_zero, List.set_cons_succ]
    (apply tkT 30 2147483647 hg; (focus rfl); (focus rfl); (focus kernel_rfl); (focus (intro w0 hSw; (try dsimp only at hSw); go_simp; try (with_reducible rfl))); (focus assumption))
    try simp only [Act.put, List.setIfInBounds_toArray, List.set_cons_zero, List.set_cons_succ]
    (apply tkT 31 4294967295 hg; (focus rfl); (focus rfl); (focus kernel_rfl); (focus (intro w0 hSw; (try dsimp only at hSw); go_simp; try (with_reducible rfl))); (focus assumption))
    try simp only [Act.put, List.setIfInBounds_toArray, List.set_cons_zero, List.set_cons_succ]
    (first | (apply tkT 32 8589934591 hg; (focus rfl); (focus rfl); (focus kernel_rfl); (focus (intro w0 hSw; (try dsimp only at hSw); go_simp; try (with_reducible rfl))); (focus assumption)) | (apply tkF 32 8589934591 hg; (focus rfl); (focus rfl); (focus kernel_rfl); (focus assumption)))
    try simp only [Act.put, List.setIfInBounds_toArray, List.set_cons_zero, List.set_cons_succ]
    (first | (apply tkT 33 17179869183 hg; (focus rfl); (focus rfl); (focus kernel_rfl); (focus (intro w0 hSw; (try dsimp only at hSw); go_simp; try (with_reducible rfl))); (focus assumption)) | (apply tkF 33 17179869183 hg; (focus rfl); (focus rfl); (focus kernel_rfl); (focus assumption)))
    try simp only [Act.put, List.setIfInBounds_toArray, List.set_cons_zero, List.set_cons_succ]
    (first | (apply tkT 34 34359738367 hg; (focus rfl); (focus rfl); (focus kernel_rfl); (focus (intro w0 hSw; (try dsimp only at hSw); go_simp; try (with_reducible rfl))); (focus assumption)) | (apply tkF 34 34359738367 hg; (focus rfl); (focus rfl); (focus kernel_rfl); (focus assumption)))
    try simp only [Act.put, List.setIfInBounds_toArray, List.set_cons_zero, List.set_cons_succ]
    (first | (apply tkT 35 68719476735 hg; (focus rfl); (focus rfl); (focus kernel_rfl); (focus (intro w0 hSw; (try dsimp only at hSw); go_simp; try (with_reducible rfl))); (focus assumption)) | (apply tkF 35 68719476735 hg; (focus rfl); (focus rfl); (focus kernel_rfl); (focus assumption)))
    try simp only [Act.put, List.setIfInBounds_toArray, List.set_cons_zero, List.set_cons_succ]
    (first | (apply tkT 36 137438953471 hg; (focus rfl); (focus rfl); (focus kernel_rfl); (focus (intro w0 hSw; (try dsimp only at hSw); go_simp; try (with_reducible rfl))); (focus assumption)) | (apply tkF 36 137438953471 hg; (focus rfl); (focus rfl); (focus kernel_rfl); (focus assumption)))
    try simp only [Act.put, List.setIfInBounds_toArray, List.set_cons_zero, List.set_cons_succ]
    (apply tkT 37 274877906943 hg; (focus rfl); (focus rfl); (focus kernel_rfl); (focus (intro w0 hSw; (try dsimp only at hSw); go_simp; try (with_reducible rfl))); (focus assumption))
    try simp only [Act.put, List.setIfInBounds_toArray, List.set_cons_zero, List.set_cons_succ]
    (apply tkT 38 549755813887 hg; (focus rfl); (focus rfl); (focus kernel_rfl); (focus (intro w0 hSw; (try dsimp only at hSw); go_simp; try (with_reducible rfl))); (focus assumption))
    try simp only [Act.put, List.setIfInBounds_toArray, List.set_cons_zero, List.set_cons_succ]
    (first | (apply tkT 39 1099511627775 hg; (focus rfl); (focus rfl); (focus kernel_rfl); (focus (intro w0 hSw; (try dsimp only at hSw); go_simp; try (with_reducible rfl))); (focus assumption)) | (apply tkF 39 1099511627775 hg; (focus rfl); (focus rfl); (focus kernel_rfl); (focus assumption)))
    try simp only [Act.put, List.setIfInBounds_toArray, List.set_cons_zero, List.set_cons_succ]
    (first | (apply tkT 40 2199023255551 hg; (focus rfl); (focus rfl); (focus kernel_rfl); (focus (intro w0 hSw; (try dsimp only at hSw); go_simp; try (with_reducible rfl))); (focus assumption)) | (apply tkF 40 2199023255551 hg; (focus rfl); (focus rfl); (focus kernel_rfl); (focus assumption)))
    try simp only [Act.put, List.setIfInBounds_toArray, List.set_cons_zero, List.set_cons_succ]
    (first | (apply tkT 41 4398046511103 hg; (focus rfl); (focus rfl); (focus kernel_rfl); (focus (intro w0 hSw; (try dsimp only at hSw); go_simp; try (with_reducible rfl))); (focus assumption)) | (apply tkF 41 4398046511103 hg; (focus rfl); (focus rfl); (focus kernel_rfl); (focus assumption)))
    try simp only [Act.put, List.setIfInBounds_toArray, List.set_cons_zero, List.set_cons_succ]
    (first | (apply tkT 42 8796093022207 hg; (focus rfl); (focus rfl); (focus kernel_rfl); (focus (intro w0 hSw; (try dsimp only at hSw); go_simp; try (with_reducible rfl))); (focus assumption)) | (apply tkF 42 8796093022207 hg; (focus rfl); (focus rfl); (focus kernel_rfl); (focus assumption)))
    try simp only [Act.put, List.setIfInBounds_toArray, List.set_cons_zero, List.set_cons_succ]
    (first | (apply tkT 43 17592186044415 hg; (focus rfl); (focus rfl); (focus kernel_rfl); (focus (intro w0 hSw; (try dsimp only at hSw); go_simp; try (with_reducible rfl))); (focus assumption)) | (apply tkF 43 17592186044415 hg; (focus rfl); (focus rfl); (focus kernel_rfl); (focus assumption)))
    try simp only [Act.put, List.setIfInBounds_toArray, List.set_cons_zero, List.set_cons_succ]
    (apply tkT 44 35184372088831 hg; (focus rfl); (focus rfl); (focus kernel_rfl); (focus (intro w0 hSw; (try dsimp only at hSw); go_simp; try (with_reducible rfl))); (focus assumption))
    try simp only [Act.put, List.setIfInBounds_toArray, List.set_cons_zero, List.set_cons_succ]
    (apply tkT 45 70368744177663 hg; (focus rfl); (focus rfl); (focus kernel_rfl); (focus (intro w0 hSw; (try dsimp only at hSw); go_simp; try (with_reducible rfl))); (focus assumption))
    try simp only [Act.put, List.setIfInBounds_toArray, List.set_cons_zero, List.set_cons_succ]
    (first | (apply tkT 46 140737488355327 hg; (focus rfl); (focus rfl); (focus kernel_rfl); (focus (intro w0 hSw; (try dsimp only at hSw); go_simp; try (with_reducible rfl))); (focus assumption)) | (apply tkF 46 140737488355327 hg; (focus rfl); (focus rfl); (focus kernel_rfl); (focus assumption)))
    try simp only [Act.put, List.setIfInBounds_toArray, List.set_cons_zero, List.set_cons_succ]
    (first | (apply tkT 48 422212465065983 hg; (focus rfl); (focus rfl); (focus kernel_rfl); (focus (intro w0 hSw; (try dsimp only at hSw); go_simp; try (with_reducible rfl))); (focus assumption)) | (apply tkF 48 422212465065983 hg; (focus rfl); (focus rfl); (focus kernel_rfl); (focus assumption)))
    try simp only [Act.put, List.setIfInBounds_toArray, List.set_cons_zero, List.set_cons_succ]
    (apply act1 47 562949953421311 hg; (focus rfl); (focus rfl); (focus kernel_rfl))
    intro K hK
    go_simp
    refine (pop_calls (j.push f) a1 _ (Now _) (Sub.now _) (HA.out.step (Below.refl _ _).drew) (by have := PP.out; omega)).mono ?_; rintro e u10_1 h; obtain ⟨x9, rfl, hj, hb⟩ := (show RetJ _ (Now _) j e u10_1 from by have h2 : RetJ _ (Now _) (j.push f).pop e u10_1 := h; rw [pop_push] at h2; exact h2).now; replace hb : Below v10.heap.size v10 u10_1 := Below.undrew hb; have D1 := Lib.hid hb; have S1 := keep8 hb S0; have HX := Lib.hid hj; clear hj; clear h hb
    refine hK.out _ _ ?_ (fun hHeld => ?_)
    · (try dsimp only); (first | exact S2 | exact S1 | exact S0)
    clear hK K
    try simp only [Act.put, List.setIfInBounds_toArray, List.set_cons_zero, List.set_cons_succ]
    (apply act1 49 1125899906842623 hg; (focus rfl); (focus rfl); (focus kernel_rfl))
    intro K hK
    go_simp
    refine (same_calls j j x9 a _ (Now _) (Sub.now _) HX.out (HJ.out.step D1.out) (by have := PP.out.1; omega) (fun f hf => by have := PP.out.2.1 f hf; omega) (by have := PP.out; omega) (by have := PP.out; omega)).mono ?_; rintro e u10_2 h; obtain ⟨rfl, hb⟩ := (show RetB _ true e u10_2 from by rw [show decide (j = j) = true by simp] at h; exact h); have D2 := Lib.hid (D1.out.trans (hb.mono D1.out.size)); have S2 := keep8 hb S1; clear HX; clear h hb
    refine hK.out _ _ ?_ (fun hHeld => ?_)
    · (try dsimp only); (first | exact S2 | exact S1 | exact S0)
    clear hK K
    try simp only [Act.put, List.setIfInBounds_toArray, List.set_cons_zero, List.set_cons_succ]
    (apply tkT 50 2251799813685247 hg; (focus rfl); (focus rfl); (focus kernel_rfl); (focus (intro w0 hSw; (try dsimp only at hSw); go_simp; try (with_reducible rfl))); (focus assumption))
    try simp only [Act.put, List.setIfInBounds_toArray, List.set_cons_zero, List.set_cons_succ]
    (apply tkT 51 4503599627370495 hg; (focus rfl); (focus rfl); (focus kernel_rfl); (focus (intro w0 hSw; (try dsimp only at hSw); go_simp; try (with_reducible rfl))); (focus assumption))
    try simp only [Act.put, List.setIfInBounds_toArray, List.set_cons_zero, List.set_cons_succ]
    (first | (apply tkT 52 9007199254740991 hg; (focus rfl); (focus rfl); (focus kernel_rfl); (focus (intro w0 hSw; (try dsimp only at hSw); go_simp; try (with_reducible rfl))); (focus assumption)) | (apply tkF 52 9007199254740991 hg; (focus rfl); (focus rfl); (focus kernel_rfl); (focus assumption)))
    try simp only [Act.put, List.setIfInBounds_toArray, List.set_cons_zero, List.set_cons_succ]
    (first | (apply tkT 53 18014398509481983 hg; (focus rfl); (focus rfl); (focus kernel_rfl); (focus (intro w0 hSw; (try dsimp only at hSw); go_simp; try (with_reducible rfl))); (focus assumption)) | (apply tkF 53 18014398509481983 hg; (focus rfl); (focus rfl); (focus kernel_rfl); (focus assumption)))
    try simp only [Act.put, List.setIfInBounds_toArray, List.set_cons_zero, List.set_cons_succ]
    (first | (apply tkT 54 36028797018963967 hg; (focus rfl); (focus rfl); (focus kernel_rfl); (focus (intro w0 hSw; (try dsimp only at hSw); go_simp; try (with_reducible rfl))); (focus assumption)) | (apply tkF 54 36028797018963967 hg; (focus rfl); (focus rfl); (focus kernel_rfl); (focus assumption)))
    try simp only [Act.put, List.setIfInBounds_toArray, List.set_cons_zero, List.set_cons_succ]
    (first | (apply tkT 55 72057594037927935 hg; (focus rfl); (focus rfl); (focus kernel_rfl); (focus (intro w0 hSw; (try dsimp only at hSw); go_simp; try (with_reducible rfl))); (focus assumption)) | (apply tkF 55 72057594037927935 hg; (focus rfl); (focus rfl); (focus kernel_rfl); (focus assumption)))
    try simp only [Act.put, List.setIfInBounds_toArray, List.set_cons_zero, List.set_cons_succ]
    (first | (apply tkT 56 144115188075855871 hg; (focus rfl); (focus rfl); (focus kernel_rfl); (focus (intro w0 hSw; (try dsimp only at hSw); go_simp; try (with_reducible rfl))); (focus assumption)) | (apply tkF 56 144115188075855871 hg; (focus rfl); (focus rfl); (focus kernel_rfl); (focus assumption)))
    try simp only [Act.put, List.setIfInBounds_toArray, List.set_cons_zero, List.set_cons_succ]
    (first | (apply tkT 57 288230376151711743 hg; (focus rfl); (focus rfl); (focus kernel_rfl); (focus (intro w0 hSw; (try dsimp only at hSw); go_simp; try (with_reducible rfl))); (focus assumption)) | (apply tkF 57 288230376151711743 hg; (focus rfl); (focus rfl); (focus kernel_rfl); (focus assumption)))
    try simp only [Act.put, List.setIfInBounds_toArray, List.set_cons_zero, List.set_cons_succ]
    (first | (apply tkT 58 576460752303423487 hg; (focus rfl); (focus rfl); (focus kernel_rfl); (focus (intro w0 hSw; (try dsimp only at hSw); go_simp; try (with_reducible rfl))); (focus assumption)) | (apply tkF 58 576460752303423487 hg; (focus rfl); (focus rfl); (focus kernel_rfl); (focus assumption)))
    try simp only [Act.put, List.setIfInBounds_toArray, List.set_cons_zero, List.set_cons_succ]
    (first | (apply tkT 59 1152921504606846975 hg; (focus rfl); (focus rfl); (focus kernel_rfl); (focus (intro w0 hSw; (try dsimp only at hSw); go_simp; try (with_reducible rfl))); (focus assumption)) | (apply tkF 59 1152921504606846975 hg; (focus rfl); (focus rfl); (focus kernel_rfl); (focus assumption)))
    try simp only [Act.put, List.setIfInBounds_toArray, List.set_cons_zero, List.set_cons_succ]
    (apply tkT 60 2305843009213693951 hg; (focus rfl); (focus rfl); (focus kernel_rfl); (focus (intro w0 hSw; (try dsimp only at hSw); go_simp; try (with_reducible rfl))); (focus assumption))
    try simp only [Act.put, List.setIfInBounds_toArray, List.set_cons_zero, List.set_cons_succ]
    (apply tkT 61 4611686018427387903 hg; (focus rfl); (focus rfl); (focus kernel_rfl); (focus (intro w0 hSw; (try dsimp only at hSw); go_simp; try (with_reducible rfl))); (focus assumption))
    try simp only [Act.put, List.setIfInBounds_toArray, List.set_cons_zero, List.set_cons_succ]
    refine actE hg (by kernel_rfl) ?_
    have C := D2.out
    replace BB := Lib.hid (BB.out.trans (C.mono BB.out.size))
    try replace HJ := Lib.hid (HJ.out.step C)
    try replace HF := Lib.hid (HF.out.step C)
    try replace HG := Lib.hid (HG.out.step C)
    try replace HA := Lib.hid (HA.out.step C)
    try replace HB := Lib.hid (HB.out.step C)
    replace Hj := Lib.hid (Hj.out.step C)
    replace Hx := Lib.hid (Hx.out.step C)
    replace Hq := Lib.hid (Hq.out.step C)
    replace Ha := Lib.hid (Ha.out.step C)
    replace Hb := Lib.hid (Hb.out.step C)
    replace Ht := Lib.hid (Ht.out.step C)
    replace Hu := Lib.hid (Hu.out.step C)
    replace Hm := Lib.hid (Hm.out.step C)
    replace Hl := Lib.hid (Hl.out.step C)
    clear C S0 S1 S2 D1 D2
    go_wp2
    go_ret
    exact ⟨rfl, BB.out⟩
end Go.Proofs.YtjkjlegloicmcaaDoor
