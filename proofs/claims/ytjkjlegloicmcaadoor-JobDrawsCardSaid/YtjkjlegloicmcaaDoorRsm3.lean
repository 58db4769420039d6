/- The reference's Same, by the test that fails first. -/
import Derived.Test.YtjkjlegloicmcaaDoorFrm
set_option linter.unusedVariables false
set_option linter.unusedSimpArgs false
namespace Go.Proofs.YtjkjlegloicmcaaDoor
open Go.RowKit
attribute [local go_sem] isRow_drew row_drew isRow_drewN row_drewN cell_isRow rowSz_isRow isHead_ptr blockOf_ptr row_alloc isRow_alloc rowSz_alloc setRow_alloc isRow_setRow isRow_setCell isRow_frozen setCell_setRow_same setCell_setRow_other cell_setRow_same' cell_setRow_other' frozen_setRow' row_setRow_same row_setRow_other rowSz_setRow_same rowSz_setRow_other setRow_setRow_same' setRow_comm' ne_l2 ne_r2 ne_l3 ne_r3 ne_l4 ne_r4 ne_l5 ne_r5 ne_l6 ne_r6 ne_l7 ne_r7 ne_l8 ne_r8 cells_len
attribute [local go_sem ↓] Go.wp_at_zero Go.wp_at_succ
set_option maxRecDepth 100000 in
set_option maxHeartbeats 4000000 in
theorem refSame_case15 (j k : Job) (a b : JA) (w : World) (hj : j.now w a) (hk : k.now w b) (hl : j.stack.length ≤ 1000) (hn : ∀ f ∈ j.stack, f.names.length ≤ 100000) (hl2 : j.names.length ≤ 100000) (hl3 : j.draws.length ≤ 100000)
    (h0 : (decide (j.names = k.names)) = true)
    (h1 : (decide (j.stack = k.stack)) = true)
    (h2 : (decide (j.draws = k.draws)) = true)
    (h3 : (j.kind == k.kind) = true)
    (h4 : (j.p == k.p) = true)
    (h5 : (j.phase == k.phase) = true)
    (h6 : (j.fd == k.fd) = true)
    (h7 : (j.n == k.n) = true)
    (h8 : (j.mode == k.mode) = true)
    (h9 : (j.tries == k.tries) = true)
    (h10 : (j.at_ == k.at_) = true)
    (h11 : (j.flags == k.flags) = true)
    (h12 : (j.path.toList == k.path.toList) = true)
    (h13 : (j.path2.toList == k.path2.toList) = true)
    (h14 : (j.text.toList == k.text.toList) = true)
    (h15 : (j.done == k.done) = false) :
    Calls Tryd.prog 13 #[.agg (j.cells a).toArray, .agg (k.cells b).toArray] w (RetB w false) := by
  have HJ := Lib.hid hj
  have HK := Lib.hid hk
  have HN := Lib.hid (And.intro hl (And.intro hn (And.intro hl2 hl3)))
  clear hj hk hl hn hl2 hl3
  have H0_ := Lib.hid h0
  clear h0
  have H1_ := Lib.hid h1
  clear h1
  have H2_ := Lib.hid h2
  clear h2
  have hc := cells_eq
  go_enter Tryd.func13, Tryd.ntmps13
  go_wp2_with (first | (apply ld_row 35 19; (focus rfl); (focus go_simp); (focus (go_simp; rfl)); (focus (exact Tryd.underlying35)); (focus kernel_rfl)) | (apply st_row 35 19; (focus rfl); (focus rfl); (focus go_simp); (focus kernel_rfl); (focus rfl); (focus (first | (simp [Value.oneCell']; done) | (simp [Value.oneCell', Job.cells]; done)))) | fail)
  refine Calls.at_ fun W hW => ?_
  have B0 : Below w.heap.size w W := by rw [hW]; repeat' (first | with_reducible refine Below.alloc ?_ ?_ _ | with_reducible refine Below.setRow_ ?_ ?_ _ | with_reducible refine Below.setCell ?_ ?_ _ | with_reducible refine Below.drew ?_ | with_reducible refine Below.drewN_ ?_ _ | with_reducible exact Below.refl _ _ | assumption | (simp; done) | (simp; omega) | omega)
  have Yx : Box W (w.heap.size) (j.cells a).toArray := ⟨_, by rw [hW]; exact blk_old (blk_new _ (by first | rfl | simp)) _⟩
  have Yy_ : Box W (w.heap.size + 1) (k.cells b).toArray := ⟨_, by rw [hW]; exact blk_new _ (by first | rfl | simp)⟩
  clear hW
  refine ((texts_calls a.n b.n j.names k.names W (Now W) (HJ.out.step B0).1 (HK.out.step B0).1 HN.out.2.2.1).mono fun _ _ h => h.ret).mono ?_
  rintro e w1 h
  obtain ⟨rfl, hb⟩ := (show RetB W true e w1 from by rw [H0_.out] at h; exact h)
  have C := B0.trans (hb.mono B0.size)
  have BB := Lib.hid C
  replace HJ := Lib.hid (HJ.out.step C)
  replace HK := Lib.hid (HK.out.step C)
  have Hx := Lib.hid (Yx.step hb)
  have Hy_ := Lib.hid (Yy_.step hb)
  obtain ⟨by_, hby_⟩ : ∃ b, b = w.heap.size + 1 := ⟨_, rfl⟩
  rw [← hby_] at Hy_ ⊢
  obtain ⟨bx, hbx⟩ : ∃ b, b = w.heap.size := ⟨_, rfl⟩
  rw [← hbx] at Hx ⊢
  clear Yx hbx Yy_ hby_
  have ix := Hx.out.isRow; have rx := Hx.out.row; have lx := Hx.out.lt; have nx : ¬ bx = w1.heap.size := Nat.ne_of_lt lx; have mx : ¬ w1.heap.size = bx := fun h => nx h.symm
  have iy_ := Hy_.out.isRow; have ry_ := Hy_.out.row; have ly_ := Hy_.out.lt; have ny_ : ¬ by_ = w1.heap.size := Nat.ne_of_lt ly_; have my_ : ¬ w1.heap.size = by_ := fun h => ny_ h.symm
  clear h hb C B0 W
  go_wp2_with (first | (apply ld_row 35 19; (focus rfl); (focus go_simp); (focus (go_simp; rfl)); (focus (exact Tryd.underlying35)); (focus kernel_rfl)) | (apply st_row 35 19; (focus rfl); (focus rfl); (focus go_simp); (focus kernel_rfl); (focus rfl); (focus (first | (simp [Value.oneCell']; done) | (simp [Value.oneCell', Job.cells]; done)))) | fail)
  refine Calls.at_ fun W hW => ?_
  have B0 : Below w1.heap.size w1 W := by rw [hW]; repeat' (first | with_reducible refine Below.alloc ?_ ?_ _ | with_reducible refine Below.setRow_ ?_ ?_ _ | with_reducible refine Below.setCell ?_ ?_ _ | with_reducible refine Below.drew ?_ | with_reducible refine Below.drewN_ ?_ _ | with_reducible exact Below.refl _ _ | assumption | (simp; done) | (simp; omega) | omega)
  clear hW
  refine (frames_calls a.s b.s j.stack k.stack W (Now W) (Sub.now W) (HJ.out.step B0).2.1 (HK.out.step B0).2.1 HN.out.1 HN.out.2.1).mono ?_
  rintro e w2 h
  obtain ⟨rfl, hb⟩ := (show RetB W true e w2 from by rw [H1_.out] at h; exact h)
  have C := B0.trans (hb.mono B0.size)
  replace BB := Lib.hid (BB.out.trans (C.mono BB.out.size))
  replace HJ := Lib.hid (HJ.out.step C)
  replace HK := Lib.hid (HK.out.step C)
  clear ix rx lx nx mx
  replace Hx := Lib.hid (Hx.out.step C)
  clear iy_ ry_ ly_ ny_ my_
  replace Hy_ := Lib.hid (Hy_.out.step C)
  have ix := Hx.out.isRow; have rx := Hx.out.row; have lx := Hx.out.lt; have nx : ¬ bx = w2.heap.size := Nat.ne_of_lt lx; have mx : ¬ w2.heap.size = bx := fun h => nx h.symm
  have iy_ := Hy_.out.isRow; have ry_ := Hy_.out.row; have ly_ := Hy_.out.lt; have ny_ : ¬ by_ = w2.heap.size := Nat.ne_of_lt ly_; have my_ : ¬ w2.heap.size = by_ := fun h => ny_ h.symm
  clear h hb C B0 W
  go_wp2_with (first | (apply ld_row 35 19; (focus rfl); (focus go_simp); (focus (go_simp; rfl)); (focus (exact Tryd.underlying35)); (focus kernel_rfl)) | (apply st_row 35 19; (focus rfl); (focus rfl); (focus go_simp); (focus kernel_rfl); (focus rfl); (focus (first | (simp [Value.oneCell']; done) | (simp [Value.oneCell', Job.cells]; done)))) | fail)
  refine Calls.at_ fun W hW => ?_
  have B0 : Below w2.heap.size w2 W := by rw [hW]; repeat' (first | with_reducible refine Below.alloc ?_ ?_ _ | with_reducible refine Below.setRow_ ?_ ?_ _ | with_reducible refine Below.setCell ?_ ?_ _ | with_reducible refine Below.drew ?_ | with_reducible refine Below.drewN_ ?_ _ | with_reducible exact Below.refl _ _ | assumption | (simp; done) | (simp; omega) | omega)
  clear hW
  refine ((rints_calls a.d b.d j.draws k.draws W (Now W) (HJ.out.step B0).2.2 (HK.out.step B0).2.2 HN.out.2.2.2).mono fun _ _ h => h.ret).mono ?_
  rintro e w3 h
  obtain ⟨rfl, hb⟩ := (show RetB W true e w3 from by rw [H2_.out] at h; exact h)
  have C := B0.trans (hb.mono B0.size)
  replace BB := Lib.hid (BB.out.trans (C.mono BB.out.size))
  replace HJ := Lib.hid (HJ.out.step C)
  replace HK := Lib.hid (HK.out.step C)
  clear ix rx lx nx mx
  replace Hx := Lib.hid (Hx.out.step C)
  clear iy_ ry_ ly_ ny_ my_
  replace Hy_ := Lib.hid (Hy_.out.step C)
  have ix := Hx.out.isRow; have rx := Hx.out.row; have lx := Hx.out.lt; have nx : ¬ bx = w3.heap.size := Nat.ne_of_lt lx; have mx : ¬ w3.heap.size = bx := fun h => nx h.symm
  have iy_ := Hy_.out.isRow; have ry_ := Hy_.out.row; have ly_ := Hy_.out.lt; have ny_ : ¬ by_ = w3.heap.size := Nat.ne_of_lt ly_; have my_ : ¬ w3.heap.size = by_ := fun h => ny_ h.symm
  clear h hb C B0 W
  go_wp2
  go_ret
  exact ⟨rfl, BB.out⟩
set_option maxRecDepth 100000 in
set_option maxHeartbeats 4000000 in
theorem refSame_case16 (j k : Job) (a b : JA) (w : World) (hj : j.now w a) (hk : k.now w b) (hl : j.stack.length ≤ 1000) (hn : ∀ f ∈ j.stack, f.names.length ≤ 100000) (hl2 : j.names.length ≤ 100000) (hl3 : j.draws.length ≤ 100000)
    (h0 : (decide (j.names = k.names)) = true)
    (h1 : (decide (j.stack = k.stack)) = true)
    (h2 : (decide (j.draws = k.draws)) = true)
    (h3 : (j.kind == k.kind) = true)
    (h4 : (j.p == k.p) = true)
    (h5 : (j.phase == k.phase) = true)
    (h6 : (j.fd == k.fd) = true)
    (h7 : (j.n == k.n) = true)
    (h8 : (j.mode == k.mode) = true)
    (h9 : (j.tries == k.tries) = true)
    (h10 : (j.at_ == k.at_) = true)
    (h11 : (j.flags == k.flags) = true)
    (h12 : (j.path.toList == k.path.toList) = true)
    (h13 : (j.path2.toList == k.path2.toList) = true)
    (h14 : (j.text.toList == k.text.toList) = true)
    (h15 : (j.done == k.done) = true)
    (h16 : (j.exit == k.exit) = false) :
    Calls Tryd.prog 13 #[.agg (j.cells a).toArray, .agg (k.cells b).toArray] w (RetB w false) := by
  have HJ := Lib.hid hj
  have HK := Lib.hid hk
  have HN := Lib.hid (And.intro hl (And.intro hn (And.intro hl2 hl3)))
  clear hj hk hl hn hl2 hl3
  have H0_ := Lib.hid h0
  clear h0
  have H1_ := Lib.hid h1
  clear h1
  have H2_ := Lib.hid h2
  clear h2
  have hc := cells_eq
  go_enter Tryd.func13, Tryd.ntmps13
  go_wp2_with (first | (apply ld_row 35 19; (focus rfl); (focus go_simp); (focus (go_simp; rfl)); (focus (exact Tryd.underlying35)); (focus kernel_rfl)) | (apply st_row 35 19; (focus rfl); (focus rfl); (focus go_simp); (focus kernel_rfl); (focus rfl); (focus (first | (simp [Value.oneCell']; done) | (simp [Value.oneCell', Job.cells]; done)))) | fail)
  refine Calls.at_ fun W hW => ?_
  have B0 : Below w.heap.size w W := by rw [hW]; repeat' (first | with_reducible refine Below.alloc ?_ ?_ _ | with_reducible refine Below.setRow_ ?_ ?_ _ | with_reducible refine Below.setCell ?_ ?_ _ | with_reducible refine Below.drew ?_ | with_reducible refine Below.drewN_ ?_ _ | with_reducible exact Below.refl _ _ | assumption | (simp; done) | (simp; omega) | omega)
  have Yx : Box W (w.heap.size) (j.cells a).toArray := ⟨_, by rw [hW]; exact blk_old (blk_new _ (by first | rfl | simp)) _⟩
  have Yy_ : Box W (w.heap.size + 1) (k.cells b).toArray := ⟨_, by rw [hW]; exact blk_new _ (by first | rfl | simp)⟩
  clear hW
  refine ((texts_calls a.n b.n j.names k.names W (Now W) (HJ.out.step B0).1 (HK.out.step B0).1 HN.out.2.2.1).mono fun _ _ h => h.ret).mono ?_
  rintro e w1 h
  obtain ⟨rfl, hb⟩ := (show RetB W true e w1 from by rw [H0_.out] at h; exact h)
  have C := B0.trans (hb.mono B0.size)
  have BB := Lib.hid C
  replace HJ := Lib.hid (HJ.out.step C)
  replace HK := Lib.hid (HK.out.step C)
  have Hx := Lib.hid (Yx.step hb)
  have Hy_ := Lib.hid (Yy_.step hb)
  obtain ⟨by_, hby_⟩ : ∃ b, b = w.heap.size + 1 := ⟨_, rfl⟩
  rw [← hby_] at Hy_ ⊢
  obtain ⟨bx, hbx⟩ : ∃ b, b = w.heap.size := ⟨_, rfl⟩
  rw [← hbx] at Hx ⊢
  clear Yx hbx Yy_ hby_
  have ix := Hx.out.isRow; have rx := Hx.out.row; have lx := Hx.out.lt; have nx : ¬ bx = w1.heap.size := Nat.ne_of_lt lx; have mx : ¬ w1.heap.size = bx := fun h => nx h.symm
  have iy_ := Hy_.out.isRow; have ry_ := Hy_.out.row; have ly_ := Hy_.out.lt; have ny_ : ¬ by_ = w1.heap.size := Nat.ne_of_lt ly_; have my_ : ¬ w1.heap.size = by_ := fun h => ny_ h.symm
  clear h hb C B0 W
  go_wp2_with (first | (apply ld_row 35 19; (focus rfl); (focus go_simp); (focus (go_simp; rfl)); (focus (exact Tryd.underlying35)); (focus kernel_rfl)) | (apply st_row 35 19; (focus rfl); (focus rfl); (focus go_simp); (focus kernel_rfl); (focus rfl); (focus (first | (simp [Value.oneCell']; done) | (simp [Value.oneCell', Job.cells]; done)))) | fail)
  refine Calls.at_ fun W hW => ?_
  have B0 : Below w1.heap.size w1 W := by rw [hW]; repeat' (first | with_reducible refine Below.alloc ?_ ?_ _ | with_reducible refine Below.setRow_ ?_ ?_ _ | with_reducible refine Below.setCell ?_ ?_ _ | with_reducible refine Below.drew ?_ | with_reducible refine Below.drewN_ ?_ _ | with_reducible exact Below.refl _ _ | assumption | (simp; done) | (simp; omega) | omega)
  clear hW
  refine (frames_calls a.s b.s j.stack k.stack W (Now W) (Sub.now W) (HJ.out.step B0).2.1 (HK.out.step B0).2.1 HN.out.1 HN.out.2.1).mono ?_
  rintro e w2 h
  obtain ⟨rfl, hb⟩ := (show RetB W true e w2 from by rw [H1_.out] at h; exact h)
  have C := B0.trans (hb.mono B0.size)
  replace BB := Lib.hid (BB.out.trans (C.mono BB.out.size))
  replace HJ := Lib.hid (HJ.out.step C)
  replace HK := Lib.hid (HK.out.step C)
  clear ix rx lx nx mx
  replace Hx := Lib.hid (Hx.out.step C)
  clear iy_ ry_ ly_ ny_ my_
  replace Hy_ := Lib.hid (Hy_.out.step C)
  have ix := Hx.out.isRow; have rx := Hx.out.row; have lx := Hx.out.lt; have nx : ¬ bx = w2.heap.size := Nat.ne_of_lt lx; have mx : ¬ w2.heap.size = bx := fun h => nx h.symm
  have iy_ := Hy_.out.isRow; have ry_ := Hy_.out.row; have ly_ := Hy_.out.lt; have ny_ : ¬ by_ = w2.heap.size := Nat.ne_of_lt ly_; have my_ : ¬ w2.heap.size = by_ := fun h => ny_ h.symm
  clear h hb C B0 W
  go_wp2_with (first | (apply ld_row 35 19; (focus rfl); (focus go_simp); (focus (go_simp; rfl)); (focus (exact Tryd.underlying35)); (focus kernel_rfl)) | (apply st_row 35 19; (focus rfl); (focus rfl); (focus go_simp); (focus kernel_rfl); (focus rfl); (focus (first | (simp [Value.oneCell']; done) | (simp [Value.oneCell', Job.cells]; done)))) | fail)
  refine Calls.at_ fun W hW => ?_
  have B0 : Below w2.heap.size w2 W := by rw [hW]; repeat' (first | with_reducible refine Below.alloc ?_ ?_ _ | with_reducible refine Below.setRow_ ?_ ?_ _ | with_reducible refine Below.setCell ?_ ?_ _ | with_reducible refine Below.drew ?_ | with_reducible refine Below.drewN_ ?_ _ | with_reducible exact Below.refl _ _ | assumption | (simp; done) | (simp; omega) | omega)
  clear hW
  refine ((rints_calls a.d b.d j.draws k.draws W (Now W) (HJ.out.step B0).2.2 (HK.out.step B0).2.2 HN.out.2.2.2).mono fun _ _ h => h.ret).mono ?_
  rintro e w3 h
  obtain ⟨rfl, hb⟩ := (show RetB W true e w3 from by rw [H2_.out] at h; exact h)
  have C := B0.trans (hb.mono B0.size)
  replace BB := Lib.hid (BB.out.trans (C.mono BB.out.size))
  replace HJ := Lib.hid (HJ.out.step C)
  replace HK := Lib.hid (HK.out.step C)
  clear ix rx lx nx mx
  replace Hx := Lib.hid (Hx.out.step C)
  clear iy_ ry_ ly_ ny_ my_
  replace Hy_ := Lib.hid (Hy_.out.step C)
  have ix := Hx.out.isRow; have rx := Hx.out.row; have lx := Hx.out.lt; have nx : ¬ bx = w3.heap.size := Nat.ne_of_lt lx; have mx : ¬ w3.heap.size = bx := fun h => nx h.symm
  have iy_ := Hy_.out.isRow; have ry_ := Hy_.out.row; have ly_ := Hy_.out.lt; have ny_ : ¬ by_ = w3.heap.size := Nat.ne_of_lt ly_; have my_ : ¬ w3.heap.size = by_ := fun h => ny_ h.symm
  clear h hb C B0 W
  go_wp2
  go_ret
  exact ⟨rfl, BB.out⟩
set_option maxRecDepth 100000 in
set_option maxHeartbeats 4000000 in
theorem refSame_case17 (j k : Job) (a b : JA) (w : World) (hj : j.now w a) (hk : k.now w b) (hl : j.stack.length ≤ 1000) (hn : ∀ f ∈ j.stack, f.names.length ≤ 100000) (hl2 : j.names.length ≤ 100000) (hl3 : j.draws.length ≤ 100000)
    (h0 : (decide (j.names = k.names)) = true)
    (h1 : (decide (j.stack = k.stack)) = true)
    (h2 : (decide (j.draws = k.draws)) = true)
    (h3 : (j.kind == k.kind) = true)
    (h4 : (j.p == k.p) = true)
    (h5 : (j.phase == k.phase) = true)
    (h6 : (j.fd == k.fd) = true)
    (h7 : (j.n == k.n) = true)
    (h8 : (j.mode == k.mode) = true)
    (h9 : (j.tries == k.tries) = true)
    (h10 : (j.at_ == k.at_) = true)
    (h11 : (j.flags == k.flags) = true)
    (h12 : (j.path.toList == k.path.toList) = true)
    (h13 : (j.path2.toList == k.path2.toList) = true)
    (h14 : (j.text.toList == k.text.toList) = true)
    (h15 : (j.done == k.done) = true)
    (h16 : (j.exit == k.exit) = true)
    (h17 : (j.out.toList == k.out.toList) = false) :
    Calls Tryd.prog 13 #[.agg (j.cells a).toArray, .agg (k.cells b).toArray] w (RetB w false) := by
  have HJ := Lib.hid hj
  have HK := Lib.hid hk
  have HN := Lib.hid (And.intro hl (And.intro hn (And.intro hl2 hl3)))
  clear hj hk hl hn hl2 hl3
  have H0_ := Lib.hid h0
  clear h0
  have H1_ := Lib.hid h1
  clear h1
  have H2_ := Lib.hid h2
  clear h2
  have hc := cells_eq
  go_enter Tryd.func13, Tryd.ntmps13
  go_wp2_with (first | (apply ld_row 35 19; (focus rfl); (focus go_simp); (focus (go_simp; rfl)); (focus (exact Tryd.underlying35)); (focus kernel_rfl)) | (apply st_row 35 19; (focus rfl); (focus rfl); (focus go_simp); (focus kernel_rfl); (focus rfl); (focus (first | (simp [Value.oneCell']; done) | (simp [Value.oneCell', Job.cells]; done)))) | fail)
  refine Calls.at_ fun W hW => ?_
  have B0 : Below w.heap.size w W := by rw [hW]; repeat' (first | with_reducible refine Below.alloc ?_ ?_ _ | with_reducible refine Below.setRow_ ?_ ?_ _ | with_reducible refine Below.setCell ?_ ?_ _ | with_reducible refine Below.drew ?_ | with_reducible refine Below.drewN_ ?_ _ | with_reducible exact Below.refl _ _ | assumption | (simp; done) | (simp; omega) | omega)
  have Yx : Box W (w.heap.size) (j.cells a).toArray := ⟨_, by rw [hW]; exact blk_old (blk_new _ (by first | rfl | simp)) _⟩
  have Yy_ : Box W (w.heap.size + 1) (k.cells b).toArray := ⟨_, by rw [hW]; exact blk_new _ (by first | rfl | simp)⟩
  clear hW
  refine ((texts_calls a.n b.n j.names k.names W (Now W) (HJ.out.step B0).1 (HK.out.step B0).1 HN.out.2.2.1).mono fun _ _ h => h.ret).mono ?_
  rintro e w1 h
  obtain ⟨rfl, hb⟩ := (show RetB W true e w1 from by rw [H0_.out] at h; exact h)
  have C := B0.trans (hb.mono B0.size)
  have BB := Lib.hid C
  replace HJ := Lib.hid (HJ.out.step C)
  replace HK := Lib.hid (HK.out.step C)
  have Hx := Lib.hid (Yx.step hb)
  have Hy_ := Lib.hid (Yy_.step hb)
  obtain ⟨by_, hby_⟩ : ∃ b, b = w.heap.size + 1 := ⟨_, rfl⟩
  rw [← hby_] at Hy_ ⊢
  obtain ⟨bx, hbx⟩ : ∃ b, b = w.heap.size := ⟨_, rfl⟩
  rw [← hbx] at Hx ⊢
  clear Yx hbx Yy_ hby_
  have ix := Hx.out.isRow; have rx := Hx.out.row; have lx := Hx.out.lt; have nx : ¬ bx = w1.heap.size := Nat.ne_of_lt lx; have mx : ¬ w1.heap.size = bx := fun h => nx h.symm
  have iy_ := Hy_.out.isRow; have ry_ := Hy_.out.row; have ly_ := Hy_.out.lt; have ny_ : ¬ by_ = w1.heap.size := Nat.ne_of_lt ly_; have my_ : ¬ w1.heap.size = by_ := fun h => ny_ h.symm
  clear h hb C B0 W
  go_wp2_with (first | (apply ld_row 35 19; (focus rfl); (focus go_simp); (focus (go_simp; rfl)); (focus (exact Tryd.underlying35)); (focus kernel_rfl)) | (apply st_row 35 19; (focus rfl); (focus rfl); (focus go_simp); (focus kernel_rfl); (focus rfl); (focus (first | (simp [Value.oneCell']; done) | (simp [Value.oneCell', Job.cells]; done)))) | fail)
  refine Calls.at_ fun W hW => ?_
  have B0 : Below w1.heap.size w1 W := by rw [hW]; repeat' (first | with_reducible refine Below.alloc ?_ ?_ _ | with_reducible refine Below.setRow_ ?_ ?_ _ | with_reducible refine Below.setCell ?_ ?_ _ | with_reducible refine Below.drew ?_ | with_reducible refine Below.drewN_ ?_ _ | with_reducible exact Below.refl _ _ | assumption | (simp; done) | (simp; omega) | omega)
  clear hW
  refine (frames_calls a.s b.s j.stack k.stack W (Now W) (Sub.now W) (HJ.out.step B0).2.1 (HK.out.step B0).2.1 HN.out.1 HN.out.2.1).mono ?_
  rintro e w2 h
  obtain ⟨rfl, hb⟩ := (show RetB W true e w2 from by rw [H1_.out] at h; exact h)
  have C := B0.trans (hb.mono B0.size)
  replace BB := Lib.hid (BB.out.trans (C.mono BB.out.size))
  replace HJ := Lib.hid (HJ.out.step C)
  replace HK := Lib.hid (HK.out.step C)
  clear ix rx lx nx mx
  replace Hx := Lib.hid (Hx.out.step C)
  clear iy_ ry_ ly_ ny_ my_
  replace Hy_ := Lib.hid (Hy_.out.step C)
  have ix := Hx.out.isRow; have rx := Hx.out.row; have lx := Hx.out.lt; have nx : ¬ bx = w2.heap.size := Nat.ne_of_lt lx; have mx : ¬ w2.heap.size = bx := fun h => nx h.symm
  have iy_ := Hy_.out.isRow; have ry_ := Hy_.out.row; have ly_ := Hy_.out.lt; have ny_ : ¬ by_ = w2.heap.size := Nat.ne_of_lt ly_; have my_ : ¬ w2.heap.size = by_ := fun h => ny_ h.symm
  clear h hb C B0 W
  go_wp2_with (first | (apply ld_row 35 19; (focus rfl); (focus go_simp); (focus (go_simp; rfl)); (focus (exact Tryd.underlying35)); (focus kernel_rfl)) | (apply st_row 35 19; (focus rfl); (focus rfl); (focus go_simp); (focus kernel_rfl); (focus rfl); (focus (first | (simp [Value.oneCell']; done) | (simp [Value.oneCell', Job.cells]; done)))) | fail)
  refine Calls.at_ fun W hW => ?_
  have B0 : Below w2.heap.size w2 W := by rw [hW]; repeat' (first | with_reducible refine Below.alloc ?_ ?_ _ | with_reducible refine Below.setRow_ ?_ ?_ _ | with_reducible refine Below.setCell ?_ ?_ _ | with_reducible refine Below.drew ?_ | with_reducible refine Below.drewN_ ?_ _ | with_reducible exact Below.refl _ _ | assumption | (simp; done) | (simp; omega) | omega)
  clear hW
  refine ((rints_calls a.d b.d j.draws k.draws W (Now W) (HJ.out.step B0).2.2 (HK.out.step B0).2.2 HN.out.2.2.2).mono fun _ _ h => h.ret).mono ?_
  rintro e w3 h
  obtain ⟨rfl, hb⟩ := (show RetB W true e w3 from by rw [H2_.out] at h; exact h)
  have C := B0.trans (hb.mono B0.size)
  replace BB := Lib.hid (BB.out.trans (C.mono BB.out.size))
  replace HJ := Lib.hid (HJ.out.step C)
  replace HK := Lib.hid (HK.out.step C)
  clear ix rx lx nx mx
  replace Hx := Lib.hid (Hx.out.step C)
  clear iy_ ry_ ly_ ny_ my_
  replace Hy_ := Lib.hid (Hy_.out.step C)
  have ix := Hx.out.isRow; have rx := Hx.out.row; have lx := Hx.out.lt; have nx : ¬ bx = w3.heap.size := Nat.ne_of_lt lx; have mx : ¬ w3.heap.size = bx := fun h => nx h.symm
  have iy_ := Hy_.out.isRow; have ry_ := Hy_.out.row; have ly_ := Hy_.out.lt; have ny_ : ¬ by_ = w3.heap.size := Nat.ne_of_lt ly_; have my_ : ¬ w3.heap.size = by_ := fun h => ny_ h.symm
  clear h hb C B0 W
  go_wp2
  go_ret
  exact ⟨rfl, BB.out⟩
set_option maxRecDepth 100000 in
set_option maxHeartbeats 4000000 in
theorem refSame_case18 (j k : Job) (a b : JA) (w : World) (hj : j.now w a) (hk : k.now w b) (hl : j.stack.length ≤ 1000) (hn : ∀ f ∈ j.stack, f.names.length ≤ 100000) (hl2 : j.names.length ≤ 100000) (hl3 : j.draws.length ≤ 100000)
    (h0 : (decide (j.names = k.names)) = true)
    (h1 : (decide (j.stack = k.stack)) = true)
    (h2 : (decide (j.draws = k.draws)) = true)
    (h3 : (j.kind == k.kind) = true)
    (h4 : (j.p == k.p) = true)
    (h5 : (j.phase == k.phase) = true)
    (h6 : (j.fd == k.fd) = true)
    (h7 : (j.n == k.n) = true)
    (h8 : (j.mode == k.mode) = true)
    (h9 : (j.tries == k.tries) = true)
    (h10 : (j.at_ == k.at_) = true)
    (h11 : (j.flags == k.flags) = true)
    (h12 : (j.path.toList == k.path.toList) = true)
    (h13 : (j.path2.toList == k.path2.toList) = true)
    (h14 : (j.text.toList == k.text.toList) = true)
    (h15 : (j.done == k.done) = true)
    (h16 : (j.exit == k.exit) = true)
    (h17 : (j.out.toList == k.out.toList) = true)
    (h18 : (j.e == k.e) = false) :
    Calls Tryd.prog 13 #[.agg (j.cells a).toArray, .agg (k.cells b).toArray] w (RetB w false) := by
  have HJ := Lib.hid hj
  have HK := Lib.hid hk
  have HN := Lib.hid (And.intro hl (And.intro hn (And.intro hl2 hl3)))
  clear hj hk hl hn hl2 hl3
  have H0_ := Lib.hid h0
  clear h0
  have H1_ := Lib.hid h1
  clear h1
  have H2_ := Lib.hid h2
  clear h2
  have hc := cells_eq
  go_enter Tryd.func13, Tryd.ntmps13
  go_wp2_with (first | (apply ld_row 35 19; (focus rfl); (focus go_simp); (focus (go_simp; rfl)); (focus (exact Tryd.underlying35)); (focus kernel_rfl)) | (apply st_row 35 19; (focus rfl); (focus rfl); (focus go_simp); (focus kernel_rfl); (focus rfl); (focus (first | (simp [Value.oneCell']; done) | (simp [Value.oneCell', Job.cells]; done)))) | fail)
  refine Calls.at_ fun W hW => ?_
  have B0 : Below w.heap.size w W := by rw [hW]; repeat' (first | with_reducible refine Below.alloc ?_ ?_ _ | with_reducible refine Below.setRow_ ?_ ?_ _ | with_reducible refine Below.setCell ?_ ?_ _ | with_reducible refine Below.drew ?_ | with_reducible refine Below.drewN_ ?_ _ | with_reducible exact Below.refl _ _ | assumption | (simp; done) | (simp; omega) | omega)
  have Yx : Box W (w.heap.size) (j.cells a).toArray := ⟨_, by rw [hW]; exact blk_old (blk_new _ (by first | rfl | simp)) _⟩
  have Yy_ : Box W (w.heap.size + 1) (k.cells b).toArray := ⟨_, by rw [hW]; exact blk_new _ (by first | rfl | simp)⟩
  clear hW
  refine ((texts_calls a.n b.n j.names k.names W (Now W) (HJ.out.step B0).1 (HK.out.step B0).1 HN.out.2.2.1).mono fun _ _ h => h.ret).mono ?_
  rintro e w1 h
  obtain ⟨rfl, hb⟩ := (show RetB W true e w1 from by rw [H0_.out] at h; exact h)
  have C := B0.trans (hb.mono B0.size)
  have BB := Lib.hid C
  replace HJ := Lib.hid (HJ.out.step C)
  replace HK := Lib.hid (HK.out.step C)
  have Hx := Lib.hid (Yx.step hb)
  have Hy_ := Lib.hid (Yy_.step hb)
  obtain ⟨by_, hby_⟩ : ∃ b, b = w.heap.size + 1 := ⟨_, rfl⟩
  rw [← hby_] at Hy_ ⊢
  obtain ⟨bx, hbx⟩ : ∃ b, b = w.heap.size := ⟨_, rfl⟩
  rw [← hbx] at Hx ⊢
  clear Yx hbx Yy_ hby_
  have ix := Hx.out.isRow; have rx := Hx.out.row; have lx := Hx.out.lt; have nx : ¬ bx = w1.heap.size := Nat.ne_of_lt lx; have mx : ¬ w1.heap.size = bx := fun h => nx h.symm
  have iy_ := Hy_.out.isRow; have ry_ := Hy_.out.row; have ly_ := Hy_.out.lt; have ny_ : ¬ by_ = w1.heap.size := Nat.ne_of_lt ly_; have my_ : ¬ w1.heap.size = by_ := fun h => ny_ h.symm
  clear h hb C B0 W
  go_wp2_with (first | (apply ld_row 35 19; (focus rfl); (focus go_simp); (focus (go_simp; rfl)); (focus (exact Tryd.underlying35)); (focus kernel_rfl)) | (apply st_row 35 19; (focus rfl); (focus rfl); (focus go_simp); (focus kernel_rfl); (focus rfl); (focus (first | (simp [Value.oneCell']; done) | (simp [Value.oneCell', Job.cells]; done)))) | fail)
  refine Calls.at_ fun W hW => ?_
  have B0 : Below w1.heap.size w1 W := by rw [hW]; repeat' (first | with_reducible refine Below.alloc ?_ ?_ _ | with_reducible refine Below.setRow_ ?_ ?_ _ | with_reducible refine Below.setCell ?_ ?_ _ | with_reducible refine Below.drew ?_ | with_reducible refine Below.drewN_ ?_ _ | with_reducible exact Below.refl _ _ | assumption | (simp; done) | (simp; omega) | omega)
  clear hW
  refine (frames_calls a.s b.s j.stack k.stack W (Now W) (Sub.now W) (HJ.out.step B0).2.1 (HK.out.step B0).2.1 HN.out.1 HN.out.2.1).mono ?_
  rintro e w2 h
  obtain ⟨rfl, hb⟩ := (show RetB W true e w2 from by rw [H1_.out] at h; exact h)
  have C := B0.trans (hb.mono B0.size)
  replace BB := Lib.hid (BB.out.trans (C.mono BB.out.size))
  replace HJ := Lib.hid (HJ.out.step C)
  replace HK := Lib.hid (HK.out.step C)
  clear ix rx lx nx mx
  replace Hx := Lib.hid (Hx.out.step C)
  clear iy_ ry_ ly_ ny_ my_
  replace Hy_ := Lib.hid (Hy_.out.step C)
  have ix := Hx.out.isRow; have rx := Hx.out.row; have lx := Hx.out.lt; have nx : ¬ bx = w2.heap.size := Nat.ne_of_lt lx; have mx : ¬ w2.heap.size = bx := fun h => nx h.symm
  have iy_ := Hy_.out.isRow; have ry_ := Hy_.out.row; have ly_ := Hy_.out.lt; have ny_ : ¬ by_ = w2.heap.size := Nat.ne_of_lt ly_; have my_ : ¬ w2.heap.size = by_ := fun h => ny_ h.symm
  clear h hb C B0 W
  go_wp2_with (first | (apply ld_row 35 19; (focus rfl); (focus go_simp); (focus (go_simp; rfl)); (focus (exact Tryd.underlying35)); (focus kernel_rfl)) | (apply st_row 35 19; (focus rfl); (focus rfl); (focus go_simp); (focus kernel_rfl); (focus rfl); (focus (first | (simp [Value.oneCell']; done) | (simp [Value.oneCell', Job.cells]; done)))) | fail)
  refine Calls.at_ fun W hW => ?_
  have B0 : Below w2.heap.size w2 W := by rw [hW]; repeat' (first | with_reducible refine Below.alloc ?_ ?_ _ | with_reducible refine Below.setRow_ ?_ ?_ _ | with_reducible refine Below.setCell ?_ ?_ _ | with_reducible refine Below.drew ?_ | with_reducible refine Below.drewN_ ?_ _ | with_reducible exact Below.refl _ _ | assumption | (simp; done) | (simp; omega) | omega)
  clear hW
  refine ((rints_calls a.d b.d j.draws k.draws W (Now W) (HJ.out.step B0).2.2 (HK.out.step B0).2.2 HN.out.2.2.2).mono fun _ _ h => h.ret).mono ?_
  rintro e w3 h
  obtain ⟨rfl, hb⟩ := (show RetB W true e w3 from by rw [H2_.out] at h; exact h)
  have C := B0.trans (hb.mono B0.size)
  replace BB := Lib.hid (BB.out.trans (C.mono BB.out.size))
  replace HJ := Lib.hid (HJ.out.step C)
  replace HK := Lib.hid (HK.out.step C)
  clear ix rx lx nx mx
  replace Hx := Lib.hid (Hx.out.step C)
  clear iy_ ry_ ly_ ny_ my_
  replace Hy_ := Lib.hid (Hy_.out.step C)
  have ix := Hx.out.isRow; have rx := Hx.out.row; have lx := Hx.out.lt; have nx : ¬ bx = w3.heap.size := Nat.ne_of_lt lx; have mx : ¬ w3.heap.size = bx := fun h => nx h.symm
  have iy_ := Hy_.out.isRow; have ry_ := Hy_.out.row; have ly_ := Hy_.out.lt; have ny_ : ¬ by_ = w3.heap.size := Nat.ne_of_lt ly_; have my_ : ¬ w3.heap.size = by_ := fun h => ny_ h.symm
  clear h hb C B0 W
  go_wp2
  go_ret
  exact ⟨rfl, BB.out⟩
set_option maxRecDepth 100000 in
set_option maxHeartbeats 4000000 in
theorem refSame_case19 (j k : Job) (a b : JA) (w : World) (hj : j.now w a) (hk : k.now w b) (hl : j.stack.length ≤ 1000) (hn : ∀ f ∈ j.stack, f.names.length ≤ 100000) (hl2 : j.names.length ≤ 100000) (hl3 : j.draws.length ≤ 100000)
    (h0 : (decide (j.names = k.names)) = true)
    (h1 : (decide (j.stack = k.stack)) = true)
    (h2 : (decide (j.draws = k.draws)) = true)
    (h3 : (j.kind == k.kind) = true)
    (h4 : (j.p == k.p) = true)
    (h5 : (j.phase == k.phase) = true)
    (h6 : (j.fd == k.fd) = true)
    (h7 : (j.n == k.n) = true)
    (h8 : (j.mode == k.mode) = true)
    (h9 : (j.tries == k.tries) = true)
    (h10 : (j.at_ == k.at_) = true)
    (h11 : (j.flags == k.flags) = true)
    (h12 : (j.path.toList == k.path.toList) = true)
    (h13 : (j.path2.toList == k.path2.toList) = true)
    (h14 : (j.text.toList == k.text.toList) = true)
    (h15 : (j.done == k.done) = true)
    (h16 : (j.exit == k.exit) = true)
    (h17 : (j.out.toList == k.out.toList) = true)
    (h18 : (j.e == k.e) = true) :
    Calls Tryd.prog 13 #[.agg (j.cells a).toArray, .agg (k.cells b).toArray] w (RetB w true) := by
  have HJ := Lib.hid hj
  have HK := Lib.hid hk
  have HN := Lib.hid (And.intro hl (And.intro hn (And.intro hl2 hl3)))
  clear hj hk hl hn hl2 hl3
  have H0_ := Lib.hid h0
  clear h0
  have H1_ := Lib.hid h1
  clear h1
  have H2_ := Lib.hid h2
  clear h2
  have hc := cells_eq
  go_enter Tryd.func13, Tryd.ntmps13
  go_wp2_with (first | (apply ld_row 35 19; (focus rfl); (focus go_simp); (focus (go_simp; rfl)); (focus (exact Tryd.underlying35)); (focus kernel_rfl)) | (apply st_row 35 19; (focus rfl); (focus rfl); (focus go_simp); (focus kernel_rfl); (focus rfl); (focus (first | (simp [Value.oneCell']; done) | (simp [Value.oneCell', Job.cells]; done)))) | fail)
  refine Calls.at_ fun W hW => ?_
  have B0 : Below w.heap.size w W := by rw [hW]; repeat' (first | with_reducible refine Below.alloc ?_ ?_ _ | with_reducible refine Below.setRow_ ?_ ?_ _ | with_reducible refine Below.setCell ?_ ?_ _ | with_reducible refine Below.drew ?_ | with_reducible refine Below.drewN_ ?_ _ | with_reducible exact Below.refl _ _ | assumption | (simp; done) | (simp; omega) | omega)
  have Yx : Box W (w.heap.size) (j.cells a).toArray := ⟨_, by rw [hW]; exact blk_old (blk_new _ (by first | rfl | simp)) _⟩
  have Yy_ : Box W (w.heap.size + 1) (k.cells b).toArray := ⟨_, by rw [hW]; exact blk_new _ (by first | rfl | simp)⟩
  clear hW
  refine ((texts_calls a.n b.n j.names k.names W (Now W) (HJ.out.step B0).1 (HK.out.step B0).1 HN.out.2.2.1).mono fun _ _ h => h.ret).mono ?_
  rintro e w1 h
  obtain ⟨rfl, hb⟩ := (show RetB W true e w1 from by rw [H0_.out] at h; exact h)
  have C := B0.trans (hb.mono B0.size)
  have BB := Lib.hid C
  replace HJ := Lib.hid (HJ.out.step C)
  replace HK := Lib.hid (HK.out.step C)
  have Hx := Lib.hid (Yx.step hb)
  have Hy_ := Lib.hid (Yy_.step hb)
  obtain ⟨by_, hby_⟩ : ∃ b, b = w.heap.size + 1 := ⟨_, rfl⟩
  rw [← hby_] at Hy_ ⊢
  obtain ⟨bx, hbx⟩ : ∃ b, b = w.heap.size := ⟨_, rfl⟩
  rw [← hbx] at Hx ⊢
  clear Yx hbx Yy_ hby_
  have ix := Hx.out.isRow; have rx := Hx.out.row; have lx := Hx.out.lt; have nx : ¬ bx = w1.heap.size := Nat.ne_of_lt lx; have mx : ¬ w1.heap.size = bx := fun h => nx h.symm
  have iy_ := Hy_.out.isRow; have ry_ := Hy_.out.row; have ly_ := Hy_.out.lt; have ny_ : ¬ by_ = w1.heap.size := Nat.ne_of_lt ly_; have my_ : ¬ w1.heap.size = by_ := fun h => ny_ h.symm
  clear h hb C B0 W
  go_wp2_with (first | (apply ld_row 35 19; (focus rfl); (focus go_simp); (focus (go_simp; rfl)); (focus (exact Tryd.underlying35)); (focus kernel_rfl)) | (apply st_row 35 19; (focus rfl); (focus rfl); (focus go_simp); (focus kernel_rfl); (focus rfl); (focus (first | (simp [Value.oneCell']; done) | (simp [Value.oneCell', Job.cells]; done)))) | fail)
  refine Calls.at_ fun W hW => ?_
  have B0 : Below w1.heap.size w1 W := by rw [hW]; repeat' (first | with_reducible refine Below.alloc ?_ ?_ _ | with_reducible refine Below.setRow_ ?_ ?_ _ | with_reducible refine Below.setCell ?_ ?_ _ | with_reducible refine Below.drew ?_ | with_reducible refine Below.drewN_ ?_ _ | with_reducible exact Below.refl _ _ | assumption | (simp; done) | (simp; omega) | omega)
  clear hW
  refine (frames_calls a.s b.s j.stack k.stack W (Now W) (Sub.now W) (HJ.out.step B0).2.1 (HK.out.step B0).2.1 HN.out.1 HN.out.2.1).mono ?_
  rintro e w2 h
  obtain ⟨rfl, hb⟩ := (show RetB W true e w2 from by rw [H1_.out] at h; exact h)
  have C := B0.trans (hb.mono B0.size)
  replace BB := Lib.hid (BB.out.trans (C.mono BB.out.size))
  replace HJ := Lib.hid (HJ.out.step C)
  replace HK := Lib.hid (HK.out.step C)
  clear ix rx lx nx mx
  replace Hx := Lib.hid (Hx.out.step C)
  clear iy_ ry_ ly_ ny_ my_
  replace Hy_ := Lib.hid (Hy_.out.step C)
  have ix := Hx.out.isRow; have rx := Hx.out.row; have lx := Hx.out.lt; have nx : ¬ bx = w2.heap.size := Nat.ne_of_lt lx; have mx : ¬ w2.heap.size = bx := fun h => nx h.symm
  have iy_ := Hy_.out.isRow; have ry_ := Hy_.out.row; have ly_ := Hy_.out.lt; have ny_ : ¬ by_ = w2.heap.size := Nat.ne_of_lt ly_; have my_ : ¬ w2.heap.size = by_ := fun h => ny_ h.symm
  clear h hb C B0 W
  go_wp2_with (first | (apply ld_row 35 19; (focus rfl); (focus go_simp); (focus (go_simp; rfl)); (focus (exact Tryd.underlying35)); (focus kernel_rfl)) | (apply st_row 35 19; (focus rfl); (focus rfl); (focus go_simp); (focus kernel_rfl); (focus rfl); (focus (first | (simp [Value.oneCell']; done) | (simp [Value.oneCell', Job.cells]; done)))) | fail)
  refine Calls.at_ fun W hW => ?_
  have B0 : Below w2.heap.size w2 W := by rw [hW]; repeat' (first | with_reducible refine Below.alloc ?_ ?_ _ | with_reducible refine Below.setRow_ ?_ ?_ _ | with_reducible refine Below.setCell ?_ ?_ _ | with_reducible refine Below.drew ?_ | with_reducible refine Below.drewN_ ?_ _ | with_reducible exact Below.refl _ _ | assumption | (simp; done) | (simp; omega) | omega)
  clear hW
  refine ((rints_calls a.d b.d j.draws k.draws W (Now W) (HJ.out.step B0).2.2 (HK.out.step B0).2.2 HN.out.2.2.2).mono fun _ _ h => h.ret).mono ?_
  rintro e w3 h
  obtain ⟨rfl, hb⟩ := (show RetB W true e w3 from by rw [H2_.out] at h; exact h)
  have C := B0.trans (hb.mono B0.size)
  replace BB := Lib.hid (BB.out.trans (C.mono BB.out.size))
  replace HJ := Lib.hid (HJ.out.step C)
  replace HK := Lib.hid (HK.out.step C)
  clear ix rx lx nx mx
  replace Hx := Lib.hid (Hx.out.step C)
  clear iy_ ry_ ly_ ny_ my_
  replace Hy_ := Lib.hid (Hy_.out.step C)
  have ix := Hx.out.isRow; have rx := Hx.out.row; have lx := Hx.out.lt; have nx : ¬ bx = w3.heap.size := Nat.ne_of_lt lx; have mx : ¬ w3.heap.size = bx := fun h => nx h.symm
  have iy_ := Hy_.out.isRow; have ry_ := Hy_.out.row; have ly_ := Hy_.out.lt; have ny_ : ¬ by_ = w3.heap.size := Nat.ne_of_lt ly_; have my_ : ¬ w3.heap.size = by_ := fun h => ny_ h.symm
  clear h hb C B0 W
  go_wp2
  go_ret
  exact ⟨rfl, BB.out⟩
end Go.Proofs.YtjkjlegloicmcaaDoor
