/- JobTries, the road that is told of: a job tries again as often as it may, and then fails with too many tries. -/
import Derived.Test.YtjkjlegloicmcaaDoorTryA
set_option linter.unusedVariables false
set_option linter.unusedSimpArgs false
namespace Go.Proofs.YtjkjlegloicmcaaDoor
open Go.RowKit
attribute [local go_sem] isRow_drew row_drew isRow_drewN row_drewN cell_isRow rowSz_isRow isHead_ptr blockOf_ptr row_alloc isRow_alloc rowSz_alloc setRow_alloc isRow_setRow isRow_setCell isRow_frozen setCell_setRow_same setCell_setRow_other cell_setRow_same' cell_setRow_other' frozen_setRow' row_setRow_same row_setRow_other rowSz_setRow_same rowSz_setRow_other setRow_setRow_same' setRow_comm' ne_l2 ne_r2 ne_l3 ne_r3 ne_l4 ne_r4 ne_l5 ne_r5 ne_l6 ne_r6 ne_l7 ne_r7 ne_l8 ne_r8 cells_len
attribute [local go_sem ↓] ldx_27
attribute [local go_sem ↓] Go.wp_at_zero Go.wp_at_succ
set_option maxRecDepth 100000 in
set_option maxHeartbeats 4000000 in
theorem jobTries_main (j : Job) (a : JA) (path : ByteArray) (w : World) (hj : j.now w a) (hp : plainB j = true) (h1 : (path.size : Int) ≤ 200) (h2 : decide (j.tries < 0) = false) (h3 : decide (3 < j.tries) = false) :
    Calls Tryd.prog 6 #[.agg (j.cells a).toArray, .string path] w (RetB w true) := by
  have HJ := Lib.hid hj
  clear hj
  have hc := cells_eq
  go_enter Tryd.func6, Tryd.ntmps6
  go_wp2_with (first | (apply ld_row 27 19; (focus rfl); (focus go_simp); (focus (go_simp; rfl)); (focus (exact Tryd.underlying27)); (focus kernel_rfl)) | (apply st_row 27 19; (focus rfl); (focus rfl); (focus go_simp); (focus kernel_rfl); (focus rfl); (focus (first | (simp [Value.oneCell']; done) | (simp [Value.oneCell', Job.cells]; done)))) | (apply ld_row 46 3; (focus rfl); (focus go_simp); (focus (go_simp; rfl)); (focus (exact Tryd.underlying46)); (focus kernel_rfl)) | (apply st_row 46 3; (focus rfl); (focus rfl); (focus go_simp); (focus kernel_rfl); (focus rfl); (focus (first | (simp [Value.oneCell']; done) | (simp [Value.oneCell', Job.cells]; done)))) | fail)
  refine Calls.at_ fun W hW => ?_
  have B0 : Below w.heap.size w W := by rw [hW]; repeat' (first | with_reducible refine Below.alloc ?_ ?_ _ | with_reducible refine Below.setRow_ ?_ ?_ _ | with_reducible refine Below.setCell ?_ ?_ _ | with_reducible refine Below.drew ?_ | with_reducible refine Below.drewN_ ?_ _ | with_reducible exact Below.refl _ _ | assumption | (simp; done) | (simp; omega) | omega)
  have Yj : Box W (w.heap.size) (j.cells a).toArray := ⟨_, by rw [hW]; exact blk_new _ (by first | rfl | simp)⟩
  clear hW
  refine (plain_calls j a W (Now W) (Sub.now W) (HJ.out.step B0)).mono ?_
  rintro e w1 h
  obtain ⟨rfl, hb⟩ := (show RetP W true e w1 from by rw [hp] at h; exact h)
  have C := B0.trans (hb.mono B0.size)
  have BB := Lib.hid C
  replace HJ := Lib.hid (HJ.out.step C)
  have Hj := Lib.hid (Yj.step hb)
  obtain ⟨bj, hbj⟩ : ∃ b, b = w.heap.size := ⟨_, rfl⟩
  rw [← hbj] at Hj ⊢
  clear Yj hbj
  have ij := Hj.out.isRow; have rj := Hj.out.row; have lj := Hj.out.lt; have nj : ¬ bj = w1.heap.size := Nat.ne_of_lt lj; have mj : ¬ w1.heap.size = bj := fun h => nj h.symm
  clear h hb C B0 W
  clear hp
  go_wp2_with (first | (apply ld_row 27 19; (focus rfl); (focus go_simp); (focus (go_simp; rfl)); (focus (exact Tryd.underlying27)); (focus kernel_rfl)) | (apply st_row 27 19; (focus rfl); (focus rfl); (focus go_simp); (focus kernel_rfl); (focus rfl); (focus (first | (simp [Value.oneCell']; done) | (simp [Value.oneCell', Job.cells]; done)))) | (apply ld_row 46 3; (focus rfl); (focus go_simp); (focus (go_simp; rfl)); (focus (exact Tryd.underlying46)); (focus kernel_rfl)) | (apply st_row 46 3; (focus rfl); (focus rfl); (focus go_simp); (focus kernel_rfl); (focus rfl); (focus (first | (simp [Value.oneCell']; done) | (simp [Value.oneCell', Job.cells]; done)))) | fail)
  refine Calls.at_ fun W hW => ?_
  have B0 : Below w1.heap.size w1 W := by rw [hW]; repeat' (first | with_reducible refine Below.alloc ?_ ?_ _ | with_reducible refine Below.setRow_ ?_ ?_ _ | with_reducible refine Below.setCell ?_ ?_ _ | with_reducible refine Below.drew ?_ | with_reducible refine Below.drewN_ ?_ _ | with_reducible exact Below.refl _ _ | assumption | (simp; done) | (simp; omega) | omega)
  clear hW
  refine (shown_calls W).mono ?_
  rintro e w2 h
  obtain ⟨rfl, hb⟩ := (show RetB W true e w2 from h)
  have C := B0.trans (hb.mono B0.size)
  replace BB := Lib.hid (BB.out.trans (C.mono BB.out.size))
  replace HJ := Lib.hid (HJ.out.step C)
  clear ij rj lj nj mj
  replace Hj := Lib.hid (Hj.out.step C)
  have ij := Hj.out.isRow; have rj := Hj.out.row; have lj := Hj.out.lt; have nj : ¬ bj = w2.heap.size := Nat.ne_of_lt lj; have mj : ¬ w2.heap.size = bj := fun h => nj h.symm
  clear h hb C B0 W
  go_wp2_with (first | (apply ld_row 27 19; (focus rfl); (focus go_simp); (focus (go_simp; rfl)); (focus (exact Tryd.underlying27)); (focus kernel_rfl)) | (apply st_row 27 19; (focus rfl); (focus rfl); (focus go_simp); (focus kernel_rfl); (focus rfl); (focus (first | (simp [Value.oneCell']; done) | (simp [Value.oneCell', Job.cells]; done)))) | (apply ld_row 46 3; (focus rfl); (focus go_simp); (focus (go_simp; rfl)); (focus (exact Tryd.underlying46)); (focus kernel_rfl)) | (apply st_row 46 3; (focus rfl); (focus rfl); (focus go_simp); (focus kernel_rfl); (focus rfl); (focus (first | (simp [Value.oneCell']; done) | (simp [Value.oneCell', Job.cells]; done)))) | fail)
  refine Code.at_ fun v3 hW => ?_
  have B0 : Below w2.heap.size w2 v3 := by rw [hW]; repeat' (first | with_reducible refine Below.alloc ?_ ?_ _ | with_reducible refine Below.setRow_ ?_ ?_ _ | with_reducible refine Below.setCell ?_ ?_ _ | with_reducible refine Below.drew ?_ | with_reducible refine Below.drewN_ ?_ _ | with_reducible exact Below.refl _ _ | assumption | (simp; done) | (simp; omega) | omega)
  have hk : Box v3 w2.heap.size (j.cells a).toArray := ⟨_, by rw [hW]; (try rw [setRow_alloc, if_pos rfl]); exact blk_new _ (by first | rfl | simp)⟩
  have hjk : ¬ bj = w2.heap.size := nj
  have hok0 : j.ok v3 (fun x => Now v3 x ∧ x ≠ w2.heap.size) a := (Job.ok.sub HJ.out (Sub.now _) B0).weak fun x hx => ⟨Nat.lt_of_lt_of_le hx B0.size, Nat.ne_of_lt hx⟩
  have hkw : w.heap.size ≤ w2.heap.size := BB.out.size
  have hb1 : Below w.heap.size w v3 := BB.out.trans (B0.mono BB.out.size)
  have hbj : Box v3 bj (j.cells a).toArray := Hj.out.step B0
  clear ij rj lj nj mj hW B0 BB HJ Hj
  obtain ⟨bk, hbk⟩ : ∃ b, b = w2.heap.size := ⟨_, rfl⟩
  rw [← hbk] at hk hjk hok0 hkw ⊢
  clear hbk
  have hj0 : 0 ≤ j.tries := by simpa using h2
  have hj3 : j.tries ≤ 3 := by simpa using h3
  have hps : path.size ≤ 1000 := by omega
  clear h1 h2 h3
  have HV := Lib.hid (And.intro hkw hjk)
  have H0 := Lib.hid (And.intro hj0 (And.intro hj3 hps))
  have HS := Lib.hid (And.intro hb1 (And.intro hbj (And.intro (show Box v3 bk ((j.tried 0).cells a).toArray from by rw [tried_zero]; exact hk) (show (j.tried 0).ok v3 (fun x => Now v3 x ∧ x ≠ bk) a from by rw [tried_zero]; exact hok0))))
  clear hkw hjk hj0 hj3 hps hb1 hbj hk hok0
  go_loopw [6] (fun i wr => ∃ c : Nat, i = .int .i64 (j.tries + c) ∧ j.tries + c ≤ 3 ∧ ∃ ac, Below w.heap.size w wr ∧ Box wr bj (j.cells a).toArray ∧ Box wr bk ((j.tried c).cells ac).toArray ∧ (j.tried c).ok wr (fun x => Now wr x ∧ x ≠ bk) ac) (fun i _ => (3 - intOf i).toNat)
  case atStart => exact ⟨0, by simp, by have := H0.out; omega, a, HS.out⟩
  case round =>
    obtain ⟨c, rfl, hc3, ac, h1, h2, h3, h4⟩ := hrel
    have i1 := h2.isRow; have r1 := h2.row
    have i2 := h3.isRow; have r2 := h3.row
    have l1 := h2.lt; have l2 := h3.lt
    have HX := Lib.hid (And.intro h1 (And.intro h2 (And.intro h3 (And.intro h4 (And.intro hc3 (And.intro l1 l2))))))
    clear h1 h2 h3 h4 hc3 l1 l2 HS
    by_cases ht : j.tries + (c : Int) < 3
    · have hd : decide (j.tries + (c : Int) < 3) = true := by simpa using ht
      have HT := Lib.hid ht
      clear ht
      go_wp2_with (first | (apply ld_row 27 19; (focus rfl); (focus go_simp); (focus (go_simp; rfl)); (focus (exact Tryd.underlying27)); (focus kernel_rfl)) | (apply st_row 27 19; (focus rfl); (focus rfl); (focus go_simp); (focus kernel_rfl); (focus rfl); (focus (first | (simp [Value.oneCell']; done) | (simp [Value.oneCell', Job.cells]; done)))) | (apply ld_row 46 3; (focus rfl); (focus go_simp); (focus (go_simp; rfl)); (focus (exact Tryd.underlying46)); (focus kernel_rfl)) | (apply st_row 46 3; (focus rfl); (focus rfl); (focus go_simp); (focus kernel_rfl); (focus rfl); (focus (first | (simp [Value.oneCell']; done) | (simp [Value.oneCell', Job.cells]; done)))) | fail)
      refine (again_more (j.tried c) ac path wr (fun x => Now wr x ∧ x ≠ bk) (fun x hx => hx.1) HX.out.2.2.2.1 (by have := H0.out.1; show 0 ≤ j.tries + (c : Int); omega) HT.out).mono ?_
      rintro e w9 h
      rw [tried_succ] at h
      obtain ⟨a9, rfl, hj9, hb⟩ := h
      have hs := hb.size
      have h5 := HX.out.2.1.step hb
      have h6 := HX.out.2.2.1.step hb
      have hj9' : (j.tried (c + 1)).ok w9 (fun x => Now w9 x ∧ x ≠ bk) a9 := hj9.weak fun x hx => hx.elim (fun h => ⟨Nat.lt_of_lt_of_le h.1 hs, h.2⟩) (fun h => ⟨h.2, by have := HX.out.2.2.2.2.2.2; omega⟩)
      have i5 := h5.isRow; have r5 := h5.row; have i6 := h6.isRow; have r6 := h6.row
      have n5 : ¬ bj = w9.heap.size := Nat.ne_of_lt h5.lt
      have m5 : ¬ w9.heap.size = bj := fun h => n5 h.symm
      have n6 : ¬ bk = w9.heap.size := Nat.ne_of_lt h6.lt
      have m6 : ¬ w9.heap.size = bk := fun h => n6 h.symm
      have n7 : ¬ bj = bk := HV.out.2
      have m7 : ¬ bk = bj := fun h => n7 h.symm
      have q1 : (j.tried (c + 1)).tries = j.tries + (c : Int) + 1 := by unfold Job.tried; simp; omega
      have q2 : (j.tried (c + 1)).done = j.done := rfl
      have q3 : wrap64 (j.tries + (c : Int) + 1) = j.tries + (c : Int) + 1 := by have := H0.out; have := HT.out; unfold wrap64; omega
      have q4 : IntKind.i64.wrap (j.tries + (c : Int) + 1) = j.tries + (c : Int) + 1 := by have := H0.out; have := HT.out; rw [IntKind.wrap_i64] <;> omega
      have H9 := Lib.hid (And.intro (HX.out.1.trans (hb.mono HX.out.1.size)) (And.intro h5 (And.intro h6 hj9')))
      clear hj9 hj9' hb hs h5 h6 i1 r1 i2 r2
      go_wp2_with (first | (apply ld_row 27 19; (focus rfl); (focus go_simp); (focus (go_simp; rfl)); (focus (exact Tryd.underlying27)); (focus kernel_rfl)) | (apply st_row 27 19; (focus rfl); (focus rfl); (focus go_simp); (focus kernel_rfl); (focus rfl); (focus (first | (simp [Value.oneCell']; done) | (simp [Value.oneCell', Job.cells]; done)))) | (apply ld_row 46 3; (focus rfl); (focus go_simp); (focus (go_simp; rfl)); (focus (exact Tryd.underlying46)); (focus kernel_rfl)) | (apply st_row 46 3; (focus rfl); (focus rfl); (focus go_simp); (focus kernel_rfl); (focus rfl); (focus (first | (simp [Value.oneCell']; done) | (simp [Value.oneCell', Job.cells]; done)))) | fail)
      go_roundw
      case rel =>
        obtain ⟨h5, h6, h7, h8⟩ := H9.out
        obtain ⟨t6, k6⟩ := h6
        obtain ⟨t7, k7⟩ := h7
        refine ⟨c + 1, by simp; omega, by have := HT.out; omega, a9, (Below.setRow_ h5 HV.out.1 _).alloc (by have := h5.size; simpa using this) _, ⟨t6, blk_old (blk_rowfar n7 k6) _⟩, ⟨t7, (blk_old (blk_row k7) _).trans (by simp only [cells_eq, q1, q2])⟩, ?_⟩
        refine (h8.move (w1 := _) fun x hx => ?_).weak fun x hx => ?_
        · rw [Below.heap_alloc _ _ _ (by have h9 : x < w9.heap.size := hx.1; simpa using h9)]
          exact setRow_other _ _ x _ hx.2
        · exact ⟨by have := hx.1; simp only [Now] at this ⊢; simp; omega, hx.2⟩
      case measure => simp [intOf, q4]; have := HT.out; have := H0.out; omega
    · have hd : decide (j.tries + (c : Int) < 3) = false := by simpa using ht
      have HT := Lib.hid ht
      clear ht
      go_wp2_with (first | (apply ld_row 27 19; (focus rfl); (focus go_simp); (focus (go_simp; rfl)); (focus (exact Tryd.underlying27)); (focus kernel_rfl)) | (apply st_row 27 19; (focus rfl); (focus rfl); (focus go_simp); (focus kernel_rfl); (focus rfl); (focus (first | (simp [Value.oneCell']; done) | (simp [Value.oneCell', Job.cells]; done)))) | (apply ld_row 46 3; (focus rfl); (focus go_simp); (focus (go_simp; rfl)); (focus (exact Tryd.underlying46)); (focus kernel_rfl)) | (apply st_row 46 3; (focus rfl); (focus rfl); (focus go_simp); (focus kernel_rfl); (focus rfl); (focus (first | (simp [Value.oneCell']; done) | (simp [Value.oneCell', Job.cells]; done)))) | fail)
      refine (again_no (j.tried c) ac path wr (fun x => Now wr x ∧ x ≠ bk) (fun x hx => hx.1) HX.out.2.2.2.1 H0.out.2.2 (by have := HT.out; show ¬ (j.tries + (c : Int) < 3); omega)).mono ?_
      rintro e w9 h
      obtain ⟨a9, rfl, hj9, hb⟩ := h
      have H9 := Lib.hid (HX.out.1.trans (hb.mono HX.out.1.size))
      have ho : (failText path ⟨#[51, 50]⟩).toList = path.toList ++ [58, 32, 101, 114, 114, 111, 114, 32, 51, 50] := fail_text path
      have ho2 : (path ++ (⟨#[58, 32, 101, 114, 114, 111, 114, 32, 51, 50]⟩ : ByteArray)).toList = path.toList ++ [58, 32, 101, 114, 114, 111, 114, 32, 51, 50] := by simp [ByteArray.toList_eq, ByteArray.data_append]
      clear hj9 hb i1 r1 i2 r2
      go_wp2_with (first | (apply ld_row 27 19; (focus rfl); (focus go_simp); (focus (go_simp; rfl)); (focus (exact Tryd.underlying27)); (focus kernel_rfl)) | (apply st_row 27 19; (focus rfl); (focus rfl); (focus go_simp); (focus kernel_rfl); (focus rfl); (focus (first | (simp [Value.oneCell']; done) | (simp [Value.oneCell', Job.cells]; done)))) | (apply ld_row 46 3; (focus rfl); (focus go_simp); (focus (go_simp; rfl)); (focus (exact Tryd.underlying46)); (focus kernel_rfl)) | (apply st_row 46 3; (focus rfl); (focus rfl); (focus go_simp); (focus kernel_rfl); (focus rfl); (focus (first | (simp [Value.oneCell']; done) | (simp [Value.oneCell', Job.cells]; done)))) | fail)
      go_ret
      exact ⟨rfl, by have h := H9.out; exact h.alloc h.size _⟩
end Go.Proofs.YtjkjlegloicmcaaDoor
