/- The job layer: job.Trim, where there is something to trim. -/
import Derived.Test.YtjkjlegloicmcaaDoorJobF
set_option linter.unusedSimpArgs false
set_option linter.unusedVariables false
namespace Go.Proofs.YtjkjlegloicmcaaDoor
open Go.RowKit
attribute [local go_sem] isRow_drew row_drew isRow_drewN row_drewN cell_isRow rowSz_isRow isHead_ptr blockOf_ptr row_alloc isRow_alloc rowSz_alloc setRow_alloc isRow_setRow isRow_setCell isRow_frozen setCell_setRow_same setCell_setRow_other cell_setRow_same' cell_setRow_other' frozen_setRow' row_setRow_same row_setRow_other rowSz_setRow_same rowSz_setRow_other setRow_setRow_same' setRow_comm' ne_l2 ne_r2 ne_l3 ne_r3 ne_l4 ne_r4 ne_l5 ne_r5 ne_l6 ne_r6 ne_l7 ne_r7 ne_l8 ne_r8
attribute [local go_sem ↓] ldx_27
theorem ldx_46 {ρ : Operand → Value} {dst : Option Tmp} {tt : TypeId} {pos : String} {after : Array Edge} {gd : Option (Nat × Bool)} {x : Operand} {w : World} (h1 : isHead (ρ x) = true) (h2 : rowSz w (blockOf (ρ x)) 3 = true) : (execOp ρ { dst := dst, op := .load 46 x, type := tt, pos := pos, after := after, guard := gd }).run Tryd.prog w = .ok (.value (.agg (row w (blockOf (ρ x))))) w := ld_exec 46 3 Tryd.underlying46 (by kernel_rfl) h1 h2
attribute [local go_sem ↓] ldx_46
attribute [local go_sem] Job.cells
attribute [local go_sem ↓] Go.wp_at_zero Go.wp_at_succ

theorem rowSz_call {W w1 : World} {g n : Nat} (hb : Below W.heap.size W w1) (h : rowSz W g n = true) : rowSz w1 g n = true := by
  obtain ⟨t, h1, h2⟩ := heap_of_row h
  have h3 : w1.heap[g]? = some (.cells (row W g) t (0, 0)) := blk_call hb h1
  rw [rowSz_isRow (isRow_of h3), row_of h3]
  simpa using h2
theorem drew_size (w : World) : w.drew.heap.size = w.heap.size := rfl
set_option maxHeartbeats 400000 in
theorem trim_cut (j : Job) (a : JA) (w : World) (S : Nat → Prop) (hS : Sub S w) (hj : j.ok w S a) (hl : j.stack.length ≤ 1000) (h1 : 0 < j.stack.length) (f : Frame) (hf : j.stack[j.stack.length - 1]'(by omega) = f) (h2 : 0 < f.names.length) (h3 : f.names.length ≤ 100000) :
    Calls Tryd.prog 22 #[.agg (j.cells a).toArray] w (RetJ w S { j with stack := j.stack.take (j.stack.length - 1) ++ [{ f with names := f.names.tail }] }) := by
  have HJ := Lib.hid hj
  have HT := Lib.hid (fun w' (hb : Below w.heap.size w w') => top_calls j a w' S (hS.mono hb) (hj.sub hS hb) hl h1)
  clear hj
  rw [hf] at HT
  unfold Job.cells at HT ⊢
  go_enter Tryd.func22, Tryd.ntmps22
  go_wp2_with (first | (apply ld_row 27 19; (focus rfl); (focus go_simp); (focus (go_simp; rfl)); (focus (exact Tryd.underlying27)); (focus kernel_rfl)) | (apply st_row 27 19; (focus rfl); (focus rfl); (focus go_simp); (focus kernel_rfl); (focus rfl); (focus (first | (simp [Value.oneCell']; done) | (simp [Value.oneCell', Job.cells]; done)))))
  refine Calls.at_ fun W hW => ?_
  have B0 : Below w.heap.size w W := by rw [hW]; repeat' (first | with_reducible refine Below.alloc ?_ ?_ _ | with_reducible exact Below.refl _ _ | assumption | (simp; done) | (simp; omega) | omega)
  have hWn : W.heap.size = w.heap.size + 2 := by rw [hW]; simp
  refine (HT.out _ B0).mono ?_
  clear HT
  rintro e w1 ⟨s, rfl, hs, hb⟩
  have hz1 := hb.size
  have HS := Lib.hid (hs.weak (S' := fun k => Ext w w1 S k ∧ ¬ (k = w.heap.size ∨ k = w.heap.size + 1)) fun k hk => by
    rcases hk with hk | hk
    · have := hS k hk; exact ⟨.inl hk, by omega⟩
    · exact ⟨.inr ⟨by omega, hk.2⟩, by omega⟩)
  have hsa : ∃ b off, s.a = some ⟨b, off, none⟩ := by
    obtain ⟨b, off, cs, e, _⟩ := hs.2.2 0 h2
    exact ⟨b, off, e⟩
  have hsc := hs.1
  clear hs hz1
  have k0 := blk_call (b := w.heap.size) hb (by rw [hW]; exact blk_old (blk_new _ (by first | rfl | simp)) _)
  have i0 := isRow_of k0
  have k1 := blk_call (b := w.heap.size + 1) hb (by rw [hW]; exact blk_new _ (by first | rfl | simp))
  have i1 := isRow_of k1
  have hz := hb.size
  rw [hWn] at hz
  have y0 : ¬ w.heap.size = w1.heap.size := by omega
  have z0 : ¬ w1.heap.size = w.heap.size := by omega
  have y1 : ¬ w.heap.size + 1 = w1.heap.size := by omega
  have z1 : ¬ w1.heap.size = w.heap.size + 1 := by omega
  have HB := Lib.hid (B0.trans (hb.mono B0.size))
  rw [rows2 k0 k1]
  clear hb B0 hWn hW k0 k1 W
  obtain ⟨sa, sc⟩ := s
  obtain ⟨b, off, hsa⟩ := hsa
  simp only at hsa hsc HS ⊢
  subst hsa
  by_cases hc : sc = 1
  · go_wp2_with (first | (apply ld_row 27 19; (focus rfl); (focus go_simp); (focus (go_simp; rfl)); (focus (exact Tryd.underlying27)); (focus kernel_rfl)) | (apply st_row 27 19; (focus rfl); (focus rfl); (focus go_simp); (focus kernel_rfl); (focus rfl); (focus (first | (simp [Value.oneCell']; done) | (simp [Value.oneCell', Job.cells]; done)))))
    refine Code.at_ fun W hW => ?_
    have g0 : Gro (fun k => k = w.heap.size ∨ k = w.heap.size + 1) w1 W := by rw [hW]; repeat' (first | with_reducible refine Gro.setRow ?_ (by simp) _ | with_reducible refine Gro.setCell ?_ (by simp) _ | with_reducible refine Gro.alloc ?_ _ | with_reducible exact Gro.refl _ _)
    have k0 : isRow W w.heap.size = true := by rw [hW]; go_simp
    have k1 : rowSz W (w.heap.size + 1) 19 = true := by rw [hW]; go_simp
    have m1 : isRow W (w.heap.size + 1) = true := by rw [hW]; go_simp
    have k2 : isRow W w1.heap.size = true := by rw [hW]; go_simp
    have r0 : row W w.heap.size = (j.cells a).toArray := by rw [hW]; go_simp
    have r2 : row W w1.heap.size = #[.int .i64 f.fd, .string f.name, .slice (⟨some ⟨b, off, none⟩, 0⟩ : Sl).a (f.names.length - 1) (⟨some ⟨b, off, none⟩, 0⟩ : Sl).c] := by rw [hW]; go_simp
    have hWz : w1.heap.size < W.heap.size := by rw [hW]; simp
    clear hW
    have BW := Lib.hid (Below.gro HB.out g0 (by omega) HB.out.size)
    have hIs : rStr.Is W (fun k => Ext w W S k ∧ ¬ (k = w.heap.size ∨ k = w.heap.size + 1 ∨ k = w1.heap.size)) (⟨some ⟨b, off, none⟩, 0⟩ : Sl) (f.names.tail) := by
      have h := HS.out
      have h4 : rStr.Is W (fun k => Ext w W S k ∧ ¬ (k = w.heap.size ∨ k = w.heap.size + 1 ∨ k = w1.heap.size)) ⟨some ⟨b, off, none⟩, sc⟩ f.names := by
        refine (h.move fun k hk => g0.block k ?_ hk.2).weak fun k hk => ?_
        · rcases hk.1 with h5 | h5
          · have := hS k h5; omega
          · exact h5.2
        · obtain ⟨h5, h6⟩ := hk
          rcases h5 with h5 | h5
          · have := hS k h5; exact ⟨.inl h5, by omega⟩
          · exact ⟨.inr ⟨h5.1, by omega⟩, by omega⟩
      rw [← List.drop_one, List.drop_eq_nil_of_le (by omega)]; exact Rp.Is.nil _ _ _ _
    have HI := Lib.hid hIs
    clear hIs g0 HS
    refine reg0 5 (fun w' => (isRow w' w.heap.size = true ∧ rowSz w' (w.heap.size + 1) 19 = true ∧ isRow w' (w.heap.size + 1) = true ∧ isRow w' w1.heap.size = true) ∧ row w' w.heap.size = (j.cells a).toArray ∧ row w' w1.heap.size = #[.int .i64 f.fd, .string f.name, .slice (⟨some ⟨b, off, none⟩, 0⟩ : Sl).a (f.names.length - 1) (⟨some ⟨b, off, none⟩, 0⟩ : Sl).c]) (by kernel_rfl) (by kernel_rfl) (by kernel_rfl) ?_ (fun l hg hHeld => ?_)
    · (try dsimp only); (first | exact ⟨⟨k03, k13, m13, k23⟩, r03, r23⟩ | exact ⟨⟨k02, k12, m12, k22⟩, r02, r22⟩ | exact ⟨⟨k0, k1, m1, k2⟩, r0, r2⟩ | go_simp)
    (apply tkT 0 1 hg; (focus rfl); (focus rfl); (focus kernel_rfl); (focus (intro w0 hSw; (try dsimp only at hSw); go_simp; try (with_reducible rfl))); (focus assumption))
    try simp only [Act.put, List.setIfInBounds_toArray, List.set_cons_zero, List.set_cons_succ]
    (apply tkT 2 5 hg; (focus rfl); (focus rfl); (focus kernel_rfl); (focus (intro w0 hSw; (try dsimp only at hSw); go_simp; try (with_reducible rfl))); (focus assumption))
    try simp only [Act.put, List.setIfInBounds_toArray, List.set_cons_zero, List.set_cons_succ]
    (apply act1 1 7 hg; (focus rfl); (focus rfl); (focus kernel_rfl))
    intro K hK
    go_simp
    refine (pop_calls j a _ S (hS.mono BW.out.drew) (HJ.out.sub hS BW.out.drew) hl).mono ?_; rintro e w2 ⟨a2, rfl, hj2, hb2⟩; replace hb2 : Below W.heap.size W w2 := Below.undrew hb2; have k02 := isRow_call hb2 k0; have k12 := rowSz_call hb2 k1; have m12 := isRow_call hb2 m1; have k22 := isRow_call hb2 k2; have r02 := row_call hb2 k0 r0; have r22 := row_call hb2 k2 r2; have B2 := Lib.hid (BW.out.trans (hb2.mono BW.out.size)); have z2 := hb2.size; have HJ2 := Lib.hid (hj2.weak (S' := fun k => Ext w w2 S k ∧ ¬ (k = w.heap.size ∨ k = w.heap.size + 1 ∨ k = w1.heap.size)) (fun k hk => hk.elim (fun h => ⟨.inl h, by have := hS k h; omega⟩) (fun h => ⟨.inr ⟨by have := BW.out.size; have := h.1; simp only [drew_size] at this; omega, h.2⟩, by have := h.1; simp only [drew_size] at this; omega⟩))); have HI2 := Lib.hid ((HI.out.move (fun k hk => hb2.block k (hk.1.elim (fun h => Nat.lt_of_lt_of_le (hS k h) BW.out.size) (·.2)))).weak (S' := fun k => Ext w w2 S k ∧ ¬ (k = w.heap.size ∨ k = w.heap.size + 1 ∨ k = w1.heap.size)) (fun k hk => ⟨hk.1.imp id (fun h => ⟨h.1, by omega⟩), hk.2⟩)); clear hj2
    refine hK.out _ _ ?_ (fun hHeld => ?_)
    · (try dsimp only); (first | exact ⟨⟨k03, k13, m13, k23⟩, r03, r23⟩ | exact ⟨⟨k02, k12, m12, k22⟩, r02, r22⟩ | exact ⟨⟨k0, k1, m1, k2⟩, r0, r2⟩ | go_simp)
    clear hK K
    try simp only [Act.put, List.setIfInBounds_toArray, List.set_cons_zero, List.set_cons_succ]
    (apply act1 3 15 hg; (focus rfl); (focus rfl); (focus kernel_rfl))
    intro K hK
    go_simp
    have hp := (push_calls { j with stack := j.stack.take (j.stack.length - 1) } a2 { f with names := f.names.tail } (⟨some ⟨b, off, none⟩, 0⟩ : Sl) _ (fun k => Ext w w2 S k ∧ ¬ (k = w.heap.size ∨ k = w.heap.size + 1 ∨ k = w1.heap.size)) (fun k hk => hk.1.elim (fun h => Nat.lt_of_lt_of_le (hS k h) B2.out.size) (·.2)) HJ2.out HI2.out (by simp only [List.length_take]; omega)); simp only [List.length_tail, Job.cells, show (List.take (j.stack.length - 1) j.stack).length = j.stack.length - 1 by simp only [List.length_take]; omega] at hp; refine hp.mono ?_; clear hp; rintro e w3 ⟨a3, rfl, hj3, hb3⟩; have k03 := isRow_call hb3 k02; have k13 := rowSz_call hb3 k12; have m13 := isRow_call hb3 m12; have k23 := isRow_call hb3 k22; have r03 := row_call hb3 k02 r02; have r23 := row_call hb3 k22 r22; have z3 := hb3.size; have B3 := Lib.hid (B2.out.trans (hb3.mono B2.out.size)); have HJ3 := Lib.hid (hj3.weak (S' := fun k => Ext w w3 S k ∧ ¬ (k = w.heap.size ∨ k = w.heap.size + 1 ∨ k = w1.heap.size)) (fun k hk => hk.elim (fun h => ⟨h.1.imp id (fun h => ⟨h.1, by omega⟩), h.2⟩) (fun h => ⟨.inr ⟨by have := BW.out.size; omega, h.2⟩, by omega⟩))); clear hj3
    refine hK.out _ _ ?_ (fun hHeld => ?_)
    · (try dsimp only); (first | exact ⟨⟨k03, k13, m13, k23⟩, r03, r23⟩ | exact ⟨⟨k02, k12, m12, k22⟩, r02, r22⟩ | exact ⟨⟨k0, k1, m1, k2⟩, r0, r2⟩ | go_simp)
    clear hK K
    try simp only [Act.put, List.setIfInBounds_toArray, List.set_cons_zero, List.set_cons_succ]
    (apply act1 4 31 hg; (focus rfl); (focus rfl); (focus kernel_rfl))
    intro K hK
    (apply wp_st_row 27 19; (focus rfl); (focus rfl); (focus go_simp); (focus kernel_rfl); (focus rfl); (focus (first | (simp [Value.oneCell']; done) | (simp [Value.oneCell', Job.cells]; done))))
    refine hK.out _ _ ?_ (fun hHeld => ?_)
    · (try dsimp only); (first | exact ⟨⟨k03, k13, m13, k23⟩, r03, r23⟩ | exact ⟨⟨k02, k12, m12, k22⟩, r02, r22⟩ | exact ⟨⟨k0, k1, m1, k2⟩, r0, r2⟩ | go_simp)
    clear hK K
    try simp only [Act.put, List.setIfInBounds_toArray, List.set_cons_zero, List.set_cons_succ]
    refine actE hg (by kernel_rfl) ?_
    go_wp2
    refine ret_row (n := 19) (cs := (Job.cells { j with stack := j.stack.take (j.stack.length - 1) ++ [{ f with names := f.names.tail }] } a3).toArray) rfl rfl (by go_simp) (by go_simp; try simp [Job.cells]; try (first | omega | rfl)) Tryd.underlying27 (by kernel_rfl) rfl ?_
    exact RetJ.gro (B := fun k => k = w.heap.size ∨ k = w.heap.size + 1 ∨ k = w1.heap.size) hS B3.out (by repeat' (first | with_reducible refine Gro.setRow ?_ (by simp) _ | with_reducible exact Gro.refl _ _)) (by omega) HJ3.out
  · go_wp2_with (first | (apply ld_row 27 19; (focus rfl); (focus go_simp); (focus (go_simp; rfl)); (focus (exact Tryd.underlying27)); (focus kernel_rfl)) | (apply st_row 27 19; (focus rfl); (focus rfl); (focus go_simp); (focus kernel_rfl); (focus rfl); (focus (first | (simp [Value.oneCell']; done) | (simp [Value.oneCell', Job.cells]; done)))))
    refine Code.at_ fun W hW => ?_
    have g0 : Gro (fun k => k = w.heap.size ∨ k = w.heap.size + 1) w1 W := by rw [hW]; repeat' (first | with_reducible refine Gro.setRow ?_ (by simp) _ | with_reducible refine Gro.setCell ?_ (by simp) _ | with_reducible refine Gro.alloc ?_ _ | with_reducible exact Gro.refl _ _)
    have k0 : isRow W w.heap.size = true := by rw [hW]; go_simp
    have k1 : rowSz W (w.heap.size + 1) 19 = true := by rw [hW]; go_simp
    have m1 : isRow W (w.heap.size + 1) = true := by rw [hW]; go_simp
    have k2 : isRow W w1.heap.size = true := by rw [hW]; go_simp
    have r0 : row W w.heap.size = (j.cells a).toArray := by rw [hW]; go_simp
    have r2 : row W w1.heap.size = #[.int .i64 f.fd, .string f.name, .slice (⟨some ⟨b, off + 1, none⟩, sc - 1⟩ : Sl).a (f.names.length - 1) (⟨some ⟨b, off + 1, none⟩, sc - 1⟩ : Sl).c] := by rw [hW]; go_simp
    have hWz : w1.heap.size < W.heap.size := by rw [hW]; simp
    clear hW
    have BW := Lib.hid (Below.gro HB.out g0 (by omega) HB.out.size)
    have hIs : rStr.Is W (fun k => Ext w W S k ∧ ¬ (k = w.heap.size ∨ k = w.heap.size + 1 ∨ k = w1.heap.size)) (⟨some ⟨b, off + 1, none⟩, sc - 1⟩ : Sl) (f.names.tail) := by
      have h := HS.out
      have h4 : rStr.Is W (fun k => Ext w W S k ∧ ¬ (k = w.heap.size ∨ k = w.heap.size + 1 ∨ k = w1.heap.size)) ⟨some ⟨b, off, none⟩, sc⟩ f.names := by
        refine (h.move fun k hk => g0.block k ?_ hk.2).weak fun k hk => ?_
        · rcases hk.1 with h5 | h5
          · have := hS k h5; omega
          · exact h5.2
        · obtain ⟨h5, h6⟩ := hk
          rcases h5 with h5 | h5
          · have := hS k h5; exact ⟨.inl h5, by omega⟩
          · exact ⟨.inr ⟨h5.1, by omega⟩, by omega⟩
      exact ⟨by simp only [List.length_tail]; omega, by have h5 := h4.2.drop 1 (by omega); rw [List.drop_one] at h5; exact h5⟩
    have HI := Lib.hid hIs
    clear hIs g0 HS
    refine reg0 5 (fun w' => (isRow w' w.heap.size = true ∧ rowSz w' (w.heap.size + 1) 19 = true ∧ isRow w' (w.heap.size + 1) = true ∧ isRow w' w1.heap.size = true) ∧ row w' w.heap.size = (j.cells a).toArray ∧ row w' w1.heap.size = #[.int .i64 f.fd, .string f.name, .slice (⟨some ⟨b, off + 1, none⟩, sc - 1⟩ : Sl).a (f.names.length - 1) (⟨some ⟨b, off + 1, none⟩, sc - 1⟩ : Sl).c]) (by kernel_rfl) (by kernel_rfl) (by kernel_rfl) ?_ (fun l hg hHeld => ?_)
    · (try dsimp only); (first | exact ⟨⟨k03, k13, m13, k23⟩, r03, r23⟩ | exact ⟨⟨k02, k12, m12, k22⟩, r02, r22⟩ | exact ⟨⟨k0, k1, m1, k2⟩, r0, r2⟩ | go_simp)
    (apply tkT 0 1 hg; (focus rfl); (focus rfl); (focus kernel_rfl); (focus (intro w0 hSw; (try dsimp only at hSw); go_simp; try (with_reducible rfl))); (focus assumption))
    try simp only [Act.put, List.setIfInBounds_toArray, List.set_cons_zero, List.set_cons_succ]
    (apply tkT 2 5 hg; (focus rfl); (focus rfl); (focus kernel_rfl); (focus (intro w0 hSw; (try dsimp only at hSw); go_simp; try (with_reducible rfl))); (focus assumption))
    try simp only [Act.put, List.setIfInBounds_toArray, List.set_cons_zero, List.set_cons_succ]
    (apply act1 1 7 hg; (focus rfl); (focus rfl); (focus kernel_rfl))
    intro K hK
    go_simp
    refine (pop_calls j a _ S (hS.mono BW.out.drew) (HJ.out.sub hS BW.out.drew) hl).mono ?_; rintro e w2 ⟨a2, rfl, hj2, hb2⟩; replace hb2 : Below W.heap.size W w2 := Below.undrew hb2; have k02 := isRow_call hb2 k0; have k12 := rowSz_call hb2 k1; have m12 := isRow_call hb2 m1; have k22 := isRow_call hb2 k2; have r02 := row_call hb2 k0 r0; have r22 := row_call hb2 k2 r2; have B2 := Lib.hid (BW.out.trans (hb2.mono BW.out.size)); have z2 := hb2.size; have HJ2 := Lib.hid (hj2.weak (S' := fun k => Ext w w2 S k ∧ ¬ (k = w.heap.size ∨ k = w.heap.size + 1 ∨ k = w1.heap.size)) (fun k hk => hk.elim (fun h => ⟨.inl h, by have := hS k h; omega⟩) (fun h => ⟨.inr ⟨by have := BW.out.size; have := h.1; simp only [drew_size] at this; omega, h.2⟩, by have := h.1; simp only [drew_size] at this; omega⟩))); have HI2 := Lib.hid ((HI.out.move (fun k hk => hb2.block k (hk.1.elim (fun h => Nat.lt_of_lt_of_le (hS k h) BW.out.size) (·.2)))).weak (S' := fun k => Ext w w2 S k ∧ ¬ (k = w.heap.size ∨ k = w.heap.size + 1 ∨ k = w1.heap.size)) (fun k hk => ⟨hk.1.imp id (fun h => ⟨h.1, by omega⟩), hk.2⟩)); clear hj2
    refine hK.out _ _ ?_ (fun hHeld => ?_)
    · (try dsimp only); (first | exact ⟨⟨k03, k13, m13, k23⟩, r03, r23⟩ | exact ⟨⟨k02, k12, m12, k22⟩, r02, r22⟩ | exact ⟨⟨k0, k1, m1, k2⟩, r0, r2⟩ | go_simp)
    clear hK K
    try simp only [Act.put, List.setIfInBounds_toArray, List.set_cons_zero, List.set_cons_succ]
    (apply act1 3 15 hg; (focus rfl); (focus rfl); (focus kernel_rfl))
    intro K hK
    go_simp
    have hp := (push_calls { j with stack := j.stack.take (j.stack.length - 1) } a2 { f with names := f.names.tail } (⟨some ⟨b, off + 1, none⟩, sc - 1⟩ : Sl) _ (fun k => Ext w w2 S k ∧ ¬ (k = w.heap.size ∨ k = w.heap.size + 1 ∨ k = w1.heap.size)) (fun k hk => hk.1.elim (fun h => Nat.lt_of_lt_of_le (hS k h) B2.out.size) (·.2)) HJ2.out HI2.out (by simp only [List.length_take]; omega)); simp only [List.length_tail, Job.cells, show (List.take (j.stack.length - 1) j.stack).length = j.stack.length - 1 by simp only [List.length_take]; omega] at hp; refine hp.mono ?_; clear hp; rintro e w3 ⟨a3, rfl, hj3, hb3⟩; have k03 := isRow_call hb3 k02; have k13 := rowSz_call hb3 k12; have m13 := isRow_call hb3 m12; have k23 := isRow_call hb3 k22; have r03 := row_call hb3 k02 r02; have r23 := row_call hb3 k22 r22; have z3 := hb3.size; have B3 := Lib.hid (B2.out.trans (hb3.mono B2.out.size)); have HJ3 := Lib.hid (hj3.weak (S' := fun k => Ext w w3 S k ∧ ¬ (k = w.heap.size ∨ k = w.heap.size + 1 ∨ k = w1.heap.size)) (fun k hk => hk.elim (fun h => ⟨h.1.imp id (fun h => ⟨h.1, by omega⟩), h.2⟩) (fun h => ⟨.inr ⟨by have := BW.out.size; omega, h.2⟩, by omega⟩))); clear hj3
    refine hK.out _ _ ?_ (fun hHeld => ?_)
    · (try dsimp only); (first | exact ⟨⟨k03, k13, m13, k23⟩, r03, r23⟩ | exact ⟨⟨k02, k12, m12, k22⟩, r02, r22⟩ | exact ⟨⟨k0, k1, m1, k2⟩, r0, r2⟩ | go_simp)
    clear hK K
    try simp only [Act.put, List.setIfInBounds_toArray, List.set_cons_zero, List.set_cons_succ]
    (apply act1 4 31 hg; (focus rfl); (focus rfl); (focus kernel_rfl))
    intro K hK
    (apply wp_st_row 27 19; (focus rfl); (focus rfl); (focus go_simp); (focus kernel_rfl); (focus rfl); (focus (first | (simp [Value.oneCell']; done) | (simp [Value.oneCell', Job.cells]; done))))
    refine hK.out _ _ ?_ (fun hHeld => ?_)
    · (try dsimp only); (first | exact ⟨⟨k03, k13, m13, k23⟩, r03, r23⟩ | exact ⟨⟨k02, k12, m12, k22⟩, r02, r22⟩ | exact ⟨⟨k0, k1, m1, k2⟩, r0, r2⟩ | go_simp)
    clear hK K
    try simp only [Act.put, List.setIfInBounds_toArray, List.set_cons_zero, List.set_cons_succ]
    refine actE hg (by kernel_rfl) ?_
    go_wp2
    refine ret_row (n := 19) (cs := (Job.cells { j with stack := j.stack.take (j.stack.length - 1) ++ [{ f with names := f.names.tail }] } a3).toArray) rfl rfl (by go_simp) (by go_simp; try simp [Job.cells]; try (first | omega | rfl)) Tryd.underlying27 (by kernel_rfl) rfl ?_
    exact RetJ.gro (B := fun k => k = w.heap.size ∨ k = w.heap.size + 1 ∨ k = w1.heap.size) hS B3.out (by repeat' (first | with_reducible refine Gro.setRow ?_ (by simp) _ | with_reducible exact Gro.refl _ _)) (by omega) HJ3.out
end Go.Proofs.YtjkjlegloicmcaaDoor

