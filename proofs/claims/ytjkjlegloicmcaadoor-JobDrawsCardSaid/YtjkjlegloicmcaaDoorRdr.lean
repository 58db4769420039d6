/- The reference's New and Draw. -/
import Derived.Test.YtjkjlegloicmcaaDoorWork
set_option linter.unusedVariables false
set_option linter.unusedSimpArgs false
namespace Go.Proofs.YtjkjlegloicmcaaDoor
open Go.RowKit
attribute [local go_sem] isRow_drew row_drew isRow_drewN row_drewN cell_isRow rowSz_isRow isHead_ptr blockOf_ptr row_alloc isRow_alloc rowSz_alloc setRow_alloc isRow_setRow isRow_setCell isRow_frozen setCell_setRow_same setCell_setRow_other cell_setRow_same' cell_setRow_other' frozen_setRow' row_setRow_same row_setRow_other rowSz_setRow_same rowSz_setRow_other setRow_setRow_same' setRow_comm' ne_l2 ne_r2 ne_l3 ne_r3 ne_l4 ne_r4 ne_l5 ne_r5 ne_l6 ne_r6 ne_l7 ne_r7 ne_l8 ne_r8
attribute [local go_sem ↓] ldx_27
attribute [local go_sem ↓] ldx_35
def newJob (kind p : Int) (draws : List Int) : Job := ⟨kind, p, 0, -1, 0, 0, 0, 0, 0, ⟨#[]⟩, ⟨#[]⟩, ⟨#[]⟩, [], [], draws, false, 0, ⟨#[]⟩, 0⟩
set_option maxHeartbeats 400000 in
theorem rnew_calls (kind p : Int) (d : Sl) (draws : List Int) (w : World) (S : Nat → Prop) (hS : Sub S w) (hd : rInt.Is w S d draws) :
    Calls Tryd.prog 15 #[.int .i64 kind, .int .i64 p, .slice d.a draws.length d.c] w (RetJ w S (newJob kind p draws)) := by
  have HD := Lib.hid hd
  clear hd
  go_enter Tryd.func15, Tryd.ntmps15
  go_wp2_with (first | (apply ld_row 35 19; (focus rfl); (focus go_simp); (focus (go_simp; rfl)); (focus (exact Tryd.underlying35)); (focus kernel_rfl)) | (apply st_row 35 19; (focus rfl); (focus rfl); (focus go_simp); (focus kernel_rfl); (focus rfl); (focus (first | (simp [Value.oneCell']; done) | (simp [Value.oneCell', Job.cells]; done)))))
  refine ret_row (n := 19) (cs := (Job.cells (newJob kind p draws) ⟨⟨none, 0⟩, ⟨none, 0⟩, d⟩).toArray) rfl rfl (by go_simp) (by go_simp; try simp [Job.cells, newJob]) Tryd.underlying35 (by kernel_rfl) rfl ?_
  exact RetJ.old hS (by repeat' (first | with_reducible refine Below.alloc ?_ ?_ _ | with_reducible refine Below.setRow_ ?_ ?_ _ | with_reducible refine Below.setCell ?_ ?_ _ | with_reducible refine Below.drew ?_ | with_reducible refine Below.drewN_ ?_ _ | with_reducible exact Below.refl _ _ | assumption | (simp; done) | (simp; omega) | omega)) ⟨Rp.Is.nil _ _ _ _, Rp.Is.nil _ _ _ _, HD.out⟩
theorem draw_succ (l : List Int) (at_ : Int) (m : Nat) : drawL l at_ ((m + 1 : Nat) : Int) = drawL l at_ (m : Int) ++ [l.getD (at_.toNat + m) 0] := by
  unfold drawL
  simp [List.range_succ]
theorem infoInt : Info Tryd.prog 3 1 8 := Info.of (z := .int .i64 0) (by kernel_rfl) rfl (by omega) (by omega)
theorem rdraw_end (j : Job) (a : JA) (n : Int) (w : World) (S : Nat → Prop) (hS : Sub S w) (hj : j.ok w S a) (W : World) (v : Value) (hb : Below w.heap.size w W) (h : rInt.Own 3 W (w.heap.size + 1 + 1) (fun _ => False) v (drawL j.draws j.at_ n)) :
    RetD w S (drawL j.draws j.at_ n) { j with at_ := j.at_ + n } (.returned (.tuple #[v, .agg (Job.cells { j with at_ := j.at_ + n } a).toArray])) W := by
  obtain ⟨A, c, rfl, hr⟩ := h.reads0
  obtain ⟨_, cs, ho, _⟩ := h
  refine ⟨⟨A, c⟩, a, rfl, ⟨?_, hr.weak fun k hk => hk.elim (fun h => h.elim) fun hk => .inr ⟨by have := (own_lt' ho k hk).1; omega, (own_lt' ho k hk).2⟩⟩, (hj.sub hS hb).weak fun k hk => .inl hk, hb⟩
  rcases Nat.eq_zero_or_pos (drawL j.draws j.at_ n).length with h0 | h0
  · rw [h0]; exact Nat.zero_le _
  · obtain ⟨g, cap, he2, hle⟩ := own_form ho h0
    injection he2 with _ _ e4
    rw [e4]; exact hle
theorem own_empty (W : World) (base : Nat) (hb : base ≤ W.heap.size) : rInt.Own 3 (W.alloc (.cells #[] 3)) base (fun _ => False) (.slice (some ⟨W.heap.size, 0, none⟩) 0 0) [] :=
  ⟨fun k h => h.elim, [], ⟨by simp, .inr ⟨W.heap.size, 0, #[], rfl, hb, heap_alloc_new W _, Nat.le_refl _, by simp, by simp, by simp⟩⟩, Rp.Cells.nil _ _ _⟩
def zeroJob : List Value := [.int .i64 0, .int .i64 0, .int .i64 0, .int .i64 0, .int .i64 0, .int .i64 0, .int .i64 0, .int .i64 0, .int .i64 0, .string ⟨#[]⟩, .string ⟨#[]⟩, .string ⟨#[]⟩, .slice none 0 0, .slice none 0 0, .slice none 0 0, .bool false, .int .i64 0, .string ⟨#[]⟩, .int .i64 0]
attribute [local go_sem ↓] Go.wp_at_zero Go.wp_at_succ
attribute [local go_sem] Job.cells
set_option maxRecDepth 100000 in
set_option maxHeartbeats 2000000 in
theorem rdraw_some (j : Job) (a : JA) (n : Int) (w : World) (S : Nat → Prop) (hS : Sub S w) (hj : j.ok w S a) (h0 : 0 ≤ j.at_) (h1 : j.at_ ≤ 1000000) (h2 : -1000 ≤ n) (h3 : n ≤ 1000) (b off : Nat) (hA : a.d.a = some ⟨b, off, none⟩) :
    Calls Tryd.prog 10 #[.agg (j.cells a).toArray, .int .i64 n] w (RetD w S (drawL j.draws j.at_ n) { j with at_ := j.at_ + n }) := by
  have HJ := Lib.hid hj
  clear hj
  have hw : wrap64 (j.at_ + n) = j.at_ + n := by unfold wrap64; omega
  have hw2 : IntKind.i64.wrap (j.at_ + n) = j.at_ + n := by rw [IntKind.wrap_i64] <;> omega
  have H0 := Lib.hid (And.intro h0 (And.intro h1 (And.intro h2 h3)))
  clear h0 h1 h2 h3
  have hc := cells_eq
  unfold Job.cells
  rw [hA]
  go_enter Tryd.func10, Tryd.ntmps10
  go_wp2
  refine Code.at_ fun W hW => ?_
  have B0 : Below w.heap.size w W := by rw [hW]; repeat' (first | with_reducible refine Below.alloc ?_ ?_ _ | with_reducible refine Below.setRow_ ?_ ?_ _ | with_reducible refine Below.setCell ?_ ?_ _ | with_reducible refine Below.drew ?_ | with_reducible refine Below.drewN_ ?_ _ | with_reducible exact Below.refl _ _ | assumption | (simp; done) | (simp; omega) | omega)
  have hz : W.heap.size = w.heap.size + 1 + 1 + 1 := by rw [hW]; simp
  have k0 : Box W w.heap.size (j.cells a).toArray := ⟨_, by rw [hW]; simp only [cells_eq, hA]; exact blk_old (blk_old (blk_new _ rfl) _) _⟩
  have k1 : rowSz W (w.heap.size + 1) 19 = true := by rw [hW]; go_simp
  have k2 : rInt.Own 3 W (w.heap.size + 1 + 1) (fun _ => False) (.slice (some ⟨w.heap.size + 1 + 1, 0, none⟩) 0 0) (drawL j.draws j.at_ (0 : Nat)) := by
    rw [hW, show drawL j.draws j.at_ ((0 : Nat) : Int) = [] by simp [drawL]]
    have h := own_empty ((w.alloc (.cells (j.cells a).toArray 35)).alloc (.cells (zeroJob).toArray 35)) (w.heap.size + 1 + 1) (by simp)
    simp only [cells_eq, hA, zeroJob, World.size_alloc] at h
    exact h
  clear hW
  obtain ⟨cj, hcj⟩ : ∃ cs, cs = (j.cells a).toArray := ⟨_, rfl⟩
  rw [← hcj] at k0
  have HC := Lib.hid hcj
  clear hcj
  obtain ⟨br, hbr⟩ : ∃ b, b = w.heap.size + 1 := ⟨_, rfl⟩
  obtain ⟨bj, hbj⟩ : ∃ b, b = w.heap.size := ⟨_, rfl⟩
  obtain ⟨v0, hv0⟩ : ∃ v, v = w.heap.size + 1 + 1 := ⟨_, rfl⟩
  replace k2 : rInt.Own 3 W (w.heap.size + 1 + 1) (fun _ => False) (.slice (some ⟨v0, 0, none⟩) 0 0) (drawL j.draws j.at_ (0 : Nat)) := by rw [hv0]; exact k2
  rw [← hv0]
  rw [← hbr] at k1 ⊢
  rw [← hbj] at k0 ⊢
  have hrow : ∃ rs, rs.size = 19 ∧ Box W br rs := by obtain ⟨t, h1, h2⟩ := heap_of_row k1; exact ⟨_, h2, t, h1⟩
  obtain ⟨rs, hrs, k1'⟩ := hrow
  have HB := Lib.hid (And.intro hbr (And.intro hbj hrs))
  have HS := Lib.hid (And.intro B0 (And.intro k0 (And.intro k1' (And.intro (show w.heap.size + 1 + 1 ≤ W.heap.size by omega) k2))))
  have hjr : ¬ bj = br := by omega
  clear B0 hz k0 k1 k1' k2 hbr hbj hv0
  go_loopw [6, 7] (fun o i wr => ∃ (m : Nat) (A : Option Addr) (c : Nat), o = .slice A m c ∧ i = .int .i64 (j.at_ + m) ∧ (m : Int) ≤ max n 0 ∧ Below w.heap.size w wr ∧ Box wr bj cj ∧ Box wr br rs ∧ w.heap.size + 1 + 1 ≤ wr.heap.size ∧ rInt.Own 3 wr (w.heap.size + 1 + 1) (fun _ => False) (.slice A m c) (drawL j.draws j.at_ m)) (fun _ i _ => (j.at_ + n - intOf i).toNat)
  case atStart => exact ⟨0, _, 0, rfl, by simp, by simp; omega, HS.out⟩
  case round =>
    obtain ⟨m, A, c, rfl, rfl, hm, h4, h5, h6, h7, h8⟩ := hrel
    have i1 := h5.isRow; have r1 : row wr bj = (j.cells a).toArray := by rw [h5.row]; exact HC.out
    have i2 := h6.isRow; have r2 := h6.row
    have HX := Lib.hid (And.intro (show m ≤ 1000 by have := H0.out; omega) (And.intro (And.intro h4 h5) (And.intro h6 (And.intro h7 h8))))
    have HM := Lib.hid hm
    clear h4 h5 h6 h7 h8 hm HS
    by_cases hlt : (m : Int) < n
    · have hd1 : decide (j.at_ + (m : Int) < j.at_ + n) = true := by simp; omega
      have q1 : IntKind.i64.wrap (j.at_ + (m : Int) + 1) = j.at_ + (m : Int) + 1 := by have := H0.out; rw [IntKind.wrap_i64] <;> omega
      have q2 : wrap64 (j.at_ + (m : Int) + 1) = j.at_ + (m : Int) + 1 := by have := H0.out; unfold wrap64; omega
      have q3 : 0 ≤ j.at_ + (m : Int) := by have := H0.out; omega
      by_cases hdl : j.at_ + (m : Int) < (j.draws.length : Int)
      · obtain ⟨b', off', hA', hSb, c0⟩ := (HJ.out.2.2.2.below HX.out.2.1.1 hS).int (j.at_.toNat + m) (by have := H0.out; omega)
        rw [hA] at hA'
        cases hA'
        have hy : j.draws[j.at_.toNat + m]'(by have := H0.out; omega) = j.draws.getD (j.at_.toNat + m) 0 := by rw [List.getD_eq_getElem?_getD, List.getElem?_eq_getElem (by have := H0.out; omega)]; rfl
        rw [hy] at c0
        have ht : (j.at_ + (m : Int)).toNat = j.at_.toNat + m := by have := H0.out; omega
        go_wp2_with (at_builtin; refine wpList_ap1 (W := wr) (d := rInt) (e := 3) (S := fun _ => False) (xs := drawL j.draws j.at_ m) (y := (j.draws.getD (j.at_.toNat + m) 0)) (ys := [.int .i64 (j.draws.getD (j.at_.toNat + m) 0)]) Tryd.underlying24 infoInt rfl _ _ rfl rfl rfl HX.out.2.2.2.2 rfl (fun _ h => h.elim) HX.out.2.2.2.1 (by have := HX.out.1; simp [drawL]; omega) ?_; intro g cap w1 hAp)
        have no : ∀ x, (Value.slice A m c).ownBlock = some x → w.heap.size + 1 + 1 ≤ x := fun x hx => by obtain ⟨_, cs, h, _⟩ := HX.out.2.2.2.2; exact (own_lt' h x hx).1
        go_roundw
        case rel =>
          have hg : w.heap.size + 1 + 1 ≤ g ∧ g < w1.heap.size := by obtain ⟨_, cs, h, _⟩ := hAp.1; exact own_lt' h g rfl
          have h7 := hAp.1
          have e1 : drawL j.draws j.at_ ((m + 1 : Nat) : Int) = drawL j.draws j.at_ (m : Int) ++ [(j.draws.getD (j.at_.toNat + m) 0)] := by rw [draw_succ]; skip
          have e2 : (drawL j.draws j.at_ (m : Int)).length = m := by simp [drawL]
          refine ⟨m + 1, some ⟨g, 0, none⟩, cap, by rw [e2], by congr 1; omega, by omega, hAp.below HX.out.2.1.1 HX.out.2.1.1.size (fun x hx => by have := no x hx; omega), Box.grown HX.out.2.1.2 hAp (fun h => by have := no _ h; have := HB.out; omega), Box.grown HX.out.2.2.1 hAp (fun h => by have := no _ h; have := HB.out; omega), by omega, ?_⟩
          rw [e1]
          simp only [List.length_append, List.length_singleton, e2] at h7 ⊢
          exact h7
        case measure => simp [intOf, q1]; have := H0.out; omega
      · have hdf : decide (j.at_ + (m : Int) < (j.draws.length : Int)) = false := by simpa using hdl
        go_wp2_with (at_builtin; refine wpList_ap1 (W := wr) (d := rInt) (e := 3) (S := fun _ => False) (xs := drawL j.draws j.at_ m) (y := 0) (ys := [.int .i64 0]) Tryd.underlying24 infoInt rfl _ _ rfl rfl rfl HX.out.2.2.2.2 rfl (fun _ h => h.elim) HX.out.2.2.2.1 (by have := HX.out.1; simp [drawL]; omega) ?_; intro g cap w1 hAp)
        have no : ∀ x, (Value.slice A m c).ownBlock = some x → w.heap.size + 1 + 1 ≤ x := fun x hx => by obtain ⟨_, cs, h, _⟩ := HX.out.2.2.2.2; exact (own_lt' h x hx).1
        go_roundw
        case rel =>
          have hg : w.heap.size + 1 + 1 ≤ g ∧ g < w1.heap.size := by obtain ⟨_, cs, h, _⟩ := hAp.1; exact own_lt' h g rfl
          have h7 := hAp.1
          have e1 : drawL j.draws j.at_ ((m + 1 : Nat) : Int) = drawL j.draws j.at_ (m : Int) ++ [0] := by rw [draw_succ]; rw [List.getD_eq_getElem?_getD, List.getElem?_eq_none (by have := H0.out; omega)]; rfl
          have e2 : (drawL j.draws j.at_ (m : Int)).length = m := by simp [drawL]
          refine ⟨m + 1, some ⟨g, 0, none⟩, cap, by rw [e2], by congr 1; omega, by omega, hAp.below HX.out.2.1.1 HX.out.2.1.1.size (fun x hx => by have := no x hx; omega), Box.grown HX.out.2.1.2 hAp (fun h => by have := no _ h; have := HB.out; omega), Box.grown HX.out.2.2.1 hAp (fun h => by have := no _ h; have := HB.out; omega), by omega, ?_⟩
          rw [e1]
          simp only [List.length_append, List.length_singleton, e2] at h7 ⊢
          exact h7
        case measure => simp [intOf, q1]; have := H0.out; omega
    · have hd1 : decide (j.at_ + (m : Int) < j.at_ + n) = false := by simp; omega
      have em : drawL j.draws j.at_ (m : Int) = drawL j.draws j.at_ n := by
        unfold drawL
        have := HM.out
        rw [show ((m : Nat) : Int).toNat = n.toNat by omega]
      go_wp2
      refine Code.at_ fun W2 hW => ?_
      have B2 : Below w.heap.size w W2 := by rw [hW]; exact Below.setCell HX.out.2.1.1 (by have := HB.out; simp only; omega) _
      have g0 : isRow W2 bj = true := by rw [hW, isRow_setCell]; exact i1
      have g3 : isRow W2 br = true := by rw [hW, isRow_setCell]; exact i2
      have g2 : rowSz W2 br 19 = true := by
        obtain ⟨t, h⟩ := HX.out.2.2.1
        rw [hW]
        exact rowSz_at (blk_far (fun h => hjr h.symm) h) HB.out.2.2
      have g1 : row W2 bj = (Job.cells { j with at_ := j.at_ + n } a).toArray := by
        obtain ⟨t, h⟩ := HX.out.2.1.2
        rw [hW, row_of (blk_set h), HC.out]
        simp [Job.cells]
      have g4 : rInt.Own 3 W2 (w.heap.size + 1 + 1) (fun _ => False) (.slice A m c) (drawL j.draws j.at_ n) := by
        rw [hW, ← em]
        exact HX.out.2.2.2.2.move (fun _ h => h.elim) (fun x hx => Below.heap_setCell _ _ _ x (by obtain ⟨_, cs, h, _⟩ := HX.out.2.2.2.2; have := (own_lt' h x hx).1; have := HB.out; simp only; omega))
      have HG := Lib.hid (And.intro B2 g4)
      clear hW B2 g4 i1 r1 i2 r2 em
      refine reg0 4 (fun w' => (isRow w' bj = true ∧ rowSz w' br 19 = true ∧ isRow w' br = true) ∧ row w' bj = (Job.cells { j with at_ := j.at_ + n } a).toArray) (by kernel_rfl) (by kernel_rfl) (by kernel_rfl) ?_ (fun l hg hHeld => ?_)
      · (try dsimp only); (first | exact ⟨⟨g0, g2, g3⟩, g1⟩ | go_simp)
      (apply tkT 0 1 hg; (focus rfl); (focus rfl); (focus kernel_rfl); (focus (intro w0 hSw; (try dsimp only at hSw); go_simp; try (with_reducible rfl))); (focus assumption))
      try simp only [Act.put, List.setIfInBounds_toArray, List.set_cons_zero, List.set_cons_succ]
      (apply tkT 1 3 hg; (focus rfl); (focus rfl); (focus kernel_rfl); (focus (intro w0 hSw; (try dsimp only at hSw); go_simp; try (with_reducible rfl))); (focus assumption))
      try simp only [Act.put, List.setIfInBounds_toArray, List.set_cons_zero, List.set_cons_succ]
      (apply tkT 2 7 hg; (focus rfl); (focus rfl); (focus kernel_rfl); (focus (intro w0 hSw; (try dsimp only at hSw); go_simp; try (with_reducible rfl))); (focus assumption))
      try simp only [Act.put, List.setIfInBounds_toArray, List.set_cons_zero, List.set_cons_succ]
      (apply act1 3 15 hg; (focus rfl); (focus rfl); (focus kernel_rfl))
      intro K hK
      (apply wp_st_row 35 19; (focus rfl); (focus rfl); (focus go_simp); (focus kernel_rfl); (focus rfl); (focus (first | (simp [Value.oneCell']; done) | (simp [Value.oneCell', Job.cells]; done))))
      refine hK.out _ _ ?_ (fun hHeld => ?_)
      · (try dsimp only); (first | exact ⟨⟨g0, g2, g3⟩, g1⟩ | go_simp)
      clear hK K
      try simp only [Act.put, List.setIfInBounds_toArray, List.set_cons_zero, List.set_cons_succ]
      refine actE hg (by kernel_rfl) ?_
      go_wp2
      refine ret_tmp_row (n := 19) (cs := (Job.cells { j with at_ := j.at_ + n } a).toArray) rfl rfl rfl (by go_simp) (by go_simp; try simp [Job.cells, hA]) Tryd.underlying35 (by kernel_rfl) rfl ?_
      have go : ∀ x, (Value.slice A m c).ownBlock = some x → x ≠ br := fun x hx => by obtain ⟨_, cs, h, _⟩ := HG.out.2; have := (own_lt' h x hx).1; have := HB.out; omega
      refine rdraw_end j a n w S hS HJ.out _ (.slice A m c) (Below.setRow_ HG.out.1.drew (by have := HB.out; omega) _) (HG.out.2.move (fun _ h => h.elim) (fun x hx => setRow_other _ _ x _ (go x hx)))
set_option maxRecDepth 100000 in
set_option maxHeartbeats 2000000 in
theorem rdraw_none (j : Job) (a : JA) (n : Int) (w : World) (S : Nat → Prop) (hS : Sub S w) (hj : j.ok w S a) (h0 : 0 ≤ j.at_) (h1 : j.at_ ≤ 1000000) (h2 : -1000 ≤ n) (h3 : n ≤ 1000) (hD : j.draws.length = 0) :
    Calls Tryd.prog 10 #[.agg (j.cells a).toArray, .int .i64 n] w (RetD w S (drawL j.draws j.at_ n) { j with at_ := j.at_ + n }) := by
  have HJ := Lib.hid hj
  clear hj
  have hw : wrap64 (j.at_ + n) = j.at_ + n := by unfold wrap64; omega
  have hw2 : IntKind.i64.wrap (j.at_ + n) = j.at_ + n := by rw [IntKind.wrap_i64] <;> omega
  have H0 := Lib.hid (And.intro h0 (And.intro h1 (And.intro h2 h3)))
  clear h0 h1 h2 h3
  have hc := cells_eq
  have HD := Lib.hid hD
  clear hD
  unfold Job.cells
  go_enter Tryd.func10, Tryd.ntmps10
  go_wp2
  refine Code.at_ fun W hW => ?_
  have B0 : Below w.heap.size w W := by rw [hW]; repeat' (first | with_reducible refine Below.alloc ?_ ?_ _ | with_reducible refine Below.setRow_ ?_ ?_ _ | with_reducible refine Below.setCell ?_ ?_ _ | with_reducible refine Below.drew ?_ | with_reducible refine Below.drewN_ ?_ _ | with_reducible exact Below.refl _ _ | assumption | (simp; done) | (simp; omega) | omega)
  have hz : W.heap.size = w.heap.size + 1 + 1 + 1 := by rw [hW]; simp
  have k0 : Box W w.heap.size (j.cells a).toArray := ⟨_, by rw [hW]; simp only [cells_eq]; exact blk_old (blk_old (blk_new _ rfl) _) _⟩
  have k1 : rowSz W (w.heap.size + 1) 19 = true := by rw [hW]; go_simp
  have k2 : rInt.Own 3 W (w.heap.size + 1 + 1) (fun _ => False) (.slice (some ⟨w.heap.size + 1 + 1, 0, none⟩) 0 0) (drawL j.draws j.at_ (0 : Nat)) := by
    rw [hW, show drawL j.draws j.at_ ((0 : Nat) : Int) = [] by simp [drawL]]
    have h := own_empty ((w.alloc (.cells (j.cells a).toArray 35)).alloc (.cells (zeroJob).toArray 35)) (w.heap.size + 1 + 1) (by simp)
    simp only [cells_eq, zeroJob, World.size_alloc] at h
    exact h
  clear hW
  obtain ⟨cj, hcj⟩ : ∃ cs, cs = (j.cells a).toArray := ⟨_, rfl⟩
  rw [← hcj] at k0
  have HC := Lib.hid hcj
  clear hcj
  obtain ⟨br, hbr⟩ : ∃ b, b = w.heap.size + 1 := ⟨_, rfl⟩
  obtain ⟨bj, hbj⟩ : ∃ b, b = w.heap.size := ⟨_, rfl⟩
  obtain ⟨v0, hv0⟩ : ∃ v, v = w.heap.size + 1 + 1 := ⟨_, rfl⟩
  replace k2 : rInt.Own 3 W (w.heap.size + 1 + 1) (fun _ => False) (.slice (some ⟨v0, 0, none⟩) 0 0) (drawL j.draws j.at_ (0 : Nat)) := by rw [hv0]; exact k2
  rw [← hv0]
  rw [← hbr] at k1 ⊢
  rw [← hbj] at k0 ⊢
  have hrow : ∃ rs, rs.size = 19 ∧ Box W br rs := by obtain ⟨t, h1, h2⟩ := heap_of_row k1; exact ⟨_, h2, t, h1⟩
  obtain ⟨rs, hrs, k1'⟩ := hrow
  have HB := Lib.hid (And.intro hbr (And.intro hbj hrs))
  have HS := Lib.hid (And.intro B0 (And.intro k0 (And.intro k1' (And.intro (show w.heap.size + 1 + 1 ≤ W.heap.size by omega) k2))))
  have hjr : ¬ bj = br := by omega
  clear B0 hz k0 k1 k1' k2 hbr hbj hv0
  go_loopw [6, 7] (fun o i wr => ∃ (m : Nat) (A : Option Addr) (c : Nat), o = .slice A m c ∧ i = .int .i64 (j.at_ + m) ∧ (m : Int) ≤ max n 0 ∧ Below w.heap.size w wr ∧ Box wr bj cj ∧ Box wr br rs ∧ w.heap.size + 1 + 1 ≤ wr.heap.size ∧ rInt.Own 3 wr (w.heap.size + 1 + 1) (fun _ => False) (.slice A m c) (drawL j.draws j.at_ m)) (fun _ i _ => (j.at_ + n - intOf i).toNat)
  case atStart => exact ⟨0, _, 0, rfl, by simp, by simp; omega, HS.out⟩
  case round =>
    obtain ⟨m, A, c, rfl, rfl, hm, h4, h5, h6, h7, h8⟩ := hrel
    have i1 := h5.isRow; have r1 : row wr bj = (j.cells a).toArray := by rw [h5.row]; exact HC.out
    have i2 := h6.isRow; have r2 := h6.row
    have HX := Lib.hid (And.intro (show m ≤ 1000 by have := H0.out; omega) (And.intro (And.intro h4 h5) (And.intro h6 (And.intro h7 h8))))
    have HM := Lib.hid hm
    clear h4 h5 h6 h7 h8 hm HS
    by_cases hlt : (m : Int) < n
    · have hd1 : decide (j.at_ + (m : Int) < j.at_ + n) = true := by simp; omega
      have q1 : IntKind.i64.wrap (j.at_ + (m : Int) + 1) = j.at_ + (m : Int) + 1 := by have := H0.out; rw [IntKind.wrap_i64] <;> omega
      have q2 : wrap64 (j.at_ + (m : Int) + 1) = j.at_ + (m : Int) + 1 := by have := H0.out; unfold wrap64; omega
      have q3 : 0 ≤ j.at_ + (m : Int) := by have := H0.out; omega
      have hdl : ¬ j.at_ + (m : Int) < (j.draws.length : Int) := by rw [HD.out]; simpa using q3
      have hdf : decide (j.at_ + (m : Int) < (j.draws.length : Int)) = false := by simpa using hdl
      go_wp2_with (at_builtin; refine wpList_ap1 (W := wr) (d := rInt) (e := 3) (S := fun _ => False) (xs := drawL j.draws j.at_ m) (y := 0) (ys := [.int .i64 0]) Tryd.underlying24 infoInt rfl _ _ rfl rfl rfl HX.out.2.2.2.2 rfl (fun _ h => h.elim) HX.out.2.2.2.1 (by have := HX.out.1; simp [drawL]; omega) ?_; intro g cap w1 hAp)
      have no : ∀ x, (Value.slice A m c).ownBlock = some x → w.heap.size + 1 + 1 ≤ x := fun x hx => by obtain ⟨_, cs, h, _⟩ := HX.out.2.2.2.2; exact (own_lt' h x hx).1
      go_roundw
      case rel =>
        have hg : w.heap.size + 1 + 1 ≤ g ∧ g < w1.heap.size := by obtain ⟨_, cs, h, _⟩ := hAp.1; exact own_lt' h g rfl
        have h7 := hAp.1
        have e1 : drawL j.draws j.at_ ((m + 1 : Nat) : Int) = drawL j.draws j.at_ (m : Int) ++ [0] := by rw [draw_succ]; rw [List.getD_eq_getElem?_getD, List.getElem?_eq_none (by omega)]; rfl
        have e2 : (drawL j.draws j.at_ (m : Int)).length = m := by simp [drawL]
        refine ⟨m + 1, some ⟨g, 0, none⟩, cap, by rw [e2], by congr 1; omega, by omega, hAp.below HX.out.2.1.1 HX.out.2.1.1.size (fun x hx => by have := no x hx; omega), Box.grown HX.out.2.1.2 hAp (fun h => by have := no _ h; have := HB.out; omega), Box.grown HX.out.2.2.1 hAp (fun h => by have := no _ h; have := HB.out; omega), by omega, ?_⟩
        rw [e1]
        simp only [List.length_append, List.length_singleton, e2] at h7 ⊢
        exact h7
      case measure => simp [intOf, q1]; have := H0.out; omega
    · have hd1 : decide (j.at_ + (m : Int) < j.at_ + n) = false := by simp; omega
      have em : drawL j.draws j.at_ (m : Int) = drawL j.draws j.at_ n := by
        unfold drawL
        have := HM.out
        rw [show ((m : Nat) : Int).toNat = n.toNat by omega]
      go_wp2
      refine Code.at_ fun W2 hW => ?_
      have B2 : Below w.heap.size w W2 := by rw [hW]; exact Below.setCell HX.out.2.1.1 (by have := HB.out; simp only; omega) _
      have g0 : isRow W2 bj = true := by rw [hW, isRow_setCell]; exact i1
      have g3 : isRow W2 br = true := by rw [hW, isRow_setCell]; exact i2
      have g2 : rowSz W2 br 19 = true := by
        obtain ⟨t, h⟩ := HX.out.2.2.1
        rw [hW]
        exact rowSz_at (blk_far (fun h => hjr h.symm) h) HB.out.2.2
      have g1 : row W2 bj = (Job.cells { j with at_ := j.at_ + n } a).toArray := by
        obtain ⟨t, h⟩ := HX.out.2.1.2
        rw [hW, row_of (blk_set h), HC.out]
        simp [Job.cells]
      have g4 : rInt.Own 3 W2 (w.heap.size + 1 + 1) (fun _ => False) (.slice A m c) (drawL j.draws j.at_ n) := by
        rw [hW, ← em]
        exact HX.out.2.2.2.2.move (fun _ h => h.elim) (fun x hx => Below.heap_setCell _ _ _ x (by obtain ⟨_, cs, h, _⟩ := HX.out.2.2.2.2; have := (own_lt' h x hx).1; have := HB.out; simp only; omega))
      have HG := Lib.hid (And.intro B2 g4)
      clear hW B2 g4 i1 r1 i2 r2 em
      refine reg0 4 (fun w' => (isRow w' bj = true ∧ rowSz w' br 19 = true ∧ isRow w' br = true) ∧ row w' bj = (Job.cells { j with at_ := j.at_ + n } a).toArray) (by kernel_rfl) (by kernel_rfl) (by kernel_rfl) ?_ (fun l hg hHeld => ?_)
      · (try dsimp only); (first | exact ⟨⟨g0, g2, g3⟩, g1⟩ | go_simp)
      (apply tkT 0 1 hg; (focus rfl); (focus rfl); (focus kernel_rfl); (focus (intro w0 hSw; (try dsimp only at hSw); go_simp; try (with_reducible rfl))); (focus assumption))
      try simp only [Act.put, List.setIfInBounds_toArray, List.set_cons_zero, List.set_cons_succ]
      (apply tkT 1 3 hg; (focus rfl); (focus rfl); (focus kernel_rfl); (focus (intro w0 hSw; (try dsimp only at hSw); go_simp; try (with_reducible rfl))); (focus assumption))
      try simp only [Act.put, List.setIfInBounds_toArray, List.set_cons_zero, List.set_cons_succ]
      (apply tkT 2 7 hg; (focus rfl); (focus rfl); (focus kernel_rfl); (focus (intro w0 hSw; (try dsimp only at hSw); go_simp; try (with_reducible rfl))); (focus assumption))
      try simp only [Act.put, List.setIfInBounds_toArray, List.set_cons_zero, List.set_cons_succ]
      (apply act1 3 15 hg; (focus rfl); (focus rfl); (focus kernel_rfl))
      intro K hK
      (apply wp_st_row 35 19; (focus rfl); (focus rfl); (focus go_simp); (focus kernel_rfl); (focus rfl); (focus (first | (simp [Value.oneCell']; done) | (simp [Value.oneCell', Job.cells]; done))))
      refine hK.out _ _ ?_ (fun hHeld => ?_)
      · (try dsimp only); (first | exact ⟨⟨g0, g2, g3⟩, g1⟩ | go_simp)
      clear hK K
      try simp only [Act.put, List.setIfInBounds_toArray, List.set_cons_zero, List.set_cons_succ]
      refine actE hg (by kernel_rfl) ?_
      go_wp2
      refine ret_tmp_row (n := 19) (cs := (Job.cells { j with at_ := j.at_ + n } a).toArray) rfl rfl rfl (by go_simp) (by go_simp; try simp [Job.cells]) Tryd.underlying35 (by kernel_rfl) rfl ?_
      have go : ∀ x, (Value.slice A m c).ownBlock = some x → x ≠ br := fun x hx => by obtain ⟨_, cs, h, _⟩ := HG.out.2; have := (own_lt' h x hx).1; have := HB.out; omega
      refine rdraw_end j a n w S hS HJ.out _ (.slice A m c) (Below.setRow_ HG.out.1.drew (by have := HB.out; omega) _) (HG.out.2.move (fun _ h => h.elim) (fun x hx => setRow_other _ _ x _ (go x hx)))
set_option maxRecDepth 100000 in
set_option maxHeartbeats 2000000 in
theorem rdraw_calls (j : Job) (a : JA) (n : Int) (w : World) (S : Nat → Prop) (hS : Sub S w) (hj : j.ok w S a) (h0 : 0 ≤ j.at_) (h1 : j.at_ ≤ 1000000) (h2 : -1000 ≤ n) (h3 : n ≤ 1000) :
    Calls Tryd.prog 10 #[.agg (j.cells a).toArray, .int .i64 n] w (RetD w S (drawL j.draws j.at_ n) { j with at_ := j.at_ + n }) := by
  by_cases hD : j.draws.length = 0
  · exact rdraw_none j a n w S hS hj h0 h1 h2 h3 hD
  · obtain ⟨b, off, hA, _⟩ := hj.2.2.2.int 0 (by omega)
    exact rdraw_some j a n w S hS hj h0 h1 h2 h3 b off hA
end Go.Proofs.YtjkjlegloicmcaaDoor
