-- printed by a program of mine over the kit's print (extprint.py)
import Derived.Test.YtoojgfhhmdohaaaDoorPStencilTellsx0
import Derived.Test.YtoojgfhhmdohaaaDoorPStencilTellsx1
namespace Go.Proofs.YtoojgfhhmdohaaaDoor.PStencilTells
open Go.RowKit Go.Proofs.YtoojgfhhmdohaaaDoor.Ext Go.Proofs.YtoojgfhhmdohaaaDoorW.PrintWords Go.Proofs.YtoojgfhhmdohaaaDoorW.PrintLast Go.Proofs.YtoojgfhhmdohaaaDoorW.PrintMore
attribute [local go_sem] max2_int min2_int max_two min_two max_three min_three max_four min_four   -- for this text's walks alone
set_option linter.unusedVariables false
set_option linter.unusedSimpArgs false

/-! ### flagstonelaw02_StencilTells: function 3 -/
def flagstonelaw02_StencilTells.j0 : Nat → ByteArray → ByteArray → Int → Bool → Option (Bool)
  | 0, _, _, _, _ => none
  | k + 1, x0, x1, x2, x18 => if x18 = true then ((flagstonelaw02_shown.f).bind fun t114 => (some t114)) else ((stencil_Count.f x0).bind fun t115 => ((flagstoneref02_Count.f k x0).bind fun t116 => (if t115 = t116 then ((stencil_Check.f x0).bind fun t117 => ((flagstoneref02_Check.f k x0).bind fun t118 => (if t117 = t118 then ((stencil_Letter.f x2).bind fun t119 => ((flagstoneref02_Letter.f x2).bind fun t120 => (if t119.toList = t120.toList then ((stencil_Fits.f x0 x1).bind fun t121 => ((flagstoneref02_Fits.f k x0 x1).bind fun t122 => (some (t121 == t122)))) else (some false)))) else (some false)))) else (some false))))
def flagstonelaw02_StencilTells.f (k : Nat) (a0 : ByteArray) (a1 : ByteArray) (a2 : Int) : Option (Bool) := if (a0.size : Int) > 200 then (flagstonelaw02_StencilTells.j0 k a0 a1 a2 true) else (if (a1.size : Int) > 200 then (flagstonelaw02_StencilTells.j0 k a0 a1 a2 true) else ((flagstonelaw02_shown.f).bind fun t113 => (flagstonelaw02_StencilTells.j0 k a0 a1 a2 (!t113))))
theorem flagstonelaw02_StencilTells.mono_l : ∀ k, (∀ y0 y1 y2 y3, LeO (flagstonelaw02_StencilTells.j0 k y0 y1 y2 y3) (flagstonelaw02_StencilTells.j0 (k + 1) y0 y1 y2 y3))
  | 0 => fun _ _ _ _ r h => by simp [flagstonelaw02_StencilTells.j0] at h
  | k + 1 => by
    have ih0 := flagstonelaw02_StencilTells.mono_l k
    · intro y0 y1 y2 y3
      unfold flagstonelaw02_StencilTells.j0
      repeat' first
      | (with_reducible exact ih0 _ _ _ _)
      | (with_reducible exact flagstoneref02_Check.mono _ _)
      | (with_reducible exact flagstoneref02_Count.mono _ _)
      | (with_reducible exact flagstoneref02_Fits.mono _ _ _)
      | (with_reducible exact LeO.refl _)
      | (with_reducible exact LeO.none _)
      | (with_reducible refine LeO.ite ?_ ?_)
      | (with_reducible refine LeO.bind ?_ (fun _ => ?_))
      | exact ih0 _ _ _ _
      | exact flagstoneref02_Check.mono _ _
      | exact flagstoneref02_Count.mono _ _
      | exact flagstoneref02_Fits.mono _ _ _
      | exact LeO.none _
      | refine LeO.ite ?_ ?_
      | refine LeO.bind ?_ (fun _ => ?_)
theorem flagstonelaw02_StencilTells.mono : ∀ a0 a1 a2 k, LeO (flagstonelaw02_StencilTells.f k a0 a1 a2) (flagstonelaw02_StencilTells.f (k + 1) a0 a1 a2) := by
  intro a0 a1 a2 k
  have ih0 := flagstonelaw02_StencilTells.mono_l k
  unfold flagstonelaw02_StencilTells.f
  repeat' first
      | (with_reducible exact ih0 _ _ _ _)
      | (with_reducible exact flagstoneref02_Check.mono _ _)
      | (with_reducible exact flagstoneref02_Count.mono _ _)
      | (with_reducible exact flagstoneref02_Fits.mono _ _ _)
      | (with_reducible exact LeO.refl _)
      | (with_reducible exact LeO.none _)
      | (with_reducible refine LeO.ite ?_ ?_)
      | (with_reducible refine LeO.bind ?_ (fun _ => ?_))
      | exact ih0 _ _ _ _
      | exact flagstoneref02_Check.mono _ _
      | exact flagstoneref02_Count.mono _ _
      | exact flagstoneref02_Fits.mono _ _ _
      | exact LeO.none _
      | refine LeO.ite ?_ ?_
      | refine LeO.bind ?_ (fun _ => ?_)
set_option maxHeartbeats 8000000 in
set_option maxRecDepth 100000 in
theorem flagstonelaw02_StencilTells.calls (k : Nat) (a0 : ByteArray) (a1 : ByteArray) (a2 : Int) (r : Bool) (w : World) (h : flagstonelaw02_StencilTells.f k a0 a1 a2 = some r) :
    Calls Tryd.prog 3 #[.string a0, .string a1, .int .i64 a2] w fun e w' => e = .returned (.bool r) ∧ Below w.heap.size w w' := by
  have HB := Aside0.mk (Below.refl w.heap.size w)
  have H : (if (a0.size : Int) > 200 then (flagstonelaw02_StencilTells.j0 k a0 a1 a2 true) else (if (a1.size : Int) > 200 then (flagstonelaw02_StencilTells.j0 k a0 a1 a2 true) else ((flagstonelaw02_shown.f).bind fun t113 => (flagstonelaw02_StencilTells.j0 k a0 a1 a2 (!t113))))) = some r := h
  clear h
  have HC4 := Aside0.mk H
  clear H
  go_enter Tryd.func3, Tryd.ntmps3
  go_upto_region 1 with (fail)
  go_cut [18] (fun v18 wc => ∃ (kq : Nat) (x18_3 : Bool), v18 = .bool x18_3 ∧ Aside0 (flagstonelaw02_StencilTells.j0 kq a0 a1 a2 x18_3 = some r) ∧ Aside0 (kq ≤ k) ∧ Aside0 (Below w.heap.size w wc))
  case first =>
    have H := HC4.out
    clear HC4
    by_cases c5 : (a0.size : Int) > 200
    · rw [if_pos c5] at H
      have c5b0 : decide (200 < (a0.size : Int)) = true := decide_eq_true c5
      have c5b1 : decide (200 < a0.size) = true := decide_eq_true (by omega)
      clear c5
      (first | rw [c5b0] | (simp only [i64_w, i32_w]; rw [c5b0]) | skip)
      have H' := Aside0.mk H
      clear H
      go_wp2
      go_meet
      case rel => exact ⟨_, (true), (by first | rfl | (simp; done) | (simp [*]; done)), H', ⟨by first | omega | exact Nat.le_refl _⟩, ⟨by repeat (first | (with_reducible first | exact HB.out | apply below_alloc | apply pw_below_drewN | apply below_drew1) | exact HB.out)⟩⟩
    · rw [if_neg c5] at H
      have c5b0 : decide (200 < (a0.size : Int)) = false := decide_eq_false c5
      have c5b1 : decide (200 < a0.size) = false := decide_eq_false (by omega)
      clear c5
      (first | rw [c5b0] | (simp only [i64_w, i32_w]; rw [c5b0]) | skip)
      by_cases c6 : (a1.size : Int) > 200
      · rw [if_pos c6] at H
        have c6b0 : decide (200 < (a1.size : Int)) = true := decide_eq_true c6
        have c6b1 : decide (200 < a1.size) = true := decide_eq_true (by omega)
        clear c6
        have H' := Aside0.mk H
        clear H
        go_wp2
        go_meet
        case rel => exact ⟨_, (true), (by first | rfl | (simp; done) | (simp [*]; done)), H', ⟨by first | omega | exact Nat.le_refl _⟩, ⟨by repeat (first | (with_reducible first | exact HB.out | apply below_alloc | apply pw_below_drewN | apply below_drew1) | exact HB.out)⟩⟩
      · rw [if_neg c6] at H
        have c6b0 : decide (200 < (a1.size : Int)) = false := decide_eq_false c6
        have c6b1 : decide (200 < a1.size) = false := decide_eq_false (by omega)
        clear c6
        replace H := Option.bind_eq_some_iff.mp H
        obtain ⟨t113, A70, H⟩ := H
        replace H : (flagstonelaw02_StencilTells.j0 k a0 a1 a2 (!t113)) = some r := H
        have A7 := Aside0.mk A70
        clear A70
        have H' := Aside0.mk H
        clear H
        go_wp2_with (first | (go_at_call 9; (with_reducible refine (flagstonelaw02_shown.calls  t113 _ A7.out).mono ?_); rintro e w8 ⟨rfl, hb⟩; have n0_ := Aside0.mk (below_step (by repeat (first | (with_reducible first | exact HB.out | apply below_alloc | apply pw_below_drewN | apply below_drew1) | exact HB.out)) hb); clear HB; have HB := n0_; clear n0_; (try clear hb); (try clear hb2); (try clear hk); (try clear hi)))
        go_meet
        case rel => exact ⟨_, (!t113), (by first | rfl | (simp; done) | (simp [*]; done)), H', ⟨by first | omega | exact Nat.le_refl _⟩, ⟨by repeat (first | (with_reducible first | exact HB.out | apply below_alloc | apply pw_below_drewN | apply below_drew1) | exact HB.out)⟩⟩
  case rest =>
    clear HC4
    try clear p2
    try clear c3
    try clear c5
    try clear c5b0
    try clear c5b1
    try clear c6
    try clear c6b0
    try clear c6b1
    obtain ⟨kq, x18_3, rfl, HA, HJ3, HB⟩ := hcut
    cases kq with
    | zero => exact absurd HA.out (by simp [flagstonelaw02_StencilTells.j0])
    | succ kj3 =>
      have H := HA.out
      clear HA
      simp only [flagstonelaw02_StencilTells.j0] at H
      by_cases c9 : x18_3 = true
      · subst c9
        have H1 : ((flagstonelaw02_shown.f).bind fun t114 => (some t114)) = some r := by rw [if_pos rfl] at H; exact H
        clear H
        have H := H1
        clear H1
        replace H := Option.bind_eq_some_iff.mp H
        obtain ⟨t114, A100, H⟩ := H
        replace H : (some t114) = some r := H
        have A10 := Aside0.mk A100
        clear A100
        obtain rfl := Option.some.inj H
        go_wp2_with (first | ((with_reducible refine gate_callee (f := 9) rfl ?_); refine goesL_ (some 19) rfl rfl Tryd.func9 (by kernel_rfl) rfl #[] rfl (by (try simp only [List.map_toArray, List.map_cons, List.map_nil]); first | done | rfl | (simp only [List.length_drop, List.length_take]; rfl)) ?_; (with_reducible refine (flagstonelaw02_shown.calls  t114 _ A10.out).mono ?_); rintro e w11 ⟨rfl, hb⟩; refine ⟨_, rfl, ?_⟩; have n0_ := Aside0.mk (below_step (by repeat (first | (with_reducible first | exact HB.out | apply below_alloc | apply pw_below_drewN | apply below_drew1) | exact HB.out)) hb); clear HB; have HB := n0_; clear n0_; (try clear hb); (try clear hb2); (try clear hk); (try clear hi)))
        go_ret
        exact ⟨by first | rfl | (simp [errW_none, errW_some] <;> rfl) | (simp [*, errW_none, errW_some] <;> rfl), by repeat (first | (with_reducible first | exact HB.out | apply below_alloc | apply pw_below_drewN | apply below_drew1) | exact HB.out)⟩
      · replace c9 := Bool.eq_false_iff.mpr c9
        subst c9
        have H1 : ((stencil_Count.f a0).bind fun t115 => ((flagstoneref02_Count.f kj3 a0).bind fun t116 => (if t115 = t116 then ((stencil_Check.f a0).bind fun t117 => ((flagstoneref02_Check.f kj3 a0).bind fun t118 => (if t117 = t118 then ((stencil_Letter.f a2).bind fun t119 => ((flagstoneref02_Letter.f a2).bind fun t120 => (if t119.toList = t120.toList then ((stencil_Fits.f a0 a1).bind fun t121 => ((flagstoneref02_Fits.f kj3 a0 a1).bind fun t122 => (some (t121 == t122)))) else (some false)))) else (some false)))) else (some false)))) = some r := by rw [if_neg (show ¬ (false = true) by decide)] at H; exact H
        clear H
        have H := H1
        clear H1
        replace H := Option.bind_eq_some_iff.mp H
        obtain ⟨t115, A120, H⟩ := H
        replace H : ((flagstoneref02_Count.f kj3 a0).bind fun t116 => (if t115 = t116 then ((stencil_Check.f a0).bind fun t117 => ((flagstoneref02_Check.f kj3 a0).bind fun t118 => (if t117 = t118 then ((stencil_Letter.f a2).bind fun t119 => ((flagstoneref02_Letter.f a2).bind fun t120 => (if t119.toList = t120.toList then ((stencil_Fits.f a0 a1).bind fun t121 => ((flagstoneref02_Fits.f kj3 a0 a1).bind fun t122 => (some (t121 == t122)))) else (some false)))) else (some false)))) else (some false))) = some r := H
        have A12 := Aside0.mk A120
        clear A120
        replace H := Option.bind_eq_some_iff.mp H
        obtain ⟨t116, A130, H⟩ := H
        replace H : (if t115 = t116 then ((stencil_Check.f a0).bind fun t117 => ((flagstoneref02_Check.f kj3 a0).bind fun t118 => (if t117 = t118 then ((stencil_Letter.f a2).bind fun t119 => ((flagstoneref02_Letter.f a2).bind fun t120 => (if t119.toList = t120.toList then ((stencil_Fits.f a0 a1).bind fun t121 => ((flagstoneref02_Fits.f kj3 a0 a1).bind fun t122 => (some (t121 == t122)))) else (some false)))) else (some false)))) else (some false)) = some r := H
        have A13 := Aside0.mk A130
        clear A130
        by_cases c14 : t115 = t116
        · rw [if_pos c14] at H
          have c14b0 : (t115 == t116) = true := beq_iff_eq.mpr c14
          have c14b1 : (t115 != t116) = false := bne_eq_false_iff_eq.mpr c14
          clear c14
          replace H := Option.bind_eq_some_iff.mp H
          obtain ⟨t117, A150, H⟩ := H
          replace H : ((flagstoneref02_Check.f kj3 a0).bind fun t118 => (if t117 = t118 then ((stencil_Letter.f a2).bind fun t119 => ((flagstoneref02_Letter.f a2).bind fun t120 => (if t119.toList = t120.toList then ((stencil_Fits.f a0 a1).bind fun t121 => ((flagstoneref02_Fits.f kj3 a0 a1).bind fun t122 => (some (t121 == t122)))) else (some false)))) else (some false))) = some r := H
          have A15 := Aside0.mk A150
          clear A150
          replace H := Option.bind_eq_some_iff.mp H
          obtain ⟨t118, A160, H⟩ := H
          replace H : (if t117 = t118 then ((stencil_Letter.f a2).bind fun t119 => ((flagstoneref02_Letter.f a2).bind fun t120 => (if t119.toList = t120.toList then ((stencil_Fits.f a0 a1).bind fun t121 => ((flagstoneref02_Fits.f kj3 a0 a1).bind fun t122 => (some (t121 == t122)))) else (some false)))) else (some false)) = some r := H
          have A16 := Aside0.mk A160
          clear A160
          by_cases c17 : t117 = t118
          · rw [if_pos c17] at H
            have c17b0 : (t117 == t118) = true := beq_iff_eq.mpr c17
            have c17b1 : (t117 != t118) = false := bne_eq_false_iff_eq.mpr c17
            clear c17
            replace H := Option.bind_eq_some_iff.mp H
            obtain ⟨t119, A180, H⟩ := H
            replace H : ((flagstoneref02_Letter.f a2).bind fun t120 => (if t119.toList = t120.toList then ((stencil_Fits.f a0 a1).bind fun t121 => ((flagstoneref02_Fits.f kj3 a0 a1).bind fun t122 => (some (t121 == t122)))) else (some false))) = some r := H
            have A18 := Aside0.mk A180
            clear A180
            replace H := Option.bind_eq_some_iff.mp H
            obtain ⟨t120, A190, H⟩ := H
            replace H : (if t119.toList = t120.toList then ((stencil_Fits.f a0 a1).bind fun t121 => ((flagstoneref02_Fits.f kj3 a0 a1).bind fun t122 => (some (t121 == t122)))) else (some false)) = some r := H
            have A19 := Aside0.mk A190
            clear A190
            by_cases c20 : t119.toList = t120.toList
            · rw [if_pos c20] at H
              have c20b0 : (t119.toList == t120.toList) = true := beq_iff_eq.mpr c20
              have c20b1 : (t119.toList != t120.toList) = false := bne_eq_false_iff_eq.mpr c20
              clear c20
              replace H := Option.bind_eq_some_iff.mp H
              obtain ⟨t121, A210, H⟩ := H
              replace H : ((flagstoneref02_Fits.f kj3 a0 a1).bind fun t122 => (some (t121 == t122))) = some r := H
              have A21 := Aside0.mk A210
              clear A210
              replace H := Option.bind_eq_some_iff.mp H
              obtain ⟨t122, A220, H⟩ := H
              replace H : (some (t121 == t122)) = some r := H
              have A22 := Aside0.mk A220
              clear A220
              obtain rfl := Option.some.inj H
              go_wp2_with (first | ((with_reducible refine gate_callee (f := 10) rfl ?_); refine goesL_ (some 21) rfl rfl Tryd.func10 (by kernel_rfl) rfl #[.string a0] rfl (by (try simp only [List.map_toArray, List.map_cons, List.map_nil]); first | done | rfl | (simp only [List.length_drop, List.length_take]; rfl)) ?_; (with_reducible refine (stencil_Count.calls a0 t115 _ A12.out).mono ?_); rintro e w23 ⟨rfl, hb⟩; refine ⟨_, rfl, ?_⟩; have n0_ := Aside0.mk (below_step (by repeat (first | (with_reducible first | exact HB.out | apply below_alloc | apply pw_below_drewN | apply below_drew1) | exact HB.out)) hb); clear HB; have HB := n0_; clear n0_; (try clear hb); (try clear hb2); (try clear hk); (try clear hi)) | ((with_reducible refine gate_callee (f := 11) rfl ?_); refine goesL_ (some 23) rfl rfl Tryd.func11 (by kernel_rfl) rfl #[.string a0] rfl (by (try simp only [List.map_toArray, List.map_cons, List.map_nil]); first | done | rfl | (simp only [List.length_drop, List.length_take]; rfl)) ?_; (with_reducible refine (flagstoneref02_Count.calls kj3 a0 t116 _ A13.out).mono ?_); rintro e w' ⟨rfl, ⟨nd, rfl⟩⟩; refine ⟨_, rfl, ?_⟩) | (go_at_call 12; (with_reducible refine (stencil_Check.calls a0 t117 _ A15.out).mono ?_); rintro e w24 ⟨rfl, hb⟩; have n0_ := Aside0.mk (below_step (by repeat (first | (with_reducible first | exact HB.out | apply below_alloc | apply pw_below_drewN | apply below_drew1) | exact HB.out)) hb); clear HB; have HB := n0_; clear n0_; (try clear hb); (try clear hb2); (try clear hk); (try clear hi)) | (go_at_call 13; (with_reducible refine (flagstoneref02_Check.calls kj3 a0 t118 _ A16.out).mono ?_); rintro e w' ⟨rfl, ⟨nd, rfl⟩⟩) | (go_at_call 14; (with_reducible refine (stencil_Letter.calls a2 t119 _ A18.out).mono ?_); rintro e w25 ⟨rfl, hb⟩; have n0_ := Aside0.mk (below_step (by repeat (first | (with_reducible first | exact HB.out | apply below_alloc | apply pw_below_drewN | apply below_drew1) | exact HB.out)) hb); clear HB; have HB := n0_; clear n0_; (try clear hb); (try clear hb2); (try clear hk); (try clear hi)) | (go_at_call 15; (with_reducible refine (flagstoneref02_Letter.calls a2 t120 _ A19.out).mono ?_); rintro e w' ⟨rfl, ⟨nd, rfl⟩⟩) | (go_at_call 16; (with_reducible refine (stencil_Fits.calls a0 a1 t121 _ A21.out).mono ?_); rintro e w26 ⟨rfl, hb⟩; have n0_ := Aside0.mk (below_step (by repeat (first | (with_reducible first | exact HB.out | apply below_alloc | apply pw_below_drewN | apply below_drew1) | exact HB.out)) hb); clear HB; have HB := n0_; clear n0_; (try clear hb); (try clear hb2); (try clear hk); (try clear hi)) | (go_at_call 17; (with_reducible refine (flagstoneref02_Fits.calls kj3 a0 a1 t122 _ A22.out).mono ?_); rintro e w' ⟨rfl, ⟨nd, rfl⟩⟩))
              go_ret
              exact ⟨by first | rfl | (simp [errW_none, errW_some] <;> rfl) | (simp [*, errW_none, errW_some] <;> rfl), by repeat (first | (with_reducible first | exact HB.out | apply below_alloc | apply pw_below_drewN | apply below_drew1) | exact HB.out)⟩
            · rw [if_neg c20] at H
              have c20b0 : (t119.toList == t120.toList) = false := beq_eq_false_iff_ne.mpr c20
              have c20b1 : (t119.toList != t120.toList) = true := bne_iff_ne.mpr c20
              obtain rfl := Option.some.inj H
              go_wp2_with (first | ((with_reducible refine gate_callee (f := 10) rfl ?_); refine goesL_ (some 21) rfl rfl Tryd.func10 (by kernel_rfl) rfl #[.string a0] rfl (by (try simp only [List.map_toArray, List.map_cons, List.map_nil]); first | done | rfl | (simp only [List.length_drop, List.length_take]; rfl)) ?_; (with_reducible refine (stencil_Count.calls a0 t115 _ A12.out).mono ?_); rintro e w27 ⟨rfl, hb⟩; refine ⟨_, rfl, ?_⟩; have n0_ := Aside0.mk (below_step (by repeat (first | (with_reducible first | exact HB.out | apply below_alloc | apply pw_below_drewN | apply below_drew1) | exact HB.out)) hb); clear HB; have HB := n0_; clear n0_; (try clear hb); (try clear hb2); (try clear hk); (try clear hi)) | ((with_reducible refine gate_callee (f := 11) rfl ?_); refine goesL_ (some 23) rfl rfl Tryd.func11 (by kernel_rfl) rfl #[.string a0] rfl (by (try simp only [List.map_toArray, List.map_cons, List.map_nil]); first | done | rfl | (simp only [List.length_drop, List.length_take]; rfl)) ?_; (with_reducible refine (flagstoneref02_Count.calls kj3 a0 t116 _ A13.out).mono ?_); rintro e w' ⟨rfl, ⟨nd, rfl⟩⟩; refine ⟨_, rfl, ?_⟩) | (go_at_call 12; (with_reducible refine (stencil_Check.calls a0 t117 _ A15.out).mono ?_); rintro e w28 ⟨rfl, hb⟩; have n0_ := Aside0.mk (below_step (by repeat (first | (with_reducible first | exact HB.out | apply below_alloc | apply pw_below_drewN | apply below_drew1) | exact HB.out)) hb); clear HB; have HB := n0_; clear n0_; (try clear hb); (try clear hb2); (try clear hk); (try clear hi)) | (go_at_call 13; (with_reducible refine (flagstoneref02_Check.calls kj3 a0 t118 _ A16.out).mono ?_); rintro e w' ⟨rfl, ⟨nd, rfl⟩⟩) | (go_at_call 14; (with_reducible refine (stencil_Letter.calls a2 t119 _ A18.out).mono ?_); rintro e w29 ⟨rfl, hb⟩; have n0_ := Aside0.mk (below_step (by repeat (first | (with_reducible first | exact HB.out | apply below_alloc | apply pw_below_drewN | apply below_drew1) | exact HB.out)) hb); clear HB; have HB := n0_; clear n0_; (try clear hb); (try clear hb2); (try clear hk); (try clear hi)) | (go_at_call 15; (with_reducible refine (flagstoneref02_Letter.calls a2 t120 _ A19.out).mono ?_); rintro e w' ⟨rfl, ⟨nd, rfl⟩⟩))
              go_ret
              exact ⟨by first | rfl | (simp [errW_none, errW_some] <;> rfl) | (simp [*, errW_none, errW_some] <;> rfl), by repeat (first | (with_reducible first | exact HB.out | apply below_alloc | apply pw_below_drewN | apply below_drew1) | exact HB.out)⟩
          · rw [if_neg c17] at H
            have c17b0 : (t117 == t118) = false := beq_eq_false_iff_ne.mpr c17
            have c17b1 : (t117 != t118) = true := bne_iff_ne.mpr c17
            obtain rfl := Option.some.inj H
            go_wp2_with (first | ((with_reducible refine gate_callee (f := 10) rfl ?_); refine goesL_ (some 21) rfl rfl Tryd.func10 (by kernel_rfl) rfl #[.string a0] rfl (by (try simp only [List.map_toArray, List.map_cons, List.map_nil]); first | done | rfl | (simp only [List.length_drop, List.length_take]; rfl)) ?_; (with_reducible refine (stencil_Count.calls a0 t115 _ A12.out).mono ?_); rintro e w30 ⟨rfl, hb⟩; refine ⟨_, rfl, ?_⟩; have n0_ := Aside0.mk (below_step (by repeat (first | (with_reducible first | exact HB.out | apply below_alloc | apply pw_below_drewN | apply below_drew1) | exact HB.out)) hb); clear HB; have HB := n0_; clear n0_; (try clear hb); (try clear hb2); (try clear hk); (try clear hi)) | ((with_reducible refine gate_callee (f := 11) rfl ?_); refine goesL_ (some 23) rfl rfl Tryd.func11 (by kernel_rfl) rfl #[.string a0] rfl (by (try simp only [List.map_toArray, List.map_cons, List.map_nil]); first | done | rfl | (simp only [List.length_drop, List.length_take]; rfl)) ?_; (with_reducible refine (flagstoneref02_Count.calls kj3 a0 t116 _ A13.out).mono ?_); rintro e w' ⟨rfl, ⟨nd, rfl⟩⟩; refine ⟨_, rfl, ?_⟩) | (go_at_call 12; (with_reducible refine (stencil_Check.calls a0 t117 _ A15.out).mono ?_); rintro e w31 ⟨rfl, hb⟩; have n0_ := Aside0.mk (below_step (by repeat (first | (with_reducible first | exact HB.out | apply below_alloc | apply pw_below_drewN | apply below_drew1) | exact HB.out)) hb); clear HB; have HB := n0_; clear n0_; (try clear hb); (try clear hb2); (try clear hk); (try clear hi)) | (go_at_call 13; (with_reducible refine (flagstoneref02_Check.calls kj3 a0 t118 _ A16.out).mono ?_); rintro e w' ⟨rfl, ⟨nd, rfl⟩⟩))
            go_ret
            exact ⟨by first | rfl | (simp [errW_none, errW_some] <;> rfl) | (simp [*, errW_none, errW_some] <;> rfl), by repeat (first | (with_reducible first | exact HB.out | apply below_alloc | apply pw_below_drewN | apply below_drew1) | exact HB.out)⟩
        · rw [if_neg c14] at H
          have c14b0 : (t115 == t116) = false := beq_eq_false_iff_ne.mpr c14
          have c14b1 : (t115 != t116) = true := bne_iff_ne.mpr c14
          obtain rfl := Option.some.inj H
          go_wp2_with (first | ((with_reducible refine gate_callee (f := 10) rfl ?_); refine goesL_ (some 21) rfl rfl Tryd.func10 (by kernel_rfl) rfl #[.string a0] rfl (by (try simp only [List.map_toArray, List.map_cons, List.map_nil]); first | done | rfl | (simp only [List.length_drop, List.length_take]; rfl)) ?_; (with_reducible refine (stencil_Count.calls a0 t115 _ A12.out).mono ?_); rintro e w32 ⟨rfl, hb⟩; refine ⟨_, rfl, ?_⟩; have n0_ := Aside0.mk (below_step (by repeat (first | (with_reducible first | exact HB.out | apply below_alloc | apply pw_below_drewN | apply below_drew1) | exact HB.out)) hb); clear HB; have HB := n0_; clear n0_; (try clear hb); (try clear hb2); (try clear hk); (try clear hi)) | ((with_reducible refine gate_callee (f := 11) rfl ?_); refine goesL_ (some 23) rfl rfl Tryd.func11 (by kernel_rfl) rfl #[.string a0] rfl (by (try simp only [List.map_toArray, List.map_cons, List.map_nil]); first | done | rfl | (simp only [List.length_drop, List.length_take]; rfl)) ?_; (with_reducible refine (flagstoneref02_Count.calls kj3 a0 t116 _ A13.out).mono ?_); rintro e w' ⟨rfl, ⟨nd, rfl⟩⟩; refine ⟨_, rfl, ?_⟩))
          go_ret
          exact ⟨by first | rfl | (simp [errW_none, errW_some] <;> rfl) | (simp [*, errW_none, errW_some] <;> rfl), by repeat (first | (with_reducible first | exact HB.out | apply below_alloc | apply pw_below_drewN | apply below_drew1) | exact HB.out)⟩

/-- THE ONE PURE STATEMENT of flagstonelaw02_StencilTells: yours. -/
def flagstonelaw02_StencilTells.Pure : Prop := ∀ (a0 : ByteArray) (a1 : ByteArray) (a2 : Int), a0.size ≤ 140737488351232 → a1.size ≤ 140737488351232 → (Lit.int .i64 a2).wf = true → ∃ k, flagstonelaw02_StencilTells.f k a0 a1 a2 = some true
theorem flagstonelaw02_StencilTells.walk (P : flagstonelaw02_StencilTells.Pure) (a0 : ByteArray) (a1 : ByteArray) (a2 : Int) (w : World) (w0 : a0.size ≤ 140737488351232) (w1 : a1.size ≤ 140737488351232) (w2 : (Lit.int .i64 a2).wf = true) :
    Calls Tryd.prog 3 #[.string a0, .string a1, .int .i64 a2] w fun e w' => e = .returned (.bool true) ∧ Below w.heap.size w w' := by
  obtain ⟨k, h⟩ := P a0 a1 a2 w0 w1 w2
  refine (flagstonelaw02_StencilTells.calls k a0 a1 a2 true w h).mono ?_
  rintro e w' ⟨rfl, hd⟩
  exact ⟨rfl, hd⟩

end Go.Proofs.YtoojgfhhmdohaaaDoor.PStencilTells
