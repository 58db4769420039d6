-- printed by a program of mine over the kit's print (extprint.py)
import Derived.Test.YtoojgfhhmdohaaaDoorPStencilTellsx0
namespace Go.Proofs.YtoojgfhhmdohaaaDoor.PStencilTells
open Go.RowKit Go.Proofs.YtoojgfhhmdohaaaDoor.Ext Go.Proofs.YtoojgfhhmdohaaaDoorW.PrintWords Go.Proofs.YtoojgfhhmdohaaaDoorW.PrintLast Go.Proofs.YtoojgfhhmdohaaaDoorW.PrintMore
attribute [local go_sem] max2_int min2_int max_two min_two max_three min_three max_four min_four   -- for this text's walks alone
set_option linter.unusedVariables false
set_option linter.unusedSimpArgs false

/-! ### flagstonelaw02_shown: function 9 -/
def flagstonelaw02_shown.f  : Option (Bool) := (stencil_Make.f (⟨#[97, 88, 88, 88]⟩ : ByteArray) (([0, 27, 35] : List Int))).bind fun t104 => (if t104.toList = ([97, 97, 49, 57] : List UInt8) then ((stencil_Count.f (⟨#[88, 97, 88, 88]⟩ : ByteArray)).bind fun t105 => (if t105 = 2 then ((stencil_Check.f (⟨#[97, 88, 88]⟩ : ByteArray)).bind fun t106 => (if t106 = 1 then ((stencil_Check.f (⟨#[88, 88, 88]⟩ : ByteArray)).bind fun t107 => (if t107 = 0 then ((stencil_Fits.f (⟨#[97, 88, 88, 88]⟩ : ByteArray) (⟨#[97, 97, 49, 57]⟩ : ByteArray)).bind fun t108 => (if t108 = true then ((stencil_Fits.f (⟨#[97, 88, 88, 88]⟩ : ByteArray) (⟨#[97, 97, 65, 57]⟩ : ByteArray)).bind fun t109 => (if t109 = true then (some false) else ((stencil_Letter.f (-1)).bind fun t110 => (some (t110.toList == ([57] : List UInt8)))))) else (some false))) else (some false))) else (some false))) else (some false))) else (some false))
set_option maxHeartbeats 8000000 in
set_option maxRecDepth 100000 in
theorem flagstonelaw02_shown.calls  (r : Bool) (w : World) (h : flagstonelaw02_shown.f  = some r) :
    Calls Tryd.prog 9 #[] w fun e w' => e = .returned (.bool r) ∧ Below w.heap.size w w' := by
  have HB := Aside0.mk (Below.refl w.heap.size w)
  have H : ((stencil_Make.f (⟨#[97, 88, 88, 88]⟩ : ByteArray) (([0, 27, 35] : List Int))).bind fun t104 => (if t104.toList = ([97, 97, 49, 57] : List UInt8) then ((stencil_Count.f (⟨#[88, 97, 88, 88]⟩ : ByteArray)).bind fun t105 => (if t105 = 2 then ((stencil_Check.f (⟨#[97, 88, 88]⟩ : ByteArray)).bind fun t106 => (if t106 = 1 then ((stencil_Check.f (⟨#[88, 88, 88]⟩ : ByteArray)).bind fun t107 => (if t107 = 0 then ((stencil_Fits.f (⟨#[97, 88, 88, 88]⟩ : ByteArray) (⟨#[97, 97, 49, 57]⟩ : ByteArray)).bind fun t108 => (if t108 = true then ((stencil_Fits.f (⟨#[97, 88, 88, 88]⟩ : ByteArray) (⟨#[97, 97, 65, 57]⟩ : ByteArray)).bind fun t109 => (if t109 = true then (some false) else ((stencil_Letter.f (-1)).bind fun t110 => (some (t110.toList == ([57] : List UInt8)))))) else (some false))) else (some false))) else (some false))) else (some false))) else (some false))) = some r := h
  clear h
  obtain ⟨y101, hy101⟩ : ∃ y_ : List Int, y_ = (([0, 27, 35] : List Int)) := ⟨_, rfl⟩
  replace H : ((stencil_Make.f (⟨#[97, 88, 88, 88]⟩ : ByteArray) y101).bind fun t104 => (if t104.toList = ([97, 97, 49, 57] : List UInt8) then ((stencil_Count.f (⟨#[88, 97, 88, 88]⟩ : ByteArray)).bind fun t105 => (if t105 = 2 then ((stencil_Check.f (⟨#[97, 88, 88]⟩ : ByteArray)).bind fun t106 => (if t106 = 1 then ((stencil_Check.f (⟨#[88, 88, 88]⟩ : ByteArray)).bind fun t107 => (if t107 = 0 then ((stencil_Fits.f (⟨#[97, 88, 88, 88]⟩ : ByteArray) (⟨#[97, 97, 49, 57]⟩ : ByteArray)).bind fun t108 => (if t108 = true then ((stencil_Fits.f (⟨#[97, 88, 88, 88]⟩ : ByteArray) (⟨#[97, 97, 65, 57]⟩ : ByteArray)).bind fun t109 => (if t109 = true then (some false) else ((stencil_Letter.f (-1)).bind fun t110 => (some (t110.toList == ([57] : List UInt8)))))) else (some false))) else (some false))) else (some false))) else (some false))) else (some false))) = some r := by first | (rw [hy101]; with_reducible exact H) | (have H2_ := (Option.bind_some _ _).symm.trans H; rw [hy101]; with_reducible exact H2_) | (have H2_ := (Option.bind_some _ _).symm.trans H; with_reducible exact H2_) | with_reducible exact H | (rw [hy101]; exact H) | exact H
  have Ny101 := Aside0.mk hy101
  clear hy101
  replace H := Option.bind_eq_some_iff.mp H
  obtain ⟨t104, A10, H⟩ := H
  replace H : (if t104.toList = ([97, 97, 49, 57] : List UInt8) then ((stencil_Count.f (⟨#[88, 97, 88, 88]⟩ : ByteArray)).bind fun t105 => (if t105 = 2 then ((stencil_Check.f (⟨#[97, 88, 88]⟩ : ByteArray)).bind fun t106 => (if t106 = 1 then ((stencil_Check.f (⟨#[88, 88, 88]⟩ : ByteArray)).bind fun t107 => (if t107 = 0 then ((stencil_Fits.f (⟨#[97, 88, 88, 88]⟩ : ByteArray) (⟨#[97, 97, 49, 57]⟩ : ByteArray)).bind fun t108 => (if t108 = true then ((stencil_Fits.f (⟨#[97, 88, 88, 88]⟩ : ByteArray) (⟨#[97, 97, 65, 57]⟩ : ByteArray)).bind fun t109 => (if t109 = true then (some false) else ((stencil_Letter.f (-1)).bind fun t110 => (some (t110.toList == ([57] : List UInt8)))))) else (some false))) else (some false))) else (some false))) else (some false))) else (some false)) = some r := H
  have A1 := Aside0.mk A10
  clear A10
  by_cases c2 : t104.toList = ([97, 97, 49, 57] : List UInt8)
  · rw [if_pos c2] at H
    have c2b0 : (t104.toList == ([97, 97, 49, 57] : List UInt8)) = true := beq_iff_eq.mpr c2
    have c2b1 : (t104.toList != ([97, 97, 49, 57] : List UInt8)) = false := bne_eq_false_iff_eq.mpr c2
    clear c2
    replace H := Option.bind_eq_some_iff.mp H
    obtain ⟨t105, A30, H⟩ := H
    replace H : (if t105 = 2 then ((stencil_Check.f (⟨#[97, 88, 88]⟩ : ByteArray)).bind fun t106 => (if t106 = 1 then ((stencil_Check.f (⟨#[88, 88, 88]⟩ : ByteArray)).bind fun t107 => (if t107 = 0 then ((stencil_Fits.f (⟨#[97, 88, 88, 88]⟩ : ByteArray) (⟨#[97, 97, 49, 57]⟩ : ByteArray)).bind fun t108 => (if t108 = true then ((stencil_Fits.f (⟨#[97, 88, 88, 88]⟩ : ByteArray) (⟨#[97, 97, 65, 57]⟩ : ByteArray)).bind fun t109 => (if t109 = true then (some false) else ((stencil_Letter.f (-1)).bind fun t110 => (some (t110.toList == ([57] : List UInt8)))))) else (some false))) else (some false))) else (some false))) else (some false)) = some r := H
    have A3 := Aside0.mk A30
    clear A30
    by_cases c4 : t105 = 2
    · rw [if_pos c4] at H
      have c4b0 : (t105 == 2) = true := beq_iff_eq.mpr c4
      have c4b1 : (t105 != 2) = false := bne_eq_false_iff_eq.mpr c4
      clear c4
      replace H := Option.bind_eq_some_iff.mp H
      obtain ⟨t106, A50, H⟩ := H
      replace H : (if t106 = 1 then ((stencil_Check.f (⟨#[88, 88, 88]⟩ : ByteArray)).bind fun t107 => (if t107 = 0 then ((stencil_Fits.f (⟨#[97, 88, 88, 88]⟩ : ByteArray) (⟨#[97, 97, 49, 57]⟩ : ByteArray)).bind fun t108 => (if t108 = true then ((stencil_Fits.f (⟨#[97, 88, 88, 88]⟩ : ByteArray) (⟨#[97, 97, 65, 57]⟩ : ByteArray)).bind fun t109 => (if t109 = true then (some false) else ((stencil_Letter.f (-1)).bind fun t110 => (some (t110.toList == ([57] : List UInt8)))))) else (some false))) else (some false))) else (some false)) = some r := H
      have A5 := Aside0.mk A50
      clear A50
      by_cases c6 : t106 = 1
      · rw [if_pos c6] at H
        have c6b0 : (t106 == 1) = true := beq_iff_eq.mpr c6
        have c6b1 : (t106 != 1) = false := bne_eq_false_iff_eq.mpr c6
        clear c6
        replace H := Option.bind_eq_some_iff.mp H
        obtain ⟨t107, A70, H⟩ := H
        replace H : (if t107 = 0 then ((stencil_Fits.f (⟨#[97, 88, 88, 88]⟩ : ByteArray) (⟨#[97, 97, 49, 57]⟩ : ByteArray)).bind fun t108 => (if t108 = true then ((stencil_Fits.f (⟨#[97, 88, 88, 88]⟩ : ByteArray) (⟨#[97, 97, 65, 57]⟩ : ByteArray)).bind fun t109 => (if t109 = true then (some false) else ((stencil_Letter.f (-1)).bind fun t110 => (some (t110.toList == ([57] : List UInt8)))))) else (some false))) else (some false)) = some r := H
        have A7 := Aside0.mk A70
        clear A70
        by_cases c8 : t107 = 0
        · rw [if_pos c8] at H
          have c8b0 : (t107 == 0) = true := beq_iff_eq.mpr c8
          have c8b1 : (t107 != 0) = false := bne_eq_false_iff_eq.mpr c8
          clear c8
          replace H := Option.bind_eq_some_iff.mp H
          obtain ⟨t108, A90, H⟩ := H
          replace H : (if t108 = true then ((stencil_Fits.f (⟨#[97, 88, 88, 88]⟩ : ByteArray) (⟨#[97, 97, 65, 57]⟩ : ByteArray)).bind fun t109 => (if t109 = true then (some false) else ((stencil_Letter.f (-1)).bind fun t110 => (some (t110.toList == ([57] : List UInt8)))))) else (some false)) = some r := H
          have A9 := Aside0.mk A90
          clear A90
          by_cases c10 : t108 = true
          · subst c10
            have H1 : ((stencil_Fits.f (⟨#[97, 88, 88, 88]⟩ : ByteArray) (⟨#[97, 97, 65, 57]⟩ : ByteArray)).bind fun t109 => (if t109 = true then (some false) else ((stencil_Letter.f (-1)).bind fun t110 => (some (t110.toList == ([57] : List UInt8)))))) = some r := by rw [if_pos rfl] at H; exact H
            clear H
            have H := H1
            clear H1
            replace H := Option.bind_eq_some_iff.mp H
            obtain ⟨t109, A110, H⟩ := H
            replace H : (if t109 = true then (some false) else ((stencil_Letter.f (-1)).bind fun t110 => (some (t110.toList == ([57] : List UInt8))))) = some r := H
            have A11 := Aside0.mk A110
            clear A110
            by_cases c12 : t109 = true
            · subst c12
              have H1 : (some false) = some r := by rw [if_pos rfl] at H; exact H
              clear H
              have H := H1
              clear H1
              obtain rfl := Option.some.inj H
              go_enter Tryd.func9, Tryd.ntmps9
              go_wp2_with (first | ((with_reducible refine gate_dst (N := 1) rfl ?_); refine Kd.R_lit (Kd.int .i64) _ 3 ?hg (N := 1) ?hd (xs := ([0, 27, 35] : List Int)) (inner := [.int .i64 0, .int .i64 27, .int .i64 35]) (ok := fun _ => True) (okp := fun _ => True) ?hr ?hp (fun _ hk => hk) trivial (Below.refl _ _) (Nat.le_refl _) (by simp) ?_; (case hd => rfl); (case hg => rfl); (case hr => first | (go_simp; done) | (go_simp; rfl)); (case hp => exact (Reps.one (show Kd.M (Kd.int .i64) _ _ _ 0 [.int .i64 0] from rfl) (Reps.one (show Kd.M (Kd.int .i64) _ _ _ 27 [.int .i64 27] from rfl) (Reps.one (show Kd.M (Kd.int .i64) _ _ _ 35 [.int .i64 35] from rfl) (Reps.none _ _))))); intro v102 w13 ho14 hb hg_ hnew_; clear hg_ hnew_; (first | rw [← Ny101.out] at ho14 | (simp only [Int.reduceToNat] at ho14; rw [← Ny101.out] at ho14)); have n0_ := Aside0.mk (Kd.R_lower ho14 (below_size (by repeat (first | (with_reducible first | exact HB.out | apply below_alloc | apply pw_below_drewN | apply below_drew1) | exact HB.out)))); have n1_ := Aside0.mk (below_step (by repeat (first | (with_reducible first | exact HB.out | apply below_alloc | apply pw_below_drewN | apply below_drew1) | exact HB.out)) hb); clear HB; have HO103 := n0_; have HB := n1_; clear n0_ n1_; clear hb ho14; obtain ⟨Ao15, co15, eo15⟩ := Kd.R_slice HO103.out; subst eo15) | ((with_reducible refine gate_callee (f := 18) rfl ?_); refine goesL_ (some 2) rfl rfl Tryd.func18 (by kernel_rfl) rfl #[.string (⟨#[97, 88, 88, 88]⟩ : ByteArray), .slice Ao15 y101.length co15] rfl (by (try simp only [List.map_toArray, List.map_cons, List.map_nil]); first | done | rfl | (simp only [List.length_drop, List.length_take]; rfl)) ?_; (with_reducible refine (stencil_Make.calls (⟨#[97, 88, 88, 88]⟩ : ByteArray) _ _ y101 t104 _ ?side1 ?side2 A1.out).mono ?_); (case side1 => repeat (first | exact (Kd.R_reads' HO103.out).2.2 | (with_reducible refine Kd.C_alloc ?_ _) | (with_reducible refine Kd.C_drewN ?_ _) | (with_reducible refine Kd.C_drew ?_))); (case side2 => exact (Kd.R_reads' HO103.out).2.1); rintro e w16 ⟨rfl, hb⟩; refine ⟨_, rfl, ?_⟩; have n0_ := Aside0.mk (Kd.R_below (by (with_reducible repeat (first | apply Kd.R_alloc | apply Kd.R_drewN | apply Kd.R_drew)); exact HO103.out) hb); have n1_ := Aside0.mk (below_step (by repeat (first | (with_reducible first | exact HB.out | apply below_alloc | apply pw_below_drewN | apply below_drew1) | exact HB.out)) hb); clear HO103; clear HB; have HO103 := n0_; have HB := n1_; clear n0_ n1_; (try clear hb); (try clear hb2); (try clear hk); (try clear hi)) | (go_at_call 10; (with_reducible refine (stencil_Count.calls (⟨#[88, 97, 88, 88]⟩ : ByteArray) t105 _ A3.out).mono ?_); rintro e w17 ⟨rfl, hb⟩; have n0_ := Aside0.mk (Kd.R_below (by (with_reducible repeat (first | apply Kd.R_alloc | apply Kd.R_drewN | apply Kd.R_drew)); exact HO103.out) hb); have n1_ := Aside0.mk (below_step (by repeat (first | (with_reducible first | exact HB.out | apply below_alloc | apply pw_below_drewN | apply below_drew1) | exact HB.out)) hb); clear HO103; clear HB; have HO103 := n0_; have HB := n1_; clear n0_ n1_; (try clear hb); (try clear hb2); (try clear hk); (try clear hi)) | (go_at_call 12; (with_reducible refine (stencil_Check.calls (⟨#[97, 88, 88]⟩ : ByteArray) t106 _ A5.out).mono ?_); rintro e w18 ⟨rfl, hb⟩; have n0_ := Aside0.mk (Kd.R_below (by (with_reducible repeat (first | apply Kd.R_alloc | apply Kd.R_drewN | apply Kd.R_drew)); exact HO103.out) hb); have n1_ := Aside0.mk (below_step (by repeat (first | (with_reducible first | exact HB.out | apply below_alloc | apply pw_below_drewN | apply below_drew1) | exact HB.out)) hb); clear HO103; clear HB; have HO103 := n0_; have HB := n1_; clear n0_ n1_; (try clear hb); (try clear hb2); (try clear hk); (try clear hi)) | (go_at_call 12; (with_reducible refine (stencil_Check.calls (⟨#[88, 88, 88]⟩ : ByteArray) t107 _ A7.out).mono ?_); rintro e w19 ⟨rfl, hb⟩; have n0_ := Aside0.mk (Kd.R_below (by (with_reducible repeat (first | apply Kd.R_alloc | apply Kd.R_drewN | apply Kd.R_drew)); exact HO103.out) hb); have n1_ := Aside0.mk (below_step (by repeat (first | (with_reducible first | exact HB.out | apply below_alloc | apply pw_below_drewN | apply below_drew1) | exact HB.out)) hb); clear HO103; clear HB; have HO103 := n0_; have HB := n1_; clear n0_ n1_; (try clear hb); (try clear hb2); (try clear hk); (try clear hi)) | (go_at_call 16; (with_reducible refine (stencil_Fits.calls (⟨#[97, 88, 88, 88]⟩ : ByteArray) (⟨#[97, 97, 49, 57]⟩ : ByteArray) true _ A9.out).mono ?_); rintro e w20 ⟨rfl, hb⟩; have n0_ := Aside0.mk (Kd.R_below (by (with_reducible repeat (first | apply Kd.R_alloc | apply Kd.R_drewN | apply Kd.R_drew)); exact HO103.out) hb); have n1_ := Aside0.mk (below_step (by repeat (first | (with_reducible first | exact HB.out | apply below_alloc | apply pw_below_drewN | apply below_drew1) | exact HB.out)) hb); clear HO103; clear HB; have HO103 := n0_; have HB := n1_; clear n0_ n1_; (try clear hb); (try clear hb2); (try clear hk); (try clear hi)) | (go_at_call 16; (with_reducible refine (stencil_Fits.calls (⟨#[97, 88, 88, 88]⟩ : ByteArray) (⟨#[97, 97, 65, 57]⟩ : ByteArray) true _ A11.out).mono ?_); rintro e w21 ⟨rfl, hb⟩; have n0_ := Aside0.mk (Kd.R_below (by (with_reducible repeat (first | apply Kd.R_alloc | apply Kd.R_drewN | apply Kd.R_drew)); exact HO103.out) hb); have n1_ := Aside0.mk (below_step (by repeat (first | (with_reducible first | exact HB.out | apply below_alloc | apply pw_below_drewN | apply below_drew1) | exact HB.out)) hb); clear HO103; clear HB; have HO103 := n0_; have HB := n1_; clear n0_ n1_; (try clear hb); (try clear hb2); (try clear hk); (try clear hi)))
              go_ret
              exact ⟨by first | rfl | (simp [errW_none, errW_some] <;> rfl) | (simp [*, errW_none, errW_some] <;> rfl), by repeat (first | (with_reducible first | exact HB.out | apply below_alloc | apply pw_below_drewN | apply below_drew1) | exact HB.out)⟩
            · replace c12 := Bool.eq_false_iff.mpr c12
              subst c12
              have H1 : ((stencil_Letter.f (-1)).bind fun t110 => (some (t110.toList == ([57] : List UInt8)))) = some r := by rw [if_neg (show ¬ (false = true) by decide)] at H; exact H
              clear H
              have H := H1
              clear H1
              replace H := Option.bind_eq_some_iff.mp H
              obtain ⟨t110, A220, H⟩ := H
              replace H : (some (t110.toList == ([57] : List UInt8))) = some r := H
              have A22 := Aside0.mk A220
              clear A220
              obtain rfl := Option.some.inj H
              go_enter Tryd.func9, Tryd.ntmps9
              go_wp2_with (first | ((with_reducible refine gate_dst (N := 1) rfl ?_); refine Kd.R_lit (Kd.int .i64) _ 3 ?hg (N := 1) ?hd (xs := ([0, 27, 35] : List Int)) (inner := [.int .i64 0, .int .i64 27, .int .i64 35]) (ok := fun _ => True) (okp := fun _ => True) ?hr ?hp (fun _ hk => hk) trivial (Below.refl _ _) (Nat.le_refl _) (by simp) ?_; (case hd => rfl); (case hg => rfl); (case hr => first | (go_simp; done) | (go_simp; rfl)); (case hp => exact (Reps.one (show Kd.M (Kd.int .i64) _ _ _ 0 [.int .i64 0] from rfl) (Reps.one (show Kd.M (Kd.int .i64) _ _ _ 27 [.int .i64 27] from rfl) (Reps.one (show Kd.M (Kd.int .i64) _ _ _ 35 [.int .i64 35] from rfl) (Reps.none _ _))))); intro v102 w23 ho24 hb hg_ hnew_; clear hg_ hnew_; (first | rw [← Ny101.out] at ho24 | (simp only [Int.reduceToNat] at ho24; rw [← Ny101.out] at ho24)); have n0_ := Aside0.mk (Kd.R_lower ho24 (below_size (by repeat (first | (with_reducible first | exact HB.out | apply below_alloc | apply pw_below_drewN | apply below_drew1) | exact HB.out)))); have n1_ := Aside0.mk (below_step (by repeat (first | (with_reducible first | exact HB.out | apply below_alloc | apply pw_below_drewN | apply below_drew1) | exact HB.out)) hb); clear HB; have HO103 := n0_; have HB := n1_; clear n0_ n1_; clear hb ho24; obtain ⟨Ao25, co25, eo25⟩ := Kd.R_slice HO103.out; subst eo25) | ((with_reducible refine gate_callee (f := 18) rfl ?_); refine goesL_ (some 2) rfl rfl Tryd.func18 (by kernel_rfl) rfl #[.string (⟨#[97, 88, 88, 88]⟩ : ByteArray), .slice Ao25 y101.length co25] rfl (by (try simp only [List.map_toArray, List.map_cons, List.map_nil]); first | done | rfl | (simp only [List.length_drop, List.length_take]; rfl)) ?_; (with_reducible refine (stencil_Make.calls (⟨#[97, 88, 88, 88]⟩ : ByteArray) _ _ y101 t104 _ ?side1 ?side2 A1.out).mono ?_); (case side1 => repeat (first | exact (Kd.R_reads' HO103.out).2.2 | (with_reducible refine Kd.C_alloc ?_ _) | (with_reducible refine Kd.C_drewN ?_ _) | (with_reducible refine Kd.C_drew ?_))); (case side2 => exact (Kd.R_reads' HO103.out).2.1); rintro e w26 ⟨rfl, hb⟩; refine ⟨_, rfl, ?_⟩; have n0_ := Aside0.mk (Kd.R_below (by (with_reducible repeat (first | apply Kd.R_alloc | apply Kd.R_drewN | apply Kd.R_drew)); exact HO103.out) hb); have n1_ := Aside0.mk (below_step (by repeat (first | (with_reducible first | exact HB.out | apply below_alloc | apply pw_below_drewN | apply below_drew1) | exact HB.out)) hb); clear HO103; clear HB; have HO103 := n0_; have HB := n1_; clear n0_ n1_; (try clear hb); (try clear hb2); (try clear hk); (try clear hi)) | (go_at_call 10; (with_reducible refine (stencil_Count.calls (⟨#[88, 97, 88, 88]⟩ : ByteArray) t105 _ A3.out).mono ?_); rintro e w27 ⟨rfl, hb⟩; have n0_ := Aside0.mk (Kd.R_below (by (with_reducible repeat (first | apply Kd.R_alloc | apply Kd.R_drewN | apply Kd.R_drew)); exact HO103.out) hb); have n1_ := Aside0.mk (below_step (by repeat (first | (with_reducible first | exact HB.out | apply below_alloc | apply pw_below_drewN | apply below_drew1) | exact HB.out)) hb); clear HO103; clear HB; have HO103 := n0_; have HB := n1_; clear n0_ n1_; (try clear hb); (try clear hb2); (try clear hk); (try clear hi)) | (go_at_call 12; (with_reducible refine (stencil_Check.calls (⟨#[97, 88, 88]⟩ : ByteArray) t106 _ A5.out).mono ?_); rintro e w28 ⟨rfl, hb⟩; have n0_ := Aside0.mk (Kd.R_below (by (with_reducible repeat (first | apply Kd.R_alloc | apply Kd.R_drewN | apply Kd.R_drew)); exact HO103.out) hb); have n1_ := Aside0.mk (below_step (by repeat (first | (with_reducible first | exact HB.out | apply below_alloc | apply pw_below_drewN | apply below_drew1) | exact HB.out)) hb); clear HO103; clear HB; have HO103 := n0_; have HB := n1_; clear n0_ n1_; (try clear hb); (try clear hb2); (try clear hk); (try clear hi)) | (go_at_call 12; (with_reducible refine (stencil_Check.calls (⟨#[88, 88, 88]⟩ : ByteArray) t107 _ A7.out).mono ?_); rintro e w29 ⟨rfl, hb⟩; have n0_ := Aside0.mk (Kd.R_below (by (with_reducible repeat (first | apply Kd.R_alloc | apply Kd.R_drewN | apply Kd.R_drew)); exact HO103.out) hb); have n1_ := Aside0.mk (below_step (by repeat (first | (with_reducible first | exact HB.out | apply below_alloc | apply pw_below_drewN | apply below_drew1) | exact HB.out)) hb); clear HO103; clear HB; have HO103 := n0_; have HB := n1_; clear n0_ n1_; (try clear hb); (try clear hb2); (try clear hk); (try clear hi)) | (go_at_call 16; (with_reducible refine (stencil_Fits.calls (⟨#[97, 88, 88, 88]⟩ : ByteArray) (⟨#[97, 97, 49, 57]⟩ : ByteArray) true _ A9.out).mono ?_); rintro e w30 ⟨rfl, hb⟩; have n0_ := Aside0.mk (Kd.R_below (by (with_reducible repeat (first | apply Kd.R_alloc | apply Kd.R_drewN | apply Kd.R_drew)); exact HO103.out) hb); have n1_ := Aside0.mk (below_step (by repeat (first | (with_reducible first | exact HB.out | apply below_alloc | apply pw_below_drewN | apply below_drew1) | exact HB.out)) hb); clear HO103; clear HB; have HO103 := n0_; have HB := n1_; clear n0_ n1_; (try clear hb); (try clear hb2); (try clear hk); (try clear hi)) | (go_at_call 16; (with_reducible refine (stencil_Fits.calls (⟨#[97, 88, 88, 88]⟩ : ByteArray) (⟨#[97, 97, 65, 57]⟩ : ByteArray) false _ A11.out).mono ?_); rintro e w31 ⟨rfl, hb⟩; have n0_ := Aside0.mk (Kd.R_below (by (with_reducible repeat (first | apply Kd.R_alloc | apply Kd.R_drewN | apply Kd.R_drew)); exact HO103.out) hb); have n1_ := Aside0.mk (below_step (by repeat (first | (with_reducible first | exact HB.out | apply below_alloc | apply pw_below_drewN | apply below_drew1) | exact HB.out)) hb); clear HO103; clear HB; have HO103 := n0_; have HB := n1_; clear n0_ n1_; (try clear hb); (try clear hb2); (try clear hk); (try clear hi)) | (go_at_call 14; (with_reducible refine (stencil_Letter.calls (-1) t110 _ A22.out).mono ?_); rintro e w32 ⟨rfl, hb⟩; have n0_ := Aside0.mk (Kd.R_below (by (with_reducible repeat (first | apply Kd.R_alloc | apply Kd.R_drewN | apply Kd.R_drew)); exact HO103.out) hb); have n1_ := Aside0.mk (below_step (by repeat (first | (with_reducible first | exact HB.out | apply below_alloc | apply pw_below_drewN | apply below_drew1) | exact HB.out)) hb); clear HO103; clear HB; have HO103 := n0_; have HB := n1_; clear n0_ n1_; (try clear hb); (try clear hb2); (try clear hk); (try clear hi)))
              go_ret
              exact ⟨by first | rfl | (simp [errW_none, errW_some] <;> rfl) | (simp [*, errW_none, errW_some] <;> rfl), by repeat (first | (with_reducible first | exact HB.out | apply below_alloc | apply pw_below_drewN | apply below_drew1) | exact HB.out)⟩
          · replace c10 := Bool.eq_false_iff.mpr c10
            subst c10
            have H1 : (some false) = some r := by rw [if_neg (show ¬ (false = true) by decide)] at H; exact H
            clear H
            have H := H1
            clear H1
            obtain rfl := Option.some.inj H
            go_enter Tryd.func9, Tryd.ntmps9
            go_wp2_with (first | ((with_reducible refine gate_dst (N := 1) rfl ?_); refine Kd.R_lit (Kd.int .i64) _ 3 ?hg (N := 1) ?hd (xs := ([0, 27, 35] : List Int)) (inner := [.int .i64 0, .int .i64 27, .int .i64 35]) (ok := fun _ => True) (okp := fun _ => True) ?hr ?hp (fun _ hk => hk) trivial (Below.refl _ _) (Nat.le_refl _) (by simp) ?_; (case hd => rfl); (case hg => rfl); (case hr => first | (go_simp; done) | (go_simp; rfl)); (case hp => exact (Reps.one (show Kd.M (Kd.int .i64) _ _ _ 0 [.int .i64 0] from rfl) (Reps.one (show Kd.M (Kd.int .i64) _ _ _ 27 [.int .i64 27] from rfl) (Reps.one (show Kd.M (Kd.int .i64) _ _ _ 35 [.int .i64 35] from rfl) (Reps.none _ _))))); intro v102 w33 ho34 hb hg_ hnew_; clear hg_ hnew_; (first | rw [← Ny101.out] at ho34 | (simp only [Int.reduceToNat] at ho34; rw [← Ny101.out] at ho34)); have n0_ := Aside0.mk (Kd.R_lower ho34 (below_size (by repeat (first | (with_reducible first | exact HB.out | apply below_alloc | apply pw_below_drewN | apply below_drew1) | exact HB.out)))); have n1_ := Aside0.mk (below_step (by repeat (first | (with_reducible first | exact HB.out | apply below_alloc | apply pw_below_drewN | apply below_drew1) | exact HB.out)) hb); clear HB; have HO103 := n0_; have HB := n1_; clear n0_ n1_; clear hb ho34; obtain ⟨Ao35, co35, eo35⟩ := Kd.R_slice HO103.out; subst eo35) | ((with_reducible refine gate_callee (f := 18) rfl ?_); refine goesL_ (some 2) rfl rfl Tryd.func18 (by kernel_rfl) rfl #[.string (⟨#[97, 88, 88, 88]⟩ : ByteArray), .slice Ao35 y101.length co35] rfl (by (try simp only [List.map_toArray, List.map_cons, List.map_nil]); first | done | rfl | (simp only [List.length_drop, List.length_take]; rfl)) ?_; (with_reducible refine (stencil_Make.calls (⟨#[97, 88, 88, 88]⟩ : ByteArray) _ _ y101 t104 _ ?side1 ?side2 A1.out).mono ?_); (case side1 => repeat (first | exact (Kd.R_reads' HO103.out).2.2 | (with_reducible refine Kd.C_alloc ?_ _) | (with_reducible refine Kd.C_drewN ?_ _) | (with_reducible refine Kd.C_drew ?_))); (case side2 => exact (Kd.R_reads' HO103.out).2.1); rintro e w36 ⟨rfl, hb⟩; refine ⟨_, rfl, ?_⟩; have n0_ := Aside0.mk (Kd.R_below (by (with_reducible repeat (first | apply Kd.R_alloc | apply Kd.R_drewN | apply Kd.R_drew)); exact HO103.out) hb); have n1_ := Aside0.mk (below_step (by repeat (first | (with_reducible first | exact HB.out | apply below_alloc | apply pw_below_drewN | apply below_drew1) | exact HB.out)) hb); clear HO103; clear HB; have HO103 := n0_; have HB := n1_; clear n0_ n1_; (try clear hb); (try clear hb2); (try clear hk); (try clear hi)) | (go_at_call 10; (with_reducible refine (stencil_Count.calls (⟨#[88, 97, 88, 88]⟩ : ByteArray) t105 _ A3.out).mono ?_); rintro e w37 ⟨rfl, hb⟩; have n0_ := Aside0.mk (Kd.R_below (by (with_reducible repeat (first | apply Kd.R_alloc | apply Kd.R_drewN | apply Kd.R_drew)); exact HO103.out) hb); have n1_ := Aside0.mk (below_step (by repeat (first | (with_reducible first | exact HB.out | apply below_alloc | apply pw_below_drewN | apply below_drew1) | exact HB.out)) hb); clear HO103; clear HB; have HO103 := n0_; have HB := n1_; clear n0_ n1_; (try clear hb); (try clear hb2); (try clear hk); (try clear hi)) | (go_at_call 12; (with_reducible refine (stencil_Check.calls (⟨#[97, 88, 88]⟩ : ByteArray) t106 _ A5.out).mono ?_); rintro e w38 ⟨rfl, hb⟩; have n0_ := Aside0.mk (Kd.R_below (by (with_reducible repeat (first | apply Kd.R_alloc | apply Kd.R_drewN | apply Kd.R_drew)); exact HO103.out) hb); have n1_ := Aside0.mk (below_step (by repeat (first | (with_reducible first | exact HB.out | apply below_alloc | apply pw_below_drewN | apply below_drew1) | exact HB.out)) hb); clear HO103; clear HB; have HO103 := n0_; have HB := n1_; clear n0_ n1_; (try clear hb); (try clear hb2); (try clear hk); (try clear hi)) | (go_at_call 12; (with_reducible refine (stencil_Check.calls (⟨#[88, 88, 88]⟩ : ByteArray) t107 _ A7.out).mono ?_); rintro e w39 ⟨rfl, hb⟩; have n0_ := Aside0.mk (Kd.R_below (by (with_reducible repeat (first | apply Kd.R_alloc | apply Kd.R_drewN | apply Kd.R_drew)); exact HO103.out) hb); have n1_ := Aside0.mk (below_step (by repeat (first | (with_reducible first | exact HB.out | apply below_alloc | apply pw_below_drewN | apply below_drew1) | exact HB.out)) hb); clear HO103; clear HB; have HO103 := n0_; have HB := n1_; clear n0_ n1_; (try clear hb); (try clear hb2); (try clear hk); (try clear hi)) | (go_at_call 16; (with_reducible refine (stencil_Fits.calls (⟨#[97, 88, 88, 88]⟩ : ByteArray) (⟨#[97, 97, 49, 57]⟩ : ByteArray) false _ A9.out).mono ?_); rintro e w40 ⟨rfl, hb⟩; have n0_ := Aside0.mk (Kd.R_below (by (with_reducible repeat (first | apply Kd.R_alloc | apply Kd.R_drewN | apply Kd.R_drew)); exact HO103.out) hb); have n1_ := Aside0.mk (below_step (by repeat (first | (with_reducible first | exact HB.out | apply below_alloc | apply pw_below_drewN | apply below_drew1) | exact HB.out)) hb); clear HO103; clear HB; have HO103 := n0_; have HB := n1_; clear n0_ n1_; (try clear hb); (try clear hb2); (try clear hk); (try clear hi)))
            go_ret
            exact ⟨by first | rfl | (simp [errW_none, errW_some] <;> rfl) | (simp [*, errW_none, errW_some] <;> rfl), by repeat (first | (with_reducible first | exact HB.out | apply below_alloc | apply pw_below_drewN | apply below_drew1) | exact HB.out)⟩
        · rw [if_neg c8] at H
          have c8b0 : (t107 == 0) = false := beq_eq_false_iff_ne.mpr c8
          have c8b1 : (t107 != 0) = true := bne_iff_ne.mpr c8
          obtain rfl := Option.some.inj H
          go_enter Tryd.func9, Tryd.ntmps9
          go_wp2_with (first | ((with_reducible refine gate_dst (N := 1) rfl ?_); refine Kd.R_lit (Kd.int .i64) _ 3 ?hg (N := 1) ?hd (xs := ([0, 27, 35] : List Int)) (inner := [.int .i64 0, .int .i64 27, .int .i64 35]) (ok := fun _ => True) (okp := fun _ => True) ?hr ?hp (fun _ hk => hk) trivial (Below.refl _ _) (Nat.le_refl _) (by simp) ?_; (case hd => rfl); (case hg => rfl); (case hr => first | (go_simp; done) | (go_simp; rfl)); (case hp => exact (Reps.one (show Kd.M (Kd.int .i64) _ _ _ 0 [.int .i64 0] from rfl) (Reps.one (show Kd.M (Kd.int .i64) _ _ _ 27 [.int .i64 27] from rfl) (Reps.one (show Kd.M (Kd.int .i64) _ _ _ 35 [.int .i64 35] from rfl) (Reps.none _ _))))); intro v102 w41 ho42 hb hg_ hnew_; clear hg_ hnew_; (first | rw [← Ny101.out] at ho42 | (simp only [Int.reduceToNat] at ho42; rw [← Ny101.out] at ho42)); have n0_ := Aside0.mk (Kd.R_lower ho42 (below_size (by repeat (first | (with_reducible first | exact HB.out | apply below_alloc | apply pw_below_drewN | apply below_drew1) | exact HB.out)))); have n1_ := Aside0.mk (below_step (by repeat (first | (with_reducible first | exact HB.out | apply below_alloc | apply pw_below_drewN | apply below_drew1) | exact HB.out)) hb); clear HB; have HO103 := n0_; have HB := n1_; clear n0_ n1_; clear hb ho42; obtain ⟨Ao43, co43, eo43⟩ := Kd.R_slice HO103.out; subst eo43) | ((with_reducible refine gate_callee (f := 18) rfl ?_); refine goesL_ (some 2) rfl rfl Tryd.func18 (by kernel_rfl) rfl #[.string (⟨#[97, 88, 88, 88]⟩ : ByteArray), .slice Ao43 y101.length co43] rfl (by (try simp only [List.map_toArray, List.map_cons, List.map_nil]); first | done | rfl | (simp only [List.length_drop, List.length_take]; rfl)) ?_; (with_reducible refine (stencil_Make.calls (⟨#[97, 88, 88, 88]⟩ : ByteArray) _ _ y101 t104 _ ?side1 ?side2 A1.out).mono ?_); (case side1 => repeat (first | exact (Kd.R_reads' HO103.out).2.2 | (with_reducible refine Kd.C_alloc ?_ _) | (with_reducible refine Kd.C_drewN ?_ _) | (with_reducible refine Kd.C_drew ?_))); (case side2 => exact (Kd.R_reads' HO103.out).2.1); rintro e w44 ⟨rfl, hb⟩; refine ⟨_, rfl, ?_⟩; have n0_ := Aside0.mk (Kd.R_below (by (with_reducible repeat (first | apply Kd.R_alloc | apply Kd.R_drewN | apply Kd.R_drew)); exact HO103.out) hb); have n1_ := Aside0.mk (below_step (by repeat (first | (with_reducible first | exact HB.out | apply below_alloc | apply pw_below_drewN | apply below_drew1) | exact HB.out)) hb); clear HO103; clear HB; have HO103 := n0_; have HB := n1_; clear n0_ n1_; (try clear hb); (try clear hb2); (try clear hk); (try clear hi)) | (go_at_call 10; (with_reducible refine (stencil_Count.calls (⟨#[88, 97, 88, 88]⟩ : ByteArray) t105 _ A3.out).mono ?_); rintro e w45 ⟨rfl, hb⟩; have n0_ := Aside0.mk (Kd.R_below (by (with_reducible repeat (first | apply Kd.R_alloc | apply Kd.R_drewN | apply Kd.R_drew)); exact HO103.out) hb); have n1_ := Aside0.mk (below_step (by repeat (first | (with_reducible first | exact HB.out | apply below_alloc | apply pw_below_drewN | apply below_drew1) | exact HB.out)) hb); clear HO103; clear HB; have HO103 := n0_; have HB := n1_; clear n0_ n1_; (try clear hb); (try clear hb2); (try clear hk); (try clear hi)) | (go_at_call 12; (with_reducible refine (stencil_Check.calls (⟨#[97, 88, 88]⟩ : ByteArray) t106 _ A5.out).mono ?_); rintro e w46 ⟨rfl, hb⟩; have n0_ := Aside0.mk (Kd.R_below (by (with_reducible repeat (first | apply Kd.R_alloc | apply Kd.R_drewN | apply Kd.R_drew)); exact HO103.out) hb); have n1_ := Aside0.mk (below_step (by repeat (first | (with_reducible first | exact HB.out | apply below_alloc | apply pw_below_drewN | apply below_drew1) | exact HB.out)) hb); clear HO103; clear HB; have HO103 := n0_; have HB := n1_; clear n0_ n1_; (try clear hb); (try clear hb2); (try clear hk); (try clear hi)) | (go_at_call 12; (with_reducible refine (stencil_Check.calls (⟨#[88, 88, 88]⟩ : ByteArray) t107 _ A7.out).mono ?_); rintro e w47 ⟨rfl, hb⟩; have n0_ := Aside0.mk (Kd.R_below (by (with_reducible repeat (first | apply Kd.R_alloc | apply Kd.R_drewN | apply Kd.R_drew)); exact HO103.out) hb); have n1_ := Aside0.mk (below_step (by repeat (first | (with_reducible first | exact HB.out | apply below_alloc | apply pw_below_drewN | apply below_drew1) | exact HB.out)) hb); clear HO103; clear HB; have HO103 := n0_; have HB := n1_; clear n0_ n1_; (try clear hb); (try clear hb2); (try clear hk); (try clear hi)))
          go_ret
          exact ⟨by first | rfl | (simp [errW_none, errW_some] <;> rfl) | (simp [*, errW_none, errW_some] <;> rfl), by repeat (first | (with_reducible first | exact HB.out | apply below_alloc | apply pw_below_drewN | apply below_drew1) | exact HB.out)⟩
      · rw [if_neg c6] at H
        have c6b0 : (t106 == 1) = false := beq_eq_false_iff_ne.mpr c6
        have c6b1 : (t106 != 1) = true := bne_iff_ne.mpr c6
        obtain rfl := Option.some.inj H
        go_enter Tryd.func9, Tryd.ntmps9
        go_wp2_with (first | ((with_reducible refine gate_dst (N := 1) rfl ?_); refine Kd.R_lit (Kd.int .i64) _ 3 ?hg (N := 1) ?hd (xs := ([0, 27, 35] : List Int)) (inner := [.int .i64 0, .int .i64 27, .int .i64 35]) (ok := fun _ => True) (okp := fun _ => True) ?hr ?hp (fun _ hk => hk) trivial (Below.refl _ _) (Nat.le_refl _) (by simp) ?_; (case hd => rfl); (case hg => rfl); (case hr => first | (go_simp; done) | (go_simp; rfl)); (case hp => exact (Reps.one (show Kd.M (Kd.int .i64) _ _ _ 0 [.int .i64 0] from rfl) (Reps.one (show Kd.M (Kd.int .i64) _ _ _ 27 [.int .i64 27] from rfl) (Reps.one (show Kd.M (Kd.int .i64) _ _ _ 35 [.int .i64 35] from rfl) (Reps.none _ _))))); intro v102 w48 ho49 hb hg_ hnew_; clear hg_ hnew_; (first | rw [← Ny101.out] at ho49 | (simp only [Int.reduceToNat] at ho49; rw [← Ny101.out] at ho49)); have n0_ := Aside0.mk (Kd.R_lower ho49 (below_size (by repeat (first | (with_reducible first | exact HB.out | apply below_alloc | apply pw_below_drewN | apply below_drew1) | exact HB.out)))); have n1_ := Aside0.mk (below_step (by repeat (first | (with_reducible first | exact HB.out | apply below_alloc | apply pw_below_drewN | apply below_drew1) | exact HB.out)) hb); clear HB; have HO103 := n0_; have HB := n1_; clear n0_ n1_; clear hb ho49; obtain ⟨Ao50, co50, eo50⟩ := Kd.R_slice HO103.out; subst eo50) | ((with_reducible refine gate_callee (f := 18) rfl ?_); refine goesL_ (some 2) rfl rfl Tryd.func18 (by kernel_rfl) rfl #[.string (⟨#[97, 88, 88, 88]⟩ : ByteArray), .slice Ao50 y101.length co50] rfl (by (try simp only [List.map_toArray, List.map_cons, List.map_nil]); first | done | rfl | (simp only [List.length_drop, List.length_take]; rfl)) ?_; (with_reducible refine (stencil_Make.calls (⟨#[97, 88, 88, 88]⟩ : ByteArray) _ _ y101 t104 _ ?side1 ?side2 A1.out).mono ?_); (case side1 => repeat (first | exact (Kd.R_reads' HO103.out).2.2 | (with_reducible refine Kd.C_alloc ?_ _) | (with_reducible refine Kd.C_drewN ?_ _) | (with_reducible refine Kd.C_drew ?_))); (case side2 => exact (Kd.R_reads' HO103.out).2.1); rintro e w51 ⟨rfl, hb⟩; refine ⟨_, rfl, ?_⟩; have n0_ := Aside0.mk (Kd.R_below (by (with_reducible repeat (first | apply Kd.R_alloc | apply Kd.R_drewN | apply Kd.R_drew)); exact HO103.out) hb); have n1_ := Aside0.mk (below_step (by repeat (first | (with_reducible first | exact HB.out | apply below_alloc | apply pw_below_drewN | apply below_drew1) | exact HB.out)) hb); clear HO103; clear HB; have HO103 := n0_; have HB := n1_; clear n0_ n1_; (try clear hb); (try clear hb2); (try clear hk); (try clear hi)) | (go_at_call 10; (with_reducible refine (stencil_Count.calls (⟨#[88, 97, 88, 88]⟩ : ByteArray) t105 _ A3.out).mono ?_); rintro e w52 ⟨rfl, hb⟩; have n0_ := Aside0.mk (Kd.R_below (by (with_reducible repeat (first | apply Kd.R_alloc | apply Kd.R_drewN | apply Kd.R_drew)); exact HO103.out) hb); have n1_ := Aside0.mk (below_step (by repeat (first | (with_reducible first | exact HB.out | apply below_alloc | apply pw_below_drewN | apply below_drew1) | exact HB.out)) hb); clear HO103; clear HB; have HO103 := n0_; have HB := n1_; clear n0_ n1_; (try clear hb); (try clear hb2); (try clear hk); (try clear hi)) | (go_at_call 12; (with_reducible refine (stencil_Check.calls (⟨#[97, 88, 88]⟩ : ByteArray) t106 _ A5.out).mono ?_); rintro e w53 ⟨rfl, hb⟩; have n0_ := Aside0.mk (Kd.R_below (by (with_reducible repeat (first | apply Kd.R_alloc | apply Kd.R_drewN | apply Kd.R_drew)); exact HO103.out) hb); have n1_ := Aside0.mk (below_step (by repeat (first | (with_reducible first | exact HB.out | apply below_alloc | apply pw_below_drewN | apply below_drew1) | exact HB.out)) hb); clear HO103; clear HB; have HO103 := n0_; have HB := n1_; clear n0_ n1_; (try clear hb); (try clear hb2); (try clear hk); (try clear hi)))
        go_ret
        exact ⟨by first | rfl | (simp [errW_none, errW_some] <;> rfl) | (simp [*, errW_none, errW_some] <;> rfl), by repeat (first | (with_reducible first | exact HB.out | apply below_alloc | apply pw_below_drewN | apply below_drew1) | exact HB.out)⟩
    · rw [if_neg c4] at H
      have c4b0 : (t105 == 2) = false := beq_eq_false_iff_ne.mpr c4
      have c4b1 : (t105 != 2) = true := bne_iff_ne.mpr c4
      obtain rfl := Option.some.inj H
      go_enter Tryd.func9, Tryd.ntmps9
      go_wp2_with (first | ((with_reducible refine gate_dst (N := 1) rfl ?_); refine Kd.R_lit (Kd.int .i64) _ 3 ?hg (N := 1) ?hd (xs := ([0, 27, 35] : List Int)) (inner := [.int .i64 0, .int .i64 27, .int .i64 35]) (ok := fun _ => True) (okp := fun _ => True) ?hr ?hp (fun _ hk => hk) trivial (Below.refl _ _) (Nat.le_refl _) (by simp) ?_; (case hd => rfl); (case hg => rfl); (case hr => first | (go_simp; done) | (go_simp; rfl)); (case hp => exact (Reps.one (show Kd.M (Kd.int .i64) _ _ _ 0 [.int .i64 0] from rfl) (Reps.one (show Kd.M (Kd.int .i64) _ _ _ 27 [.int .i64 27] from rfl) (Reps.one (show Kd.M (Kd.int .i64) _ _ _ 35 [.int .i64 35] from rfl) (Reps.none _ _))))); intro v102 w54 ho55 hb hg_ hnew_; clear hg_ hnew_; (first | rw [← Ny101.out] at ho55 | (simp only [Int.reduceToNat] at ho55; rw [← Ny101.out] at ho55)); have n0_ := Aside0.mk (Kd.R_lower ho55 (below_size (by repeat (first | (with_reducible first | exact HB.out | apply below_alloc | apply pw_below_drewN | apply below_drew1) | exact HB.out)))); have n1_ := Aside0.mk (below_step (by repeat (first | (with_reducible first | exact HB.out | apply below_alloc | apply pw_below_drewN | apply below_drew1) | exact HB.out)) hb); clear HB; have HO103 := n0_; have HB := n1_; clear n0_ n1_; clear hb ho55; obtain ⟨Ao56, co56, eo56⟩ := Kd.R_slice HO103.out; subst eo56) | ((with_reducible refine gate_callee (f := 18) rfl ?_); refine goesL_ (some 2) rfl rfl Tryd.func18 (by kernel_rfl) rfl #[.string (⟨#[97, 88, 88, 88]⟩ : ByteArray), .slice Ao56 y101.length co56] rfl (by (try simp only [List.map_toArray, List.map_cons, List.map_nil]); first | done | rfl | (simp only [List.length_drop, List.length_take]; rfl)) ?_; (with_reducible refine (stencil_Make.calls (⟨#[97, 88, 88, 88]⟩ : ByteArray) _ _ y101 t104 _ ?side1 ?side2 A1.out).mono ?_); (case side1 => repeat (first | exact (Kd.R_reads' HO103.out).2.2 | (with_reducible refine Kd.C_alloc ?_ _) | (with_reducible refine Kd.C_drewN ?_ _) | (with_reducible refine Kd.C_drew ?_))); (case side2 => exact (Kd.R_reads' HO103.out).2.1); rintro e w57 ⟨rfl, hb⟩; refine ⟨_, rfl, ?_⟩; have n0_ := Aside0.mk (Kd.R_below (by (with_reducible repeat (first | apply Kd.R_alloc | apply Kd.R_drewN | apply Kd.R_drew)); exact HO103.out) hb); have n1_ := Aside0.mk (below_step (by repeat (first | (with_reducible first | exact HB.out | apply below_alloc | apply pw_below_drewN | apply below_drew1) | exact HB.out)) hb); clear HO103; clear HB; have HO103 := n0_; have HB := n1_; clear n0_ n1_; (try clear hb); (try clear hb2); (try clear hk); (try clear hi)) | (go_at_call 10; (with_reducible refine (stencil_Count.calls (⟨#[88, 97, 88, 88]⟩ : ByteArray) t105 _ A3.out).mono ?_); rintro e w58 ⟨rfl, hb⟩; have n0_ := Aside0.mk (Kd.R_below (by (with_reducible repeat (first | apply Kd.R_alloc | apply Kd.R_drewN | apply Kd.R_drew)); exact HO103.out) hb); have n1_ := Aside0.mk (below_step (by repeat (first | (with_reducible first | exact HB.out | apply below_alloc | apply pw_below_drewN | apply below_drew1) | exact HB.out)) hb); clear HO103; clear HB; have HO103 := n0_; have HB := n1_; clear n0_ n1_; (try clear hb); (try clear hb2); (try clear hk); (try clear hi)))
      go_ret
      exact ⟨by first | rfl | (simp [errW_none, errW_some] <;> rfl) | (simp [*, errW_none, errW_some] <;> rfl), by repeat (first | (with_reducible first | exact HB.out | apply below_alloc | apply pw_below_drewN | apply below_drew1) | exact HB.out)⟩
  · rw [if_neg c2] at H
    have c2b0 : (t104.toList == ([97, 97, 49, 57] : List UInt8)) = false := beq_eq_false_iff_ne.mpr c2
    have c2b1 : (t104.toList != ([97, 97, 49, 57] : List UInt8)) = true := bne_iff_ne.mpr c2
    obtain rfl := Option.some.inj H
    go_enter Tryd.func9, Tryd.ntmps9
    go_wp2_with (first | ((with_reducible refine gate_dst (N := 1) rfl ?_); refine Kd.R_lit (Kd.int .i64) _ 3 ?hg (N := 1) ?hd (xs := ([0, 27, 35] : List Int)) (inner := [.int .i64 0, .int .i64 27, .int .i64 35]) (ok := fun _ => True) (okp := fun _ => True) ?hr ?hp (fun _ hk => hk) trivial (Below.refl _ _) (Nat.le_refl _) (by simp) ?_; (case hd => rfl); (case hg => rfl); (case hr => first | (go_simp; done) | (go_simp; rfl)); (case hp => exact (Reps.one (show Kd.M (Kd.int .i64) _ _ _ 0 [.int .i64 0] from rfl) (Reps.one (show Kd.M (Kd.int .i64) _ _ _ 27 [.int .i64 27] from rfl) (Reps.one (show Kd.M (Kd.int .i64) _ _ _ 35 [.int .i64 35] from rfl) (Reps.none _ _))))); intro v102 w59 ho60 hb hg_ hnew_; clear hg_ hnew_; (first | rw [← Ny101.out] at ho60 | (simp only [Int.reduceToNat] at ho60; rw [← Ny101.out] at ho60)); have n0_ := Aside0.mk (Kd.R_lower ho60 (below_size (by repeat (first | (with_reducible first | exact HB.out | apply below_alloc | apply pw_below_drewN | apply below_drew1) | exact HB.out)))); have n1_ := Aside0.mk (below_step (by repeat (first | (with_reducible first | exact HB.out | apply below_alloc | apply pw_below_drewN | apply below_drew1) | exact HB.out)) hb); clear HB; have HO103 := n0_; have HB := n1_; clear n0_ n1_; clear hb ho60; obtain ⟨Ao61, co61, eo61⟩ := Kd.R_slice HO103.out; subst eo61) | ((with_reducible refine gate_callee (f := 18) rfl ?_); refine goesL_ (some 2) rfl rfl Tryd.func18 (by kernel_rfl) rfl #[.string (⟨#[97, 88, 88, 88]⟩ : ByteArray), .slice Ao61 y101.length co61] rfl (by (try simp only [List.map_toArray, List.map_cons, List.map_nil]); first | done | rfl | (simp only [List.length_drop, List.length_take]; rfl)) ?_; (with_reducible refine (stencil_Make.calls (⟨#[97, 88, 88, 88]⟩ : ByteArray) _ _ y101 t104 _ ?side1 ?side2 A1.out).mono ?_); (case side1 => repeat (first | exact (Kd.R_reads' HO103.out).2.2 | (with_reducible refine Kd.C_alloc ?_ _) | (with_reducible refine Kd.C_drewN ?_ _) | (with_reducible refine Kd.C_drew ?_))); (case side2 => exact (Kd.R_reads' HO103.out).2.1); rintro e w62 ⟨rfl, hb⟩; refine ⟨_, rfl, ?_⟩; have n0_ := Aside0.mk (Kd.R_below (by (with_reducible repeat (first | apply Kd.R_alloc | apply Kd.R_drewN | apply Kd.R_drew)); exact HO103.out) hb); have n1_ := Aside0.mk (below_step (by repeat (first | (with_reducible first | exact HB.out | apply below_alloc | apply pw_below_drewN | apply below_drew1) | exact HB.out)) hb); clear HO103; clear HB; have HO103 := n0_; have HB := n1_; clear n0_ n1_; (try clear hb); (try clear hb2); (try clear hk); (try clear hi)))
    go_ret
    exact ⟨by first | rfl | (simp [errW_none, errW_some] <;> rfl) | (simp [*, errW_none, errW_some] <;> rfl), by repeat (first | (with_reducible first | exact HB.out | apply below_alloc | apply pw_below_drewN | apply below_drew1) | exact HB.out)⟩

/-! ### flagstoneref02_Count: function 11 -/
def flagstoneref02_Count.l0 : Nat → ByteArray → Int → Option (Int)
  | 0, _, _ => none
  | k + 1, x0, x3 => if x3 < (x0.size : Int) then (if 0 ≤ (wrap64 ((wrap64 ((x0.size : Int) - 1)) - x3)) then (if (wrap64 ((wrap64 ((x0.size : Int) - 1)) - x3)) < (x0.size : Int) then (if (bt x0 (wrap64 ((wrap64 ((x0.size : Int) - 1)) - x3))) = 88 then (flagstoneref02_Count.l0 k x0 (wrap64 (x3 + 1))) else (some x3)) else (none)) else (none)) else (some x3)
def flagstoneref02_Count.f (k : Nat) (a0 : ByteArray) : Option (Int) := flagstoneref02_Count.l0 k a0 0
theorem flagstoneref02_Count.mono_l : ∀ k, (∀ y0 y1, LeO (flagstoneref02_Count.l0 k y0 y1) (flagstoneref02_Count.l0 (k + 1) y0 y1))
  | 0 => fun _ _ r h => by simp [flagstoneref02_Count.l0] at h
  | k + 1 => by
    have ih0 := flagstoneref02_Count.mono_l k
    · intro y0 y1
      unfold flagstoneref02_Count.l0
      repeat' first
      | (with_reducible exact ih0 _ _)
      | (with_reducible exact LeO.refl _)
      | (with_reducible exact LeO.none _)
      | (with_reducible refine LeO.ite ?_ ?_)
      | (with_reducible refine LeO.bind ?_ (fun _ => ?_))
      | exact ih0 _ _
      | exact LeO.none _
      | refine LeO.ite ?_ ?_
      | refine LeO.bind ?_ (fun _ => ?_)
theorem flagstoneref02_Count.mono : ∀ a0 k, LeO (flagstoneref02_Count.f k a0) (flagstoneref02_Count.f (k + 1) a0) := by
  intro a0 k
  have ih0 := flagstoneref02_Count.mono_l k
  unfold flagstoneref02_Count.f
  repeat' first
      | (with_reducible exact ih0 _ _)
      | (with_reducible exact LeO.refl _)
      | (with_reducible exact LeO.none _)
      | (with_reducible refine LeO.ite ?_ ?_)
      | (with_reducible refine LeO.bind ?_ (fun _ => ?_))
      | exact ih0 _ _
      | exact LeO.none _
      | refine LeO.ite ?_ ?_
      | refine LeO.bind ?_ (fun _ => ?_)
set_option maxHeartbeats 8000000 in
set_option maxRecDepth 100000 in
theorem flagstoneref02_Count.calls (k : Nat) (a0 : ByteArray) (r : Int) (w : World) (h : flagstoneref02_Count.f k a0 = some r) :
    Calls Tryd.prog 11 #[.string a0] w fun e w' => e = .returned (.int .i64 r) ∧ Drawn0 w w' := by
  have H : (flagstoneref02_Count.l0 k a0 0) = some r := h
  clear h
  have H' := Aside0.mk H
  clear H
  go_enter Tryd.func11, Tryd.ntmps11
  go_wp2
  go_loopg [3] k (fun kq v3 w' => ∃ (x3_1 : Int), v3 = .int .i64 x3_1 ∧ Aside0 (flagstoneref02_Count.l0 kq a0 x3_1 = some r) ∧ Aside0 (kq ≤ k) ∧ Drawn0 w w')
  case atStart => exact ⟨(0), (by first | rfl | (simp; done) | (simp [*]; done)), H', ⟨Nat.le_refl _⟩, by repeat (first | exact Drawn0.refl _ | apply Drawn0.step)⟩
  case round =>
    clear H'
    try clear c1
    obtain ⟨x3_1, rfl, HA, HK1, ⟨m1, rfl⟩⟩ := hrel
    cases gk with
    | zero => exact absurd HA.out (by simp [flagstoneref02_Count.l0])
    | succ k1 =>
      have H := HA.out
      clear HA
      simp only [flagstoneref02_Count.l0] at H
      by_cases c2 : x3_1 < (a0.size : Int)
      · rw [if_pos c2] at H
        have c2b0 : decide (x3_1 < (a0.size : Int)) = true := decide_eq_true c2
        clear c2
        obtain ⟨ji3, hji3⟩ : ∃ j_ : Int, (wrap64 ((wrap64 ((a0.size : Int) - 1)) - x3_1)) = j_ := ⟨_, rfl⟩
        replace H : (if 0 ≤ (ji3) then (if (ji3) < (a0.size : Int) then (if (bt a0 (ji3)) = 88 then (flagstoneref02_Count.l0 k1 a0 (wrap64 (x3_1 + 1))) else (some x3_1)) else (none)) else (none)) = some r := by first | (rw [hji3] at H; exact H) | (simp only [hji3] at H ⊢; exact H)
        have hji3w : (IntKind.i64.wrap ((wrap64 ((a0.size : Int) - 1)) - x3_1)) = ji3 := (i64_w _).trans hji3
        by_cases c4 : 0 ≤ (ji3)
        · rw [if_pos c4] at H
          have c4b0 : decide (0 ≤ (ji3)) = true := decide_eq_true c4
          clear c4
          by_cases c5 : (ji3) < (a0.size : Int)
          · rw [if_pos c5] at H
            have c5b0 : decide ((ji3) < (a0.size : Int)) = true := decide_eq_true c5
            clear c5
            by_cases c7 : (bt a0 (ji3)) = 88
            · rw [if_pos c7] at H
              have c7b0 : ((bt a0 (ji3)) == 88) = true := beq_iff_eq.mpr c7
              have c7b1 : ((bt a0 (ji3)) != 88) = false := bne_eq_false_iff_eq.mpr c7
              clear c7
              have H' := Aside0.mk H
              clear H
              have p6 : 0 ≤ ((ji3) : Int) := of_decide_eq_true (by first | (with_reducible assumption) | assumption)
              have q6 : (ji3) < (a0.size : Int) := of_decide_eq_true (by first | (with_reducible assumption) | assumption)
              have hx6 := bt_at a0 (ji3)
              replace p6 := eq_true p6
              replace q6 := eq_true q6
              go_wp2
              go_roundg k1
              case measure => have := HK1.out; omega
              case rel => exact ⟨(wrap64 (x3_1 + 1)), (by first | rfl | (simp; done) | (simp [*]; done)), H', ⟨by have := HK1.out; omega⟩, by repeat (first | exact Drawn0.refl _ | apply Drawn0.step)⟩
            · rw [if_neg c7] at H
              have c7b0 : ((bt a0 (ji3)) == 88) = false := beq_eq_false_iff_ne.mpr c7
              have c7b1 : ((bt a0 (ji3)) != 88) = true := bne_iff_ne.mpr c7
              obtain rfl := Option.some.inj H
              have p6 : 0 ≤ ((ji3) : Int) := of_decide_eq_true (by first | (with_reducible assumption) | assumption)
              have q6 : (ji3) < (a0.size : Int) := of_decide_eq_true (by first | (with_reducible assumption) | assumption)
              have hx6 := bt_at a0 (ji3)
              replace p6 := eq_true p6
              replace q6 := eq_true q6
              go_wp2
              go_ret
              exact ⟨by first | rfl | (simp; done) | (simp only [← hji3] <;> (first | rfl | simp)) | (simp [*]; done), by repeat (first | exact Drawn0.refl _ | apply Drawn0.step)⟩
          · rw [if_neg c5] at H
            exact absurd H (by simp)
        · rw [if_neg c4] at H
          exact absurd H (by simp)
      · rw [if_neg c2] at H
        have c2b0 : decide (x3_1 < (a0.size : Int)) = false := decide_eq_false c2
        clear c2
        obtain rfl := Option.some.inj H
        go_wp2
        go_ret
        exact ⟨by first | rfl | (simp; done) | (simp [*]; done), by repeat (first | exact Drawn0.refl _ | apply Drawn0.step)⟩

/-! ### flagstoneref02_Check: function 13 -/
def flagstoneref02_Check.f (k : Nat) (a0 : ByteArray) : Option (Int) := (flagstoneref02_Count.f k a0).bind fun t111 => (if t111 < 3 then (some 1) else (some 0))
theorem flagstoneref02_Check.mono : ∀ a0 k, LeO (flagstoneref02_Check.f k a0) (flagstoneref02_Check.f (k + 1) a0) := by
  intro a0 k
  unfold flagstoneref02_Check.f
  repeat' first
      | (with_reducible exact flagstoneref02_Count.mono _ _)
      | (with_reducible exact LeO.refl _)
      | (with_reducible exact LeO.none _)
      | (with_reducible refine LeO.ite ?_ ?_)
      | (with_reducible refine LeO.bind ?_ (fun _ => ?_))
      | exact flagstoneref02_Count.mono _ _
      | exact LeO.none _
      | refine LeO.ite ?_ ?_
      | refine LeO.bind ?_ (fun _ => ?_)
set_option maxHeartbeats 8000000 in
set_option maxRecDepth 100000 in
theorem flagstoneref02_Check.calls (k : Nat) (a0 : ByteArray) (r : Int) (w : World) (h : flagstoneref02_Check.f k a0 = some r) :
    Calls Tryd.prog 13 #[.string a0] w fun e w' => e = .returned (.int .i64 r) ∧ Drawn0 w w' := by
  have H : ((flagstoneref02_Count.f k a0).bind fun t111 => (if t111 < 3 then (some 1) else (some 0))) = some r := h
  clear h
  replace H := Option.bind_eq_some_iff.mp H
  obtain ⟨t111, A20, H⟩ := H
  replace H : (if t111 < 3 then (some 1) else (some 0)) = some r := H
  have A2 := Aside0.mk A20
  clear A20
  by_cases c3 : t111 < 3
  · rw [if_pos c3] at H
    have c3b0 : decide (t111 < 3) = true := decide_eq_true c3
    clear c3
    obtain rfl := Option.some.inj H
    go_enter Tryd.func13, Tryd.ntmps13
    go_wp2_with (first | ((with_reducible refine gate_callee (f := 11) rfl ?_); refine goesL_ (some 4) rfl rfl Tryd.func11 (by kernel_rfl) rfl #[.string a0] rfl (by (try simp only [List.map_toArray, List.map_cons, List.map_nil]); first | done | rfl | (simp only [List.length_drop, List.length_take]; rfl)) ?_; (with_reducible refine (flagstoneref02_Count.calls k a0 t111 _ A2.out).mono ?_); rintro e w' ⟨rfl, ⟨nd, rfl⟩⟩; refine ⟨_, rfl, ?_⟩))
    go_ret
    exact ⟨by first | rfl | (simp; done) | (simp [*]; done), by repeat (first | exact Drawn0.refl _ | apply Drawn0.step)⟩
  · rw [if_neg c3] at H
    have c3b0 : decide (t111 < 3) = false := decide_eq_false c3
    clear c3
    obtain rfl := Option.some.inj H
    go_enter Tryd.func13, Tryd.ntmps13
    go_wp2_with (first | ((with_reducible refine gate_callee (f := 11) rfl ?_); refine goesL_ (some 4) rfl rfl Tryd.func11 (by kernel_rfl) rfl #[.string a0] rfl (by (try simp only [List.map_toArray, List.map_cons, List.map_nil]); first | done | rfl | (simp only [List.length_drop, List.length_take]; rfl)) ?_; (with_reducible refine (flagstoneref02_Count.calls k a0 t111 _ A2.out).mono ?_); rintro e w' ⟨rfl, ⟨nd, rfl⟩⟩; refine ⟨_, rfl, ?_⟩))
    go_ret
    exact ⟨by first | rfl | (simp; done) | (simp [*]; done), by repeat (first | exact Drawn0.refl _ | apply Drawn0.step)⟩

/-! ### flagstoneref02_Letter: function 15 -/
def flagstoneref02_Letter.f (a0 : Int) : Option (ByteArray) := if (Int.tmod a0 36) < 0 then (if 0 ≤ (wrap64 ((Int.tmod a0 36) + 36)) then (if (wrap64 ((Int.tmod a0 36) + 36)) ≤ (wrap64 ((wrap64 ((Int.tmod a0 36) + 36)) + 1)) then (if (wrap64 ((wrap64 ((Int.tmod a0 36) + 36)) + 1)) ≤ 36 then (some ((⟨#[97, 98, 99, 100, 101, 102, 103, 104, 105, 106, 107, 108, 109, 110, 111, 112, 113, 114, 115, 116, 117, 118, 119, 120, 121, 122, 48, 49, 50, 51, 52, 53, 54, 55, 56, 57]⟩ : ByteArray).extract ((wrap64 ((Int.tmod a0 36) + 36)) : Int).toNat ((wrap64 ((wrap64 ((Int.tmod a0 36) + 36)) + 1)) : Int).toNat)) else (none)) else (none)) else (none)) else (if 0 ≤ (Int.tmod a0 36) then (if (Int.tmod a0 36) ≤ (wrap64 ((Int.tmod a0 36) + 1)) then (if (wrap64 ((Int.tmod a0 36) + 1)) ≤ 36 then (some ((⟨#[97, 98, 99, 100, 101, 102, 103, 104, 105, 106, 107, 108, 109, 110, 111, 112, 113, 114, 115, 116, 117, 118, 119, 120, 121, 122, 48, 49, 50, 51, 52, 53, 54, 55, 56, 57]⟩ : ByteArray).extract ((Int.tmod a0 36) : Int).toNat ((wrap64 ((Int.tmod a0 36) + 1)) : Int).toNat)) else (none)) else (none)) else (none))
set_option maxHeartbeats 8000000 in
set_option maxRecDepth 100000 in
theorem flagstoneref02_Letter.calls (a0 : Int) (r : ByteArray) (w : World) (h : flagstoneref02_Letter.f a0 = some r) :
    Calls Tryd.prog 15 #[.int .i64 a0] w fun e w' => e = .returned (.string r) ∧ Drawn0 w w' := by
  have H : (if (Int.tmod a0 36) < 0 then (if 0 ≤ (wrap64 ((Int.tmod a0 36) + 36)) then (if (wrap64 ((Int.tmod a0 36) + 36)) ≤ (wrap64 ((wrap64 ((Int.tmod a0 36) + 36)) + 1)) then (if (wrap64 ((wrap64 ((Int.tmod a0 36) + 36)) + 1)) ≤ 36 then (some ((⟨#[97, 98, 99, 100, 101, 102, 103, 104, 105, 106, 107, 108, 109, 110, 111, 112, 113, 114, 115, 116, 117, 118, 119, 120, 121, 122, 48, 49, 50, 51, 52, 53, 54, 55, 56, 57]⟩ : ByteArray).extract ((wrap64 ((Int.tmod a0 36) + 36)) : Int).toNat ((wrap64 ((wrap64 ((Int.tmod a0 36) + 36)) + 1)) : Int).toNat)) else (none)) else (none)) else (none)) else (if 0 ≤ (Int.tmod a0 36) then (if (Int.tmod a0 36) ≤ (wrap64 ((Int.tmod a0 36) + 1)) then (if (wrap64 ((Int.tmod a0 36) + 1)) ≤ 36 then (some ((⟨#[97, 98, 99, 100, 101, 102, 103, 104, 105, 106, 107, 108, 109, 110, 111, 112, 113, 114, 115, 116, 117, 118, 119, 120, 121, 122, 48, 49, 50, 51, 52, 53, 54, 55, 56, 57]⟩ : ByteArray).extract ((Int.tmod a0 36) : Int).toNat ((wrap64 ((Int.tmod a0 36) + 1)) : Int).toNat)) else (none)) else (none)) else (none))) = some r := h
  clear h
  by_cases c2 : (Int.tmod a0 36) < 0
  · rw [if_pos c2] at H
    have c2b0 : decide ((Int.tmod a0 36) < 0) = true := decide_eq_true c2
    clear c2
    obtain ⟨ji3, hji3⟩ : ∃ j_ : Int, (wrap64 ((Int.tmod a0 36) + 36)) = j_ := ⟨_, rfl⟩
    replace H : (if 0 ≤ (ji3) then (if (ji3) ≤ (wrap64 ((ji3) + 1)) then (if (wrap64 ((ji3) + 1)) ≤ 36 then (some ((⟨#[97, 98, 99, 100, 101, 102, 103, 104, 105, 106, 107, 108, 109, 110, 111, 112, 113, 114, 115, 116, 117, 118, 119, 120, 121, 122, 48, 49, 50, 51, 52, 53, 54, 55, 56, 57]⟩ : ByteArray).extract ((ji3) : Int).toNat ((wrap64 ((ji3) + 1)) : Int).toNat)) else (none)) else (none)) else (none)) = some r := by first | (rw [hji3] at H; exact H) | (simp only [hji3] at H ⊢; exact H)
    have hji3w : (IntKind.i64.wrap ((Int.tmod a0 36) + 36)) = ji3 := (i64_w _).trans hji3
    by_cases c4 : 0 ≤ (ji3)
    · rw [if_pos c4] at H
      have c4b0 := eq_true c4
      have c4b1 : decide (0 ≤ (ji3)) = true := decide_eq_true c4
      clear c4
      by_cases c5 : (ji3) ≤ (wrap64 ((ji3) + 1))
      · rw [if_pos c5] at H
        have c5b0 := eq_true c5
        have c5b1 : decide ((ji3) ≤ (wrap64 ((ji3) + 1))) = true := decide_eq_true c5
        by_cases c6 : (wrap64 ((ji3) + 1)) ≤ 36
        · rw [if_pos c6] at H
          have c6b0 := eq_true c6
          have c6b1 : decide ((wrap64 ((ji3) + 1)) ≤ 36) = true := decide_eq_true c6
          obtain rfl := Option.some.inj H
          go_enter Tryd.func15, Tryd.ntmps15
          go_wp2
          go_ret
          exact ⟨by first | rfl | (simp; done) | (simp only [← hji3] <;> (first | rfl | simp)) | (simp [*]; done), by repeat (first | exact Drawn0.refl _ | apply Drawn0.step)⟩
        · rw [if_neg c6] at H
          exact absurd H (by simp)
      · rw [if_neg c5] at H
        exact absurd H (by simp)
    · rw [if_neg c4] at H
      exact absurd H (by simp)
  · rw [if_neg c2] at H
    have c2b0 : decide ((Int.tmod a0 36) < 0) = false := decide_eq_false c2
    clear c2
    obtain ⟨ji7, hji7⟩ : ∃ j_ : Int, (Int.tmod a0 36) = j_ := ⟨_, rfl⟩
    replace H : (if 0 ≤ (ji7) then (if (ji7) ≤ (wrap64 ((ji7) + 1)) then (if (wrap64 ((ji7) + 1)) ≤ 36 then (some ((⟨#[97, 98, 99, 100, 101, 102, 103, 104, 105, 106, 107, 108, 109, 110, 111, 112, 113, 114, 115, 116, 117, 118, 119, 120, 121, 122, 48, 49, 50, 51, 52, 53, 54, 55, 56, 57]⟩ : ByteArray).extract ((ji7) : Int).toNat ((wrap64 ((ji7) + 1)) : Int).toNat)) else (none)) else (none)) else (none)) = some r := by first | (rw [hji7] at H; exact H) | (simp only [hji7] at H ⊢; exact H)
    (try rw [hji7] at c2b0)
    by_cases c8 : 0 ≤ (ji7)
    · rw [if_pos c8] at H
      have c8b0 := eq_true c8
      have c8b1 : decide (0 ≤ (ji7)) = true := decide_eq_true c8
      clear c8
      by_cases c9 : (ji7) ≤ (wrap64 ((ji7) + 1))
      · rw [if_pos c9] at H
        have c9b0 := eq_true c9
        have c9b1 : decide ((ji7) ≤ (wrap64 ((ji7) + 1))) = true := decide_eq_true c9
        by_cases c10 : (wrap64 ((ji7) + 1)) ≤ 36
        · rw [if_pos c10] at H
          have c10b0 := eq_true c10
          have c10b1 : decide ((wrap64 ((ji7) + 1)) ≤ 36) = true := decide_eq_true c10
          obtain rfl := Option.some.inj H
          go_enter Tryd.func15, Tryd.ntmps15
          go_wp2
          go_ret
          exact ⟨by first | rfl | (simp; done) | (simp only [← hji7] <;> (first | rfl | simp)) | (simp [*]; done), by repeat (first | exact Drawn0.refl _ | apply Drawn0.step)⟩
        · rw [if_neg c10] at H
          exact absurd H (by simp)
      · rw [if_neg c9] at H
        exact absurd H (by simp)
    · rw [if_neg c8] at H
      exact absurd H (by simp)

/-! ### flagstoneref02_Fits: function 17 -/
mutual
def flagstoneref02_Fits.j0 : Nat → ByteArray → Int → Bool → Option (Bool)
  | 0, _, _, _ => none
  | k + 1, x1, x6, x29 => if x29 = true then (some false) else (flagstoneref02_Fits.l0 k x1 x6)
def flagstoneref02_Fits.l0 : Nat → ByteArray → Int → Option (Bool)
  | 0, _, _ => none
  | k + 1, x1, x7 => if x7 < (x1.size : Int) then (flagstoneref02_Fits.l1 k x1 x7 false 0) else (some true)
def flagstoneref02_Fits.l1 : Nat → ByteArray → Int → Bool → Int → Option (Bool)
  | 0, _, _, _, _ => none
  | k + 1, x1, x7, x8, x9 => if x9 < 36 then (if x8 = true then (flagstoneref02_Fits.l1 k x1 x7 true (wrap64 (x9 + 1))) else (if 0 ≤ x7 then (if x7 < (x1.size : Int) then (if 0 ≤ x9 then (flagstoneref02_Fits.l1 k x1 x7 ((bt x1 x7) == (bt (⟨#[97, 98, 99, 100, 101, 102, 103, 104, 105, 106, 107, 108, 109, 110, 111, 112, 113, 114, 115, 116, 117, 118, 119, 120, 121, 122, 48, 49, 50, 51, 52, 53, 54, 55, 56, 57]⟩ : ByteArray) x9)) (wrap64 (x9 + 1))) else (none)) else (none)) else (none))) else (if x8 = true then (flagstoneref02_Fits.l0 k x1 (wrap64 (x7 + 1))) else (some false))
end
def flagstoneref02_Fits.f (k : Nat) (a0 : ByteArray) (a1 : ByteArray) : Option (Bool) := (flagstoneref02_Count.f k a0).bind fun t112 => (if (a1.size : Int) = (a0.size : Int) then (if 0 ≤ (wrap64 ((a0.size : Int) - t112)) then (if (wrap64 ((a0.size : Int) - t112)) ≤ (a1.size : Int) then (if (wrap64 ((a0.size : Int) - t112)) ≤ (a0.size : Int) then (flagstoneref02_Fits.j0 k a1 (wrap64 ((a0.size : Int) - t112)) ((a1.extract 0 ((wrap64 ((a0.size : Int) - t112)) : Int).toNat).toList != (a0.extract 0 ((wrap64 ((a0.size : Int) - t112)) : Int).toNat).toList)) else (none)) else (none)) else (none)) else (flagstoneref02_Fits.j0 k a1 (wrap64 ((a0.size : Int) - t112)) true))
theorem flagstoneref02_Fits.mono_l : ∀ k, (∀ y0 y1 y2, LeO (flagstoneref02_Fits.j0 k y0 y1 y2) (flagstoneref02_Fits.j0 (k + 1) y0 y1 y2)) ∧ (∀ y0 y1, LeO (flagstoneref02_Fits.l0 k y0 y1) (flagstoneref02_Fits.l0 (k + 1) y0 y1)) ∧ (∀ y0 y1 y2 y3, LeO (flagstoneref02_Fits.l1 k y0 y1 y2 y3) (flagstoneref02_Fits.l1 (k + 1) y0 y1 y2 y3))
  | 0 => ⟨fun _ _ _ r h => by simp [flagstoneref02_Fits.j0] at h, fun _ _ r h => by simp [flagstoneref02_Fits.l0] at h, fun _ _ _ _ r h => by simp [flagstoneref02_Fits.l1] at h⟩
  | k + 1 => by
    obtain ⟨ih0, ih1, ih2⟩ := flagstoneref02_Fits.mono_l k
    refine ⟨?_, ?_, ?_⟩
    · intro y0 y1 y2
      unfold flagstoneref02_Fits.j0
      repeat' first
      | (with_reducible exact ih0 _ _ _)
      | (with_reducible exact ih1 _ _)
      | (with_reducible exact ih2 _ _ _ _)
      | (with_reducible exact flagstoneref02_Count.mono _ _)
      | (with_reducible exact LeO.refl _)
      | (with_reducible exact LeO.none _)
      | (with_reducible refine LeO.ite ?_ ?_)
      | (with_reducible refine LeO.bind ?_ (fun _ => ?_))
      | exact ih0 _ _ _
      | exact ih1 _ _
      | exact ih2 _ _ _ _
      | exact flagstoneref02_Count.mono _ _
      | exact LeO.none _
      | refine LeO.ite ?_ ?_
      | refine LeO.bind ?_ (fun _ => ?_)
    · intro y0 y1
      unfold flagstoneref02_Fits.l0
      repeat' first
      | (with_reducible exact ih0 _ _ _)
      | (with_reducible exact ih1 _ _)
      | (with_reducible exact ih2 _ _ _ _)
      | (with_reducible exact flagstoneref02_Count.mono _ _)
      | (with_reducible exact LeO.refl _)
      | (with_reducible exact LeO.none _)
      | (with_reducible refine LeO.ite ?_ ?_)
      | (with_reducible refine LeO.bind ?_ (fun _ => ?_))
      | exact ih0 _ _ _
      | exact ih1 _ _
      | exact ih2 _ _ _ _
      | exact flagstoneref02_Count.mono _ _
      | exact LeO.none _
      | refine LeO.ite ?_ ?_
      | refine LeO.bind ?_ (fun _ => ?_)
    · intro y0 y1 y2 y3
      unfold flagstoneref02_Fits.l1
      repeat' first
      | (with_reducible exact ih0 _ _ _)
      | (with_reducible exact ih1 _ _)
      | (with_reducible exact ih2 _ _ _ _)
      | (with_reducible exact flagstoneref02_Count.mono _ _)
      | (with_reducible exact LeO.refl _)
      | (with_reducible exact LeO.none _)
      | (with_reducible refine LeO.ite ?_ ?_)
      | (with_reducible refine LeO.bind ?_ (fun _ => ?_))
      | exact ih0 _ _ _
      | exact ih1 _ _
      | exact ih2 _ _ _ _
      | exact flagstoneref02_Count.mono _ _
      | exact LeO.none _
      | refine LeO.ite ?_ ?_
      | refine LeO.bind ?_ (fun _ => ?_)
theorem flagstoneref02_Fits.mono : ∀ a0 a1 k, LeO (flagstoneref02_Fits.f k a0 a1) (flagstoneref02_Fits.f (k + 1) a0 a1) := by
  intro a0 a1 k
  obtain ⟨ih0, ih1, ih2⟩ := flagstoneref02_Fits.mono_l k
  unfold flagstoneref02_Fits.f
  repeat' first
      | (with_reducible exact ih0 _ _ _)
      | (with_reducible exact ih1 _ _)
      | (with_reducible exact ih2 _ _ _ _)
      | (with_reducible exact flagstoneref02_Count.mono _ _)
      | (with_reducible exact LeO.refl _)
      | (with_reducible exact LeO.none _)
      | (with_reducible refine LeO.ite ?_ ?_)
      | (with_reducible refine LeO.bind ?_ (fun _ => ?_))
      | exact ih0 _ _ _
      | exact ih1 _ _
      | exact ih2 _ _ _ _
      | exact flagstoneref02_Count.mono _ _
      | exact LeO.none _
      | refine LeO.ite ?_ ?_
      | refine LeO.bind ?_ (fun _ => ?_)
set_option maxHeartbeats 8000000 in
set_option maxRecDepth 100000 in
theorem flagstoneref02_Fits.calls (k : Nat) (a0 : ByteArray) (a1 : ByteArray) (r : Bool) (w : World) (h : flagstoneref02_Fits.f k a0 a1 = some r) :
    Calls Tryd.prog 17 #[.string a0, .string a1] w fun e w' => e = .returned (.bool r) ∧ Drawn0 w w' := by
  have H : ((flagstoneref02_Count.f k a0).bind fun t112 => (if (a1.size : Int) = (a0.size : Int) then (if 0 ≤ (wrap64 ((a0.size : Int) - t112)) then (if (wrap64 ((a0.size : Int) - t112)) ≤ (a1.size : Int) then (if (wrap64 ((a0.size : Int) - t112)) ≤ (a0.size : Int) then (flagstoneref02_Fits.j0 k a1 (wrap64 ((a0.size : Int) - t112)) ((a1.extract 0 ((wrap64 ((a0.size : Int) - t112)) : Int).toNat).toList != (a0.extract 0 ((wrap64 ((a0.size : Int) - t112)) : Int).toNat).toList)) else (none)) else (none)) else (none)) else (flagstoneref02_Fits.j0 k a1 (wrap64 ((a0.size : Int) - t112)) true))) = some r := h
  clear h
  replace H := Option.bind_eq_some_iff.mp H
  obtain ⟨t112, A30, H⟩ := H
  replace H : (if (a1.size : Int) = (a0.size : Int) then (if 0 ≤ (wrap64 ((a0.size : Int) - t112)) then (if (wrap64 ((a0.size : Int) - t112)) ≤ (a1.size : Int) then (if (wrap64 ((a0.size : Int) - t112)) ≤ (a0.size : Int) then (flagstoneref02_Fits.j0 k a1 (wrap64 ((a0.size : Int) - t112)) ((a1.extract 0 ((wrap64 ((a0.size : Int) - t112)) : Int).toNat).toList != (a0.extract 0 ((wrap64 ((a0.size : Int) - t112)) : Int).toNat).toList)) else (none)) else (none)) else (none)) else (flagstoneref02_Fits.j0 k a1 (wrap64 ((a0.size : Int) - t112)) true)) = some r := H
  have A3 := Aside0.mk A30
  clear A30
  have HC4 := Aside0.mk H
  clear H
  go_enter Tryd.func17, Tryd.ntmps17
  go_upto_region 3 with (first | (go_at_call 11; (with_reducible refine (flagstoneref02_Count.calls k a0 t112 _ A3.out).mono ?_); rintro e w' ⟨rfl, ⟨nd, rfl⟩⟩; (try first | exact ⟨rfl, _, World.drewN_drewN _ _ _⟩ | exact ⟨rfl, _, Eq.trans (World.drewN_drewN _ _ _) (congrArg (World.drewN _) (Nat.add_assoc _ _ _))⟩)))
  repeat (go_quiet (first | (go_at_call 11; (with_reducible refine (flagstoneref02_Count.calls k a0 t112 _ A3.out).mono ?_); rintro e w' ⟨rfl, ⟨nd, rfl⟩⟩; (try first | exact ⟨rfl, _, World.drewN_drewN _ _ _⟩ | exact ⟨rfl, _, Eq.trans (World.drewN_drewN _ _ _) (congrArg (World.drewN _) (Nat.add_assoc _ _ _))⟩))); go_upto_region 3 with (first | (go_at_call 11; (with_reducible refine (flagstoneref02_Count.calls k a0 t112 _ A3.out).mono ?_); rintro e w' ⟨rfl, ⟨nd, rfl⟩⟩; (try first | exact ⟨rfl, _, World.drewN_drewN _ _ _⟩ | exact ⟨rfl, _, Eq.trans (World.drewN_drewN _ _ _) (congrArg (World.drewN _) (Nat.add_assoc _ _ _))⟩))))
  (try simp only [Act.put, List.setIfInBounds_toArray, List.set_cons_zero, List.set_cons_succ])
  go_cut [29] (fun v29 wc => ∃ (kq : Nat) (x29_3 : Bool), v29 = .bool x29_3 ∧ Aside0 (flagstoneref02_Fits.j0 kq a1 (wrap64 ((a0.size : Int) - t112)) x29_3 = some r) ∧ Aside0 (kq ≤ k) ∧ Drawn0 w wc)
  case first =>
    have H := HC4.out
    clear HC4
    by_cases c5 : (a1.size : Int) = (a0.size : Int)
    · rw [if_pos c5] at H
      have c5b0 : ((a1.size : Int) == (a0.size : Int)) = true := beq_iff_eq.mpr c5
      have c5b1 : ((a1.size : Int) != (a0.size : Int)) = false := bne_eq_false_iff_eq.mpr c5
      have c5b2 : (a1.size == a0.size) = true := by first | simpa using c5 | (simp at c5 ⊢; omega)
      clear c5
      (first | rw [c5b0] | (simp only [i64_w, i32_w]; rw [c5b0]) | skip)
      obtain ⟨ji6, hji6⟩ : ∃ j_ : Int, (wrap64 ((a0.size : Int) - t112)) = j_ := ⟨_, rfl⟩
      replace H : (if 0 ≤ (ji6) then (if (ji6) ≤ (a1.size : Int) then (if (ji6) ≤ (a0.size : Int) then (flagstoneref02_Fits.j0 k a1 ji6 ((a1.extract 0 ((ji6) : Int).toNat).toList != (a0.extract 0 ((ji6) : Int).toNat).toList)) else (none)) else (none)) else (none)) = some r := by first | (rw [hji6] at H; exact H) | (simp only [hji6] at H ⊢; exact H)
      have hji6w : (IntKind.i64.wrap ((a0.size : Int) - t112)) = ji6 := (i64_w _).trans hji6
      by_cases c7 : 0 ≤ (ji6)
      · rw [if_pos c7] at H
        have c7b0 := eq_true c7
        have c7b1 : decide (0 ≤ (ji6)) = true := decide_eq_true c7
        clear c7
        by_cases c8 : (ji6) ≤ (a1.size : Int)
        · rw [if_pos c8] at H
          have c8b0 := eq_true c8
          have c8b1 : decide ((ji6) ≤ (a1.size : Int)) = true := decide_eq_true c8
          clear c8
          have c9b0 := eq_true (of_decide_eq_true (by first | (with_reducible assumption) | assumption) : 0 ≤ (ji6))
          by_cases c10 : (ji6) ≤ (a0.size : Int)
          · rw [if_pos c10] at H
            have c10b0 := eq_true c10
            have c10b1 : decide ((ji6) ≤ (a0.size : Int)) = true := decide_eq_true c10
            clear c10
            have H' := Aside0.mk H
            clear H
            go_wp2
            repeat (go_quiet (fail); try go_wp2)
            go_meet
            case rel => exact ⟨_, (((a1.extract 0 ((ji6) : Int).toNat).toList != (a0.extract 0 ((ji6) : Int).toNat).toList)), (by first | rfl | (simp; done) | (simp only [← hji6] <;> (first | rfl | simp)) | (simp [*]; done)), (by first | exact H' | (rw [hji6]; exact H')), ⟨by first | omega | exact Nat.le_refl _⟩, by repeat (first | exact Drawn0.refl _ | apply Drawn0.step)⟩
          · rw [if_neg c10] at H
            exact absurd H (by simp)
        · rw [if_neg c8] at H
          exact absurd H (by simp)
      · rw [if_neg c7] at H
        exact absurd H (by simp)
    · rw [if_neg c5] at H
      have c5b0 : ((a1.size : Int) == (a0.size : Int)) = false := beq_eq_false_iff_ne.mpr c5
      have c5b1 : ((a1.size : Int) != (a0.size : Int)) = true := bne_iff_ne.mpr c5
      have c5b2 : (a1.size == a0.size) = false := by first | simpa using c5 | (simp at c5 ⊢; omega)
      (first | rw [c5b0] | (simp only [i64_w, i32_w]; rw [c5b0]) | skip)
      have H' := Aside0.mk H
      clear H
      go_wp2
      repeat (go_quiet (fail); try go_wp2)
      go_meet
      case rel => exact ⟨_, (true), (by first | rfl | (simp; done) | (simp [*]; done)), (by first | exact H' | (rw [hji6]; exact H')), ⟨by first | omega | exact Nat.le_refl _⟩, by repeat (first | exact Drawn0.refl _ | apply Drawn0.step)⟩
  case rest =>
    clear HC4
    try clear c1
    try clear p2
    try clear c5
    try clear c5b0
    try clear c5b1
    try clear c5b2
    try clear p6
    try clear c7
    try clear c7b0
    try clear c7b1
    try clear c8
    try clear c8b0
    try clear c8b1
    try clear c9
    try clear c9b0
    try clear c10
    try clear c10b0
    try clear c10b1
    obtain ⟨kq, x29_3, rfl, HA, HJ3, ⟨mc3, rfl⟩⟩ := hcut
    cases kq with
    | zero => exact absurd HA.out (by simp [flagstoneref02_Fits.j0])
    | succ kj3 =>
      have H := HA.out
      clear HA
      simp only [flagstoneref02_Fits.j0] at H
      by_cases c11 : x29_3 = true
      · subst c11
        have H1 : (some false) = some r := by rw [if_pos rfl] at H; exact H
        clear H
        have H := H1
        clear H1
        obtain rfl := Option.some.inj H
        go_wp2
        repeat (go_quiet (fail); try go_wp2)
        go_ret
        exact ⟨by first | rfl | (simp; done) | (simp [*]; done), by repeat (first | exact Drawn0.refl _ | apply Drawn0.step)⟩
      · replace c11 := Bool.eq_false_iff.mpr c11
        subst c11
        have H1 : (flagstoneref02_Fits.l0 kj3 a1 (wrap64 ((a0.size : Int) - t112))) = some r := by rw [if_neg (show ¬ (false = true) by decide)] at H; exact H
        clear H
        have H := H1
        clear H1
        have H' := Aside0.mk H
        clear H
        go_wp2
        repeat (go_quiet (fail); try go_wp2)
        go_loopg [7] kj3 (fun kq v7 w' => ∃ (x7_2 : Int), v7 = .int .i64 x7_2 ∧ Aside0 (flagstoneref02_Fits.l0 kq a1 x7_2 = some r) ∧ Aside0 (kq ≤ kj3) ∧ Drawn0 w w')
        case atStart => exact ⟨((wrap64 ((a0.size : Int) - t112))), (by first | rfl | (simp; done) | (simp [*]; done)), H', ⟨Nat.le_refl _⟩, by repeat (first | exact Drawn0.refl _ | apply Drawn0.step)⟩
        case round =>
          clear H'
          try clear c1
          try clear p2
          try clear c3
          try clear c5
          try clear c5b0
          try clear c5b1
          try clear c5b2
          try clear p6
          try clear c7
          try clear c7b0
          try clear c7b1
          try clear c8
          try clear c8b0
          try clear c8b1
          try clear c9
          try clear c9b0
          try clear c10
          try clear c10b0
          try clear c10b1
          try clear c11
          try clear p2
          try clear p6
          obtain ⟨x7_2, rfl, HA, HK2, ⟨m2, rfl⟩⟩ := hrel
          cases gk with
          | zero => exact absurd HA.out (by simp [flagstoneref02_Fits.l0])
          | succ k2 =>
            have H := HA.out
            clear HA
            simp only [flagstoneref02_Fits.l0] at H
            by_cases c12 : x7_2 < (a1.size : Int)
            · rw [if_pos c12] at H
              have c12b0 : decide (x7_2 < (a1.size : Int)) = true := decide_eq_true c12
              clear c12
              have H' := Aside0.mk H
              clear H
              go_wp2
              repeat (go_quiet (fail); try go_wp2)
              go_loopg [8, 9] k2 (fun kq v8 v9 w' => ∃ (x8_3 : Bool) (x9_3 : Int), v8 = .bool x8_3 ∧ v9 = .int .i64 x9_3 ∧ Aside0 (flagstoneref02_Fits.l1 kq a1 x7_2 x8_3 x9_3 = some r) ∧ Aside0 (kq ≤ k2) ∧ Drawn0 w w')
              case atStart => exact ⟨(false), (0), (by first | rfl | (simp; done) | (simp [*]; done)), (by first | rfl | (simp; done) | (simp [*]; done)), H', ⟨Nat.le_refl _⟩, by repeat (first | exact Drawn0.refl _ | apply Drawn0.step)⟩
              case round =>
                clear H'
                try clear c1
                try clear p2
                try clear c3
                try clear c5
                try clear c5b0
                try clear c5b1
                try clear c5b2
                try clear p6
                try clear c7
                try clear c7b0
                try clear c7b1
                try clear c8
                try clear c8b0
                try clear c8b1
                try clear c9
                try clear c9b0
                try clear c10
                try clear c10b0
                try clear c10b1
                try clear c11
                try clear c12
                try clear c12b0
                try clear p2
                try clear p6
                obtain ⟨x8_3, x9_3, rfl, rfl, HA, HK3, ⟨m3, rfl⟩⟩ := hrel
                cases gk with
                | zero => exact absurd HA.out (by simp [flagstoneref02_Fits.l1])
                | succ k3 =>
                  have H := HA.out
                  clear HA
                  simp only [flagstoneref02_Fits.l1] at H
                  by_cases c13 : x9_3 < 36
                  · rw [if_pos c13] at H
                    have c13b0 : decide (x9_3 < 36) = true := decide_eq_true c13
                    clear c13
                    by_cases c14 : x8_3 = true
                    · subst c14
                      have H1 : (flagstoneref02_Fits.l1 k3 a1 x7_2 true (wrap64 (x9_3 + 1))) = some r := by rw [if_pos rfl] at H; exact H
                      clear H
                      have H := H1
                      clear H1
                      have H' := Aside0.mk H
                      clear H
                      go_wp2
                      repeat (go_quiet (fail); try go_wp2)
                      go_roundg k3
                      case measure => have := HJ3.out; have := HK2.out; have := HK3.out; omega
                      case rel => exact ⟨(true), (wrap64 (x9_3 + 1)), (by first | rfl | (simp; done) | (simp [*]; done)), (by first | rfl | (simp; done) | (simp [*]; done)), H', ⟨by have := HJ3.out; have := HK2.out; have := HK3.out; omega⟩, by repeat (first | exact Drawn0.refl _ | apply Drawn0.step)⟩
                    · replace c14 := Bool.eq_false_iff.mpr c14
                      subst c14
                      have H1 : (if 0 ≤ x7_2 then (if x7_2 < (a1.size : Int) then (if 0 ≤ x9_3 then (flagstoneref02_Fits.l1 k3 a1 x7_2 ((bt a1 x7_2) == (bt (⟨#[97, 98, 99, 100, 101, 102, 103, 104, 105, 106, 107, 108, 109, 110, 111, 112, 113, 114, 115, 116, 117, 118, 119, 120, 121, 122, 48, 49, 50, 51, 52, 53, 54, 55, 56, 57]⟩ : ByteArray) x9_3)) (wrap64 (x9_3 + 1))) else (none)) else (none)) else (none)) = some r := by rw [if_neg (show ¬ (false = true) by decide)] at H; exact H
                      clear H
                      have H := H1
                      clear H1
                      by_cases c15 : 0 ≤ x7_2
                      · rw [if_pos c15] at H
                        have c15b0 : decide (0 ≤ x7_2) = true := decide_eq_true c15
                        clear c15
                        by_cases c16 : x7_2 < (a1.size : Int)
                        · rw [if_pos c16] at H
                          have c16b0 : decide (x7_2 < (a1.size : Int)) = true := decide_eq_true c16
                          clear c16
                          by_cases c18 : 0 ≤ x9_3
                          · rw [if_pos c18] at H
                            have c18b0 : decide (0 ≤ x9_3) = true := decide_eq_true c18
                            clear c18
                            have H' := Aside0.mk H
                            clear H
                            have p17 : 0 ≤ (x7_2 : Int) := of_decide_eq_true (by first | (with_reducible assumption) | assumption)
                            have q17 : x7_2 < (a1.size : Int) := of_decide_eq_true (by first | (with_reducible assumption) | assumption)
                            have hx17 := bt_at a1 x7_2
                            replace p17 := eq_true p17
                            replace q17 := eq_true q17
                            have p19 : 0 ≤ (x9_3 : Int) := of_decide_eq_true (by first | (with_reducible assumption) | assumption)
                            have q19 : x9_3 < (36 : Int) := of_decide_eq_true (by first | (with_reducible assumption) | assumption)
                            have hx19 := bt_at (⟨#[97, 98, 99, 100, 101, 102, 103, 104, 105, 106, 107, 108, 109, 110, 111, 112, 113, 114, 115, 116, 117, 118, 119, 120, 121, 122, 48, 49, 50, 51, 52, 53, 54, 55, 56, 57]⟩ : ByteArray) x9_3
                            replace p19 := eq_true p19
                            replace q19 := eq_true q19
                            go_wp2
                            repeat (go_quiet (fail); try go_wp2)
                            go_roundg k3
                            case measure => have := HJ3.out; have := HK2.out; have := HK3.out; omega
                            case rel => exact ⟨(((bt a1 x7_2) == (bt (⟨#[97, 98, 99, 100, 101, 102, 103, 104, 105, 106, 107, 108, 109, 110, 111, 112, 113, 114, 115, 116, 117, 118, 119, 120, 121, 122, 48, 49, 50, 51, 52, 53, 54, 55, 56, 57]⟩ : ByteArray) x9_3))), (wrap64 (x9_3 + 1)), (by first | rfl | (simp; done) | (simp [*]; done)), (by first | rfl | (simp; done) | (simp [*]; done)), H', ⟨by have := HJ3.out; have := HK2.out; have := HK3.out; omega⟩, by repeat (first | exact Drawn0.refl _ | apply Drawn0.step)⟩
                          · rw [if_neg c18] at H
                            exact absurd H (by simp)
                        · rw [if_neg c16] at H
                          exact absurd H (by simp)
                      · rw [if_neg c15] at H
                        exact absurd H (by simp)
                  · rw [if_neg c13] at H
                    have c13b0 : decide (x9_3 < 36) = false := decide_eq_false c13
                    clear c13
                    by_cases c20 : x8_3 = true
                    · subst c20
                      have H1 : (flagstoneref02_Fits.l0 k3 a1 (wrap64 (x7_2 + 1))) = some r := by rw [if_pos rfl] at H; exact H
                      clear H
                      have H := H1
                      clear H1
                      have H' := Aside0.mk H
                      clear H
                      go_wp2
                      repeat (go_quiet (fail); try go_wp2)
                      go_roundg k3
                      case measure => have := HJ3.out; have := HK2.out; have := HK3.out; omega
                      case rel => exact ⟨(wrap64 (x7_2 + 1)), (by first | rfl | (simp; done) | (simp [*]; done)), H', ⟨by have := HJ3.out; have := HK2.out; have := HK3.out; omega⟩, by repeat (first | exact Drawn0.refl _ | apply Drawn0.step)⟩
                    · replace c20 := Bool.eq_false_iff.mpr c20
                      subst c20
                      have H1 : (some false) = some r := by rw [if_neg (show ¬ (false = true) by decide)] at H; exact H
                      clear H
                      have H := H1
                      clear H1
                      obtain rfl := Option.some.inj H
                      go_wp2
                      repeat (go_quiet (fail); try go_wp2)
                      go_ret
                      exact ⟨by first | rfl | (simp; done) | (simp [*]; done), by repeat (first | exact Drawn0.refl _ | apply Drawn0.step)⟩
            · rw [if_neg c12] at H
              have c12b0 : decide (x7_2 < (a1.size : Int)) = false := decide_eq_false c12
              clear c12
              obtain rfl := Option.some.inj H
              go_wp2
              repeat (go_quiet (fail); try go_wp2)
              go_ret
              exact ⟨by first | rfl | (simp; done) | (simp [*]; done), by repeat (first | exact Drawn0.refl _ | apply Drawn0.step)⟩

end Go.Proofs.YtoojgfhhmdohaaaDoor.PStencilTells
