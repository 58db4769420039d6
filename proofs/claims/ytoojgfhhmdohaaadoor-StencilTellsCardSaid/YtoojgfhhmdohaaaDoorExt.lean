/- The functions of package stencil, as the print wants them: what each answers ('.f'), and that the call does so ('.calls'). -/
import Derived.Test.YtoojgfhhmdohaaaDoorExtD
import Derived.Test.YtoojgfhhmdohaaaDoorWWords
namespace Go.Proofs.YtoojgfhhmdohaaaDoor.Ext
open Go.RowKit Go.Proofs.YtoojgfhhmdohaaaDoorW.PrintWords
set_option linter.unusedVariables false
set_option linter.unusedSimpArgs false

theorem reads_of {w : World} {A : Option Addr} {l : List Int} (h : Kd.C (Kd.int .i64) w A l.length l) : Reads w A l := by
  intro i hi
  have key : ∀ j : Nat, j < l.length → ∃ ad : Addr, A = some ad ∧ w.cell? (ad.add j) = some (.int .i64 (l.getD j 0)) := by
    intro j hj
    obtain ⟨ad, c, e, _, hK, hc⟩ := Kd.C_get h (0 : Int) (j : Int) (by omega) (by omega)
    have hK' : c = [.int .i64 (l.getD j 0)] := hK
    refine ⟨ad, e, ?_⟩
    have := hc 0 (.int .i64 (l.getD j 0)) (by rw [hK']; rfl)
    have e1 : (Kd.int .i64).sz = 1 := rfl
    rw [e1, Int.toNat_natCast, Nat.mul_one, Nat.add_zero] at this
    exact this
  obtain ⟨ad, e, h0⟩ := key 0 (by omega)
  obtain ⟨ad', e', h1⟩ := key i hi
  rw [e] at e'; cases e'
  obtain ⟨b, off, sp⟩ := ad
  have hsp : sp = none := by
    have h0' : w.cell? ⟨b, off, sp⟩ = some (.int .i64 (l.getD 0 0)) := h0
    unfold World.cell? at h0'
    split at h0'
    · cases sp with
      | none => rfl
      | some x => simp at h0'
    · cases h0'
  subst hsp
  have hadd : (⟨b, off, none⟩ : Addr).add i = ⟨b, off + i, none⟩ := by
    unfold Addr.add
    split
    · rename_i hz; subst hz; rfl
    · rfl
  rw [hadd] at h1
  refine ⟨b, off, e, ?_, h1⟩
  unfold World.cell? at h1
  split at h1
  · rename_i hh; exact heap_lt hh
  · cases h1

def stencil_Count.f (a0 : ByteArray) : Option Int := if a0.size ≤ 9223372036854775807 then some (blanks a0.data.toList : Int) else none
theorem stencil_Count.calls (a0 : ByteArray) (r : Int) (w : World) (h : stencil_Count.f a0 = some r) :
    Calls Tryd.prog 10 #[.string a0] w fun e w' => e = .returned (.int .i64 r) ∧ Below w.heap.size w w' := by
  unfold stencil_Count.f at h
  split at h
  · rename_i hs; cases h
    refine (count_calls a0 w hs).mono ?_
    rintro e w' ⟨rfl, rfl⟩
    exact ⟨rfl, Below.refl _ _⟩
  · cases h
def stencil_Check.f (a0 : ByteArray) : Option Int := if a0.size ≤ 9223372036854775807 then some (if blanks a0.data.toList < 3 then 1 else 0) else none
theorem stencil_Check.calls (a0 : ByteArray) (r : Int) (w : World) (h : stencil_Check.f a0 = some r) :
    Calls Tryd.prog 12 #[.string a0] w fun e w' => e = .returned (.int .i64 r) ∧ Below w.heap.size w w' := by
  unfold stencil_Check.f at h
  split at h
  · rename_i hs; cases h
    by_cases hb : blanks a0.data.toList < 3
    · rw [if_pos hb]
      refine (check_lo a0 w hs hb).mono ?_
      rintro e w' ⟨rfl, rfl⟩
      exact ⟨rfl, Below.refl _ _⟩
    · rw [if_neg hb]
      refine (check_hi a0 w hs hb).mono ?_
      rintro e w' ⟨rfl, rfl⟩
      exact ⟨rfl, Below.refl _ _⟩
  · cases h
def stencil_Letter.f (a0 : Int) : Option ByteArray := some ⟨#[let1 a0]⟩
theorem stencil_Letter.calls (a0 : Int) (r : ByteArray) (w : World) (h : stencil_Letter.f a0 = some r) :
    Calls Tryd.prog 14 #[.int .i64 a0] w fun e w' => e = .returned (.string r) ∧ Below w.heap.size w w' := by
  cases h
  exact letterS_calls a0 w
def stencil_Fits.f (a0 a1 : ByteArray) : Option Bool := if a0.size ≤ 9223372036854775807 then some (fitsB a0.data.toList a1.data.toList) else none
theorem stencil_Fits.calls (a0 a1 : ByteArray) (r : Bool) (w : World) (h : stencil_Fits.f a0 a1 = some r) :
    Calls Tryd.prog 16 #[.string a0, .string a1] w fun e w' => e = .returned (.bool r) ∧ Below w.heap.size w w' := by
  unfold stencil_Fits.f at h
  split at h
  · rename_i hs; cases h
    unfold fitsB
    have ez : (a1.data.toList.length == a0.data.toList.length) = (a1.size == a0.size) := by simp
    rw [ez]
    rcases hc : (Lib.hasPrefix a1.data.toList (stemL a0.data.toList) && a1.size == a0.size) with _ | _
    · rw [Bool.false_and]
      exact fits_no a0 a1 w hs hc
    · rw [Bool.true_and]
      have hc' := hc
      simp only [Bool.and_eq_true, beq_iff_eq] at hc'
      exact fits_yes a0 a1 w hs hc'.1 hc'.2 _ rfl
  · cases h
def stencil_Make.f (a0 : ByteArray) (l1 : List Int) : Option ByteArray := if a0.size ≤ 35184372088832 ∧ l1.length ≤ 9223372036854775807 then some ⟨(makeL a0.data.toList l1).toArray⟩ else none
theorem stencil_Make.calls (a0 : ByteArray) (A1 : Option Addr) (c1 : Nat) (l1 : List Int) (r : ByteArray) (w : World) (hr1 : Kd.C (Kd.int .i64) w A1 l1.length l1) (hc1 : l1.length ≤ c1) (h : stencil_Make.f a0 l1 = some r) :
    Calls Tryd.prog 18 #[.string a0, .slice A1 l1.length c1] w fun e w' => e = .returned (.string r) ∧ Below w.heap.size w w' := by
  unfold stencil_Make.f at h
  split at h
  · rename_i hs; cases h
    exact make_calls a0 A1 c1 l1 w hs.1 hs.2 (reads_of hr1)
  · cases h
end Go.Proofs.YtoojgfhhmdohaaaDoor.Ext
