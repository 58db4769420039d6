/- The functions of package route, as the print wants them: what each answers ('.f'), and that the call does so ('.calls'). -/
import Derived.Test.YtmjhlddlhicofaaDoorExtS
import Derived.Test.YtmjhlddlhicofaaDoorWWords
namespace Go.Proofs.YtmjhlddlhicofaaDoor.Ext
open Go.RowKit Go.Proofs.YtmjhlddlhicofaaDoorW.PrintWords
set_option linter.unusedVariables false
set_option linter.unusedSimpArgs false

def namesL (p : ByteArray) : List ByteArray := (partsL p).map (·.2)
def endsL (p : ByteArray) : List ByteArray := (partsL p).map fun x => p.extract 0 x.1

def route_Split.f (a0 : ByteArray) : Option (List ByteArray × Bool × Bool) :=
  if a0.size ≤ 1000000000000 then some (namesL a0, Lib.hasPrefix a0.data.toList [47], Lib.hasSuffix a0.data.toList [47]) else none
theorem route_Split.calls (a0 : ByteArray) (r1 : List ByteArray) (r2 : Bool) (r3 : Bool) (w : World) (h : route_Split.f a0 = some (r1, r2, r3)) :
    Calls Tryd.prog 15 #[.string a0] w fun e w' => ∃ v0_ : Value, e = .returned (.tuple #[v0_, .bool r2, .bool r3]) ∧ Kd.R Kd.string 9 w' w.heap.size (fun _ => True) v0_ r1 ∧ Below w.heap.size w w' := by
  unfold route_Split.f at h
  split at h
  · rename_i hs
    cases h
    refine (split_in a0 hs w).mono ?_
    rintro e w' ⟨v, rfl, h1, h2⟩
    refine ⟨v, rfl, Kd.R_of_own ?_ (fun _ _ => trivial), h2⟩
    unfold namesL
    rw [List.length_map]
    have he : encs Value.string ((partsL a0).map (·.2)) = strs (partsL a0) := by unfold strs encs; rw [List.map_map]; rfl
    rw [he]
    exact h1
  · cases h
def route_Ups.f (a0 : ByteArray) : Option (List ByteArray) := if a0.size ≤ 1000000000000 then some (endsL a0) else none
theorem route_Ups.calls (a0 : ByteArray) (r1 : List ByteArray) (w : World) (h : route_Ups.f a0 = some r1) :
    Calls Tryd.prog 17 #[.string a0] w fun e w' => ∃ v0_ : Value, e = .returned v0_ ∧ Kd.R Kd.string 9 w' w.heap.size (fun _ => True) v0_ r1 ∧ Below w.heap.size w w' := by
  unfold route_Ups.f at h
  split at h
  · rename_i hs
    replace h := Option.some.inj h
    subst h
    refine (ups_in a0 hs w).mono ?_
    rintro e w' ⟨v, rfl, h1, h2⟩
    refine ⟨v, rfl, Kd.R_of_own ?_ (fun _ _ => trivial), h2⟩
    unfold endsL
    rw [List.length_map]
    have he : encs Value.string ((partsL a0).map fun x => a0.extract 0 x.1) = ends a0 (partsL a0) := by unfold ends encs; rw [List.map_map]; rfl
    rw [he]
    exact h1
  · cases h
def route_Check.f (a0 : ByteArray) : Option Int := if a0.size ≤ 1000000000000 then some (checkB a0) else none
theorem route_Check.calls (a0 : ByteArray) (r : Int) (w : World) (h : route_Check.f a0 = some r) :
    Calls Tryd.prog 18 #[.string a0] w fun e w' => e = .returned (.int .i64 r) ∧ Below w.heap.size w w' := by
  unfold route_Check.f at h
  split at h
  · rename_i hs
    replace h := Option.some.inj h
    subst h
    exact check_in a0 hs w
  · cases h
def route_Base.f (a0 : ByteArray) : Option ByteArray := if a0.size ≤ 1000000000000 then some (baseB a0) else none
theorem route_Base.calls (a0 : ByteArray) (r : ByteArray) (w : World) (h : route_Base.f a0 = some r) :
    Calls Tryd.prog 9 #[.string a0] w fun e w' => e = .returned (.string r) ∧ Below w.heap.size w w' := by
  unfold route_Base.f at h
  split at h
  · rename_i hs
    replace h := Option.some.inj h
    subst h
    refine (base_calls a0 w (by omega)).mono ?_
    rintro e w' ⟨rfl, rfl⟩
    exact ⟨rfl, Below.refl _ _⟩
  · cases h
def route_Dir.f (a0 : ByteArray) : Option ByteArray := if a0.size ≤ 1000000000000 then some (dirB a0) else none
theorem route_Dir.calls (a0 : ByteArray) (r : ByteArray) (w : World) (h : route_Dir.f a0 = some r) :
    Calls Tryd.prog 11 #[.string a0] w fun e w' => e = .returned (.string r) ∧ Below w.heap.size w w' := by
  unfold route_Dir.f at h
  split at h
  · rename_i hs
    replace h := Option.some.inj h
    subst h
    exact dir_calls a0 w (by omega)
  · cases h
def route_Join.f (a0 a1 : ByteArray) : Option ByteArray := if a0.size ≤ 1000000000000 ∧ a1.size ≤ 1000000000000 then some (joinB a0 a1) else none
theorem route_Join.calls (a0 a1 : ByteArray) (r : ByteArray) (w : World) (h : route_Join.f a0 a1 = some r) :
    Calls Tryd.prog 13 #[.string a0, .string a1] w fun e w' => e = .returned (.string r) ∧ Below w.heap.size w w' := by
  unfold route_Join.f at h
  split at h
  · rename_i hs
    replace h := Option.some.inj h
    subst h
    refine (join_calls a0 a1 w (by omega) (by omega)).mono ?_
    rintro e w' ⟨rfl, rfl⟩
    exact ⟨rfl, Below.refl _ _⟩
  · cases h
end Go.Proofs.YtmjhlddlhicofaaDoor.Ext
