/- The functions of package route, as the print wants them: what each answers ('.f'), and that the call does so ('.calls'). -/
import Derived.Test.YthagmakojbfmaaaDoorExtS
import Derived.Test.YthagmakojbfmaaaDoorWd
namespace Go.Proofs.YthagmakojbfmaaaDoor.Ext
open Go.RowKit Go.Proofs.YthagmakojbfmaaaDoorW.PrintWords
set_option linter.unusedVariables false
set_option linter.unusedSimpArgs false
def namesL (p : ByteArray) : List ByteArray := (partsL p).map (·.2)
def route_Split.f (a0 : ByteArray) : Option (List ByteArray × Bool × Bool) :=
 if a0.size ≤ 1000000000000 then some (namesL a0, Lib.hasPrefix a0.data.toList [47], Lib.hasSuffix a0.data.toList [47]) else none
theorem route_Split.calls (a0 : ByteArray) (r1 : List ByteArray) (r2 : Bool) (r3 : Bool) (w : World) (h : route_Split.f a0 = some (r1, r2, r3)) :
  Calls Tryd.prog 21 #[.string a0] w fun e w' => ∃ v0_ : Value, e = .returned (.tuple #[v0_, .bool r2, .bool r3]) ∧ Kd.R Kd.string 9 w' w.heap.size (fun _ => True) v0_ r1 ∧ Below w.heap.size w w' := by
 unfold route_Split.f at h
 split at h
 ·rename_i hs
  cases h
  refine (split_in a0 hs w).mono ?_
  rintro e w' ⟨v, rfl, h1, h2⟩
  refine ⟨v, rfl, Kd.R_of_own ?_ (fun _ _ => trivial), h2⟩
  unfold namesL
  rw [List.length_map]
  have he : encs Value.string ((partsL a0).map (·.2)) = strs (partsL a0) := by unfold strs encs; rw [List.map_map]; rfl
  rw [he]
  exact h1
 ·cases h
def route_Check.f (a0 : ByteArray) : Option Int := if a0.size ≤ 1000000000000 then some (checkB a0) else none
theorem route_Check.calls (a0 : ByteArray) (r : Int) (w : World) (h : route_Check.f a0 = some r) :
  Calls Tryd.prog 20 #[.string a0] w fun e w' => e = .returned (.int .i64 r) ∧ Below w.heap.size w w' := by
 unfold route_Check.f at h
 split at h
 ·rename_i hs
  replace h := Option.some.inj h
  subst h
  exact check_in a0 hs w
 ·cases h
end Go.Proofs.YthagmakojbfmaaaDoor.Ext
