/- Sx: structs are compared . Nothing of the program. -/
import Derived.Test.YtpfbimkpcnnfkaaGreatDoorSx4
import Derived.Laws.StructEq
set_option linter.unusedVariables false
set_option linter.unusedSimpArgs false
namespace Go.Proofs.YtpfbimkpcnnfkaaGreatDoor.Sx
open Go Go.Proofs.YtpfbimkpcnnfkaaGreatDoor
theorem denL_at (bk : Nat → Nat) : ∀ (l : List (SV S.ty)) (i : Nat) (x : SV S.ty), l[i]? = some x → (denL bk l)[i]? = some (x.den bk)
 | [], i, x, h => by simp at h
 | y :: l, 0, x, h => by simp at h; subst h; rfl
 | y :: l, i + 1, x, h => by
  show (denL bk l)[i]? = _
  exact denL_at bk l i x (by simpa using h)
section
variable {P : Program} {w : World} {bk : Nat → Nat}
theorem eqOne_run {t : TypeId} {x y : SV S.ty} {e : E S.ty .B} (h : eqOne P t x y = some e) : (isAgg t).run P w = .ok false w ∧ ∀ d, (Op.equalIn (d + 1) t (x.den bk) (y.den bk)).run P w = .ok e.den w := by
 unfold eqOne at h
 split at h
 ·split at h
  ·rename_i hu
   split at h <;> cases h
   rename_i hk
   subst hk
   exact ⟨by simp [isAgg, Sem.run_bind, run_underlying hu], fun d => by simp [Op.equalIn, Sem.run_bind, run_underlying hu, SV.den, E.den, cmpI]⟩
  ·cases h
 ·split at h <;> cases h
  rename_i hu
  exact ⟨by simp [isAgg, Sem.run_bind, run_underlying hu], fun d => by simp [Op.equalIn, Sem.run_bind, run_underlying hu, SV.den, E.den]⟩
 ·split at h <;> cases h
  rename_i hu
  exact ⟨by simp [isAgg, Sem.run_bind, run_underlying hu], fun d => by simp [Op.equalIn, Sem.run_bind, run_underlying hu, SV.den, E.den, cmpT, beq_toListBytes]⟩
 ·cases h
theorem eqFs_run {l r : List (SV S.ty)} (d : Nat) : ∀ {fs : List Field} {e : E S.ty .B}, eqFs P l r fs = some e → (Op.eqFields (d + 1) (denL bk l).toArray (denL bk r).toArray fs).run P w = .ok e.den w
 | [], e, h => by cases h; rfl
 | f :: fs, e, h => by
  simp only [eqFs] at h
  split at h
  ·cases h
  ·rename_i hn
   split at h
   ·rename_i x y hx hy
    split at h
    ·rename_i a b ha hb
     cases h
     obtain ⟨q1, q2⟩ := eqOne_run (w := w) (bk := bk) ha
     have p1 : (part f.type (denL bk l).toArray f.offset).run P w = .ok (x.den bk) w := by
      simp [part, Sem.run_bind, q1, denL_at bk l _ _ hx]
     have p2 : (part f.type (denL bk r).toArray f.offset).run P w = .ok (y.den bk) w := by
      simp [part, Sem.run_bind, q1, denL_at bk r _ _ hy]
     have ih := eqFs_run d hb
     simp only [Op.eqFields, if_pos hn, Sem.run_bind, p1, p2, q2, Result.andThen_ok]
     cases hab : a.den <;> simp [E.den, hab, ih, Sem.run]
    ·cases h
   ·cases h
theorem structE_run {t : TypeId} {l r : List (SV S.ty)} {e : E S.ty .B} (h : structE P t l r = some e) : (∀ (o : BinOp) (cx cy : Operand), (eqGuard o t cx cy (.agg (denL bk l).toArray) (.agg (denL bk r).toArray)).run P w = .ok () w) ∧ (Op.equal t (.agg (denL bk l).toArray) (.agg (denL bk r).toArray)).run P w = .ok e.den w := by
 unfold structE at h
 split at h
 ·rename_i hc
  split at h
  ·rename_i fs hu
   have hf : P.fieldsOf t = fs := by unfold Program.fieldsOf; rw [hu]
   refine ⟨fun o cx cy => run_eqGuard_agg w o t cx cy _ _ hc.2, ?_⟩
   have := run_equalIn_struct w 9999 t (denL bk l).toArray (denL bk r).toArray (by rw [hf]; exact hu) hc.1
   rw [hf, eqFs_run 9998 h] at this
   exact this
  ·cases h
 ·cases h
end
end Go.Proofs.YtpfbimkpcnnfkaaGreatDoor.Sx
