/- By Sx: a refusal's number. -/
import Derived.Test.YtpfbimkpcnnfkaaGreatDoorSyE
import Derived.Test.YtpfbimkpcnnfkaaGreatDoorSyJ
set_option maxRecDepth 100000
set_option linter.unusedVariables false
set_option linter.unusedSimpArgs false
namespace Go.Proofs.YtpfbimkpcnnfkaaGreatDoor.Sx
open Go Go.RowKit Go.Proofs.YtpfbimkpcnnfkaaGreatDoor Go.Proofs.YtpfbimkpcnnfkaaGreatDoor.Ext
def ErrR (u : Mem) (v : Value) (e : Int) : Prop := v = .iface 92 (.int .i64 e) ∨ ∃ l, JoinAt u v l ∧ (l ≠ [] ∧ l.length ≤ 2) ∧ ∀ x ∈ l, x = .iface 92 (.int .i64 e)
theorem ErrR.mono {u u' : Mem} {v : Value} {e : Int} (h : ErrR u v e) (hu : u.le u') : ErrR u' v e := h.imp id fun ⟨l, h1, h2, h3⟩ => ⟨l, h1.mono hu, h2, h3⟩
theorem ErrR.some {u : Mem} {v : Value} {e : Int} (h : ErrR u v e) : nilB v = false ∧ IsErr v := by
 rcases h with rfl | ⟨l, ⟨p, a, n, c, rfl, _⟩, _⟩
 ·exact ⟨rfl, .inr ⟨_, _, rfl⟩⟩
 ·exact ⟨rfl, .inr ⟨_, _, rfl⟩⟩
theorem asr.cv (ev : Value) (e : Int) (t : Nat) (u : Mem) (hg : EgM u) (h : ErrR u ev e) : CV Tryz.prog 117 [ev, .iface 174 (.pointer (some ⟨t, 0, none⟩))] [(t, [.int .i64 0])] u fun v cs u' => v = .bool true ∧ cs = [[.int .i64 e]] := by
 intro w hs hO _
 obtain ⟨hb, ho⟩ := hO (t, [.int .i64 0]) (List.mem_singleton.2 rfl)
 simp only at hb ho
 have hgw := hs _ _ _ hg
 have htc : w.cell? ⟨t, 0, none⟩ = some (.int .i64 0) := has_cell hb 0
 rcases h with rfl | ⟨l, ⟨p, a, n, c, rfl, hp, hn, hv⟩, ⟨hne, _⟩, hall⟩
 ·refine (asr_hit e ⟨t, 0, none⟩ _ w hgw htc (has_frozen hb 0)).mono ?_
  rintro e' w' ⟨rfl, rfl⟩
  exact ⟨_, _, _, rfl, post_of_gro hs ho (Gro.setCell (B := fun x => x = t) (((((Gro.refl _ w).alloc _).alloc _).alloc _).alloc _) (p := ⟨t, 0, none⟩) (.inl rfl) _) (has_set (has_alloc (has_alloc (has_alloc (has_alloc hb _) _) _) _) _), rfl, rfl⟩
 ·have hl := List.length_pos_iff.2 hne
  obtain ⟨x, hx⟩ : ∃ x, l[0]? = some x := ⟨_, List.getElem?_eq_getElem hl⟩
  obtain ⟨b, f, rfl, hr⟩ := hv 0 x hx
  have hr0 := hs _ _ _ (hr 0 x rfl)
  rw [hall x (List.mem_of_getElem? hx)] at hr0
  refine (asj_hit p e ⟨t, 0, none⟩ ⟨b, f, none⟩ n c _ w hgw htc (has_frozen hb 0) (hs _ _ _ hp) (by omega) hr0).mono ?_
  rintro e' w' ⟨rfl, rfl⟩
  exact ⟨_, _, _, rfl, post_of_gro hs ho (Gro.setCell (B := fun x => x = t) ((((((Gro.refl _ w).alloc _).alloc _).alloc _).alloc _).alloc _) (p := ⟨t, 0, none⟩) (.inl rfl) _) (has_set (has_alloc (has_alloc (has_alloc (has_alloc (has_alloc hb _) _) _) _) _) _), rfl, rfl⟩
theorem number.cv (ev : Value) (e : Int) (u : Mem) (hg : EgM u) (h : ErrR u ev e) : CV Tryz.prog 93 [ev] [] u fun v cs _ => cs = [] ∧ v = .int .i64 e := by
 refine cv_of names draws (fn := Tryz.f93) (b := bodyOf Tryz.f93) rfl rfl [] (number.args (ev, ())) (number.giv _) (fun _ => 0) (number.run _) (by kernel_rfl) rfl rfl ?_
 unfold number.T
 intro b1 hb1
 refine ⟨fun _ => ?_, fun h => by cases h⟩
 show CC _ _ [ev, .iface 174 (.pointer (some ⟨b1, 0, none⟩))] true [(b1, [.int .i64 0])] u u _
 exact CV.mono (asr.cv ev e b1 u hg h) fun v cs u1 hu1 ⟨hv, hc⟩ => ⟨(true, ()), ((e, ()), ()), hv, hc, fun _ => ⟨rfl, rfl⟩, fun h => by cases h⟩
theorem no_.cv (e : Int) (u : Mem) : CV Tryz.prog 84 [.int .i64 e] [] u fun v cs u' => cs = [] ∧ ((e = 0 ∧ v = .nilIface) ∨ (e ≠ 0 ∧ ErrR u' v e)) := by
 refine cv_of names draws (fn := Tryz.f84) (b := bodyOf Tryz.f84) rfl rfl [] (no_.args (e, ())) (no_.giv _) (fun _ => 0) (no_.run _) (by kernel_rfl) rfl rfl ?_
 unfold no_.T
 refine ⟨fun h => ?_, fun h => ?_⟩
 ·simp only [E.den, cT_eql] at h
  have h : e = 0 := h
  exact ⟨rfl, .inl ⟨h, rfl⟩⟩
 simp only [E.den, cF_eql] at h
 have h : ¬ e = 0 := h
 intro b1 hb1
 refine ⟨fun _ u1 hu1 hw => ?_, fun h => by cases h⟩
 have hw' := hw _ (List.mem_singleton.2 rfl)
 have hv : VsAt u1 (some ⟨b1, 0, none⟩) [.iface 92 (.int .i64 e)] := fun i x hx => by
  have hi : i = 0 := by have := (List.getElem?_eq_some_iff.1 hx).1; simp only [List.length_cons, List.length_nil] at this; omega
  subst hi
  simp only [List.getElem?_cons_zero, Option.some.injEq] at hx
  subst hx
  exact ⟨b1, 0, rfl, fun j v hj => by rw [show 0 + 0 + j = j by omega]; exact hw' j v hj⟩
 refine CV.mono (ejoin.cv (some ⟨b1, 0, none⟩) 1 [.iface 92 (.int .i64 e)] u1 hv (by simp) (fun x hx => by rw [List.mem_singleton.1 hx]; exact .inr ⟨_, _, rfl⟩)) fun v cs u2 hu2 ⟨hc, hj⟩ => ⟨(v, ()), (), rfl, hc, rfl, .inr ⟨h, ?_⟩⟩
 have hf : ([.iface 92 (.int .i64 e)] : List Value).filter someB = [.iface 92 (.int .i64 e)] := rfl
 rw [hf] at hj
 rcases hj with ⟨h1, _⟩ | ⟨_, h2⟩
 ·cases h1
 ·exact .inr ⟨_, h2, ⟨by simp, by simp⟩, fun x hx => List.mem_singleton.1 hx⟩
end Go.Proofs.YtpfbimkpcnnfkaaGreatDoor.Sx
