/- Sx: what a symbolic state says of a frame and a world (Rep); values of operations. Nothing of the program. -/
import Derived.Test.YtpfbimkpcnnfkaaGreatDoorSx3
set_option linter.unusedVariables false
set_option linter.unusedSimpArgs false
namespace Go.Proofs.YtpfbimkpcnnfkaaGreatDoor.Sx
open Go Go.Proofs.YtpfbimkpcnnfkaaGreatDoor
theorem denL_eq (bk : Nat → Nat) : ∀ l : List (SV S.ty), denL bk l = l.map (SV.den bk)
 | [] => rfl
 | x :: r => by simp only [denL, List.map_cons, denL_eq bk r]
theorem denL_len (bk : Nat → Nat) (l : List (SV S.ty)) : (denL bk l).length = l.length := by rw [denL_eq, List.length_map]
theorem denL_app (bk : Nat → Nat) (l r : List (SV S.ty)) : denL bk (l ++ r) = denL bk l ++ denL bk r := by simp only [denL_eq, List.map_append]
theorem denL_take (bk : Nat → Nat) (l : List (SV S.ty)) (n : Nat) : denL bk (l.take n) = (denL bk l).take n := by simp only [denL_eq, List.map_take]
theorem denL_drop (bk : Nat → Nat) (l : List (SV S.ty)) (n : Nat) : denL bk (l.drop n) = (denL bk l).drop n := by simp only [denL_eq, List.map_drop]
theorem idsL_eq {V : S → Type} : ∀ l : List (SV V), idsL l = (l.map SV.ids).flatten
 | [] => rfl
 | x :: r => by simp only [idsL, List.map_cons, List.flatten_cons, idsL_eq r]
theorem mem_idsL {V : S → Type} {l : List (SV V)} {i : Nat} : i ∈ idsL l ↔ ∃ x ∈ l, i ∈ x.ids := by
 induction l with
 | nil => simp [idsL]
 | cons x r ih => simp [idsL, ih]
theorem idsL_app {V : S → Type} (l r : List (SV V)) : idsL (l ++ r) = idsL l ++ idsL r := by simp only [idsL_eq, List.map_append, List.flatten_append]
mutual
theorem den_congr {bk bk' : Nat → Nat} : ∀ (x : SV S.ty), (∀ i ∈ x.ids, bk i = bk' i) → x.den bk = x.den bk'
 | .i _ _, _ => rfl
 | .b _, _ => rfl
 | .t _, _ => rfl
 | .s _ _ _, _ => rfl
 | .v _, _ => rfl
 | .p x y, h => by simp only [SV.den]; rw [h x (by simp [SV.ids])]
 | .q _ _, _ => rfl
 | .os x o l c, h => by simp only [SV.den]; rw [h x (by simp [SV.ids])]
 | .agg l, h => by simp only [SV.den]; rw [denL_congr l (fun i hi => h i (by simpa [SV.ids] using hi))]
 | .tup l, h => by simp only [SV.den]; rw [denL_congr l (fun i hi => h i (by simpa [SV.ids] using hi))]
 | .ifc k x, h => by simp only [SV.den]; rw [den_congr x (fun i hi => h i (by simpa [SV.ids] using hi))]
 | .fn k l r, h => by simp only [SV.den]; rw [denL_congr l (fun i hi => h i (by simp [SV.ids, hi])), denL_congr r (fun i hi => h i (by simp [SV.ids, hi]))]
 | .lit _, _ => rfl
theorem denL_congr {bk bk' : Nat → Nat} : ∀ (l : List (SV S.ty)), (∀ i ∈ idsL l, bk i = bk' i) → denL bk l = denL bk' l
 | [], _ => rfl
 | x :: r, h => by simp only [denL]; rw [den_congr x (fun i hi => h i (by simp [idsL, hi])), denL_congr r (fun i hi => h i (by simp [idsL, hi]))]
end
theorem ofCell_den (bk : Nat → Nat) (v : Value) : (ofCell v : SV S.ty).den bk = v ∧ (ofCell v : SV S.ty).ids = [] := by
 unfold ofCell
 split <;> exact ⟨rfl, rfl⟩
theorem ofCells_den (bk : Nat → Nat) : ∀ l : List Value, denL bk (l.map ofCell) = l ∧ idsL (l.map ofCell : List (SV S.ty)) = []
 | [] => ⟨rfl, rfl⟩
 | v :: r => by simp only [List.map_cons, denL, idsL, (ofCells_den bk r).1, (ofCells_den bk r).2, (ofCell_den bk v).1, (ofCell_den bk v).2, List.append_nil, and_self]
theorem ofVal_den (bk : Nat → Nat) (v : Value) : (ofVal v : SV S.ty).den bk = v ∧ (ofVal v : SV S.ty).ids = [] := by
 unfold ofVal
 split
 ·exact ⟨by simp only [SV.den, (ofCells_den bk _).1], by simp only [SV.ids, (ofCells_den bk _).2]⟩
 ·exact ofCell_den bk _
theorem ofVal_cells (bk : Nat → Nat) (v : Value) : denL bk (ofVal v : SV S.ty).cells = v.cells.toList := by
 unfold ofVal
 split
 ·simp only [SV.cells, Value.cells, (ofCells_den bk _).1]
 ·rename_i hv
  have h1 : (ofCell v : SV S.ty).cells = [ofCell v] := by
   unfold ofCell; split <;> rfl
  rw [h1]
  simp only [denL, (ofCell_den bk _).1]
  cases v <;> simp_all [Value.cells]
theorem boxObs_ok (bk : Nat → Nat) {x : SV S.ty} {obs : List (Ob S.ty)} (h : boxObs x = some obs) (ho : ∀ p ∈ obs, p.den) : (x.den bk).cells = (denL bk x.cells).toArray := by
 cases x <;> simp_all [boxObs, SV.den, SV.cells, Value.cells, denL]
 ·rename_i e
  subst h
  have := ho (.one e) (by simp)
  simp only [Ob.den] at this
  generalize e.den = v at this
  cases v <;> simp_all [Value.oneCell', Value.cells]
 ·rename_i v
  cases v <;> simp_all [Value.oneCell', Value.cells]
theorem cells_ids (x : SV S.ty) : idsL x.cells = x.ids := by
 cases x <;> simp [SV.cells, SV.ids, idsL]
structure Ctx where
 w0 : World
 u0 : Mem
 giv : List Nat
 fx : Nat → Prop
 fv : Nat → Value
 fb : Nat → Prop
 fbv : Nat → Nat
 n : Nat
 base : Nat
 wr : Nat → Prop
def live (st : St S.ty) (i : Nat) : Prop := (st.blk i).isSome = true
structure EntOk (F : Nat → Prop) (st : St S.ty) (bk : Nat → Nat) (a : Act) (t : Nat) (e : Ent S.ty) : Prop where
 lab : e.w.den = true ↔ ∀ l ∈ e.lab, a.tmps.getD l.1 undef = .bool l.2
 yes : e.w.den = true → a.tmps.getD t undef = e.x.den bk
 no : e.w.den = false → a.tmps.getD t undef = undef
 live : e.w.den = true → ∀ i ∈ e.x.ids, live st i
 far : ∀ l ∈ e.lab, ¬ F l.1
structure OwnOk (c : Ctx) (st : St S.ty) (bk : Nat → Nat) (w : World) (u : Mem) (id : Nat) (o : Own S.ty) (cs : List (SV S.ty)) : Prop where
 has : Has w (bk id) (denL bk cs)
 out : ∀ o, u (bk id) o = none
 giv : (o.giv = true ∧ bk id ∈ c.giv) ∨ (o.giv = false ∧ c.w0.heap.size ≤ bk id ∧ bk id ∉ c.giv)
 live : ∀ i ∈ idsL cs, live st i
structure Rep (c : Ctx) (F : Nat → Prop) (st : St S.ty) (bk : Nat → Nat) (a : Act) (w : World) (u : Mem) : Prop where
 defers : a.defers = []
 size : a.tmps.size = st.tmps.length
 ent : ∀ t e, st.get t = some e → EntOk F st bk a t e
 own : ∀ id o cs, st.blk id = some o → o.cs = some cs → OwnOk c st bk w u id o cs
 apart : ∀ i j x y, st.cells i = some x → st.cells j = some y → i ≠ j → bk i ≠ bk j
 sees : Sees u w
 old : ∀ b o, u b o ≠ none → (c.u0 b o ≠ none ∨ (c.base ≤ b ∧ Plain w b)) ∧ (c.wr b ∨ c.w0.heap.size ≤ b)
 ngiv : ∀ b o, u b o ≠ none → b ∉ c.giv
 gro : Gro (fun k => k ∈ c.giv ∨ (c.base ≤ k ∧ c.wr k)) c.w0 w
 le : c.u0.le u
 lt : c.base ≤ c.w0.heap.size ∧ ∀ b ∈ c.giv, b < c.w0.heap.size
 fix : ∀ t, c.fx t → a.tmps.getD t undef = c.fv t
 fixb : ∀ i, c.fb i → bk i = c.fbv i ∧ live st i
 sz : a.tmps.size = c.n
section
variable {P : Program} {c : Ctx} {F : Nat → Prop} {st : St S.ty} {bk : Nat → Nat} {a : Act} {w : World} {u : Mem}
theorem get_put (st : St S.ty) (d : Nat) (e : Ent S.ty) (t : Nat) : (st.put (some d) e).get t = if t = d ∧ d < st.tmps.length then some e else st.get t := by
 simp only [St.get, St.put, List.getElem?_set]
 by_cases h : d = t
 ·subst h
  by_cases h1 : d < st.tmps.length
  ·simp [h1]
  ·simp [h1, List.getElem?_eq_none (Nat.le_of_not_lt h1)]
 ·have : ¬ t = d := fun e => h e.symm
  simp [h, this]
theorem blk_put (st : St S.ty) (d : Option Nat) (e : Ent S.ty) (i : Nat) : (st.put d e).blk i = st.blk i := by cases d <;> rfl
theorem cells_put (st : St S.ty) (d : Option Nat) (e : Ent S.ty) (i : Nat) : (st.put d e).cells i = st.cells i := by cases d <;> rfl
theorem live_put (st : St S.ty) (d : Option Nat) (e : Ent S.ty) (i : Nat) : live (st.put d e) i ↔ live st i := by cases d <;> rfl
theorem getD_put (a : Act) (d : Nat) (v : Value) (t : Nat) : (a.put (some d) v).tmps.getD t undef = if t = d ∧ d < a.tmps.size then v else a.tmps.getD t undef := by
 simp only [Act.put, Array.getD_eq_getD_getElem?, Array.getElem?_setIfInBounds]
 by_cases h : d = t
 ·subst h
  by_cases h1 : d < a.tmps.size
  ·simp [h1]
  ·simp [h1, Array.getElem?_eq_none (Nat.le_of_not_lt h1)]
 ·have : ¬ t = d := fun e => h e.symm
  simp [h, this]
theorem EntOk.mono {F F' : Nat → Prop} {t : Nat} {e : Ent S.ty} (hF : ∀ x, F' x → F x) (h : EntOk F st bk a t e) : EntOk F' st bk a t e := ⟨h.lab, h.yes, h.no, h.live, fun l hl hf => h.far l hl (hF _ hf)⟩
theorem Rep.mono {F F' : Nat → Prop} (hF : ∀ x, F' x → F x) (h : Rep c F st bk a w u) : Rep c F' st bk a w u :=
 ⟨h.defers, h.size, fun t e he => (h.ent t e he).mono hF, h.own, h.apart, h.sees, h.old, h.ngiv, h.gro, h.le, h.lt, h.fix, h.fixb, h.sz⟩
theorem Rep.put {d : Option Tmp} {e : Ent S.ty} {v : Value} (h : Rep c F st bk a w u) (hF : ∀ x, d = some x → F x) (hfx : ∀ x, d = some x → ¬ c.fx x)
  (hlab : e.w.den = true ↔ ∀ l ∈ e.lab, a.tmps.getD l.1 undef = .bool l.2) (hfar : ∀ l ∈ e.lab, ∀ x, d = some x → l.1 ≠ x) (hfar2 : ∀ l ∈ e.lab, ∀ x, F x → d ≠ some x → l.1 ≠ x)
  (hy : e.w.den = true → v = e.x.den bk) (hn : e.w.den = false → v = undef) (hl : e.w.den = true → ∀ i ∈ e.x.ids, live st i) :
  Rep c (fun x => F x ∧ d ≠ some x) (st.put d e) bk (a.put d v) w u := by
 cases d with
 | none => exact h.mono fun _ hx => hx.1
 | some d =>
  refine ⟨h.defers, by simp [Act.put, St.put, h.size], fun t e' he => ?_, fun id o cs ho hc => ?_, fun i j x y hx hy hij => h.apart i j x y hx hy hij, h.sees, h.old, h.ngiv, h.gro, h.le, h.lt, fun t ht => ?_, fun i hi => ⟨(h.fixb i hi).1, (live_put _ _ _ _).2 (h.fixb i hi).2⟩, by simp only [Act.put, Array.size_setIfInBounds]; exact h.sz⟩
  ·rw [get_put] at he
   have hgo : ∀ l : Nat × Bool, l.1 ≠ d → (a.put (some d) v).tmps.getD l.1 undef = a.tmps.getD l.1 undef := fun l hl => by rw [getD_put, if_neg (fun hh => hl hh.1)]
   split at he
   ·rename_i hc
    cases he
    have hv : (a.put (some d) v).tmps.getD t undef = v := by rw [getD_put, if_pos ⟨hc.1, by rw [h.size]; exact hc.2⟩]
    refine ⟨?_, fun hw => by rw [hv]; exact hy hw, fun hw => by rw [hv]; exact hn hw, fun hw i hi => (live_put _ _ _ _).2 (hl hw i hi), fun l hl hf => hfar2 l hl _ hf.1 hf.2 rfl⟩
    rw [hlab]
    exact ⟨fun hh l hl => by rw [hgo l (hfar l hl d rfl)]; exact hh l hl, fun hh l hl => by rw [← hgo l (hfar l hl d rfl)]; exact hh l hl⟩
   ·rename_i hc
    have ho := h.ent t e' he
    have hv : (a.put (some d) v).tmps.getD t undef = a.tmps.getD t undef := by rw [getD_put, if_neg (by rw [h.size]; exact hc)]
    have hd : ∀ l ∈ e'.lab, l.1 ≠ d := fun l hl hh => ho.far l hl (hh ▸ hF d rfl)
    refine ⟨?_, fun hw => by rw [hv]; exact ho.yes hw, fun hw => by rw [hv]; exact ho.no hw, fun hw i hi => (live_put _ _ _ _).2 (ho.live hw i hi), fun l hl hf => ho.far l hl hf.1⟩
    rw [ho.lab]
    exact ⟨fun hh l hl => by rw [hgo l (hd l hl)]; exact hh l hl, fun hh l hl => by rw [← hgo l (hd l hl)]; exact hh l hl⟩
  ·have := h.own id o cs ho hc
   exact ⟨this.has, this.out, this.giv, fun i hi => (live_put _ _ _ _).2 (this.live i hi)⟩
  ·have hne : ¬ (t = d ∧ d < a.tmps.size) := fun hh => hfx d rfl (hh.1 ▸ ht)
   rw [getD_put, if_neg hne]; exact h.fix t ht
def Labs (a : Act) (lab : List (Nat × Bool)) : Prop := ∀ l ∈ lab, a.tmps.getD l.1 undef = .bool l.2
theorem ev_ok (h : Rep c F st bk a w u) {lab : List (Nat × Bool)} (hl : Labs a lab) {x : Operand} {y : SV S.ty} (he : st.ev lab x = some y) : a.eval x = y.den bk ∧ ∀ i ∈ y.ids, live st i := by
 cases x with
 | tmp t =>
  simp only [St.ev] at he
  split at he
  ·rename_i e hg
   split at he
   ·rename_i hs
    cases he
    have ho := h.ent t e hg
    have hw : e.w.den = true := ho.lab.2 fun l hl' => hl l (by simpa using List.all_eq_true.1 hs l hl')
    exact ⟨ho.yes hw, ho.live hw⟩
   ·cases he
  ·cases he
 | const v =>
  simp only [St.ev, Option.some.injEq] at he
  subst he
  have := ofVal_den bk v
  exact ⟨this.1.symm, by rw [this.2]; simp⟩
 | func f =>
  simp only [St.ev, Option.some.injEq] at he
  subst he
  exact ⟨by simp [Act.eval, SV.den, denL], by simp [SV.ids, idsL]⟩
 | global g =>
  simp only [St.ev, Option.some.injEq] at he
  subst he
  exact ⟨by simp [Act.eval, SV.den, E.den, Addr.add], by simp [SV.ids]⟩
theorem evs_ok (h : Rep c F st bk a w u) {lab : List (Nat × Bool)} (hl : Labs a lab) : ∀ {xs : List Operand} {ys : List (SV S.ty)}, st.evs lab xs = some ys → xs.map a.eval = denL bk ys ∧ ∀ i ∈ idsL ys, live st i
 | [], ys, he => by simp only [St.evs, Option.some.injEq] at he; subst he; exact ⟨rfl, by simp [idsL]⟩
 | x :: r, ys, he => by
  simp only [St.evs] at he
  split at he
  ·rename_i y ys' h1 h2
   cases he
   have a1 := ev_ok h hl h1
   have a2 := evs_ok h hl h2
   refine ⟨by simp only [List.map_cons, denL, a1.1, a2.1], fun i hi => ?_⟩
   simp only [idsL, List.mem_append] at hi
   exact hi.elim (a1.2 i) (a2.2 i)
  ·cases he
theorem parts_ok (h : Rep c F st bk a w u) {lab : List (Nat × Bool)} (hl : Labs a lab) : ∀ {xs : List (Nat × Operand)} {ys : List (Nat × SV S.ty)}, st.parts lab xs = some ys →
  (xs.map fun p => (p.1, a.eval p.2)) = ys.map (fun p => (p.1, p.2.den bk)) ∧ ∀ p ∈ ys, ∀ i ∈ p.2.ids, live st i
 | [], ys, he => by simp only [St.parts, Option.some.injEq] at he; subst he; exact ⟨rfl, by simp⟩
 | (k, x) :: r, ys, he => by
  simp only [St.parts] at he
  split at he
  ·rename_i y ys' h1 h2
   cases he
   have a1 := ev_ok h hl h1
   have a2 := parts_ok h hl h2
   refine ⟨by simp only [List.map_cons, a1.1, a2.1], fun p hp => ?_⟩
   rcases List.mem_cons.1 hp with rfl | hp
   ·exact a1.2
   ·exact a2.2 p hp
  ·cases he
theorem run_sizeB {t : TypeId} {n : Nat} (h : sizeB P t = some n) (w : World) : (sizeOf t).run P w = .ok n w := by
 unfold sizeB at h
 split at h
 ·cases hi : P.info? t with
  | none => rw [hi] at h; cases h
  | some i => rw [hi] at h; simp at h; simp [sizeOf, typeInfo, hi, program, Sem.run, ← h, Sem.run_bind]
 ·cases h
theorem run_aggB {t : TypeId} {n : Nat} (h : sizeB P t = some n) (w : World) : (isAgg t).run P w = .ok (isAggB P t) w := by
 unfold sizeB at h
 split at h
 ·rename_i d hd
  unfold isAgg isAggB
  rw [Sem.run_bind, run_underlying hd w, hd]
  cases d <;> rfl
 ·cases h
theorem run_zeroB {t : TypeId} {z : Value} (h : (P.info? t).bind (·.zero) = some z) (w : World) : (zeroValue t).run P w = .ok z w := by
 cases hi : P.info? t with
 | none => rw [hi] at h; cases h
 | some i => rw [hi] at h; simp at h; simp [zeroValue, typeInfo, hi, program, Sem.run, h, Sem.run_bind]
theorem addr_add (b o j : Nat) : (⟨b, o, none⟩ : Addr).add j = ⟨b, o + j, none⟩ := by
 unfold Addr.add; by_cases h : j = 0 <;> simp [h]
theorem run_loadV {t : TypeId} {b o : Nat} {vs : List Value} {w : World} (hn : sizeB P t = some vs.length) (hc : ∀ j v, vs[j]? = some v → w.cell? ⟨b, o + j, none⟩ = some v) :
  (isAggB P t = true → (loadVar t ⟨b, o, none⟩).run P w = .ok (.agg vs.toArray) w) ∧ (isAggB P t = false → ∀ v, vs = [v] → (loadVar t ⟨b, o, none⟩).run P w = .ok v w) := by
 refine ⟨fun ha => ?_, fun ha v hv => ?_⟩
 ·have hl : (loadCells ⟨b, o, none⟩ vs.length).run P w = .ok vs.toArray w := run_loadCells_list (P := P) w ⟨b, o, none⟩ vs fun j v hv => by rw [addr_add]; exact hc j v hv
  simp [loadVar, Sem.run_bind, run_aggB hn, ha, run_sizeB hn, hl]
 ·subst hv
  have h0 := hc 0 v rfl
  simp only [Nat.add_zero] at h0
  simp [loadVar, Sem.run_bind, run_aggB hn, ha, load, Sem.run, h0]
theorem pack_ok {bk : Nat → Nat} {ag : Bool} {l : List (SV S.ty)} {x : SV S.ty} (h : pack ag l = some x) : (ag = true ∧ x = .agg l) ∨ (ag = false ∧ l = [x]) := by
 cases ag <;> simp only [pack, Bool.false_eq_true, if_true, if_false] at h
 ·split at h
  ·simp at h; subst h; exact .inr ⟨rfl, rfl⟩
  ·cases h
 ·simp at h; exact .inl ⟨rfl, h.symm⟩
theorem pack_ids {ag : Bool} {l : List (SV S.ty)} {x : SV S.ty} (h : pack ag l = some x) : ∀ i ∈ x.ids, i ∈ idsL l := by
 rcases pack_ok (bk := fun _ => 0) h with ⟨_, rfl⟩ | ⟨_, rfl⟩
 ·intro i hi; simpa [SV.ids] using hi
 ·intro i hi; simpa [idsL] using hi
theorem cut_ok {l r : List (SV S.ty)} {o n : Nat} (h : cut l o n = some r) : r = (l.drop o).take n ∧ o + n ≤ l.length := by
 unfold cut at h
 split at h
 ·rename_i hc; simp at h; exact ⟨h.symm, hc⟩
 ·cases h
theorem idsL_sub {l : List (SV S.ty)} {o n : Nat} : ∀ i ∈ idsL ((l.drop o).take n), i ∈ idsL l := by
 intro i hi
 obtain ⟨x, hx, h⟩ := mem_idsL.1 hi
 exact mem_idsL.2 ⟨x, List.mem_of_mem_drop (List.mem_of_mem_take hx), h⟩
theorem has_cell {b : Nat} {cs : List Value} (h : Has w b cs) (o : Nat) : w.cell? ⟨b, o, none⟩ = cs[o]? := by
 obtain ⟨t, h⟩ := h
 rw [cell_of_row w b o _ t _ h]
 simp
theorem has_plain {b : Nat} {cs : List Value} (h : Has w b cs) : Plain w b := by
 obtain ⟨t, h⟩ := h; exact ⟨_, t, h⟩
theorem Plain.frozen {b : Nat} (h : Plain w b) (o : Nat) : w.frozen? ⟨b, o, none⟩ = false := by
 obtain ⟨c, t, h⟩ := h
 simp [World.frozen?, h]
theorem has_frozen {b : Nat} {cs : List Value} (h : Has w b cs) (o : Nat) : w.frozen? ⟨b, o, none⟩ = false := by
 obtain ⟨t, h⟩ := h
 simp [World.frozen?, h]
end
end Go.Proofs.YtpfbimkpcnnfkaaGreatDoor.Sx
