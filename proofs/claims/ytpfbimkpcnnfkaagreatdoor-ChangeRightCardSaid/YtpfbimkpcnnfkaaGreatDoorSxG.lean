/- Sx: the head of a loop. Nothing of the program. -/
import Derived.Test.YtpfbimkpcnnfkaaGreatDoorSxD
import Derived.LoopN
/- Sx: a function's code, run: what its tree says holds of it. Nothing of the program. -/
/- Sx: regions in the order of the text. Nothing of the program. -/
set_option linter.unusedVariables false
set_option linter.unusedSimpArgs false
namespace Go.Proofs.YtpfbimkpcnnfkaaGreatDoor.Sx
open Go Go.RowKit Go.Proofs.YtpfbimkpcnnfkaaGreatDoor
section
variable {P : Program} {c : Ctx} {st : St S.ty} {bk : Nat → Nat} {a : Act} {w : World} {u : Mem} {K : St S.ty → (Nat → Nat) → Mem → Prop} {Q : Exit → Act → World → Prop} {ops : List Oper}
def Dst (l : List Oper) (t : Nat) : Prop := ∃ o ∈ l, o.dst = some t
theorem Op1.mono {o : Oper} {K K' : Act → World → Prop} (h : ∀ a w, K a w → K' a w) (hh : Op1 P ops o K Q a w) : Op1 P ops o K' Q a w := by
 unfold Op1 at *
 split
 ·rename_i hw; rw [if_pos hw] at hh; exact Oper.wp_mono h hh
 ·rename_i hw; rw [if_neg hw] at hh; exact h _ _ hh
theorem nodup_dst : ∀ {l : List Oper}, guardsB l = true → ∀ {i j : Nat} {x y : Oper} {t : Nat}, l[i]? = some x → l[j]? = some y → x.dst = some t → y.dst = some t → i = j := by
 intro l h
 have hn := nodupB_nodup h
 clear h
 induction l with
 | nil => intro i j x y t hi; simp at hi
 | cons o r ih =>
  intro i j x y t hi hj hx hy
  have hmem : ∀ (k : Nat) z, r[k]? = some z → z.dst = some t → t ∈ r.filterMap (·.dst) := fun k z hz hzt => List.mem_filterMap.2 ⟨z, List.mem_of_getElem? hz, hzt⟩
  have hn' : (r.filterMap (·.dst)).Nodup := by
   cases hd : o.dst with
   | none => simpa [hd] using hn
   | some d => simp [hd] at hn; exact hn.2
  have hcons : o.dst = some t → t ∉ r.filterMap (·.dst) := fun hd => by
   simp only [List.filterMap_cons, hd] at hn
   exact (List.nodup_cons.1 hn).1
  cases i with
  | zero =>
   cases j with
   | zero => rfl
   | succ j =>
    simp at hi hj; subst hi
    exact absurd (hmem j y hj hy) (hcons hx)
  | succ i =>
   cases j with
   | zero =>
    simp at hi hj; subst hj
    exact absurd (hmem i x hi hx) (hcons hy)
   | succ j =>
    simp at hi hj
    rw [ih hn' hi hj hx hy]
theorem backB_get : ∀ {k : Nat} {l : List Oper}, backB k l = true → ∀ {i : Nat} {o : Oper}, l[i]? = some o → ∀ e ∈ o.after, Region.binds .any e = true → e.on < k + i
 | k, [], _, i, o, h => by simp at h
 | k, x :: r, hb, i, o, h => by
  simp only [backB, Bool.and_eq_true] at hb
  intro e he hbind
  cases i with
  | zero =>
   simp at h; subst h
   have := Array.all_eq_true_iff_forall_mem.1 hb.1 e he
   simpa [hbind] using this
  | succ i =>
   have := backB_get hb.2 (i := i) (by simpa using h) e he hbind
   omega
theorem list_sound (hN : Names P) (hg : guardsB ops = true) (hfx : ∀ t, Dst ops t → ¬ c.fx t) (hbk : backB 0 ops = true) (hQ : ∀ a w, Nxt c (fun _ => False) K a w → Q .normal a w) :
  ∀ (r p : List Oper), ops = p ++ r → ∀ (a : Act) (w : World), Nxt c (Dst r) (fun st bk u => EVs P c.u0 ops (r.map (⟨[]⟩, ·)) st bk u K) a w → wpList P ops.toArray Q r a w
 | [], p, hp, a, w, ⟨st, bk, u, h, he⟩ => hQ a w ⟨st, bk, u, h.mono (fun _ h => h.elim), he⟩
 | o :: r, p, hp, a, w, ⟨st, bk, u, h, he⟩ => by
  have hi : ops[p.length]? = some o := by rw [hp]; simp
  have h1 := op_sound (Q := Q) hN h (fun t ht => ⟨o, by simp, ht⟩) (fun t ht => hfx t ⟨o, List.mem_of_getElem? hi, ht⟩) (fun e he hb t ht hF => by
   have hlt := backB_get hbk hi e he hb
   simp only [Nat.zero_add] at hlt
   obtain ⟨x, hx, hxt⟩ := Option.bind_eq_some_iff.1 ht
   obtain ⟨y, hy, hyt⟩ := hF
   obtain ⟨j, hj⟩ := List.getElem?_of_mem hy
   have hj' : ops[p.length + j]? = some y := by rw [hp, List.getElem?_append_right (by omega)]; simpa using hj
   have := nodup_dst hg hx hj' hxt hyt
   omega) he
  unfold wpList
  have h2 := Op1.mono (fun a w hh => list_sound hN hg hfx hbk hQ r (p ++ [o]) (by rw [hp]; simp) a w (by
   obtain ⟨st, bk, u, h, he⟩ := hh
   refine ⟨st, bk, u, h.mono fun t ht => ?_, he⟩
   obtain ⟨y, hy, hyt⟩ := ht
   refine ⟨⟨y, by simp [hy], hyt⟩, fun hot => ?_⟩
   obtain ⟨j, hj⟩ := List.getElem?_of_mem hy
   have hj' : ops[p.length + (j + 1)]? = some y := by rw [hp, List.getElem?_append_right (by omega)]; simpa using hj
   have := nodup_dst hg hi hj' hot hyt
   omega)) h1
  unfold Op1 at h2
  split
  ·rename_i hw; rw [if_pos hw] at h2; exact .inl h2
  ·rename_i hw; rw [if_neg hw] at h2; exact h2
theorem get_clear (st : St S.ty) (t : Nat) : st.clear.get t = match st.get t with | some e => if e.lab = [] then some e else none | none => none := by
 simp only [St.get, St.clear, List.getElem?_map]
 cases st.tmps[t]? with
 | none => rfl
 | some e => cases e <;> rfl
theorem Rep.clear {F : Nat → Prop} (h : Rep c F st bk a w u) : Rep c (fun _ => True) st.clear bk a w u := by
 refine ⟨h.defers, by simp [St.clear, h.size], fun t e he => ?_, fun id o cs ho hc => ⟨(h.own id o cs ho hc).has, (h.own id o cs ho hc).out, (h.own id o cs ho hc).giv, (h.own id o cs ho hc).live⟩, h.apart, h.sees, h.old, h.ngiv, h.gro, h.le, h.lt, h.fix, h.fixb, h.sz⟩
 rw [get_clear] at he
 split at he
 ·rename_i e' he'
  split at he <;> cases he
  rename_i hl
  have ho := h.ent t e he'
  exact ⟨ho.lab, ho.yes, ho.no, ho.live, fun l hl' => by rw [hl] at hl'; cases hl'⟩
 ·cases he
theorem Rep.open_ {F : Nat → Prop} (h : Rep c (fun _ => True) st bk a w u) : Rep c F st bk a w u := h.mono fun _ _ => trivial
theorem region_list (hN : Names P) {id : Nat} (hg : guardsB ops = true) (hfx : ∀ t, Dst ops t → ¬ c.fx t) {l : List (Flag × Oper)} (ho : order ops false = some l) (h : Rep c (fun _ => True) st bk a w u)
  (he : EVs P c.u0 ops l st bk u K) (hQ : ∀ a w, Nxt c (fun _ => False) K a w → Q .normal a w) : (Code.region id ops.toArray false).wp P Q a w := by
 unfold order at ho
 simp only [Bool.false_eq_true, if_false] at ho
 split at ho <;> cases ho
 rename_i hb
 exact wp_region_lit (list_sound hN hg hfx hb hQ ops [] rfl a w ⟨st, bk, u, h.open_, he⟩)
end
end Go.Proofs.YtpfbimkpcnnfkaaGreatDoor.Sx
set_option linter.unusedVariables false
set_option linter.unusedSimpArgs false
namespace Go.Proofs.YtpfbimkpcnnfkaaGreatDoor.Sx
open Go Go.RowKit Go.Proofs.YtpfbimkpcnnfkaaGreatDoor
section
variable {P : Program} {c : Ctx} {st : St S.ty} {bk : Nat → Nat} {a : Act} {w : World} {u : Mem}
def EX (P : Program) (fn : Func) (R : Ending → World → Prop) (J : Nat → Act → World → Prop) : List (It S.ty) → Exit → Act → World → Prop
 | [], e => bodyPost P fn R e
 | .code c :: r, e => match e with | .normal => fun a w => c.wp P (EX P fn R J r) a w | e => EX P fn R J r e
 | .blk id :: r, e => match e with | .exit i => if i = id then EX P fn R J r .normal else EX P fn R J r (.exit i) | e => EX P fn R J r e
 | .lp n _ _ _ _ _ _ :: r, e => match e with | .normal => J n | e => EX P fn R J r e
theorem allSome_map {α β : Type} {f : α → Option β} : ∀ {l : List α} {r : List β}, allSome (l.map f) = some r → r.length = l.length ∧ ∀ (j : Nat) x, l[j]? = some x → ∃ y, r[j]? = some y ∧ f x = some y
 | [], r, h => by simp [allSome] at h; subst h; exact ⟨rfl, fun j x hx => by simp at hx⟩
 | x :: l, r, h => by
  simp only [List.map_cons] at h
  cases hx : f x with
  | none => rw [hx] at h; simp [allSome] at h
  | some y =>
   rw [hx] at h
   simp only [allSome] at h
   split at h
   ·rename_i r' hr'
    cases h
    obtain ⟨h1, h2⟩ := allSome_map hr'
    refine ⟨by simp [h1], fun j z hz => ?_⟩
    cases j with
    | zero => simp at hz; subst hz; exact ⟨y, rfl, hx⟩
    | succ j => simpa using h2 j z (by simpa using hz)
   ·cases h
theorem slot_get {t : Nat} {x : SV S.ty} (h : st.slot t = some x) : ∃ e, st.get t = some e ∧ e.lab = [] ∧ e.x = x := by
 unfold St.slot at h
 split at h
 ·rename_i w y hg; cases h; exact ⟨_, hg, rfl, rfl⟩
 ·cases h
theorem slot_val {F : Nat → Prop} (h : Rep c F st bk a w u) {t : Nat} {x : SV S.ty} (hx : st.slot t = some x) : a.tmps.getD t undef = x.den bk ∧ ∀ i ∈ x.ids, live st i := by
 obtain ⟨e, h1, h2, rfl⟩ := slot_get hx
 have ho := h.ent t e h1
 have hw : e.w.den = true := ho.lab.2 (by rw [h2]; intro l hl; cases hl)
 exact ⟨ho.yes hw, ho.live hw⟩
theorem res_list (cf : Cfg) {F : Nat → Prop} (h : Rep c F st bk a w u) : ∀ (rs : List ResultVar) {l : List (SV S.ty)}, resultsOf cf st rs = some l →
  (rs.mapM (fun | .tmp t => pure (a.tmps.getD t undef) | .cell x t => do loadVar t (← asAddr (a.tmps.getD x undef)) : ResultVar → Sem Value)).run cf.P w = .ok (denL bk l) w
 | [], l, hl => by simp [resultsOf] at hl; subst hl; rfl
 | .tmp t :: r, l, hl => by
  simp only [resultsOf] at hl
  split at hl
  ·rename_i x l' h1 h2
   cases hl
   have := res_list cf h r h2
   rw [List.mapM_cons]
   simp only [Sem.run_bind, Sem.run_pure, Result.andThen_ok, this, (slot_val h h1).1, denL]
  ·cases hl
 | .cell x t :: r, l, hl => by
  simp only [resultsOf] at hl
  split at hl
  ·rename_i id off n l' h1 h2 h3
   split at hl
   ·rename_i y hy
    cases hl
    obtain ⟨cs, hcs, hb⟩ := Option.bind_eq_some_iff.1 hy
    obtain ⟨r', hcut, hpk⟩ := Option.bind_eq_some_iff.1 hb
    obtain ⟨ow, q1, q2⟩ := cells_own hcs
    have hok := h.own id ow cs q1 q2
    obtain ⟨hr1, hr2⟩ := cut_ok hcut
    have hlen : (denL bk r').length = n := by rw [denL_len, hr1]; simp; omega
    have hcell : ∀ j v, (denL bk r')[j]? = some v → w.cell? ⟨bk id, off + j, none⟩ = some v := by
     intro j v hv
     rw [has_cell hok.has]
     rw [hr1, denL_take, denL_drop, List.getElem?_take] at hv
     split at hv
     ·rwa [List.getElem?_drop] at hv
     ·cases hv
    have hrun := run_loadV (P := cf.P) (t := t) (vs := denL bk r') (by rw [hlen]; exact h2) hcell
    have hv := (slot_val h h1).1
    have ih := res_list cf h r h3
    rw [List.mapM_cons]
    have hA : ∀ p : Addr, (asAddr (.pointer (some p))).run cf.P w = .ok p w := fun _ => rfl
    simp only [Sem.run_bind, hv, SV.den, hA, Result.andThen_ok, denL]
    rcases pack_ok (bk := bk) hpk with ⟨ha, rfl⟩ | ⟨ha, hr3⟩
    ·simp only [hrun.1 ha, Result.andThen_ok, ih, Sem.run_pure, SV.den]
    ·simp only [hrun.2 ha (y.den bk) (by rw [hr3]; rfl), Result.andThen_ok, ih, Sem.run_pure]
   ·cases hl
  ·cases hl
theorem run_results (cf : Cfg) {F : Nat → Prop} (h : Rep c F st bk a w u) {l : List (SV S.ty)} (hl : resultsOf cf st cf.fn.results.toList = some l) :
  (results cf.fn a.tmps).run cf.P w = .ok ((oneSV l).den bk) w := by
 have := res_list cf h _ hl
 unfold results
 rw [Array.mapM_eq_mapM_toList]
 simp only [Sem.run_bind, Sem.run_map, Sem.run_pure]
 refine (congrArg (fun r : Result (List Value) => (r.andThen fun a w' => .ok a.toArray w').andThen fun vs w' => Result.ok (if h : vs.size = 1 then vs[0] else Value.tuple vs) w') this).trans ?_
 simp only [Result.andThen_ok]
 congr 1
 rcases l with _ | ⟨x, _ | ⟨y, r⟩⟩
 ·simp [denL, SV.den, oneSV]
 ·simp [denL, oneSV]
 ·simp [denL, SV.den, oneSV]
theorem finish_sound (cf : Cfg) {F : Nat → Prop} {R : Value → List (List Value) → Mem → Prop} {Ag : Nat → List Value → List (List Value) → Mem → Prop} (h : Rep c F st bk a w u) (O : List (Nat × List Value)) (hO : c.giv = O.map (·.1)) (hb : cf.giv.map bk = c.giv)
  (hh : Hold cf.P c.u0 R (finish cf st) bk u Ag) :
  bodyPost cf.P cf.fn (fun e w' => ∃ v cs u', e = .returned v ∧ PostG c.base c.wr O c.u0 c.w0 w' cs u' ∧ R v cs u') .ret a w := by
 unfold finish at hh
 split at hh
 ·rename_i l gs hl hgs
  dsimp only at hh
  generalize hids : ((st.close 40 (SV.ids (oneSV l) ++ (gs.map idsL).flatten) []).filter fun i => !cf.giv.contains i) = ids at hh
  split at hh
  ·rename_i hc
   have hpc : ∀ i ∈ ids, (st.cells i).isSome = true := by
    intro i hi
    rw [← hids] at hi
    exact close_cells 40 _ [] (by simp) i (List.mem_filter.1 hi).1
   have hmine := mine_spec hc.2
   obtain ⟨p1, p2, p3⟩ := pub_facts h hpc hmine
   simp only [Hold] at hh
   have hpn := nodupB_nodup hc.1
   have hR := pubTo_at hh (by have := bk_nodup h hpn hpc; rw [rows_map hpc, List.map_map]; exact this) (fun r hr o => by
    rw [rows_map hpc] at hr
    obtain ⟨i, hi, rfl⟩ := List.mem_map.1 hr
    obtain ⟨cs, hcs⟩ := Option.isSome_iff_exists.1 (hpc i hi)
    obtain ⟨ow, q1, q2⟩ := cells_own hcs
    exact (h.own i ow cs q1 q2).out o)
   obtain ⟨ga, gb⟩ := allSome_map hgs
   refine ⟨h.defers, _, run_results cf h hl, _, _, _, rfl, ⟨by rw [← hO]; exact h.gro, ?_, fun j b cs hb' hcs => ?_, p1, Mem.le_trans h.le (pub_le _), fun b o hn => ?_, fun b o hn => ?_⟩, hR⟩
   ·simp only [List.length_map]
    have := congrArg List.length hO
    rw [← hb] at this
    simp at this; omega
   ·rw [← hO, ← hb, List.getElem?_map] at hb'
    cases hj : cf.giv[j]? with
    | none => rw [hj] at hb'; cases hb'
    | some i =>
     rw [hj] at hb'; simp at hb'; subst hb'
     obtain ⟨g, hg1, hg2⟩ := gb j i hj
     rw [List.getElem?_map, hg1] at hcs
     simp at hcs; subst hcs
     obtain ⟨ow, q1, q2⟩ := cells_own hg2
     exact (h.own i ow g q1 q2).has
   ·obtain ⟨q1, q2⟩ := p2 b o hn
    rw [← hO]
    exact ⟨q1.2, q2⟩
   ·exact (p2 b o hn).1.1
  ·exact hh.elim
 ·exact hh.elim
end
end Go.Proofs.YtpfbimkpcnnfkaaGreatDoor.Sx
set_option linter.unusedVariables false
set_option linter.unusedSimpArgs false
namespace Go.Proofs.YtpfbimkpcnnfkaaGreatDoor.Sx
open Go Go.RowKit Go.Proofs.YtpfbimkpcnnfkaaGreatDoor
section
variable {P : Program} {c : Ctx} {st : St S.ty} {bk bk1 : Nat → Nat} {a : Act} {w : World} {u : Mem}
theorem get_dropT (dr : List Nat) : ∀ (k : Nat) (l : List (Option (Ent S.ty))) (t : Nat), ((dropT dr k l)[t]?).bind id = if dr.contains (k + t) then none else (l[t]?).bind id
 | k, [], t => by simp [dropT]
 | k, e :: r, 0 => by
  simp only [dropT, Nat.add_zero, List.getElem?_cons_zero, Option.bind_some, id]
 | k, e :: r, t + 1 => by
  simp only [dropT, List.getElem?_cons_succ]
  rw [get_dropT dr (k + 1) r t, show k + 1 + t = k + (t + 1) by omega]
theorem len_dropT (dr : List Nat) : ∀ (k : Nat) (l : List (Option (Ent S.ty))), (dropT dr k l).length = l.length
 | k, [] => rfl
 | k, e :: r => by simp only [dropT, List.length_cons, len_dropT dr (k + 1) r]
theorem get_setSlots : ∀ (sl : List Nat) (xs : List (SV S.ty)) (l : List (Option (Ent S.ty))), sl.Nodup → xs.length = sl.length → (∀ t ∈ sl, t < l.length) →
  (setSlots l sl xs).length = l.length ∧ (∀ t, t ∉ sl → (setSlots l sl xs)[t]? = l[t]?) ∧ ∀ (j : Nat) t, sl[j]? = some t → ∃ x, xs[j]? = some x ∧ (setSlots l sl xs)[t]? = some (some ⟨[], .b true, x⟩)
 | [], xs, l, _, _, _ => ⟨by cases xs <;> rfl, fun t _ => by cases xs <;> rfl, fun j t h => by simp at h⟩
 | s :: r, [], l, _, h, _ => by simp at h
 | s :: r, x :: xs, l, hn, hl, ht => by
  obtain ⟨h1, h2⟩ := List.nodup_cons.1 hn
  obtain ⟨a1, a2, a3⟩ := get_setSlots r xs (l.set s (some ⟨[], .b true, x⟩)) h2 (by simpa using hl) (fun t h => by simp; exact ht t (by simp [h]))
  refine ⟨by simp only [setSlots]; rw [a1]; simp, fun t hts => ?_, fun j t hj => ?_⟩
  ·simp only [List.mem_cons, not_or] at hts
   simp only [setSlots]
   rw [a2 t hts.2, List.getElem?_set_ne (fun e => hts.1 e.symm)]
  ·cases j with
   | zero =>
    simp at hj; subst hj
    refine ⟨x, rfl, ?_⟩
    simp only [setSlots]
    rw [a2 s h1, List.getElem?_set_self (ht s (by simp))]
   | succ j =>
    obtain ⟨y, h3, h4⟩ := a3 j t (by simpa using hj)
    exact ⟨y, by simpa using h3, h4⟩
theorem decodeK {k : CK} {x : SV S.ty} (h : kindOk k x = true) : ∃ y : k.Ty S.ty, ∀ bk' : Nat → Nat, (k.sv y).den bk' = x.den bk := by
 cases k <;> cases x <;> simp only [kindOk, Bool.false_eq_true, decide_eq_true_eq] at h
 case i.i k k' e => subst h; exact ⟨e.den, fun _ => rfl⟩
 case b.b e => exact ⟨e.den, fun _ => rfl⟩
 case t.t e => exact ⟨e.den, fun _ => rfl⟩
 case s.s A n cp => exact ⟨(A.den, n.den, cp.den), fun _ => rfl⟩
 case v.i k e => exact ⟨.int k e.den, fun _ => rfl⟩
 case v.b e => exact ⟨.bool e.den, fun _ => rfl⟩
 case v.t e => exact ⟨.string e.den, fun _ => rfl⟩
 case v.s A n cp => exact ⟨.slice A.den n.den cp.den, fun _ => rfl⟩
 case v.v e => exact ⟨e.den, fun _ => rfl⟩
 case v.p i o => exact ⟨.pointer (some ⟨bk i, o, none⟩), fun _ => rfl⟩
 case v.q A o => exact ⟨(SV.q A o).den bk, fun _ => rfl⟩
 case v.os i o l cp => exact ⟨(SV.os i o l cp).den bk, fun _ => rfl⟩
 case v.ifc t x => exact ⟨(SV.ifc t x).den bk, fun _ => rfl⟩
 case v.fn f l r => exact ⟨(SV.fn f l r).den bk, fun _ => rfl⟩
 case v.lit v => exact ⟨v, fun _ => rfl⟩
theorem decode : ∀ {ks : List CK} {xs : List (SV S.ty)}, kindsOk ks xs = true → ∃ y : Cells S.ty ks, (∀ bk' : Nat → Nat, denL bk' (cellsSV ks y) = denL bk xs) ∧ xs.length = ks.length
 | [], [], _ => ⟨(), fun _ => rfl, rfl⟩
 | [], x :: r, h => by simp [kindsOk] at h
 | k :: ks, [], h => by simp [kindsOk] at h
 | k :: ks, x :: xs, h => by
  simp only [kindsOk, Bool.and_eq_true] at h
  obtain ⟨y, hy⟩ := decodeK (bk := bk) h.1
  obtain ⟨ys, hys, hl⟩ := decode (ks := ks) h.2
  exact ⟨(y, ys), fun bk' => by simp only [cellsSV, denL, hy, hys], by simp [hl]⟩
theorem decodeL : ∀ {ks : List (List CK)} {xs : List (List (SV S.ty))}, kindsOkL ks xs = true → ∃ y : CellsL S.ty ks, (∀ bk' : Nat → Nat, denLL bk' ks y = xs.map (denL bk)) ∧ xs.length = ks.length
 | [], [], _ => ⟨(), fun _ => rfl, rfl⟩
 | [], x :: r, h => by simp [kindsOkL] at h
 | k :: ks, [], h => by simp [kindsOkL] at h
 | k :: ks, x :: xs, h => by
  simp only [kindsOkL, Bool.and_eq_true] at h
  obtain ⟨y, hy, _⟩ := decode (bk := bk) h.1
  obtain ⟨ys, hys, hl⟩ := decodeL (ks := ks) h.2
  exact ⟨(y, ys), fun bk' => by simp only [denLL, List.map_cons, hy, hys], by simp [hl]⟩
structure HeadOk (c : Ctx) (st : St S.ty) (bk : Nat → Nat) (dr owns : List Nat) (a : Act) (w : World) (u : Mem) : Prop where
 defers : a.defers = []
 size : a.tmps.size = st.tmps.length
 ent : ∀ t e, t ∉ dr → st.get t = some e → EntOk (fun _ => True) st bk a t e
 own : ∀ id o cs, id ∉ owns → st.blk id = some o → o.cs = some cs → OwnOk c st bk w u id o cs
 owns : ∀ id, id ∈ owns → ∃ o, st.blk id = some o ∧ (∀ x, u (bk id) x = none) ∧ ((o.giv = true ∧ bk id ∈ c.giv) ∨ (o.giv = false ∧ c.w0.heap.size ≤ bk id ∧ bk id ∉ c.giv))
 apart : ∀ i j x y, st.cells i = some x → st.cells j = some y → i ≠ j → bk i ≠ bk j
 sees : Sees u w
 old : ∀ b o, u b o ≠ none → (c.u0 b o ≠ none ∨ (c.base ≤ b ∧ Plain w b)) ∧ (c.wr b ∨ c.w0.heap.size ≤ b)
 ngiv : ∀ b o, u b o ≠ none → b ∉ c.giv
 gro : Gro (fun k => k ∈ c.giv ∨ (c.base ≤ k ∧ c.wr k)) c.w0 w
 le : c.u0.le u
 lt : c.base ≤ c.w0.heap.size ∧ ∀ b ∈ c.giv, b < c.w0.heap.size
 fix : ∀ t, c.fx t → a.tmps.getD t undef = c.fv t
 fixb : ∀ i, c.fb i → bk i = c.fbv i ∧ live st i
 sz : a.tmps.size = c.n
theorem head_live {dr slots owns : List Nat} {sk : List CK} {oks : List (List CK)} {x : Cells S.ty sk} {y : CellsL S.ty oks} (hon : owns.Nodup) (holen : oks.length = owns.length) (ho : ∀ i ∈ owns, ∃ o, st.blk i = some o) (i : Nat) (hi : live st i) :
  live (st.head dr slots owns sk oks x y) i := by
 obtain ⟨b1, b2⟩ := blk_fresh (fun _ => 0) owns oks y ⟨setSlots (dropT dr 0 st.tmps) slots (cellsSV sk x), st.own⟩ hon holen (fun i hi => by
  obtain ⟨o, ho⟩ := ho i hi; exact ⟨o, ho⟩)
 unfold live at *
 by_cases ho : i ∈ owns
 ·obtain ⟨j, hj⟩ := List.getElem?_of_mem ho
  obtain ⟨g, k, cs, h1, _⟩ := b2 j i hj
  unfold St.head
  rw [h1]; rfl
 ·unfold St.head
  rw [b1 i ho]; exact hi
theorem head_own {dr slots owns : List Nat} {sk : List CK} {oks : List (List CK)} {x : Cells S.ty sk} {y : CellsL S.ty oks} (hon : owns.Nodup) (holen : oks.length = owns.length) (ho : ∀ i ∈ owns, ∃ o, st.blk i = some o) (i : Nat) (hi : i ∉ owns) :
  (st.head dr slots owns sk oks x y).blk i = st.blk i := by
 obtain ⟨b1, b2⟩ := blk_fresh (fun _ => 0) owns oks y ⟨setSlots (dropT dr 0 st.tmps) slots (cellsSV sk x), st.own⟩ hon holen (fun i hi => by
  obtain ⟨o, ho⟩ := ho i hi; exact ⟨o, ho⟩)
 exact b1 i hi
theorem head_rep {dr slots owns : List Nat} {sk : List CK} {oks : List (List CK)} {x : Cells S.ty sk} {y : CellsL S.ty oks} (h : HeadOk c st bk dr owns a w u)
  (hsn : slots.Nodup) (hon : owns.Nodup) (hsl : ∀ t ∈ slots, t ∈ dr ∧ t < st.tmps.length) (hslen : sk.length = slots.length) (holen : oks.length = owns.length) (hoc : ∀ i ∈ owns, ∃ cs, st.cells i = some cs)
  (hx : ∀ (j : Nat) t, slots[j]? = some t → ∀ v, (denL bk (cellsSV sk x))[j]? = some v → a.tmps.getD t undef = v)
  (hy : ∀ (j : Nat) i, owns[j]? = some i → ∀ v, (denLL bk oks y)[j]? = some v → Has w (bk i) v) :
  Rep c (fun _ => True) (st.head dr slots owns sk oks x y) bk a w u := by
 obtain ⟨g1, g2, g3⟩ := get_setSlots slots (cellsSV sk x) (dropT dr 0 st.tmps) hsn (by rw [cellsSV_len]; exact hslen) (fun t ht => by rw [len_dropT]; exact (hsl t ht).2)
 obtain ⟨b1, b2⟩ := blk_fresh bk owns oks y ⟨setSlots (dropT dr 0 st.tmps) slots (cellsSV sk x), st.own⟩ hon holen (fun i hi => by
  obtain ⟨o, ho, _⟩ := h.owns i hi; exact ⟨o, ho⟩)
 have hget : ∀ t, (st.head dr slots owns sk oks x y).get t = ((setSlots (dropT dr 0 st.tmps) slots (cellsSV sk x))[t]?).bind id := fun t => (get_fresh owns oks y _ t).1
 have hlive : ∀ i, live st i → live (st.head dr slots owns sk oks x y) i := fun i hi => by
  unfold live at *
  by_cases ho : i ∈ owns
  ·obtain ⟨j, hj⟩ := List.getElem?_of_mem ho
   obtain ⟨g, k, cs, h1, _⟩ := b2 j i hj
   unfold St.head
   rw [h1]; rfl
  ·unfold St.head
   rw [b1 i ho]; exact hi
 have hfrom : ∀ i o cs, (st.head dr slots owns sk oks x y).blk i = some o → o.cs = some cs → (i ∉ owns ∧ st.blk i = some o) ∨ (i ∈ owns ∧ Has w (bk i) (denL bk cs) ∧ idsL cs = [] ∧ ∃ o', st.blk i = some o' ∧ o.giv = o'.giv) := by
  intro i o cs ho hc
  by_cases hi : i ∈ owns
  ·obtain ⟨j, hj⟩ := List.getElem?_of_mem hi
   obtain ⟨g, k, cs', h1, h2, h3, h4⟩ := b2 j i hj
   unfold St.head at ho
   rw [h1] at ho
   cases ho
   cases hc
   obtain ⟨o', ho', _⟩ := h.owns i hi
   exact .inr ⟨hi, hy j i hj _ h2, h3, o', ho', h4 o' ho'⟩
  ·unfold St.head at ho
   rw [b1 i hi] at ho
   exact .inl ⟨hi, ho⟩
 have hcells : ∀ i z, (st.head dr slots owns sk oks x y).cells i = some z → ∃ z', st.cells i = some z' := fun i z hz => by
  obtain ⟨o, h1, h2⟩ := cells_own hz
  rcases hfrom i o z h1 h2 with ⟨hi, hb⟩ | ⟨hi, _⟩
  ·exact ⟨z, by simp [St.cells, hb, h2]⟩
  ·exact hoc i hi
 refine ⟨h.defers, ?_, fun t e he => ?_, fun i o cs ho hc => ?_, fun i j x' y' hx' hy' hij => ?_, h.sees, h.old, h.ngiv, h.gro, h.le, h.lt, h.fix, fun i hi => ⟨(h.fixb i hi).1, hlive i (h.fixb i hi).2⟩, h.sz⟩
 ·unfold St.head
  rw [(get_fresh owns oks y _ 0).2]
  simp only
  rw [g1, len_dropT]; exact h.size
 ·rw [hget] at he
  by_cases ht : t ∈ slots
  ·obtain ⟨j, hj⟩ := List.getElem?_of_mem ht
   obtain ⟨z, h1, h2⟩ := g3 j t hj
   rw [h2] at he
   cases he
   have hv := hx j t hj (z.den bk) (by rw [denL_eq, List.getElem?_map, h1]; rfl)
   refine ⟨by simp [E.den], fun _ => hv, fun e => by simp [E.den] at e, fun _ i hi => ?_, by simp⟩
   have : i ∈ idsL (cellsSV sk x) := mem_idsL.2 ⟨z, List.mem_of_getElem? h1, hi⟩
   rw [cellsSV_ids] at this; cases this
  ·rw [g2 t ht, get_dropT, Nat.zero_add] at he
   split at he
   ·cases he
   ·rename_i hd
    have ho := h.ent t e (by simpa using hd) he
    exact ⟨ho.lab, ho.yes, ho.no, fun hw i hi => hlive i (ho.live hw i hi), ho.far⟩
 ·rcases hfrom i o cs ho hc with ⟨hi, hb⟩ | ⟨hi, h1, h2, o', h3, h4⟩
  ·have hok := h.own i o cs hi hb hc
   exact ⟨hok.has, hok.out, hok.giv, fun k hk => hlive k (hok.live k hk)⟩
  ·obtain ⟨o'', q1, q2, q3⟩ := h.owns i hi
   rw [h3] at q1; cases q1
   exact ⟨h1, q2, by rw [h4]; exact q3, by rw [h2]; simp⟩
 ·obtain ⟨x'', h1⟩ := hcells i x' hx'
  obtain ⟨y'', h2⟩ := hcells j y' hy'
  exact h.apart i j x'' y'' h1 h2 hij
end
end Go.Proofs.YtpfbimkpcnnfkaaGreatDoor.Sx
