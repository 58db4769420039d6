/- Sx: regions that draw: joined. Nothing of the program. -/
import Derived.Test.YtpfbimkpcnnfkaaGreatDoorSxO
/- Sx: regions that draw: whatever order is drawn. Nothing of the program. -/
/- Sx: regions that draw: the law. Nothing of the program. -/
set_option linter.unusedVariables false
set_option linter.unusedSimpArgs false
namespace Go.Proofs.YtpfbimkpcnnfkaaGreatDoor.Sx
open Go Go.RowKit Go.Proofs.YtpfbimkpcnnfkaaGreatDoor
section
variable {P : Program} {c : Ctx} {st st' : St S.ty} {bk : Nat → Nat} {a : Act} {w : World} {u u0 : Mem} {K K' : St S.ty → (Nat → Nat) → Mem → Prop} {Q : Exit → Act → World → Prop} {ops : List Oper} {o y : Oper} {F : Nat → Prop}
def flagOf (ops : List Oper) (i : Nat) : Flag := ⟨ldsB ops i⟩
def evl (ops : List Oper) (L : List Nat) : List (Flag × Oper) := L.filterMap fun i => (ops[i]?).map (flagOf ops i, ·)
theorem evl_cons {i : Nat} {L : List Nat} (h : ops[i]? = some o) : evl ops (i :: L) = (flagOf ops i, o) :: evl ops L := by simp [evl, h]
theorem evl_app (L L' : List Nat) : evl ops (L ++ L') = evl ops L ++ evl ops L' := by simp [evl]
theorem EVs_app : ∀ (l l' : List (Flag × Oper)) (st : St S.ty) (bk : Nat → Nat) (u : Mem), EVs P u0 ops (l ++ l') st bk u K ↔ EVs P u0 ops l st bk u fun st bk u => EVs P u0 ops l' st bk u K
 | [], l', st, bk, u => Iff.rfl
 | (f, o) :: l, l', st, bk, u => by
  simp only [List.cons_append, EVs]
  exact ⟨EV.mono fun st bk u h => (EVs_app l l' st bk u).1 h, EV.mono fun st bk u h => (EVs_app l l' st bk u).2 h⟩
def DstI (ops : List Oper) (L : List Nat) (t : Nat) : Prop := ∃ i ∈ L, ∃ o, ops[i]? = some o ∧ o.dst = some t
theorem EVs_frame : ∀ (L : List Nat) (st : St S.ty) (bk : Nat → Nat) (u : Mem), EVs P u0 ops (evl ops L) st bk u K → EVs P u0 ops (evl ops L) st bk u fun st' bk' u' => K st' bk' u' ∧ (∀ t, ¬ DstI ops L t → st'.get t = st.get t)
 | [], st, bk, u, h => ⟨h, fun _ _ => rfl⟩
 | i :: L, st, bk, u, h => by
  cases ho : ops[i]? with
  | none =>
   have e : evl ops (i :: L) = evl ops L := by simp [evl, ho]
   rw [e] at h ⊢
   refine EVs.mono (fun st' bk' u' hh => ⟨hh.1, fun t ht => hh.2 t fun ⟨j, hj, hd⟩ => ht ⟨j, by simp [hj], hd⟩⟩) (EVs_frame L st bk u h)
  | some o =>
   rw [evl_cons ho] at h ⊢
   refine EV.mono (fun st1 bk1 u1 hh => ?_) (EV_frame h)
   refine EVs.mono (fun st' bk' u' h2 => ⟨h2.1, fun t ht => ?_⟩) (EVs_frame L st1 bk1 u1 hh.1)
   rw [h2.2 t fun ⟨j, hj, hd⟩ => ht ⟨j, by simp [hj], hd⟩]
   exact hh.2.1 t fun hd => ht ⟨i, by simp, o, ho, hd⟩
theorem EVs_put {d : Nat} {e : Ent S.ty} : ∀ (L : List Nat), (∀ i ∈ L, ∀ o, ops[i]? = some o → o.dst ≠ some d ∧ d ∉ o.looksAt ops.toArray ∧ (cls o = 1 → d ∉ ldsB ops i)) → ∀ (st : St S.ty) (bk : Nat → Nat) (u : Mem),
  EVs P u0 ops (evl ops L) st bk u (fun st' bk' u' => K (st'.put (some d) e) bk' u') → EVs P u0 ops (evl ops L) (st.put (some d) e) bk u K
 | [], _, st, bk, u, h => h
 | i :: L, hL, st, bk, u, h => by
  cases ho : ops[i]? with
  | none =>
   have e : evl ops (i :: L) = evl ops L := by simp [evl, ho]
   rw [e] at h ⊢
   exact EVs_put L (fun j hj => hL j (by simp [hj])) st bk u h
  | some o =>
   rw [evl_cons ho] at h ⊢
   obtain ⟨h1, h2, h3⟩ := hL i (by simp) o ho
   exact EV_put h1 h2 h3 (EV.mono (fun st1 bk1 u1 hh => EVs_put L (fun j hj => hL j (by simp [hj])) st1 bk1 u1 hh) h)
theorem EVs_new {d b : Nat} {ow : Own S.ty} {e : Ent S.ty} (how : ow.cs.isSome = true) : ∀ (L : List Nat), (∀ i ∈ L, ∀ o, ops[i]? = some o → o.dst ≠ some d ∧ d ∉ o.looksAt ops.toArray ∧ (cls o = 0 ∨ isBi o = true ∨ cls o = 2) ∧ (cls o = 1 → d ∉ ldsB ops i)) → ∀ (st : St S.ty) (bk : Nat → Nat) (u : Mem),
  Nam (· ≠ d) st → st.blk d = none → d < st.own.length → EVs P u0 ops (evl ops L) st bk u (fun st' bk' u' => (∀ o, u' b o = none) → K (st'.mk_ d ow e) (upd bk' d b) u') → (∀ o, u b o = none) → EVs P u0 ops (evl ops L) (st.mk_ d ow e) (upd bk d b) u K
 | [], _, st, bk, u, _, _, _, h, hb => h hb
 | i :: L, hL, st, bk, u, hn, hbl, hdl, h, hb => by
  cases ho : ops[i]? with
  | none =>
   have e : evl ops (i :: L) = evl ops L := by simp [evl, ho]
   rw [e] at h ⊢
   exact EVs_new how L (fun j hj => hL j (by simp [hj])) st bk u hn hbl hdl h hb
  | some o =>
   rw [evl_cons ho] at h ⊢
   obtain ⟨h1, h2, h3, h4⟩ := hL i (by simp) o ho
   refine EV_new hn hbl hdl h1 h2 h3 h4 how (EV.mono (fun st1 bk1 u1 hh hub => ?_) (EV_frame (EV_nam hn hbl h1 h))) hb
   obtain ⟨⟨q1, q2, q3⟩, _, q5, _⟩ := hh
   exact EVs_new how L (fun j hj => hL j (by simp [hj])) st1 bk1 u1 q2 q3 (by rw [q5]; exact hdl) q1 hub
theorem wr_cons {i : Nat} {r : List Nat} (h : wrB ops (i :: r) = true) : wrB ops r = true ∧ ∀ y t, ops[i]? = some y → ldAddr y = some t → ∀ k ∈ i :: r, ∀ z, ops[k]? = some z → z.dst ≠ some t := by
 simp only [wrB, Bool.and_eq_true] at h
 refine ⟨h.2, fun y t hy ht k hk z hz => ?_⟩
 have h1 := h.1
 simp only [hy, Option.bind_some, ht] at h1
 have := List.all_eq_true.1 h1 k hk
 simpa [hz] using this
theorem swaps : ∀ (L : List Nat) (fl : Flag) (M : List Tmp), wrB ops L = true → (∀ t ∈ M, t ∈ fl.lds) → (∀ t ∈ M, ¬ DstI ops L t) →
  (∀ i ∈ L, ∀ y, ops[i]? = some y → cls y = 0 ∧ Oper.apart ops.toArray y o = true ∧ Oper.apart ops.toArray o y = true ∧ (isLoad y = true → cls o = 0 ∨ (cls o = 1 ∧ ∃ t, ldAddr y = some t ∧ t ∈ fl.lds))) → ∀ (st : St S.ty) (bk : Nat → Nat) (u : Mem),
  EVs P u0 ops (evl ops L) st bk u (fun st bk u => EV P u0 ops fl o st bk u K) → EV P u0 ops ⟨M⟩ o st bk u fun st bk u => EVs P u0 ops (evl ops L) st bk u K
 | [], fl, M, _, hM, _, _, st, bk, u, h => EV_lds hM h
 | i :: L, fl, M, hw, hM, hD, hL, st, bk, u, h => by
  obtain ⟨hw1, hw2⟩ := wr_cons hw
  have hD' : ∀ t ∈ M, ¬ DstI ops L t := fun t ht ⟨j, hj, hd⟩ => hD t ht ⟨j, by simp [hj], hd⟩
  cases ho : ops[i]? with
  | none =>
   have e : evl ops (i :: L) = evl ops L := by simp [evl, ho]
   rw [e] at h ⊢
   exact swaps L fl M hw1 hM hD' (fun j hj => hL j (by simp [hj])) st bk u h
  | some y =>
   rw [evl_cons ho] at h ⊢
   obtain ⟨h1, h2, h3, h4⟩ := hL i (by simp) y ho
   have hyM : ∀ d, y.dst = some d → d ∉ M := fun d hd hm => hD d hm ⟨i, by simp, y, ho, hd⟩
   have hyt : ∀ t, ldAddr y = some t → y.dst ≠ some t := fun t ht => hw2 y t ho ht i (by simp) y ho
   by_cases hld : ∃ t, ldAddr y = some t ∧ t ∈ fl.lds
   ·obtain ⟨t, ht, htl⟩ := hld
    refine swap0 (fl := ⟨t :: M⟩) h1 h2 h3 (fun hl => ?_) (fun x hx => by simp [hx]) hyM hyt (EV.mono (fun st1 bk1 u1 hh => swaps L fl (t :: M) hw1 (fun x hx => ?_) (fun x hx => ?_) (fun j hj => hL j (by simp [hj])) st1 bk1 u1 hh) h)
    ·rcases h4 hl with h5 | ⟨h5, _⟩
     ·exact .inl h5
     ·exact .inr ⟨h5, t, ht, by simp⟩
    ·rcases List.mem_cons.1 hx with rfl | hx
     ·exact htl
     ·exact hM x hx
    ·rcases List.mem_cons.1 hx with rfl | hx
     ·exact fun ⟨j, hj, z, hz, hd⟩ => hw2 y x ho ht j (by simp [hj]) z hz hd
     ·exact hD' x hx
   ·refine swap0 (fl := ⟨M⟩) h1 h2 h3 (fun hl => ?_) (fun x hx => hx) hyM hyt (EV.mono (fun st1 bk1 u1 hh => swaps L fl M hw1 hM hD' (fun j hj => hL j (by simp [hj])) st1 bk1 u1 hh) h)
    rcases h4 hl with h5 | ⟨_, h6⟩
    ·exact .inl h5
    ·exact absurd h6 hld
structure Ord (ops : List Oper) (L : List Nat) : Prop where
 nodup : L.Nodup
 lt : ∀ i ∈ L, i < ops.length
 pairs : pairsB ops L = true
 topo : topoB ops L = true
 wr : wrB ops L = true
theorem pairs_get : ∀ {p : List Nat} {i : Nat} {q : List Nat}, pairsB ops (p ++ i :: q) = true → ∀ x ∈ p, ∀ ox oi, ops[x]? = some ox → ops[i]? = some oi → preB ops ops.length x i = true ∨ (swapB ops ox oi = true ∧ (isLoad ox = true → cls oi = 1 → ∃ t, ldAddr ox = some t ∧ t ∈ ldsB ops i) ∧ (cls ox = 1 → ∀ d, oi.dst = some d → d ∉ ldsB ops x))
 | [], i, q, _, x, hx, _, _, _, _ => by cases hx
 | z :: p, i, q, h, x, hx, ox, oi, h1, h2 => by
  simp only [List.cons_append, pairsB, Bool.and_eq_true] at h
  rcases List.mem_cons.1 hx with rfl | hx
  ·have := List.all_eq_true.1 h.1 i (by simp)
   simp only [h1, h2, Bool.or_eq_true, Bool.and_eq_true, Bool.not_eq_true'] at this
   rcases this with h3 | ⟨⟨h3, h4⟩, h5⟩
   ·exact .inl h3
   ·refine .inr ⟨h3, fun hl hs => ?_, fun hs d hd => ?_⟩
    ·rcases h4 with (h4 | h4) | h4
     ·rw [hl] at h4; cases h4
     ·exfalso; rw [hs] at h4; cases h4
     ·split at h4
      ·rename_i t ht; exact ⟨t, ht, by simpa using h4⟩
      ·cases h4
    ·rcases h5 with h5 | h5
     ·exfalso; rw [hs] at h5; cases h5
     ·rw [hd] at h5; simpa using h5
  ·exact pairs_get h.2 x hx ox oi h1 h2
theorem wr_tail {i : Nat} {r : List Nat} (h : wrB ops (i :: r) = true) : wrB ops r = true := (wr_cons h).1
theorem wr_pre : ∀ {p q : List Nat}, wrB ops (p ++ q) = true → wrB ops p = true
 | [], _, _ => rfl
 | z :: p, q, h => by
  simp only [List.cons_append, wrB, Bool.and_eq_true] at h ⊢
  refine ⟨?_, wr_pre h.2⟩
  have h1 := h.1
  split at h1
  ·rename_i t ht
   exact List.all_eq_true.2 fun k hk => List.all_eq_true.1 h1 k (by rcases List.mem_cons.1 hk with rfl | hk; exact List.mem_cons_self; exact List.mem_cons_of_mem _ (List.mem_append_left _ hk))
  ·rfl
theorem wr_del : ∀ {p : List Nat} {i : Nat} {q : List Nat}, wrB ops (p ++ i :: q) = true → wrB ops (p ++ q) = true
 | [], i, q, h => wr_tail h
 | z :: p, i, q, h => by
  simp only [List.cons_append, wrB, Bool.and_eq_true] at h ⊢
  refine ⟨?_, wr_del h.2⟩
  have h1 := h.1
  split at h1
  ·rename_i t ht
   refine List.all_eq_true.2 fun k hk => List.all_eq_true.1 h1 k ?_
   rcases List.mem_cons.1 hk with rfl | hk
   ·exact List.mem_cons_self
   ·refine List.mem_cons_of_mem _ ?_
    rcases List.mem_append.1 hk with hk | hk
    ·exact List.mem_append_left _ hk
    ·exact List.mem_append_right _ (List.mem_cons_of_mem _ hk)
  ·rfl
theorem topo_get : ∀ {p : List Nat} {i : Nat} {q : List Nat}, topoB ops (p ++ i :: q) = true → ∀ oi, ops[i]? = some oi → ∀ e ∈ oi.after, Region.binds .any e = true → e.on ∉ i :: q
 | [], i, q, h, oi, h1, e, he, hb => by
  simp only [List.nil_append, topoB, h1, Bool.and_eq_true] at h
  have := Array.all_eq_true_iff_forall_mem.1 h.1 e he
  simpa [hb] using this
 | z :: p, i, q, h, oi, h1, e, he, hb => by
  simp only [List.cons_append, topoB, Bool.and_eq_true] at h
  exact topo_get h.2 oi h1 e he hb
theorem pairs_del : ∀ {p : List Nat} {i : Nat} {q : List Nat}, pairsB ops (p ++ i :: q) = true → pairsB ops (p ++ q) = true
 | [], i, q, h => by simp only [List.nil_append, pairsB, Bool.and_eq_true] at h; exact h.2
 | z :: p, i, q, h => by
  simp only [List.cons_append, pairsB, Bool.and_eq_true] at h ⊢
  refine ⟨List.all_eq_true.2 fun x hx => List.all_eq_true.1 h.1 x ?_, pairs_del h.2⟩
  rcases List.mem_append.1 hx with hx | hx
  ·exact List.mem_append_left _ hx
  ·exact List.mem_append_right _ (List.mem_cons_of_mem _ hx)
theorem topo_del : ∀ {p : List Nat} {i : Nat} {q : List Nat}, topoB ops (p ++ i :: q) = true → topoB ops (p ++ q) = true
 | [], i, q, h => by simp only [List.nil_append, topoB, Bool.and_eq_true] at h; exact h.2
 | z :: p, i, q, h => by
  simp only [List.cons_append, topoB, Bool.and_eq_true] at h ⊢
  refine ⟨?_, topo_del h.2⟩
  have h1 := h.1
  split at h1
  ·rename_i o ho
   refine Array.all_eq_true_iff_forall_mem.2 fun e he => ?_
   have := Array.all_eq_true_iff_forall_mem.1 h1 e he
   simp only [Bool.or_eq_true, Bool.not_eq_true', List.contains_eq_mem, decide_eq_false_iff_not, List.mem_cons, List.mem_append, not_or] at this ⊢
   rcases this with h2 | h2
   ·exact .inl h2
   ·exact .inr ⟨h2.1, h2.2.1, h2.2.2.2⟩
  ·cases h1
theorem Ord.del {p : List Nat} {i : Nat} {q : List Nat} (h : Ord ops (p ++ i :: q)) : Ord ops (p ++ q) :=
 ⟨by have := h.nodup; rw [List.nodup_append] at this ⊢; exact ⟨this.1, (List.nodup_cons.1 this.2.1).2, fun a ha b hb => this.2.2 a ha b (List.mem_cons_of_mem _ hb)⟩,
  fun j hj => h.lt j (by rcases List.mem_append.1 hj with hj | hj; exact List.mem_append_left _ hj; exact List.mem_append_right _ (List.mem_cons_of_mem _ hj)), pairs_del h.pairs, topo_del h.topo, wr_del h.wr⟩
def Closed (ops : List Oper) (L : List Nat) : Prop := ∀ j oj, j ∉ L → ops[j]? = some oj → ∀ e ∈ oj.after, Region.binds .any e = true → e.on ∉ L
theorem pre_out {L : List Nat} (hc : Closed ops L) : ∀ (n x i : Nat), preB ops n x i = true → (∀ oi, ops[i]? = some oi → ∀ e ∈ oi.after, Region.binds .any e = true → e.on ∉ L) → x ∉ L
 | 0, x, i, h, _ => by simp [preB] at h
 | n + 1, x, i, h, hi => by
  simp only [preB] at h
  split at h
  ·rename_i oi ho
   obtain ⟨e, he, h1⟩ := Array.any_eq_true'.1 h
   simp only [Bool.and_eq_true, Bool.or_eq_true, beq_iff_eq] at h1
   have h2 := hi oi ho e he h1.1
   rcases h1.2 with h3 | h3
   ·rw [← h3]; exact h2
   ·exact pre_out hc n x e.on h3 fun oj hj => hc e.on oj h2 hj
  ·cases h
end
end Go.Proofs.YtpfbimkpcnnfkaaGreatDoor.Sx
set_option linter.unusedVariables false
set_option linter.unusedSimpArgs false
namespace Go.Proofs.YtpfbimkpcnnfkaaGreatDoor.Sx
open Go Go.RowKit Go.Proofs.YtpfbimkpcnnfkaaGreatDoor
section
variable {P : Program} {c : Ctx} {st st' : St S.ty} {bk : Nat → Nat} {a : Act} {w : World} {u u0 : Mem} {K K' : St S.ty → (Nat → Nat) → Mem → Prop} {Q : Exit → Act → World → Prop} {ops : List Oper} {o y : Oper} {F : Nat → Prop}
theorem deps_far (hg : guardsB ops = true) {L : List Nat} (hlt : ∀ i ∈ L, i < ops.length) (hd : ∀ e ∈ o.after, Region.binds .any e = true → e.on ∉ L) :
  ∀ e ∈ o.after, Region.binds .any e = true → ∀ t, (ops[e.on]?).bind (·.dst) = some t → ¬ DstI ops L t := by
 intro e he hb t ht ⟨i, hi, x, hx, hxt⟩
 obtain ⟨y, hy, hyt⟩ := Option.bind_eq_some_iff.1 ht
 have := nodup_dst hg hy hx hyt hxt
 exact hd e he hb (this ▸ hi)
theorem extract (hN : Names P) (hg : guardsB ops = true) (hfx : ∀ t, Dst ops t → ¬ c.fx t) : ∀ (p r : List Nat), Ord ops (p ++ r) → Closed ops (p ++ r) → ∀ (st : St S.ty) (bk : Nat → Nat) (u : Mem) (a : Act) (w : World), Rep c (DstI ops (p ++ r)) st bk a w u →
  EVs P c.u0 ops (evl ops (p ++ r)) st bk u K → ∃ st' bk' u' a' w', Rep c (DstI ops r) st' bk' a' w' u' ∧ EVs P c.u0 ops (evl ops r) st' bk' u' K ∧ (∀ t, ¬ DstI ops p t → st'.get t = st.get t) ∧ st'.own.length = st.own.length ∧ ∀ i, live st i → live st' i
 | [], r, ho, hc, st, bk, u, a, w, h, he => ⟨st, bk, u, a, w, h, he, fun _ _ => rfl, rfl, fun _ h => h⟩
 | i :: p, r, ho, hc, st, bk, u, a, w, h, he => by
  have hil : i < ops.length := ho.lt i (by simp)
  have hoi : ops[i]? = some ops[i] := List.getElem?_eq_getElem hil
  rw [List.cons_append, evl_cons hoi] at he
  have hdep := topo_get (p := []) (i := i) (q := p ++ r) ho.topo _ hoi
  have hnd : i ∉ p ++ r := (List.nodup_cons.1 ho.nodup).1
  obtain ⟨st1, bk1, u1, a1, w1, h1, ⟨k1, k2, k3, k4⟩⟩ := op_extract hN h (fun t ht => ⟨i, by simp, _, hoi, ht⟩) (fun t ht => hfx t ⟨_, List.getElem_mem hil, ht⟩) (deps_far hg ho.lt hdep) (EV_frame he)
  have hcl : Closed ops (p ++ r) := fun j oj hj hoj e he hb => by
   by_cases hji : j = i
   ·subst hji
    rw [hoi] at hoj; cases hoj
    exact fun hm => hdep e he hb (List.mem_cons_of_mem _ hm)
   ·have := hc j oj (by simp only [List.cons_append, List.mem_cons, not_or]; exact ⟨hji, hj⟩) hoj e he hb
    simp only [List.cons_append, List.mem_cons, not_or] at this
    exact this.2
  obtain ⟨st2, bk2, u2, a2, w2, q1, q2, q3, q4, q5⟩ := extract hN hg hfx p r (Ord.del (p := []) ho) hcl st1 bk1 u1 a1 w1 (h1.mono fun t ht => by
   obtain ⟨j, hj, x, hx, hxt⟩ := ht
   refine ⟨⟨j, List.mem_cons_of_mem _ hj, x, hx, hxt⟩, fun hd => ?_⟩
   have := nodup_dst hg hoi hx hd hxt
   exact hnd (this ▸ hj)) k1
  refine ⟨st2, bk2, u2, a2, w2, q1, q2, fun t ht => ?_, q4.trans k3, fun i hi => q5 i (k4 i hi)⟩
  rw [q3 t fun ⟨j, hj, hx⟩ => ht ⟨j, by simp [hj], hx⟩]
  exact k2 t fun hd => ht ⟨i, by simp, _, hoi, hd⟩
theorem front (hN : Names P) (hg : guardsB ops = true) (hfx : ∀ t, Dst ops t → ¬ c.fx t) {p q : List Nat} {i : Nat} (hor : Ord ops (p ++ i :: q)) (hcl : Closed ops (p ++ i :: q)) (hoi : ops[i]? = some o) (hdep : ∀ e ∈ o.after, Region.binds .any e = true → e.on ∉ p ++ i :: q)
  (h : Rep c (DstI ops (p ++ i :: q)) st bk a w u) (hnam : cls o = 2 → ∀ d, o.dst = some d → Nam (· ≠ d) st) (hgn : cls o = 2 → o.guard = none) (he : EVs P c.u0 ops (evl ops (p ++ i :: q)) st bk u K) :
  EV P c.u0 ops ⟨[]⟩ o st bk u fun st bk u => EVs P c.u0 ops (evl ops (p ++ q)) st bk u K := by
 have hsw : ∀ x ∈ p, ∀ ox, ops[x]? = some ox → swapB ops ox o = true ∧ (isLoad ox = true → cls o = 1 → ∃ t, ldAddr ox = some t ∧ t ∈ ldsB ops i) ∧ (cls ox = 1 → ∀ d, o.dst = some d → d ∉ ldsB ops x) := fun x hx ox hox => by
  rcases pairs_get hor.pairs x hx ox o hox hoi with h1 | h1
  ·have := pre_out hcl ops.length x i h1 (fun oi' hoi' => by rw [hoi] at hoi'; cases hoi'; exact hdep)
   exact absurd (List.mem_append_left _ hx) this
  ·exact h1
 have hap : ∀ x ∈ p, ∀ ox, ops[x]? = some ox → Oper.apart ops.toArray ox o = true ∧ Oper.apart ops.toArray o ox = true := fun x hx ox hox => by
  have := (hsw x hx ox hox).1
  unfold swapB at this
  simp only [Bool.and_eq_true] at this
  exact this.1
 have hfar : ∀ t ∈ o.looksAt ops.toArray, ¬ DstI ops p t := fun t ht ⟨x, hx, ox, hox, hxt⟩ => by
  obtain ⟨a1, _, _⟩ := Oper.apart_spec (hap x hx ox hox).1
  exact a1 t hxt ht
 have hput : ∀ d, o.dst = some d → ∀ x ∈ p, ∀ ox, ops[x]? = some ox → ox.dst ≠ some d ∧ d ∉ ox.looksAt ops.toArray ∧ (cls ox = 1 → d ∉ ldsB ops x) := fun d hd x hx ox hox => by
  obtain ⟨a1, a2, _⟩ := Oper.apart_spec (hap x hx ox hox).2
  exact ⟨a2 d hd, a1 d hd, fun hs => (hsw x hx ox hox).2.2 hs d hd⟩
 have he' := he
 rw [evl_app, evl_cons hoi, EVs_app] at he
 by_cases h0 : cls o = 0 ∧ isLoad o = false
 ·-- what looks at temporaries alone
  obtain ⟨hc0, hl0⟩ := h0
  obtain ⟨st1, bk1, u1, a1, w1, q1, q2, q3, _, _⟩ := extract hN hg hfx p (i :: q) hor hcl st bk u a w h he'
  rw [evl_cons hoi] at q2
  obtain ⟨e, d1, d2⟩ := EV_det hc0 hl0 q2
  have hagr : Agr ops o st1 st := fun t ht => q3 t (hfar t ht)
  refine EV_lds (M := []) (by simp) (d2 st bk u _ hagr ?_)
  rw [evl_app, EVs_app]
  have hm := EVs.mono (K' := fun st' bk' u' => EVs P c.u0 ops (evl ops q) (st'.put o.dst e) bk' u' K) (fun st' bk' u' hh => d1 st' bk' u' _ (hagr.trans fun t ht => (hh.2 t (hfar t ht)).symm) hh.1) (EVs_frame p st bk u he)
  cases hd : o.dst with
  | none => rw [hd] at hm; exact hm
  | some d => rw [hd] at hm; exact EVs_put p (hput d hd) st bk u hm
 ·by_cases h2 : cls o = 2
  ·-- a new block
   obtain ⟨st1, bk1, u1, a1, w1, q1, q2, q3, q4, q5⟩ := extract hN hg hfx p (i :: q) hor hcl st bk u a w h he'
   rw [evl_cons hoi] at q2
   obtain ⟨d, ow, e, n1, n2, n3, n4, n5, n6⟩ := EV_newdet (hgn h2) h2 q2
   have hagr : Agr ops o st1 st := fun t ht => q3 t (hfar t ht)
   have hbl : st.blk d = none := by
    cases hb : st.blk d with
    | none => rfl
    | some x =>
     have : live st1 d := q5 d (by unfold live; rw [hb]; rfl)
     unfold live at this; rw [n2] at this; cases this
   have hdl : d < st.own.length := by rw [← q4]; exact n3
   refine EV_lds (M := []) (by simp) (n6 st bk u _ hagr hbl hdl fun b hb => ?_)
   rw [evl_app, EVs_app]
   have hm := EVs.mono (K' := fun st' bk' u' => (∀ o, u' b o = none) → EVs P c.u0 ops (evl ops q) (st'.mk_ d ow e) (upd bk' d b) u' K) (fun st' bk' u' hh => n5 st' bk' u' _ (hagr.trans fun t ht => (hh.2 t (hfar t ht)).symm) hh.1 b) (EVs_frame p st bk u he)
   refine EVs_new n4 p (fun x hx ox hox => ?_) st bk u (hnam h2 d n1) hbl hdl hm hb
   refine ⟨(hput d n1 x hx ox hox).1, (hput d n1 x hx ox hox).2.1, ?_, (hput d n1 x hx ox hox).2.2⟩
   have := (hsw x hx ox hox).1
   unfold swapB at this
   simp only [Bool.and_eq_true] at this
   have h3 := this.2
   rw [h2] at h3
   split at h3 <;> simp_all
  ·-- what is met by places that change
   have hcl1 : ∀ x ∈ p, ∀ ox, ops[x]? = some ox → cls ox = 0 ∧ (isLoad ox = true → cls o = 0 ∨ cls o = 1) := fun x hx ox hox => by
    have := (hsw x hx ox hox).1
    unfold swapB at this
    simp only [Bool.and_eq_true] at this
    have h3 := this.2
    have h4 : cls o = 0 → isLoad o = true := fun hc => by
     cases hl : isLoad o with
     | true => rfl
     | false => exact absurd ⟨hc, hl⟩ h0
    split at h3 <;> simp_all
   have hh := swaps p (flagOf ops i) [] (wr_pre hor.wr) (by simp) (by simp) (fun x hx ox hox => ⟨(hcl1 x hx ox hox).1, (hap x hx ox hox).1, (hap x hx ox hox).2, fun hl => by
     rcases (hcl1 x hx ox hox).2 hl with h5 | h5
     ·exact .inl h5
     ·exact .inr ⟨h5, (hsw x hx ox hox).2.1 hl h5⟩⟩) st bk u he
   exact EV.mono (fun st' bk' u' h' => by rw [evl_app, EVs_app]; exact h') hh
end
end Go.Proofs.YtpfbimkpcnnfkaaGreatDoor.Sx
set_option linter.unusedVariables false
set_option linter.unusedSimpArgs false
namespace Go.Proofs.YtpfbimkpcnnfkaaGreatDoor.Sx
open Go Go.RowKit Go.Proofs.YtpfbimkpcnnfkaaGreatDoor
section
variable {P : Program} {c : Ctx} {st st' : St S.ty} {bk : Nat → Nat} {a : Act} {w : World} {u u0 : Mem} {K K' : St S.ty → (Nat → Nat) → Mem → Prop} {Q : Exit → Act → World → Prop} {ops : List Oper} {o y : Oper} {F : Nat → Prop}
theorem firstReady_spec {done : List Nat} {c : Nat} : ∀ {k : Nat} {l : List Oper} {i : Nat}, firstReady ops done c k l = some i → ∃ j o, i = k + j ∧ l[j]? = some o ∧ readyB done i o = true
 | k, [], i, h => by simp [firstReady] at h
 | k, o :: r, i, h => by
  simp only [firstReady] at h
  split at h
  ·rename_i hc
   cases h
   simp only [Bool.and_eq_true] at hc
   exact ⟨0, o, rfl, rfl, hc.2⟩
  ·obtain ⟨j, o', h1, h2, h3⟩ := firstReady_spec h
   exact ⟨j + 1, o', by omega, by simpa using h2, h3⟩
def LtB (ops : List Oper) (i : Nat) : Prop := i < ops.length ∧ ∀ o, ops[i]? = some o → ∀ e ∈ o.after, Region.binds .any e = true → e.on < ops.length
theorem firstReady_lt {done : List Nat} {c i : Nat} (hd : ∀ x ∈ done, x < ops.length) (h : firstReady ops done c 0 ops = some i) : LtB ops i := by
 obtain ⟨j, o, h1, h2, h3⟩ := firstReady_spec h
 have : i = j := by omega
 subst this
 refine ⟨(List.getElem?_eq_some_iff.1 h2).1, fun o' ho' e he hb => ?_⟩
 rw [h2] at ho'; cases ho'
 unfold readyB at h3
 simp only [Bool.and_eq_true] at h3
 have := Array.all_eq_true_iff_forall_mem.1 h3.2 e he
 simp only [hb, Bool.not_true, Bool.false_or, List.contains_eq_mem, decide_eq_true_eq] at this
 exact hd _ this
theorem canon_lt : ∀ (n : Nat) (done : List Nat), (∀ x ∈ done, x < ops.length) → ∀ i ∈ canon ops n done, LtB ops i
 | 0, _, _, i, hi => by simp [canon] at hi
 | n + 1, done, hd, i, hi => by
  simp only [canon] at hi
  have key : ∀ j, LtB ops j → i ∈ j :: canon ops n (j :: done) → LtB ops i := fun j hj hm => by
   rcases List.mem_cons.1 hm with rfl | hm
   ·exact hj
   ·exact canon_lt n (j :: done) (fun x hx => by rcases List.mem_cons.1 hx with rfl | hx; exact hj.1; exact hd x hx) i hm
  split at hi
  ·rename_i j hj; exact key j (firstReady_lt hd hj) hi
  ·split at hi
   ·rename_i j hj; exact key j (firstReady_lt hd hj) hi
   ·split at hi
    ·rename_i j hj; exact key j (firstReady_lt hd hj) hi
    ·cases hi
theorem EV_nams {fl : Flag} : ∀ {ds : List Nat} {K : St S.ty → (Nat → Nat) → Mem → Prop}, (∀ d ∈ ds, Nam (· ≠ d) st ∧ st.blk d = none ∧ o.dst ≠ some d) → EV P u0 ops fl o st bk u K → EV P u0 ops fl o st bk u fun st' bk' u' => K st' bk' u' ∧ ∀ d ∈ ds, Nam (· ≠ d) st' ∧ st'.blk d = none
 | [], K, _, h => EV.mono (fun _ _ _ h => ⟨h, fun d hd => by cases hd⟩) h
 | d :: ds, K, hd, h => by
  obtain ⟨h1, h2, h3⟩ := hd d (by simp)
  refine EV.mono (fun st' bk' u' hh => ⟨hh.1.1, fun x hx => ?_⟩) (EV_nams (ds := ds) (fun x hx => hd x (by simp [hx])) (EV_nam h1 h2 h3 h))
  rcases List.mem_cons.1 hx with rfl | hx
  ·exact hh.1.2
  ·exact hh.2 x hx
def newsOf (ops : List Oper) (L : List Nat) : List Nat := L.filterMap fun j => (ops[j]?).bind fun o => if cls o = 2 then o.dst else none
theorem mem_newsOf {L : List Nat} {d : Nat} : d ∈ newsOf ops L ↔ ∃ j ∈ L, ∃ o, ops[j]? = some o ∧ cls o = 2 ∧ o.dst = some d := by
 simp only [newsOf, List.mem_filterMap, Option.bind_eq_some_iff]
 constructor
 ·rintro ⟨j, hj, o, ho, h⟩
  split at h
  ·rename_i hc; exact ⟨j, hj, o, ho, hc, h⟩
  ·cases h
 ·rintro ⟨j, hj, o, ho, hc, hd⟩
  exact ⟨j, hj, o, ho, by rw [if_pos hc]; exact hd⟩
theorem draw_any (hN : Names P) (hgn : ∀ o ∈ ops, cls o = 2 → o.guard = none) (hg : guardsB ops = true) (hfx : ∀ t, Dst ops t → ¬ c.fx t) (hlt : ∀ i, i < ops.length → LtB ops i) (hQ : ∀ a w, Nxt c (fun _ => False) K a w → Q .normal a w) :
  ∀ (n : Nat) (L : List Nat) (listed : Array Bool), L.length = n → Ord ops L → Closed ops L → listed.size = ops.length → (∀ i (h : i < listed.size), listed[i] = true ↔ i ∉ L) →
   ∀ (a : Act) (w : World) (st : St S.ty) (bk : Nat → Nat) (u : Mem), Rep c (DstI ops L) st bk a w u → EVs P c.u0 ops (evl ops L) st bk u K → (∀ d ∈ newsOf ops L, Nam (· ≠ d) st ∧ st.blk d = none) → wpAny P .any ops.toArray Q n listed a w := by
 intro n
 induction n with
 | zero =>
  intro L listed hl ho hc hs hli a w st bk u h he _
  have : L = [] := List.length_eq_zero_iff.1 hl
  subst this
  refine ⟨?_, hQ a w ⟨st, bk, u, h.mono (fun _ h => h.elim), he⟩⟩
  refine List.filter_eq_nil_iff.2 fun i hi => ?_
  have hi' : i < listed.size := by have := List.mem_range.1 hi; simp at this; omega
  have := (hli i hi').2 (by simp)
  simp [Array.getD, hi', this]
 | succ n ih =>
  intro L listed hl ho hc hs hli a w st bk u h he hnews
  have hready : ∀ i, i ∈ Region.ready .any ops.toArray listed ↔ i ∈ L ∧ ∃ o, ops[i]? = some o ∧ ∀ e ∈ o.after, Region.binds .any e = true → e.on < ops.length ∧ e.on ∉ L := fun i => by
   simp only [Region.ready, List.mem_filter, List.mem_range, List.size_toArray, List.getElem?_toArray, Bool.and_eq_true, Bool.not_eq_true']
   have hdep : ∀ e : Edge, (!Region.binds .any e || listed.getD e.on false) = true ↔ (Region.binds .any e = true → e.on < ops.length ∧ e.on ∉ L) := fun e => by
    cases hb : Region.binds .any e with
    | false => simp
    | true =>
     simp only [Bool.not_true, Bool.false_or, true_implies]
     by_cases hlen : e.on < listed.size
     ·rw [show listed.getD e.on false = listed[e.on] by simp [Array.getD, hlen], hli e.on hlen]
      exact ⟨fun h => ⟨by omega, h⟩, fun h => h.2⟩
     ·rw [show listed.getD e.on false = false by simp [Array.getD, hlen]]
      exact ⟨fun h => (by cases h), fun h => absurd h.1 (by omega)⟩
   constructor
   ·rintro ⟨h1, h2, h3⟩
    have hi' : i < listed.size := by omega
    have hmem : i ∈ L := by
     rw [show listed.getD i true = listed[i] by simp [Array.getD, hi']] at h2
     by_cases hm : i ∈ L
     ·exact hm
     ·rw [(hli i hi').2 hm] at h2; cases h2
    refine ⟨hmem, ops[i], List.getElem?_eq_getElem h1, fun e he hb => ?_⟩
    rw [List.getElem?_eq_getElem h1] at h3
    simp only [Option.map_some, Option.getD_some] at h3
    exact (hdep e).1 (Array.all_eq_true_iff_forall_mem.1 h3 e he) hb
   ·rintro ⟨h1, o, h2, h3⟩
    have hi := ho.lt i h1
    have hi' : i < listed.size := by omega
    refine ⟨hi, ?_, ?_⟩
    ·rw [show listed.getD i true = listed[i] by simp [Array.getD, hi']]
     cases hb : listed[i] with
     | false => rfl
     | true => exact absurd h1 ((hli i hi').1 hb)
    ·rw [h2]
     simp only [Option.map_some, Option.getD_some]
     exact Array.all_eq_true_iff_forall_mem.2 fun e he => (hdep e).2 (h3 e he)
  refine ⟨fun hnil => ?_, fun i hi => ?_⟩
  ·-- the first of our order is ready
   cases L with
   | nil => simp at hl
   | cons i L =>
    have hil := ho.lt i (by simp)
    have hoi : ops[i]? = some ops[i] := List.getElem?_eq_getElem hil
    have : i ∈ Region.ready .any ops.toArray listed := (hready i).2 ⟨by simp, _, hoi, fun e he hb => ⟨(hlt i hil).2 _ hoi e he hb, topo_get (p := []) (i := i) (q := L) ho.topo _ hoi e he hb⟩⟩
    rw [hnil] at this; cases this
  ·obtain ⟨hiL, o, hoi, hdep⟩ := (hready i).1 hi
   obtain ⟨p, q, rfl⟩ := List.append_of_mem hiL
   have hnd : i ∉ p ++ q := by
    have := ho.nodup
    rw [List.nodup_append] at this
    simp only [List.mem_append, not_or]
    exact ⟨fun hp => this.2.2 i hp i (by simp) rfl, (List.nodup_cons.1 this.2.1).1⟩
   have hmem : ∀ j, j ∈ p ++ q → j ∈ p ++ i :: q := fun j hj => by
    rcases List.mem_append.1 hj with hj | hj
    ·exact List.mem_append_left _ hj
    ·exact List.mem_append_right _ (List.mem_cons_of_mem _ hj)
   have hor := ho.del
   have hnam : cls o = 2 → ∀ d, o.dst = some d → Nam (· ≠ d) st := fun h2 d hd => (hnews d (mem_newsOf.2 ⟨i, hiL, o, hoi, h2, hd⟩)).1
   have hf := front hN hg hfx ho hc hoi (fun e he hb => (hdep e he hb).2) h hnam (hgn o (List.mem_of_getElem? hoi)) he
   have hf2 := EV_nams (ds := newsOf ops (p ++ q)) (fun d hd => by
    obtain ⟨j, hj, y, hy, hy2, hyd⟩ := mem_newsOf.1 hd
    obtain ⟨n1, n2⟩ := hnews d (mem_newsOf.2 ⟨j, hmem j hj, y, hy, hy2, hyd⟩)
    exact ⟨n1, n2, fun hod => hnd (nodup_dst hg hy hoi hyd hod ▸ hj)⟩) hf
   have h1 := op_sound (Q := Q) hN h (fun t ht => ⟨i, hiL, o, hoi, ht⟩) (fun t ht => hfx t ⟨o, List.mem_of_getElem? hoi, ht⟩) (deps_far hg ho.lt fun e he hb => (hdep e he hb).2) hf2
   have hcl : Closed ops (p ++ q) := fun j oj hj hoj e he hb => by
    by_cases hji : j = i
    ·subst hji
     rw [hoi] at hoj; cases hoj
     exact fun hm => (hdep e he hb).2 (hmem _ hm)
    ·have : j ∉ p ++ i :: q := by
      simp only [List.mem_append, List.mem_cons, not_or] at hj ⊢
      exact ⟨hj.1, hji, hj.2⟩
     exact fun hm => hc j oj this hoj e he hb (hmem _ hm)
   have h2 := Op1.mono (fun a w hh => by
    obtain ⟨st1, bk1, u1, r1, r2, r3⟩ := hh
    exact ih (p ++ q) (listed.setIfInBounds i true) (by simp at hl ⊢; omega) hor hcl (by simpa using hs) (fun j hj => by
     have hjs : j < listed.size := by rw [Array.size_setIfInBounds] at hj; exact hj
     rw [Array.getElem_setIfInBounds hjs]
     split
     ·rename_i hij; subst hij; simp only [true_iff]; exact hnd
     ·rename_i hij
      rw [hli j hjs]
      simp only [List.mem_append, List.mem_cons, not_or]
      exact ⟨fun h => ⟨h.1, h.2.2⟩, fun h => ⟨h.1, fun hh => hij hh.symm, h.2⟩⟩) a w st1 bk1 u1 (r1.mono fun t ht => by
       obtain ⟨j, hj, x, hx, hxt⟩ := ht
       exact ⟨⟨j, hmem j hj, x, hx, hxt⟩, fun hd => hnd (nodup_dst hg hx hoi hxt hd ▸ hj)⟩) r2 r3) h1
   unfold Op1 at h2
   unfold wpOp
   rw [List.getElem?_toArray, hoi]
   simp only
   split
   ·rename_i hw; rw [if_pos hw] at h2; exact .inl h2
   ·rename_i hw; rw [if_neg hw] at h2; exact h2
theorem nodup_len : ∀ (n : Nat) (l : List Nat), l.Nodup → (∀ i ∈ l, i < n) → l.length ≤ n
 | 0, [], _, _ => by simp
 | 0, x :: l, _, h => absurd (h x (by simp)) (by omega)
 | n + 1, l, hn, h => by
  have he : ∀ i ∈ l.erase n, i < n := fun i hi => by
   have h1 := h i (List.mem_of_mem_erase hi)
   have h2 : i ≠ n := fun hh => by subst hh; exact (List.Nodup.mem_erase_iff hn).1 hi |>.1 rfl
   omega
  have := nodup_len n (l.erase n) (hn.erase n) he
  by_cases hm : n ∈ l
  ·rw [List.length_erase_of_mem hm] at this; omega
  ·rw [List.erase_of_not_mem hm] at this; omega
theorem nodup_full : ∀ (n : Nat) (l : List Nat), l.Nodup → (∀ i ∈ l, i < n) → n ≤ l.length → ∀ i, i < n → i ∈ l
 | 0, l, _, _, _, i, hi => by omega
 | n + 1, l, hn, h, hl, i, hi => by
  have he : ∀ i ∈ l.erase n, i < n := fun i hi => by
   have h1 := h i (List.mem_of_mem_erase hi)
   have h2 : i ≠ n := fun hh => by subst hh; exact (List.Nodup.mem_erase_iff hn).1 hi |>.1 rfl
   omega
  by_cases hm : n ∈ l
  ·have hle := List.length_erase_of_mem hm
   by_cases hin : i = n
   ·subst hin; exact hm
   ·exact List.mem_of_mem_erase (nodup_full n (l.erase n) (hn.erase n) he (by omega) i (by omega))
  ·rw [List.erase_of_not_mem hm] at he
   have := nodup_len n l hn he
   omega
theorem draw_ok (hN : Names P) (hm : P.follows .mixedOrders = true) : DrawOk P := by
 intro c st bk a w u K Q ops id l hg hnw hfx ho h he hQ
 unfold order at ho
 simp only [if_true] at ho
 split at ho <;> cases ho
 rename_i hcnd
 obtain ⟨c1, c2, c3, c4, c5, c6⟩ := hcnd
 have hnd : (canon ops ops.length []).Nodup := nodupB_nodup c2
 have hltc : ∀ i ∈ canon ops ops.length [], i < ops.length := fun i hi => by simpa using List.all_eq_true.1 c3 i hi
 have hall : ∀ i, i < ops.length → i ∈ canon ops ops.length [] := fun i hi =>
   nodup_full _ _ hnd hltc (by omega) i hi
 refine wp_region_any hm ?_
 have hsz : ops.toArray.size = (canon ops ops.length []).length := by simp [c1]
 rw [hsz]
 refine draw_any hN (fun y hy h2 => by have := List.all_eq_true.1 hnw y hy; simp [h2] at this; exact this.1) hg hfx (fun i hi => canon_lt ops.length [] (by simp) i (hall i hi)) hQ _ _ _ rfl ⟨hnd, hltc, c4, c5, c6⟩ (fun j oj hj hoj => ?_) (by simp [c1]) (fun i hi => ?_) a _ st bk u (h.drew.open_) he (fun d hd => ?_)
 ·exact absurd (hall j (List.getElem?_eq_some_iff.1 hoj).1) hj
 ·simp only [Array.size_replicate] at hi
  simp only [Array.getElem_replicate, Bool.false_eq_true, false_iff]
  exact fun hh => hh (hall i (by omega))
 ·obtain ⟨j, hj, y, hy, hy2, hyd⟩ := mem_newsOf.1 hd
  have hb : st.blk d = none := by
   have := List.all_eq_true.1 hnw y (List.mem_of_getElem? hy)
   simp [hy2, hyd] at this
   exact this.2
  have hlv : ∀ i, live st i → i ≠ d := fun i hi hid => by unfold live at hi; rw [hid, hb] at hi; cases hi
  refine ⟨⟨fun t e hte i hi => ?_, fun i cs hics k hk => ?_⟩, hb⟩
  ·have ho := h.ent t e hte
   have hlab : e.lab = [] := List.eq_nil_iff_forall_not_mem.2 fun l hl => ho.far l hl trivial
   have hw : e.w.den = true := ho.lab.2 fun l hl => by rw [hlab] at hl; cases hl
   exact hlv i (ho.live hw i hi)
  ·unfold St.cells at hics
   obtain ⟨o, ho, hoc⟩ := Option.bind_eq_some_iff.1 hics
   exact hlv k ((h.own i o cs ho hoc).live k hk)
end
end Go.Proofs.YtpfbimkpcnnfkaaGreatDoor.Sx
