/- Regions that draw: my own steps, one law a step (the numbers are printed by fill.py). Nothing of the program. -/
import Derived.Test.YthagmakojbfmaaaDoorBase
import Derived.Deep.RegionHeld3
import Derived.Deep.DrawnRows
set_option linter.unusedVariables false
set_option linter.unusedSimpArgs false
namespace Go.Proofs.YthagmakojbfmaaaDoor
open Go.RowKit
theorem zP (a : Act) (d : Option Tmp) (v : Value) : a.put d v = (match d with | some d => { a with tmps := a.tmps.setIfInBounds d v } | none => a) := rfl
theorem zA {α : Type} (l : List α) (i : Nat) (a : α) : l.toArray.setIfInBounds i a = (l.set i a).toArray := List.setIfInBounds_toArray l i a
theorem zZ {α : Type} (x a : α) (l : List α) : (x :: l).set 0 a = a :: l := rfl
theorem zS {α : Type} (x a : α) (l : List α) (i : Nat) : (x :: l).set (i + 1) a = x :: l.set i a := rfl
structure Gro (B : Nat → Prop) (w w' : World) : Prop where
 os : w'.os = w.os
 tape : w'.tape = w.tape
 output : w'.output = w.output
 size : w.heap.size ≤ w'.heap.size
 block : ∀ k, k < w.heap.size → ¬ B k → w'.heap[k]? = w.heap[k]?
theorem Gro.refl (B : Nat → Prop) (w : World) : Gro B w w := ⟨rfl, rfl, rfl, Nat.le_refl _, fun _ _ _ => rfl⟩
theorem Gro.setRow {B : Nat → Prop} {a w : World} (h : Gro B a w) {g : Nat} (hp : B g ∨ a.heap.size ≤ g) (cs : Array Value) : Gro B a (w.setRow g cs) :=
 ⟨h.os, h.tape, h.output, by have := h.size; simpa using this, fun k hk hb => (setRow_other w g k cs (by rintro rfl; rcases hp with hp | hp; exact hb hp; omega)).trans (h.block k hk hb)⟩
theorem Gro.setCell {B : Nat → Prop} {a w : World} (h : Gro B a w) {p : Addr} (hp : B p.block ∨ a.heap.size ≤ p.block) (u : Value) : Gro B a (w.setCell p u) :=
 ⟨h.os, h.tape, h.output, by have := h.size; simpa [World.setCell] using this, fun k hk hb => (Below.heap_setCell w p u k (by rintro rfl; rcases hp with hp | hp; exact hb hp; omega)).trans (h.block k hk hb)⟩
theorem Gro.drew {B : Nat → Prop} {a w : World} (h : Gro B a w) : Gro B a w.drew := ⟨h.os, h.tape, h.output, h.size, h.block⟩
theorem Gro.drewN {B : Nat → Prop} {a w : World} (h : Gro B a w) (n : Nat) : Gro B a (w.drewN n) := ⟨h.os, h.tape, h.output, h.size, h.block⟩
theorem Gro.below {B : Nat → Prop} {n : Nat} {a w w' : World} (h : Gro B a w) (hb : Below n w w') (hn : a.heap.size ≤ n) : Gro B a w' :=
 ⟨hb.os.trans h.os, hb.tape.trans h.tape, hb.output.trans h.output, Nat.le_trans h.size hb.size, fun k hk hB => (hb.block k (by omega)).trans (h.block k hk hB)⟩
theorem Gro.alloc {B : Nat → Prop} {a w : World} (h : Gro B a w) (o : Obj) : Gro B a (w.alloc o) :=
 h.below (n := w.heap.size) ((Below.refl _ w).alloc (Nat.le_refl _) o) h.size
theorem Below.gro {B : Nat → Prop} {n : Nat} {a w w' : World} (h : Below n a w) (ho : Gro B w w') (hB : ∀ k, B k → n ≤ k) (hn : n ≤ w.heap.size) : Below n a w' :=
 ⟨ho.os.trans h.os, ho.tape.trans h.tape, ho.output.trans h.output, Nat.le_trans h.size ho.size, fun k hk => (ho.block k (by omega) fun hb => by have := hB k hb; omega).trans (h.block k hk)⟩
def bits (n m : Nat) : Array Bool := Array.ofFn (n := n) fun i => m.testBit i
theorem bits_getD {n m j : Nat} {d : Bool} : (bits n m).getD j d = if j < n then m.testBit j else d := by
 by_cases h : j < n <;> simp [bits, h]
theorem bits_zero {n : Nat} : Array.replicate n false = bits n 0 := by
 apply Array.ext
 ·simp [bits]
 ·intro i h1 h2; simp [bits]
theorem bits_set {n m i : Nat} : (bits n m).setIfInBounds i true = bits n (m ||| 2 ^ i) := by
 apply Array.ext
 ·simp [bits]
 ·intro j h1 h2
  by_cases h : i = j
  ·subst h; simp [bits, Nat.testBit_or, Nat.testBit_two_pow]
  ·have h3 : j < n := by simpa [bits] using h2
   rw [Array.getElem_setIfInBounds_ne (by simpa [bits] using h3) h]
   simp [bits, Nat.testBit_or, Nat.testBit_two_pow, h]
def waitsFor (o : Oper) (j : Nat) : Bool := o.after.any fun e => Region.binds .any e && e.on == j
def pairOk (l : Array Oper) (i : Nat) (oi : Oper) : Nat → List Oper → Bool
 | _, [] => true
 | j, oj :: r => (i == j || waitsFor oj i || waitsFor oi j || Oper.apart l oi oj) && pairOk l i oi (j + 1) r
def ssaFrom (a : Array Oper) (l : List Oper) : Nat → List Oper → Bool
 | _, [] => true
 | i, oi :: r => pairOk a i oi 0 l && ssaFrom a l (i + 1) r
def ssa (l : List Oper) : Bool := Region.noSelect l.toArray && ssaFrom l.toArray l 0 l
theorem pairOk_get {l : Array Oper} {i : Nat} {oi : Oper} : ∀ {k : Nat} {r : List Oper}, pairOk l i oi k r = true → ∀ {j : Nat} {oj : Oper}, r[j]? = some oj →
  (i == k + j || waitsFor oj i || waitsFor oi (k + j) || Oper.apart l oi oj) = true
 | k, [], _, j, oj, h => by simp at h
 | k, o :: r, hp, 0, oj, h => by
  simp only [pairOk, Bool.and_eq_true] at hp
  simp at h; subst h; exact hp.1
 | k, o :: r, hp, j + 1, oj, h => by
  simp only [pairOk, Bool.and_eq_true] at hp
  have := pairOk_get hp.2 (j := j) (oj := oj) (by simpa using h)
  rwa [show k + 1 + j = k + (j + 1) by omega] at this
theorem ssaFrom_get {a : Array Oper} {l : List Oper} : ∀ {k : Nat} {r : List Oper}, ssaFrom a l k r = true → ∀ {i : Nat} {oi : Oper}, r[i]? = some oi → pairOk a (k + i) oi 0 l = true
 | k, [], _, i, oi, h => by simp at h
 | k, o :: r, hp, 0, oi, h => by
  simp only [ssaFrom, Bool.and_eq_true] at hp
  simp at h; subst h; exact hp.1
 | k, o :: r, hp, i + 1, oi, h => by
  simp only [ssaFrom, Bool.and_eq_true] at hp
  have := ssaFrom_get hp.2 (i := i) (oi := oi) (by simpa using h)
  rwa [show k + 1 + i = k + (i + 1) by omega] at this
def upNow (m i : Nat) (o : Oper) : Bool := !m.testBit i && o.after.all fun e => !Region.binds .any e || m.testBit e.on
def onlyUp (m i : Nat) : Nat → List Oper → Bool
 | _, [] => true
 | j, o :: r => (j == i || !upNow m j o) && onlyUp m i (j + 1) r
theorem onlyUp_get {m i : Nat} : ∀ {k : Nat} {r : List Oper}, onlyUp m i k r = true → ∀ {j : Nat} {o : Oper}, r[j]? = some o → upNow m (k + j) o = true → k + j = i
 | k, [], _, j, o, h, _ => by simp at h
 | k, o' :: r, hp, 0, o, h, hu => by
  simp only [onlyUp, Bool.and_eq_true] at hp
  simp at h; subst h
  have h1 := hp.1
  simp only [Nat.add_zero] at hu
  rw [hu] at h1; simpa using h1
 | k, o' :: r, hp, j + 1, o, h, hu => by
  simp only [onlyUp, Bool.and_eq_true] at hp
  rw [show k + (j + 1) = k + 1 + j by omega] at hu ⊢
  exact onlyUp_get hp.2 (by simpa using h) hu
section
variable {P : Program} {l l' : List Oper} {Q : Exit → Act → World → Prop} {S : World → Prop}
theorem bits_true {n m j : Nat} (h : (bits n m).getD j false = true) : j < n ∧ m.testBit j = true := by
 rw [bits_getD] at h; split at h <;> simp_all
theorem up_of_ready {n m j : Nat} (hn : n = l.length) (h : j ∈ Region.ready .any l.toArray (bits n m)) : ∃ o, l[j]? = some o ∧ upNow m j o = true := by
 obtain ⟨h1, o, ho, h2⟩ := mem_ready.1 h
 have ho' : l[j]? = some o := by simpa using ho
 have hj : j < n := by rw [hn]; exact (List.getElem?_eq_some_iff.1 ho').1
 refine ⟨o, ho', ?_⟩
 rw [bits_getD, if_pos hj] at h1
 simp only [upNow, h1, Bool.not_false, Bool.true_and, Array.all_eq_true_iff_forall_mem, Bool.or_eq_true, Bool.not_eq_true']
 intro e he
 cases hb : Region.binds .any e
 ·exact .inl rfl
 ·exact .inr (bits_true (h2 e he hb)).2
theorem ready_of_up {n m i : Nat} {o : Oper} (hn : n = l.length) (hi : l[i]? = some o) (hu : upNow m i o = true) (hw : ∀ e ∈ o.after, Region.binds .any e = true → e.on < n) : i ∈ Region.ready .any l.toArray (bits n m) := by
 have hj : i < n := by rw [hn]; exact (List.getElem?_eq_some_iff.1 hi).1
 simp only [upNow, Bool.and_eq_true, Bool.not_eq_true', Array.all_eq_true_iff_forall_mem, Bool.or_eq_true] at hu
 refine mem_ready.2 ⟨by rw [bits_getD, if_pos hj]; exact hu.1, o, by simpa using hi, fun e he hb => ?_⟩
 rw [bits_getD, if_pos (hw e he hb)]
 rcases hu.2 e he with h | h
 ·rw [hb] at h; cases h
 ·exact h
def inside (n : Nat) (o : Oper) : Bool := o.after.all fun e => !Region.binds .any e || decide (e.on < n)
theorem inside_get {n : Nat} {o : Oper} (h : inside n o = true) : ∀ e ∈ o.after, Region.binds .any e = true → e.on < n := fun e he hb => by
 simp only [inside, Array.all_eq_true_iff_forall_mem, Bool.or_eq_true, Bool.not_eq_true', decide_eq_true_eq] at h
 rcases h e he with h | h
 ·rw [hb] at h; cases h
 ·exact h
def Good (n : Nat) (l l' : List Oper) : Prop := l' = l ∧ n = l.length ∧ ssa l = true
theorem reg0 {id : Nat} {a : Act} {w : World} (n : Nat) (S : World → Prop) (hm : P.follows .mixedOrders = true) (hn : l.length = n) (hs : ssa l = true) (hS : S w.drew)
  (h : ∀ l', Good n l l' → S w.drew → wpAnyH P .any l'.toArray (NoPanic Q) S n (bits n 0) a w.drew) : (Code.region id l.toArray true).wp P Q a w :=
 wp_region_noPanic (wp_region_held_drew hm hS (fun hs' => by
  have := h l ⟨rfl, hn.symm, hs⟩ hs'
  rw [← bits_zero] at this
  simpa [hn] using this))
theorem tk {i : Nat} {n m : Nat} {oi : Oper} {v : Value} {fuel : Nat} {a : Act} {w : World} (hg : Good n l l') (hi : l[i]? = some oi)
  (hc : (upNow m i oi && inside n oi) = true) (hy : YieldsIf P l.toArray S oi v a) (hS : S w)
  (h : wpAnyH P .any l'.toArray (NoPanic Q) S fuel (bits n (m ||| 2 ^ i)) (a.put oi.dst v) w) : wpAnyH P .any l'.toArray (NoPanic Q) S (fuel + 1) (bits n m) a w := by
 obtain ⟨rfl, hn, hs⟩ := hg
 simp only [ssa, Bool.and_eq_true] at hs hc
 have hr := ready_of_up hn hi hc.1 (inside_get hc.2)
 refine wpAnyH_first (by simpa using hi) (Region.noSelect_spec hs.1) (fun _ _ _ h => h) fuel _ a w ?_ hr hy hS (by rw [bits_set]; exact h)
 intro j oj hj hji hun hno
 have h1 := pairOk_get (ssaFrom_get hs.2 hi) (j := j) (oj := oj) (by simpa using hj)
 simp only [Nat.zero_add, Bool.or_eq_true, beq_iff_eq] at h1
 rcases h1 with ((h1 | h1) | h1) | h1
 ·exact absurd h1.symm hji
 ·simp only [waitsFor, Array.any_eq_true', Bool.and_eq_true, beq_iff_eq] at h1
  obtain ⟨e, he, hb, ho⟩ := h1
  exact absurd ho (hno e he hb)
 ·simp only [waitsFor, Array.any_eq_true', Bool.and_eq_true, beq_iff_eq] at h1
  obtain ⟨e, he, hb, ho⟩ := h1
  obtain ⟨_, o, ho', h2⟩ := mem_ready.1 hr
  have : o = oi := by simp at ho'; rw [hi] at ho'; exact (Option.some.inj ho').symm
  subst this
  have h3 := bits_true (h2 e he hb)
  rw [ho] at h3
  rw [bits_getD, if_pos h3.1, h3.2] at hun
  cases hun
 ·exact h1
theorem tkT (i m' : Nat) {n m : Nat} {oi : Oper} {v : Value} {fuel : Nat} {a : Act} {w : World} (hg : Good n l l') (hi : l[i]? = some oi)
  (hw : Region.wanted oi (yielded l.toArray a.tmps) = true) (hc : (upNow m i oi && inside n oi && m ||| 2 ^ i == m') = true)
  (hy : ∀ w, S w → (execOp a.eval oi).run P w = .ok (.value v) w) (hS : S w)
  (h : wpAnyH P .any l'.toArray (NoPanic Q) S fuel (bits n m') (a.put oi.dst v) w) : wpAnyH P .any l'.toArray (NoPanic Q) S (fuel + 1) (bits n m) a w := by
 rw [Bool.and_eq_true, beq_iff_eq] at hc
 exact tk hg hi hc.1 (.inl ⟨hw, hy⟩) hS (by rw [hc.2]; exact h)
theorem tkF (i m' : Nat) {n m : Nat} {oi : Oper} {fuel : Nat} {a : Act} {w : World} (hg : Good n l l') (hi : l[i]? = some oi)
  (hw : Region.wanted oi (yielded l.toArray a.tmps) = false) (hc : (upNow m i oi && inside n oi && m ||| 2 ^ i == m') = true) (hS : S w)
  (h : wpAnyH P .any l'.toArray (NoPanic Q) S fuel (bits n m') (a.put oi.dst undef) w) : wpAnyH P .any l'.toArray (NoPanic Q) S (fuel + 1) (bits n m) a w := by
 rw [Bool.and_eq_true, beq_iff_eq] at hc
 exact tk hg hi hc.1 (.inr ⟨hw, rfl⟩) hS (by rw [hc.2]; exact h)
theorem act1 (i m' : Nat) {n m : Nat} {o : Oper} {fuel : Nat} {a : Act} {w : World} (hg : Good n l l') (hi : l[i]? = some o)
  (hw : Region.wanted o (yielded l.toArray a.tmps) = true) (hc : (upNow m i o && inside n o && (onlyUp m i 0 l && m ||| 2 ^ i == m')) = true)
  (h : ∀ K' : Act → World → Prop, Shut (∀ a w, S w → (S w → wpAnyH P .any l'.toArray (NoPanic Q) S fuel (bits n m') a w) → K' a w) → Oper.wp P o a w K' (NoPanic Q)) :
  wpAnyH P .any l'.toArray (NoPanic Q) S (fuel + 1) (bits n m) a w := by
 obtain ⟨rfl, hg, _⟩ := hg
 simp only [Bool.and_eq_true, beq_iff_eq] at hc
 obtain ⟨⟨h1, h2⟩, h3, h4⟩ := hc
 have hr := ready_of_up hg hi h1 (inside_get h2)
 have hK : ∀ j ∈ Region.ready .any l'.toArray (bits n m), j = i := fun j hj => by
  obtain ⟨o', ho', hu⟩ := up_of_ready hg hj
  have := onlyUp_get h3 ho' (by simpa using hu)
  omega
 refine ⟨fun h0 => (by rw [h0] at hr; cases hr), fun j hj => ?_⟩
 rw [hK j hj]
 refine wpOp_step (by simpa using hi) (fun K' hK => ?_)
 rw [if_pos hw]
 refine h K' (fun a w hS hW => hK a w ⟨hS, ?_⟩)
 rw [bits_set, h4]
 exact hW hS
def onlyTwo (m i k : Nat) : Nat → List Oper → Bool
 | _, [] => true
 | j, o :: r => (j == i || j == k || !upNow m j o) && onlyTwo m i k (j + 1) r
theorem onlyTwo_get {m i q : Nat} : ∀ {k : Nat} {r : List Oper}, onlyTwo m i q k r = true → ∀ {j : Nat} {o : Oper}, r[j]? = some o → upNow m (k + j) o = true → k + j = i ∨ k + j = q
 | k, [], _, j, o, h, _ => by simp at h
 | k, o' :: r, hp, 0, o, h, hu => by
  simp only [onlyTwo, Bool.and_eq_true] at hp
  simp at h; subst h
  have h1 := hp.1
  simp only [Nat.add_zero] at hu
  rw [hu] at h1; simpa using h1
 | k, o' :: r, hp, j + 1, o, h, hu => by
  simp only [onlyTwo, Bool.and_eq_true] at hp
  rw [show k + (j + 1) = k + 1 + j by omega] at hu ⊢
  exact onlyTwo_get hp.2 (by simpa using h) hu
theorem act2 (i k m1 m2 : Nat) {n m : Nat} {o q : Oper} {fuel : Nat} {a : Act} {w : World} (hg : Good n l l') (hi : l[i]? = some o) (hq : l[k]? = some q)
  (hw : Region.wanted o (yielded l.toArray a.tmps) = true) (hw2 : Region.wanted q (yielded l.toArray a.tmps) = true)
  (hc : (upNow m i o && inside n o && (upNow m k q && inside n q) && (onlyTwo m i k 0 l && (m ||| 2 ^ i == m1 && m ||| 2 ^ k == m2))) = true)
  (h : ∀ K' : Act → World → Prop, Shut (∀ a w, S w → (S w → wpAnyH P .any l'.toArray (NoPanic Q) S fuel (bits n m1) a w) → K' a w) → Oper.wp P o a w K' (NoPanic Q))
  (h2 : ∀ K' : Act → World → Prop, Shut (∀ a w, S w → (S w → wpAnyH P .any l'.toArray (NoPanic Q) S fuel (bits n m2) a w) → K' a w) → Oper.wp P q a w K' (NoPanic Q)) :
  wpAnyH P .any l'.toArray (NoPanic Q) S (fuel + 1) (bits n m) a w := by
 obtain ⟨rfl, hg, _⟩ := hg
 simp only [Bool.and_eq_true, beq_iff_eq] at hc
 obtain ⟨⟨⟨h3, h4⟩, h5, h6⟩, h7, h8, h9⟩ := hc
 have hr := ready_of_up hg hi h3 (inside_get h4)
 have hK : ∀ j ∈ Region.ready .any l'.toArray (bits n m), j = i ∨ j = k := fun j hj => by
  obtain ⟨o', ho', hu⟩ := up_of_ready hg hj
  have := onlyTwo_get h7 ho' (by simpa using hu)
  omega
 refine ⟨fun h0 => (by rw [h0] at hr; cases hr), fun j hj => ?_⟩
 rcases hK j hj with rfl | rfl
 ·refine wpOp_step (by simpa using hi) (fun K' hK => ?_)
  rw [if_pos hw]
  refine h K' (fun a w hS hW => hK a w ⟨hS, ?_⟩)
  rw [bits_set, h8]
  exact hW hS
 ·refine wpOp_step (by simpa using hq) (fun K' hK => ?_)
  rw [if_pos hw2]
  refine h2 K' (fun a w hS hW => hK a w ⟨hS, ?_⟩)
  rw [bits_set, h9]
  exact hW hS
theorem K_at {K : Act → World → Prop} {a : Act} {w : World} (h : ∀ W, W = w → K a W) : K a w := h w rfl
theorem actE {n m : Nat} (hg : Good n l l') {fuel : Nat} {a : Act} {w : World} (hc : onlyUp m l.length 0 l = true) (h : Q .normal a w) :
  wpAnyH P .any l'.toArray (NoPanic Q) S fuel (bits n m) a w := by
 obtain ⟨rfl, hg, _⟩ := hg
 refine wpAnyH_done (List.eq_nil_iff_forall_not_mem.2 fun j hj => ?_) (NoPanic.normal h) _
 obtain ⟨o', ho', hu⟩ := up_of_ready hg hj
 have := onlyUp_get hc ho' (by simpa using hu)
 have := (List.getElem?_eq_some_iff.1 ho').1
 omega
end
end Go.Proofs.YthagmakojbfmaaaDoor
