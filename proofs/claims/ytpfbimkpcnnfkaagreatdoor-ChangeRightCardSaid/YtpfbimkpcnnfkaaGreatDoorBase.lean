/- Words of my own: what a value's cells say (Rp), rows that are read (Row), rows that the call owns (Own). Nothing of the program. -/
import Derived.Below
import Derived.Calls
import Derived.Deep.Draws
import Derived.Maps.AppendAt
import Derived.Laws.OwnMore
import Derived.Laws.Rows
import Derived.Laws.Tables
import Derived.Lib.Hide
import Derived.OwnWalk
set_option linter.unusedVariables false
set_option linter.unusedSimpArgs false
namespace Go.Proofs.YtpfbimkpcnnfkaaGreatDoor
open Go.RowKit
structure Rp (α : Type) where
 sz : Nat
 K : World → (Nat → Prop) → α → List Value → Prop
 len : ∀ {w S x cs}, K w S x cs → cs.length = sz
 one : ∀ {w S x cs}, K w S x cs → ∀ u ∈ cs, u.oneCell' = true
 move : ∀ {w w1 : World} {S x cs}, (∀ k, S k → w1.heap[k]? = w.heap[k]?) → K w S x cs → K w1 S x cs
 weak : ∀ {w : World} {S S' : Nat → Prop} {x cs}, (∀ k, S k → S' k) → K w S x cs → K w S' x cs
def Ext (w w' : World) (S : Nat → Prop) : Nat → Prop := fun k => S k ∨ (w.heap.size ≤ k ∧ k < w'.heap.size)
def Sub (S : Nat → Prop) (w : World) : Prop := ∀ k, S k → k < w.heap.size
theorem Sub.mono {S : Nat → Prop} {w w1 : World} {n : Nat} (h : Sub S w) (hb : Below n w w1) : Sub S w1 := fun k hk => Nat.lt_of_lt_of_le (h k hk) hb.size
theorem Sub.ext {S : Nat → Prop} {w w1 : World} {n : Nat} (h : Sub S w) (hb : Below n w w1) : Sub (Ext w w1 S) w1 := fun k hk => by
 rcases hk with hk | hk
 ·exact Nat.lt_of_lt_of_le (h k hk) hb.size
 ·exact hk.2
def Rp.Row {α : Type} (d : Rp α) (w : World) (S : Nat → Prop) (A : Option Addr) (xs : List α) : Prop :=
 xs.length ≤ maxLen ∧ ∀ k, (h : k < xs.length) → ∃ b off cs, A = some ⟨b, off, none⟩ ∧ S b ∧ d.K w S (xs[k]'h) cs ∧
  ∀ i u, cs[i]? = some u → w.cell? ⟨b, off + (k * d.sz + i), none⟩ = some u
section
variable {α : Type} {d : Rp α} {w w1 : World} {S S' : Nat → Prop} {A : Option Addr} {xs : List α}
theorem Rp.Row.move (h : d.Row w S A xs) (hm : ∀ k, S k → w1.heap[k]? = w.heap[k]?) : d.Row w1 S A xs :=
 ⟨h.1, fun k hk => by
  obtain ⟨b, off, cs, e, hb, hK, hc⟩ := h.2 k hk
  exact ⟨b, off, cs, e, hb, d.move hm hK, fun i u hu => (World.cell?_of_block (hm b hb)).trans (hc i u hu)⟩⟩
theorem Rp.Row.weak (h : d.Row w S A xs) (hm : ∀ k, S k → S' k) : d.Row w S' A xs :=
 ⟨h.1, fun k hk => by
  obtain ⟨b, off, cs, e, hb, hK, hc⟩ := h.2 k hk
  exact ⟨b, off, cs, e, hm b hb, d.weak hm hK, hc⟩⟩
theorem Rp.Row.below {n : Nat} (h : d.Row w S A xs) (hb : Below n w w1) (hS : ∀ k, S k → k < n) : d.Row w1 S A xs := h.move fun k hk => hb.block k (hS k hk)
theorem Rp.Row.nil (d : Rp α) (w : World) (S : Nat → Prop) (A : Option Addr) : d.Row w S A [] := ⟨by simp, fun k hk => by simp at hk⟩
theorem Rp.Row.take (h : d.Row w S A xs) (n : Nat) : d.Row w S A (xs.take n) :=
 ⟨by have := h.1; simp only [List.length_take]; omega, fun k hk => by
  have hk' : k < xs.length := by simp only [List.length_take] at hk; omega
  obtain ⟨b, off, cs, e, hb, hK, hc⟩ := h.2 k hk'
  exact ⟨b, off, cs, e, hb, by rw [List.getElem_take]; exact hK, hc⟩⟩
theorem Rp.Row.drop (h : d.Row w S A xs) (n : Nat) (hn : n ≤ xs.length) : d.Row w S (A.map (·.add (n * d.sz))) (xs.drop n) :=
 ⟨by have := h.1; simp only [List.length_drop]; omega, fun k hk => by
  have hk' : n + k < xs.length := by simp only [List.length_drop] at hk; omega
  obtain ⟨b, off, cs, e, hb, hK, hc⟩ := h.2 (n + k) hk'
  refine ⟨b, off + n * d.sz, cs, by rw [e]; simp only [Option.map_some, Addr.add]; by_cases h0 : n * d.sz = 0 <;> simp [h0], hb, by rw [List.getElem_drop]; exact hK, fun i u hu => ?_⟩
  rw [← hc i u hu, Nat.add_mul]
  congr 2
  omega⟩
end
theorem blk_set {w : World} {g i : Nat} {cs : Array Value} {t : TypeId} {v : Value} (h : w.heap[g]? = some (.cells cs t (0, 0))) : (w.setCell ⟨g, i, none⟩ v).heap[g]? = some (.cells (cs.setIfInBounds i v) t (0, 0)) := heap_setCell_same w g i cs t v h
def row (w : World) (g : Nat) : Array Value := match w.heap[g]? with | some (.cells c _ _) => c | _ => #[]
structure Off (B : Nat → Prop) (w w' : World) : Prop where
 os : w'.os = w.os
 tape : w'.tape = w.tape
 output : w'.output = w.output
 size : w'.heap.size = w.heap.size
 block : ∀ k, ¬ B k → w'.heap[k]? = w.heap[k]?
theorem Off.refl (B : Nat → Prop) (w : World) : Off B w w := ⟨rfl, rfl, rfl, rfl, fun _ _ => rfl⟩
theorem Off.setCell {B : Nat → Prop} {a w : World} (h : Off B a w) {p : Addr} (hp : B p.block) (u : Value) : Off B a (w.setCell p u) :=
 ⟨h.os, h.tape, h.output, by rw [← h.size]; simp [World.setCell], fun k hk => (Below.heap_setCell w p u k (by rintro rfl; exact hk hp)).trans (h.block k hk)⟩
theorem Off.drew {B : Nat → Prop} {a w : World} (h : Off B a w) : Off B a w.drew := ⟨h.os, h.tape, h.output, h.size, h.block⟩
theorem Off.drewN {B : Nat → Prop} {a w : World} (h : Off B a w) (n : Nat) : Off B a (w.drewN n) := ⟨h.os, h.tape, h.output, h.size, h.block⟩
theorem Below.off {B : Nat → Prop} {n : Nat} {a w w' : World} (h : Below n a w) (ho : Off B w w') (hB : ∀ k, B k → n ≤ k) : Below n a w' :=
 ⟨ho.os.trans h.os, ho.tape.trans h.tape, ho.output.trans h.output, by rw [ho.size]; exact h.size, fun k hk => (ho.block k fun hb => by have := hB k hb; omega).trans (h.block k hk)⟩
theorem Code.at_ {P : Program} {c : Code} {Q : Exit → Act → World → Prop} {a : Act} {W : World} (h : ∀ W', W' = W → c.wp P Q a W') : c.wp P Q a W := h W rfl
theorem Calls.at_ {P : Program} {f : FuncId} {args : Array Value} {W : World} {Q : Ending → World → Prop} (h : ∀ W', W' = W → Calls P f args W' Q) : Calls P f args W Q := h W rfl
def Rp.scalar {α : Type} (enc : α → Value) (h1 : ∀ x, (enc x).oneCell' = true) : Rp α where
 sz := 1
 K := fun _ _ x cs => cs = [enc x]
 len := fun h => by rw [h]; rfl
 one := fun h u hu => by rw [h] at hu; rw [List.mem_singleton.1 hu]; exact h1 _
 move := fun _ h => h
 weak := fun _ h => h
def rInt : Rp Int := Rp.scalar (Value.int .i64) fun _ => rfl
theorem Rp.Row.int {w : World} {S : Nat → Prop} {A : Option Addr} {xs : List Int} (h : rInt.Row w S A xs) (k : Nat) (hk : k < xs.length) :
  ∃ b off, A = some ⟨b, off, none⟩ ∧ S b ∧ w.cell? ⟨b, off + k, none⟩ = some (.int .i64 (xs[k]'hk)) := by
 obtain ⟨b, off, cs, e, hb, rfl, hc⟩ := h.2 k hk
 exact ⟨b, off, e, hb, by have := hc 0 _ rfl; simpa [rInt, Rp.scalar] using this⟩
def Rp.Cells {α : Type} (d : Rp α) (w : World) (S : Nat → Prop) (xs : List α) (cs : List Value) : Prop :=
 cs.length = xs.length * d.sz ∧ ∀ k, (h : k < xs.length) → d.K w S (xs[k]'h) ((cs.drop (k * d.sz)).take d.sz)
def Rp.Own {α : Type} (d : Rp α) (e : Nat) (w : World) (base : Nat) (S : Nat → Prop) (v : Value) (xs : List α) : Prop :=
 (∀ k, S k → v.ownBlock ≠ some k) ∧ ∃ cs, w.ownsRow base e d.sz v xs.length cs ∧ d.Cells w S xs cs
section
variable {α : Type} {d : Rp α} {w w1 : World} {S S' : Nat → Prop} {xs ys : List α} {cs ds : List Value}
theorem Rp.Own.move {e base : Nat} {v : Value} (h : d.Own e w base S v xs) (hm : ∀ k, S k → w1.heap[k]? = w.heap[k]?) (hv : ∀ k, v.ownBlock = some k → w1.heap[k]? = w.heap[k]?) : d.Own e w1 base S v xs := by
 obtain ⟨h0, cs, ⟨h1, h2⟩, hc⟩ := h
 refine ⟨h0, cs, ⟨h1, ?_⟩, ⟨hc.1, fun k hk => d.move hm (hc.2 k hk)⟩⟩
 rcases h2 with h2 | ⟨g, cap, cur, rfl, hg, hh, r⟩
 ·exact .inl h2
 ·exact .inr ⟨g, cap, cur, rfl, hg, (hv g (by simp [Value.ownBlock])).trans hh, r⟩
theorem Rp.Cells.nil (d : Rp α) (w : World) (S : Nat → Prop) : d.Cells w S [] [] := ⟨by simp, fun k hk => by simp at hk⟩
theorem Rp.Cells.move (h : d.Cells w S xs cs) (hm : ∀ k, S k → w1.heap[k]? = w.heap[k]?) : d.Cells w1 S xs cs := ⟨h.1, fun k hk => d.move hm (h.2 k hk)⟩
theorem Rp.Cells.weak (h : d.Cells w S xs cs) (hm : ∀ k, S k → S' k) : d.Cells w S' xs cs := ⟨h.1, fun k hk => d.weak hm (h.2 k hk)⟩
theorem Rp.Cells.snoc {x : α} (h : d.Cells w S xs cs) (hx : d.K w S x ds) : d.Cells w S (xs ++ [x]) (cs ++ ds) := by
 have hl := d.len hx
 refine ⟨by rw [List.length_append, h.1, hl, List.length_append, List.length_singleton, Nat.add_mul, Nat.one_mul], fun k hk => ?_⟩
 rcases Nat.lt_or_ge k xs.length with h1 | h1
 ·have h2 : k * d.sz + d.sz ≤ cs.length := by rw [h.1, ← Nat.succ_mul]; exact Nat.mul_le_mul_right _ h1
  have h3 := h.2 k h1
  rw [List.getElem_append_left h1, List.drop_append_of_le_length (by omega), List.take_append_of_le_length (by rw [List.length_drop]; omega)]
  exact h3
 ·have h2 : k = xs.length := by rw [List.length_append, List.length_singleton] at hk; omega
  subst h2
  rw [List.getElem_append_right (Nat.le_refl _), ← h.1, List.drop_left, ← hl, List.take_length]
  simpa using hx
theorem Rp.Cells.one {x : α} (hx : d.K w S x ds) : d.Cells w S [x] ds := by
 have := (Rp.Cells.nil d w S).snoc hx
 simpa using this
theorem Rp.Own.nil (d : Rp α) (e : Nat) (w : World) (base : Nat) (S : Nat → Prop) : d.Own e w base S (.slice none 0 0) [] :=
 ⟨fun k _ h => by simp [Value.ownBlock] at h, [], World.ownsRow_nil _ _ _ _, Rp.Cells.nil _ _ _⟩
end
structure Sl where
 a : Option Addr
 c : Nat
def Rp.Is {α : Type} (d : Rp α) (w : World) (S : Nat → Prop) (s : Sl) (xs : List α) : Prop := xs.length ≤ s.c ∧ d.Row w S s.a xs
theorem Rp.Is.nil {α : Type} (d : Rp α) (w : World) (S : Nat → Prop) (s : Sl) : d.Is w S s [] := ⟨Nat.zero_le _, Rp.Row.nil _ _ _ _⟩
theorem Rp.Is.move {α : Type} {d : Rp α} {w w1 : World} {S : Nat → Prop} {s : Sl} {xs : List α} (h : d.Is w S s xs) (hm : ∀ k, S k → w1.heap[k]? = w.heap[k]?) : d.Is w1 S s xs := ⟨h.1, h.2.move hm⟩
theorem Rp.Is.weak {α : Type} {d : Rp α} {w : World} {S S' : Nat → Prop} {s : Sl} {xs : List α} (h : d.Is w S s xs) (hm : ∀ k, S k → S' k) : d.Is w S' s xs := ⟨h.1, h.2.weak hm⟩
theorem Rp.Is.sub {α : Type} {d : Rp α} {w w1 : World} {S : Nat → Prop} {s : Sl} {xs : List α} (h : d.Is w S s xs) (hs : Sub S w) (hb : Below w.heap.size w w1) : d.Is w1 S s xs := h.move fun k hk => hb.block k (hs k hk)
end Go.Proofs.YtpfbimkpcnnfkaaGreatDoor
