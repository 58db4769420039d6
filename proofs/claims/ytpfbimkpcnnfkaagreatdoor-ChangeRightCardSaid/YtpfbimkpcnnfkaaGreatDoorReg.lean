/- Regions that draw: my own steps, one law a step (the numbers are printed by fill.py). Nothing of the program. -/
import Derived.Test.YtpfbimkpcnnfkaaGreatDoorBase
import Derived.Deep.RegionHeld3
import Derived.Deep.DrawnRows
set_option linter.unusedVariables false
set_option linter.unusedSimpArgs false
namespace Go.Proofs.YtpfbimkpcnnfkaaGreatDoor
open Go.RowKit
theorem zP (a : Act) (d : Option Tmp) (v : Value) : a.put d v = (match d with | some d => { a with tmps := a.tmps.setIfInBounds d v } | none => a) := rfl
theorem zA {α : Type} (l : List α) (i : Nat) (a : α) : l.toArray.setIfInBounds i a = (l.set i a).toArray := List.setIfInBounds_toArray l i a
theorem zZ {α : Type} (x a : α) (l : List α) : (x :: l).set 0 a = a :: l := rfl
theorem zS {α : Type} (x a : α) (l : List α) (i : Nat) : (x :: l).set (i + 1) a = x :: l.set i a := rfl
structure Gro (B : Nat → Prop) (w w' : World) : Prop where
 os : w'.os = w.os
 tape : w'.tape = w.tape
 output : w'.output = w.output
 size : w.heap.size ≤ w'.heap.size
 block : ∀ k, k < w.heap.size → ¬ B k → w'.heap[k]? = w.heap[k]?
theorem Gro.refl (B : Nat → Prop) (w : World) : Gro B w w := ⟨rfl, rfl, rfl, Nat.le_refl _, fun _ _ _ => rfl⟩
theorem Gro.setCell {B : Nat → Prop} {a w : World} (h : Gro B a w) {p : Addr} (hp : B p.block ∨ a.heap.size ≤ p.block) (u : Value) : Gro B a (w.setCell p u) :=
 ⟨h.os, h.tape, h.output, by have := h.size; simpa [World.setCell] using this, fun k hk hb => (Below.heap_setCell w p u k (by rintro rfl; rcases hp with hp | hp; exact hb hp; omega)).trans (h.block k hk hb)⟩
theorem Gro.drew {B : Nat → Prop} {a w : World} (h : Gro B a w) : Gro B a w.drew := ⟨h.os, h.tape, h.output, h.size, h.block⟩
theorem Gro.drewN {B : Nat → Prop} {a w : World} (h : Gro B a w) (n : Nat) : Gro B a (w.drewN n) := ⟨h.os, h.tape, h.output, h.size, h.block⟩
theorem Gro.below {B : Nat → Prop} {n : Nat} {a w w' : World} (h : Gro B a w) (hb : Below n w w') (hn : a.heap.size ≤ n) : Gro B a w' :=
 ⟨hb.os.trans h.os, hb.tape.trans h.tape, hb.output.trans h.output, Nat.le_trans h.size hb.size, fun k hk hB => (hb.block k (by omega)).trans (h.block k hk hB)⟩
theorem Gro.alloc {B : Nat → Prop} {a w : World} (h : Gro B a w) (o : Obj) : Gro B a (w.alloc o) :=
 h.below (n := w.heap.size) ((Below.refl _ w).alloc (Nat.le_refl _) o) h.size
theorem Below.gro {B : Nat → Prop} {n : Nat} {a w w' : World} (h : Below n a w) (ho : Gro B w w') (hB : ∀ k, B k → n ≤ k) (hn : n ≤ w.heap.size) : Below n a w' :=
 ⟨ho.os.trans h.os, ho.tape.trans h.tape, ho.output.trans h.output, Nat.le_trans h.size ho.size, fun k hk => (ho.block k (by omega) fun hb => by have := hB k hb; omega).trans (h.block k hk)⟩
def bits (n m : Nat) : Array Bool := Array.ofFn (n := n) fun i => m.testBit i
def waitsFor (o : Oper) (j : Nat) : Bool := o.after.any fun e => Region.binds .any e && e.on == j
def pairOk (l : Array Oper) (i : Nat) (oi : Oper) : Nat → List Oper → Bool
 | _, [] => true
 | j, oj :: r => (i == j || waitsFor oj i || waitsFor oi j || Oper.apart l oi oj) && pairOk l i oi (j + 1) r
def ssaFrom (a : Array Oper) (l : List Oper) : Nat → List Oper → Bool
 | _, [] => true
 | i, oi :: r => pairOk a i oi 0 l && ssaFrom a l (i + 1) r
def ssa (l : List Oper) : Bool := Region.noSelect l.toArray && ssaFrom l.toArray l 0 l
section
variable {P : Program} {l l' : List Oper} {Q : Exit → Act → World → Prop} {S : World → Prop}
def Good (n : Nat) (l l' : List Oper) : Prop := l' = l ∧ n = l.length ∧ ssa l = true
def Sch (s : List (Nat × Nat)) (X : Prop) : Prop := X
theorem Sch.go {X : Prop} (s : List (Nat × Nat)) (h : Sch s X) : X := h
theorem Sch.done {X : Prop} (h : X) : Sch [] X := h
end
end Go.Proofs.YtpfbimkpcnnfkaaGreatDoor
