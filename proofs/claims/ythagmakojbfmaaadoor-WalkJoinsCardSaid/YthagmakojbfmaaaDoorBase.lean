/- Words of my own: what a value's cells say (Rp), rows that are read (Row), rows that the call owns (Own). Nothing of the program. -/
import Derived.Below
import Derived.Calls
import Derived.Deep.Draws
import Derived.Maps.AppendAt
import Derived.Laws.OwnMore
import Derived.Laws.Rows
import Derived.Laws.Tables
import Derived.Lib.Hide
import Derived.OwnWalk
set_option linter.unusedVariables false
set_option linter.unusedSimpArgs false
namespace Go.Proofs.YthagmakojbfmaaaDoor
open Go.RowKit
structure Rp (α : Type) where
 sz : Nat
 K : World → (Nat → Prop) → α → List Value → Prop
 len : ∀ {w S x cs}, K w S x cs → cs.length = sz
 one : ∀ {w S x cs}, K w S x cs → ∀ u ∈ cs, u.oneCell' = true
 move : ∀ {w w1 : World} {S x cs}, (∀ k, S k → w1.heap[k]? = w.heap[k]?) → K w S x cs → K w1 S x cs
 weak : ∀ {w : World} {S S' : Nat → Prop} {x cs}, (∀ k, S k → S' k) → K w S x cs → K w S' x cs
def Now (w : World) : Nat → Prop := fun k => k < w.heap.size
def Ext (w w' : World) (S : Nat → Prop) : Nat → Prop := fun k => S k ∨ (w.heap.size ≤ k ∧ k < w'.heap.size)
def Sub (S : Nat → Prop) (w : World) : Prop := ∀ k, S k → k < w.heap.size
theorem Sub.mono {S : Nat → Prop} {w w1 : World} {n : Nat} (h : Sub S w) (hb : Below n w w1) : Sub S w1 := fun k hk => Nat.lt_of_lt_of_le (h k hk) hb.size
theorem Sub.ext {S : Nat → Prop} {w w1 : World} {n : Nat} (h : Sub S w) (hb : Below n w w1) : Sub (Ext w w1 S) w1 := fun k hk => by
 rcases hk with hk | hk
 ·exact Nat.lt_of_lt_of_le (h k hk) hb.size
 ·exact hk.2
theorem Sub.now (w : World) : Sub (Now w) w := fun _ h => h
def Rp.Row {α : Type} (d : Rp α) (w : World) (S : Nat → Prop) (A : Option Addr) (xs : List α) : Prop :=
 xs.length ≤ maxLen ∧ ∀ k, (h : k < xs.length) → ∃ b off cs, A = some ⟨b, off, none⟩ ∧ S b ∧ d.K w S (xs[k]'h) cs ∧
  ∀ i u, cs[i]? = some u → w.cell? ⟨b, off + (k * d.sz + i), none⟩ = some u
section
variable {α : Type} {d : Rp α} {w w1 : World} {S S' : Nat → Prop} {A : Option Addr} {xs : List α}
theorem Rp.Row.move (h : d.Row w S A xs) (hm : ∀ k, S k → w1.heap[k]? = w.heap[k]?) : d.Row w1 S A xs :=
 ⟨h.1, fun k hk => by
  obtain ⟨b, off, cs, e, hb, hK, hc⟩ := h.2 k hk
  exact ⟨b, off, cs, e, hb, d.move hm hK, fun i u hu => (World.cell?_of_block (hm b hb)).trans (hc i u hu)⟩⟩
theorem Rp.Row.weak (h : d.Row w S A xs) (hm : ∀ k, S k → S' k) : d.Row w S' A xs :=
 ⟨h.1, fun k hk => by
  obtain ⟨b, off, cs, e, hb, hK, hc⟩ := h.2 k hk
  exact ⟨b, off, cs, e, hm b hb, d.weak hm hK, hc⟩⟩
theorem Rp.Row.below {n : Nat} (h : d.Row w S A xs) (hb : Below n w w1) (hS : ∀ k, S k → k < n) : d.Row w1 S A xs := h.move fun k hk => hb.block k (hS k hk)
theorem Rp.Row.nil (d : Rp α) (w : World) (S : Nat → Prop) (A : Option Addr) : d.Row w S A [] := ⟨by simp, fun k hk => by simp at hk⟩
theorem Rp.Row.take (h : d.Row w S A xs) (n : Nat) : d.Row w S A (xs.take n) :=
 ⟨by have := h.1; simp only [List.length_take]; omega, fun k hk => by
  have hk' : k < xs.length := by simp only [List.length_take] at hk; omega
  obtain ⟨b, off, cs, e, hb, hK, hc⟩ := h.2 k hk'
  exact ⟨b, off, cs, e, hb, by rw [List.getElem_take]; exact hK, hc⟩⟩
theorem Rp.Row.drop (h : d.Row w S A xs) (n : Nat) (hn : n ≤ xs.length) : d.Row w S (A.map (·.add (n * d.sz))) (xs.drop n) :=
 ⟨by have := h.1; simp only [List.length_drop]; omega, fun k hk => by
  have hk' : n + k < xs.length := by simp only [List.length_drop] at hk; omega
  obtain ⟨b, off, cs, e, hb, hK, hc⟩ := h.2 (n + k) hk'
  refine ⟨b, off + n * d.sz, cs, by rw [e]; simp only [Option.map_some, Addr.add]; by_cases h0 : n * d.sz = 0 <;> simp [h0], hb, by rw [List.getElem_drop]; exact hK, fun i u hu => ?_⟩
  rw [← hc i u hu, Nat.add_mul]
  congr 2
  omega⟩
end
theorem blk_new {w : World} {b : Nat} (o : Obj) (h : b = w.heap.size) : (w.alloc o).heap[b]? = some o := by subst h; exact heap_alloc_new w o
theorem blk_old {w : World} {b : Nat} {o : Obj} (h : w.heap[b]? = some o) (o' : Obj) : (w.alloc o').heap[b]? = some o := by
 rw [Below.heap_alloc _ _ _ (by rcases Nat.lt_or_ge b w.heap.size with h1 | h1; exact h1; rw [Array.getElem?_eq_none h1] at h; cases h)]
 exact h
theorem blk_set {w : World} {g i : Nat} {cs : Array Value} {t : TypeId} {v : Value} (h : w.heap[g]? = some (.cells cs t (0, 0))) : (w.setCell ⟨g, i, none⟩ v).heap[g]? = some (.cells (cs.setIfInBounds i v) t (0, 0)) := heap_setCell_same w g i cs t v h
theorem blk_far {w : World} {a : Addr} {k : Nat} {v : Value} {o : Option Obj} (hne : k ≠ a.block) (h : w.heap[k]? = o) : (w.setCell a v).heap[k]? = o := (heap_setCell_other w a k v hne).trans h
theorem blk_row {w : World} {g : Nat} {old cs : Array Value} {t : TypeId} {fr : Nat × Nat} (h : w.heap[g]? = some (.cells old t fr)) : (w.setRow g cs).heap[g]? = some (.cells cs t fr) := setRow_heap w g old cs t fr h
theorem blk_drew {w : World} {k : Nat} {o : Option Obj} (h : w.heap[k]? = o) : w.drew.heap[k]? = o := h
theorem blk_call {W w1 : World} {b : Nat} {o : Obj} (hb : Below W.heap.size W w1) (h : W.heap[b]? = some o) : w1.heap[b]? = some o := by
 rw [hb.block b (by rcases Nat.lt_or_ge b W.heap.size with h1 | h1; exact h1; rw [Array.getElem?_eq_none h1] at h; cases h)]
 exact h
theorem ne_l2 (n : Nat) : (n = n + 1 + 1) = False := by simp only [eq_iff_iff, iff_false]; omega
theorem ne_r2 (n : Nat) : (n + 1 + 1 = n) = False := by simp only [eq_iff_iff, iff_false]; omega
theorem ne_l3 (n : Nat) : (n = n + 1 + 1 + 1) = False := by simp only [eq_iff_iff, iff_false]; omega
theorem ne_r3 (n : Nat) : (n + 1 + 1 + 1 = n) = False := by simp only [eq_iff_iff, iff_false]; omega
theorem ne_l4 (n : Nat) : (n = n + 1 + 1 + 1 + 1) = False := by simp only [eq_iff_iff, iff_false]; omega
theorem ne_r4 (n : Nat) : (n + 1 + 1 + 1 + 1 = n) = False := by simp only [eq_iff_iff, iff_false]; omega
theorem ne_l5 (n : Nat) : (n = n + 1 + 1 + 1 + 1 + 1) = False := by simp only [eq_iff_iff, iff_false]; omega
theorem ne_r5 (n : Nat) : (n + 1 + 1 + 1 + 1 + 1 = n) = False := by simp only [eq_iff_iff, iff_false]; omega
theorem ne_l6 (n : Nat) : (n = n + 1 + 1 + 1 + 1 + 1 + 1) = False := by simp only [eq_iff_iff, iff_false]; omega
theorem ne_r6 (n : Nat) : (n + 1 + 1 + 1 + 1 + 1 + 1 = n) = False := by simp only [eq_iff_iff, iff_false]; omega
theorem ne_l7 (n : Nat) : (n = n + 1 + 1 + 1 + 1 + 1 + 1 + 1) = False := by simp only [eq_iff_iff, iff_false]; omega
theorem ne_r7 (n : Nat) : (n + 1 + 1 + 1 + 1 + 1 + 1 + 1 = n) = False := by simp only [eq_iff_iff, iff_false]; omega
theorem ne_l8 (n : Nat) : (n = n + 1 + 1 + 1 + 1 + 1 + 1 + 1 + 1) = False := by simp only [eq_iff_iff, iff_false]; omega
theorem ne_r8 (n : Nat) : (n + 1 + 1 + 1 + 1 + 1 + 1 + 1 + 1 = n) = False := by simp only [eq_iff_iff, iff_false]; omega
def isRow (w : World) (g : Nat) : Bool := match w.heap[g]? with | some (.cells _ _ fr) => fr == (0, 0) | _ => false
theorem isRow_of {w : World} {g t : Nat} {cs : Array Value} (h : w.heap[g]? = some (.cells cs t (0, 0))) : isRow w g = true := by simp [isRow, h]
theorem isRow_spec {w : World} {g : Nat} (h : isRow w g = true) : ∃ cs t, w.heap[g]? = some (.cells cs t (0, 0)) := by
 unfold isRow at h
 split at h
 ·rename_i c t fr hh
  have h := eq_of_beq h
  subst h
  exact ⟨c, t, hh⟩
 ·cases h
theorem isRow_setRow (w : World) (g b : Nat) (cs : Array Value) : isRow (w.setRow g cs) b = isRow w b := by
 unfold isRow World.setRow
 simp only [Array.getElem?_modify]
 by_cases h : g = b
 ·rw [if_pos h]
  rcases w.heap[b]? with _ | o
  ·rfl
  ·cases o <;> rfl
 ·rw [if_neg h]
theorem isRow_setCell (w : World) (a : Addr) (b : Nat) (v : Value) : isRow (w.setCell a v) b = isRow w b := by
 unfold isRow World.setCell
 simp only [Array.getElem?_modify]
 by_cases h : a.block = b
 ·rw [if_pos h]
  rcases w.heap[b]? with _ | o
  ·rfl
  ·cases o <;> rfl
 ·rw [if_neg h]
theorem isRow_frozen {w : World} {g : Nat} (h : isRow w g = true) (o : Nat) : w.frozen? ⟨g, o, none⟩ = false := by
 obtain ⟨cs, t, hh⟩ := isRow_spec h
 simp [World.frozen?, hh]
theorem world_ext {w w' : World} (h : ∀ k : Nat, w'.heap[k]? = w.heap[k]?) (ht : w'.tape = w.tape) (hd : w'.drawn = w.drawn) (ho : w'.os = w.os) (hu : w'.output = w.output) : w' = w := by
 have : w'.heap = w.heap := Array.ext_getElem? h
 cases w; cases w'; simp_all
theorem setCell_setRow_same (w : World) (g i : Nat) (cs : Array Value) (v : Value) : (w.setRow g cs).setCell ⟨g, i, none⟩ v = w.setRow g (cs.setIfInBounds i v) := by
 refine world_ext (fun k => ?_) rfl rfl rfl rfl
 unfold World.setRow World.setCell
 simp only [Array.getElem?_modify]
 by_cases h : g = k
 ·simp only [if_pos h]
  rcases w.heap[k]? with _ | o
  ·rfl
  ·cases o <;> rfl
 ·simp only [if_neg h]
theorem setCell_setRow_other (w : World) (g b i : Nat) (cs : Array Value) (v : Value) (h : b ≠ g) : (w.setRow g cs).setCell ⟨b, i, none⟩ v = (w.setCell ⟨b, i, none⟩ v).setRow g cs := by
 refine world_ext (fun k => ?_) rfl rfl rfl rfl
 unfold World.setRow World.setCell
 simp only [Array.getElem?_modify]
 by_cases h1 : b = k
 ·have h2 : ¬ g = k := by omega
  simp only [if_pos h1, if_neg h2]
 ·simp only [if_neg h1]
theorem cell_setRow_same' (w : World) (g i : Nat) (cs : Array Value) (h : isRow w g = true) : (w.setRow g cs).cell? ⟨g, i, none⟩ = cs[i]? := by
 obtain ⟨c, t, hh⟩ := isRow_spec h
 exact cell_setRow_same w g i c cs t _ hh
theorem cell_setRow_other' (w : World) (g b i : Nat) (cs : Array Value) (h : b ≠ g) : (w.setRow g cs).cell? ⟨b, i, none⟩ = w.cell? ⟨b, i, none⟩ := cell_setRow_other w g cs _ h
theorem frozen_setRow' (w : World) (g : Nat) (cs : Array Value) (a : Addr) : (w.setRow g cs).frozen? a = w.frozen? a := by
 unfold World.frozen? World.setRow
 simp only [Array.getElem?_modify]
 by_cases h : g = a.block
 ·rw [if_pos h]
  rcases w.heap[a.block]? with _ | o
  ·rfl
  ·cases o <;> rfl
 ·rw [if_neg h]
def row (w : World) (g : Nat) : Array Value := match w.heap[g]? with | some (.cells c _ _) => c | _ => #[]
def rowSz (w : World) (g n : Nat) : Bool := match w.heap[g]? with | some (.cells c _ fr) => c.size == n && fr == (0, 0) | _ => false
theorem row_of {w : World} {g t : Nat} {cs : Array Value} {fr : Nat × Nat} (h : w.heap[g]? = some (.cells cs t fr)) : row w g = cs := by simp [row, h]
theorem rowSz_of {w : World} {g t : Nat} {cs : Array Value} (h : w.heap[g]? = some (.cells cs t (0, 0))) (n : Nat) : rowSz w g n = (cs.size == n) := by simp [rowSz, h]
theorem row_setRow_same (w : World) (g : Nat) (cs : Array Value) (h : isRow w g = true) : row (w.setRow g cs) g = cs := by
 obtain ⟨c, t, hh⟩ := isRow_spec h
 exact row_of (setRow_heap w g c cs t _ hh)
theorem row_setRow_other (w : World) (g b : Nat) (cs : Array Value) (h : b ≠ g) : row (w.setRow g cs) b = row w b := by
 unfold row; rw [setRow_other w g b cs h]
theorem rowSz_setRow_same (w : World) (g n : Nat) (cs : Array Value) (h : isRow w g = true) : rowSz (w.setRow g cs) g n = (cs.size == n) := by
 obtain ⟨c, t, hh⟩ := isRow_spec h
 exact rowSz_of (setRow_heap w g c cs t _ hh) n
theorem rowSz_setRow_other (w : World) (g b n : Nat) (cs : Array Value) (h : b ≠ g) : rowSz (w.setRow g cs) b n = rowSz w b n := by
 unfold rowSz; rw [setRow_other w g b cs h]
theorem setRow_setRow_same' (w : World) (g : Nat) (a b : Array Value) : (w.setRow g a).setRow g b = w.setRow g b := setRow_setRow w g a b
theorem setRow_comm' (w : World) (g b : Nat) (cs ds : Array Value) (h : b < g) : (w.setRow g cs).setRow b ds = (w.setRow b ds).setRow g cs := by
 refine world_ext (fun k => ?_) rfl rfl rfl rfl
 unfold World.setRow
 simp only [Array.getElem?_modify]
 by_cases h1 : b = k
 ·have h2 : ¬ g = k := by omega
  simp only [if_pos h1, if_neg h2]
 ·simp only [if_neg h1]
theorem cell_isRow {w : World} {g : Nat} (h : isRow w g = true) (i : Nat) : w.cell? ⟨g, i, none⟩ = (row w g)[i]? := by
 obtain ⟨cs, t, hh⟩ := isRow_spec h
 rw [row_of hh, cell_of_row w g i cs t _ hh]
theorem rowSz_isRow {w : World} {g : Nat} (h : isRow w g = true) (n : Nat) : rowSz w g n = ((row w g).size == n) := by
 obtain ⟨cs, t, hh⟩ := isRow_spec h
 rw [row_of hh, rowSz_of hh]
def isHead : Value → Bool | .pointer (some ⟨_, o, s⟩) => o == 0 && s == none | _ => false
def blockOf : Value → Nat | .pointer (some a) => a.block | _ => 0
theorem isHead_ptr (g : Nat) : isHead (.pointer (some ⟨g, 0, none⟩)) = true := rfl
theorem blockOf_ptr (a : Addr) : blockOf (.pointer (some a)) = a.block := rfl
theorem heap_alloc_if (w : World) (o : Obj) (g : Nat) : (w.alloc o).heap[g]? = if g = w.heap.size then some o else w.heap[g]? := by
 by_cases h : g = w.heap.size
 ·rw [if_pos h, h]; exact heap_alloc_new w o
 ·rw [if_neg h]
  rcases Nat.lt_or_ge g w.heap.size with h1 | h1
  ·exact heap_alloc_old w o g h1
  ·rw [Array.getElem?_eq_none h1, Array.getElem?_eq_none]
   simp; omega
theorem row_alloc (w : World) (cs : Array Value) (t : TypeId) (fr : Nat × Nat) (g : Nat) : row (w.alloc (.cells cs t fr)) g = if g = w.heap.size then cs else row w g := by
 unfold row; rw [heap_alloc_if]; by_cases h : g = w.heap.size <;> simp only [h, if_true, if_false]
theorem isRow_alloc (w : World) (cs : Array Value) (t : TypeId) (g : Nat) : isRow (w.alloc (.cells cs t (0, 0))) g = if g = w.heap.size then true else isRow w g := by
 unfold isRow; rw [heap_alloc_if]; by_cases h : g = w.heap.size <;> simp [h]
theorem rowSz_alloc (w : World) (cs : Array Value) (t : TypeId) (g n : Nat) : rowSz (w.alloc (.cells cs t (0, 0))) g n = if g = w.heap.size then cs.size == n else rowSz w g n := by
 unfold rowSz; rw [heap_alloc_if]; by_cases h : g = w.heap.size <;> simp [h]
theorem setRow_alloc (w : World) (c cs : Array Value) (t : TypeId) (fr : Nat × Nat) (g : Nat) : (w.alloc (.cells c t fr)).setRow g cs = if g = w.heap.size then w.alloc (.cells cs t fr) else (w.setRow g cs).alloc (.cells c t fr) := by
 by_cases h : g = w.heap.size
 ·rw [if_pos h]
  refine world_ext (fun k => ?_) rfl rfl rfl rfl
  rw [heap_alloc_if]
  unfold World.setRow
  simp only [Array.getElem?_modify]
  rw [heap_alloc_if]
  by_cases h1 : k = w.heap.size
  ·rw [if_pos h1, if_pos (by omega), if_pos h1]; rfl
  ·rw [if_neg h1, if_neg (by omega), if_neg h1]
 ·rw [if_neg h]
  refine world_ext (fun k => ?_) rfl rfl rfl rfl
  rw [heap_alloc_if]
  unfold World.setRow
  simp only [Array.getElem?_modify, Array.size_modify]
  rw [heap_alloc_if]
  by_cases h1 : k = w.heap.size
  ·rw [if_pos h1, if_neg (by omega), if_pos h1]
  ·rw [if_neg h1, if_neg h1]
theorem heap_of_row {w : World} {g n : Nat} (h : rowSz w g n = true) : ∃ t, w.heap[g]? = some (.cells (row w g) t (0, 0)) ∧ (row w g).size = n := by
 unfold rowSz at h
 split at h
 ·rename_i c t fr hh
  obtain ⟨h1, h2⟩ := Bool.and_eq_true_iff.1 h
  have h2 := eq_of_beq h2
  subst h2
  rw [row_of hh]
  exact ⟨t, hh, eq_of_beq h1⟩
 ·cases h
structure Off (B : Nat → Prop) (w w' : World) : Prop where
 os : w'.os = w.os
 tape : w'.tape = w.tape
 output : w'.output = w.output
 size : w'.heap.size = w.heap.size
 block : ∀ k, ¬ B k → w'.heap[k]? = w.heap[k]?
theorem Off.refl (B : Nat → Prop) (w : World) : Off B w w := ⟨rfl, rfl, rfl, rfl, fun _ _ => rfl⟩
theorem Off.setCell {B : Nat → Prop} {a w : World} (h : Off B a w) {p : Addr} (hp : B p.block) (u : Value) : Off B a (w.setCell p u) :=
 ⟨h.os, h.tape, h.output, by rw [← h.size]; simp [World.setCell], fun k hk => (Below.heap_setCell w p u k (by rintro rfl; exact hk hp)).trans (h.block k hk)⟩
theorem Off.setRow {B : Nat → Prop} {a w : World} (h : Off B a w) {g : Nat} (hp : B g) (cs : Array Value) : Off B a (w.setRow g cs) :=
 ⟨h.os, h.tape, h.output, by rw [← h.size]; simp, fun k hk => (setRow_other w g k cs (by rintro rfl; exact hk hp)).trans (h.block k hk)⟩
theorem Off.drew {B : Nat → Prop} {a w : World} (h : Off B a w) : Off B a w.drew := ⟨h.os, h.tape, h.output, h.size, h.block⟩
theorem Off.drewN {B : Nat → Prop} {a w : World} (h : Off B a w) (n : Nat) : Off B a (w.drewN n) := ⟨h.os, h.tape, h.output, h.size, h.block⟩
theorem Below.setRow_ {B : Nat} {a w : World} (h : Below B a w) {g : Nat} (hg : B ≤ g) (cs : Array Value) : Below B a (w.setRow g cs) :=
 ⟨h.os, h.tape, h.output, by simpa using h.size, fun k hk => (setRow_other w g k cs (by omega)).trans (h.block k hk)⟩
theorem Below.drewN_ {B : Nat} {a w : World} (h : Below B a w) (n : Nat) : Below B a (w.drewN n) := ⟨h.os, h.tape, h.output, h.size, h.block⟩
theorem Below.off {B : Nat → Prop} {n : Nat} {a w w' : World} (h : Below n a w) (ho : Off B w w') (hB : ∀ k, B k → n ≤ k) : Below n a w' :=
 ⟨ho.os.trans h.os, ho.tape.trans h.tape, ho.output.trans h.output, by rw [ho.size]; exact h.size, fun k hk => (ho.block k fun hb => by have := hB k hb; omega).trans (h.block k hk)⟩
theorem isRow_call {W w1 : World} {g : Nat} (hb : Below W.heap.size W w1) (h : isRow W g = true) : isRow w1 g = true := by
 obtain ⟨cs, t, hh⟩ := isRow_spec h
 exact isRow_of (blk_call hb hh)
theorem row_call {W w1 : World} {g : Nat} {cs : Array Value} (hb : Below W.heap.size W w1) (h : isRow W g = true) (hr : row W g = cs) : row w1 g = cs := by
 obtain ⟨c, t, hh⟩ := isRow_spec h
 rw [row_of (blk_call hb hh), ← hr, row_of hh]
theorem isRow_drew (w : World) (g : Nat) : isRow w.drew g = isRow w g := rfl
theorem row_drew (w : World) (g : Nat) : row w.drew g = row w g := rfl
theorem isRow_drewN (w : World) (n g : Nat) : isRow (w.drewN n) g = isRow w g := rfl
theorem row_drewN (w : World) (n g : Nat) : row (w.drewN n) g = row w g := rfl
theorem Code.at_ {P : Program} {c : Code} {Q : Exit → Act → World → Prop} {a : Act} {W : World} (h : ∀ W', W' = W → c.wp P Q a W') : c.wp P Q a W := h W rfl
theorem Calls.at_ {P : Program} {f : FuncId} {args : Array Value} {W : World} {Q : Ending → World → Prop} (h : ∀ W', W' = W → Calls P f args W' Q) : Calls P f args W Q := h W rfl
def Rp.scalar {α : Type} (enc : α → Value) (h1 : ∀ x, (enc x).oneCell' = true) : Rp α where
 sz := 1
 K := fun _ _ x cs => cs = [enc x]
 len := fun h => by rw [h]; rfl
 one := fun h u hu => by rw [h] at hu; rw [List.mem_singleton.1 hu]; exact h1 _
 move := fun _ h => h
 weak := fun _ h => h
def rInt : Rp Int := Rp.scalar (Value.int .i64) fun _ => rfl
def rStr : Rp ByteArray := Rp.scalar Value.string fun _ => rfl
theorem Rp.Row.int {w : World} {S : Nat → Prop} {A : Option Addr} {xs : List Int} (h : rInt.Row w S A xs) (k : Nat) (hk : k < xs.length) :
  ∃ b off, A = some ⟨b, off, none⟩ ∧ S b ∧ w.cell? ⟨b, off + k, none⟩ = some (.int .i64 (xs[k]'hk)) := by
 obtain ⟨b, off, cs, e, hb, rfl, hc⟩ := h.2 k hk
 exact ⟨b, off, e, hb, by have := hc 0 _ rfl; simpa [rInt, Rp.scalar] using this⟩
theorem Rp.Row.str {w : World} {S : Nat → Prop} {A : Option Addr} {xs : List ByteArray} (h : rStr.Row w S A xs) (k : Nat) (hk : k < xs.length) :
  ∃ b off, A = some ⟨b, off, none⟩ ∧ S b ∧ w.cell? ⟨b, off + k, none⟩ = some (.string (xs[k]'hk)) := by
 obtain ⟨b, off, cs, e, hb, rfl, hc⟩ := h.2 k hk
 exact ⟨b, off, e, hb, by have := hc 0 _ rfl; simpa [rStr, Rp.scalar] using this⟩
def Rp.Cells {α : Type} (d : Rp α) (w : World) (S : Nat → Prop) (xs : List α) (cs : List Value) : Prop :=
 cs.length = xs.length * d.sz ∧ ∀ k, (h : k < xs.length) → d.K w S (xs[k]'h) ((cs.drop (k * d.sz)).take d.sz)
def Rp.Own {α : Type} (d : Rp α) (e : Nat) (w : World) (base : Nat) (S : Nat → Prop) (v : Value) (xs : List α) : Prop :=
 (∀ k, S k → v.ownBlock ≠ some k) ∧ ∃ cs, w.ownsRow base e d.sz v xs.length cs ∧ d.Cells w S xs cs
section
variable {α : Type} {d : Rp α} {w w1 : World} {S S' : Nat → Prop} {xs ys : List α} {cs ds : List Value}
theorem Rp.Own.move {e base : Nat} {v : Value} (h : d.Own e w base S v xs) (hm : ∀ k, S k → w1.heap[k]? = w.heap[k]?) (hv : ∀ k, v.ownBlock = some k → w1.heap[k]? = w.heap[k]?) : d.Own e w1 base S v xs := by
 obtain ⟨h0, cs, ⟨h1, h2⟩, hc⟩ := h
 refine ⟨h0, cs, ⟨h1, ?_⟩, ⟨hc.1, fun k hk => d.move hm (hc.2 k hk)⟩⟩
 rcases h2 with h2 | ⟨g, cap, cur, rfl, hg, hh, r⟩
 ·exact .inl h2
 ·exact .inr ⟨g, cap, cur, rfl, hg, (hv g (by simp [Value.ownBlock])).trans hh, r⟩
theorem Rp.Cells.nil (d : Rp α) (w : World) (S : Nat → Prop) : d.Cells w S [] [] := ⟨by simp, fun k hk => by simp at hk⟩
theorem Rp.Cells.move (h : d.Cells w S xs cs) (hm : ∀ k, S k → w1.heap[k]? = w.heap[k]?) : d.Cells w1 S xs cs := ⟨h.1, fun k hk => d.move hm (h.2 k hk)⟩
theorem Rp.Cells.weak (h : d.Cells w S xs cs) (hm : ∀ k, S k → S' k) : d.Cells w S' xs cs := ⟨h.1, fun k hk => d.weak hm (h.2 k hk)⟩
theorem Rp.Cells.snoc {x : α} (h : d.Cells w S xs cs) (hx : d.K w S x ds) : d.Cells w S (xs ++ [x]) (cs ++ ds) := by
 have hl := d.len hx
 refine ⟨by rw [List.length_append, h.1, hl, List.length_append, List.length_singleton, Nat.add_mul, Nat.one_mul], fun k hk => ?_⟩
 rcases Nat.lt_or_ge k xs.length with h1 | h1
 ·have h2 : k * d.sz + d.sz ≤ cs.length := by rw [h.1, ← Nat.succ_mul]; exact Nat.mul_le_mul_right _ h1
  have h3 := h.2 k h1
  rw [List.getElem_append_left h1, List.drop_append_of_le_length (by omega), List.take_append_of_le_length (by rw [List.length_drop]; omega)]
  exact h3
 ·have h2 : k = xs.length := by rw [List.length_append, List.length_singleton] at hk; omega
  subst h2
  rw [List.getElem_append_right (Nat.le_refl _), ← h.1, List.drop_left, ← hl, List.take_length]
  simpa using hx
theorem Rp.Cells.one {x : α} (hx : d.K w S x ds) : d.Cells w S [x] ds := by
 have := (Rp.Cells.nil d w S).snoc hx
 simpa using this
theorem Rp.Own.nil (d : Rp α) (e : Nat) (w : World) (base : Nat) (S : Nat → Prop) : d.Own e w base S (.slice none 0 0) [] :=
 ⟨fun k _ h => by simp [Value.ownBlock] at h, [], World.ownsRow_nil _ _ _ _, Rp.Cells.nil _ _ _⟩
theorem Rp.Own.reads0 {e base : Nat} {v : Value} (h : d.Own e w base S v xs) :
  ∃ A c, v = .slice A xs.length c ∧ d.Row w (fun k => S k ∨ v.ownBlock = some k) A xs := by
 obtain ⟨_, cs, ho, hl, hK⟩ := h
 obtain ⟨hlen, ⟨rfl, h0⟩ | ⟨g, cap, cur, rfl, hg, hh, hn, hm, hcs, ht⟩⟩ := ho
 ·have : xs = [] := List.eq_nil_of_length_eq_zero h0
  subst this
  exact ⟨none, 0, rfl, Rp.Row.nil _ _ _ _⟩
 ·refine ⟨_, cap, rfl, ?_, fun k hk => ?_⟩
  ·exact Nat.le_trans hn hm
  ·refine ⟨g, 0, _, rfl, .inr rfl, d.weak (fun _ h => .inl h) (hK k hk), fun i u hu => ?_⟩
   rw [List.getElem?_take] at hu
   split at hu
   ·rw [List.getElem?_drop, ← ht, List.getElem?_take] at hu
    split at hu
    ·rw [Nat.zero_add, cell_of_row w g _ cur e (0, 0) hh, ← Array.getElem?_toList]
     exact hu
    ·cases hu
   ·cases hu
theorem Rp.Row.raw {A : Option Addr} (h : d.Row w S A xs) :
  ∃ cs, d.Cells w S xs cs ∧ (∀ u ∈ cs, u.oneCell' = true) ∧ ∀ b, A = some b → ∀ j u, cs[j]? = some u → w.cell? (b.add j) = some u := by
 have key : ∀ n, n ≤ xs.length → ∃ cs, d.Cells w S (xs.take n) cs ∧ (∀ u ∈ cs, u.oneCell' = true) ∧ ∀ b, A = some b → ∀ j u, cs[j]? = some u → w.cell? (b.add j) = some u := by
  intro n
  induction n with
  | zero => exact fun _ => ⟨[], Rp.Cells.nil _ _ _, by simp, by simp⟩
  | succ n ih =>
   intro hn
   obtain ⟨cs, h1, h2, h3⟩ := ih (by omega)
   obtain ⟨b, off, ds, e, hb, hK, hc⟩ := h.2 n (by omega)
   refine ⟨cs ++ ds, ?_, ?_, ?_⟩
   ·rw [List.take_succ_eq_append_getElem (by omega)]
    exact h1.snoc hK
   ·intro u hu
    rcases List.mem_append.1 hu with hu | hu
    ·exact h2 u hu
    ·exact d.one hK u hu
   ·intro b' e' j u hu
    rw [e] at e'
    injection e' with e'
    subst e'
    have hl : cs.length = n * d.sz := by rw [h1.1, List.length_take, Nat.min_eq_left (by omega)]
    rcases Nat.lt_or_ge j cs.length with hj | hj
    ·rw [List.getElem?_append_left hj] at hu
     exact h3 _ e j u hu
    ·rw [List.getElem?_append_right hj] at hu
     have := hc (j - cs.length) u hu
     rw [show off + (n * d.sz + (j - cs.length)) = off + j from by omega] at this
     unfold Addr.add
     by_cases h0 : j = 0
     ·subst h0; simpa using this
     ·rw [if_neg h0]; exact this
 have := key xs.length (Nat.le_refl _)
 rwa [List.take_length] at this
end
structure Sl where
 a : Option Addr
 c : Nat
def Rp.Is {α : Type} (d : Rp α) (w : World) (S : Nat → Prop) (s : Sl) (xs : List α) : Prop := xs.length ≤ s.c ∧ d.Row w S s.a xs
theorem Rp.Is.nil {α : Type} (d : Rp α) (w : World) (S : Nat → Prop) (s : Sl) : d.Is w S s [] := ⟨Nat.zero_le _, Rp.Row.nil _ _ _ _⟩
theorem Rp.Is.move {α : Type} {d : Rp α} {w w1 : World} {S : Nat → Prop} {s : Sl} {xs : List α} (h : d.Is w S s xs) (hm : ∀ k, S k → w1.heap[k]? = w.heap[k]?) : d.Is w1 S s xs := ⟨h.1, h.2.move hm⟩
theorem Rp.Is.weak {α : Type} {d : Rp α} {w : World} {S S' : Nat → Prop} {s : Sl} {xs : List α} (h : d.Is w S s xs) (hm : ∀ k, S k → S' k) : d.Is w S' s xs := ⟨h.1, h.2.weak hm⟩
theorem Rp.Is.sub {α : Type} {d : Rp α} {w w1 : World} {S : Nat → Prop} {s : Sl} {xs : List α} (h : d.Is w S s xs) (hs : Sub S w) (hb : Below w.heap.size w w1) : d.Is w1 S s xs := h.move fun k hk => hb.block k (hs k hk)
end Go.Proofs.YthagmakojbfmaaaDoor
