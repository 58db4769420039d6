/- Variables in memory as boxes; what a walk carries along. -/
import Derived.Test.YthagmakojbfmaaaDoorBase
import Derived.Test.YthagmakojbfmaaaDoorLaws
import Derived.Test.YthagmakojbfmaaaDoorReg
import Derived.Test.YthagmakojbfmaaaDoorNm
set_option linter.unusedVariables false
set_option linter.unusedSimpArgs false
namespace Go.Proofs.YthagmakojbfmaaaDoor.Ext
open Go Go.RowKit Go.Proofs.YthagmakojbfmaaaDoor Go.Proofs.YthagmakojbfmaaaDoorW.PrintWords
def Box (w : World) (b : Nat) (cs : Array Value) : Prop := ∃ t, w.heap[b]? = some (.cells cs t (0, 0))
theorem Box.step {w w1 : World} {b : Nat} {cs : Array Value} (h : Box w b cs) (hb : Below w.heap.size w w1) : Box w1 b cs := by
 obtain ⟨t, h⟩ := h
 exact ⟨t, blk_call hb h⟩
theorem Box.isRow {w : World} {b : Nat} {cs : Array Value} (h : Box w b cs) : isRow w b = true := by obtain ⟨t, h⟩ := h; exact isRow_of h
theorem Box.row {w : World} {b : Nat} {cs : Array Value} (h : Box w b cs) : row w b = cs := by obtain ⟨t, h⟩ := h; exact row_of h
theorem Box.lt {w : World} {b : Nat} {cs : Array Value} (h : Box w b cs) : b < w.heap.size := by obtain ⟨t, h⟩ := h; exact (Array.getElem?_eq_some_iff.1 h).1
theorem Box.far {w : World} {b : Nat} {cs : Array Value} (h : Box w b cs) {p : Addr} (hne : b ≠ p.block) (u : Value) : Box (w.setCell p u) b cs := by
 obtain ⟨t, h⟩ := h
 exact ⟨t, blk_far hne h⟩
theorem Box.set {w : World} {b : Nat} {cs : Array Value} (h : Box w b cs) (j : Nat) (v : Value) : Box (w.setCell ⟨b, j, none⟩ v) b (cs.setIfInBounds j v) := by
 obtain ⟨t, h⟩ := h
 exact ⟨t, blk_set h⟩
def Dk (w : World) (A : Option Addr) (l : List S48) : Prop := Kd.C k48 w A l.length l
theorem Dk.step {w w1 : World} {A : Option Addr} {l : List S48} (h : Dk w A l) (hb : Below w.heap.size w w1) : Dk w1 A l := Kd.C_below h hb
def Es (w : World) (A : Option Addr) (l : List S57) : Prop := Kd.C k57 w A l.length l
theorem Es.step {w w1 : World} {A : Option Addr} {l : List S57} (h : Es w A l) (hb : Below w.heap.size w w1) : Es w1 A l := Kd.C_below h hb
def ErrV (w : World) (ev : Value) (no : Int) : Prop := (no = 0 ∧ ev = .nilIface) ∨ (no ≠ 0 ∧ ∃ p, ev = .iface 66 (.pointer (some ⟨p, 0, none⟩)) ∧ Box w p #[.int .i64 no])
theorem ErrV.step {w w1 : World} {ev : Value} {no : Int} (h : ErrV w ev no) (hb : Below w.heap.size w w1) : ErrV w1 ev no := h.imp id fun ⟨h1, p, h2, h3⟩ => ⟨h1, p, h2, h3.step hb⟩
theorem wk_len (k : Wk) (A : Option Addr) (c n : Nat) (m r : Int) : (k.cells A c n m r).size = 14 := rfl
theorem wk_eq (k : Wk) (A : Option Addr) (c n : Nat) (m r : Int) : k.cells A c n m r = #[.slice A n c, .int .i64 m, .int .i64 r, .int .i64 k.who, .int .i64 k.at_, k.parts, .bool k.follow, .bool k.slash, .int .i64 k.hops, .int .i64 k.dir, .string k.name, .int .i64 k.ino, .bool k.slashed, .bool k.over] := rfl
theorem row_setCell_same (w : World) (g i : Nat) (v : Value) (h : isRow w g = true) : row (w.setCell ⟨g, i, none⟩ v) g = (row w g).setIfInBounds i v := by
 obtain ⟨cs, t, h⟩ := isRow_spec h
 rw [row_of (blk_set h), row_of h]
theorem drew_size (w : World) : w.drew.heap.size = w.heap.size := rfl
def hereB (l : List S48) (i : Int) : Int := if getB l i = true then (if (getL l i).f0 = 2 then 0 else 4) else 2
theorem boxAll {w : World} {b : Nat} {cs : Array Value} (h : Box w b cs) : isRow w b = true ∧ row w b = cs ∧ b < w.heap.size ∧ ¬ b = w.heap.size ∧ ¬ w.heap.size = b :=
  ⟨h.isRow, h.row, h.lt, Nat.ne_of_lt h.lt, fun e => Nat.ne_of_lt h.lt e.symm⟩
end Go.Proofs.YthagmakojbfmaaaDoor.Ext
