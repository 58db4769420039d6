/- The walker: what a part names. -/
import Derived.Test.YthagmakojbfmaaaDoorGet
/- The walker's small methods. -/
namespace Go.Proofs.YthagmakojbfmaaaDoor.Ext
open Go Go.RowKit Go.Proofs.YthagmakojbfmaaaDoorW.PrintWords
set_option linter.unusedVariables false
set_option linter.unusedSimpArgs false
def haltV (w : World) : Value := .iface 66 (.pointer (some ⟨w.heap.size, 0, none⟩))
def haltW (w : World) (no : Int) : World := w.alloc (.cells #[.int .i64 no] 73)
set_option maxHeartbeats 1000000 in
set_option maxRecDepth 100000 in
theorem halted_calls (no : Int) (w : World) : Calls Tryd.prog 67 #[.int .i64 no] w fun e w' => if no = 0 then e = .returned .nilIface ∧ w' = w else e = .returned (haltV w) ∧ w' = haltW w no := by
 by_cases h : no = 0
 ·have e0 : (no == 0) = true := by simpa using h
  simp only [if_pos h]
  clear h
  go_enter Tryd.func67, Tryd.ntmps67
  go_wp2
  go_ret
  exact ⟨rfl, rfl⟩
 ·have e0 : (no == 0) = false := by simpa using h
  simp only [if_neg h]
  clear h
  go_enter Tryd.func67, Tryd.ntmps67
  go_wp2
  go_ret
  exact ⟨rfl, rfl⟩
structure Wk where
 who : Int
 at_ : Int
 parts : Value
 follow : Bool
 slash : Bool
 hops : Int
 dir : Int
 name : ByteArray
 ino : Int
 slashed : Bool
 over : Bool
def Wk.cells (k : Wk) (A : Option Addr) (c n : Nat) (m r : Int) : Array Value :=
 #[.slice A n c, .int .i64 m, .int .i64 r, .int .i64 k.who, .int .i64 k.at_, k.parts, .bool k.follow, .bool k.slash, .int .i64 k.hops, .int .i64 k.dir, .string k.name, .int .i64 k.ino, .bool k.slashed, .bool k.over]
theorem block_set {W : World} {b t j : Nat} {cs : Array Value} (h : W.heap[b]? = some (.cells cs t (0, 0))) (v : Value) : (W.setCell ⟨b, j, none⟩ v).heap[b]? = some (.cells (cs.setIfInBounds j v) t (0, 0)) := by
 have hlt : b < W.heap.size := (Array.getElem?_eq_some_iff.1 h).1
 unfold World.setCell
 simp only [Array.getElem?_modify, if_pos trivial, h]
 rfl
theorem block_cell {W : World} {b t : Nat} {cs : Array Value} (h : W.heap[b]? = some (.cells cs t (0, 0))) (j : Nat) : W.cell? ⟨b, j, none⟩ = cs[j]? := by
 simp [World.cell?, h]
theorem block_free {W : World} {b t : Nat} {cs : Array Value} (h : W.heap[b]? = some (.cells cs t (0, 0))) (j : Nat) : W.frozen? ⟨b, j, none⟩ = false := by
 simp [World.frozen?, h]
def Isb (b : Nat) (V : World) : Prop := ∃ cs t, V.heap[b]? = some (.cells cs t (0, 0))
theorem Isb.set {b : Nat} {V : World} (h : Isb b V) (j : Nat) (v : Value) : Isb b (V.setCell ⟨b, j, none⟩ v) := by
 obtain ⟨cs, t, h⟩ := h
 exact ⟨_, _, block_set h v⟩
theorem Isb.alloc {b : Nat} {V : World} (h : Isb b V) (o : Obj) : Isb b (V.alloc o) := by
 obtain ⟨cs, t, h⟩ := h
 exact ⟨cs, t, by rw [Below.heap_alloc _ _ _ (Array.getElem?_eq_some_iff.1 h).1]; exact h⟩
theorem Isb.free {b : Nat} {V : World} (h : Isb b V) (j : Nat) : V.frozen? ⟨b, j, none⟩ = false := by
 obtain ⟨cs, t, h⟩ := h
 exact block_free h j
set_option maxHeartbeats 4000000 in
set_option maxRecDepth 100000 in
theorem end_calls (k : Wk) (A : Option Addr) (c n : Nat) (m r : Int) (b : Nat) (s : S28) (w : World) (hb : w.heap[b]? = some (.cells (k.cells A c n m r) 62 (0, 0))) :
  Calls Tryd.prog 39 #[.pointer (some ⟨b, 0, none⟩), .agg #[.int .i64 s.f0, .string s.f1, .int .i64 s.f2, .bool s.f3]] w fun e w' => e = .returned (.tuple #[]) ∧
   w'.heap[b]? = some (.cells ({ k with dir := s.f0, name := s.f1, ino := s.f2, slashed := s.f3, over := true }.cells A c n m r) 62 (0, 0)) ∧ w'.heap.size = w.heap.size + 1 ∧ (w'.os = w.os ∧ w'.tape = w.tape ∧ w'.output = w.output ∧ ∀ j, j < w.heap.size → j ≠ b → w'.heap[j]? = w.heap[j]?) := by
 have hlt : b < w.heap.size := (Array.getElem?_eq_some_iff.1 hb).1
 have i0 : Isb b w := ⟨_, _, hb⟩
 have F1 : ∀ o j, (w.alloc o).frozen? ⟨b, j, none⟩ = false := fun o j => (i0.alloc o).free j
 have F2 : ∀ v o j, ((w.setCell ⟨b, 9, none⟩ v).alloc o).frozen? ⟨b, j, none⟩ = false := fun v o j => ((i0.set 9 v).alloc o).free j
 have F3 : ∀ v v2 o j, (((w.setCell ⟨b, 9, none⟩ v).setCell ⟨b, 10, none⟩ v2).alloc o).frozen? ⟨b, j, none⟩ = false := fun v v2 o j => (((i0.set 9 v).set 10 v2).alloc o).free j
 have F4 : ∀ v v2 v3 o j, ((((w.setCell ⟨b, 9, none⟩ v).setCell ⟨b, 10, none⟩ v2).setCell ⟨b, 11, none⟩ v3).alloc o).frozen? ⟨b, j, none⟩ = false := fun v v2 v3 o j => ((((i0.set 9 v).set 10 v2).set 11 v3).alloc o).free j
 have F5 : ∀ v v2 v3 v4 o j, (((((w.setCell ⟨b, 9, none⟩ v).setCell ⟨b, 10, none⟩ v2).setCell ⟨b, 11, none⟩ v3).setCell ⟨b, 12, none⟩ v4).alloc o).frozen? ⟨b, j, none⟩ = false := fun v v2 v3 v4 o j => (((((i0.set 9 v).set 10 v2).set 11 v3).set 12 v4).alloc o).free j
 have c9 := block_cell hb 9
 have c10 := block_cell hb 10
 have c11 := block_cell hb 11
 have c12 := block_cell hb 12
 have c13 := block_cell hb 13
 unfold Wk.cells at c9 c10 c11 c12 c13
 simp only [List.getElem?_toArray, List.getElem?_cons_succ, List.getElem?_cons_zero] at c9 c10 c11 c12 c13
 have H1 := Lib.hid hb
 clear hb i0
 go_enter Tryd.func39, Tryd.ntmps39
 go_wp2
 go_end0
 have h2 := block_set (j := 13) (block_set (j := 12) (block_set (j := 11) (block_set (j := 10) (block_set (j := 9) H1.out (.int .i64 s.f0)) (.string s.f1)) (.int .i64 s.f2)) (.bool s.f3)) (.bool true)
 refine ⟨rfl, ?_, by simp [World.setCell], rfl, rfl, rfl, fun j hj hne => ?_⟩
 case refine_2 =>
  rw [Below.heap_alloc _ _ _ (by simpa [World.setCell] using hj), Below.heap_setCell _ _ _ j hne, Below.heap_setCell _ _ _ j hne, Below.heap_setCell _ _ _ j hne, Below.heap_setCell _ _ _ j hne, Below.heap_setCell _ _ _ j hne]
 rw [Below.heap_alloc _ _ _ (Array.getElem?_eq_some_iff.1 h2).1, h2]
 rfl
end Go.Proofs.YthagmakojbfmaaaDoor.Ext
namespace Go.Proofs.YthagmakojbfmaaaDoor.Ext
open Go Go.RowKit Go.Proofs.YthagmakojbfmaaaDoorW.PrintWords
set_option linter.unusedVariables false
set_option linter.unusedSimpArgs false
def namedB (at_ : Int) (n : S48) (part : ByteArray) : Int := if part.toList = [46] then at_ else if part.toList = [46, 46] then n.f5 else inoL n.f7 part
set_option maxHeartbeats 4000000 in
set_option maxRecDepth 100000 in
theorem named_calls (k : Wk) (A : Option Addr) (c nn : Nat) (m r : Int) (b : Nat) (n : S48) (A7 : Option Addr) (c7 : Nat) (part : ByteArray) (w : World) (hb : w.heap[b]? = some (.cells (k.cells A c nn m r) 62 (0, 0)))
  (hr : Kd.C k57 w A7 n.f7.length n.f7) (hc : n.f7.length ≤ c7) (hl : n.f7.length ≤ 1000000) (hs : Sorted57 n.f7 part) :
  Calls Tryd.prog 56 #[.pointer (some ⟨b, 0, none⟩), nodeV n A7 c7, .string part] w fun e w' => e = .returned (.int .i64 (namedB k.at_ n part)) ∧ Below w.heap.size w w' := by
 have HF := Lib.hid (fun w' (h : Below w.heap.size w w') => find_calls A7 c7 n.f7 part w' (Kd.C_below hr h) hc hl hs)
 have hlt : b < w.heap.size := (Array.getElem?_eq_some_iff.1 hb).1
 have c4 := block_cell hb 4
 unfold Wk.cells at c4
 simp only [List.getElem?_toArray, List.getElem?_cons_succ, List.getElem?_cons_zero] at c4
 have bl : ∀ o, Below w.heap.size w (w.alloc o) := fun o => (Below.refl _ w).alloc (Nat.le_refl _) o
 have BL := Lib.hid bl
 clear hb hr hc hl hs bl
 unfold namedB nodeV
 by_cases h1 : part.toList = [46]
 ·have e1 : (part.toList == ([46] : List UInt8)) = true := by simpa using h1
  rw [if_pos h1]
  clear h1
  go_enter Tryd.func56, Tryd.ntmps56
  go_wp2
  go_ret
  exact ⟨rfl, BL.out _⟩
 ·have e1 : (part.toList == ([46] : List UInt8)) = false := by simpa using h1
  rw [if_neg h1]
  clear h1
  by_cases h2 : part.toList = [46, 46]
  ·have e2 : (part.toList == ([46, 46] : List UInt8)) = true := by simpa using h2
   rw [if_pos h2]
   clear h2
   go_enter Tryd.func56, Tryd.ntmps56
   go_wp2
   go_ret
   exact ⟨rfl, BL.out _⟩
  ·have e2 : (part.toList == ([46, 46] : List UInt8)) = false := by simpa using h2
   rw [if_neg h2]
   clear h2
   go_enter Tryd.func56, Tryd.ntmps56
   go_wp2_with (go_at_call 66; refine (HF.out _ (BL.out _)).mono ?_; rintro e w' ⟨rfl, hb2⟩)
   go_ret
   exact ⟨rfl, below_step (BL.out _) hb2⟩
end Go.Proofs.YthagmakojbfmaaaDoor.Ext
