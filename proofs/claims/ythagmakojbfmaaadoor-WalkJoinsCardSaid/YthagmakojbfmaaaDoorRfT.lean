/- The reference's functions on disks, as the print tells them: each one comes to an end, and what is wanted of what it answers. -/
import Derived.Test.YthagmakojbfmaaaDoorRf4
set_option linter.unusedVariables false
set_option linter.unusedSimpArgs false
namespace Go.Proofs.YthagmakojbfmaaaDoor.Ext
open Go Go.RowKit Go.Proofs.YthagmakojbfmaaaDoor Go.Proofs.YthagmakojbfmaaaDoorW.PrintWords Go.Proofs.YthagmakojbfmaaaDoor.Pright
theorem wrap_succ {x : Int} (h0 : 0 ≤ x) (h1 : x ≤ 1000000000000000) : wrap64 (x + 1) = x + 1 := by unfold wrap64; omega
def entC (e : S57) : S80 := ⟨e.f0, e.f1⟩
def nodeC (n : S48) : S54 := ⟨n.f0, n.f1, n.f2, n.f3, n.f4, n.f5, n.f6, n.f7.map entC⟩
theorem take_succ_map {α β : Type} (f : α → β) (l : List α) (z : α) (i : Nat) (h : i < l.length) : (l.take i).map f ++ [f (l.getD i z)] = (l.take (i + 1)).map f := by
 rw [List.take_succ_eq_append_getElem h, List.map_append]
 simp [List.getD_eq_getElem?_getD, List.getElem?_eq_getElem h]
theorem node_loop (a0 a1 a2 a3 a4 a5 : Int) (a6 : ByteArray) (l : List S57) (hl : l.length ≤ 1000000) : ∀ (m k i : Nat), i + m = l.length → m < k →
  flagstonelaw07_node.l0 k i a0 a1 a2 a3 a4 a5 a6 l a0 a1 a2 a3 a4 a5 a6 ((l.take i).map entC) = some (a0, a1, a2, a3, a4, a5, a6, l.map entC) := by
 intro m
 induction m with
 | zero =>
  intro k i hi hk
  obtain ⟨k, rfl⟩ : ∃ q, k = q + 1 := ⟨k - 1, by omega⟩
  unfold flagstonelaw07_node.l0
  rw [if_neg (by omega), List.take_of_length_le (by omega)]
 | succ m ih =>
  intro k i hi hk
  obtain ⟨k, rfl⟩ : ∃ q, k = q + 1 := ⟨k - 1, by omega⟩
  unfold flagstonelaw07_node.l0
  rw [if_pos (by omega), if_pos (by omega), if_pos (by simp; omega), wrap_succ (by omega) (by omega)]
  have e : (l.take i).map entC ++ [(⟨(rd_T57 l i).f0, (rd_T57 l i).f1⟩ : S80)] = (l.take (i + 1)).map entC := take_succ_map entC l z57 i (by omega)
  rw [e, show ((i : Int) + 1) = ((i + 1 : Nat) : Int) by omega]
  exact ih k (i + 1) (by omega) (by omega)
theorem node_f (n : S48) (k : Nat) (hl : n.f7.length ≤ 1000000) (hk : n.f7.length < k) :
  flagstonelaw07_node.f k n.f0 n.f1 n.f2 n.f3 n.f4 n.f5 n.f6 n.f7 = some ((nodeC n).f0, (nodeC n).f1, (nodeC n).f2, (nodeC n).f3, (nodeC n).f4, (nodeC n).f5, (nodeC n).f6, (nodeC n).f7) :=
 node_loop n.f0 n.f1 n.f2 n.f3 n.f4 n.f5 n.f6 n.f7 hl n.f7.length k 0 (by omega) hk
def Small (l : List S48) : Prop := l.length ≤ 100 ∧ ∀ n, n ∈ l → n.f7.length ≤ 60 ∧ n.f6.size ≤ 300
theorem its_loop (m r : Int) (l : List S48) (hs : Small l) : ∀ (j k i : Nat), i + j = l.length → j + 100 < k →
  flagstonelaw07_its.l0 k i l m r ((l.take i).map nodeC) m r = some (l.map nodeC, m, r) := by
 intro j
 induction j with
 | zero =>
  intro k i hi hk
  obtain ⟨k, rfl⟩ : ∃ q, k = q + 1 := ⟨k - 1, by omega⟩
  unfold flagstonelaw07_its.l0
  rw [if_neg (by omega), List.take_of_length_le (by omega)]
 | succ j ih =>
  intro k i hi hk
  obtain ⟨k, rfl⟩ : ∃ q, k = q + 1 := ⟨k - 1, by omega⟩
  have hi' : i < l.length := by omega
  have e0 : rd_T48 l i = l[i] := by unfold rd_T48; simp [List.getD_eq_getElem?_getD, List.getElem?_eq_getElem hi']
  have hm : (rd_T48 l i).f7.length ≤ 60 := by rw [e0]; exact (hs.2 _ (List.getElem_mem hi')).1
  have h100 := hs.1
  unfold flagstonelaw07_its.l0
  rw [if_pos (by omega), if_pos (by omega), node_f _ k (by omega) (by omega)]
  simp only [Option.bind_some]
  rw [if_pos (by simp; omega), wrap_succ (by omega) (by omega)]
  have e : (l.take i).map nodeC ++ [nodeC (rd_T48 l i)] = (l.take (i + 1)).map nodeC := take_succ_map nodeC l z48 i hi'
  rw [show ((i : Int) + 1) = ((i + 1 : Nat) : Int) by omega]
  refine Eq.trans ?_ (ih k (i + 1) (by omega) (by omega))
  rw [← e]
theorem its_f (l : List S48) (m r : Int) (hs : Small l) : flagstonelaw07_its.f 1000 l m r = some (l.map nodeC, m, r) := its_loop m r l hs l.length 1000 0 (by omega) (by have := hs.1; omega)
theorem bytes_loop (m r : Int) (l : List S54) (hl : l.length ≤ 100) : ∀ (j k i : Nat) (x : Int), i + j = l.length → j < k → ∃ y, flagstoneref06_Bytes.l0 k x i l m r = some y := by
 intro j
 induction j with
 | zero =>
  intro k i x hi hk
  obtain ⟨k, rfl⟩ : ∃ q, k = q + 1 := ⟨k - 1, by omega⟩
  unfold flagstoneref06_Bytes.l0
  rw [if_neg (by omega)]; exact ⟨_, rfl⟩
 | succ j ih =>
  intro k i x hi hk
  obtain ⟨k, rfl⟩ : ∃ q, k = q + 1 := ⟨k - 1, by omega⟩
  unfold flagstoneref06_Bytes.l0
  rw [if_pos (by omega), if_pos (by omega), wrap_succ (by omega) (by omega)]
  obtain ⟨t, ht⟩ : ∃ t, flagstoneref06_weight.f (rd_T54 l i).f0 (rd_T54 l i).f1 (rd_T54 l i).f2 (rd_T54 l i).f3 (rd_T54 l i).f4 (rd_T54 l i).f5 (rd_T54 l i).f6 (rd_T54 l i).f7 = some t := by
   unfold flagstoneref06_weight.f
   split
   ·exact ⟨_, rfl⟩
   ·split <;> exact ⟨_, rfl⟩
  rw [ht]
  simp only [Option.bind_some]
  exact ih k (i + 1) _ (by omega) (by omega)
theorem bytes_f (m r : Int) (l : List S54) (hl : l.length ≤ 100) : ∃ y, flagstoneref06_Bytes.f 1000 l m r = some y := bytes_loop m r l hl l.length 1000 0 0 (by omega) (by omega)
theorem same_loop (a b : List S80) (hab : a.length = b.length) (ha : a.length ≤ 60) : ∀ (j k i : Nat), i + j = a.length → j < k → ∃ y, flagstoneref05_Same.l0 k a b i = some y := by
 intro j
 induction j with
 | zero =>
  intro k i hi hk
  obtain ⟨k, rfl⟩ : ∃ q, k = q + 1 := ⟨k - 1, by omega⟩
  unfold flagstoneref05_Same.l0
  rw [if_neg (by omega)]; exact ⟨_, rfl⟩
 | succ j ih =>
  intro k i hi hk
  obtain ⟨k, rfl⟩ : ∃ q, k = q + 1 := ⟨k - 1, by omega⟩
  unfold flagstoneref05_Same.l0
  rw [if_pos (by omega), if_pos (by omega), if_pos (by omega), wrap_succ (by omega) (by omega)]
  split
  ·exact ⟨_, rfl⟩
  ·exact ih k (i + 1) (by omega) (by omega)
theorem alike_f (n : S54) (hn : n.f7.length ≤ 60) : ∃ y, flagstoneref06_Alike.f 1000 n.f0 n.f1 n.f2 n.f3 n.f4 n.f5 n.f6 n.f7 0 0 0 0 0 0 ⟨#[]⟩ [] = some y := by
 unfold flagstoneref06_Alike.f
 repeat' split
 all_goals first | exact ⟨_, rfl⟩ | skip
 unfold flagstoneref05_Same.f
 split
 ·rename_i h
  obtain ⟨y, hy⟩ := same_loop n.f7 [] (by simpa using h) hn n.f7.length 1000 0 (by omega) (by omega)
  have hy' : flagstoneref05_Same.l0 1000 n.f7 [] 0 = some y := hy
  rw [hy']; exact ⟨_, rfl⟩
 ·exact ⟨_, rfl⟩
theorem legal_loop (p : ByteArray) (hp : p.size ≤ 1000000000000000) : ∀ (j k i : Nat), i + j = p.size → j < k → ∃ y, flagstoneref05_Legal.l0 k p i = some y := by
 intro j
 induction j with
 | zero =>
  intro k i hi hk
  obtain ⟨k, rfl⟩ : ∃ q, k = q + 1 := ⟨k - 1, by omega⟩
  unfold flagstoneref05_Legal.l0
  rw [if_neg (by omega)]; split <;> exact ⟨_, rfl⟩
 | succ j ih =>
  intro k i hi hk
  obtain ⟨k, rfl⟩ : ∃ q, k = q + 1 := ⟨k - 1, by omega⟩
  unfold flagstoneref05_Legal.l0
  rw [if_pos (by omega), if_pos (by omega), wrap_succ (by omega) (by omega)]
  split
  ·exact ⟨_, rfl⟩
  ·split
   ·exact ⟨_, rfl⟩
   ·exact ih k (i + 1) (by omega) (by omega)
theorem legal_f (p : ByteArray) (hp : p.size ≤ 1000000000000000) : ∃ y, flagstoneref05_Legal.f (p.size + 3) p = some y := by
 have h : ∀ b, ∃ y, flagstoneref05_Legal.j0 (p.size + 3) p b = some y := by
  intro b
  show ∃ y, (if b = true then some 1 else flagstoneref05_Legal.l0 (p.size + 2) p 0) = some y
  split
  ·exact ⟨_, rfl⟩
  ·exact legal_loop p hp p.size (p.size + 2) 0 (by omega) (by omega)
 unfold flagstoneref05_Legal.f
 split
 ·exact h _
 ·split <;> exact h _
def NamesOk (n : Nat) (c d : Int) : Prop := 0 ≤ c ∧ -1 ≤ d ∧ d < n ∧ (c ≠ 0 → 0 ≤ d)
theorem names_loop (m r i : Int) (l : List S54) (hl : l.length ≤ 100) (hn : ∀ x, x ∈ l → x.f7.length ≤ 60) : ∀ (k : Nat),
  (∀ (c d : Int) (x : Nat), NamesOk l.length c d → c + k ≤ 10000000 → x ≤ l.length → (l.length - x) * 63 < k → ∃ c' d', flagstoneref06_names.l0 k i c d x l m r = some (c', d') ∧ NamesOk l.length c' d') ∧
  (∀ (c d : Int) (x y : Nat), NamesOk l.length c d → c + k ≤ 10000000 → x < l.length → y ≤ 60 → (l.length - x - 1) * 63 + (61 - y) < k → ∃ c' d', flagstoneref06_names.l1 k i c d x y l m r = some (c', d') ∧ NamesOk l.length c' d') := by
 intro k
 induction k with
 | zero => exact ⟨fun c d x _ _ _ h => by omega, fun c d x y _ _ _ _ h => by omega⟩
 | succ k ih =>
  refine ⟨fun c d x hN hc hx hk => ?_, fun c d x y hN hc hx hy hk => ?_⟩
  ·unfold flagstoneref06_names.l0
   by_cases h : (x : Int) < (l.length : Int)
   ·rw [if_pos h]
    exact ih.2 c d x 0 hN (by omega) (by omega) (by omega) (by omega)
   ·rw [if_neg h]
    exact ⟨c, d, rfl, hN⟩
  ·unfold flagstoneref06_names.l1
   rw [if_pos (by omega), if_pos (by omega)]
   have e0 : rd_T54 l x = l[x] := by unfold rd_T54; simp [List.getD_eq_getElem?_getD, List.getElem?_eq_getElem hx]
   have hm : (rd_T54 l x).f7.length ≤ 60 := by rw [e0]; exact hn _ (List.getElem_mem hx)
   by_cases h : (y : Int) < ((rd_T54 l x).f7.length : Int)
   ·rw [if_pos h, if_pos (by omega)]
    obtain ⟨n1, n2, n3, n4⟩ := hN
    rw [wrap_succ (x := (y : Int)) (by omega) (by omega), wrap_succ (x := c) n1 (by omega)]
    split
    ·exact ih.2 (c + 1) x x (y + 1) ⟨by omega, by omega, by omega, fun _ => by omega⟩ (by omega) hx (by omega) (by omega)
    ·exact ih.2 c d x (y + 1) ⟨n1, n2, n3, n4⟩ (by omega) hx (by omega) (by omega)
   ·rw [if_neg h, wrap_succ (x := (x : Int)) (by omega) (by omega)]
    exact ih.1 c d (x + 1) hN (by omega) (by omega) (by omega)
theorem names_f (m r i : Int) (l : List S54) (hl : l.length ≤ 100) (hn : ∀ x, x ∈ l → x.f7.length ≤ 60) : ∃ c d, flagstoneref06_names.f 10000 l m r i = some (c, d) ∧ NamesOk l.length c d :=
 (names_loop m r i l hl hn 10000).1 0 (-1) 0 ⟨by omega, by omega, by omega, fun h => absurd rfl h⟩ (by omega) (by omega) (by omega)
theorem get_f (m r i : Int) (l : List S54) : ∃ y, flagstoneref06_Get.f l m r i = some y ∧ (y.2.2.2.2.2.2.2.2 = true ↔ 0 ≤ i ∧ i < l.length ∧ (rd_T54 l i).f0 ≠ 0) ∧ (y.2.2.2.2.2.2.2.2 = true → y.1 = (rd_T54 l i).f0 ∧ y.2.2.2.2.2.1 = (rd_T54 l i).f5) := by
 unfold flagstoneref06_Get.f
 by_cases h1 : i < 0
 ·rw [if_pos h1]; exact ⟨_, rfl, by simp; omega, by simp⟩
 rw [if_neg h1]
 by_cases h2 : i ≥ (l.length : Int)
 ·rw [if_pos h2]; exact ⟨_, rfl, by simp; omega, by simp⟩
 rw [if_neg h2, if_pos (by omega), if_pos (by omega)]
 by_cases h3 : (rd_T54 l i).f0 = 0
 ·rw [if_pos h3]; exact ⟨_, rfl, by simp [h3], by simp⟩
 ·rw [if_neg h3]; exact ⟨_, rfl, by simp [h3]; omega, by simp⟩
theorem rooted_loop (m r : Int) (l : List S54) (hl : l.length ≤ 100) : ∀ (j k i : Nat) (x : Int), i + j = l.length + 1 → j < k → ∃ y, flagstoneref06_rooted.l0 k x i l m r = some y := by
 intro j
 induction j with
 | zero =>
  intro k i x hi hk
  obtain ⟨k, rfl⟩ : ∃ q, k = q + 1 := ⟨k - 1, by omega⟩
  unfold flagstoneref06_rooted.l0
  rw [if_neg (by omega)]; exact ⟨_, rfl⟩
 | succ j ih =>
  intro k i x hi hk
  obtain ⟨k, rfl⟩ : ∃ q, k = q + 1 := ⟨k - 1, by omega⟩
  unfold flagstoneref06_rooted.l0
  rw [if_pos (by omega)]
  split
  ·exact ⟨_, rfl⟩
  ·obtain ⟨y, hy, _⟩ := get_f m r x l
   rw [hy]
   simp only [Option.bind_some]
   rw [wrap_succ (by omega) (by omega)]
   split
   ·split
    ·exact ih k (i + 1) _ (by omega) (by omega)
    ·exact ⟨_, rfl⟩
   ·exact ⟨_, rfl⟩
theorem rooted_f (m r i : Int) (l : List S54) (hl : l.length ≤ 100) : ∃ y, flagstoneref06_rooted.f 1000 l m r i = some y := rooted_loop m r l hl (l.length + 1) 1000 0 i (by omega) (by omega)
end Go.Proofs.YthagmakojbfmaaaDoor.Ext
