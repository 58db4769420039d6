/- The iterator of strings.SplitSeq at "/": its contract. -/
import Derived.Test.YtpfbimkpcnnfkaaGreatDoorProg
import Derived.Test.YtpfbimkpcnnfkaaGreatDoorShelf
import Derived.Test.YtpfbimkpcnnfkaaGreatDoorIter
import Derived.Lib.Strings
import Derived.Lib.Hide
import Derived.Lib.Builder
import Derived.WalkKit
import Derived.WalkLawsBesides
import Derived.WalkSpells
import Derived.BigCall
namespace Go.Proofs.YtpfbimkpcnnfkaaGreatDoor.Ext
open Go Go.RowKit Go.Proofs.YtpfbimkpcnnfkaaGreatDoor.Iter
set_option linter.unusedVariables false
set_option linter.unusedSimpArgs false
def bs (l : List UInt8) : ByteArray := ⟨l.toArray⟩
theorem bs_size (l : List UInt8) : (bs l).size = l.length := by show l.toArray.size = _; simp
theorem bs_data (l : List UInt8) : (bs l).data.toList = l := by simp [bs]
theorem bs_of (s : ByteArray) : bs s.data.toList = s := by cases s; simp [bs]
theorem ba_ext {a b : ByteArray} (h : a.data.toList = b.data.toList) : a = b := by rw [← bs_of a, ← bs_of b, h]
def segs : List UInt8 → List (List UInt8)
  | [] => [[]]
  | c :: l => if c == 47 then [] :: segs l else match segs l with
    | [] => [[c]]
    | s :: r => (c :: s) :: r
theorem segs_ne (l : List UInt8) : segs l ≠ [] := by
  cases l with
  | nil => simp [segs]
  | cons c l =>
    unfold segs
    split
    · simp
    · split <;> simp
theorem segs_no : ∀ l : List UInt8, Lib.indexByte l 47 = -1 → segs l = [l]
  | [], _ => rfl
  | c :: l, h => by
    unfold Lib.indexByte at h
    by_cases hc : (c == 47) = true
    · rw [if_pos hc] at h; exact absurd h (by decide)
    · rw [if_neg hc] at h
      have hl : Lib.indexByte l 47 = -1 := by
        by_cases h1 : (Lib.indexByte l 47 == -1) = true
        · simpa using h1
        · rw [if_neg h1] at h
          have := Lib.indexByte_ge l 47
          have h1' : Lib.indexByte l 47 ≠ -1 := by simpa using h1
          omega
      unfold segs
      rw [if_neg hc, segs_no l hl]
theorem segs_yes : ∀ (l : List UInt8) (i : Nat), Lib.indexByte l 47 = (i : Int) → i < l.length ∧ segs l = l.take i :: segs (l.drop (i + 1))
  | [], i, h => by
    have : (-1 : Int) = (i : Int) := h
    omega
  | c :: l, i, h => by
    unfold Lib.indexByte at h
    by_cases hc : (c == 47) = true
    · rw [if_pos hc] at h
      obtain rfl : i = 0 := by omega
      refine ⟨by simp, ?_⟩
      conv => lhs; unfold segs
      rw [if_pos hc]; rfl
    · rw [if_neg hc] at h
      by_cases h1 : (Lib.indexByte l 47 == -1) = true
      · rw [if_pos h1] at h; omega
      · rw [if_neg h1] at h
        obtain ⟨j, rfl⟩ : ∃ j, i = j + 1 := ⟨i - 1, by have := Lib.indexByte_ge l 47; have h1' : Lib.indexByte l 47 ≠ -1 := by simpa using h1
                                                       omega⟩
        obtain ⟨h2, h3⟩ := segs_yes l j (by omega)
        refine ⟨by simp; omega, ?_⟩
        conv => lhs; unfold segs
        rw [if_neg hc, h3]
        simp
def segsB (s : ByteArray) : List ByteArray := (segs s.data.toList).map bs
theorem segsB_no (s : ByteArray) (h : Lib.indexByte s.data.toList 47 = -1) : segsB s = [s] := by
  unfold segsB
  rw [segs_no _ h, List.map_singleton, bs_of]
theorem segsB_yes (s : ByteArray) (i : Nat) (h : Lib.indexByte s.data.toList 47 = (i : Int)) : i < s.size ∧ segsB s = s.extract 0 i :: segsB (s.extract (i + 1) s.size) := by
  obtain ⟨h1, h2⟩ := segs_yes _ i h
  have hz : s.data.toList.length = s.size := by simp
  refine ⟨by omega, ?_⟩
  unfold segsB
  rw [h2, List.map_cons]
  congr 1
  · refine ba_ext ?_
    rw [bs_data, Lib.extract_data]; simp
  · congr 2
    rw [Lib.extract_data, List.take_of_length_le (by rw [List.length_drop]; omega)]
theorem index_cases (l : List UInt8) : Lib.indexByte l 47 = -1 ∨ ∃ i : Nat, Lib.indexByte l 47 = (i : Int) := by
  have := Lib.indexByte_ge l 47
  by_cases h : Lib.indexByte l 47 = -1
  · exact .inl h
  · exact .inr ⟨(Lib.indexByte l 47).toNat, by omega⟩
set_option maxHeartbeats 2000000 in
set_option maxRecDepth 100000 in
theorem splitSeq1_L (n : Nat) (p : ByteArray) (hp : p.size ≤ 4611686018427387904) (b1 b2 b3 : Nat) (h12 : b1 ≠ b2) (h32 : b3 ≠ b2) :
    SeqL Fence.wide n Tryz.prog 164 #[.pointer (some ⟨b1, 0, none⟩), .pointer (some ⟨b2, 0, none⟩), .pointer (some ⟨b3, 0, none⟩)] (fun x : ByteArray => #[.string x]) (fun k => k = b1 ∨ k = b2 ∨ k = b3)
      (· = segsB p) (fun pre => pre <+: segsB p)
      (fun W => W.heap[b1]? = some (.cells #[.string ⟨#[47]⟩] 9 (0, 0)) ∧ W.heap[b2]? = some (.cells #[.string p] 9 (0, 0)) ∧ W.heap[b3]? = some (.cells #[.int .i64 0] 3 (0, 0))) := by
  rintro l J Jx FP0 W ⟨q1, q2, q3⟩ hJ hJx hB0 hM hY h0
  have l1 : b1 < W.heap.size := (Array.getElem?_eq_some_iff.1 q1).1
  have l2 : b2 < W.heap.size := (Array.getElem?_eq_some_iff.1 q2).1
  have l3 : b3 < W.heap.size := (Array.getElem?_eq_some_iff.1 q3).1
  have c1 := box_cell q1
  refine callsIn_of_wp Tryz.func164 rfl trivial ?_ rfl
  simp only [Tryz.ntmps164, List.size_toArray, List.length_cons, List.length_nil, Nat.reduceAdd, Nat.reduceSub, Array.replicate_succ, Array.replicate_zero, List.push_toArray, List.append_toArray, List.nil_append, List.cons_append]
  gi_wp2
  gi_loopw [7] (fun _ wr => ∃ (pre : List ByteArray) (rest : ByteArray) (FP : Nat → Prop), segsB p = pre ++ segsB rest ∧ rest.size ≤ p.size ∧ wr.heap[b1]? = some (.cells #[.string ⟨#[47]⟩] 9 (0, 0)) ∧ wr.heap[b2]? = some (.cells #[.string rest] 9 (0, 0)) ∧ wr.heap[b3]? = some (.cells #[.int .i64 0] 3 (0, 0)) ∧ J pre FP wr ∧ Bd FP wr ∧ Gr FP0 W FP ∧ Keep (fun k => FP0 k ∨ k = b1 ∨ k = b2 ∨ k = b3) W wr)
    (fun _ wr => strAt wr b2)
  case atStart => exact ⟨[], p, FP0, rfl, Nat.le_refl _, q1, q2, q3, h0, hB0, fun k h => .inl h, Keep.refl _ _⟩
  case round =>
    clear q1 q2 q3 c1
    obtain ⟨pre, rest, FP, hx, hsz, e1, e2, e3, hj, hbd, hgr, hkp⟩ := hrel
    have n1 : ¬ FP b1 := fun h => by rcases hgr _ h with h | h; exact hM _ h (.inl rfl); omega
    have n2 : ¬ FP b2 := fun h => by rcases hgr _ h with h | h; exact hM _ h (.inr (.inl rfl)); omega
    have n3 : ¬ FP b3 := fun h => by rcases hgr _ h with h | h; exact hM _ h (.inr (.inr rfl)); omega
    have k1 : b1 < wr.heap.size := (Array.getElem?_eq_some_iff.1 e1).1
    have k2 : b2 < wr.heap.size := (Array.getElem?_eq_some_iff.1 e2).1
    have k3 : b3 < wr.heap.size := (Array.getElem?_eq_some_iff.1 e3).1
    have c1 := box_cell e1
    have c2 := box_cell e2
    have c3 := box_cell e3
    have hkw := hkp.size
    rcases index_cases rest.data.toList with hi | ⟨i, hi⟩
    · have hs := segsB_no rest hi
      rw [hs] at hx
      obtain ⟨fn, tmps, assign, body, hy, hR⟩ := hY pre rest FP wr hj hbd (by rw [hx]; exact List.prefix_refl _)
      have HR := Lib.hid hR
      have HX := Lib.hid hx
      have HE := Lib.hid (And.intro e1 (And.intro e2 e3))
      have HI := Lib.hid hi
      clear hR hx e1 e2 e3 hs hi hY
      gi_wp2_with (refine ⟨trivial, fun h => (by cases h), ?_⟩; gi_at_call 166; refine (callsIn_wide.2 (Tryz.strings_Index_one rest 47 _)).mono ?_; rintro e w' ⟨rfl, rfl⟩; rw [HI.out])
      refine ⟨fun h => (by cases h), HR.out.mono ?_⟩
      have fin : ∀ (FP' : Nat → Prop) (W3 : World), Gr FP w' FP' → Keep FP w' W3 → Gr FP0 W FP' ∧ Keep (fun k => FP0 k ∨ k = b1 ∨ k = b2 ∨ k = b3) W W3 := fun FP' W3 g1 g3 =>
        ⟨fun k hk => by rcases g1 k hk with h | h; exact hgr k h; exact .inr (by omega), hkp.then g3 (fun i hi hf => by rcases hgr i hf with h | h; exact .inl h; omega)⟩
      rintro e W3 ⟨FP', g1, g2, g3, (⟨rfl, hJ3⟩ | ⟨rfl, hJ3⟩)⟩
      · gi_wp2
        go_end0
        exact ⟨⟨_, rfl⟩, FP', (fin FP' W3 g1 g3).1, g2, (fin FP' W3 g1 g3).2, .inl ⟨_, HX.out.symm, hJ3⟩⟩
      · gi_wp2
        go_end0
        exact ⟨⟨_, rfl⟩, FP', (fin FP' W3 g1 g3).1, g2, (fin FP' W3 g1 g3).2, .inr ⟨_, by rw [HX.out]; exact List.prefix_refl _, hJ3⟩⟩
    · obtain ⟨hlt, hs⟩ := segsB_yes rest i hi
      rw [hs] at hx
      obtain ⟨fn, tmps, assign, body, hy, hR⟩ := hY pre (rest.extract 0 i) FP wr hj hbd (by rw [hx]; exact ⟨segsB (rest.extract (i + 1) rest.size), by simp⟩)
      have hx2 : segsB p = (pre ++ [rest.extract 0 i]) ++ segsB (rest.extract (i + 1) rest.size) := by rw [hx]; simp
      have hlt2 : (i : Int) + 1 ≤ (rest.size : Int) := by omega
      have hle2 : (i : Int) ≤ (rest.size : Int) := by omega
      have HR := Lib.hid hR
      have HX := Lib.hid hx2
      have HI := Lib.hid hi
      have HY := Lib.hid hY
      have HE := Lib.hid e2
      have hd : (decide ((i : Int) < 0)) = false := by simp
      clear hR hx hx2 hs hi hY e2
      gi_wp2_with (refine ⟨trivial, fun h => (by cases h), ?_⟩; gi_at_call 166; refine (callsIn_wide.2 (Tryz.strings_Index_one rest 47 _)).mono ?_; rintro e w' ⟨rfl, rfl⟩; rw [HI.out])
      refine ⟨fun h => (by cases h), HR.out.mono ?_⟩
      rintro e W3 ⟨FP', g1, g2, g3, (⟨rfl, hJ3⟩ | ⟨rfl, hJ3⟩)⟩
      · have d1 : W3.heap[b1]? = some (.cells #[.string ⟨#[47]⟩] 9 (0, 0)) := (g3.block b1 k1 n1).trans e1
        have d2 : W3.heap[b2]? = some (.cells #[.string rest] 9 (0, 0)) := (g3.block b2 k2 n2).trans HE.out
        have d3 : W3.heap[b3]? = some (.cells #[.int .i64 0] 3 (0, 0)) := (g3.block b3 k3 n3).trans e3
        have p1 := box_cell d1
        have p2 := box_cell d2
        have f2 := box_free d2 0
        have D1 := Lib.hid d1
        have D2 := Lib.hid d2
        have D3 := Lib.hid d3
        have hg3 := g3.size
        have m2 : ¬ FP' b2 := fun h => by rcases g1 _ h with h | h; exact n2 h; omega
        clear d1 d2 d3 e1 e3 c1 c2 c3
        gi_wp2
        go_roundw
        case rel =>
          refine ⟨pre ++ [rest.extract 0 i], rest.extract (i + 1) rest.size, FP', HX.out, ?_, ?_, ?_, ?_, ?_, ?_, ?_, ?_⟩
          · rw [ByteArray.size_extract]; omega
          · rw [set_other h12]; exact D1.out
          · exact box_set D2.out
          · rw [set_other h32]; exact D3.out
          · exact hJ _ _ _ _ hJ3 (fun k hk => set_other (fun e => by subst e; exact m2 hk))
          · intro k hk; have := g2 k hk; simpa [World.setCell] using this
          · intro k hk
            rcases g1 k hk with h | h
            · exact hgr k h
            · exact .inr (by omega)
          · exact (hkp.then g3 (fun i hi hf => by rcases hgr i hf with h | h; exact .inl h; omega)).setCell _ _ (.inl (.inr (.inr (.inl rfl))))
        case measure =>
          rw [strAt_of HE.out, strAt_of (box_set D2.out), ByteArray.size_extract]
          omega
      · gi_wp2
        refine bodyPost_ret (results_none rfl _ _ _) rfl ?_
        refine ⟨⟨_, rfl⟩, FP', ?_, g2, ?_, .inr ⟨_, ?_, hJ3⟩⟩
        · intro k hk
          rcases g1 k hk with h | h
          · exact hgr k h
          · exact .inr (by omega)
        · exact hkp.then g3 (fun i hi hf => by rcases hgr i hf with h | h; exact .inl h; omega)
        · rw [HX.out]; exact List.prefix_append _ _
end Go.Proofs.YtpfbimkpcnnfkaaGreatDoor.Ext
