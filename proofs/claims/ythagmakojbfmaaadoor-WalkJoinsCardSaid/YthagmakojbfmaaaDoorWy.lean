/- Ways, in plain words: one step, all steps; what walk.Walk answers is where the way goes. -/
import Derived.Test.YthagmakojbfmaaaDoorLr
import Derived.Test.YthagmakojbfmaaaDoorNd
/- Plain words on ways: names in order; a disk that is right is one on which ways may be gone. -/
set_option linter.unusedVariables false
set_option linter.unusedSimpArgs false
namespace Go.Proofs.YthagmakojbfmaaaDoor.Ext
open Go Go.RowKit Go.Proofs.YthagmakojbfmaaaDoor Go.Proofs.YthagmakojbfmaaaDoorW.PrintWords
theorem cmp_neg : ∀ a b : List UInt8, Lib.compareBytes a b < 0 ↔ Op.bytesLess a b = true
 | [], [] => by simp [Lib.compareBytes, Op.bytesLess]
 | [], _ :: _ => by simp [Lib.compareBytes, Op.bytesLess]
 | _ :: _, [] => by simp [Lib.compareBytes, Op.bytesLess]
 | a :: u, b :: v => by
  unfold Lib.compareBytes Op.bytesLess
  by_cases h1 : a < b
  ·simp [h1]
  ·by_cases h2 : b < a
   ·have hne : ¬ a = b := by rintro rfl; exact h1 h2
    simp [h1, h2, hne]
   ·have he : a = b := UInt8.le_antisymm (UInt8.not_lt.1 h2) (UInt8.not_lt.1 h1)
    subst he
    simp [h1, cmp_neg u v]
theorem cmp_zero : ∀ a b : List UInt8, Lib.compareBytes a b = 0 ↔ a = b
 | [], [] => by simp [Lib.compareBytes]
 | [], _ :: _ => by simp [Lib.compareBytes]
 | _ :: _, [] => by simp [Lib.compareBytes]
 | a :: u, b :: v => by
  unfold Lib.compareBytes
  by_cases h1 : a < b
  ·have hne : ¬ a = b := by rintro rfl; exact UInt8.lt_irrefl _ h1
   simp [h1, hne]
  ·by_cases h2 : b < a
   ·have hne : ¬ a = b := by rintro rfl; exact h1 h2
    simp [h1, h2, hne]
   ·have he : a = b := UInt8.le_antisymm (UInt8.not_lt.1 h2) (UInt8.not_lt.1 h1)
    subst he
    simp [h1, cmp_zero u v]
theorem less_trans : ∀ a b c : List UInt8, Op.bytesLess a b = true → Op.bytesLess b c = true → Op.bytesLess a c = true
 | [], [], _, h, _ => by simp [Op.bytesLess] at h
 | [], _ :: _, [], _, h => by simp [Op.bytesLess] at h
 | [], _ :: _, _ :: _, _, _ => by simp [Op.bytesLess]
 | _ :: _, [], _, h, _ => by simp [Op.bytesLess] at h
 | _ :: _, _ :: _, [], _, h => by simp [Op.bytesLess] at h
 | a :: u, b :: v, c :: x, h1, h2 => by
  simp only [Op.bytesLess, Bool.or_eq_true, decide_eq_true_eq, Bool.and_eq_true, beq_iff_eq] at h1 h2 ⊢
  rcases h1 with h1 | ⟨rfl, h1⟩
  ·rcases h2 with h2 | ⟨rfl, h2⟩
   ·exact .inl (UInt8.lt_trans h1 h2)
   ·exact .inl h1
  ·rcases h2 with h2 | ⟨rfl, h2⟩
   ·exact .inl h2
   ·exact .inr ⟨rfl, less_trans u v x h1 h2⟩
theorem less_total : ∀ a b : List UInt8, Op.bytesLess a b = false → a ≠ b → Op.bytesLess b a = true
 | [], [], _, h => by simp at h
 | [], _ :: _, h, _ => by simp [Op.bytesLess] at h
 | _ :: _, [], _, _ => by simp [Op.bytesLess]
 | a :: u, b :: v, h, hne => by
  simp only [Op.bytesLess, Bool.or_eq_false_iff, decide_eq_false_iff_not, Bool.and_eq_false_iff] at h
  simp only [Op.bytesLess, Bool.or_eq_true, decide_eq_true_eq, Bool.and_eq_true, beq_iff_eq]
  obtain ⟨h1, h2⟩ := h
  by_cases he : a = b
  ·subst he
   exact .inr ⟨rfl, less_total u v (h2.resolve_left (by simp)) (by rintro rfl; exact hne rfl)⟩
  ·exact .inl (UInt8.lt_of_le_of_ne (UInt8.not_lt.1 h1) (Ne.symm he))
theorem leqB_less {q p : ByteArray} (h : leqB q p = false) : Op.bytesLess p.toList q.toList = true := by
 unfold leqB at h
 simp only [Bool.or_eq_false_iff, beq_eq_false_iff_ne, ne_eq] at h
 exact less_total _ _ h.1 h.2
theorem toList_data (x : ByteArray) : x.toList = x.data.toList := by
 have := Lib.extract_toList x 0 x.size
 rw [ByteArray.extract_zero_size] at this
 rw [this, List.drop_zero, List.take_of_length_le (by simp)]
def Rising (l : List S57) : Prop := ∀ j : Nat, j + 1 < l.length → Op.bytesLess (rd_T57 l j).f0.data.toList (rd_T57 l (j + 1 : Nat)).f0.data.toList = true
theorem Rising.lt {l : List S57} (h : Rising l) : ∀ (a k : Nat), a + k + 1 < l.length → Op.bytesLess (rd_T57 l a).f0.data.toList (rd_T57 l (a + k + 1 : Nat)).f0.data.toList = true := by
 intro a k
 induction k with
 | zero => intro hk; exact h a hk
 | succ k ih => intro hk; exact less_trans _ _ _ (ih (by omega)) (h (a + k + 1) hk)
theorem Rising.sorted {l : List S57} (h : Rising l) (name : ByteArray) : Sorted57 l name := by
 have hl : ∀ a b : Nat, a < b → b < l.length → Op.bytesLess (rd_T57 l a).f0.data.toList (rd_T57 l b).f0.data.toList = true := by
  intro a b hab hb
  have := h.lt a (b - a - 1) (by omega)
  rwa [show a + (b - a - 1) + 1 = b by omega] at this
 constructor
 ·intro a b hab hb ho
  rcases Nat.lt_or_ge a b with h1 | h1
  ·exact (cmp_neg _ _).2 (less_trans _ _ _ (hl a b h1 hb) ((cmp_neg _ _).1 ho))
  ·have : a = b := by omega
   subst this; exact ho
 ·intro a b hab hb ho
  rcases Nat.lt_or_ge a b with h1 | h1
  ·refine Int.le_of_lt ((cmp_neg _ _).2 ?_)
   rcases Int.lt_or_eq_of_le ho with h2 | h2
   ·exact less_trans _ _ _ (hl a b h1 hb) ((cmp_neg _ _).1 h2)
   ·rw [← (cmp_zero _ _).1 h2]; exact hl a b h1 hb
  ·have : a = b := by omega
   subst this; exact ho
theorem rising_of_adj {l : List S57} (h : Adj (l.map entC) (l.map entC).length) : Rising l := by
 intro j hj
 have h1 := h ((j + 1 : Nat) : Int) (by omega) (by rw [List.length_map]; omega)
 rw [show (((j + 1 : Nat) : Int) - 1) = (j : Int) by omega, rd_map80, rd_map80] at h1
 have h2 := leqB_less h1
 rw [toList_data, toList_data] at h2
 exact h2
abbrev B := List UInt8
def names (l : B) : List B := (segs l).filter fun s => !s.isEmpty
theorem segs_slash (l : B) : segs (47 :: l) = [] :: segs l := by
 conv => lhs; unfold segs
 rw [if_pos (by decide)]
theorem segs_other (c : UInt8) (l : B) (hc : c ≠ 47) : ∃ s r, segs l = s :: r ∧ segs (c :: l) = (c :: s) :: r := by
 rcases h : segs l with _ | ⟨s, r⟩
 ·exact absurd h (segs_ne l)
 ·refine ⟨s, r, rfl, ?_⟩
  conv => lhs; unfold segs
  rw [if_neg (by simpa using hc), h]
theorem segs_split : ∀ (a b : B), segs (a ++ 47 :: b) = segs a ++ segs b
 | [], b => by rw [List.nil_append, segs_slash]; rfl
 | c :: a, b => by
  have ih := segs_split a b
  by_cases hc : c = 47
  ·subst hc
   rw [List.cons_append, segs_slash, segs_slash, ih]; rfl
  ·obtain ⟨s, r, h1, h2⟩ := segs_other c a hc
   obtain ⟨s', r', h3, h4⟩ := segs_other c (a ++ 47 :: b) hc
   rw [List.cons_append, h4, h2]
   rw [ih, h1, List.cons_append] at h3
   injection h3 with h5 h6
   rw [← h5, ← h6]; rfl
theorem names_split (a b : B) : names (a ++ 47 :: b) = names a ++ names b := by
 unfold names
 rw [segs_split, List.filter_append]
theorem names_nil : names [] = [] := rfl
theorem names_end (a : B) : names (a ++ [47]) = names a := by rw [names_split]; simp [names_nil]
theorem namesL_eq (p : ByteArray) : namesL p = (names p.data.toList).map bs := by
 have key : ∀ (L : List B) (a : Nat), (outs a (L.map bs)).map (·.2) = (L.filter fun s => !s.isEmpty).map bs := by
  intro L
  induction L with
  | nil => intro a; rfl
  | cons s L ih =>
   intro a
   rw [List.map_cons]
   show (if (bs s).size = 0 then outs (a + (bs s).size + 1) (L.map bs) else (a + (bs s).size, bs s) :: outs (a + (bs s).size + 1) (L.map bs)).map (·.2) = _
   rw [bs_size]
   cases s with
   | nil => rw [if_pos (show ([] : B).length = 0 from rfl), ih]; rfl
   | cons c s => rw [if_neg (by simp), List.map_cons, ih]; rfl
 exact key _ 0
theorem rd_mem {ns : List S48} {i : Int} (h0 : 0 ≤ i) (h1 : i < ns.length) : rd_T48 ns i ∈ ns := by
 unfold rd_T48
 rw [List.getD_eq_getElem?_getD, List.getElem?_eq_getElem (by omega)]
 exact List.getElem_mem _
theorem getB_in {ns : List S48} {i : Int} (h : getB ns i = true) : 0 ≤ i ∧ i < ns.length ∧ (rd_T48 ns i).f0 ≠ 0 := by
 unfold getB at h; simpa using h
theorem getB_is {ns : List S48} {i : Int} : getB ns i = isB (ns.map nodeC) i := by
 unfold getB isB
 rw [rd_map54, List.length_map]; rfl
theorem RightD.node {ns : List S48} (h : RightD ns) {i : Int} (hi : getB ns i = true) : Rising (getL ns i).f7 ∧ (∀ j : Int, 0 ≤ j → j < (getL ns i).f7.length → getB ns (rd_T57 (getL ns i).f7 j).f1 = true) ∧ ((getL ns i).f0 = 2 → 0 ≤ (getL ns i).f5 ∧ (getL ns i).f5 < ns.length) := by
 obtain ⟨h0, h1, h2⟩ := getB_in hi
 have hn := h.2.2.2 i h0 (by rw [List.length_map]; exact h1)
 rw [rd_map54] at hn
 obtain ⟨ha, hb, hc⟩ := hn h2
 have e : getL ns i = rd_T48 ns i := by unfold getL; rw [if_pos hi]
 rw [e]
 refine ⟨rising_of_adj ha, fun j j0 j1 => ?_, fun h5 => ?_⟩
 ·have := hb j j0 (by show j < (((rd_T48 ns i).f7.map entC).length : Int); rw [List.length_map]; exact j1)
  rw [getB_is, ← this]
  show isB _ (entC (rd_T57 (rd_T48 ns i).f7 j)).f1 = _
  rw [← rd_map80]; rfl
 ·have := hc h5
  rw [List.length_map] at this
  exact this
theorem RightD.fit {ns : List S48} (h : RightD ns) : Fit ns := by
 have hz : ∀ i, getB ns i = false → getL ns i = z48 := fun i hi => by unfold getL; rw [if_neg (by rw [hi]; simp)]
 refine ⟨fun i => ?_, fun i part => ?_, fun i => ?_⟩
 ·cases hi : getB ns i with
  | false => rw [hz i hi]; simp [z48]
  | true =>
   have h1 := getB_in hi
   have h2 := (h.1.2 _ (rd_mem h1.1 h1.2.1)).1
   unfold getL; rw [if_pos hi]; omega
 ·cases hi : getB ns i with
  | false => rw [hz i hi]; exact Rising.sorted (fun j hj => by simp [z48] at hj) part
  | true => exact (h.node hi).1.sorted part
 ·cases hi : getB ns i with
  | false => rw [hz i hi]; simp [z48, ByteArray.size]
  | true =>
   have h1 := getB_in hi
   have h2 := (h.1.2 _ (rd_mem h1.1 h1.2.1)).2
   unfold getL; rw [if_pos hi]; omega
theorem RightD.root {ns : List S48} (h : RightD ns) : getB ns 0 = true ∧ (getL ns 0).f0 = 2 := by
 obtain ⟨_, h1, h2, _⟩ := h
 rw [List.length_map] at h1
 rw [rd_map54] at h2
 have h3 : (rd_T48 ns 0).f0 = 2 := h2
 have hg : getB ns 0 = true := by unfold getB; exact decide_eq_true ⟨Int.le_refl _, by omega, by rw [h3]; decide⟩
 refine ⟨hg, ?_⟩
 unfold getL; rw [if_pos hg]; exact h3
end Go.Proofs.YthagmakojbfmaaaDoor.Ext
set_option linter.unusedVariables false
set_option linter.unusedSimpArgs false
namespace Go.Proofs.YthagmakojbfmaaaDoor.Ext
open Go Go.RowKit Go.Proofs.YthagmakojbfmaaaDoor Go.Proofs.YthagmakojbfmaaaDoorW.PrintWords
def oneF (ns : List S48) (who : Int) (fol sl : Bool) (at_ h : Int) (part : ByteArray) (rest : List ByteArray) : (Int × S28) ⊕ (Int × Int × List ByteArray) :=
 if ¬ hereB ns at_ = 0 then .inl (hereB ns at_, z28)
 else if mayB (getL ns at_).f1 (getL ns at_).f2 who 1 = false then .inl (7, z28)
 else if namedB at_ (getL ns at_) part = -1 then .inl (if rest = [] then (0, ⟨at_, part, -1, sl⟩) else (2, z28))
 else if (getL ns (namedB at_ (getL ns at_) part)).f0 = 3 ∧ (¬ rest = [] ∨ fol = true ∨ sl = true) then
  (if h = 8 then .inl (8, z28)
   else if checkB (getL ns (namedB at_ (getL ns at_) part)).f6 = 0 then
   (if namesL (getL ns (namedB at_ (getL ns at_) part)).f6 ++ rest = [] then .inl (0, ⟨0, ⟨#[]⟩, 0, sl⟩)
    else .inr (if rootB (getL ns (namedB at_ (getL ns at_) part)).f6 = true then 0 else at_, h + 1, namesL (getL ns (namedB at_ (getL ns at_) part)).f6 ++ rest))
   else .inl (checkB (getL ns (namedB at_ (getL ns at_) part)).f6, z28))
 else if rest = [] then .inl (if sl = true ∧ ¬ (getL ns (namedB at_ (getL ns at_) part)).f0 = 2 then (4, z28) else (0, ⟨at_, part, namedB at_ (getL ns at_) part, sl⟩))
 else .inr (namedB at_ (getL ns at_) part, h, rest)
inductive Goes (ns : List S48) (who : Int) (fol sl : Bool) : Int → Int → List ByteArray → Int × S28 → Prop
 | stop {at_ h : Int} {part : ByteArray} {rest : List ByteArray} {r : Int × S28} : oneF ns who fol sl at_ h part rest = .inl r → Goes ns who fol sl at_ h (part :: rest) r
 | step {at_ h a' h' : Int} {part : ByteArray} {rest ps' : List ByteArray} {r : Int × S28} : oneF ns who fol sl at_ h part rest = .inr (a', h', ps') → Goes ns who fol sl a' h' ps' r → Goes ns who fol sl at_ h (part :: rest) r
theorem Goes.det {ns : List S48} {who : Int} {fol sl : Bool} {at_ h : Int} {ps : List ByteArray} {r : Int × S28} (g : Goes ns who fol sl at_ h ps r) : ∀ {r'}, Goes ns who fol sl at_ h ps r' → r' = r := by
 induction g with
 | stop e =>
  intro r' g'
  cases g' with
  | stop e' => rw [e] at e'; exact (Sum.inl.inj e').symm
  | step e' _ => rw [e] at e'; cases e'
 | step e _ ih =>
  intro r' g'
  cases g' with
  | stop e' => rw [e] at e'; cases e'
  | step e' g2 =>
   rw [e] at e'
   have := Sum.inr.inj e'
   simp only [Prod.mk.injEq] at this
   obtain ⟨rfl, rfl, rfl⟩ := this
   exact ih g2
def resF (s : Int × Wk) : Int × S28 := if s.1 = 0 then (0, ⟨s.2.dir, s.2.name, s.2.ino, s.2.slashed⟩) else (s.1, z28)
def StepIs (k : Wk) (s : Int × Wk × List ByteArray) : (Int × S28) ⊕ (Int × Int × List ByteArray) → Prop
 | .inl r => (¬ s.1 = 0 ∧ r = (s.1, z28)) ∨ (s.1 = 0 ∧ s.2.1.over = true ∧ r = (0, ⟨s.2.1.dir, s.2.1.name, s.2.1.ino, s.2.1.slashed⟩))
 | .inr (a', h', ps') => s.1 = 0 ∧ s.2.1.over = k.over ∧ s.2.1.at_ = a' ∧ s.2.1.hops = h' ∧ s.2.1.who = k.who ∧ s.2.1.follow = k.follow ∧ s.2.1.slash = k.slash ∧ s.2.2 = ps' ∧ ps' ≠ []
theorem step_is (ns : List S48) (k : Wk) (part : ByteArray) (rest : List ByteArray) : StepIs k (stepF ns k part rest) (oneF ns k.who k.follow k.slash k.at_ k.hops part rest) := by
 unfold stepF oneF
 by_cases h1 : ¬ hereB ns k.at_ = 0
 ·rw [if_pos h1, if_pos h1]; exact .inl ⟨h1, rfl⟩
 rw [if_neg h1, if_neg h1]
 by_cases h2 : mayB (getL ns k.at_).f1 (getL ns k.at_).f2 k.who 1 = false
 ·rw [if_pos h2, if_pos h2]; exact .inl ⟨by simp, rfl⟩
 rw [if_neg h2, if_neg h2]
 generalize namedB k.at_ (getL ns k.at_) part = ino
 by_cases h3 : ino = -1
 ·rw [if_pos h3, if_pos h3]
  by_cases h4 : rest = []
  ·rw [if_pos h4, if_pos h4]; exact .inr ⟨rfl, rfl, rfl⟩
  ·rw [if_neg h4, if_neg h4]; exact .inl ⟨by simp, rfl⟩
 rw [if_neg h3, if_neg h3]
 by_cases h5 : (getL ns ino).f0 = 3 ∧ (¬ rest = [] ∨ k.follow = true ∨ k.slash = true)
 ·rw [if_pos h5, if_pos h5]
  by_cases h6 : k.hops = 8
  ·rw [if_pos h6, if_pos h6]; exact .inl ⟨by simp, rfl⟩
  rw [if_neg h6, if_neg h6]
  by_cases h7 : checkB (getL ns ino).f6 = 0
  ·rw [if_pos h7, if_pos h7]
   unfold Wk.hopped
   by_cases h8 : namesL (getL ns ino).f6 ++ rest = []
   ·rw [if_pos h8, if_pos h8]; exact .inr ⟨rfl, rfl, rfl⟩
   ·rw [if_neg h8, if_neg h8]; exact ⟨rfl, rfl, rfl, rfl, rfl, rfl, rfl, rfl, h8⟩
  ·rw [if_neg h7, if_neg h7]; exact .inl ⟨h7, rfl⟩
 rw [if_neg h5, if_neg h5]
 by_cases h8 : rest = []
 ·rw [if_pos h8, if_pos h8]
  by_cases h9 : k.slash = true ∧ ¬ (getL ns ino).f0 = 2
  ·rw [if_pos h9, if_pos h9]; exact .inl ⟨by simp, rfl⟩
  ·rw [if_neg h9, if_neg h9]; exact .inr ⟨rfl, rfl, rfl⟩
 ·rw [if_neg h8, if_neg h8]; exact ⟨rfl, rfl, rfl, rfl, rfl, rfl, rfl, rfl, h8⟩
theorem goF_over (n : Nat) (ns : List S48) (k : Wk) (ps : List ByteArray) (h : k.over = true) : goF n ns k ps = (0, k) := by
 cases n with
 | zero => rfl
 | succ n => unfold goF; rw [if_pos h]
theorem go_goes (ns : List S48) (htx : ∀ i, (getL ns i).f6.size ≤ 1000) : ∀ (n : Nat) (k : Wk) (ps : List ByteArray), k.over = false → ps ≠ [] → (0 ≤ k.hops ∧ k.hops ≤ 8) → far k ps ≤ n →
  Goes ns k.who k.follow k.slash k.at_ k.hops ps (resF (goF n ns k ps)) := by
 intro n
 induction n with
 | zero =>
  intro k ps ho hps hh hf
  unfold far at hf
  rw [if_neg (by rw [ho]; decide)] at hf; omega
 | succ n ih =>
  intro k ps ho hps hh hf
  cases ps with
  | nil => exact absurd rfl hps
  | cons part rest =>
   have hs := step_is ns k part rest
   have hfar := far_step ns k part rest ho hh htx
   unfold goF
   rw [if_neg (by rw [ho]; decide)]
   simp only
   generalize hso : oneF ns k.who k.follow k.slash k.at_ k.hops part rest = o at hs
   generalize stepF ns k part rest = s at hs hfar
   obtain ⟨s1, s2, s3⟩ := s
   cases o with
   | inl r =>
    rcases hs with ⟨h1, rfl⟩ | ⟨h1, h2, rfl⟩
    ·refine .stop (hso.trans ?_)
     rw [if_neg h1]; unfold resF; rw [if_neg h1]
    ·refine .stop (hso.trans ?_)
     rw [if_pos h1]
     rw [goF_over _ _ _ _ h2]; unfold resF; rw [if_pos rfl]
   | inr o =>
    obtain ⟨a', h', ps'⟩ := o
    obtain ⟨h1, h2, h3, h4, h5, h6, h7, h8, h9⟩ := hs
    simp only at h1 h2 h3 h4 h5 h6 h7 h8
    subst h1 h8
    refine .step hso ?_
    rw [if_pos rfl]
    obtain ⟨hf1, hf2, hf3⟩ := hfar rfl
    have := ih s2 s3 (by rw [h2]; exact ho) h9 hf2 (by simp only at hf1; omega)
    rw [h3, h4, h5, h6, h7] at this
    exact this
theorem names_long (p : ByteArray) : (namesL p).length ≤ p.size + 1 := by
 unfold namesL
 rw [List.length_map]
 exact parts_length p _ (List.prefix_refl _)
def fromF (path : ByteArray) (frm : Int) : Int := if rootB path = true then 0 else frm
theorem walk_goes (ns : List S48) (who frm : Int) (path : ByteArray) (fol : Bool) (hf : Fit ns) (hp : path.size ≤ 1000) (hk : checkB path = 0) (hn : namesL path ≠ []) :
  Goes ns who fol (slashB path) (fromF path frm) 0 (namesL path) (walkF ns who frm path fol) := by
 have h := go_goes ns hf.tx 10000 (walk0 who frm path fol) (namesL path) rfl hn ⟨by show (0 : Int) ≤ 0; omega, by show (0 : Int) ≤ 8; omega⟩ (by
  have := names_long path
  unfold far
  show (8 - (0 : Int)).toNat * 1010 + (namesL path).length + (if false = true then 0 else 1) ≤ 10000
  simp; omega)
 have e : walkF ns who frm path fol = resF (goF 10000 ns (walk0 who frm path fol) (namesL path)) := by
  unfold walkF allF resF
  rw [if_pos hk, if_neg hn]; rfl
 rw [e]; exact h
theorem walk_none (ns : List S48) (who frm : Int) (path : ByteArray) (fol : Bool) (hk : checkB path = 0) (hn : namesL path = []) :
  walkF ns who frm path fol = if hereB ns (fromF path frm) = 0 then (0, ⟨fromF path frm, ⟨#[]⟩, fromF path frm, true⟩) else (hereB ns (fromF path frm), z28) := by
 unfold walkF allF
 rw [if_pos hk, if_pos hn]; rfl
theorem walk_not (ns : List S48) (who frm : Int) (path : ByteArray) (fol : Bool) (hk : ¬ checkB path = 0) : walkF ns who frm path fol = (checkB path, z28) := by
 unfold walkF
 rw [if_neg hk]; rfl
theorem rootB_eq (p : ByteArray) : rootB p = (p.data.toList.head? == some 47) := by
 unfold rootB Lib.hasPrefix
 cases p.data.toList with
 | nil => rfl
 | cons c l =>
  show ((47 : UInt8) == c && List.isPrefixOf [] l) = (some c == some 47)
  rw [show List.isPrefixOf [] l = true from by cases l <;> rfl, Bool.and_true]
  by_cases hc : c = 47
  ·subst hc; rfl
  ·rw [beq_eq_false_iff_ne.2 (fun h => hc h.symm), beq_eq_false_iff_ne.2 (fun h => hc (Option.some.inj h))]
theorem prefix_one (l : B) : Lib.hasPrefix l [47] = (l.head? == some 47) := by
 have := rootB_eq (bs l)
 unfold rootB at this
 rw [bs_data] at this; exact this
theorem slashB_eq (p : ByteArray) : slashB p = (p.data.toList.getLast? == some 47) := by
 unfold slashB Lib.hasSuffix List.isSuffixOf
 have := prefix_one p.data.toList.reverse
 unfold Lib.hasPrefix at this
 rw [List.head?_reverse] at this
 exact this
theorem any_long (p : ByteArray) : (partsL p).any (fun x => decide (12 < x.2.size)) = (namesL p).any (fun x => decide (12 < x.size)) := by
 unfold namesL; rw [List.any_map]; rfl
theorem checkB_eq (p : ByteArray) : checkB p = if p.size = 0 then 2 else if 100 < p.size then 9 else if 0 ≤ Lib.indexByte p.data.toList 0 then 1 else if (namesL p).any (fun x => decide (12 < x.size)) = true then 9 else 0 := by
 unfold checkB; rw [any_long]
end Go.Proofs.YthagmakojbfmaaaDoor.Ext
