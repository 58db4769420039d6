/- Paths joined: the document's Join; who comes by one path to a directory, and by another one from there, comes there by both. -/
import Derived.Test.YthagmakojbfmaaaDoorRfJ
import Derived.Test.YthagmakojbfmaaaDoorLq
set_option linter.unusedVariables false
set_option linter.unusedSimpArgs false
namespace Go.Proofs.YthagmakojbfmaaaDoor.Ext
open Go Go.RowKit Go.Proofs.YthagmakojbfmaaaDoor Go.Proofs.YthagmakojbfmaaaDoorW.PrintWords Go.Proofs.YthagmakojbfmaaaDoor.Pright
def joinL (a b : B) : B := if a = [] then b else if b.head? = some 47 then b else if b = [] then a else Lib.trimSuffix a [47] ++ [47] ++ b
theorem suffix_one (l : B) : Lib.hasSuffix l [47] = (l.getLast? == some 47) := by
 have := slashB_eq (bs l)
 unfold slashB at this
 rw [bs_data] at this; exact this
theorem trimSuffix_one (a : B) : (∃ a', a = a' ++ [47] ∧ Lib.trimSuffix a [47] = a') ∨ (a.getLast? ≠ some 47 ∧ Lib.trimSuffix a [47] = a) := by
 unfold Lib.trimSuffix
 rw [suffix_one]
 by_cases h : a.getLast? = some 47
 ·obtain ⟨a', rfl⟩ := List.getLast?_eq_some_iff.1 h
  rw [if_pos (by rw [h]; rfl)]
  exact .inl ⟨a', rfl, by simp⟩
 ·rw [if_neg (by simpa using h)]
  exact .inr ⟨h, rfl⟩
theorem names_trim (a : B) : names (Lib.trimSuffix a [47]) = names a := by
 rcases trimSuffix_one a with ⟨a', rfl, h⟩ | ⟨_, h⟩
 ·rw [h, names_end]
 ·rw [h]
theorem joinL_eq {a b : B} (ha : a ≠ []) (hb : b ≠ []) (h2 : b.head? ≠ some 47) : joinL a b = Lib.trimSuffix a [47] ++ [47] ++ b := by
 unfold joinL; rw [if_neg ha, if_neg h2, if_neg hb]
theorem names_join {a b : B} (ha : a ≠ []) (hb : b ≠ []) (h2 : b.head? ≠ some 47) : names (joinL a b) = names a ++ names b := by
 rw [joinL_eq ha hb h2, List.append_assoc, List.singleton_append, names_split, names_trim]
theorem head_join {a b : B} (ha : a ≠ []) (hb : b ≠ []) (h2 : b.head? ≠ some 47) : ((joinL a b).head? == some 47) = (a.head? == some 47) := by
 rw [joinL_eq ha hb h2]
 rcases trimSuffix_one a with ⟨a', rfl, h⟩ | ⟨_, h⟩
 ·rw [h]
  cases a' with
  | nil => rfl
  | cons c a' => rfl
 ·rw [h]
  cases a with
  | nil => exact absurd rfl ha
  | cons c a => rfl
theorem last_join {a b : B} (ha : a ≠ []) (hb : b ≠ []) (h2 : b.head? ≠ some 47) : ((joinL a b).getLast? == some 47) = (b.getLast? == some 47) := by
 rw [joinL_eq ha hb h2, List.getLast?_append]
 cases h : b.getLast? with
 | none => exact absurd (List.getLast?_eq_none_iff.1 h) hb
 | some x => rfl
theorem mem_join {a b : B} (ha : a ≠ []) (hb : b ≠ []) (h2 : b.head? ≠ some 47) (h : (0 : UInt8) ∈ joinL a b) : (0 : UInt8) ∈ a ∨ (0 : UInt8) ∈ b := by
 rw [joinL_eq ha hb h2] at h
 rcases List.mem_append.1 h with h | h
 ·rcases List.mem_append.1 h with h | h
  ·rcases trimSuffix_one a with ⟨a', h3, h4⟩ | ⟨_, h4⟩
   ·rw [h4] at h; rw [h3]; exact .inl (List.mem_append.2 (.inl h))
   ·rw [h4] at h; exact .inl h
  ·simp at h
 ·exact .inr h
theorem len_join {a b : B} (ha : a ≠ []) (hb : b ≠ []) (h2 : b.head? ≠ some 47) : (joinL a b).length ≤ a.length + b.length + 1 ∧ joinL a b ≠ [] := by
 rw [joinL_eq ha hb h2]
 have ht : (Lib.trimSuffix a [47]).length ≤ a.length := by
  unfold Lib.trimSuffix
  split
  ·rw [List.length_take]; omega
  ·exact Nat.le_refl _
 refine ⟨?_, by simp⟩
 simp only [List.length_append, List.length_cons, List.length_nil]; omega
theorem bt_bs (l : B) (i : Nat) (h : i < l.length) : bt (bs l) (i : Int) = ((l[i]).toNat : Int) := by
 have hz : (bs l).size = l.length := bs_size l
 have h' : ((i : Nat) : Int).toNat < (bs l).size := by rw [hz, Int.toNat_natCast]; exact h
 have := bt_at (bs l) (i : Int) h'
 rw [← this]
 rfl
theorem u8_47 (c : UInt8) : ((c.toNat : Int) = 47) ↔ c = 47 := by
 constructor
 ·intro h; exact UInt8.toNat_inj.1 (show c.toNat = 47 by omega)
 ·intro h; subst h; rfl
theorem bs_app (a b : B) : bs a ++ bs b = bs (a ++ b) := by
 refine ba_ext ?_
 simp [bs]
theorem bs_toList (l : B) : (bs l).toList = l := by rw [toList_data]; exact bs_data l
theorem head_bt (l : B) (h : l ≠ []) : ((bt (bs l) 0) == 47) = (l.head? == some 47) := by
 cases l with
 | nil => exact absurd rfl h
 | cons c l =>
  have := bt_bs (c :: l) 0 (by simp)
  rw [show ((0 : Nat) : Int) = 0 from rfl] at this
  rw [this]
  show (((c.toNat : Nat) : Int) == 47) = (some c == some 47)
  by_cases hc : c = 47
  ·subst hc; rfl
  ·rw [beq_eq_false_iff_ne.2 (fun h => hc ((u8_47 c).1 h)), beq_eq_false_iff_ne.2 (fun h => hc (Option.some.inj h))]
theorem head_at (q : ByteArray) (h : 0 < q.size) : q.data.toList.head? = some (q[0]'h) := by
 obtain ⟨⟨l⟩⟩ := q
 cases l with
 | nil => exact absurd h (by simp [ByteArray.size])
 | cons a l => rfl
theorem refJoin (a b : B) (ha : a.length ≤ 300) (hb : b.length ≤ 300) (k : Nat) : flagstoneref01_Join.f (k + 1) (bs a) (bs b) = some (bs (joinL a b)) := by
 have za : (bs a).size = a.length := bs_size a
 have zb : (bs b).size = b.length := bs_size b
 unfold flagstoneref01_Join.f joinL
 rw [bs_toList, bs_toList]
 by_cases h1 : a = []
 ·rw [if_pos h1, if_pos h1]
  simp only [flagstoneref01_Join.j0]
  rw [if_pos trivial]
 ·have ha0 : a.length ≠ 0 := fun e => h1 (List.eq_nil_of_length_eq_zero e)
  rw [if_neg h1, if_neg h1]
  by_cases h3 : b = []
  ·rw [if_pos h3, if_neg (by rw [h3]; simp), if_pos h3]
   simp only [flagstoneref01_Join.j0]
   rw [if_neg Bool.false_ne_true, bs_toList, if_pos h3]
  ·have hb0 : b.length ≠ 0 := fun e => h3 (List.eq_nil_of_length_eq_zero e)
   rw [if_neg h3, if_pos (by omega), head_bt b h3, if_neg h3]
   simp only [flagstoneref01_Join.j0]
   by_cases h2 : b.head? = some 47
   ·rw [if_pos (by rw [h2]; rfl), if_pos h2]
   ·have e1 : wrap64 (((bs a).size : Int) - 1) = ((a.length - 1 : Nat) : Int) := by unfold wrap64; omega
    have hbt := bt_bs a (a.length - 1) (by omega)
    rw [if_neg (by simpa using h2), bs_toList, if_neg h3, if_neg h2, e1, if_pos (by omega), if_pos (by omega), hbt]
    rcases trimSuffix_one a with ⟨a', h4, h5⟩ | ⟨h4, h5⟩
    ·have hc : a[a.length - 1]'(by omega) = 47 := by subst h4; simp
     rw [hc, if_pos (show ((((47 : UInt8).toNat : Nat) : Int) = 47) from rfl), if_pos (by omega), h5, bs_app, ← h4]
    ·have hc : a[a.length - 1]'(by omega) ≠ 47 := by
      intro e
      apply h4
      rw [List.getLast?_eq_getElem?, List.getElem?_eq_getElem (by omega), e]
     have h47 : (bs a ++ (⟨#[47]⟩ : ByteArray)).size = a.length + 1 := by rw [show (⟨#[47]⟩ : ByteArray) = bs [47] from rfl, bs_app, bs_size]; simp
     rw [if_neg (fun e => hc ((u8_47 _).1 e)), if_pos (by omega), if_pos (by omega), h5, show (⟨#[47]⟩ : ByteArray) = bs [47] from rfl, bs_app, bs_app]
theorem none_root {p : ByteArray} (hk : checkB p = 0) (hn : namesL p = []) : rootB p = true := by
 rw [check_of] at hk
 rw [rootB_eq]
 rw [namesL_eq] at hn
 generalize p.data.toList = l at hk hn
 cases l with
 | nil => simp at hk
 | cons c l =>
  by_cases hc : c = 47
  ·subst hc; rfl
  ·obtain ⟨s, r, h1, h2⟩ := segs_other c l hc
   unfold names at hn
   rw [h2] at hn
   simp at hn
theorem names_ne {l : B} (hl : l ≠ []) (h2 : l.head? ≠ some 47) : names l ≠ [] := by
 cases l with
 | nil => exact absurd rfl hl
 | cons c l =>
  have hc : c ≠ 47 := fun h => h2 (by rw [h]; rfl)
  obtain ⟨s, r, h1, h2⟩ := segs_other c l hc
  unfold names
  rw [h2]; simp
theorem one_hop {ns : List S48} {who : Int} {sl : Bool} {at_ h1 : Int} (h2 : Int) (hh : h1 ≤ h2 ∧ h2 ≤ 8) {part : ByteArray} {rest : List ByteArray} {o : (Int × S28) ⊕ (Int × Int × List ByteArray)} (e : oneF ns who true sl at_ h1 part rest = o) (ok : ∀ r, o = .inl r → r.1 = 0) :
  oneF ns who true sl at_ h2 part rest = .inl (8, z28) ∨ (∃ r, o = .inl r ∧ oneF ns who true sl at_ h2 part rest = .inl r) ∨ (∃ a' h' h'' ps', o = .inr (a', h', ps') ∧ h' ≤ h'' ∧ h'' ≤ 8 ∧ oneF ns who true sl at_ h2 part rest = .inr (a', h'', ps')) := by
 subst e
 unfold oneF at ok ⊢
 by_cases c1 : ¬ hereB ns at_ = 0
 ·rw [if_pos c1, if_pos c1]; exact .inr (.inl ⟨_, rfl, rfl⟩)
 rw [if_neg c1] at ok ⊢; rw [if_neg c1]
 by_cases c2 : mayB (getL ns at_).f1 (getL ns at_).f2 who 1 = false
 ·rw [if_pos c2, if_pos c2]; exact .inr (.inl ⟨_, rfl, rfl⟩)
 rw [if_neg c2] at ok ⊢; rw [if_neg c2]
 generalize namedB at_ (getL ns at_) part = ino at ok ⊢
 by_cases c3 : ino = -1
 ·rw [if_pos c3, if_pos c3]; exact .inr (.inl ⟨_, rfl, rfl⟩)
 rw [if_neg c3] at ok ⊢; rw [if_neg c3]
 by_cases c5 : (getL ns ino).f0 = 3 ∧ (¬ rest = [] ∨ true = true ∨ sl = true)
 ·rw [if_pos c5] at ok ⊢; rw [if_pos c5]
  by_cases c6 : h2 = 8
  ·rw [if_pos c6]; exact .inl rfl
  ·have c7 : ¬ h1 = 8 := by omega
   rw [if_neg c6]; rw [if_neg c7] at ok ⊢
   by_cases c8 : checkB (getL ns ino).f6 = 0
   ·rw [if_pos c8, if_pos c8]
    by_cases c9 : namesL (getL ns ino).f6 ++ rest = []
    ·rw [if_pos c9, if_pos c9]; exact .inr (.inl ⟨_, rfl, rfl⟩)
    ·rw [if_neg c9, if_neg c9]; exact .inr (.inr ⟨_, _, _, _, rfl, by omega, by omega, rfl⟩)
   ·rw [if_neg c8, if_neg c8]; exact .inr (.inl ⟨_, rfl, rfl⟩)
 ·rw [if_neg c5, if_neg c5]
  by_cases c6 : rest = []
  ·rw [if_pos c6, if_pos c6]; exact .inr (.inl ⟨_, rfl, rfl⟩)
  ·rw [if_neg c6, if_neg c6]; exact .inr (.inr ⟨_, _, _, _, rfl, hh.1, hh.2, rfl⟩)
theorem Goes.hop {ns : List S48} {who : Int} {sl : Bool} {at_ h1 : Int} {ps : List ByteArray} {r : Int × S28} (g : Goes ns who true sl at_ h1 ps r) (hr : r.1 = 0) : ∀ h2, h1 ≤ h2 ∧ h2 ≤ 8 → ∃ r', Goes ns who true sl at_ h2 ps r' ∧ (r' = r ∨ r'.1 = 8) := by
 induction g with
 | stop e =>
  intro h2 hh
  rcases one_hop h2 hh e (fun r' h => by cases h; exact hr) with h | ⟨r', h, h3⟩ | ⟨_, _, _, _, h, _⟩
  ·exact ⟨_, .stop h, .inr rfl⟩
  ·cases h; exact ⟨_, .stop h3, .inl rfl⟩
  ·cases h
 | step e _ ih =>
  intro h2 hh
  rcases one_hop h2 hh e (fun r' h => by cases h) with h | ⟨r', h, h3⟩ | ⟨a', h', h'', ps', h, h3, h4, h5⟩
  ·exact ⟨_, .stop h, .inr rfl⟩
  ·cases h
  ·cases h
   obtain ⟨r', g', hr'⟩ := ih hr h'' ⟨h3, h4⟩
   exact ⟨r', .step h5 g', hr'⟩
theorem one_join {ns : List S48} {who : Int} {slp : Bool} (slq : Bool) {at_ h : Int} (hh : h ≤ 8) {part : ByteArray} {rest : List ByteArray} (qs : List ByteArray) (hq : qs ≠ []) {o : (Int × S28) ⊕ (Int × Int × List ByteArray)} (e : oneF ns who true slp at_ h part rest = o) (ok : ∀ r, o = .inl r → r.1 = 0 ∧ r.2.f2 ≠ -1) :
  (∃ r h', o = .inl r ∧ h ≤ h' ∧ h' ≤ 8 ∧ oneF ns who true slq at_ h part (rest ++ qs) = .inr (r.2.f2, h', qs)) ∨ (∃ a' h' ps', o = .inr (a', h', ps') ∧ h' ≤ 8 ∧ oneF ns who true slq at_ h part (rest ++ qs) = .inr (a', h', ps' ++ qs)) := by
 subst e
 unfold oneF at ok ⊢
 by_cases c1 : ¬ hereB ns at_ = 0
 ·rw [if_pos c1] at ok; exact absurd (ok _ rfl).1 c1
 rw [if_neg c1] at ok ⊢; rw [if_neg c1]
 by_cases c2 : mayB (getL ns at_).f1 (getL ns at_).f2 who 1 = false
 ·rw [if_pos c2] at ok; exact absurd (ok _ rfl).1 (by simp)
 rw [if_neg c2] at ok ⊢; rw [if_neg c2]
 generalize namedB at_ (getL ns at_) part = ino at ok ⊢
 by_cases c3 : ino = -1
 ·rw [if_pos c3] at ok
  have := ok _ rfl
  split at this
  ·exact absurd rfl this.2
  ·exact absurd this.1 (by simp)
 rw [if_neg c3] at ok ⊢; rw [if_neg c3]
 have hne : ¬ (rest ++ qs = []) := by simp [hq]
 by_cases c5 : (getL ns ino).f0 = 3
 ·rw [if_pos (show (getL ns ino).f0 = 3 ∧ (¬ rest = [] ∨ true = true ∨ slp = true) from ⟨c5, .inr (.inl rfl)⟩)] at ok ⊢
  rw [if_pos (show (getL ns ino).f0 = 3 ∧ (¬ rest ++ qs = [] ∨ true = true ∨ slq = true) from ⟨c5, .inr (.inl rfl)⟩)]
  by_cases c6 : h = 8
  ·rw [if_pos c6] at ok; exact absurd (ok _ rfl).1 (by simp)
  rw [if_neg c6] at ok ⊢; rw [if_neg c6]
  by_cases c8 : checkB (getL ns ino).f6 = 0
  ·rw [if_pos c8] at ok ⊢; rw [if_pos c8]
   rw [if_neg (show ¬ (namesL (getL ns ino).f6 ++ (rest ++ qs) = []) by simp [hq])]
   by_cases c9 : namesL (getL ns ino).f6 ++ rest = []
   ·rw [if_pos c9]
    have hn := (List.append_eq_nil_iff.1 c9).1
    rw [if_pos (none_root c8 hn), ← List.append_assoc, c9, List.nil_append]
    exact .inl ⟨_, h + 1, rfl, by omega, by omega, rfl⟩
   ·rw [if_neg c9]
    exact .inr ⟨_, _, _, rfl, by omega, by rw [List.append_assoc]⟩
  ·rw [if_neg c8] at ok; exact absurd (ok _ rfl).1 c8
 ·rw [if_neg (show ¬ ((getL ns ino).f0 = 3 ∧ (¬ rest = [] ∨ true = true ∨ slp = true)) from fun h => c5 h.1)] at ok ⊢
  rw [if_neg (show ¬ ((getL ns ino).f0 = 3 ∧ (¬ rest ++ qs = [] ∨ true = true ∨ slq = true)) from fun h => c5 h.1), if_neg hne]
  by_cases c6 : rest = []
  ·rw [if_pos c6] at ok ⊢
   subst c6
   refine .inl ⟨_, h, rfl, Int.le_refl _, hh, ?_⟩
   have := ok _ rfl
   split at this
   ·exact absurd this.1 (by simp)
   ·rename_i c7; rw [if_neg c7, List.nil_append]
  ·rw [if_neg c6]
   exact .inr ⟨_, _, _, rfl, hh, rfl⟩
theorem one_hops {ns : List S48} {who : Int} {fol sl : Bool} {at_ h a' h' : Int} {part : ByteArray} {rest ps' : List ByteArray} (e : oneF ns who fol sl at_ h part rest = .inr (a', h', ps')) : h ≤ h' := by
 unfold oneF at e
 repeat' split at e
 all_goals first | (cases e; done) | (cases e; omega)
theorem Goes.join {ns : List S48} {who : Int} {slp slq : Bool} {at_ h : Int} {ps qs : List ByteArray} {x y : Int × S28} (g : Goes ns who true slp at_ h ps x) (hx : x.1 = 0 ∧ x.2.f2 ≠ -1) (hq : qs ≠ []) (g2 : Goes ns who true slq x.2.f2 0 qs y) (hy : y.1 = 0) : 0 ≤ h → h ≤ 8 → ∃ r, Goes ns who true slq at_ h (ps ++ qs) r ∧ (r = y ∨ r.1 = 8) := by
 induction g with
 | stop e =>
  intro h0 hh
  rcases one_join slq hh qs hq e (fun r' h => by cases h; exact hx) with ⟨r, h', h1, h2, h3, h4⟩ | ⟨_, _, _, h1, _⟩
  ·cases h1
   obtain ⟨r', g', hr'⟩ := g2.hop hy h' ⟨by omega, h3⟩
   exact ⟨r', .step h4 g', hr'⟩
  ·cases h1
 | @step at_ h a1 hn part rest ps1 r1 e _ ih =>
  intro h0 hh
  have hle := one_hops e
  rcases one_join slq hh qs hq e (fun r' h => by cases h) with ⟨r, h', h1, _⟩ | ⟨a', h', ps', h1, h2, h3⟩
  ·cases h1
  ·cases h1
   obtain ⟨r', g', hr'⟩ := ih hx g2 (by omega) h2
   exact ⟨r', .step h3 g', hr'⟩
theorem node_zero {ns : List S48} {who frm : Int} {p : ByteArray} {fol : Bool} (h : (nodeF ns who frm p fol).2 = 0) : (walkF ns who frm p fol).1 = 0 ∧ (walkF ns who frm p fol).2.f2 ≠ -1 ∧ (nodeF ns who frm p fol).1 = (walkF ns who frm p fol).2.f2 := by
 unfold nodeF at h ⊢
 by_cases h1 : (walkF ns who frm p fol).1 = 0
 ·rw [if_pos h1] at h ⊢
  by_cases h2 : (walkF ns who frm p fol).2.f2 = -1
  ·rw [if_pos h2] at h; cases h
  ·rw [if_neg h2]; exact ⟨h1, h2, rfl⟩
 ·rw [if_neg h1] at h; exact absurd h h1
theorem node_of {ns : List S48} {who frm : Int} {p : ByteArray} {fol : Bool} (h1 : (walkF ns who frm p fol).1 = 0) (h2 : (walkF ns who frm p fol).2.f2 ≠ -1) : nodeF ns who frm p fol = ((walkF ns who frm p fol).2.f2, 0) := by
 unfold nodeF; rw [if_pos h1, if_neg h2]
theorem node_err {ns : List S48} {who frm : Int} {p : ByteArray} {fol : Bool} (h1 : ¬ (walkF ns who frm p fol).1 = 0) : (nodeF ns who frm p fol).2 = (walkF ns who frm p fol).1 := by
 unfold nodeF; rw [if_neg h1]
theorem check_parts {p : ByteArray} (h : checkB p = 0) : p.data.toList ≠ [] ∧ ¬ (0 : UInt8) ∈ p.data.toList ∧ ¬ (names p.data.toList).any (fun x => decide (12 < x.length)) = true := by
 rw [check_of] at h
 repeat' split at h
 all_goals first | (cases h; done) | exact ⟨by assumption, by assumption, by assumption⟩
theorem joins_law (ns : List S48) (hr : RightD ns) (who frm : Int) (p q : ByteArray) (hp : p.size ≤ 90) (hq : q.size ≤ 90) (hqe : ¬ q.data.toList = []) (hqh : q.data.toList.head? ≠ some 47)
  (h1 : (nodeF ns who frm p true).2 = 0) (h2 : (nodeF ns who (nodeF ns who frm p true).1 q true).2 = 0) :
  ((nodeF ns who frm (bs (joinL p.data.toList q.data.toList)) true).2 = 0 ∧ (nodeF ns who frm (bs (joinL p.data.toList q.data.toList)) true).1 = (nodeF ns who (nodeF ns who frm p true).1 q true).1) ∨ (nodeF ns who frm (bs (joinL p.data.toList q.data.toList)) true).2 = 8 ∨
   ((nodeF ns who frm (bs (joinL p.data.toList q.data.toList)) true).2 = 9 ∧ 100 < (joinL p.data.toList q.data.toList).length) := by
 obtain ⟨x0, x1, x2⟩ := node_zero h1
 obtain ⟨y0, y1, y2⟩ := node_zero h2
 rw [y2]
 rw [x2] at y0 y1 y2 ⊢
 have kp : checkB p = 0 := Decidable.byContradiction fun h => by rw [walk_not ns who frm p true h] at x0; exact h x0
 have kq : checkB q = 0 := Decidable.byContradiction fun h => by rw [walk_not ns who _ q true h] at y0; exact h y0
 obtain ⟨p1, p2, p3⟩ := check_parts kp
 obtain ⟨q1, q2, q3⟩ := check_parts kq
 have sp := size_data p
 have sq := size_data q
 have hl := len_join p1 q1 hqh
 have hqn : namesL q ≠ [] := by rw [namesL_eq]; intro h; exact names_ne q1 hqh (List.map_eq_nil_iff.1 h)
 have hrq : rootB q = false := by rw [rootB_eq]; simpa using hqh
 generalize hP : bs (joinL p.data.toList q.data.toList) = P
 have hd : P.data.toList = joinL p.data.toList q.data.toList := by rw [← hP]; exact bs_data _
 have hN : namesL P = namesL p ++ namesL q := by rw [namesL_eq, namesL_eq, namesL_eq, hd, names_join p1 q1 hqh, List.map_append]
 have hS : slashB P = slashB q := by rw [slashB_eq, slashB_eq, hd, last_join p1 q1 hqh]
 have hR : rootB P = rootB p := by rw [rootB_eq, rootB_eq, hd, head_join p1 q1 hqh]
 have hF : fromF P frm = fromF p frm := by unfold fromF; rw [hR]
 have hz : P.size ≤ 1000 := by rw [← size_data, hd]; omega
 by_cases hlong : 100 < (joinL p.data.toList q.data.toList).length
 ·have hk : checkB P = 9 := by rw [check_of, hd, if_neg hl.2, if_pos hlong]
  have hw := walk_not ns who frm P true (by rw [hk]; decide)
  refine .inr (.inr ⟨?_, hlong⟩)
  rw [node_err (by rw [hw]; show ¬ checkB P = 0; rw [hk]; decide), hw]; exact hk
 ·have hk : checkB P = 0 := by
   rw [check_of, hd, if_neg hl.2, if_neg hlong, if_neg (fun h => (mem_join p1 q1 hqh h).elim p2 q2), names_join p1 q1 hqh, List.any_append, if_neg]
   simp only [Bool.or_eq_true, not_or]
   exact ⟨p3, q3⟩
  have hPn : namesL P ≠ [] := by rw [hN]; simp [hqn]
  have gP := walk_goes ns who frm P true hr.fit hz hk hPn
  rw [hS, hF, hN] at gP
  have gq := walk_goes ns who (walkF ns who frm p true).2.f2 q true hr.fit (by omega) kq hqn
  have hfq : fromF q (walkF ns who frm p true).2.f2 = (walkF ns who frm p true).2.f2 := by unfold fromF; rw [if_neg (by rw [hrq]; decide)]
  rw [hfq] at gq
  have key : ∃ r, Goes ns who true (slashB q) (fromF p frm) 0 (namesL p ++ namesL q) r ∧ (r = walkF ns who (walkF ns who frm p true).2.f2 q true ∨ r.1 = 8) := by
   by_cases hpn : namesL p = []
   ·rw [hpn, List.nil_append]
    have hw := walk_none ns who frm p true kp hpn
    have hat : (walkF ns who frm p true).2.f2 = fromF p frm := by
     rw [hw]
     by_cases h : hereB ns (fromF p frm) = 0
     ·rw [if_pos h]
     ·rw [hw, if_neg h] at x0; exact absurd x0 h
    rw [hat] at gq ⊢
    exact ⟨_, gq, .inl rfl⟩
   ·exact (walk_goes ns who frm p true hr.fit (by omega) kp hpn).join ⟨x0, x1⟩ hqn gq y0 (Int.le_refl _) (by decide)
  obtain ⟨r, gr, h⟩ := key
  have e : walkF ns who frm P true = r := gr.det gP
  rcases h with h | h
  ·rw [node_of (by rw [e, h]; exact y0) (by rw [e, h]; exact y1), e, h]; exact .inl ⟨rfl, rfl⟩
  ·refine .inr (.inl ?_)
   rw [node_err (by rw [e, h]; decide), e]; exact h
end Go.Proofs.YthagmakojbfmaaaDoor.Ext
