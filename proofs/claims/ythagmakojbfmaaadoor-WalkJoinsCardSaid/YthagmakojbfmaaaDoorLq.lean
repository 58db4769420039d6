/- The plain laws of ways: spots, slashes, roots, joins. -/
import Derived.Test.YthagmakojbfmaaaDoorWy
import Derived.Lib.IndexAny
/- The plain laws of ways. -/
set_option linter.unusedVariables false
set_option linter.unusedSimpArgs false
namespace Go.Proofs.YthagmakojbfmaaaDoor.Ext
open Go Go.RowKit Go.Proofs.YthagmakojbfmaaaDoor Go.Proofs.YthagmakojbfmaaaDoorW.PrintWords
theorem here_zero {ns : List S48} {i : Int} (h : hereB ns i = 0) : getB ns i = true ∧ (getL ns i).f0 = 2 := by
 unfold hereB at h
 by_cases h1 : getB ns i = true
 ·rw [if_pos h1] at h
  by_cases h2 : (getL ns i).f0 = 2
  ·exact ⟨h1, h2⟩
  ·rw [if_neg h2] at h; cases h
 ·rw [if_neg h1] at h; cases h
theorem here_cases (ns : List S48) (i : Int) : hereB ns i = 0 ∨ hereB ns i = 2 ∨ hereB ns i = 4 := by
 unfold hereB
 split
 ·split
  ·exact .inl rfl
  ·exact .inr (.inr rfl)
 ·exact .inr (.inl rfl)
theorem check_cases (p : ByteArray) : checkB p = 0 ∨ checkB p = 1 ∨ checkB p = 2 ∨ checkB p = 9 := by
 unfold checkB
 repeat' split
 all_goals simp
def kindAt (ns : List S48) (i : Int) : Int := (rd_T48 ns i).f0
theorem kind_eq {ns : List S48} {i : Int} (h0 : 0 ≤ i) (h1 : i < ns.length) : kindAt ns i = (getL ns i).f0 := by
 unfold kindAt getL
 by_cases h : getB ns i = true
 ·rw [if_pos h]
 ·rw [if_neg h]
  unfold getB at h
  have : (rd_T48 ns i).f0 = 0 := by
   by_cases h2 : (rd_T48 ns i).f0 = 0
   ·exact h2
   ·exact absurd (decide_eq_true (⟨h0, h1, h2⟩ : 0 ≤ i ∧ i < ns.length ∧ (rd_T48 ns i).f0 ≠ 0)) h
  rw [this]; rfl
theorem find_in {l : List S57} {name : ByteArray} {e : S57} (h : findL l name = some e) : ∃ j : Int, 0 ≤ j ∧ j < l.length ∧ rd_T57 l j = e := by
 have := List.mem_of_find?_eq_some h
 obtain ⟨j, hj, rfl⟩ := List.getElem_of_mem this
 exact ⟨j, by omega, by omega, rd_T57_nat l j hj⟩
theorem ino_in {ns : List S48} (hr : RightD ns) {at_ : Int} (hg : getB ns at_ = true) (part : ByteArray) : (findL (getL ns at_).f7 part = none ∧ inoL (getL ns at_).f7 part = -1) ∨ (∃ e, findL (getL ns at_).f7 part = some e ∧ inoL (getL ns at_).f7 part = e.f1 ∧ getB ns e.f1 = true) := by
 unfold inoL
 cases h : findL (getL ns at_).f7 part with
 | none => exact .inl ⟨rfl, rfl⟩
 | some e =>
  obtain ⟨j, j0, j1, rfl⟩ := find_in h
  exact .inr ⟨_, rfl, rfl, (hr.node hg).2.1 j j0 j1⟩
theorem named_in {ns : List S48} (hr : RightD ns) {at_ : Int} (h : hereB ns at_ = 0) (part : ByteArray) : namedB at_ (getL ns at_) part = -1 ∨ (0 ≤ namedB at_ (getL ns at_) part ∧ namedB at_ (getL ns at_) part < ns.length) := by
 obtain ⟨hg, h2⟩ := here_zero h
 unfold namedB
 by_cases h1 : part.toList = [46]
 ·rw [if_pos h1]; have := getB_in hg; exact .inr ⟨this.1, this.2.1⟩
 rw [if_neg h1]
 by_cases h3 : part.toList = [46, 46]
 ·rw [if_pos h3]; exact .inr ((hr.node hg).2.2 h2)
 rw [if_neg h3]
 rcases ino_in hr hg part with ⟨_, h4⟩ | ⟨e, _, h4, h5⟩
 ·exact .inl h4
 ·rw [h4]; have := getB_in h5; exact .inr ⟨this.1, this.2.1⟩
def AtLink (ns : List S48) (x : Int × S28) : Prop := x.1 = 0 ∧ 0 ≤ x.2.f2 ∧ x.2.f2 < ns.length ∧ kindAt ns x.2.f2 = 3
theorem one_last {ns : List S48} (hr : RightD ns) (who : Int) (sl : Bool) (at_ h : Int) (part : ByteArray) (rest : List ByteArray) : oneF ns who false sl at_ h part rest = oneF ns who true sl at_ h part rest ∨ ∃ r, oneF ns who false sl at_ h part rest = .inl r ∧ AtLink ns r := by
 unfold oneF
 by_cases h1 : ¬ hereB ns at_ = 0
 ·rw [if_pos h1, if_pos h1]; exact .inl rfl
 rw [if_neg h1, if_neg h1]
 by_cases h2 : mayB (getL ns at_).f1 (getL ns at_).f2 who 1 = false
 ·rw [if_pos h2, if_pos h2]; exact .inl rfl
 rw [if_neg h2, if_neg h2]
 have hin := named_in hr (Decidable.not_not.1 h1) part
 generalize namedB at_ (getL ns at_) part = ino at hin
 by_cases h3 : ino = -1
 ·rw [if_pos h3, if_pos h3]; exact .inl rfl
 rw [if_neg h3, if_neg h3]
 have hin' := hin.resolve_left h3
 by_cases h5 : (getL ns ino).f0 = 3 ∧ (¬ rest = [] ∨ false = true ∨ sl = true)
 ·rw [if_pos h5, if_pos (show (getL ns ino).f0 = 3 ∧ (¬ rest = [] ∨ true = true ∨ sl = true) from ⟨h5.1, .inr (.inl rfl)⟩)]; exact .inl rfl
 rw [if_neg h5]
 by_cases h6 : (getL ns ino).f0 = 3
 ·have hrest : rest = [] := Decidable.byContradiction fun h => h5 ⟨h6, .inl h⟩
  have hsl : sl = false := by cases sl with | false => rfl | true => exact absurd ⟨h6, .inr (.inr rfl)⟩ h5
  rw [if_pos hrest, if_neg (by rw [hsl]; simp)]
  exact .inr ⟨_, rfl, rfl, hin'.1, hin'.2, by show kindAt ns ino = 3; rw [kind_eq hin'.1 hin'.2]; exact h6⟩
 ·rw [if_neg (show ¬ ((getL ns ino).f0 = 3 ∧ (¬ rest = [] ∨ true = true ∨ sl = true)) from fun h => h6 h.1)]; exact .inl rfl
theorem Goes.last {ns : List S48} (hr : RightD ns) {who : Int} {sl : Bool} {at_ h : Int} {ps : List ByteArray} {x : Int × S28} (g : Goes ns who false sl at_ h ps x) : ∀ {y}, Goes ns who true sl at_ h ps y → y = x ∨ AtLink ns x := by
 induction g with
 | @stop at_ h part rest r e =>
  intro y g'
  rcases one_last hr who sl at_ h part rest with h1 | ⟨r', h1, h2⟩
  ·rw [h1] at e; exact .inl ((Goes.stop e).det g')
  ·rw [h1] at e; cases e; exact .inr h2
 | @step at_ h a' h' part rest ps' r e _ ih =>
  intro y g'
  rcases one_last hr who sl at_ h part rest with h1 | ⟨r', h1, h2⟩
  ·rw [h1] at e
   cases g' with
   | stop e' => rw [e] at e'; cases e'
   | step e' g2 =>
    rw [e] at e'
    have := Sum.inr.inj e'
    simp only [Prod.mk.injEq] at this
    obtain ⟨rfl, rfl, rfl⟩ := this
    exact ih g2
  ·rw [h1] at e; cases e
end Go.Proofs.YthagmakojbfmaaaDoor.Ext
set_option linter.unusedVariables false
set_option linter.unusedSimpArgs false
namespace Go.Proofs.YthagmakojbfmaaaDoor.Ext
open Go Go.RowKit Go.Proofs.YthagmakojbfmaaaDoor Go.Proofs.YthagmakojbfmaaaDoorW.PrintWords
def SpotOk (ns : List S48) (x : Int × S28) : Prop :=
 (x.1 = 0 → 0 ≤ x.2.f0 ∧ x.2.f0 < ns.length ∧ kindAt ns x.2.f0 = 2 ∧ (x.2.f1.toList = [] ∨ x.2.f1.toList = [46] → x.2.f2 = x.2.f0) ∧ (x.2.f1.toList = [46, 46] → x.2.f2 = (rd_T48 ns x.2.f0).f5) ∧
  (¬ x.2.f1.toList = [] → ¬ x.2.f1.toList = [46] → ¬ x.2.f1.toList = [46, 46] → x.2.f2 = inoL (rd_T48 ns x.2.f0).f7 x.2.f1 ∧ ((findL (rd_T48 ns x.2.f0).f7 x.2.f1).isSome = decide (0 ≤ x.2.f2)))) ∧ (¬ x.1 = 0 → x.2 = z28 ∧ x.1 ≠ 3)
theorem getL_eq {ns : List S48} {i : Int} (h : getB ns i = true) : getL ns i = rd_T48 ns i := by unfold getL; rw [if_pos h]
theorem one_spot {ns : List S48} (hr : RightD ns) {who : Int} {fol sl : Bool} {at_ h : Int} {part : ByteArray} {rest : List ByteArray} {r : Int × S28} (hp : ¬ part.toList = []) (e : oneF ns who fol sl at_ h part rest = .inl r) : SpotOk ns r := by
 have bad : ∀ n : Int, ¬ n = 0 → n ≠ 3 → SpotOk ns (n, z28) := fun n h1 h2 => ⟨fun h => absurd h h1, fun _ => ⟨rfl, h2⟩⟩
 unfold oneF at e
 by_cases h1 : ¬ hereB ns at_ = 0
 ·rw [if_pos h1] at e; cases e; exact bad _ h1 (by rcases here_cases ns at_ with h | h | h <;> rw [h] <;> decide)
 rw [if_neg h1] at e
 split at e
 ·cases e; exact bad _ (by decide) (by decide)
 have hz := Decidable.not_not.1 h1
 have hin := named_in hr hz part
 obtain ⟨hg, h2⟩ := here_zero hz
 have h3 := getB_in hg
 have dir : ∀ ino : Int, namedB at_ (getL ns at_) part = ino → SpotOk ns (0, ⟨at_, part, ino, sl⟩) := by
  intro ino hi
  refine ⟨fun _ => ⟨h3.1, h3.2.1, by show kindAt ns at_ = 2; rw [kind_eq h3.1 h3.2.1]; exact h2, ?_, ?_, ?_⟩, fun h => absurd rfl h⟩
  ·rintro (h | h)
   ·exact absurd h hp
   ·show ino = at_
    rw [← hi]; unfold namedB; exact if_pos h
  ·intro h
   show ino = (rd_T48 ns at_).f5
   rw [← hi, ← getL_eq hg]; unfold namedB
   rw [if_neg (by rw [show part.toList = [46, 46] from h]; decide), if_pos (show part.toList = [46, 46] from h)]
  ·intro _ h5 h6
   show ino = inoL (rd_T48 ns at_).f7 part ∧ ((findL (rd_T48 ns at_).f7 part).isSome = decide (0 ≤ ino))
   have e1 : ino = inoL (getL ns at_).f7 part := by
    rw [← hi]; unfold namedB
    rw [if_neg (show ¬ part.toList = [46] from h5), if_neg (show ¬ part.toList = [46, 46] from h6)]
   rw [← getL_eq hg]
   refine ⟨e1, ?_⟩
   rcases ino_in hr hg part with ⟨h7, h8⟩ | ⟨x, h7, h8, h9⟩
   ·rw [h7, e1, h8]; rfl
   ·rw [h7, e1, h8]; have := getB_in h9; simp [this.1]
 generalize namedB at_ (getL ns at_) part = ino at e hin dir
 by_cases h3 : ino = -1
 ·rw [if_pos h3] at e; cases e
  split
  ·rw [← h3]; exact dir _ rfl
  ·exact bad _ (by decide) (by decide)
 rw [if_neg h3] at e
 split at e
 ·split at e
  ·cases e; exact bad _ (by decide) (by decide)
  split at e
  ·split at e
   ·cases e
    have hroot := getB_in hr.root.1
    refine ⟨fun _ => ⟨Int.le_refl _, hroot.2.1, by show kindAt ns 0 = 2; rw [kind_eq (Int.le_refl _) hroot.2.1]; exact hr.root.2, fun _ => rfl, ?_, ?_⟩, fun h => absurd rfl h⟩
    ·intro h; exact absurd h (by simp [toList_data])
    ·intro h; exact absurd (by simp [toList_data]) h
   ·cases e
  ·rename_i h7; cases e; exact bad _ h7 (by rcases check_cases (getL ns ino).f6 with h | h | h | h <;> rw [h] <;> decide)
 split at e
 ·cases e
  split
  ·exact bad _ (by decide) (by decide)
  ·exact dir _ rfl
 ·cases e
def Full (ps : List ByteArray) : Prop := ∀ p ∈ ps, ¬ p.toList = []
theorem full_names (p : ByteArray) : Full (namesL p) := by
 intro x hx
 rw [namesL_eq] at hx
 obtain ⟨l, hl, rfl⟩ := List.mem_map.1 hx
 unfold names at hl
 rw [List.mem_filter] at hl
 rw [toList_data, bs_data]
 have := hl.2
 cases l with
 | nil => simp at this
 | cons a l => simp
theorem one_full {ns : List S48} {who : Int} {fol sl : Bool} {at_ h a' h' : Int} {part : ByteArray} {rest ps' : List ByteArray} (hf : Full rest) (e : oneF ns who fol sl at_ h part rest = .inr (a', h', ps')) : Full ps' := by
 unfold oneF at e
 repeat' split at e
 all_goals first | (cases e; done) | (cases e; first | exact hf | (intro x hx; rcases List.mem_append.1 hx with h | h; exact full_names _ x h; exact hf x h))
theorem Goes.spot {ns : List S48} (hr : RightD ns) {who : Int} {fol sl : Bool} {at_ h : Int} {ps : List ByteArray} {r : Int × S28} (g : Goes ns who fol sl at_ h ps r) : Full ps → SpotOk ns r := by
 induction g with
 | stop e => intro hf; exact one_spot hr (hf _ (by simp)) e
 | step e _ ih => intro hf; exact ih (one_full (fun x hx => hf x (by simp [hx])) e)
theorem spot_law (ns : List S48) (hr : RightD ns) (who frm : Int) (path : ByteArray) (fol : Bool) (hp : path.size ≤ 1000) : SpotOk ns (walkF ns who frm path fol) := by
 by_cases hk : checkB path = 0
 ·by_cases hn : namesL path = []
  ·rw [walk_none ns who frm path fol hk hn]
   by_cases h : hereB ns (fromF path frm) = 0
   ·rw [if_pos h]
    obtain ⟨h1, h2⟩ := here_zero h
    have h3 := getB_in h1
    refine ⟨fun _ => ⟨h3.1, h3.2.1, by show kindAt ns (fromF path frm) = 2; rw [kind_eq h3.1 h3.2.1]; exact h2, fun _ => rfl, ?_, ?_⟩, fun h => absurd rfl h⟩
    ·intro h; exact absurd h (by simp [toList_data])
    ·intro h; exact absurd (by simp [toList_data]) h
   ·rw [if_neg h]; exact ⟨fun h' => absurd h' h, fun _ => ⟨rfl, by show hereB _ _ ≠ 3; rcases here_cases ns (fromF path frm) with h | h | h <;> rw [h] <;> decide⟩⟩
  ·exact (walk_goes ns who frm path fol hr.fit hp hk hn).spot hr (full_names path)
 ·rw [walk_not ns who frm path fol hk]
  exact ⟨fun h => absurd h hk, fun _ => ⟨rfl, by show checkB path ≠ 3; rcases check_cases path with h | h | h | h <;> rw [h] <;> decide⟩⟩
def RelS (ns : List S48) (x y : Int × S28) : Prop := (¬ x.1 = 0 → y.1 = x.1 ∨ x.1 = 4) ∧ (x.1 = 0 → x.2.f3 = true ∧ y.1 = 0 ∧ x.2.f2 = y.2.f2 ∧ x.2.f0 = y.2.f0 ∧ (x.2.f2 < 0 ∨ (0 ≤ x.2.f2 ∧ x.2.f2 < ns.length ∧ kindAt ns x.2.f2 = 2)))
theorem one_slash {ns : List S48} (hr : RightD ns) (who : Int) (sl : Bool) (at_ h : Int) (part : ByteArray) (rest : List ByteArray) : (∃ r r', oneF ns who false true at_ h part rest = .inl r ∧ oneF ns who true sl at_ h part rest = .inl r' ∧ RelS ns r r') ∨ ∃ o, oneF ns who false true at_ h part rest = .inr o ∧ oneF ns who true sl at_ h part rest = .inr o := by
 have bad : ∀ n : Int, ¬ n = 0 → RelS ns (n, z28) (n, z28) := fun n h1 => ⟨fun _ => .inl rfl, fun h => absurd h h1⟩
 unfold oneF
 by_cases h1 : ¬ hereB ns at_ = 0
 ·rw [if_pos h1, if_pos h1]; exact .inl ⟨_, _, rfl, rfl, bad _ h1⟩
 rw [if_neg h1, if_neg h1]
 by_cases h2 : mayB (getL ns at_).f1 (getL ns at_).f2 who 1 = false
 ·rw [if_pos h2, if_pos h2]; exact .inl ⟨_, _, rfl, rfl, bad _ (by decide)⟩
 rw [if_neg h2, if_neg h2]
 have hin := named_in hr (Decidable.not_not.1 h1) part
 generalize namedB at_ (getL ns at_) part = ino at hin
 by_cases h3 : ino = -1
 ·rw [if_pos h3, if_pos h3]
  refine .inl ⟨_, _, rfl, rfl, ?_⟩
  by_cases h4 : rest = []
  ·rw [if_pos h4, if_pos h4]; exact ⟨fun h => absurd rfl h, fun _ => ⟨rfl, rfl, rfl, rfl, .inl (by show (-1 : Int) < 0; decide)⟩⟩
  ·rw [if_neg h4, if_neg h4]; exact bad _ (by decide)
 rw [if_neg h3, if_neg h3]
 have hin' := hin.resolve_left h3
 by_cases h5 : (getL ns ino).f0 = 3
 ·rw [if_pos (show (getL ns ino).f0 = 3 ∧ (¬ rest = [] ∨ false = true ∨ true = true) from ⟨h5, .inr (.inr rfl)⟩), if_pos (show (getL ns ino).f0 = 3 ∧ (¬ rest = [] ∨ true = true ∨ sl = true) from ⟨h5, .inr (.inl rfl)⟩)]
  by_cases h6 : h = 8
  ·rw [if_pos h6, if_pos h6]; exact .inl ⟨_, _, rfl, rfl, bad _ (by decide)⟩
  rw [if_neg h6, if_neg h6]
  by_cases h7 : checkB (getL ns ino).f6 = 0
  ·rw [if_pos h7, if_pos h7]
   by_cases h8 : namesL (getL ns ino).f6 ++ rest = []
   ·rw [if_pos h8, if_pos h8]
    refine .inl ⟨_, _, rfl, rfl, fun h => absurd rfl h, fun _ => ⟨rfl, rfl, rfl, rfl, .inr ⟨Int.le_refl _, (getB_in hr.root.1).2.1, ?_⟩⟩⟩
    show kindAt ns 0 = 2
    rw [kind_eq (Int.le_refl _) (getB_in hr.root.1).2.1]; exact hr.root.2
   ·rw [if_neg h8, if_neg h8]; exact .inr ⟨_, rfl, rfl⟩
  ·rw [if_neg h7, if_neg h7]; exact .inl ⟨_, _, rfl, rfl, bad _ h7⟩
 rw [if_neg (show ¬ ((getL ns ino).f0 = 3 ∧ (¬ rest = [] ∨ false = true ∨ true = true)) from fun h => h5 h.1), if_neg (show ¬ ((getL ns ino).f0 = 3 ∧ (¬ rest = [] ∨ true = true ∨ sl = true)) from fun h => h5 h.1)]
 by_cases h8 : rest = []
 ·rw [if_pos h8, if_pos h8]
  refine .inl ⟨_, _, rfl, rfl, ?_⟩
  by_cases h9 : (getL ns ino).f0 = 2
  ·rw [if_neg (fun h => h.2 h9), if_neg (fun h => h.2 h9)]
   exact ⟨fun h => absurd rfl h, fun _ => ⟨rfl, rfl, rfl, rfl, .inr ⟨hin'.1, hin'.2, by show kindAt ns ino = 2; rw [kind_eq hin'.1 hin'.2]; exact h9⟩⟩⟩
  ·rw [if_pos ⟨rfl, h9⟩]
   exact ⟨fun _ => .inr rfl, fun h => absurd (show (4 : Int) = 0 from h) (by decide)⟩
 ·rw [if_neg h8, if_neg h8]; exact .inr ⟨_, rfl, rfl⟩
theorem Goes.slash {ns : List S48} (hr : RightD ns) {who : Int} {sl : Bool} {at_ h : Int} {ps : List ByteArray} {x : Int × S28} (g : Goes ns who false true at_ h ps x) : ∀ {y}, Goes ns who true sl at_ h ps y → RelS ns x y := by
 induction g with
 | @stop at_ h part rest r e =>
  intro y g'
  rcases one_slash hr who sl at_ h part rest with ⟨r1, r2, h1, h2, h3⟩ | ⟨o, h1, h2⟩
  ·rw [h1] at e; cases e
   rw [show y = r2 from (Goes.stop h2).det g']; exact h3
  ·rw [h1] at e; cases e
 | @step at_ h a' h' part rest ps' r e _ ih =>
  intro y g'
  rcases one_slash hr who sl at_ h part rest with ⟨r1, r2, h1, h2, h3⟩ | ⟨o, h1, h2⟩
  ·rw [h1] at e; cases e
  ·rw [h1] at e; cases e
   cases g' with
   | stop e' => rw [h2] at e'; cases e'
   | step e' g2 =>
    rw [h2] at e'
    have := Sum.inr.inj e'
    simp only [Prod.mk.injEq] at this
    obtain ⟨rfl, rfl, rfl⟩ := this
    exact ih g2
theorem size_data (p : ByteArray) : p.data.toList.length = p.size := by simp
theorem no_zero (l : B) : (0 ≤ Lib.indexByte l 0) ↔ (0 : UInt8) ∈ l := by
 have := Lib.contains_iff_indexByte l 0
 rw [List.contains_eq_mem] at this
 have h2 : (decide ((0 : UInt8) ∈ l) = true) ↔ (decide (0 ≤ Lib.indexByte l 0) = true) := by rw [this]
 simpa using h2.symm
theorem check_of (p : ByteArray) : checkB p = if p.data.toList = [] then 2 else if 100 < p.data.toList.length then 9 else if (0 : UInt8) ∈ p.data.toList then 1 else if (names p.data.toList).any (fun x => decide (12 < x.length)) = true then 9 else 0 := by
 rw [checkB_eq, namesL_eq, List.any_map]
 have e1 : (p.data.toList.length = 0) = (p.data.toList = []) := propext List.length_eq_zero_iff
 have e2 : ((fun x : ByteArray => decide (12 < x.size)) ∘ bs) = fun x : B => decide (12 < x.length) := by
  funext x; show decide (12 < (bs x).size) = _; rw [bs_size]
 rw [e2, ← size_data p]
 simp only [e1, no_zero]
end Go.Proofs.YthagmakojbfmaaaDoor.Ext
