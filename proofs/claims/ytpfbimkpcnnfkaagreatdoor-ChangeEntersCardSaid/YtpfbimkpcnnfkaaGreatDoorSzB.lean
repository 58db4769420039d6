/- Plain: what the reference does is what the program does. -/
import Derived.Test.YtpfbimkpcnnfkaaGreatDoorSyN
import Derived.Test.YtpfbimkpcnnfkaaGreatDoorSyZ
/- Plain: what a right disk is; nodes behind changes. -/
set_option linter.unusedVariables false
set_option linter.unusedSimpArgs false
namespace Go.Proofs.YtpfbimkpcnnfkaaGreatDoor.Sx
open Go Go.RowKit Go.Proofs.YtpfbimkpcnnfkaaGreatDoor Go.Proofs.YtpfbimkpcnnfkaaGreatDoor.Ext
theorem getL_no {ns : List Nd} {i : Int} (h : getB ns i = false) : getL ns i = zNd := by unfold getL; rw [if_neg (by rw [h]; simp)]
theorem getB_f0 {ns : List Nd} {i : Int} (h : (getL ns i).f0 ≠ 0) : getB ns i = true := by
 cases hb : getB ns i with
 | true => rfl
 | false => rw [getL_no hb] at h; exact absurd rfl h
section
variable {f : Nd → Nd} (hf : ∀ n, (f n).f0 = n.f0)
include hf
end
structure NodeR (n : Nd) : Prop where
 kind : 1 ≤ n.f0 ∧ n.f0 ≤ 3
 mode : 0 ≤ n.f1 ∧ n.f1 ≤ 63
 open_ : 0 ≤ n.f4
 names : n.f0 ≠ 2 → n.f7 = []
 data : n.f0 = 2 → n.f6.toList = []
 sorted : sortedF n.f7 = true
def cnt (ns : List Nd) (i : Int) : Nat := (ns.map (countF · i)).sum
inductive Reach (ns : List Nd) : Int → Prop
 | root : Reach ns 0
 | up {i : Int} (h : getB ns i = true) (h2 : (getL ns i).f0 = 2) (hr : Reach ns (getL ns i).f5) : Reach ns i
structure Rt (ns : List Nd) : Prop where
 clean : ∀ n ∈ ns, n.f0 = 0 → n = zNd
 root : (getL ns 0).f0 = 2 ∧ (getL ns 0).f5 = 0 ∧ (getL ns 0).f3 = 1
 node : ∀ i, getB ns i = true → NodeR (getL ns i)
 ents : ∀ i, ∀ e ∈ (getL ns i).f7, getB ns e.f1 = true ∧ e.f1 ≠ 0
 links : ∀ i, getB ns i = true → i ≠ 0 → (getL ns i).f3 = cnt ns i ∧ (cnt ns i = 0 → 1 ≤ (getL ns i).f4)
 lone : ∀ i, getB ns i = true → i ≠ 0 → (getL ns i).f0 = 2 → cnt ns i = 0 → (getL ns i).f7 = [] ∧ (getL ns i).f5 = 0
 par : ∀ i, getB ns i = true → i ≠ 0 → (getL ns i).f0 = 2 → cnt ns i ≠ 0 → cnt ns i = 1 ∧ 0 < countF (getL ns (getL ns i).f5) i ∧ Reach ns i
theorem Rt.get0 {ns : List Nd} (h : Rt ns) : getB ns 0 = true := getB_f0 (by rw [h.root.1]; decide)
theorem count_pos {n : Nd} {i : Int} (h : 0 < countF n i) : ∃ e ∈ n.f7, e.f1 = i := by
 unfold countF at h
 obtain ⟨e, he⟩ := List.exists_mem_of_length_pos h
 rw [List.mem_filter] at he
 exact ⟨e, he.1, by simpa using he.2⟩
theorem Rt.dir_of {ns : List Nd} (h : Rt ns) {p i : Int} (hc : 0 < countF (getL ns p) i) : getB ns p = true ∧ (getL ns p).f0 = 2 := by
 obtain ⟨e, he, _⟩ := count_pos hc
 have hb : getB ns p = true := by
  cases hb : getB ns p with
  | true => rfl
  | false => rw [getL_no hb] at he; cases he
 refine ⟨hb, ?_⟩
 rcases Decidable.em ((getL ns p).f0 = 2) with h2 | h2
 ·exact h2
 ·rw [(h.node p hb).names h2] at he; cases he
theorem Rt.up {ns : List Nd} (h : Rt ns) {i : Int} (hi : getB ns i = true) (h2 : (getL ns i).f0 = 2) : getB ns (getL ns i).f5 = true ∧ (getL ns (getL ns i).f5).f0 = 2 := by
 by_cases h0 : i = 0
 ·subst h0; rw [h.root.2.1]; exact ⟨h.get0, h.root.1⟩
 ·by_cases hc : cnt ns i = 0
  ·rw [(h.lone i hi h0 h2 hc).2]; exact ⟨h.get0, h.root.1⟩
  ·exact h.dir_of (h.par i hi h0 h2 hc).2.1
theorem inoL_mem {l : List En} {name : ByteArray} (h : inoL l name ≠ -1) : ∃ e ∈ l, e.f1 = inoL l name ∧ ord e name = 0 := by
 unfold inoL at *
 cases hf : findL l name with
 | none => rw [hf] at h; exact absurd rfl h
 | some e =>
  unfold findL at hf
  exact ⟨e, List.mem_of_find?_eq_some hf, rfl, by simpa using List.find?_some hf⟩
theorem Rt.named {ns : List Nd} (h : Rt ns) {at_ : Int} (ha : hereB ns at_ = 0) (part : ByteArray) : namedB at_ (getL ns at_) part = -1 ∨ getB ns (namedB at_ (getL ns at_) part) = true := by
 have hb : getB ns at_ = true ∧ (getL ns at_).f0 = 2 := ⟨getB_f0 (by rw [here_dir ha]; decide), here_dir ha⟩
 unfold namedB
 split
 ·exact .inr hb.1
 ·split
  ·exact .inr (h.up hb.1 hb.2).1
  ·rcases Decidable.em (inoL (getL ns at_).f7 part = -1) with h1 | h1
   ·exact .inl h1
   ·obtain ⟨e, he, h2, _⟩ := inoL_mem h1
    rw [← h2]; exact .inr (h.ents at_ e he).1
theorem Rt.walkGo {ns : List Nd} (h : Rt ns) (who : Int) (follow slash : Bool) : ∀ (f : Nat) (at_ hops : Int) (ps : List ByteArray) (s : Sp), walkGo ns who follow slash f at_ hops ps = (s, 0) → s.f2 = -1 ∨ getB ns s.f2 = true
 | 0, _, _, _, s, hw => by
  unfold Sx.walkGo at hw; cases hw; exact .inr h.get0
 | f + 1, _, _, [], s, hw => by
  unfold Sx.walkGo at hw; cases hw; exact .inr h.get0
 | f + 1, at_, hops, part :: rest, s, hw => by
  unfold Sx.walkGo at hw
  split at hw
  ·rename_i h1; simp only [Prod.mk.injEq] at hw; exact absurd hw.2 h1
  rename_i h1
  have h1 : hereB ns at_ = 0 := by simpa using h1
  split at hw
  ·simp only [Prod.mk.injEq] at hw; exact absurd hw.2 (by decide)
  split at hw
  ·split at hw
   ·cases hw; exact .inl rfl
   ·simp only [Prod.mk.injEq] at hw; exact absurd hw.2 (by decide)
  rename_i h3
  split at hw
  ·split at hw
   ·simp only [Prod.mk.injEq] at hw; exact absurd hw.2 (by decide)
   split at hw
   ·rename_i h5; simp only [Prod.mk.injEq] at hw; exact absurd hw.2 h5
   split at hw
   ·cases hw; exact .inr h.get0
   ·exact Rt.walkGo h who follow slash f _ _ _ s hw
  ·split at hw
   ·split at hw
    ·simp only [Prod.mk.injEq] at hw; exact absurd hw.2 (by decide)
    ·cases hw; exact h.named h1 part
   ·exact Rt.walkGo h who follow slash f _ _ _ s hw
theorem Rt.walk {ns : List Nd} (h : Rt ns) {who from_ : Int} {path : ByteArray} {follow : Bool} {s : Sp} (hw : walkF ns who from_ path follow = (s, 0)) : s.f2 = -1 ∨ getB ns s.f2 = true := by
 unfold walkF at hw
 split at hw
 ·rename_i h1; simp only [Prod.mk.injEq] at hw; exact absurd hw.2 h1
 generalize (if pre47 path = true then 0 else from_) = at_ at hw
 unfold goF at hw
 split at hw
 ·split at hw
  ·rename_i h1; simp only [Prod.mk.injEq] at hw; exact absurd hw.2 h1
  ·rename_i h1
   have h1 : hereB ns at_ = 0 := by simpa using h1
   cases hw
   exact .inr (getB_f0 (by rw [here_dir h1]; decide))
 ·exact h.walkGo who follow _ _ _ _ _ s hw
end Go.Proofs.YtpfbimkpcnnfkaaGreatDoor.Sx
set_option linter.unusedVariables false
set_option linter.unusedSimpArgs false
namespace Go.Proofs.YtpfbimkpcnnfkaaGreatDoor.Sx
open Go Go.RowKit Go.Proofs.YtpfbimkpcnnfkaaGreatDoor Go.Proofs.YtpfbimkpcnnfkaaGreatDoor.Ext
theorem Rt.there {ns : List Nd} (h : Rt ns) {who from_ : Int} {path : ByteArray} (he : (thereF ns who from_ path).2 = 0) : (walkF ns who from_ path false).2 = 0 ∧ getB ns (thereF ns who from_ path).1.f2 = true := by
 unfold thereF at *
 generalize hw : walkF ns who from_ path false = w at *
 obtain ⟨s, e⟩ := w
 simp only at he ⊢
 split at he
 ·cases he
 ·rename_i h1
  subst he
  refine ⟨rfl, ?_⟩
  rcases h.walk hw with h2 | h2
  ·exact absurd ⟨rfl, by rw [h2]; decide⟩ h1
  ·exact h2
end Go.Proofs.YtpfbimkpcnnfkaaGreatDoor.Sx
