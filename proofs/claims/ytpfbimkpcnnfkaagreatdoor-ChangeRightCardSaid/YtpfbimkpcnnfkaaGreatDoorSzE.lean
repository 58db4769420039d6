/- Plain: what was entered is where it was put; what was lost is not there. -/
import Derived.Test.YtpfbimkpcnnfkaaGreatDoorSzB
/- Plain: what a rename moves. -/
set_option linter.unusedVariables false
set_option linter.unusedSimpArgs false
namespace Go.Proofs.YtpfbimkpcnnfkaaGreatDoor.Sx
open Go Go.RowKit Go.Proofs.YtpfbimkpcnnfkaaGreatDoor Go.Proofs.YtpfbimkpcnnfkaaGreatDoor.Ext
structure SpotOk (ns : List Nd) (s : Sp) : Prop where
 here : hereB ns s.f0 = 0
 alt : (s.f1.toList = [] ∧ s.f2 = s.f0) ∨ s.f2 = namedB s.f0 (getL ns s.f0) s.f1
theorem Rt.here0 {ns : List Nd} (h : Rt ns) : hereB ns 0 = 0 := by unfold hereB; rw [if_pos h.get0, if_pos h.root.1]
theorem Rt.spotGo {ns : List Nd} (h : Rt ns) (who : Int) (follow slash : Bool) : ∀ (f : Nat) (at_ hops : Int) (ps : List ByteArray) (s : Sp), Sx.walkGo ns who follow slash f at_ hops ps = (s, 0) → (f = 0 ∨ ps = []) ∨ SpotOk ns s
 | 0, _, _, _, s, hw => .inl (.inl rfl)
 | f + 1, _, _, [], s, hw => .inl (.inr rfl)
 | f + 1, at_, hops, part :: rest, s, hw => by
  have emp : SpotOk ns ⟨0, ⟨#[]⟩, 0, slash⟩ := ⟨h.here0, .inl ⟨dot0, rfl⟩⟩
  unfold Sx.walkGo at hw
  split at hw
  ·rename_i h1; simp only [Prod.mk.injEq] at hw; exact absurd hw.2 h1
  rename_i h1
  have h1 : hereB ns at_ = 0 := by simpa using h1
  split at hw
  ·simp only [Prod.mk.injEq] at hw; exact absurd hw.2 (by decide)
  split at hw
  ·rename_i h2
   split at hw
   ·cases hw
    refine .inr ⟨h1, .inr ?_⟩
    rcases h.named h1 part with h3 | h3
    ·exact h3.symm
    ·have := (getL_at h3).1; omega
   ·simp only [Prod.mk.injEq] at hw; exact absurd hw.2 (by decide)
  have rec_ : ∀ a hp ps, ps ≠ [] → Sx.walkGo ns who follow slash f a hp ps = (s, 0) → SpotOk ns s := fun a hp ps hne hw => by
   rcases Rt.spotGo h who follow slash f a hp ps s hw with (h5 | h5) | h5
   ·subst h5
    unfold Sx.walkGo at hw
    cases hw
    exact ⟨h.here0, .inl ⟨dot0, rfl⟩⟩
   ·exact absurd h5 hne
   ·exact h5
  split at hw
  ·split at hw
   ·simp only [Prod.mk.injEq] at hw; exact absurd hw.2 (by decide)
   split at hw
   ·rename_i h5; simp only [Prod.mk.injEq] at hw; exact absurd hw.2 h5
   split at hw
   ·cases hw; exact .inr emp
   ·rename_i h6; exact .inr (rec_ _ _ _ h6 hw)
  ·split at hw
   ·split at hw
    ·simp only [Prod.mk.injEq] at hw; exact absurd hw.2 (by decide)
    ·cases hw; exact .inr ⟨h1, .inr rfl⟩
   ·rename_i h6; exact .inr (rec_ _ _ _ h6 hw)
theorem Rt.spot {ns : List Nd} (h : Rt ns) {who from_ : Int} {path : ByteArray} {follow : Bool} {s : Sp} (hw : walkF ns who from_ path follow = (s, 0)) : SpotOk ns s := by
 unfold walkF at hw
 split at hw
 ·rename_i h1; simp only [Prod.mk.injEq] at hw; exact absurd hw.2 h1
 generalize (if pre47 path = true then 0 else from_) = at_ at hw
 unfold goF at hw
 split at hw
 ·split at hw
  ·rename_i h1; simp only [Prod.mk.injEq] at hw; exact absurd hw.2 h1
  ·rename_i h1
   have h1 : hereB ns at_ = 0 := by simpa using h1
   cases hw
   exact ⟨h1, .inl ⟨dot0, rfl⟩⟩
 ·rename_i h2
  rcases h.spotGo who follow _ _ _ _ _ s hw with (h3 | h3) | h3
  ·exact absurd h3 (by decide)
  ·exact absurd h3 h2
  ·exact h3
theorem SpotOk.dir {ns : List Nd} {s : Sp} (h : SpotOk ns s) : getB ns s.f0 = true ∧ (getL ns s.f0).f0 = 2 := ⟨getB_f0 (by rw [here_dir h.here]; decide), here_dir h.here⟩
theorem SpotOk.ino {ns : List Nd} {s : Sp} (h : SpotOk ns s) (hd : dotsB s.f1 = false) : s.f2 = inoL (getL ns s.f0).f7 s.f1 := by
 unfold dotsB at hd
 have hd := of_decide_eq_false hd
 rcases h.alt with h1 | h1
 ·exact absurd (.inl h1.1) hd
 ·rw [h1]
  unfold namedB
  rw [if_neg (fun e => hd (.inr (.inl e))), if_neg (fun e => hd (.inr (.inr e)))]
theorem SpotOk.ent {ns : List Nd} {s : Sp} (h : SpotOk ns s) (hd : dotsB s.f1 = false) (h0 : 0 ≤ s.f2) : ∃ e ∈ (getL ns s.f0).f7, e.f1 = s.f2 ∧ ord e s.f1 = 0 := by
 have e := h.ino hd
 obtain ⟨x, h1, h2, h3⟩ := inoL_mem (l := (getL ns s.f0).f7) (name := s.f1) (by omega)
 exact ⟨x, h1, by rw [h2, e], h3⟩
theorem findL_none {l : List En} {name : ByteArray} : findL l name = none ↔ ∀ x ∈ l, ord x name ≠ 0 := by unfold findL; simp
theorem mem_put {l : List En} {e x : En} (h : x ∈ putF l e) : x = e ∨ x ∈ l := by
 unfold putF at h
 simp only [List.mem_append, List.mem_filter, List.mem_singleton] at h
 rcases h with (h | h) | h
 ·exact .inr h.1
 ·exact .inl h
 ·exact .inr h.1
theorem mem_drop {l : List En} {name : ByteArray} {x : En} : x ∈ dropF l name ↔ x ∈ l ∧ ord x name ≠ 0 := by unfold dropF; simp
theorem ord_self (e : En) : ord e e.f0 = 0 := (ord_zero e e.f0).2 rfl
theorem findL_put (l : List En) (e : En) : findL (putF l e) e.f0 = some e := by
 unfold findL putF
 rw [List.append_assoc, List.find?_append, List.find?_eq_none.2 (fun x hx => by
  have := (List.mem_filter.1 hx).2
  simp only [decide_eq_true_eq] at this
  simp; omega), Option.none_or, List.find?_append]
 simp [ord_self]
theorem Reach.up_ne {ns : List Nd} {i : Int} (h : Reach ns i) : i = 0 ∨ (getL ns i).f5 ≠ i := by
 induction h with
 | root => exact .inl rfl
 | up h h2 hr ih =>
  rename_i i
  rcases Decidable.em ((getL ns i).f5 = i) with e | e
  ·rw [e] at ih; exact ih
  ·exact .inr e
theorem count_of_mem {n : Nd} {e : En} (h : e ∈ n.f7) : 0 < countF n e.f1 := by
 unfold countF
 exact List.length_pos_of_mem (List.mem_filter.2 ⟨h, by simp⟩)
theorem cnt_of {ns : List Nd} (h : Rt ns) {p i : Int} (hc : 0 < countF (getL ns p) i) : cnt ns i ≠ 0 := by
 intro h0
 obtain ⟨hb, _⟩ := h.dir_of hc
 have := (getL_at hb).2.2.1
 have h1 := sum_zero h0 (countF (getL ns p) i) (List.mem_map.2 ⟨_, List.mem_of_getElem? this, rfl⟩)
 omega
theorem Rt.not_own {ns : List Nd} (h : Rt ns) {p : Int} {e : En} (he : e ∈ (getL ns p).f7) : e.f1 ≠ p := by
 intro hp
 have hc := count_of_mem he
 obtain ⟨hb, h2⟩ := h.dir_of hc
 have h0 := (h.ents p e he).2
 rw [hp] at hc h0
 obtain ⟨h1, h3, h4⟩ := h.par p hb h0 h2 (cnt_of h hc)
 have e1 := (namesF_two h.clean h1).2 h3
 have e2 := (namesF_two h.clean h1).2 hc
 rcases h4.up_ne with h5 | h5
 ·exact h0 h5
 ·exact h5 (e1.symm.trans e2)
theorem ren_ok {ns : List Nd} {wa fa wb fb : Int} {old path : ByteArray} {s t : Sp} {e f : Int} (hs : walkF ns wa fa old false = (s, e)) (ht : walkF ns wb fb path false = (t, f)) (h : (renF ns wa fa wb fb old path).2 = 0) :
  e = 0 ∧ 0 ≤ s.f2 ∧ f = 0 ∧ ((s.f2 = t.f2 ∧ (renF ns wa fa wb fb old path).1 = ns) ∨ (¬ s.f2 = t.f2 ∧ dotsB s.f1 = false ∧ dotsB t.f1 = false ∧ overE ns s.f2 t = 0 ∧ (renF ns wa fa wb fb old path).1 = renAt ns s t)) := by
 unfold renF thereF at *
 rw [hs, ht] at *
 simp only at *
 by_cases h1 : (if e = 0 ∧ s.f2 < 0 then (2 : Int) else e) = 0
 ·have he : e = 0 ∧ ¬ s.f2 < 0 := by
   split at h1
   ·cases h1
   ·rename_i h2; exact ⟨h1, fun h3 => h2 ⟨h1, h3⟩⟩
  simp only [h1, not_true, if_false] at h ⊢
  by_cases h2 : f = 0
  ·simp only [h2, not_true, if_false] at h ⊢
   refine ⟨he.1, by omega, trivial, ?_⟩
   unfold renSp at *
   split at h
   ·cases h
   rename_i h3
   split at h
   ·cases h
   rename_i h4
   rw [if_neg h3, if_neg h4]
   by_cases h5 : s.f2 = t.f2
   ·rw [if_pos h5]; exact .inl ⟨h5, rfl⟩
   ·rw [if_neg h5] at h ⊢
    by_cases h6 : overE ns s.f2 t = 0
    ·rw [if_neg (fun h' => h' h6)]
     exact .inr ⟨h5, by simpa using fun h' => h3 (.inl h'), by simpa using fun h' => h3 (.inr h'), h6, rfl⟩
    ·rw [if_pos h6] at h; exact absurd h h6
  ·rw [if_pos h2] at h; exact absurd h h2
 ·rw [if_pos h1] at h; exact absurd h h1
end Go.Proofs.YtpfbimkpcnnfkaaGreatDoor.Sx
set_option linter.unusedVariables false
set_option linter.unusedSimpArgs false
namespace Go.Proofs.YtpfbimkpcnnfkaaGreatDoor.Sx
open Go Go.RowKit Go.Proofs.YtpfbimkpcnnfkaaGreatDoor Go.Proofs.YtpfbimkpcnnfkaaGreatDoor.Ext
theorem find_ext {α : Type} {p q : α → Bool} : ∀ {l : List α}, (∀ x ∈ l, p x = q x) → l.find? p = l.find? q
 | [], _ => rfl
 | a :: l, h => by
  simp only [List.find?_cons, h a (by simp)]
  rw [find_ext (l := l) fun x hx => h x (by simp [hx])]
theorem findL_filter (l : List En) (p : En → Bool) (name : ByteArray) (h : ∀ x ∈ l, ord x name = 0 → p x = true) : findL (l.filter p) name = findL l name := by
 unfold findL
 rw [List.find?_filter]
 exact find_ext fun x hx => by
  by_cases h' : ord x name = 0
  ·simp [h', h x hx h']
  ·simp [h']
theorem findL_filter_no (l : List En) (p : En → Bool) (name : ByteArray) (h : ∀ x ∈ l, ord x name = 0 → p x = false) : findL (l.filter p) name = none := by
 rw [findL_none]
 intro x hx h'
 have := List.mem_filter.1 hx
 rw [h x this.1 h'] at this
 cases this.2
theorem ord_eq {x : En} {name : ByteArray} (h : ord x name = 0) (n2 : ByteArray) : ord x n2 = ord ⟨name, 0⟩ n2 := by
 have := (ord_zero x name).1 h
 rw [toList_data, toList_data] at this
 unfold ord
 rw [this]
theorem findL_put_ne {l : List En} {e : En} {name : ByteArray} (h : ¬ name.toList = e.f0.toList) : findL (putF l e) name = findL l name := by
 have hc : ord ⟨name, 0⟩ e.f0 ≠ 0 := fun h' => h ((ord_zero ⟨name, 0⟩ e.f0).1 h')
 have he : ord e name ≠ 0 := fun h' => h ((ord_zero e name).1 h').symm
 have h1 : [e].find? (fun x => ord x name == 0) = none := by simp [he]
 have key : findL (putF l e) name = ((findL (l.filter fun x => decide (ord x e.f0 < 0)) name).or none).or (findL (l.filter fun x => decide (0 < ord x e.f0)) name) := by
  unfold putF findL
  rw [List.find?_append, List.find?_append, h1]
 rw [key]
 rcases Int.lt_or_gt_of_ne hc with hc | hc
 ·rw [findL_filter l _ name (fun x _ hx => by rw [ord_eq hx]; exact decide_eq_true hc), findL_filter_no l _ name (fun x _ hx => by rw [ord_eq hx]; exact decide_eq_false (by omega))]
  simp
 ·rw [findL_filter_no l _ name (fun x _ hx => by rw [ord_eq hx]; exact decide_eq_false (by omega)), findL_filter l _ name (fun x _ hx => by rw [ord_eq hx]; exact decide_eq_true hc)]
  simp
theorem findL_drop_ne {l : List En} {nm name : ByteArray} (h : ¬ name.toList = nm.toList) : findL (dropF l nm) name = findL l name := by
 unfold dropF
 refine findL_filter l _ name fun x _ hx => ?_
 have : ¬ ord x nm = 0 := fun h' => h (((ord_zero x name).1 hx).symm.trans ((ord_zero x nm).1 h'))
 simpa using this
theorem findL_drop_eq {l : List En} {nm name : ByteArray} (h : name.toList = nm.toList) : findL (dropF l nm) name = none := by
 rw [findL_none]
 intro x hx h'
 exact (mem_drop.1 hx).2 ((ord_zero x nm).2 (((ord_zero x name).1 h').trans h))
theorem findL_congr {l : List En} {nm name : ByteArray} (h : name.toList = nm.toList) : findL l name = findL l nm := by
 have : name = nm := by
  rw [toList_data, toList_data] at h
  exact ByteArray.ext (by exact Array.ext' h)
 rw [this]
theorem split_sorted {n : ByteArray} : ∀ {l : List En}, (∀ (a b : Nat) (x y : En), a ≤ b → l[a]? = some x → l[b]? = some y → 0 < ord x n → 0 < ord y n) → (∀ x ∈ l, ord x n ≠ 0) → (l.filter fun x => decide (ord x n < 0)) ++ (l.filter fun x => decide (0 < ord x n)) = l
 | [], _, _ => rfl
 | a :: l, h, h0 => by
  have ha := h0 a (by simp)
  rcases Int.lt_or_gt_of_ne ha with hc | hc
  ·rw [List.filter_cons_of_pos (by simpa using hc), List.filter_cons_of_neg (by simp; omega), List.cons_append, split_sorted (l := l) (fun i j x y hij hx hy => h (i + 1) (j + 1) x y (by omega) hx hy) fun x hx => h0 x (by simp [hx])]
  ·have hall : ∀ x ∈ a :: l, 0 < ord x n := fun x hx => by
    obtain ⟨k, hk⟩ := List.getElem?_of_mem hx
    exact h 0 k a x (Nat.zero_le _) rfl hk hc
   rw [List.filter_eq_nil_iff.2 (fun x hx => by have := hall x hx; simp; omega), List.filter_eq_self.2 (fun x hx => by simpa using hall x hx), List.nil_append]
theorem add_get {ns : List Nd} {m r : Int} {N : Nd} (h : (addF ns m r N).2.2 = 0) : ∃ k : Nat, (addF ns m r N).2.1 = k ∧ (∀ n, ns[k]? = some n → n.f0 = 0) ∧ ((k < ns.length ∧ (addF ns m r N).1 = ns.set k N) ∨ (k = ns.length ∧ (addF ns m r N).1 = ns ++ [N])) := by
 unfold addF at *
 by_cases h1 : m ≤ (usedF ns : Int) ∨ r < bytesF ns + weightF N
 ·rw [if_pos h1] at h; cases h
 rw [if_neg h1] at h ⊢
 cases hf : ns.findIdx? (fun n => decide (n.f0 = 0)) with
 | some k =>
  obtain ⟨g1, g2, g3⟩ := List.findIdx?_eq_some_iff_getElem.1 hf
  refine ⟨k, rfl, fun n hn => ?_, .inl ⟨g1, rfl⟩⟩
  rw [List.getElem?_eq_getElem g1] at hn
  cases hn
  simpa using g2
 | none => exact ⟨ns.length, rfl, fun n hn => (by rw [List.getElem?_eq_none (Nat.le_refl _)] at hn; cases hn), .inr ⟨rfl, rfl⟩⟩
structure Ent1 (ns x : List Nd) (s : Sp) (i : Int) (N : Nd) : Prop where
 i0 : 0 ≤ i
 no : getB ns i = false
 new : getB x i = true ∧ getL x i = N
 keep : ∀ j, getB ns j = true → getB x j = true ∧ getL x j = if j = s.f0 then nPut s i (getL ns j) else getL ns j
theorem Ent1.flds {ns x : List Nd} {s : Sp} {i : Int} {N : Nd} (h : Ent1 ns x s i N) {j : Int} (hj : getB ns j = true) :
  (getL x j).f0 = (getL ns j).f0 ∧ (getL x j).f1 = (getL ns j).f1 ∧ (getL x j).f2 = (getL ns j).f2 ∧ (getL x j).f3 = (getL ns j).f3 ∧ (getL x j).f5 = (getL ns j).f5 ∧ (getL x j).f6 = (getL ns j).f6 := by
 rw [(h.keep j hj).2]
 split <;> exact ⟨rfl, rfl, rfl, rfl, rfl, rfl⟩
theorem inoL_none {l : List En} {name : ByteArray} (h : findL l name = none) : inoL l name = -1 := by unfold inoL; rw [h]
theorem Ent1.named {ns x : List Nd} {s : Sp} {i : Int} {N : Nd} (h : Ent1 ns x s i N) {j : Int} (hj : getB ns j = true) (part : ByteArray) (hd : ¬ (j = s.f0 ∧ part.toList = s.f1.toList)) : namedB j (getL x j) part = namedB j (getL ns j) part := by
 unfold namedB
 rw [(h.flds hj).2.2.2.2.1]
 split
 ·rfl
 split
 ·rfl
 rw [(h.keep j hj).2]
 split
 ·rename_i hj'
  show inoL (putF (getL ns j).f7 ⟨s.f1, i⟩) part = _
  unfold inoL
  rw [findL_put_ne (fun e => hd ⟨hj', e⟩)]
 ·rfl
theorem SpotOk.free {ns : List Nd} {s : Sp} (h : SpotOk ns s) (hR : Rt ns) (h2 : s.f2 < 0) : s.f2 = -1 ∧ ¬ s.f1.toList = [46] ∧ ¬ s.f1.toList = [46, 46] ∧ findL (getL ns s.f0).f7 s.f1 = none := by
 have hb := h.dir
 have h0 := (getL_at hb.1).1
 have e := h.alt.resolve_left fun h' => by have := h'.2; omega
 unfold namedB at e
 split at e
 ·omega
 rename_i n1
 split at e
 ·have := (getL_at (hR.up hb.1 hb.2).1).1; omega
 rename_i n2
 have hf : findL (getL ns s.f0).f7 s.f1 = none := by
  cases hf : findL (getL ns s.f0).f7 s.f1 with
  | none => rfl
  | some en =>
   exfalso
   have : inoL (getL ns s.f0).f7 s.f1 = en.f1 := by unfold inoL; rw [hf]
   have hm : en ∈ (getL ns s.f0).f7 := by unfold findL at hf; exact List.mem_of_find?_eq_some hf
   have := (getL_at (hR.ents _ en hm).1).1
   omega
 exact ⟨by rw [e, inoL_none hf], n1, n2, hf⟩
theorem here_of {ns : List Nd} {j : Int} (hb : getB ns j = true) (hk : (getL ns j).f0 = 2) : hereB ns j = 0 := by unfold hereB; rw [if_pos hb, if_pos hk]
theorem Ent1.walkGo {ns x : List Nd} {s : Sp} {i : Int} {N : Nd} (h : Ent1 ns x s i N) (hR : Rt ns) (hs : SpotOk ns s) (h2 : s.f2 < 0) (who : Int) (follow slash : Bool) (hN : ¬ N.f0 = 3) (hsl : slash = true → N.f0 = 2) :
  ∀ (f : Nat) (at_ hops : Int) (ps : List ByteArray), Sx.walkGo ns who follow slash f at_ hops ps = (s, 0) → Sx.walkGo x who follow slash f at_ hops ps = (⟨s.f0, s.f1, i, s.f3⟩, 0)
 | 0, _, _, _, hw => by unfold Sx.walkGo at hw; cases hw; exact absurd h2 (by decide)
 | f + 1, _, _, [], hw => by unfold Sx.walkGo at hw; cases hw; exact absurd h2 (by decide)
 | f + 1, at_, hops, part :: rest, hw => by
  obtain ⟨g1, g2, g3, g4⟩ := hs.free hR h2
  have rec_ := Ent1.walkGo h hR hs h2 who follow slash hN hsl f
  unfold Sx.walkGo at hw ⊢
  split at hw
  ·rename_i h1; simp only [Prod.mk.injEq] at hw; exact absurd hw.2 h1
  rename_i h1
  have h1 : hereB ns at_ = 0 := by simpa using h1
  have hb : getB ns at_ = true := getB_f0 (by rw [here_dir h1]; decide)
  have hk := here_dir h1
  obtain ⟨e0, e1, e2, e3, e5, e6⟩ := h.flds hb
  have hx := here_of (h.keep at_ hb).1 (e0.trans hk)
  rw [if_neg (by rw [hx]; simp), e1, e2]
  split at hw
  ·simp only [Prod.mk.injEq] at hw; exact absurd hw.2 (by decide)
  rename_i hm
  rw [if_neg hm]
  have hnm := hR.named h1 part
  split at hw
  ·rename_i h3
   split at hw
   ·rename_i h4
    have hw := (Prod.mk.inj hw).1
    subst hw
    have hv : namedB at_ (getL x at_) part = i := by
     unfold namedB
     rw [if_neg g2, if_neg g3, (h.keep at_ hb).2, if_pos rfl]
     show inoL (putF (getL ns at_).f7 ⟨part, i⟩) part = i
     unfold inoL
     rw [findL_put (getL ns at_).f7 ⟨part, i⟩]
    have := h.i0
    rw [hv, if_neg (by omega), h.new.2, if_neg (fun h' => hN h'.1), if_pos h4, if_neg (fun h' => h'.2 (hsl h'.1))]
   ·simp only [Prod.mk.injEq] at hw; exact absurd hw.2 (by decide)
  rename_i h3
  have hvb := hnm.resolve_left (by omega)
  have hd : ¬ (at_ = s.f0 ∧ part.toList = s.f1.toList) := fun h' => by
   apply h3
   unfold namedB
   rw [h'.2, if_neg g2, if_neg g3]
   unfold inoL
   rw [findL_congr h'.2, h'.1, g4]; decide
  rw [h.named hb part hd, if_neg h3]
  obtain ⟨k0, k1, k2, k3, k5, k6⟩ := h.flds hvb
  rw [k0, k6]
  split at hw
  ·rename_i h4
   rw [if_pos h4]
   split at hw
   ·simp only [Prod.mk.injEq] at hw; exact absurd hw.2 (by decide)
   rename_i h5
   rw [if_neg h5]
   split at hw
   ·rename_i h6; simp only [Prod.mk.injEq] at hw; exact absurd hw.2 h6
   rename_i h6
   rw [if_neg h6]
   split at hw
   ·have hw := (Prod.mk.inj hw).1
    subst hw
    exact absurd h2 (show ¬ (0 : Int) < 0 by decide)
   rename_i h7
   rw [if_neg h7]
   exact rec_ _ _ _ hw
  ·rename_i h4
   rw [if_neg h4]
   split at hw
   ·split at hw
    ·simp only [Prod.mk.injEq] at hw; exact absurd hw.2 (by decide)
    ·have hw := (Prod.mk.inj hw).1
     subst hw
     exact absurd h2 h3
   ·rename_i h5
    rw [if_neg h5]
    exact rec_ _ _ _ hw
theorem go_slash {ns : List Nd} {who : Int} {follow slash : Bool} : ∀ (f : Nat) (at_ hops : Int) (ps : List ByteArray) (s : Sp), Sx.walkGo ns who follow slash f at_ hops ps = (s, 0) → ¬ s.f2 = 0 → s.f3 = slash
 | 0, _, _, _, s, hw, h2 => by unfold Sx.walkGo at hw; cases hw; exact absurd rfl h2
 | f + 1, _, _, [], s, hw, h2 => by unfold Sx.walkGo at hw; cases hw; exact absurd rfl h2
 | f + 1, at_, hops, part :: rest, s, hw, h2 => by
  unfold Sx.walkGo at hw
  (repeat' split at hw) <;> first | (exact go_slash f _ _ _ s hw h2) | (have h1 := (Prod.mk.inj hw).1; subst h1; first | rfl | exact absurd rfl h2)
theorem walk_slash {ns : List Nd} {who from_ : Int} {path : ByteArray} {follow : Bool} {s : Sp} (hw : walkF ns who from_ path follow = (s, 0)) (h2 : s.f2 < 0) (hR : Rt ns) : s.f3 = suf47 path := by
 unfold walkF at hw
 split at hw
 ·rename_i h1; simp only [Prod.mk.injEq] at hw; exact absurd hw.2 h1
 generalize (if pre47 path = true then 0 else from_) = at_ at hw
 unfold goF at hw
 split at hw
 ·split at hw
  ·rename_i h4; simp only [Prod.mk.injEq] at hw; exact absurd hw.2 h4
  ·rename_i h4
   have h4 : hereB ns at_ = 0 := by simpa using h4
   have hw := (Prod.mk.inj hw).1
   subst hw
   have := (getL_at (getB_f0 (by rw [here_dir h4]; decide) : getB ns at_ = true)).1
   have h2 : at_ < 0 := h2
   omega
 ·exact go_slash _ _ _ _ s hw (by omega)
theorem Ent1.walk {ns x : List Nd} {s : Sp} {i : Int} {N : Nd} (h : Ent1 ns x s i N) (hR : Rt ns) (h2 : s.f2 < 0) {who from_ : Int} {path : ByteArray} {follow : Bool} (hN : ¬ N.f0 = 3) (hsl : s.f3 = true → N.f0 = 2) (hw : walkF ns who from_ path follow = (s, 0)) :
  walkF x who from_ path follow = (⟨s.f0, s.f1, i, s.f3⟩, 0) := by
 have hs := hR.spot hw
 have h3 : suf47 path = true → N.f0 = 2 := fun hp => hsl ((walk_slash hw h2 hR).trans hp)
 unfold walkF at hw ⊢
 split at hw
 ·rename_i h1; simp only [Prod.mk.injEq] at hw; exact absurd hw.2 h1
 rename_i h1
 rw [if_neg h1]
 generalize (if pre47 path = true then 0 else from_) = at_ at hw ⊢
 unfold goF at hw ⊢
 split at hw
 ·split at hw
  ·rename_i h4; simp only [Prod.mk.injEq] at hw; exact absurd hw.2 h4
  ·rename_i h4
   have h4 : hereB ns at_ = 0 := by simpa using h4
   have hw := (Prod.mk.inj hw).1
   subst hw
   have := (getL_at (getB_f0 (by rw [here_dir h4]; decide) : getB ns at_ = true)).1
   have h2 : at_ < 0 := h2
   omega
 ·rename_i h4
  rw [if_neg h4]
  exact h.walkGo hR hs h2 who follow _ hN h3 _ _ _ _ hw
end Go.Proofs.YtpfbimkpcnnfkaaGreatDoor.Sx
