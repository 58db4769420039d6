/- Plain: what the reference does is what the program does. -/
import Derived.Test.YtpfbimkpcnnfkaaGreatDoorSyN
import Derived.Test.YtpfbimkpcnnfkaaGreatDoorSyT
/- Plain: what a right disk is; nodes behind changes. -/
set_option linter.unusedVariables false
set_option linter.unusedSimpArgs false
namespace Go.Proofs.YtpfbimkpcnnfkaaGreatDoor.Sx
open Go Go.RowKit Go.Proofs.YtpfbimkpcnnfkaaGreatDoor Go.Proofs.YtpfbimkpcnnfkaaGreatDoor.Ext
theorem getB_iff {ns : List Nd} {i : Int} : getB ns i = true ↔ ∃ n, 0 ≤ i ∧ ns[i.toNat]? = some n ∧ n.f0 ≠ 0 := by
 unfold getB
 rw [decide_eq_true_eq]
 constructor
 ·rintro ⟨h1, h2, h3⟩
  have hl : i.toNat < ns.length := by omega
  rw [show ns.getD i.toNat zNd = ns[i.toNat] by simp [List.getD, hl]] at h3
  exact ⟨_, h1, List.getElem?_eq_getElem hl, h3⟩
 ·rintro ⟨n, h1, h2, h3⟩
  have := (List.getElem?_eq_some_iff.1 h2).1
  exact ⟨h1, by omega, by rw [getD_of h2]; exact h3⟩
theorem getL_of {ns : List Nd} {i : Nat} {n : Nd} (h : ns[i]? = some n) (h0 : n.f0 ≠ 0) : getB ns i = true ∧ getL ns i = n := by
 have hb : getB ns i = true := getB_iff.2 ⟨n, by omega, by rw [Int.toNat_natCast]; exact h, h0⟩
 refine ⟨hb, ?_⟩
 unfold getL
 rw [if_pos hb, Int.toNat_natCast, getD_of h]
theorem getL_at {ns : List Nd} {i : Int} (h : getB ns i = true) : 0 ≤ i ∧ i < ns.length ∧ ns[i.toNat]? = some (getL ns i) ∧ (getL ns i).f0 ≠ 0 := by
 obtain ⟨n, h1, h2, h3⟩ := getB_iff.1 h
 have := (List.getElem?_eq_some_iff.1 h2).1
 have e : getL ns i = n := by unfold getL; rw [if_pos h, getD_of h2]
 rw [e]
 exact ⟨h1, by omega, h2, h3⟩
theorem getL_no {ns : List Nd} {i : Int} (h : getB ns i = false) : getL ns i = zNd := by unfold getL; rw [if_neg (by rw [h]; simp)]
theorem getB_f0 {ns : List Nd} {i : Int} (h : (getL ns i).f0 ≠ 0) : getB ns i = true := by
 cases hb : getB ns i with
 | true => rfl
 | false => rw [getL_no hb] at h; exact absurd rfl h
theorem setL_get (ns : List Nd) (i : Int) (n : Nd) (j : Nat) : (setL ns i n)[j]? = if (j : Int) = i ∧ j < ns.length then some n else ns[j]? := by
 unfold setL
 split
 ·rename_i h
  rw [List.getElem?_set]
  by_cases hj : i.toNat = j
  ·have : (j : Int) = i := by omega
   rw [if_pos hj, if_pos (by omega), if_pos ⟨this, by omega⟩]
  ·rw [if_neg hj, if_neg (by omega)]
 ·rename_i h
  rw [if_neg (by omega)]
theorem getB_set (ns : List Nd) (i : Int) (n : Nd) (j : Int) : getB (setL ns i n) j = if j = i ∧ 0 ≤ i ∧ i < ns.length then decide (n.f0 ≠ 0) else getB ns j := by
 rw [Bool.eq_iff_iff, getB_iff]
 by_cases h : j = i ∧ 0 ≤ i ∧ i < ns.length
 ·rw [if_pos h, decide_eq_true_eq]
  obtain ⟨rfl, h1, h2⟩ := h
  constructor
  ·rintro ⟨x, _, hx, h0⟩
   rw [setL_get, if_pos ⟨by omega, by omega⟩] at hx
   cases hx; exact h0
  ·intro h0
   exact ⟨n, h1, by rw [setL_get, if_pos ⟨by omega, by omega⟩], h0⟩
 ·rw [if_neg h, getB_iff]
  constructor
  ·rintro ⟨x, h1, hx, h0⟩
   rw [setL_get] at hx
   split at hx
   ·rename_i hh; exact absurd ⟨by omega, by omega, by omega⟩ h
   ·exact ⟨x, h1, hx, h0⟩
  ·rintro ⟨x, h1, hx, h0⟩
   refine ⟨x, h1, ?_, h0⟩
   rw [setL_get, if_neg (fun hh => h ⟨by omega, by omega, by omega⟩)]; exact hx
theorem getL_set (ns : List Nd) (i : Int) (n : Nd) (j : Int) : getL (setL ns i n) j = if j = i ∧ 0 ≤ i ∧ i < ns.length then (if n.f0 = 0 then zNd else n) else getL ns j := by
 have hb := getB_set ns i n j
 by_cases h : j = i ∧ 0 ≤ i ∧ i < ns.length
 ·rw [if_pos h] at hb ⊢
  obtain ⟨rfl, h1, h2⟩ := h
  by_cases h0 : n.f0 = 0
  ·rw [if_pos h0]; exact getL_no (by rw [hb]; simp [h0])
  ·rw [if_neg h0]
   have := (getL_at (by rw [hb]; simpa using h0 : getB (setL ns j n) j = true)).2.2.1
   rw [setL_get, if_pos ⟨by omega, by omega⟩] at this
   exact (Option.some.inj this).symm
 ·rw [if_neg h] at hb ⊢
  unfold getL
  rw [hb]
  by_cases h2 : getB ns j = true
  ·rw [if_pos h2, if_pos h2]
   obtain ⟨x, h1, hx, h0⟩ := getB_iff.1 h2
   rw [getD_of hx]
   refine getD_of ?_
   rw [setL_get, if_neg (fun hh => h ⟨by omega, by omega, by omega⟩)]; exact hx
  ·rw [if_neg h2, if_neg h2]
section
variable {f : Nd → Nd} (hf : ∀ n, (f n).f0 = n.f0)
include hf
theorem getB_turn (ns : List Nd) (i j : Int) : getB (turnF ns i f) j = getB ns j := by
 unfold turnF
 rw [getB_set]
 split
 ·rename_i h
  obtain ⟨rfl, h1, h2⟩ := h
  rw [hf]
  cases hb : getB ns j with
  | true => simpa using (getL_at hb).2.2.2
  | false => rw [getL_no hb]; rfl
 ·rfl
theorem getL_turn (ns : List Nd) (i j : Int) : getL (turnF ns i f) j = if j = i ∧ getB ns i = true then f (getL ns i) else getL ns j := by
 unfold turnF
 rw [getL_set, hf]
 by_cases h : j = i ∧ getB ns i = true
 ·rw [if_pos h]
  have := getL_at h.2
  rw [if_pos ⟨h.1, this.1, this.2.1⟩, if_neg this.2.2.2]
 ·rw [if_neg h]
  split
  ·rename_i hh
   have hb : getB ns i = false := by
    cases hb : getB ns i with
    | true => exact absurd ⟨hh.1, hb⟩ h
    | false => rfl
   rw [getL_no hb, hh.1, getL_no hb]; rfl
  ·rfl
theorem turn_f0 (ns : List Nd) (i j : Int) : (getL (turnF ns i f) j).f0 = (getL ns j).f0 := by
 rw [getL_turn hf]
 split
 ·rename_i h; rw [hf, h.1]
 ·rfl
end
theorem nPut_f0 (s : Sp) (ino : Int) (n : Nd) : (nPut s ino n).f0 = n.f0 := rfl
theorem nDrop_f0 (s : Sp) (n : Nd) : (nDrop s n).f0 = n.f0 := rfl
theorem nLess_f0 (n : Nd) : (nLess n).f0 = n.f0 := rfl
theorem nMore_f0 (n : Nd) : (nMore n).f0 = n.f0 := rfl
theorem nUp_f0 (u : Int) (n : Nd) : (nUp u n).f0 = n.f0 := rfl
theorem nMode_f0 (m : Int) (n : Nd) : (nMode m n).f0 = n.f0 := rfl
theorem settle_f0 {ns : List Nd} {i j : Int} (h : j ≠ i) : getL (settleF ns i) j = getL ns j := by
 unfold settleF
 split
 ·rw [getL_set, if_neg (fun hh => h hh.1)]
 ·rfl
structure NodeR (n : Nd) : Prop where
 kind : 1 ≤ n.f0 ∧ n.f0 ≤ 3
 mode : 0 ≤ n.f1 ∧ n.f1 ≤ 63
 open_ : 0 ≤ n.f4
 names : n.f0 ≠ 2 → n.f7 = []
 data : n.f0 = 2 → n.f6.toList = []
 sorted : sortedF n.f7 = true
def cnt (ns : List Nd) (i : Int) : Nat := (ns.map (countF · i)).sum
inductive Reach (ns : List Nd) : Int → Prop
 | root : Reach ns 0
 | up {i : Int} (h : getB ns i = true) (h2 : (getL ns i).f0 = 2) (hr : Reach ns (getL ns i).f5) : Reach ns i
structure Rt (ns : List Nd) : Prop where
 clean : ∀ n ∈ ns, n.f0 = 0 → n = zNd
 root : (getL ns 0).f0 = 2 ∧ (getL ns 0).f5 = 0 ∧ (getL ns 0).f3 = 1
 node : ∀ i, getB ns i = true → NodeR (getL ns i)
 ents : ∀ i, ∀ e ∈ (getL ns i).f7, getB ns e.f1 = true ∧ e.f1 ≠ 0
 links : ∀ i, getB ns i = true → i ≠ 0 → (getL ns i).f3 = cnt ns i ∧ (cnt ns i = 0 → 1 ≤ (getL ns i).f4)
 lone : ∀ i, getB ns i = true → i ≠ 0 → (getL ns i).f0 = 2 → cnt ns i = 0 → (getL ns i).f7 = [] ∧ (getL ns i).f5 = 0
 par : ∀ i, getB ns i = true → i ≠ 0 → (getL ns i).f0 = 2 → cnt ns i ≠ 0 → cnt ns i = 1 ∧ 0 < countF (getL ns (getL ns i).f5) i ∧ Reach ns i
theorem namesAt_one (ns : List Nd) (i : Int) : ∀ k, k ≤ ns.length → (namesAt ns i k).1 = ((ns.take k).map (countF · i)).sum
 | 0, _ => rfl
 | k + 1, h => by
  have hk : k < ns.length := by omega
  rw [List.take_succ_eq_append_getElem hk]
  simp only [namesAt, namesAt_one ns i k (by omega), List.map_append, List.sum_append, List.map_cons, List.map_nil, List.sum_cons, List.sum_nil, Nat.add_zero, Int.natCast_add]
  rw [getD_of (List.getElem?_eq_getElem hk)]
theorem namesF_one (ns : List Nd) (i : Int) : (namesF ns i).1 = cnt ns i := by
 unfold namesF cnt
 rw [namesAt_one ns i _ (Nat.le_refl _), List.take_length]
theorem namesAt_two (ns : List Nd) (i : Int) : ∀ k, ((namesAt ns i k).2 = -1 ∧ ∀ j, j < k → countF (ns.getD j zNd) i = 0) ∨ ∃ d : Nat, (namesAt ns i k).2 = d ∧ d < k ∧ countF (ns.getD d zNd) i ≠ 0
 | 0 => .inl ⟨rfl, fun j hj => by omega⟩
 | k + 1 => by
  simp only [namesAt]
  by_cases h : countF (ns.getD k zNd) i = 0
  ·rw [if_pos h]
   rcases namesAt_two ns i k with ⟨h1, h2⟩ | ⟨d, h1, h2, h3⟩
   ·refine .inl ⟨h1, fun j hj => ?_⟩
    rcases Nat.lt_or_ge j k with h4 | h4
    ·exact h2 j h4
    ·rw [show j = k by omega]; exact h
   ·exact .inr ⟨d, h1, by omega, h3⟩
  ·rw [if_neg h]; exact .inr ⟨k, rfl, by omega, h⟩
theorem sum_zero {l : List Nat} (h : l.sum = 0) : ∀ x ∈ l, x = 0 := by
 induction l with
 | nil => intro x hx; cases hx
 | cons a l ih =>
  simp only [List.sum_cons] at h
  intro x hx
  rcases List.mem_cons.1 hx with rfl | hx
  ·omega
  ·exact ih (by omega) x hx
theorem sum_get {l : List Nat} {j : Nat} {x : Nat} (h : l[j]? = some x) : x ≤ l.sum := by
 induction l generalizing j with
 | nil => simp at h
 | cons a l ih =>
  simp only [List.sum_cons]
  cases j with
  | zero => simp only [List.getElem?_cons_zero, Option.some.injEq] at h; omega
  | succ j => rw [List.getElem?_cons_succ] at h; have := ih h; omega
theorem sum_two {l : List Nat} {j k : Nat} {x y : Nat} (hj : l[j]? = some x) (hk : l[k]? = some y) (h : j ≠ k) : x + y ≤ l.sum := by
 induction l generalizing j k with
 | nil => simp at hj
 | cons a l ih =>
  simp only [List.sum_cons]
  cases j with
  | zero =>
   cases k with
   | zero => exact absurd rfl h
   | succ k =>
    simp only [List.getElem?_cons_zero, Option.some.injEq] at hj
    rw [List.getElem?_cons_succ] at hk
    have := sum_get hk; omega
  | succ j =>
   cases k with
   | zero =>
    simp only [List.getElem?_cons_zero, Option.some.injEq] at hk
    rw [List.getElem?_cons_succ] at hj
    have := sum_get hj; omega
   | succ k =>
    rw [List.getElem?_cons_succ] at hj hk
    have := ih hj hk (by omega); omega
theorem count_getL (ns : List Nd) (hz : ∀ n ∈ ns, n.f0 = 0 → n = zNd) (k : Nat) (i : Int) : countF (ns.getD k zNd) i = countF (getL ns k) i := by
 unfold getL
 split
 ·rw [Int.toNat_natCast]
 ·rename_i hb
  rcases Nat.lt_or_ge k ns.length with h | h
  ·have hk := List.getElem?_eq_getElem h
   have h0 : ns[k].f0 = 0 := by
    rcases Decidable.em (ns[k].f0 = 0) with h0 | h0
    ·exact h0
    ·exact absurd (getL_of hk h0).1 hb
   rw [getD_of hk, hz _ (List.getElem_mem h) h0]
  ·simp [List.getD, h]
theorem namesF_two {ns : List Nd} (hz : ∀ n ∈ ns, n.f0 = 0 → n = zNd) {i p : Int} (h1 : cnt ns i = 1) : (namesF ns i).2 = p ↔ 0 < countF (getL ns p) i := by
 have hone : ∀ (j k : Nat), countF (ns.getD j zNd) i ≠ 0 → countF (ns.getD k zNd) i ≠ 0 → j = k := fun j k hj hk => by
  rcases Decidable.em (j = k) with h | h
  ·exact h
  ·exfalso
   have hlt : ∀ j, countF (ns.getD j zNd) i ≠ 0 → (ns.map (countF · i))[j]? = some (countF (ns.getD j zNd) i) := fun j hj => by
    rcases Nat.lt_or_ge j ns.length with h | h
    ·rw [List.getElem?_map, List.getElem?_eq_getElem h, getD_of (List.getElem?_eq_getElem h)]; rfl
    ·exact absurd (by simp [List.getD, h, countF, zNd]) hj
   have := sum_two (hlt j hj) (hlt k hk) h
   unfold cnt at h1; omega
 have hn := namesAt_two ns i ns.length
 have hnz : ∃ d : Nat, (namesF ns i).2 = d ∧ countF (ns.getD d zNd) i ≠ 0 := by
  rcases hn with ⟨_, h2⟩ | ⟨d, h2, _, h3⟩
  ·exfalso
   have : cnt ns i = 0 := by
    unfold cnt
    have hz : ∀ x ∈ ns.map (countF · i), x = 0 := fun x hx => by
     obtain ⟨n, hn, rfl⟩ := List.mem_map.1 hx
     obtain ⟨j, hj⟩ := List.getElem?_of_mem hn
     have := h2 j (List.getElem?_eq_some_iff.1 hj).1
     rwa [getD_of hj] at this
    generalize ns.map (countF · i) = l at hz
    induction l with
    | nil => rfl
    | cons a l ih => rw [List.sum_cons, hz a (by simp), ih fun x hx => hz x (by simp [hx])]
   omega
  ·exact ⟨d, h2, h3⟩
 obtain ⟨d, h2, h3⟩ := hnz
 rw [h2]
 constructor
 ·rintro rfl
  rw [← count_getL ns hz]; omega
 ·intro h4
  have hp : 0 ≤ p := by
   rcases Int.lt_or_le p 0 with h | h
   ·rw [getL_no (by unfold getB; simp; omega)] at h4; simp [countF, zNd] at h4
   ·exact h
  obtain ⟨q, rfl⟩ : ∃ q : Nat, p = q := ⟨p.toNat, by omega⟩
  rw [← count_getL ns hz] at h4
  rw [hone d q h3 (by omega)]
theorem reach_of {ns : List Nd} : ∀ (f : Nat) (i : Int), rootGo ns f i = true → Reach ns i
 | 0, _, h => by cases h
 | f + 1, i, h => by
  unfold rootGo at h
  split at h
  ·rename_i h0; rw [h0]; exact .root
  ·split at h
   ·rename_i hc; exact .up hc.1 hc.2 (reach_of f _ h)
   ·cases h
theorem rt_of {ns : List Nd} {m r : Int} (h : rightF ns m r = true) : Rt ns := by
 unfold rightF at h
 rw [Bool.and_eq_true, decide_eq_true_eq] at h
 obtain ⟨⟨hne, hm, hb, h0⟩, hall⟩ := h
 have hr : ∀ (k : Nat) n, ns[k]? = some n → right1F ns k = true ∧ ns.getD k zNd = n := fun k n hk => ⟨List.all_eq_true.1 hall k (List.mem_range.2 (List.getElem?_eq_some_iff.1 hk).1), getD_of hk⟩
 have hz : ∀ n ∈ ns, n.f0 = 0 → n = zNd := fun n hn h0 => by
  obtain ⟨k, hk⟩ := List.getElem?_of_mem hn
  obtain ⟨h1, h2⟩ := hr k n hk
  unfold right1F at h1
  rw [h2] at h1
  simp only [if_pos h0] at h1
  exact of_decide_eq_true h1
 have key : ∀ i, getB ns i = true → ∃ k : Nat, i = k ∧ right1F ns k = true ∧ ns.getD k zNd = getL ns i ∧ (getL ns i).f0 ≠ 0 := fun i hi => by
  obtain ⟨h1, h2, h3, h4⟩ := getL_at hi
  obtain ⟨h5, h6⟩ := hr _ _ h3
  exact ⟨i.toNat, by omega, h5, h6, h4⟩
 have split1 : ∀ i, getB ns i = true → NodeR (getL ns i) ∧ (∀ e ∈ (getL ns i).f7, getB ns e.f1 = true ∧ e.f1 ≠ 0) ∧ ((i = 0 ∧ (getL ns i).f0 = 2 ∧ (getL ns i).f5 = 0 ∧ (getL ns i).f3 = 1) ∨ (i ≠ 0 ∧ (getL ns i).f3 = cnt ns i ∧ (cnt ns i = 0 → 1 ≤ (getL ns i).f4) ∧
   ((getL ns i).f0 = 2 → (cnt ns i = 0 → (getL ns i).f7 = [] ∧ (getL ns i).f5 = 0) ∧ (cnt ns i ≠ 0 → cnt ns i = 1 ∧ 0 < countF (getL ns (getL ns i).f5) i ∧ Reach ns i)))) := fun i hi => by
  obtain ⟨k, rfl, h1, h2, h3⟩ := key i hi
  unfold right1F at h1
  rw [h2] at h1
  simp only [if_neg h3] at h1
  generalize getL ns (k : Int) = n at *
  split at h1
  ·cases h1
  rename_i g1
  split at h1
  ·cases h1
  rename_i g2
  split at h1
  ·cases h1
  rename_i g3
  have g3 : (List.range n.f7.length).all (entOk ns n.f7) = true := by simpa using g3
  refine ⟨⟨by omega, by omega, by omega, fun h => ?_, fun h => ?_, ?_⟩, fun e he => ?_, ?_⟩
  ·rcases Decidable.em (n.f7 = []) with h' | h'
   ·exact h'
   ·exact absurd (.inl ⟨h, h'⟩) g2
  ·rcases Decidable.em (n.f6.toList = []) with h' | h'
   ·exact h'
   ·exact absurd (.inr (.inl ⟨h, h'⟩)) g2
  ·cases hh : sortedF n.f7 with
   | true => rfl
   | false => exact absurd (.inr (.inr hh)) g2
  ·obtain ⟨j, hj⟩ := List.getElem?_of_mem he
   have := List.all_eq_true.1 g3 j (List.mem_range.2 (List.getElem?_eq_some_iff.1 hj).1)
   unfold entOk at this
   rw [getD_of hj, Bool.and_eq_true] at this
   exact ⟨this.1, by simpa using this.2⟩
  ·split at h1
   ·rename_i hk
    have := of_decide_eq_true h1
    exact .inl ⟨by omega, this⟩
   ·rename_i hk
    rw [namesF_one] at h1
    split at h1
    ·cases h1
    rename_i g4
    refine .inr ⟨by omega, by omega, fun h => by omega, fun hd => ⟨fun hc => ?_, fun hc => ?_⟩⟩
    ·rw [if_neg (fun h' => h' hd), if_pos (by omega)] at h1
     exact of_decide_eq_true h1
    ·rw [if_neg (fun h' => h' hd), if_neg (by omega), Bool.and_eq_true, decide_eq_true_eq] at h1
     have hc1 : cnt ns (k : Int) = 1 := by omega
     exact ⟨hc1, (namesF_two hz hc1).1 h1.1.2.symm, reach_of _ _ h1.2⟩
 have hB0 : getB ns 0 = true := by
  cases ns with
  | nil => exact absurd rfl hne
  | cons n l => exact (getL_of (i := 0) rfl (by rw [show n.f0 = 2 from h0]; decide)).1
 refine ⟨hz, ?_, fun i hi => (split1 i hi).1, fun i e he => ?_, fun i hi h0 => ?_, fun i hi h0 hd => ?_, fun i hi h0 hd => ?_⟩
 ·rcases (split1 0 hB0).2.2 with h | h
  ·exact h.2
  ·exact absurd rfl h.1
 ·cases hb : getB ns i with
  | true => exact (split1 i hb).2.1 e he
  | false => rw [getL_no hb] at he; cases he
 ·rcases (split1 i hi).2.2 with h | h
  ·exact absurd h.1 h0
  ·exact ⟨h.2.1, h.2.2.1⟩
 ·rcases (split1 i hi).2.2 with h | h
  ·exact absurd h.1 h0
  ·exact (h.2.2.2 hd).1
 ·rcases (split1 i hi).2.2 with h | h
  ·exact absurd h.1 h0
  ·exact (h.2.2.2 hd).2
theorem Rt.get0 {ns : List Nd} (h : Rt ns) : getB ns 0 = true := getB_f0 (by rw [h.root.1]; decide)
theorem count_pos {n : Nd} {i : Int} (h : 0 < countF n i) : ∃ e ∈ n.f7, e.f1 = i := by
 unfold countF at h
 obtain ⟨e, he⟩ := List.exists_mem_of_length_pos h
 rw [List.mem_filter] at he
 exact ⟨e, he.1, by simpa using he.2⟩
theorem Rt.dir_of {ns : List Nd} (h : Rt ns) {p i : Int} (hc : 0 < countF (getL ns p) i) : getB ns p = true ∧ (getL ns p).f0 = 2 := by
 obtain ⟨e, he, _⟩ := count_pos hc
 have hb : getB ns p = true := by
  cases hb : getB ns p with
  | true => rfl
  | false => rw [getL_no hb] at he; cases he
 refine ⟨hb, ?_⟩
 rcases Decidable.em ((getL ns p).f0 = 2) with h2 | h2
 ·exact h2
 ·rw [(h.node p hb).names h2] at he; cases he
theorem Rt.up {ns : List Nd} (h : Rt ns) {i : Int} (hi : getB ns i = true) (h2 : (getL ns i).f0 = 2) : getB ns (getL ns i).f5 = true ∧ (getL ns (getL ns i).f5).f0 = 2 := by
 by_cases h0 : i = 0
 ·subst h0; rw [h.root.2.1]; exact ⟨h.get0, h.root.1⟩
 ·by_cases hc : cnt ns i = 0
  ·rw [(h.lone i hi h0 h2 hc).2]; exact ⟨h.get0, h.root.1⟩
  ·exact h.dir_of (h.par i hi h0 h2 hc).2.1
theorem inoL_mem {l : List En} {name : ByteArray} (h : inoL l name ≠ -1) : ∃ e ∈ l, e.f1 = inoL l name ∧ ord e name = 0 := by
 unfold inoL at *
 cases hf : findL l name with
 | none => rw [hf] at h; exact absurd rfl h
 | some e =>
  unfold findL at hf
  exact ⟨e, List.mem_of_find?_eq_some hf, rfl, by simpa using List.find?_some hf⟩
theorem Rt.named {ns : List Nd} (h : Rt ns) {at_ : Int} (ha : hereB ns at_ = 0) (part : ByteArray) : namedB at_ (getL ns at_) part = -1 ∨ getB ns (namedB at_ (getL ns at_) part) = true := by
 have hb : getB ns at_ = true ∧ (getL ns at_).f0 = 2 := ⟨getB_f0 (by rw [here_dir ha]; decide), here_dir ha⟩
 unfold namedB
 split
 ·exact .inr hb.1
 ·split
  ·exact .inr (h.up hb.1 hb.2).1
  ·rcases Decidable.em (inoL (getL ns at_).f7 part = -1) with h1 | h1
   ·exact .inl h1
   ·obtain ⟨e, he, h2, _⟩ := inoL_mem h1
    rw [← h2]; exact .inr (h.ents at_ e he).1
theorem Rt.walkGo {ns : List Nd} (h : Rt ns) (who : Int) (follow slash : Bool) : ∀ (f : Nat) (at_ hops : Int) (ps : List ByteArray) (s : Sp), walkGo ns who follow slash f at_ hops ps = (s, 0) → s.f2 = -1 ∨ getB ns s.f2 = true
 | 0, _, _, _, s, hw => by
  unfold Sx.walkGo at hw; cases hw; exact .inr h.get0
 | f + 1, _, _, [], s, hw => by
  unfold Sx.walkGo at hw; cases hw; exact .inr h.get0
 | f + 1, at_, hops, part :: rest, s, hw => by
  unfold Sx.walkGo at hw
  split at hw
  ·rename_i h1; simp only [Prod.mk.injEq] at hw; exact absurd hw.2 h1
  rename_i h1
  have h1 : hereB ns at_ = 0 := by simpa using h1
  split at hw
  ·simp only [Prod.mk.injEq] at hw; exact absurd hw.2 (by decide)
  split at hw
  ·split at hw
   ·cases hw; exact .inl rfl
   ·simp only [Prod.mk.injEq] at hw; exact absurd hw.2 (by decide)
  rename_i h3
  split at hw
  ·split at hw
   ·simp only [Prod.mk.injEq] at hw; exact absurd hw.2 (by decide)
   split at hw
   ·rename_i h5; simp only [Prod.mk.injEq] at hw; exact absurd hw.2 h5
   split at hw
   ·cases hw; exact .inr h.get0
   ·exact Rt.walkGo h who follow slash f _ _ _ s hw
  ·split at hw
   ·split at hw
    ·simp only [Prod.mk.injEq] at hw; exact absurd hw.2 (by decide)
    ·cases hw; exact h.named h1 part
   ·exact Rt.walkGo h who follow slash f _ _ _ s hw
theorem Rt.walk {ns : List Nd} (h : Rt ns) {who from_ : Int} {path : ByteArray} {follow : Bool} {s : Sp} (hw : walkF ns who from_ path follow = (s, 0)) : s.f2 = -1 ∨ getB ns s.f2 = true := by
 unfold walkF at hw
 split at hw
 ·rename_i h1; simp only [Prod.mk.injEq] at hw; exact absurd hw.2 h1
 generalize (if pre47 path = true then 0 else from_) = at_ at hw
 unfold goF at hw
 split at hw
 ·split at hw
  ·rename_i h1; simp only [Prod.mk.injEq] at hw; exact absurd hw.2 h1
  ·rename_i h1
   have h1 : hereB ns at_ = 0 := by simpa using h1
   cases hw
   exact .inr (getB_f0 (by rw [here_dir h1]; decide))
 ·exact h.walkGo who follow _ _ _ _ _ s hw
end Go.Proofs.YtpfbimkpcnnfkaaGreatDoor.Sx
set_option linter.unusedVariables false
set_option linter.unusedSimpArgs false
namespace Go.Proofs.YtpfbimkpcnnfkaaGreatDoor.Sx
open Go Go.RowKit Go.Proofs.YtpfbimkpcnnfkaaGreatDoor Go.Proofs.YtpfbimkpcnnfkaaGreatDoor.Ext
theorem Rt.there {ns : List Nd} (h : Rt ns) {who from_ : Int} {path : ByteArray} (he : (thereF ns who from_ path).2 = 0) : (walkF ns who from_ path false).2 = 0 ∧ getB ns (thereF ns who from_ path).1.f2 = true := by
 unfold thereF at *
 generalize hw : walkF ns who from_ path false = w at *
 obtain ⟨s, e⟩ := w
 simp only at he ⊢
 split at he
 ·cases he
 ·rename_i h1
  subst he
  refine ⟨rfl, ?_⟩
  rcases h.walk hw with h2 | h2
  ·exact absurd ⟨rfl, by rw [h2]; decide⟩ h1
  ·exact h2
end Go.Proofs.YtpfbimkpcnnfkaaGreatDoor.Sx
