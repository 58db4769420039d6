/- Plain: what a rename moves. -/
import Derived.Test.YtpfbimkpcnnfkaaGreatDoorSyN
import Derived.Test.YtpfbimkpcnnfkaaGreatDoorSyT
/- Plain: what the reference does is what the program does. -/
/- Plain: what a right disk is; nodes behind changes. -/
set_option linter.unusedVariables false
set_option linter.unusedSimpArgs false
namespace Go.Proofs.YtpfbimkpcnnfkaaGreatDoor.Sx
open Go Go.RowKit Go.Proofs.YtpfbimkpcnnfkaaGreatDoor Go.Proofs.YtpfbimkpcnnfkaaGreatDoor.Ext
theorem getB_iff {ns : List Nd} {i : Int} : getB ns i = true ↔ ∃ n, 0 ≤ i ∧ ns[i.toNat]? = some n ∧ n.f0 ≠ 0 := by
 unfold getB
 rw [decide_eq_true_eq]
 constructor
 ·rintro ⟨h1, h2, h3⟩
  have hl : i.toNat < ns.length := by omega
  rw [show ns.getD i.toNat zNd = ns[i.toNat] by simp [List.getD, hl]] at h3
  exact ⟨_, h1, List.getElem?_eq_getElem hl, h3⟩
 ·rintro ⟨n, h1, h2, h3⟩
  have := (List.getElem?_eq_some_iff.1 h2).1
  exact ⟨h1, by omega, by rw [getD_of h2]; exact h3⟩
theorem getL_of {ns : List Nd} {i : Nat} {n : Nd} (h : ns[i]? = some n) (h0 : n.f0 ≠ 0) : getB ns i = true ∧ getL ns i = n := by
 have hb : getB ns i = true := getB_iff.2 ⟨n, by omega, by rw [Int.toNat_natCast]; exact h, h0⟩
 refine ⟨hb, ?_⟩
 unfold getL
 rw [if_pos hb, Int.toNat_natCast, getD_of h]
theorem getL_at {ns : List Nd} {i : Int} (h : getB ns i = true) : 0 ≤ i ∧ i < ns.length ∧ ns[i.toNat]? = some (getL ns i) ∧ (getL ns i).f0 ≠ 0 := by
 obtain ⟨n, h1, h2, h3⟩ := getB_iff.1 h
 have := (List.getElem?_eq_some_iff.1 h2).1
 have e : getL ns i = n := by unfold getL; rw [if_pos h, getD_of h2]
 rw [e]
 exact ⟨h1, by omega, h2, h3⟩
theorem getL_no {ns : List Nd} {i : Int} (h : getB ns i = false) : getL ns i = zNd := by unfold getL; rw [if_neg (by rw [h]; simp)]
theorem getB_f0 {ns : List Nd} {i : Int} (h : (getL ns i).f0 ≠ 0) : getB ns i = true := by
 cases hb : getB ns i with
 | true => rfl
 | false => rw [getL_no hb] at h; exact absurd rfl h
theorem setL_get (ns : List Nd) (i : Int) (n : Nd) (j : Nat) : (setL ns i n)[j]? = if (j : Int) = i ∧ j < ns.length then some n else ns[j]? := by
 unfold setL
 split
 ·rename_i h
  rw [List.getElem?_set]
  by_cases hj : i.toNat = j
  ·have : (j : Int) = i := by omega
   rw [if_pos hj, if_pos (by omega), if_pos ⟨this, by omega⟩]
  ·rw [if_neg hj, if_neg (by omega)]
 ·rename_i h
  rw [if_neg (by omega)]
theorem getB_set (ns : List Nd) (i : Int) (n : Nd) (j : Int) : getB (setL ns i n) j = if j = i ∧ 0 ≤ i ∧ i < ns.length then decide (n.f0 ≠ 0) else getB ns j := by
 rw [Bool.eq_iff_iff, getB_iff]
 by_cases h : j = i ∧ 0 ≤ i ∧ i < ns.length
 ·rw [if_pos h, decide_eq_true_eq]
  obtain ⟨rfl, h1, h2⟩ := h
  constructor
  ·rintro ⟨x, _, hx, h0⟩
   rw [setL_get, if_pos ⟨by omega, by omega⟩] at hx
   cases hx; exact h0
  ·intro h0
   exact ⟨n, h1, by rw [setL_get, if_pos ⟨by omega, by omega⟩], h0⟩
 ·rw [if_neg h, getB_iff]
  constructor
  ·rintro ⟨x, h1, hx, h0⟩
   rw [setL_get] at hx
   split at hx
   ·rename_i hh; exact absurd ⟨by omega, by omega, by omega⟩ h
   ·exact ⟨x, h1, hx, h0⟩
  ·rintro ⟨x, h1, hx, h0⟩
   refine ⟨x, h1, ?_, h0⟩
   rw [setL_get, if_neg (fun hh => h ⟨by omega, by omega, by omega⟩)]; exact hx
theorem getL_set (ns : List Nd) (i : Int) (n : Nd) (j : Int) : getL (setL ns i n) j = if j = i ∧ 0 ≤ i ∧ i < ns.length then (if n.f0 = 0 then zNd else n) else getL ns j := by
 have hb := getB_set ns i n j
 by_cases h : j = i ∧ 0 ≤ i ∧ i < ns.length
 ·rw [if_pos h] at hb ⊢
  obtain ⟨rfl, h1, h2⟩ := h
  by_cases h0 : n.f0 = 0
  ·rw [if_pos h0]; exact getL_no (by rw [hb]; simp [h0])
  ·rw [if_neg h0]
   have := (getL_at (by rw [hb]; simpa using h0 : getB (setL ns j n) j = true)).2.2.1
   rw [setL_get, if_pos ⟨by omega, by omega⟩] at this
   exact (Option.some.inj this).symm
 ·rw [if_neg h] at hb ⊢
  unfold getL
  rw [hb]
  by_cases h2 : getB ns j = true
  ·rw [if_pos h2, if_pos h2]
   obtain ⟨x, h1, hx, h0⟩ := getB_iff.1 h2
   rw [getD_of hx]
   refine getD_of ?_
   rw [setL_get, if_neg (fun hh => h ⟨by omega, by omega, by omega⟩)]; exact hx
  ·rw [if_neg h2, if_neg h2]
section
variable {f : Nd → Nd} (hf : ∀ n, (f n).f0 = n.f0)
include hf
theorem getB_turn (ns : List Nd) (i j : Int) : getB (turnF ns i f) j = getB ns j := by
 unfold turnF
 rw [getB_set]
 split
 ·rename_i h
  obtain ⟨rfl, h1, h2⟩ := h
  rw [hf]
  cases hb : getB ns j with
  | true => simpa using (getL_at hb).2.2.2
  | false => rw [getL_no hb]; rfl
 ·rfl
theorem getL_turn (ns : List Nd) (i j : Int) : getL (turnF ns i f) j = if j = i ∧ getB ns i = true then f (getL ns i) else getL ns j := by
 unfold turnF
 rw [getL_set, hf]
 by_cases h : j = i ∧ getB ns i = true
 ·rw [if_pos h]
  have := getL_at h.2
  rw [if_pos ⟨h.1, this.1, this.2.1⟩, if_neg this.2.2.2]
 ·rw [if_neg h]
  split
  ·rename_i hh
   have hb : getB ns i = false := by
    cases hb : getB ns i with
    | true => exact absurd ⟨hh.1, hb⟩ h
    | false => rfl
   rw [getL_no hb, hh.1, getL_no hb]; rfl
  ·rfl
end
theorem nPut_f0 (s : Sp) (ino : Int) (n : Nd) : (nPut s ino n).f0 = n.f0 := rfl
theorem nDrop_f0 (s : Sp) (n : Nd) : (nDrop s n).f0 = n.f0 := rfl
theorem nLess_f0 (n : Nd) : (nLess n).f0 = n.f0 := rfl
theorem nUp_f0 (u : Int) (n : Nd) : (nUp u n).f0 = n.f0 := rfl
theorem settle_f0 {ns : List Nd} {i j : Int} (h : j ≠ i) : getL (settleF ns i) j = getL ns j := by
 unfold settleF
 split
 ·rw [getL_set, if_neg (fun hh => h hh.1)]
 ·rfl
structure NodeR (n : Nd) : Prop where
 kind : 1 ≤ n.f0 ∧ n.f0 ≤ 3
 mode : 0 ≤ n.f1 ∧ n.f1 ≤ 63
 open_ : 0 ≤ n.f4
 names : n.f0 ≠ 2 → n.f7 = []
 data : n.f0 = 2 → n.f6.toList = []
 sorted : sortedF n.f7 = true
def cnt (ns : List Nd) (i : Int) : Nat := (ns.map (countF · i)).sum
inductive Reach (ns : List Nd) : Int → Prop
 | root : Reach ns 0
 | up {i : Int} (h : getB ns i = true) (h2 : (getL ns i).f0 = 2) (hr : Reach ns (getL ns i).f5) : Reach ns i
structure Rt (ns : List Nd) : Prop where
 clean : ∀ n ∈ ns, n.f0 = 0 → n = zNd
 root : (getL ns 0).f0 = 2 ∧ (getL ns 0).f5 = 0 ∧ (getL ns 0).f3 = 1
 node : ∀ i, getB ns i = true → NodeR (getL ns i)
 ents : ∀ i, ∀ e ∈ (getL ns i).f7, getB ns e.f1 = true ∧ e.f1 ≠ 0
 links : ∀ i, getB ns i = true → i ≠ 0 → (getL ns i).f3 = cnt ns i ∧ (cnt ns i = 0 → 1 ≤ (getL ns i).f4)
 lone : ∀ i, getB ns i = true → i ≠ 0 → (getL ns i).f0 = 2 → cnt ns i = 0 → (getL ns i).f7 = [] ∧ (getL ns i).f5 = 0
 par : ∀ i, getB ns i = true → i ≠ 0 → (getL ns i).f0 = 2 → cnt ns i ≠ 0 → cnt ns i = 1 ∧ 0 < countF (getL ns (getL ns i).f5) i ∧ Reach ns i
theorem namesAt_one (ns : List Nd) (i : Int) : ∀ k, k ≤ ns.length → (namesAt ns i k).1 = ((ns.take k).map (countF · i)).sum
 | 0, _ => rfl
 | k + 1, h => by
  have hk : k < ns.length := by omega
  rw [List.take_succ_eq_append_getElem hk]
  simp only [namesAt, namesAt_one ns i k (by omega), List.map_append, List.sum_append, List.map_cons, List.map_nil, List.sum_cons, List.sum_nil, Nat.add_zero, Int.natCast_add]
  rw [getD_of (List.getElem?_eq_getElem hk)]
theorem namesF_one (ns : List Nd) (i : Int) : (namesF ns i).1 = cnt ns i := by
 unfold namesF cnt
 rw [namesAt_one ns i _ (Nat.le_refl _), List.take_length]
theorem namesAt_two (ns : List Nd) (i : Int) : ∀ k, ((namesAt ns i k).2 = -1 ∧ ∀ j, j < k → countF (ns.getD j zNd) i = 0) ∨ ∃ d : Nat, (namesAt ns i k).2 = d ∧ d < k ∧ countF (ns.getD d zNd) i ≠ 0
 | 0 => .inl ⟨rfl, fun j hj => by omega⟩
 | k + 1 => by
  simp only [namesAt]
  by_cases h : countF (ns.getD k zNd) i = 0
  ·rw [if_pos h]
   rcases namesAt_two ns i k with ⟨h1, h2⟩ | ⟨d, h1, h2, h3⟩
   ·refine .inl ⟨h1, fun j hj => ?_⟩
    rcases Nat.lt_or_ge j k with h4 | h4
    ·exact h2 j h4
    ·rw [show j = k by omega]; exact h
   ·exact .inr ⟨d, h1, by omega, h3⟩
  ·rw [if_neg h]; exact .inr ⟨k, rfl, by omega, h⟩
theorem sum_zero {l : List Nat} (h : l.sum = 0) : ∀ x ∈ l, x = 0 := by
 induction l with
 | nil => intro x hx; cases hx
 | cons a l ih =>
  simp only [List.sum_cons] at h
  intro x hx
  rcases List.mem_cons.1 hx with rfl | hx
  ·omega
  ·exact ih (by omega) x hx
theorem sum_get {l : List Nat} {j : Nat} {x : Nat} (h : l[j]? = some x) : x ≤ l.sum := by
 induction l generalizing j with
 | nil => simp at h
 | cons a l ih =>
  simp only [List.sum_cons]
  cases j with
  | zero => simp only [List.getElem?_cons_zero, Option.some.injEq] at h; omega
  | succ j => rw [List.getElem?_cons_succ] at h; have := ih h; omega
theorem sum_two {l : List Nat} {j k : Nat} {x y : Nat} (hj : l[j]? = some x) (hk : l[k]? = some y) (h : j ≠ k) : x + y ≤ l.sum := by
 induction l generalizing j k with
 | nil => simp at hj
 | cons a l ih =>
  simp only [List.sum_cons]
  cases j with
  | zero =>
   cases k with
   | zero => exact absurd rfl h
   | succ k =>
    simp only [List.getElem?_cons_zero, Option.some.injEq] at hj
    rw [List.getElem?_cons_succ] at hk
    have := sum_get hk; omega
  | succ j =>
   cases k with
   | zero =>
    simp only [List.getElem?_cons_zero, Option.some.injEq] at hk
    rw [List.getElem?_cons_succ] at hj
    have := sum_get hj; omega
   | succ k =>
    rw [List.getElem?_cons_succ] at hj hk
    have := ih hj hk (by omega); omega
theorem count_getL (ns : List Nd) (hz : ∀ n ∈ ns, n.f0 = 0 → n = zNd) (k : Nat) (i : Int) : countF (ns.getD k zNd) i = countF (getL ns k) i := by
 unfold getL
 split
 ·rw [Int.toNat_natCast]
 ·rename_i hb
  rcases Nat.lt_or_ge k ns.length with h | h
  ·have hk := List.getElem?_eq_getElem h
   have h0 : ns[k].f0 = 0 := by
    rcases Decidable.em (ns[k].f0 = 0) with h0 | h0
    ·exact h0
    ·exact absurd (getL_of hk h0).1 hb
   rw [getD_of hk, hz _ (List.getElem_mem h) h0]
  ·simp [List.getD, h]
theorem namesF_two {ns : List Nd} (hz : ∀ n ∈ ns, n.f0 = 0 → n = zNd) {i p : Int} (h1 : cnt ns i = 1) : (namesF ns i).2 = p ↔ 0 < countF (getL ns p) i := by
 have hone : ∀ (j k : Nat), countF (ns.getD j zNd) i ≠ 0 → countF (ns.getD k zNd) i ≠ 0 → j = k := fun j k hj hk => by
  rcases Decidable.em (j = k) with h | h
  ·exact h
  ·exfalso
   have hlt : ∀ j, countF (ns.getD j zNd) i ≠ 0 → (ns.map (countF · i))[j]? = some (countF (ns.getD j zNd) i) := fun j hj => by
    rcases Nat.lt_or_ge j ns.length with h | h
    ·rw [List.getElem?_map, List.getElem?_eq_getElem h, getD_of (List.getElem?_eq_getElem h)]; rfl
    ·exact absurd (by simp [List.getD, h, countF, zNd]) hj
   have := sum_two (hlt j hj) (hlt k hk) h
   unfold cnt at h1; omega
 have hn := namesAt_two ns i ns.length
 have hnz : ∃ d : Nat, (namesF ns i).2 = d ∧ countF (ns.getD d zNd) i ≠ 0 := by
  rcases hn with ⟨_, h2⟩ | ⟨d, h2, _, h3⟩
  ·exfalso
   have : cnt ns i = 0 := by
    unfold cnt
    have hz : ∀ x ∈ ns.map (countF · i), x = 0 := fun x hx => by
     obtain ⟨n, hn, rfl⟩ := List.mem_map.1 hx
     obtain ⟨j, hj⟩ := List.getElem?_of_mem hn
     have := h2 j (List.getElem?_eq_some_iff.1 hj).1
     rwa [getD_of hj] at this
    generalize ns.map (countF · i) = l at hz
    induction l with
    | nil => rfl
    | cons a l ih => rw [List.sum_cons, hz a (by simp), ih fun x hx => hz x (by simp [hx])]
   omega
  ·exact ⟨d, h2, h3⟩
 obtain ⟨d, h2, h3⟩ := hnz
 rw [h2]
 constructor
 ·rintro rfl
  rw [← count_getL ns hz]; omega
 ·intro h4
  have hp : 0 ≤ p := by
   rcases Int.lt_or_le p 0 with h | h
   ·rw [getL_no (by unfold getB; simp; omega)] at h4; simp [countF, zNd] at h4
   ·exact h
  obtain ⟨q, rfl⟩ : ∃ q : Nat, p = q := ⟨p.toNat, by omega⟩
  rw [← count_getL ns hz] at h4
  rw [hone d q h3 (by omega)]
theorem reach_of {ns : List Nd} : ∀ (f : Nat) (i : Int), rootGo ns f i = true → Reach ns i
 | 0, _, h => by cases h
 | f + 1, i, h => by
  unfold rootGo at h
  split at h
  ·rename_i h0; rw [h0]; exact .root
  ·split at h
   ·rename_i hc; exact .up hc.1 hc.2 (reach_of f _ h)
   ·cases h
theorem rt_of {ns : List Nd} {m r : Int} (h : rightF ns m r = true) : Rt ns := by
 unfold rightF at h
 rw [Bool.and_eq_true, decide_eq_true_eq] at h
 obtain ⟨⟨hne, hm, hb, h0⟩, hall⟩ := h
 have hr : ∀ (k : Nat) n, ns[k]? = some n → right1F ns k = true ∧ ns.getD k zNd = n := fun k n hk => ⟨List.all_eq_true.1 hall k (List.mem_range.2 (List.getElem?_eq_some_iff.1 hk).1), getD_of hk⟩
 have hz : ∀ n ∈ ns, n.f0 = 0 → n = zNd := fun n hn h0 => by
  obtain ⟨k, hk⟩ := List.getElem?_of_mem hn
  obtain ⟨h1, h2⟩ := hr k n hk
  unfold right1F at h1
  rw [h2] at h1
  simp only [if_pos h0] at h1
  exact of_decide_eq_true h1
 have key : ∀ i, getB ns i = true → ∃ k : Nat, i = k ∧ right1F ns k = true ∧ ns.getD k zNd = getL ns i ∧ (getL ns i).f0 ≠ 0 := fun i hi => by
  obtain ⟨h1, h2, h3, h4⟩ := getL_at hi
  obtain ⟨h5, h6⟩ := hr _ _ h3
  exact ⟨i.toNat, by omega, h5, h6, h4⟩
 have split1 : ∀ i, getB ns i = true → NodeR (getL ns i) ∧ (∀ e ∈ (getL ns i).f7, getB ns e.f1 = true ∧ e.f1 ≠ 0) ∧ ((i = 0 ∧ (getL ns i).f0 = 2 ∧ (getL ns i).f5 = 0 ∧ (getL ns i).f3 = 1) ∨ (i ≠ 0 ∧ (getL ns i).f3 = cnt ns i ∧ (cnt ns i = 0 → 1 ≤ (getL ns i).f4) ∧
   ((getL ns i).f0 = 2 → (cnt ns i = 0 → (getL ns i).f7 = [] ∧ (getL ns i).f5 = 0) ∧ (cnt ns i ≠ 0 → cnt ns i = 1 ∧ 0 < countF (getL ns (getL ns i).f5) i ∧ Reach ns i)))) := fun i hi => by
  obtain ⟨k, rfl, h1, h2, h3⟩ := key i hi
  unfold right1F at h1
  rw [h2] at h1
  simp only [if_neg h3] at h1
  generalize getL ns (k : Int) = n at *
  split at h1
  ·cases h1
  rename_i g1
  split at h1
  ·cases h1
  rename_i g2
  split at h1
  ·cases h1
  rename_i g3
  have g3 : (List.range n.f7.length).all (entOk ns n.f7) = true := by simpa using g3
  refine ⟨⟨by omega, by omega, by omega, fun h => ?_, fun h => ?_, ?_⟩, fun e he => ?_, ?_⟩
  ·rcases Decidable.em (n.f7 = []) with h' | h'
   ·exact h'
   ·exact absurd (.inl ⟨h, h'⟩) g2
  ·rcases Decidable.em (n.f6.toList = []) with h' | h'
   ·exact h'
   ·exact absurd (.inr (.inl ⟨h, h'⟩)) g2
  ·cases hh : sortedF n.f7 with
   | true => rfl
   | false => exact absurd (.inr (.inr hh)) g2
  ·obtain ⟨j, hj⟩ := List.getElem?_of_mem he
   have := List.all_eq_true.1 g3 j (List.mem_range.2 (List.getElem?_eq_some_iff.1 hj).1)
   unfold entOk at this
   rw [getD_of hj, Bool.and_eq_true] at this
   exact ⟨this.1, by simpa using this.2⟩
  ·split at h1
   ·rename_i hk
    have := of_decide_eq_true h1
    exact .inl ⟨by omega, this⟩
   ·rename_i hk
    rw [namesF_one] at h1
    split at h1
    ·cases h1
    rename_i g4
    refine .inr ⟨by omega, by omega, fun h => by omega, fun hd => ⟨fun hc => ?_, fun hc => ?_⟩⟩
    ·rw [if_neg (fun h' => h' hd), if_pos (by omega)] at h1
     exact of_decide_eq_true h1
    ·rw [if_neg (fun h' => h' hd), if_neg (by omega), Bool.and_eq_true, decide_eq_true_eq] at h1
     have hc1 : cnt ns (k : Int) = 1 := by omega
     exact ⟨hc1, (namesF_two hz hc1).1 h1.1.2.symm, reach_of _ _ h1.2⟩
 have hB0 : getB ns 0 = true := by
  cases ns with
  | nil => exact absurd rfl hne
  | cons n l => exact (getL_of (i := 0) rfl (by rw [show n.f0 = 2 from h0]; decide)).1
 refine ⟨hz, ?_, fun i hi => (split1 i hi).1, fun i e he => ?_, fun i hi h0 => ?_, fun i hi h0 hd => ?_, fun i hi h0 hd => ?_⟩
 ·rcases (split1 0 hB0).2.2 with h | h
  ·exact h.2
  ·exact absurd rfl h.1
 ·cases hb : getB ns i with
  | true => exact (split1 i hb).2.1 e he
  | false => rw [getL_no hb] at he; cases he
 ·rcases (split1 i hi).2.2 with h | h
  ·exact absurd h.1 h0
  ·exact ⟨h.2.1, h.2.2.1⟩
 ·rcases (split1 i hi).2.2 with h | h
  ·exact absurd h.1 h0
  ·exact (h.2.2.2 hd).1
 ·rcases (split1 i hi).2.2 with h | h
  ·exact absurd h.1 h0
  ·exact (h.2.2.2 hd).2
theorem Rt.get0 {ns : List Nd} (h : Rt ns) : getB ns 0 = true := getB_f0 (by rw [h.root.1]; decide)
theorem count_pos {n : Nd} {i : Int} (h : 0 < countF n i) : ∃ e ∈ n.f7, e.f1 = i := by
 unfold countF at h
 obtain ⟨e, he⟩ := List.exists_mem_of_length_pos h
 rw [List.mem_filter] at he
 exact ⟨e, he.1, by simpa using he.2⟩
theorem Rt.dir_of {ns : List Nd} (h : Rt ns) {p i : Int} (hc : 0 < countF (getL ns p) i) : getB ns p = true ∧ (getL ns p).f0 = 2 := by
 obtain ⟨e, he, _⟩ := count_pos hc
 have hb : getB ns p = true := by
  cases hb : getB ns p with
  | true => rfl
  | false => rw [getL_no hb] at he; cases he
 refine ⟨hb, ?_⟩
 rcases Decidable.em ((getL ns p).f0 = 2) with h2 | h2
 ·exact h2
 ·rw [(h.node p hb).names h2] at he; cases he
theorem Rt.up {ns : List Nd} (h : Rt ns) {i : Int} (hi : getB ns i = true) (h2 : (getL ns i).f0 = 2) : getB ns (getL ns i).f5 = true ∧ (getL ns (getL ns i).f5).f0 = 2 := by
 by_cases h0 : i = 0
 ·subst h0; rw [h.root.2.1]; exact ⟨h.get0, h.root.1⟩
 ·by_cases hc : cnt ns i = 0
  ·rw [(h.lone i hi h0 h2 hc).2]; exact ⟨h.get0, h.root.1⟩
  ·exact h.dir_of (h.par i hi h0 h2 hc).2.1
theorem inoL_mem {l : List En} {name : ByteArray} (h : inoL l name ≠ -1) : ∃ e ∈ l, e.f1 = inoL l name ∧ ord e name = 0 := by
 unfold inoL at *
 cases hf : findL l name with
 | none => rw [hf] at h; exact absurd rfl h
 | some e =>
  unfold findL at hf
  exact ⟨e, List.mem_of_find?_eq_some hf, rfl, by simpa using List.find?_some hf⟩
theorem Rt.named {ns : List Nd} (h : Rt ns) {at_ : Int} (ha : hereB ns at_ = 0) (part : ByteArray) : namedB at_ (getL ns at_) part = -1 ∨ getB ns (namedB at_ (getL ns at_) part) = true := by
 have hb : getB ns at_ = true ∧ (getL ns at_).f0 = 2 := ⟨getB_f0 (by rw [here_dir ha]; decide), here_dir ha⟩
 unfold namedB
 split
 ·exact .inr hb.1
 ·split
  ·exact .inr (h.up hb.1 hb.2).1
  ·rcases Decidable.em (inoL (getL ns at_).f7 part = -1) with h1 | h1
   ·exact .inl h1
   ·obtain ⟨e, he, h2, _⟩ := inoL_mem h1
    rw [← h2]; exact .inr (h.ents at_ e he).1
theorem Rt.walkGo {ns : List Nd} (h : Rt ns) (who : Int) (follow slash : Bool) : ∀ (f : Nat) (at_ hops : Int) (ps : List ByteArray) (s : Sp), walkGo ns who follow slash f at_ hops ps = (s, 0) → s.f2 = -1 ∨ getB ns s.f2 = true
 | 0, _, _, _, s, hw => by
  unfold Sx.walkGo at hw; cases hw; exact .inr h.get0
 | f + 1, _, _, [], s, hw => by
  unfold Sx.walkGo at hw; cases hw; exact .inr h.get0
 | f + 1, at_, hops, part :: rest, s, hw => by
  unfold Sx.walkGo at hw
  split at hw
  ·rename_i h1; simp only [Prod.mk.injEq] at hw; exact absurd hw.2 h1
  rename_i h1
  have h1 : hereB ns at_ = 0 := by simpa using h1
  split at hw
  ·simp only [Prod.mk.injEq] at hw; exact absurd hw.2 (by decide)
  split at hw
  ·split at hw
   ·cases hw; exact .inl rfl
   ·simp only [Prod.mk.injEq] at hw; exact absurd hw.2 (by decide)
  rename_i h3
  split at hw
  ·split at hw
   ·simp only [Prod.mk.injEq] at hw; exact absurd hw.2 (by decide)
   split at hw
   ·rename_i h5; simp only [Prod.mk.injEq] at hw; exact absurd hw.2 h5
   split at hw
   ·cases hw; exact .inr h.get0
   ·exact Rt.walkGo h who follow slash f _ _ _ s hw
  ·split at hw
   ·split at hw
    ·simp only [Prod.mk.injEq] at hw; exact absurd hw.2 (by decide)
    ·cases hw; exact h.named h1 part
   ·exact Rt.walkGo h who follow slash f _ _ _ s hw
theorem Rt.walk {ns : List Nd} (h : Rt ns) {who from_ : Int} {path : ByteArray} {follow : Bool} {s : Sp} (hw : walkF ns who from_ path follow = (s, 0)) : s.f2 = -1 ∨ getB ns s.f2 = true := by
 unfold walkF at hw
 split at hw
 ·rename_i h1; simp only [Prod.mk.injEq] at hw; exact absurd hw.2 h1
 generalize (if pre47 path = true then 0 else from_) = at_ at hw
 unfold goF at hw
 split at hw
 ·split at hw
  ·rename_i h1; simp only [Prod.mk.injEq] at hw; exact absurd hw.2 h1
  ·rename_i h1
   have h1 : hereB ns at_ = 0 := by simpa using h1
   cases hw
   exact .inr (getB_f0 (by rw [here_dir h1]; decide))
 ·exact h.walkGo who follow _ _ _ _ _ s hw
end Go.Proofs.YtpfbimkpcnnfkaaGreatDoor.Sx
set_option linter.unusedVariables false
set_option linter.unusedSimpArgs false
namespace Go.Proofs.YtpfbimkpcnnfkaaGreatDoor.Sx
open Go Go.RowKit Go.Proofs.YtpfbimkpcnnfkaaGreatDoor Go.Proofs.YtpfbimkpcnnfkaaGreatDoor.Ext
theorem Rt.there {ns : List Nd} (h : Rt ns) {who from_ : Int} {path : ByteArray} (he : (thereF ns who from_ path).2 = 0) : (walkF ns who from_ path false).2 = 0 ∧ getB ns (thereF ns who from_ path).1.f2 = true := by
 unfold thereF at *
 generalize hw : walkF ns who from_ path false = w at *
 obtain ⟨s, e⟩ := w
 simp only at he ⊢
 split at he
 ·cases he
 ·rename_i h1
  subst he
  refine ⟨rfl, ?_⟩
  rcases h.walk hw with h2 | h2
  ·exact absurd ⟨rfl, by rw [h2]; decide⟩ h1
  ·exact h2
end Go.Proofs.YtpfbimkpcnnfkaaGreatDoor.Sx
set_option linter.unusedVariables false
set_option linter.unusedSimpArgs false
namespace Go.Proofs.YtpfbimkpcnnfkaaGreatDoor.Sx
open Go Go.RowKit Go.Proofs.YtpfbimkpcnnfkaaGreatDoor Go.Proofs.YtpfbimkpcnnfkaaGreatDoor.Ext
structure SpotOk (ns : List Nd) (s : Sp) : Prop where
 here : hereB ns s.f0 = 0
 alt : (s.f1.toList = [] ∧ s.f2 = s.f0) ∨ s.f2 = namedB s.f0 (getL ns s.f0) s.f1
theorem Rt.here0 {ns : List Nd} (h : Rt ns) : hereB ns 0 = 0 := by unfold hereB; rw [if_pos h.get0, if_pos h.root.1]
theorem Rt.spotGo {ns : List Nd} (h : Rt ns) (who : Int) (follow slash : Bool) : ∀ (f : Nat) (at_ hops : Int) (ps : List ByteArray) (s : Sp), Sx.walkGo ns who follow slash f at_ hops ps = (s, 0) → (f = 0 ∨ ps = []) ∨ SpotOk ns s
 | 0, _, _, _, s, hw => .inl (.inl rfl)
 | f + 1, _, _, [], s, hw => .inl (.inr rfl)
 | f + 1, at_, hops, part :: rest, s, hw => by
  have emp : SpotOk ns ⟨0, ⟨#[]⟩, 0, slash⟩ := ⟨h.here0, .inl ⟨dot0, rfl⟩⟩
  unfold Sx.walkGo at hw
  split at hw
  ·rename_i h1; simp only [Prod.mk.injEq] at hw; exact absurd hw.2 h1
  rename_i h1
  have h1 : hereB ns at_ = 0 := by simpa using h1
  split at hw
  ·simp only [Prod.mk.injEq] at hw; exact absurd hw.2 (by decide)
  split at hw
  ·rename_i h2
   split at hw
   ·cases hw
    refine .inr ⟨h1, .inr ?_⟩
    rcases h.named h1 part with h3 | h3
    ·exact h3.symm
    ·have := (getL_at h3).1; omega
   ·simp only [Prod.mk.injEq] at hw; exact absurd hw.2 (by decide)
  have rec_ : ∀ a hp ps, ps ≠ [] → Sx.walkGo ns who follow slash f a hp ps = (s, 0) → SpotOk ns s := fun a hp ps hne hw => by
   rcases Rt.spotGo h who follow slash f a hp ps s hw with (h5 | h5) | h5
   ·subst h5
    unfold Sx.walkGo at hw
    cases hw
    exact ⟨h.here0, .inl ⟨dot0, rfl⟩⟩
   ·exact absurd h5 hne
   ·exact h5
  split at hw
  ·split at hw
   ·simp only [Prod.mk.injEq] at hw; exact absurd hw.2 (by decide)
   split at hw
   ·rename_i h5; simp only [Prod.mk.injEq] at hw; exact absurd hw.2 h5
   split at hw
   ·cases hw; exact .inr emp
   ·rename_i h6; exact .inr (rec_ _ _ _ h6 hw)
  ·split at hw
   ·split at hw
    ·simp only [Prod.mk.injEq] at hw; exact absurd hw.2 (by decide)
    ·cases hw; exact .inr ⟨h1, .inr rfl⟩
   ·rename_i h6; exact .inr (rec_ _ _ _ h6 hw)
theorem Rt.spot {ns : List Nd} (h : Rt ns) {who from_ : Int} {path : ByteArray} {follow : Bool} {s : Sp} (hw : walkF ns who from_ path follow = (s, 0)) : SpotOk ns s := by
 unfold walkF at hw
 split at hw
 ·rename_i h1; simp only [Prod.mk.injEq] at hw; exact absurd hw.2 h1
 generalize (if pre47 path = true then 0 else from_) = at_ at hw
 unfold goF at hw
 split at hw
 ·split at hw
  ·rename_i h1; simp only [Prod.mk.injEq] at hw; exact absurd hw.2 h1
  ·rename_i h1
   have h1 : hereB ns at_ = 0 := by simpa using h1
   cases hw
   exact ⟨h1, .inl ⟨dot0, rfl⟩⟩
 ·rename_i h2
  rcases h.spotGo who follow _ _ _ _ _ s hw with (h3 | h3) | h3
  ·exact absurd h3 (by decide)
  ·exact absurd h3 h2
  ·exact h3
theorem SpotOk.dir {ns : List Nd} {s : Sp} (h : SpotOk ns s) : getB ns s.f0 = true ∧ (getL ns s.f0).f0 = 2 := ⟨getB_f0 (by rw [here_dir h.here]; decide), here_dir h.here⟩
theorem SpotOk.ino {ns : List Nd} {s : Sp} (h : SpotOk ns s) (hd : dotsB s.f1 = false) : s.f2 = inoL (getL ns s.f0).f7 s.f1 := by
 unfold dotsB at hd
 have hd := of_decide_eq_false hd
 rcases h.alt with h1 | h1
 ·exact absurd (.inl h1.1) hd
 ·rw [h1]
  unfold namedB
  rw [if_neg (fun e => hd (.inr (.inl e))), if_neg (fun e => hd (.inr (.inr e)))]
theorem SpotOk.ent {ns : List Nd} {s : Sp} (h : SpotOk ns s) (hd : dotsB s.f1 = false) (h0 : 0 ≤ s.f2) : ∃ e ∈ (getL ns s.f0).f7, e.f1 = s.f2 ∧ ord e s.f1 = 0 := by
 have e := h.ino hd
 obtain ⟨x, h1, h2, h3⟩ := inoL_mem (l := (getL ns s.f0).f7) (name := s.f1) (by omega)
 exact ⟨x, h1, by rw [h2, e], h3⟩
theorem findL_none {l : List En} {name : ByteArray} : findL l name = none ↔ ∀ x ∈ l, ord x name ≠ 0 := by unfold findL; simp
theorem mem_put {l : List En} {e x : En} (h : x ∈ putF l e) : x = e ∨ x ∈ l := by
 unfold putF at h
 simp only [List.mem_append, List.mem_filter, List.mem_singleton] at h
 rcases h with (h | h) | h
 ·exact .inr h.1
 ·exact .inl h
 ·exact .inr h.1
theorem mem_drop {l : List En} {name : ByteArray} {x : En} : x ∈ dropF l name ↔ x ∈ l ∧ ord x name ≠ 0 := by unfold dropF; simp
theorem ord_self (e : En) : ord e e.f0 = 0 := (ord_zero e e.f0).2 rfl
theorem findL_put (l : List En) (e : En) : findL (putF l e) e.f0 = some e := by
 unfold findL putF
 rw [List.append_assoc, List.find?_append, List.find?_eq_none.2 (fun x hx => by
  have := (List.mem_filter.1 hx).2
  simp only [decide_eq_true_eq] at this
  simp; omega), Option.none_or, List.find?_append]
 simp [ord_self]
theorem Reach.up_ne {ns : List Nd} {i : Int} (h : Reach ns i) : i = 0 ∨ (getL ns i).f5 ≠ i := by
 induction h with
 | root => exact .inl rfl
 | up h h2 hr ih =>
  rename_i i
  rcases Decidable.em ((getL ns i).f5 = i) with e | e
  ·rw [e] at ih; exact ih
  ·exact .inr e
theorem count_of_mem {n : Nd} {e : En} (h : e ∈ n.f7) : 0 < countF n e.f1 := by
 unfold countF
 exact List.length_pos_of_mem (List.mem_filter.2 ⟨h, by simp⟩)
theorem cnt_of {ns : List Nd} (h : Rt ns) {p i : Int} (hc : 0 < countF (getL ns p) i) : cnt ns i ≠ 0 := by
 intro h0
 obtain ⟨hb, _⟩ := h.dir_of hc
 have := (getL_at hb).2.2.1
 have h1 := sum_zero h0 (countF (getL ns p) i) (List.mem_map.2 ⟨_, List.mem_of_getElem? this, rfl⟩)
 omega
theorem Rt.not_own {ns : List Nd} (h : Rt ns) {p : Int} {e : En} (he : e ∈ (getL ns p).f7) : e.f1 ≠ p := by
 intro hp
 have hc := count_of_mem he
 obtain ⟨hb, h2⟩ := h.dir_of hc
 have h0 := (h.ents p e he).2
 rw [hp] at hc h0
 obtain ⟨h1, h3, h4⟩ := h.par p hb h0 h2 (cnt_of h hc)
 have e1 := (namesF_two h.clean h1).2 h3
 have e2 := (namesF_two h.clean h1).2 hc
 rcases h4.up_ne with h5 | h5
 ·exact h0 h5
 ·exact h5 (e1.symm.trans e2)
theorem ren_ok {ns : List Nd} {wa fa wb fb : Int} {old path : ByteArray} {s t : Sp} {e f : Int} (hs : walkF ns wa fa old false = (s, e)) (ht : walkF ns wb fb path false = (t, f)) (h : (renF ns wa fa wb fb old path).2 = 0) :
  e = 0 ∧ 0 ≤ s.f2 ∧ f = 0 ∧ ((s.f2 = t.f2 ∧ (renF ns wa fa wb fb old path).1 = ns) ∨ (¬ s.f2 = t.f2 ∧ dotsB s.f1 = false ∧ dotsB t.f1 = false ∧ overE ns s.f2 t = 0 ∧ (renF ns wa fa wb fb old path).1 = renAt ns s t)) := by
 unfold renF thereF at *
 rw [hs, ht] at *
 simp only at *
 by_cases h1 : (if e = 0 ∧ s.f2 < 0 then (2 : Int) else e) = 0
 ·have he : e = 0 ∧ ¬ s.f2 < 0 := by
   split at h1
   ·cases h1
   ·rename_i h2; exact ⟨h1, fun h3 => h2 ⟨h1, h3⟩⟩
  simp only [h1, not_true, if_false] at h ⊢
  by_cases h2 : f = 0
  ·simp only [h2, not_true, if_false] at h ⊢
   refine ⟨he.1, by omega, trivial, ?_⟩
   unfold renSp at *
   split at h
   ·cases h
   rename_i h3
   split at h
   ·cases h
   rename_i h4
   rw [if_neg h3, if_neg h4]
   by_cases h5 : s.f2 = t.f2
   ·rw [if_pos h5]; exact .inl ⟨h5, rfl⟩
   ·rw [if_neg h5] at h ⊢
    by_cases h6 : overE ns s.f2 t = 0
    ·rw [if_neg (fun h' => h' h6)]
     exact .inr ⟨h5, by simpa using fun h' => h3 (.inl h'), by simpa using fun h' => h3 (.inr h'), h6, rfl⟩
    ·rw [if_pos h6] at h; exact absurd h h6
  ·rw [if_pos h2] at h; exact absurd h h2
 ·rw [if_pos h1] at h; exact absurd h h1
structure MovesP (ns x : List Nd) (s t : Sp) : Prop where
 there : getB x s.f2 = true
 kept : (getL x s.f2).f0 = (getL ns s.f2).f0 ∧ (getL x s.f2).f6 = (getL ns s.f2).f6 ∧ (getL x s.f2).f1 = (getL ns s.f2).f1 ∧ (getL x s.f2).f3 = (getL ns s.f2).f3 ∧ (getL x s.f2).f7 = (getL ns s.f2).f7
 up : (getL x s.f2).f0 = 2 → (getL x s.f2).f5 = t.f0
 named : ∃ e, findL (getL x t.f0).f7 t.f1 = some e ∧ e.f1 = s.f2
 gone : ¬ (s.f0 = t.f0 ∧ s.f1.toList = t.f1.toList) → findL (getL x s.f0).f7 s.f1 = none
theorem moves_plain {ns : List Nd} (h : Rt ns) {s t : Sp} (hs : SpotOk ns s) (ht : SpotOk ns t) (hs0 : getB ns s.f2 = true) (ht2 : t.f2 = -1 ∨ getB ns t.f2 = true) (hne : ¬ s.f2 = t.f2) (d1 : dotsB s.f1 = false) (d2 : dotsB t.f1 = false) (ho : overE ns s.f2 t = 0) : MovesP ns (renAt ns s t) s t := by
 obtain ⟨b1, k1⟩ := hs.dir
 obtain ⟨b2, k2⟩ := ht.dir
 obtain ⟨es, es1, es2, es3⟩ := hs.ent d1 (getL_at hs0).1
 have h1 : s.f2 ≠ s.f0 := by rw [← es2]; exact h.not_own es1
 have h2 : s.f2 ≠ t.f0 := by
  intro e
  unfold overE at ho
  split at ho
  ·cases ho
  rw [if_neg (by rw [e]; simpa using k2)] at ho
  have : benF ns ns.length t.f0 s.f2 = true := by
   rw [e]
   cases ns.length with
   | zero => unfold benF; simp
   | succ f => unfold benF; rw [if_pos rfl]
  rw [if_pos this] at ho; cases ho
 have h4 : 0 ≤ t.f2 → t.f2 ≠ s.f0 ∧ t.f2 ≠ t.f0 := fun h0 => by
  have hb := ht2.resolve_left (by omega)
  obtain ⟨et, et1, et2, et3⟩ := ht.ent d2 h0
  unfold overE at ho
  split at ho
  ·cases ho
  split at ho
  ·split at ho
   ·cases ho
   ·rename_i hk
    exact ⟨fun e => hk (by rw [e]; exact k1), fun e => hk (by rw [e]; exact k2)⟩
  ·split at ho
   ·cases ho
   rw [if_neg (by omega)] at ho
   split at ho
   ·cases ho
   split at ho
   ·cases ho
   rename_i he
   have he : (getL ns t.f2).f7 = [] := by simpa using he
   exact ⟨fun e => (by rw [e] at he; rw [he] at es1; cases es1), fun e => (by rw [e] at he; rw [he] at et1; cases et1)⟩
 -- the nodes, step by step
 have g1 : ∀ j, getL (dropN ns s) j = if j = s.f0 then nDrop s (getL ns s.f0) else getL ns j := fun j => by
  unfold dropN; rw [getL_turn (nDrop_f0 s)]
  by_cases hj : j = s.f0
  ·rw [if_pos ⟨hj, b1⟩, if_pos hj]
  ·rw [if_neg (fun h' => hj h'.1), if_neg hj]
 have c1 : ∀ j, getB (dropN ns s) j = getB ns j := fun j => by unfold dropN; rw [getB_turn (nDrop_f0 s)]
 obtain ⟨n2, hn2⟩ : ∃ n2, (if 0 ≤ t.f2 then loseN (dropN ns s) t else dropN ns s) = n2 := ⟨_, rfl⟩
 have g2 : ∀ j, (0 ≤ t.f2 → j ≠ t.f2) → getB n2 j = getB ns j ∧ (getL n2 j = getL (dropN ns s) j ∨ (j = t.f0 ∧ getL n2 j = nDrop t (getL (dropN ns s) j))) := fun j hj => by
  rw [← hn2]
  by_cases h0 : 0 ≤ t.f2
  ·rw [if_pos h0]
   have hj := hj h0
   have e1 : getL (loseN (dropN ns s) t) j = getL (dropN (dropN ns s) t) j := by
    unfold loseN
    rw [settle_f0 hj, getL_turn nLess_f0, if_neg (fun h' => hj h'.1)]
   have e2 : getB (loseN (dropN ns s) t) j = getB ns j := by
    have hb : ∀ (m : List Nd), getB (settleF m t.f2) j = getB m j := fun m => by
     unfold settleF
     split
     ·rw [getB_set, if_neg (fun h' => hj h'.1)]
     ·rfl
    unfold loseN
    rw [hb, getB_turn nLess_f0]
    unfold dropN
    rw [getB_turn (nDrop_f0 t), getB_turn (nDrop_f0 s)]
   refine ⟨e2, ?_⟩
   rw [e1]
   unfold dropN
   rw [getL_turn (nDrop_f0 t) (turnF ns s.f0 (nDrop s))]
   by_cases hh : j = t.f0
   ·subst hh
    right
    refine ⟨rfl, ?_⟩
    rw [if_pos ⟨rfl, by rw [getB_turn (nDrop_f0 s)]; exact b2⟩]
   ·rw [if_neg (fun h' => hh h'.1)]; exact .inl rfl
  ·rw [if_neg h0]; exact ⟨c1 j, .inl rfl⟩
 have ht0 : 0 ≤ t.f2 → t.f0 ≠ t.f2 := fun h0 => fun e => (h4 h0).2 e.symm
 have hs2 : 0 ≤ t.f2 → s.f2 ≠ t.f2 := fun _ => hne
 have hsd : 0 ≤ t.f2 → s.f0 ≠ t.f2 := fun h0 => fun e => (h4 h0).1 e.symm
 obtain ⟨n3, hn3⟩ : ∃ n3, putN n2 t s.f2 = n3 := ⟨_, rfl⟩
 have g3 : ∀ j, getL n3 j = if j = t.f0 then nPut t s.f2 (getL n2 t.f0) else getL n2 j := fun j => by
  rw [← hn3]; unfold putN; rw [getL_turn (nPut_f0 t s.f2)]
  by_cases hj : j = t.f0
  ·rw [if_pos ⟨hj, by rw [(g2 t.f0 ht0).1]; exact b2⟩, if_pos hj]
  ·rw [if_neg (fun h' => hj h'.1), if_neg hj]
 have c3 : ∀ j, getB n3 j = getB n2 j := fun j => by rw [← hn3]; unfold putN; rw [getB_turn (nPut_f0 t s.f2)]
 have hx : renAt ns s t = if (getL ns s.f2).f0 = 2 then turnF n3 s.f2 (nUp t.f0) else n3 := by
  unfold renAt; simp only; rw [hn2, hn3]
 have hbx : ∀ j, getB (renAt ns s t) j = getB n3 j := fun j => by
  rw [hx]; split
  ·exact getB_turn (nUp_f0 t.f0) _ _ _
  ·rfl
 have hgx : ∀ j, j ≠ s.f2 → getL (renAt ns s t) j = getL n3 j := fun j hj => by
  rw [hx]; split
  ·rw [getL_turn (nUp_f0 t.f0), if_neg (fun h' => hj h'.1)]
  ·rfl
 -- what is moved
 have m3 : getL n3 s.f2 = getL ns s.f2 := by
  rw [g3, if_neg h2]
  rcases (g2 s.f2 hs2).2 with e | e
  ·rw [e, g1, if_neg h1]
  ·exact absurd e.1 h2
 have mb : getB n3 s.f2 = true := by rw [c3, (g2 s.f2 hs2).1]; exact hs0
 have mx : getL (renAt ns s t) s.f2 = if (getL ns s.f2).f0 = 2 then nUp t.f0 (getL ns s.f2) else getL ns s.f2 := by
  rw [hx]; split
  ·rw [getL_turn (nUp_f0 t.f0), if_pos ⟨rfl, mb⟩, m3]
  ·exact m3
 have tx : (getL (renAt ns s t) t.f0).f7 = putF (getL n2 t.f0).f7 ⟨t.f1, s.f2⟩ := by
  rw [hgx t.f0 (fun e => h2 e.symm), g3, if_pos rfl]; rfl
 refine ⟨by rw [hbx]; exact mb, ?_, ?_, ⟨⟨t.f1, s.f2⟩, by rw [tx]; exact findL_put _ _, rfl⟩, fun hns => ?_⟩
 ·rw [mx]; split <;> exact ⟨rfl, rfl, rfl, rfl, rfl⟩
 ·rw [mx]; split
  ·exact fun _ => rfl
  ·rename_i hk; exact fun h' => absurd h' hk
 ·rw [findL_none]
  by_cases hd : s.f0 = t.f0
  ·intro x hxm
   rw [hd, tx] at hxm
   rcases mem_put hxm with rfl | hxm
   ·intro e
    exact hns ⟨hd, by rw [ord_zero] at e; exact e.symm⟩
   ·have : x ∈ (getL (dropN ns s) t.f0).f7 := by
     rcases (g2 t.f0 ht0).2 with e | e
     ·rw [e] at hxm; exact hxm
     ·rw [e.2] at hxm; exact (mem_drop.1 hxm).1
    rw [g1, if_pos hd.symm] at this
    exact (mem_drop.1 this).2
  ·intro x hxm
   rw [hgx s.f0 (fun e => h1 e.symm), g3, if_neg hd] at hxm
   have : x ∈ (getL (dropN ns s) s.f0).f7 := by
    rcases (g2 s.f0 hsd).2 with e | e
    ·rw [e] at hxm; exact hxm
    ·exact absurd e.1 hd
   rw [g1, if_pos rfl] at this
   exact (mem_drop.1 this).2
end Go.Proofs.YtpfbimkpcnnfkaaGreatDoor.Sx
