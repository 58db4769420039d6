/- By Sx: errors.Join; what a refusal is. -/
import Derived.Test.YtpfbimkpcnnfkaaGreatDoorSyB
/- By Sx: entry.Put, entry.Drop. -/
/- By Sx: disk.Used, Bytes, Set, Add, Settle. -/
set_option maxRecDepth 100000
set_option linter.unusedVariables false
set_option linter.unusedSimpArgs false
namespace Go.Proofs.YtpfbimkpcnnfkaaGreatDoor.Sx
open Go Go.RowKit Go.Proofs.YtpfbimkpcnnfkaaGreatDoor Go.Proofs.YtpfbimkpcnnfkaaGreatDoor.Ext
def setL (ns : List Nd) (i : Int) (n : Nd) : List Nd := if 0 ≤ i ∧ i < ns.length then ns.set i.toNat n else ns
def usedF (ns : List Nd) : Nat := (ns.filter fun n => !decide (n.f0 = 0)).length
def addF (ns : List Nd) (m r : Int) (n : Nd) : List Nd × Int × Int :=
 if m ≤ usedF ns ∨ r < bytesF ns + weightF n then (ns, 0, 10)
 else match ns.findIdx? (fun n => decide (n.f0 = 0)) with
  | some i => (ns.set i n, i, 0)
  | none => (ns ++ [n], ns.length, 0)
def settleF (ns : List Nd) (i : Int) : List Nd := if getB ns i = true ∧ ¬ i = 0 ∧ (getL ns i).f3 < 1 ∧ (getL ns i).f4 < 1 then setL ns i zNd else ns
theorem setL_len (ns : List Nd) (i : Int) (n : Nd) : (setL ns i n).length = ns.length := by unfold setL; split <;> simp
theorem used1.cv (n : Nd) (A : Option Addr) (c : Nat) (u : Mem) : CV Tryz.prog 91 [.agg (cv K0 (n.row A c)).toArray] [] u fun v cs _ => cs = [] ∧ v = .int .i64 (if n.f0 = 0 then 0 else 1) := by
 refine cv_of names draws (fn := Tryz.f91) (b := bodyOf Tryz.f91) rfl rfl [] (used1.args (n.row A c)) (used1.giv _) (fun _ => 0) (used1.run _) (by kernel_rfl) rfl rfl ?_
 unfold used1.T
 intro b1 hb1
 refine ⟨fun h => ?_, fun h => ?_⟩
 ·simp only [E.den, cT_eql] at h
  have h : n.f0 = 0 := h
  rw [if_pos h]; exact ⟨rfl, rfl⟩
 ·simp only [E.den, cF_eql] at h
  have h : ¬ n.f0 = 0 := h
  rw [if_neg h]; exact ⟨rfl, rfl⟩
theorem nbytes.cv (n : Nd) (A : Option Addr) (c : Nat) (u : Mem) : CV Tryz.prog 124 [.agg (cv K0 (n.row A c)).toArray] [] u fun v cs _ => cs = [] ∧ v = .int .i64 (weightF n) := by
 refine cv_of names draws (fn := Tryz.f124) (b := bodyOf Tryz.f124) rfl rfl [] (nbytes.args (n.row A c)) (nbytes.giv _) (fun _ => 0) (nbytes.run _) (by kernel_rfl) rfl rfl ?_
 unfold nbytes.T
 intro b1 hb1
 refine ⟨fun h => ?_, fun h => ?_⟩
 ·simp only [E.den, cD_neq, bAnd, decide_eq_true_eq] at h
  have h : ¬ n.f0 = 1 ∧ ¬ n.f0 = 3 := h
  unfold weightF
  rw [if_neg (by omega)]; exact ⟨rfl, rfl⟩
 ·simp only [E.den, cD_neq, bAnd, decide_eq_false_iff_not] at h
  have h : ¬ (¬ n.f0 = 1 ∧ ¬ n.f0 = 3) := h
  unfold weightF
  rw [if_pos (by omega)]; exact ⟨rfl, rfl⟩
def sumOf (w : Nd → Int) (ns : List Nd) : Int := (ns.map w).sum
theorem sumOf_succ (w : Nd → Int) (ns : List Nd) (i : Nat) (n : Nd) (h : ns[i]? = some n) : sumOf w (ns.take (i + 1)) = sumOf w (ns.take i) + w n := by
 obtain ⟨g, rfl⟩ := List.getElem?_eq_some_iff.1 h
 rw [List.take_succ_eq_append_getElem g]
 simp only [sumOf, List.map_append, List.map_cons, List.map_nil, List.sum_append, List.sum_cons, List.sum_nil, Int.add_zero]
theorem sumOf_bound {w : Nd → Int} {ns : List Nd} (hw : ∀ n ∈ ns, 0 ≤ w n ∧ w n ≤ 1000000000) : ∀ i, i ≤ ns.length → 0 ≤ sumOf w (ns.take i) ∧ sumOf w (ns.take i) ≤ i * 1000000000 := by
 intro i
 induction i with
 | zero => intro _; simp [sumOf]
 | succ i ih =>
  intro hi
  have := ih (by omega)
  have h1 := hw ns[i] (List.getElem_mem (by omega))
  rw [sumOf_succ w ns i _ (List.getElem?_eq_getElem (by omega))]
  omega
theorem sumU.cv (A : Option Addr) (c : Nat) (ns : List Nd) (m r : Int) (u : Mem) (hd : DiskAt u A ns) (hl : ns.length ≤ 1000000) :
  CV Tryz.prog 90 [.agg #[.slice A ns.length c, .int .i64 m, .int .i64 r], .func (.func 91) #[] #[]] [] u fun v cs _ => cs = [] ∧ v = .int .i64 (sumOf (fun n => if n.f0 = 0 then 0 else 1) ns) := by
 refine cv_of names draws (fn := Tryz.f90) (b := bodyOf Tryz.f90) rfl rfl [⟨2, [4, 10], []⟩] (sumU.args ((A, ns.length, c), m, r, ())) (sumU.giv _) (fun _ => 0) (sumU.run _) (by kernel_rfl) rfl rfl ?_
 have hb := sumOf_bound (w := fun n => if n.f0 = 0 then 0 else 1) (ns := ns) (fun n _ => by split <;> omega)
 unfold sumU.T
 intro b1 hb1
 refine hold_loop (sk := [.i .i64, .i .i64]) (oks := []) (fun x _ u' => u.le u' ∧ ∃ i : Nat, x = (sumOf (fun n => if n.f0 = 0 then 0 else 1) (ns.take i), (i : Int), ()) ∧ i ≤ ns.length) (fun x _ => ((ns.length : Int) - x.2.1).toNat) (0, 0, ()) () rfl rfl ⟨Mem.le_refl u, 0, rfl, by omega⟩ ?_
 rintro x y u1 ⟨hu1, i, rfl, hi⟩
 refine ⟨fun hlt => ?_, fun hge => ?_⟩
 ·simp only [E.den, cT_lss] at hlt
  have hlt : (i : Int) < (ns.length : Int) := hlt
  have hil : i < ns.length := by omega
  obtain ⟨n, hx⟩ : ∃ n, ns[i]? = some n := ⟨_, List.getElem?_eq_getElem hil⟩
  obtain ⟨a7, c7, k1, k2, k3⟩ := hd i n hx
  have rx := k2.mono hu1
  have b1 : (0 : Int) ≤ (i : Int) ∧ (i : Int) < (ns.length : Int) ∧ A.isSome = true := ⟨by omega, hlt, rx.some⟩
  refine ⟨fun _ => b1, fun _ => ⟨n.row a7 c7, by show Reads u1 A ((i : Int).toNat * 8) _; rw [Int.toNat_natCast]; exact rx, fun b2 hb2 => ?_⟩, fun h => by cases h⟩
  refine hold_call ((used1.cv n a7 c7 u1).mono fun v cs u2 hu2 ⟨hc, hv⟩ => ⟨((if n.f0 = 0 then 0 else 1), ()), (), hv, hc, by simp, ?_⟩)
  simp only [if_true]
  have e1 := sumOf_succ (fun n => if n.f0 = 0 then 0 else 1) ns i n hx
  have w1 : IntKind.i64.wrap (sumOf (fun n => if n.f0 = 0 then 0 else 1) (ns.take i) + (if n.f0 = 0 then 0 else 1)) = sumOf (fun n => if n.f0 = 0 then 0 else 1) (ns.take (i + 1)) := by
   rw [e1]; have := hb (i + 1) (by omega); rw [e1] at this; rw [IntKind.wrap_i64] <;> omega
  exact ⟨(sumOf (fun n => if n.f0 = 0 then 0 else 1) (ns.take (i + 1)), ((i + 1 : Nat) : Int), ()), (), by rw [← w1, ← wrap_succ (show i < 4611686018427387904 by omega)]; rfl, rfl, ⟨Mem.le_trans hu1 hu2, i + 1, rfl, by omega⟩, by simp only; omega⟩
 ·simp only [E.den, cF_lss] at hge
  have hge : (ns.length : Int) ≤ (i : Int) := hge
  obtain rfl : i = ns.length := by omega
  show _ ∧ Value.int .i64 (sumOf _ (ns.take ns.length)) = _
  rw [List.take_length]; exact ⟨rfl, rfl⟩
theorem sumB.cv (A : Option Addr) (c : Nat) (ns : List Nd) (m r : Int) (u : Mem) (hd : DiskAt u A ns) (hl : ns.length ≤ 1000000) (hs : ∀ n ∈ ns, n.f6.size ≤ 1000000000) :
  CV Tryz.prog 90 [.agg #[.slice A ns.length c, .int .i64 m, .int .i64 r], .func (.func 124) #[] #[]] [] u fun v cs _ => cs = [] ∧ v = .int .i64 (sumOf weightF ns) := by
 refine cv_of names draws (fn := Tryz.f90) (b := bodyOf Tryz.f90) rfl rfl [⟨2, [4, 10], []⟩] (sumB.args ((A, ns.length, c), m, r, ())) (sumB.giv _) (fun _ => 0) (sumB.run _) (by kernel_rfl) rfl rfl ?_
 have hb := sumOf_bound (w := weightF) (ns := ns) (fun n hn => ⟨weight_nn n, by have := hs n hn; unfold weightF; split <;> omega⟩)
 unfold sumB.T
 intro b1 hb1
 refine hold_loop (sk := [.i .i64, .i .i64]) (oks := []) (fun x _ u' => u.le u' ∧ ∃ i : Nat, x = (sumOf weightF (ns.take i), (i : Int), ()) ∧ i ≤ ns.length) (fun x _ => ((ns.length : Int) - x.2.1).toNat) (0, 0, ()) () rfl rfl ⟨Mem.le_refl u, 0, rfl, by omega⟩ ?_
 rintro x y u1 ⟨hu1, i, rfl, hi⟩
 refine ⟨fun hlt => ?_, fun hge => ?_⟩
 ·simp only [E.den, cT_lss] at hlt
  have hlt : (i : Int) < (ns.length : Int) := hlt
  have hil : i < ns.length := by omega
  obtain ⟨n, hx⟩ : ∃ n, ns[i]? = some n := ⟨_, List.getElem?_eq_getElem hil⟩
  obtain ⟨a7, c7, k1, k2, k3⟩ := hd i n hx
  have rx := k2.mono hu1
  have b1 : (0 : Int) ≤ (i : Int) ∧ (i : Int) < (ns.length : Int) ∧ A.isSome = true := ⟨by omega, hlt, rx.some⟩
  refine ⟨fun _ => b1, fun _ => ⟨n.row a7 c7, by show Reads u1 A ((i : Int).toNat * 8) _; rw [Int.toNat_natCast]; exact rx, fun b2 hb2 => ?_⟩, fun h => by cases h⟩
  refine hold_call ((nbytes.cv n a7 c7 u1).mono fun v cs u2 hu2 ⟨hc, hv⟩ => ⟨(weightF n, ()), (), hv, hc, by simp, ?_⟩)
  simp only [if_true]
  have e1 := sumOf_succ weightF ns i n hx
  have w1 : IntKind.i64.wrap (sumOf weightF (ns.take i) + (weightF n)) = sumOf weightF (ns.take (i + 1)) := by
   rw [e1]; have := hb (i + 1) (by omega); rw [e1] at this; rw [IntKind.wrap_i64] <;> omega
  exact ⟨(sumOf weightF (ns.take (i + 1)), ((i + 1 : Nat) : Int), ()), (), by rw [← w1, ← wrap_succ (show i < 4611686018427387904 by omega)]; rfl, rfl, ⟨Mem.le_trans hu1 hu2, i + 1, rfl, by omega⟩, by simp only; omega⟩
 ·simp only [E.den, cF_lss] at hge
  have hge : (ns.length : Int) ≤ (i : Int) := hge
  obtain rfl : i = ns.length := by omega
  show _ ∧ Value.int .i64 (sumOf _ (ns.take ns.length)) = _
  rw [List.take_length]; exact ⟨rfl, rfl⟩
theorem dused.cv (A : Option Addr) (c : Nat) (ns : List Nd) (m r : Int) (u : Mem) (hd : DiskAt u A ns) (hl : ns.length ≤ 1000000) :
  CV Tryz.prog 42 [.agg #[.slice A ns.length c, .int .i64 m, .int .i64 r]] [] u fun v cs _ => cs = [] ∧ v = .int .i64 (usedF ns) := by
 refine cv_of names draws (fn := Tryz.f42) (b := bodyOf Tryz.f42) rfl rfl [] (dused.args ((A, ns.length, c), m, r, ())) (dused.giv _) (fun _ => 0) (dused.run _) (by kernel_rfl) rfl rfl ?_
 unfold dused.T
 intro b1 hb1
 have e : ∀ l : List Nd, sumOf (fun n => if n.f0 = 0 then 0 else 1) l = usedF l := fun l => by
  induction l with
  | nil => rfl
  | cons n l ih =>
   unfold sumOf usedF at ih ⊢
   simp only [List.map_cons, List.sum_cons, ih]
   by_cases h : n.f0 = 0
   ·rw [if_pos h, List.filter_cons_of_neg (by simp [h])]; omega
   ·rw [if_neg h, List.filter_cons_of_pos (by simp [h]), List.length_cons]; omega
 exact hold_call ((sumU.cv A c ns m r u hd hl).mono fun v cs u1 hu1 ⟨hc, hv⟩ => ⟨((usedF ns : Int), ()), (), by rw [hv, e]; rfl, hc, rfl, rfl⟩)
theorem dbytes.cv (A : Option Addr) (c : Nat) (ns : List Nd) (m r : Int) (u : Mem) (hd : DiskAt u A ns) (hl : ns.length ≤ 1000000) (hs : ∀ n ∈ ns, n.f6.size ≤ 1000000000) :
  CV Tryz.prog 123 [.agg #[.slice A ns.length c, .int .i64 m, .int .i64 r]] [] u fun v cs _ => cs = [] ∧ v = .int .i64 (bytesF ns) := by
 refine cv_of names draws (fn := Tryz.f123) (b := bodyOf Tryz.f123) rfl rfl [] (dbytes.args ((A, ns.length, c), m, r, ())) (dbytes.giv _) (fun _ => 0) (dbytes.run _) (by kernel_rfl) rfl rfl ?_
 unfold dbytes.T
 intro b1 hb1
 exact hold_call ((sumB.cv A c ns m r u hd hl hs).mono fun v cs u1 hu1 ⟨hc, hv⟩ => ⟨(bytesF ns, ()), (), hv, hc, rfl, rfl⟩)
theorem add1.cv (n : Nd) (A : Option Addr) (c : Nat) (u : Mem) : CV Tryz.prog 126 [.agg (cv K0 (n.row A c)).toArray] [] u fun v cs _ => cs = [] ∧ v = .bool (decide (n.f0 = 0)) := by
 refine cv_of names draws (fn := Tryz.f126) (b := bodyOf Tryz.f126) rfl rfl [] (add1.args (n.row A c)) (add1.giv _) (fun _ => 0) (add1.run _) (by kernel_rfl) rfl rfl ?_
 unfold add1.T
 intro b1 hb1
 refine ⟨rfl, ?_⟩
 simp only [SV.den, E.den, cD_eql]; rfl
def freeF (ns : List Nd) : Int := match ns.findIdx? (fun n => decide (n.f0 = 0)) with | some i => i | none => -1
theorem idxf.cv (A : Option Addr) (c : Nat) (ns : List Nd) (u : Mem) (hd : DiskAt u A ns) (hl : ns.length ≤ 1000000) :
  CV Tryz.prog 125 [.slice A ns.length c, .func (.func 126) #[] #[]] [] u fun v cs _ => cs = [] ∧ v = .int .i64 (freeF ns) := by
 refine cv_of names draws (fn := Tryz.f125) (b := bodyOf Tryz.f125) rfl rfl [⟨2, [8], []⟩] (idxf.args ((A, ns.length, c), ())) (idxf.giv _) (fun _ => 0) (idxf.run _) (by kernel_rfl) rfl rfl ?_
 unfold idxf.T
 refine hold_count ns.length (fun i u' => u.le u' ∧ ∀ (k : Nat) n, k < i → ns[k]? = some n → ¬ n.f0 = 0) ⟨Mem.le_refl u, fun k n h => by omega⟩ ?_
 rintro i u1 hi ⟨hu1, hI⟩
 refine ⟨fun hlt => ?_, fun hge => ?_⟩
 ·simp only [E.den, cT_lss] at hlt
  have hlt : (i : Int) < (ns.length : Int) := hlt
  have hil : i < ns.length := by omega
  obtain ⟨n, hx⟩ : ∃ n, ns[i]? = some n := ⟨_, List.getElem?_eq_getElem hil⟩
  obtain ⟨a7, c7, k1, k2, k3⟩ := hd i n hx
  have rx := k2.mono hu1
  have b1 : (0 : Int) ≤ (i : Int) ∧ (i : Int) < (ns.length : Int) ∧ A.isSome = true := ⟨by omega, hlt, rx.some⟩
  refine ⟨fun _ => b1, fun _ => ⟨n.row a7 c7, by show Reads u1 A ((i : Int).toNat * 8) _; rw [Int.toNat_natCast]; exact rx, ?_⟩, fun h => by cases h⟩
  refine hold_call ((add1.cv n a7 c7 u1).mono fun v cs u2 hu2 ⟨hc, hv⟩ => ⟨(decide (n.f0 = 0), ()), (), hv, hc, fun h => ?_, fun h => ⟨by simp, ?_⟩⟩)
  ·have h : n.f0 = 0 := of_decide_eq_true h
   have : ns.findIdx? (fun n => decide (n.f0 = 0)) = some i := by
    rw [List.findIdx?_eq_some_iff_getElem]
    obtain ⟨g, rfl⟩ := List.getElem?_eq_some_iff.1 hx
    exact ⟨g, by simpa using h, fun j hj => by simpa using hI j ns[j] hj (List.getElem?_eq_getElem (by omega))⟩
   unfold freeF
   rw [this]; exact ⟨rfl, rfl⟩
  ·have h : ¬ n.f0 = 0 := of_decide_eq_false h
   simp only [if_true]
   refine ⟨by rw [← wrap_succ (show i < 4611686018427387904 by omega)]; rfl, rfl, hil, Mem.le_trans hu1 hu2, fun k y hk hy => ?_⟩
   rcases Nat.lt_or_ge k i with h1 | h1
   ·exact hI k y h1 hy
   ·obtain rfl : k = i := by omega
    rw [hx] at hy; cases hy; exact h
 ·simp only [E.den, cF_lss] at hge
  have hge : (ns.length : Int) ≤ (i : Int) := hge
  obtain rfl : i = ns.length := by omega
  have : ns.findIdx? (fun n => decide (n.f0 = 0)) = none := by
   rw [List.findIdx?_eq_none_iff]
   intro x hx
   obtain ⟨k, hk⟩ := List.getElem?_of_mem hx
   have := hI k x (List.getElem?_eq_some_iff.1 hk).1 hk
   simpa using this
  unfold freeF
  rw [this]; exact ⟨rfl, rfl⟩
theorem Mem.le_set {v u : Mem} {b o : Nat} {vs : List Value} (h : v.le u) (hb : ∀ o, v b o = none) : v.le (u.set b o vs) := fun k i x hx => by
 have hk : ¬ k = b := fun e => by rw [e, hb] at hx; cases hx
 unfold Mem.set
 rw [if_neg (fun h => hk h.1)]; exact h _ _ _ hx
theorem Grow.put {v u : Mem} {s : Option Addr × Nat × Nat} {size : Nat} {es : List Value} (h : Grow v u s size es) {i : Nat} {vs : List Value} (hi : i < s.2.1) (hsz : 0 < size) (hvs : vs.length = size) :
  ∃ b, s.1 = some ⟨b, 0, none⟩ ∧ (∀ o, v b o = none) ∧ (∀ j, j < size → u b (0 + i * size + j) ≠ none) ∧ Grow v (u.set b (0 + i * size) vs) s size (es.take (i * size) ++ vs ++ es.drop (i * size + size)) := by
 have hle : i * size + size ≤ es.length := by rw [h.len, ← Nat.succ_mul]; exact Nat.mul_le_mul_right _ hi
 rcases h.at_ with ⟨h1, h2⟩ | ⟨b, sp, h1, h2, h3, h4⟩
 ·have := h.cap; omega
 refine ⟨b, h1, h2, fun j hj => ?_, Mem.le_set h.le h2, ?_, h.cap, .inr ⟨b, sp, h1, h2, fun j x hx => ?_, ?_⟩⟩
 ·rw [h3 (0 + i * size + j) _ (List.getElem?_eq_getElem (by rw [List.length_append]; omega))]; simp
 ·rw [← h.len]; simp only [List.length_append, List.length_take, List.length_drop]; omega
 ·have e : es.take (i * size) ++ vs ++ es.drop (i * size + size) ++ sp = (es ++ sp).take (i * size) ++ vs ++ (es ++ sp).drop (i * size + size) := by
   rw [List.take_append_of_le_length (by omega), List.drop_append_of_le_length hle]; simp [List.append_assoc]
  rw [e] at hx
  have ht : ((es ++ sp).take (i * size)).length = i * size := by rw [List.length_take, List.length_append]; omega
  unfold Mem.set
  rw [Nat.zero_add]
  split
  ·rename_i hin
   rw [List.append_assoc, List.getElem?_append_right (by omega), List.getElem?_append_left (by omega), ht] at hx
   exact hx
  ·rename_i hin
   refine h3 j x ?_
   rcases Nat.lt_or_ge j (i * size) with h5 | h5
   ·rw [List.append_assoc, List.getElem?_append_left (by omega), List.getElem?_take, if_pos h5] at hx; exact hx
   ·have h6 : i * size + vs.length ≤ j := by
     rcases Nat.lt_or_ge j (i * size + vs.length) with h7 | h7
     ·exact absurd ⟨rfl, h5, h7⟩ hin
     ·exact h7
    rw [List.append_assoc, List.getElem?_append_right (by omega), List.getElem?_append_right (by omega), List.getElem?_drop, ht] at hx
    rwa [show i * size + size + (j - i * size - vs.length) = j by omega] at hx
 ·rw [← h4]; simp only [List.length_append, List.length_take, List.length_drop]; omega
theorem NsC.set {v : Mem} {l : List Nd} {es : List Value} {i : Nat} {n : Nd} {a7 : Option Addr} {c7 : Nat} (h : NsC v l es) (hi : i < l.length) (h1 : n.f7.length ≤ c7) (h2 : EntAt v a7 n.f7) : NsC v (l.set i n) (es.take (i * 8) ++ Sx.cv K0 (n.row a7 c7) ++ es.drop (i * 8 + 8)) := by
 have h8 : (Sx.cv K0 (n.row a7 c7)).length = 8 := rfl
 have hl := h.len
 have ht : (es.take (i * 8)).length = i * 8 := by rw [List.length_take]; omega
 refine ⟨by simp only [List.length_append, List.length_take, List.length_drop, List.length_set, h8]; omega, fun j x hj => ?_⟩
 rw [List.getElem?_set] at hj
 split at hj
 ·rename_i hij
  subst hij
  first | (cases hj) | (rw [if_pos hi] at hj; cases hj)
  refine ⟨a7, c7, h1, fun k y hy => ?_, h2⟩
  have hk : k < 8 := (List.getElem?_eq_some_iff.1 hy).1
  rw [List.append_assoc, List.getElem?_append_right (by omega), List.getElem?_append_left (by rw [h8]; omega), ht, Nat.add_sub_cancel_left]; exact hy
 ·rename_i hij
  obtain ⟨b7, d7, g1, g2, g3⟩ := h.at_ j x hj
  refine ⟨b7, d7, g1, fun k y hy => ?_, g3⟩
  have hk : k < 8 := (List.getElem?_eq_some_iff.1 hy).1
  have := g2 k y hy
  rcases Nat.lt_or_ge j i with h5 | h5
  ·rw [List.append_assoc, List.getElem?_append_left (by omega), List.getElem?_take, if_pos (by omega)]; exact this
  ·rw [List.append_assoc, List.getElem?_append_right (by omega), List.getElem?_append_right (by rw [h8]; omega), List.getElem?_drop, ht, h8]
   rwa [show i * 8 + 8 + (j * 8 + k - i * 8 - 8) = j * 8 + k by omega]
theorem dset.cv (A : Option Addr) (c : Nat) (ns : List Nd) (m r i : Int) (n : Nd) (a7 : Option Addr) (c7 : Nat) (u : Mem) (hd : DiskAt u A ns) (hn : EntAt u a7 n.f7) (h7 : n.f7.length ≤ c7) (hl : ns.length ≤ 1000000) :
  CV Tryz.prog 103 [.agg #[.slice A ns.length c, .int .i64 m, .int .i64 r], .int .i64 i, .agg (cv K0 (n.row a7 c7)).toArray] [] u fun v cs u' => cs = [] ∧ ∃ A' c', v = .agg #[.slice A' (setL ns i n).length c', .int .i64 m, .int .i64 r] ∧ DiskAt u' A' (setL ns i n) := by
 refine cv_of names draws (fn := Tryz.f103) (b := bodyOf Tryz.f103) rfl rfl [] (dset.args ((A, ns.length, c), m, r, ()) (i, ()) (n.row a7 c7)) (dset.giv _ _ _) (fun _ => 0) (dset.run _ _ _) (by kernel_rfl) rfl rfl ?_
 unfold dset.T
 intro b1 hb1 b2 hb2 b3 hb3
 have w1 : IntKind.i64.wrap ((ns.length : Int) - 1) = (ns.length : Int) - 1 := by rw [IntKind.wrap_i64] <;> omega
 have hbt := betw.cv i 0 ((ns.length : Int) - 1) u
 rw [← w1] at hbt
 refine hold_call (hbt.mono fun v cs u1 hu1 ⟨hc, hv⟩ => ⟨(decide (0 ≤ i ∧ i ≤ IntKind.i64.wrap ((ns.length : Int) - 1)), ()), (), hv, hc, fun h => ?_, fun h => ?_⟩)
 ·have h := of_decide_eq_true h
  rw [w1] at h
  have hin : 0 ≤ i ∧ i < (ns.length : Int) := ⟨h.1, by omega⟩
  have e1 : setL ns i n = ns.set i.toNat n := by unfold setL; rw [if_pos hin]
  refine hold_call ((cloneN.cv A c ns u1 (hd.mono hu1) hl).mono fun v cs u2 hu2 ⟨hc2, s, es, hv2, hs, hg, hN⟩ => ⟨(s, ()), (), hv2, hc2, ?_⟩)
  obtain ⟨sa, sn, sc⟩ := s
  have hs : sn = ns.length := hs
  subst hs
  obtain ⟨b, q1, q2, q3, q4⟩ := hg.put (i := i.toNat) (vs := Sx.cv K0 (n.row a7 c7)) (by show i.toNat < ns.length; omega) (by decide) rfl
  refine ⟨fun _ => (⟨hin.1, hin.2, by show sa.isSome = true; rw [show sa = _ from q1]; rfl⟩ : 0 ≤ i ∧ i < (ns.length : Int) ∧ sa.isSome = true), b, 0, q1, fun o => ?_, fun j hj => q3 j hj, rfl, sa, sc, ?_, ?_⟩
  ·cases hx : u b o with
   | none => rfl
   | some x => have := hu1 _ _ _ hx; rw [q2] at this; cases this
  ·rw [setL_len]; rfl
  ·rw [e1]; exact grow_disk q4 (hN.set (by omega) h7 (hn.mono hu1))
 ·have h := of_decide_eq_false h
  rw [w1] at h
  have e1 : setL ns i n = ns := by unfold setL; rw [if_neg (by omega)]
  rw [e1]
  exact ⟨rfl, A, c, rfl, hd.mono hu1⟩
theorem dsettle.cv (A : Option Addr) (c : Nat) (ns : List Nd) (m r i : Int) (u : Mem) (hd : DiskAt u A ns) (hl : ns.length ≤ 1000000) :
  CV Tryz.prog 100 [.agg #[.slice A ns.length c, .int .i64 m, .int .i64 r], .int .i64 i] [] u fun v cs u' => cs = [] ∧ ∃ A' c', v = .agg #[.slice A' (settleF ns i).length c', .int .i64 m, .int .i64 r] ∧ DiskAt u' A' (settleF ns i) := by
 refine cv_of names draws (fn := Tryz.f100) (b := bodyOf Tryz.f100) rfl rfl [] (dsettle.args ((A, ns.length, c), m, r, ()) (i, ())) (dsettle.giv _ _) (fun _ => 0) (dsettle.run _ _) (by kernel_rfl) rfl rfl ?_
 unfold dsettle.T
 intro b1 hb1 b2 hb2
 refine hold_call ((get.cv A c ns m r i u hd hl).mono fun v cs u1 hu1 ⟨hc, a7, c7, hv, _, _⟩ => ⟨((getL ns i).f0, (getL ns i).f1, (getL ns i).f2, (getL ns i).f3, (getL ns i).f4, (getL ns i).f5, (getL ns i).f6, (a7, (getL ns i).f7.length, c7), getB ns i, ()), (), hv, hc, fun b3 hb3 => ?_⟩)
 have hcnd : (bif bif bif getB ns i then cmpI .neq i 0 else false then cmpI .lss (getL ns i).f3 1 else false then cmpI .lss (getL ns i).f4 1 else false) = decide (getB ns i = true ∧ ¬ i = 0 ∧ (getL ns i).f3 < 1 ∧ (getL ns i).f4 < 1) := by
  rw [cD_neq, cD_lss, cD_lss]
  cases getB ns i
  ·simp
  ·rw [Bool.eq_iff_iff]; simp [and_assoc]
 refine ⟨fun h => ?_, fun h => ?_⟩
 ·have h := hcnd.symm.trans h
  have h := of_decide_eq_true h
  unfold settleF
  rw [if_pos h]
  exact hold_call ((dset.cv A c ns m r i zNd none 0 u1 (hd.mono hu1) (fun i e hi => by simp [zNd] at hi) (Nat.zero_le _) hl).mono fun v cs u2 hu2 ⟨hc2, A', c', hv2, hd2⟩ => ⟨((A', (setL ns i zNd).length, c'), m, r, ()), (), hv2, hc2, rfl, A', c', rfl, hd2⟩)
 ·have h := hcnd.symm.trans h
  have h := of_decide_eq_false h
  unfold settleF
  rw [if_neg h]
  exact ⟨rfl, A, c, rfl, hd.mono hu1⟩
theorem bytesF_bound {ns : List Nd} (hs : ∀ n ∈ ns, n.f6.size ≤ 1000000000) : 0 ≤ bytesF ns ∧ bytesF ns ≤ ns.length * 1000000000 := by
 have := sumOf_bound (w := weightF) (ns := ns) (fun n hn => ⟨weight_nn n, by have := hs n hn; unfold weightF; split <;> omega⟩) ns.length (Nat.le_refl _)
 rwa [List.take_length] at this
theorem set_last (ns : List Nd) (z n : Nd) : setL (ns ++ [z]) (ns.length : Int) n = ns ++ [n] := by
 unfold setL
 rw [if_pos ⟨by omega, by rw [List.length_append]; simp only [List.length_cons, List.length_nil]; omega⟩, Int.toNat_natCast, List.set_append_right _ _ (Nat.le_refl _), Nat.sub_self]; rfl
set_option maxHeartbeats 1000000 in
theorem dadd.cv (A : Option Addr) (c : Nat) (ns : List Nd) (m r : Int) (n : Nd) (a7 : Option Addr) (c7 : Nat) (u : Mem) (hd : DiskAt u A ns) (hn : EntAt u a7 n.f7) (h7 : n.f7.length ≤ c7) (hl : ns.length ≤ 100000) (hs : ∀ n ∈ ns, n.f6.size ≤ 1000000000) (h6 : n.f6.size ≤ 1000000000) :
  CV Tryz.prog 107 [.agg #[.slice A ns.length c, .int .i64 m, .int .i64 r], .agg (cv K0 (n.row a7 c7)).toArray] [] u fun v cs u' => cs = [] ∧ ∃ A' c', v = .tuple #[.agg #[.slice A' (addF ns m r n).1.length c', .int .i64 m, .int .i64 r], .int .i64 (addF ns m r n).2.1, .int .i64 (addF ns m r n).2.2] ∧ DiskAt u' A' (addF ns m r n).1 := by
 refine cv_of names draws (fn := Tryz.f107) (b := bodyOf Tryz.f107) rfl rfl [] (dadd.args ((A, ns.length, c), m, r, ()) (n.row a7 c7)) (dadd.giv _ _) (fun _ => 0) (dadd.run _ _) (by kernel_rfl) rfl rfl ?_
 have hbb := bytesF_bound hs
 have hwn := weight_nn n
 have hwb : weightF n ≤ 1000000000 := by unfold weightF; split <;> omega
 unfold dadd.T
 intro b1 hb1 b2 hb2 b3 hb3
 refine hold_call ((dused.cv A c ns m r u hd (by omega)).mono fun v cs u1 hu1 ⟨hc, hv⟩ => ⟨((usedF ns : Int), ()), (), hv, hc, ?_⟩)
 have hg0 : ∀ b : Bool, E.den (.not (.cmp .geq (.at (usedF ns : Int)) (.at m)) : E S.ty .B) = b → decide (¬ m ≤ (usedF ns : Int)) = b := fun b hb => by
  rw [← hb]; show _ = !cmpI .geq (usedF ns : Int) m
  rw [cD_geq, bNot]
 refine hold_callg (fun xs _ u2 => u.le u2 ∧ (¬ m ≤ (usedF ns : Int) → xs.1 = bytesF ns)) (fun hg => (dbytes.cv A c ns m r u1 (hd.mono hu1) (by omega) hs).mono' fun v cs u2 hu2 ⟨hc, hv⟩ => ⟨(bytesF ns, ()), (), hv, hc, Mem.le_trans hu1 hu2, fun _ => rfl⟩) (fun hg => ⟨hu1, fun h => absurd h (of_decide_eq_false (hg0 _ hg))⟩) ?_
 rintro ⟨x1, _⟩ _ u2 ⟨hu2, hx1⟩
 refine hold_callg (fun xs _ u3 => u.le u3 ∧ (¬ m ≤ (usedF ns : Int) → xs.1 = weightF n)) (fun hg => (nbytes.cv n a7 c7 u2).mono' fun v cs u3 hu3 ⟨hc, hv⟩ => ⟨(weightF n, ()), (), hv, hc, Mem.le_trans hu2 hu3, fun _ => rfl⟩) (fun hg => ⟨hu2, fun h => absurd h (of_decide_eq_false (hg0 _ hg))⟩) ?_
 rintro ⟨x2, _⟩ _ u3 ⟨hu3, hx2⟩
 have hcnd : (bif cmpI .geq (usedF ns : Int) m then true else cmpI .gtr (IntKind.i64.wrap (x1 + x2)) r) = decide (m ≤ (usedF ns : Int) ∨ r < bytesF ns + weightF n) := by
  rw [cD_geq, cD_gtr]
  by_cases h : m ≤ (usedF ns : Int)
  ·simp [h]
  ·rw [show x1 = bytesF ns from hx1 h, show x2 = weightF n from hx2 h, show IntKind.i64.wrap (bytesF ns + weightF n) = bytesF ns + weightF n by rw [IntKind.wrap_i64] <;> omega]
   simp [h]
 refine ⟨fun h => ?_, fun h => ?_⟩
 ·have h := of_decide_eq_true (hcnd.symm.trans h)
  unfold addF
  rw [if_pos h]
  exact ⟨rfl, A, c, rfl, hd.mono hu3⟩
 have h := of_decide_eq_false (hcnd.symm.trans h)
 unfold addF
 rw [if_neg h]
 refine hold_call ((idxf.cv A c ns u3 (hd.mono hu3) (by omega)).mono fun v cs u4 hu4 ⟨hc, hv⟩ => ⟨(freeF ns, ()), (), hv, hc, ?_⟩)
 have hu04 := Mem.le_trans hu3 hu4
 cases hf : ns.findIdx? (fun n => decide (n.f0 = 0)) with
 | some i =>
  have e1 : freeF ns = (i : Int) := by unfold freeF; rw [hf]
  have hil : i < ns.length := by
   rw [List.findIdx?_eq_some_iff_getElem] at hf; exact hf.1
  have e2 : setL ns (i : Int) n = ns.set i n := by unfold setL; rw [if_pos (by omega), Int.toNat_natCast]
  rw [e1]
  refine ⟨fun h => ?_, fun h => ?_⟩
  ·simp only [E.den, cT_lss] at h
   have h : (i : Int) < 0 := h
   omega
  ·have hds := dset.cv A c ns m r (i : Int) n a7 c7 u4 (hd.mono hu04) (hn.mono hu04) h7 (by omega)
   rw [e2] at hds
   exact hold_call (hds.mono fun v cs u5 hu5 ⟨hc2, A', c', hv2, hd2⟩ => ⟨((A', (ns.set i n).length, c'), m, r, ()), (), hv2, hc2, rfl, A', c', rfl, hd2⟩)
 | none =>
  have e1 : freeF ns = -1 := by unfold freeF; rw [hf]
  rw [e1]
  refine ⟨fun h => ?_, fun h => ?_⟩
  ·refine hold_call ((cloneN.cv A c ns u4 (hd.mono hu04) (by omega)).mono fun v cs u5 hu5 ⟨hc2, s, es, hv2, hs2, hg, hN⟩ => ⟨(s, ()), (), hv2, hc2, fun b4 hb4 => ?_⟩)
   refine ⟨fun _ u6 h6 hw => ?_, fun h => by cases h⟩
   have hw' := hw _ (List.mem_singleton.2 rfl)
   refine (bv_one (P := Tryz.prog) (t := 22) (ty := 22) (e := 53) (z := .agg #[.int .i64 0, .int .i64 0, .int .i64 0, .int .i64 0, .int .i64 0, .int .i64 0, .string ⟨#[]⟩, .slice none 0 0]) (size := 8) (bytes := 88) (by kernel_rfl) (by kernel_rfl) rfl (by decide) (u0 := u) (b := b4) (ys := Sx.cv K0 (zNd.row none 0)) hu04 hg h6 hw' rfl
    (by intro y hy; simp only [Nd.row, Sx.cv, List.mem_cons, List.mem_nil_iff, or_false] at hy; rcases hy with rfl | rfl | rfl | rfl | rfl | rfl | rfl | rfl <;> rfl) (by omega) (by omega)).mono fun v u7 ⟨s', hv', hs', hg'⟩ => ⟨(s', ()), hv', ?_⟩
   obtain ⟨sa, sn, sc⟩ := s'
   have hsn : sn = (ns ++ [zNd]).length := by rw [List.length_append]; show sn = ns.length + 1; rw [← hs2]; exact hs'
   subst hsn
   have hD := grow_disk hg' (hN.snoc (n := zNd) (a7 := none) (c7 := 0) (Nat.zero_le _) (fun i e hi => by simp [zNd] at hi))
   have hu7 : u.le u7 := Mem.le_trans hu04 hg'.le
   have hds := dset.cv sa sc (ns ++ [zNd]) m r (ns.length : Int) n a7 c7 u7 hD (hn.mono hu7) h7 (by rw [List.length_append]; simp only [List.length_cons, List.length_nil]; omega)
   rw [set_last] at hds
   exact hold_call (hds.mono fun v cs u8 hu8 ⟨hc3, A', c', hv3, hd3⟩ => ⟨((A', (ns ++ [n]).length, c'), m, r, ()), (), hv3, hc3, rfl, A', c', rfl, hd3⟩)
  ·simp only [E.den, cF_lss] at h
   have h : (0 : Int) ≤ -1 := h
   omega
end Go.Proofs.YtpfbimkpcnnfkaaGreatDoor.Sx
set_option maxRecDepth 100000
set_option linter.unusedVariables false
set_option linter.unusedSimpArgs false
namespace Go.Proofs.YtpfbimkpcnnfkaaGreatDoor.Sx
open Go Go.RowKit Go.Proofs.YtpfbimkpcnnfkaaGreatDoor Go.Proofs.YtpfbimkpcnnfkaaGreatDoor.Ext
def putF (l : List En) (e : En) : List En := l.filter (fun x => decide (ord x e.f0 < 0)) ++ [e] ++ l.filter (fun x => decide (0 < ord x e.f0))
def dropF (l : List En) (name : ByteArray) : List En := l.filter (fun x => decide (¬ ord x name = 0))
theorem place_lt {l : List En} {name : ByteArray} {i : Nat} (hP : PlaceIs l name i) : l.filter (fun x => decide (ord x name < 0)) = l.take i := by
 obtain ⟨h1, h2, h3⟩ := hP
 conv => lhs; rw [← List.take_append_drop i l]
 rw [List.filter_append, List.filter_eq_self.2, List.filter_eq_nil_iff.2, List.append_nil]
 ·intro x hx
  obtain ⟨k, hk⟩ := List.getElem?_of_mem hx
  rw [List.getElem?_drop] at hk
  have := h3 (i + k) x (by omega) hk
  simp only [decide_eq_true_eq]; omega
 ·intro x hx
  obtain ⟨k, hk⟩ := List.getElem?_of_mem hx
  rw [List.getElem?_take] at hk
  split at hk
  ·rename_i hki
   have := h2 k x hki hk
   simpa using this
  ·cases hk
theorem place_gt {l : List En} {name : ByteArray} {i : Nat} (hR : Rising l) (hP : PlaceIs l name i) : l.filter (fun x => decide (0 < ord x name)) = if atB l name i = true then l.drop (i + 1) else l.drop i := by
 obtain ⟨h1, h2, h3⟩ := hP
 have ht : (l.take i).filter (fun x => decide (0 < ord x name)) = [] := List.filter_eq_nil_iff.2 fun x hx => by
  obtain ⟨k, hk⟩ := List.getElem?_of_mem hx
  rw [List.getElem?_take] at hk
  split at hk
  ·rename_i hki
   have := h2 k x hki hk
   simp only [decide_eq_true_eq]; omega
  ·cases hk
 have hd : (l.drop (i + 1)).filter (fun x => decide (0 < ord x name)) = l.drop (i + 1) := List.filter_eq_self.2 fun y hy => by
  obtain ⟨k, hk⟩ := List.getElem?_of_mem hy
  rw [List.getElem?_drop] at hk
  have hy0 := h3 (i + 1 + k) y (by omega) hk
  obtain ⟨x, hx⟩ : ∃ x, l[i]? = some x := ⟨_, List.getElem?_eq_getElem (by have := (List.getElem?_eq_some_iff.1 hk).1; omega)⟩
  have hx0 := h3 i x (Nat.le_refl _) hx
  have hxy := hR.lt k i x y hx (by rw [show i + k + 1 = i + 1 + k by omega]; exact hk)
  simp only [decide_eq_true_eq]
  rcases Int.lt_or_eq_of_le hy0 with h | h
  ·exact h
  ·have e := (cmp_zero _ _).1 h.symm
   have := (cmp_neg _ _).2 (e ▸ hxy : Op.bytesLess x.f0.data.toList name.data.toList = true)
   unfold ord at hx0; omega
 conv => lhs; rw [← List.take_append_drop i l]
 rw [List.filter_append, ht, List.nil_append]
 rcases Nat.lt_or_ge i l.length with hil | hil
 ·rw [List.drop_eq_getElem_cons hil]
  have hx0 := h3 i l[i] (Nat.le_refl _) (List.getElem?_eq_getElem hil)
  have hat : atB l name i = (ord l[i] name == 0) := by unfold atB; rw [List.getElem?_eq_getElem hil]
  rw [hat]
  by_cases h : ord l[i] name = 0
  ·rw [List.filter_cons_of_neg (by simp [h]), hd, if_pos (by simpa using h)]
  ·rw [List.filter_cons_of_pos (by simp only [decide_eq_true_eq]; omega), hd, if_neg (by simpa using h)]
 ·rw [List.drop_of_length_le hil, List.drop_of_length_le (by omega)]; simp
theorem drop_put (l : List En) (name : ByteArray) {i : Nat} (hR : Rising l) (hP : PlaceIs l name i) : dropF l name = l.take i ++ if atB l name i = true then l.drop (i + 1) else l.drop i := by
 rw [← place_gt hR hP]
 unfold dropF
 obtain ⟨h1, h2, h3⟩ := hP
 conv => lhs; rw [← List.take_append_drop i l]
 conv => rhs; rw [show l.filter (fun x => decide (0 < ord x name)) = (l.take i ++ l.drop i).filter (fun x => decide (0 < ord x name)) by rw [List.take_append_drop]]
 rw [List.filter_append, List.filter_append]
 have e1 : (l.take i).filter (fun x => decide (¬ ord x name = 0)) = l.take i := List.filter_eq_self.2 fun x hx => by
  obtain ⟨k, hk⟩ := List.getElem?_of_mem hx
  rw [List.getElem?_take] at hk
  split at hk
  ·rename_i hki
   have := h2 k x hki hk
   simp only [decide_eq_true_eq]; omega
  ·cases hk
 have e2 : (l.take i).filter (fun x => decide (0 < ord x name)) = [] := List.filter_eq_nil_iff.2 fun x hx => by
  obtain ⟨k, hk⟩ := List.getElem?_of_mem hx
  rw [List.getElem?_take] at hk
  split at hk
  ·rename_i hki
   have := h2 k x hki hk
   simp only [decide_eq_true_eq]; omega
  ·cases hk
 rw [e1, e2, List.nil_append]
 congr 1
 refine List.filter_congr fun x hx => ?_
 obtain ⟨k, hk⟩ := List.getElem?_of_mem hx
 rw [List.getElem?_drop] at hk
 have := h3 (i + k) x (by omega) hk
 rw [Bool.eq_iff_iff]; simp only [decide_eq_true_eq]; omega
theorem splE.cv (A a : Option Addr) (c c2 : Nat) (l es2 : List En) (i j : Nat) (u : Mem) (hd : EntAt u A l) (hr : EntAt u a es2) (hij : i ≤ j) (hj : j ≤ l.length) (hm : i = j ∨ es2.length ≤ j - i) (hl : l.length + es2.length ≤ 1000000) :
  CV Tryz.prog 121 [.slice A l.length c, .int .i64 i, .int .i64 j, .slice a es2.length c2] [] u fun v cs u' => cs = [] ∧ ∃ s' : Option Addr × Nat × Nat, v = .slice s'.1 s'.2.1 s'.2.2 ∧ s'.2.1 = (l.take i ++ es2 ++ l.drop j).length ∧ Grow u u' s' 2 (entC (l.take i ++ es2 ++ l.drop j)) := by
 refine cv_of names draws (fn := Tryz.f121) (b := bodyOf Tryz.f121) rfl rfl [] (splE.args ((A, l.length, c), ()) (i, ()) (j, ()) ((a, es2.length, c2), ())) (splE.giv _ _ _ _) (fun _ => 0) (splE.run _ _ _ _) (by kernel_rfl) rfl rfl ?_
 unfold splE.T
 refine hold_call ((cloneE.cv A c l u hd (by omega)).mono fun v cs u1 hu1 ⟨hc, s, hv, hs, hg⟩ => ⟨(s, ()), (), hv, hc, ?_⟩)
 exact hold_call ((repE.cg (Mem.le_refl u) hg hs hr hij hj hm hl).mono fun r cs u2 _ ⟨hc2, s', h1, h2, h3⟩ => ⟨(s', ()), (), h1, hc2, rfl, s', rfl, h2, h3⟩)
theorem one_at {u : Mem} {b : Nat} {e : En} (h : ∀ (j : Nat) v, ([.string e.f0, .int .i64 e.f1] : List Value)[j]? = some v → u b j = some v) : EntAt u (some ⟨b, 0, none⟩) [e] := fun i x hx => by
 have hi : i = 0 := by have := (List.getElem?_eq_some_iff.1 hx).1; simp only [List.length_cons, List.length_nil] at this; omega
 subst hi
 simp only [List.getElem?_cons_zero, Option.some.injEq] at hx
 subst hx
 exact ⟨b, 0, rfl, fun j v hj => by rw [show 0 + 0 * 2 + j = j by omega]; exact h j v hj⟩
theorem eput.cv (A : Option Addr) (c : Nat) (l : List En) (e : En) (u : Mem) (hd : EntAt u A l) (hl : l.length ≤ 100000) (hR : Rising l) :
  CV Tryz.prog 102 [.slice A l.length c, .agg #[.string e.f0, .int .i64 e.f1]] [] u fun v cs u' => cs = [] ∧ ∃ s' : Option Addr × Nat × Nat, v = .slice s'.1 s'.2.1 s'.2.2 ∧ s'.2.1 = (putF l e).length ∧ Grow u u' s' 2 (entC (putF l e)) := by
 refine cv_of names draws (fn := Tryz.f102) (b := bodyOf Tryz.f102) rfl rfl [] (eput.args ((A, l.length, c), ()) (e.f0, e.f1, ())) (eput.giv _ _) (fun _ => 0) (eput.run _ _) (by kernel_rfl) rfl rfl ?_
 unfold eput.T
 intro b1 hb1
 refine hold_call ((place.cv A c l e.f0 u hd (by omega) (hR.sorted e.f0).lt).mono fun v cs u1 hu1 ⟨hc, i, hP, hv⟩ => ⟨((i : Int), atB l e.f0 i, ()), (), hv, hc, ?_⟩)
 have hi := hP.1
 have w1 : IntKind.i64.wrap ((i : Int) + 1) = ((i + 1 : Nat) : Int) := wrap_succ (by omega)
 have e1 := place_lt hP
 have e2 := place_gt hR hP
 refine ⟨fun h => ?_, fun h => ?_⟩
 ·have h : atB l e.f0 i = true := h
  intro b2 hb2
  have hil : i < l.length := by
   unfold atB at h
   split at h
   ·rename_i x hx; exact (List.getElem?_eq_some_iff.1 hx).1
   ·cases h
  refine ⟨fun _ u2 hu2 hw => ?_, fun h => by cases h⟩
  have h1 := one_at (hw _ (List.mem_singleton.2 rfl))
  have := splE.cv A (some ⟨b2, 0, none⟩) c 1 l [e] i (i + 1) u2 (hd.mono (Mem.le_trans hu1 hu2)) h1 (by omega) (by omega) (.inr (by show 1 ≤ i + 1 - i; omega)) (by show l.length + 1 ≤ _; omega)
  rw [← w1] at this
  refine CV.mono this fun v cs u3 hu3 ⟨hc, s', hv, hs, hg⟩ => ⟨(s', ()), (), hv, hc, rfl, s', rfl, ?_, ?_⟩
  ·rw [hs]; unfold putF; rw [e1, e2, if_pos h]
  ·unfold putF; rw [e1, e2, if_pos h]; exact hg.down (Mem.le_trans hu1 hu2)
 ·have h : atB l e.f0 i = false := h
  intro b2 hb2
  refine ⟨fun _ u2 hu2 hw => ?_, fun h => by cases h⟩
  have h1 := one_at (hw _ (List.mem_singleton.2 rfl))
  have := splE.cv A (some ⟨b2, 0, none⟩) c 1 l [e] i i u2 (hd.mono (Mem.le_trans hu1 hu2)) h1 (by omega) (by omega) (.inl rfl) (by show l.length + 1 ≤ _; omega)
  refine CV.mono this fun v cs u3 hu3 ⟨hc, s', hv, hs, hg⟩ => ⟨(s', ()), (), hv, hc, rfl, s', rfl, ?_, ?_⟩
  ·rw [hs]; unfold putF; rw [e1, e2, if_neg (by rw [h]; simp)]
  ·unfold putF; rw [e1, e2, if_neg (by rw [h]; simp)]; exact hg.down (Mem.le_trans hu1 hu2)
theorem edrop.cv (A : Option Addr) (c : Nat) (l : List En) (name : ByteArray) (u : Mem) (hd : EntAt u A l) (hl : l.length ≤ 100000) (hR : Rising l) :
  CV Tryz.prog 98 [.slice A l.length c, .string name] [] u fun v cs u' => cs = [] ∧ ∃ s' : Option Addr × Nat × Nat, v = .slice s'.1 s'.2.1 s'.2.2 ∧ s'.2.1 = (dropF l name).length ∧ Grow u u' s' 2 (entC (dropF l name)) := by
 refine cv_of names draws (fn := Tryz.f98) (b := bodyOf Tryz.f98) rfl rfl [] (edrop.args ((A, l.length, c), ()) (name, ())) (edrop.giv _ _) (fun _ => 0) (edrop.run _ _) (by kernel_rfl) rfl rfl ?_
 unfold edrop.T
 refine hold_call ((place.cv A c l name u hd (by omega) (hR.sorted name).lt).mono fun v cs u1 hu1 ⟨hc, i, hP, hv⟩ => ⟨((i : Int), atB l name i, ()), (), hv, hc, ?_⟩)
 have hi := hP.1
 have w1 : IntKind.i64.wrap ((i : Int) + 1) = ((i + 1 : Nat) : Int) := wrap_succ (by omega)
 have e1 := drop_put l name hR hP
 refine ⟨fun h => ?_, fun h => ?_⟩
 ·have h : (!atB l name i) = true := h
  have h : atB l name i = false := by simpa using h
  have := splE.cv A none c 0 l [] i i u1 (hd.mono hu1) (fun i e h => by simp at h) (by omega) (by omega) (.inl rfl) (by show l.length + 0 ≤ _; omega)
  refine hold_call (CV.mono this fun v cs u3 hu3 ⟨hc, s', hv, hs, hg⟩ => ⟨(s', ()), (), hv, hc, rfl, s', rfl, ?_, ?_⟩)
  ·rw [hs, e1, if_neg (by rw [h]; simp), List.append_nil]
  ·rw [e1, if_neg (by rw [h]; simp)]; rw [List.append_nil] at hg; exact hg.down hu1
 ·have h : (!atB l name i) = false := h
  have h : atB l name i = true := by simpa using h
  have hil : i < l.length := by
   unfold atB at h
   split at h
   ·rename_i x hx; exact (List.getElem?_eq_some_iff.1 hx).1
   ·cases h
  have := splE.cv A none c 0 l [] i (i + 1) u1 (hd.mono hu1) (fun i e h => by simp at h) (by omega) (by omega) (.inr (Nat.zero_le _)) (by show l.length + 0 ≤ _; omega)
  rw [← w1] at this
  refine hold_call (CV.mono this fun v cs u3 hu3 ⟨hc, s', hv, hs, hg⟩ => ⟨(s', ()), (), hv, hc, rfl, s', rfl, ?_, ?_⟩)
  ·rw [hs, e1, if_pos h, List.append_nil]
  ·rw [e1, if_pos h]; rw [List.append_nil] at hg; exact hg.down hu1
end Go.Proofs.YtpfbimkpcnnfkaaGreatDoor.Sx
set_option maxRecDepth 100000
set_option linter.unusedVariables false
set_option linter.unusedSimpArgs false
namespace Go.Proofs.YtpfbimkpcnnfkaaGreatDoor.Sx
open Go Go.RowKit Go.Proofs.YtpfbimkpcnnfkaaGreatDoor Go.Proofs.YtpfbimkpcnnfkaaGreatDoor.Ext
def VsAt (u : Mem) (a : Option Addr) (l : List Value) : Prop := ∀ (i : Nat) x, l[i]? = some x → Reads u a i [x]
theorem VsAt.mono {u u' : Mem} {a : Option Addr} {l : List Value} (h : VsAt u a l) (hu : u.le u') : VsAt u' a l := fun i x hi => (h i x hi).mono hu
def IsErr (x : Value) : Prop := x = .nilIface ∨ ∃ t v, x = .iface t v
def someB (x : Value) : Bool := !nilB x
def JoinAt (u : Mem) (v : Value) (l : List Value) : Prop := ∃ p a n c, v = .iface 142 (.pointer (some ⟨p, 0, none⟩)) ∧ u p 0 = some (.slice a n c) ∧ n = l.length ∧ VsAt u a l
theorem JoinAt.mono {u u' : Mem} {v : Value} {l : List Value} (h : JoinAt u v l) (hu : u.le u') : JoinAt u' v l := by
 obtain ⟨p, a, n, c, h1, h2, h3, h4⟩ := h
 exact ⟨p, a, n, c, h1, hu _ _ _ h2, h3, h4.mono hu⟩
theorem filt_succ (es : List Value) (i : Nat) (x : Value) (h : es[i]? = some x) : (es.take (i + 1)).filter someB = (es.take i).filter someB ++ if someB x = true then [x] else [] := by
 obtain ⟨g, rfl⟩ := List.getElem?_eq_some_iff.1 h
 rw [List.take_succ_eq_append_getElem g, List.filter_append]
 congr 1
 by_cases hx : someB es[i] = true
 ·rw [if_pos hx, List.filter_cons_of_pos hx]; rfl
 ·rw [if_neg hx, List.filter_cons_of_neg hx]; rfl
theorem ejoin.cv (A : Option Addr) (c : Nat) (es : List Value) (u : Mem) (hd : VsAt u A es) (hl : es.length ≤ 100000) (he : ∀ x ∈ es, IsErr x) :
  CV Tryz.prog 48 [.slice A es.length c] [] u fun v cs u' => cs = [] ∧ ((es.filter someB = [] ∧ v = .nilIface) ∨ (es.filter someB ≠ [] ∧ JoinAt u' v (es.filter someB))) := by
 refine cv_of names draws (fn := Tryz.f48) (b := bodyOf Tryz.f48) rfl rfl [⟨3, [3, 11], []⟩, ⟨12, [28], [25]⟩] (ejoin.args ((A, es.length, c), ())) (ejoin.giv _) (fun _ => 0) (ejoin.run _) (by kernel_rfl) rfl rfl ?_
 have hfl : ∀ i, ((es.take i).filter someB).length ≤ es.length := fun i => Nat.le_trans (List.length_filter_le _ _) (by rw [List.length_take]; omega)
 unfold ejoin.T
 refine hold_loop (sk := [.i .i64, .i .i64]) (oks := []) (fun x _ u' => u.le u' ∧ ∃ i : Nat, x = ((((es.take i).filter someB).length : Int), (i : Int), ()) ∧ i ≤ es.length) (fun x _ => ((es.length : Int) - x.2.1).toNat) (0, 0, ()) () rfl rfl ⟨Mem.le_refl u, 0, rfl, by omega⟩ ?_
 rintro x y u1 ⟨hu1, i, rfl, hi⟩
 have one : ∀ (i : Nat) (u' : Mem), u.le u' → i < es.length → ∃ x, es[i]? = some x ∧ IsErr x ∧ Reads u' A i [x] := fun i u' hu hil => ⟨_, List.getElem?_eq_getElem hil, he _ (List.getElem_mem hil), (hd i _ (List.getElem?_eq_getElem hil)).mono hu⟩
 refine ⟨fun hlt => ?_, fun hge => ?_⟩
 ·simp only [E.den, cT_lss] at hlt
  have hlt : (i : Int) < (es.length : Int) := hlt
  have hil : i < es.length := by omega
  obtain ⟨x, hx, hex, hrx⟩ := one i u1 hu1 hil
  have b1 : (0 : Int) ≤ (i : Int) ∧ (i : Int) < (es.length : Int) ∧ A.isSome = true := ⟨by omega, hlt, hrx.some⟩
  have hfs := filt_succ es i x hx
  have hfi := hfl i
  refine ⟨fun _ => b1, fun _ => ⟨(x, ()), by show Reads u1 A ((i : Int).toNat * 1) _; rw [Int.toNat_natCast, Nat.mul_one]; exact hrx, fun _ => hex, fun h => ⟨by simp, ?_⟩, fun h => ⟨by simp, ?_⟩⟩, fun h => by cases h⟩
  ·have h : someB x = true := h
   rw [if_pos h] at hfs
   simp only [if_true]
   have hln : ((es.take (i + 1)).filter someB).length = ((es.take i).filter someB).length + 1 := by rw [hfs, List.length_append]; rfl
   refine ⟨((((es.take (i + 1)).filter someB).length : Int), ((i + 1 : Nat) : Int), ()), (), by rw [hln, ← wrap_succ (show i < 4611686018427387904 by omega), ← wrap_succ (show ((es.take i).filter someB).length < 4611686018427387904 by omega)]; rfl, rfl, ⟨hu1, i + 1, rfl, by omega⟩, by simp only; omega⟩
  ·have h : someB x = false := h
   rw [if_neg (by rw [h]; simp), List.append_nil] at hfs
   simp only [if_true]
   refine ⟨((((es.take (i + 1)).filter someB).length : Int), ((i + 1 : Nat) : Int), ()), (), by rw [hfs, ← wrap_succ (show i < 4611686018427387904 by omega)]; rfl, rfl, ⟨hu1, i + 1, rfl, by omega⟩, by simp only; omega⟩
 simp only [E.den, cF_lss] at hge
 have hge : (es.length : Int) ≤ (i : Int) := hge
 obtain rfl : i = es.length := by omega
 rw [List.take_length]
 have hfl2 : (es.filter someB).length ≤ es.length := List.length_filter_le _ _
 refine ⟨fun h => ?_, fun h => ?_⟩
 ·simp only [E.den, cT_eql] at h
  have h : ((es.filter someB).length : Int) = 0 := h
  exact ⟨rfl, .inl ⟨List.eq_nil_of_length_eq_zero (by omega), rfl⟩⟩
 simp only [E.den, cF_eql] at h
 have h : ¬ ((es.filter someB).length : Int) = 0 := h
 have hne : es.filter someB ≠ [] := fun e => h (by rw [e]; rfl)
 refine hold_bi ((bv_mk (P := Tryz.prog) (t := 141) (e := 85) (z := .nilIface) (size := 1) (bytes := 16) (by kernel_rfl) (by kernel_rfl) rfl (kl := .i64) (kc := .i64) (l := 0) (c := (es.filter someB).length) (Nat.zero_le _) (by omega) (by omega) (by omega)).mono fun v u2 ⟨s, hv, hs, hg⟩ => ⟨(s, ()), hv, fun b1 hb1 => ?_⟩)
 rw [Nat.zero_mul, List.take_zero] at hg
 have hb1u : ∀ o, u b1 o = none := fun o => by
  cases hx : u b1 o with
  | none => rfl
  | some x => have := (Mem.le_trans hu1 hg.le) _ _ _ hx; rw [hb1] at this; cases this
 refine hold_loop (sk := [.i .i64]) (oks := [[.s]]) (fun x y u' => ∃ (i : Nat) (s : Option Addr × Nat × Nat), x = ((i : Int), ()) ∧ y = ((s, ()), ()) ∧ i ≤ es.length ∧ s.2.1 = ((es.take i).filter someB).length ∧ Grow u1 u' s 1 ((es.take i).filter someB)) (fun x _ => ((es.length : Int) - x.1).toNat)
  (0, ()) ((s, ()), ()) rfl rfl ⟨0, s, rfl, rfl, by omega, hs, hg⟩ ?_
 rintro x y u3 ⟨i, s3, rfl, rfl, hi, hs3, hg3⟩
 refine ⟨fun hlt => ?_, fun hge => ?_⟩
 ·simp only [E.den, cT_lss] at hlt
  have hlt : (i : Int) < (es.length : Int) := hlt
  have hil : i < es.length := by omega
  obtain ⟨x, hx, hex, hrx⟩ := one i u3 (Mem.le_trans hu1 hg3.le) hil
  have b1 : (0 : Int) ≤ (i : Int) ∧ (i : Int) < (es.length : Int) ∧ A.isSome = true := ⟨by omega, hlt, hrx.some⟩
  have hfs := filt_succ es i x hx
  have hfi := hfl i
  refine ⟨fun _ => b1, fun _ => ⟨(x, ()), by show Reads u3 A ((i : Int).toNat * 1) _; rw [Int.toNat_natCast, Nat.mul_one]; exact hrx, fun _ => hex, fun h => ?_, fun h => ⟨by simp, ?_⟩⟩, fun h => by cases h⟩
  ·have h : someB x = true := h
   have hox : x.oneCell' = true := by rcases hex with rfl | ⟨t, v, rfl⟩ <;> rfl
   rw [if_pos h] at hfs
   refine ⟨fun _ => hox, fun b2 hb2 => ⟨fun _ u4 h4 hw => ?_, fun h => by cases h⟩⟩
   have hw' := hw _ (List.mem_singleton.2 rfl)
   refine (bv_one (P := Tryz.prog) (t := 141) (ty := 141) (e := 85) (z := .nilIface) (size := 1) (bytes := 16) (by kernel_rfl) (by kernel_rfl) rfl (by decide) (u0 := u) (b := b2) (ys := [x]) hu1 hg3 h4 hw' rfl (fun y hy => by rw [List.mem_singleton.1 hy]; exact hox) (by omega) (by omega)).mono fun v u5 ⟨s', hv', hs', hg'⟩ => ⟨(s', ()), hv', by simp, ?_⟩
   simp only [if_true]
   refine ⟨(((i + 1 : Nat) : Int), ()), ((s', ()), ()), by rw [← wrap_succ (show i < 4611686018427387904 by omega)]; rfl, rfl, ⟨i + 1, s', rfl, rfl, by omega, by rw [hs', hs3, hfs, List.length_append]; rfl, by rw [hfs]; exact hg'⟩, by simp only; omega⟩
  ·have h : someB x = false := h
   rw [if_neg (by rw [h]; simp), List.append_nil] at hfs
   simp only [if_true]
   exact ⟨(((i + 1 : Nat) : Int), ()), ((s3, ()), ()), by rw [← wrap_succ (show i < 4611686018427387904 by omega)]; rfl, rfl, ⟨i + 1, s3, rfl, rfl, by omega, by rw [hfs]; exact hs3, by rw [hfs]; exact hg3⟩, by simp only; omega⟩
 ·simp only [E.den, cF_lss] at hge
  have hge : (es.length : Int) ≤ (i : Int) := hge
  obtain rfl : i = es.length := by omega
  rw [List.take_length] at hs3 hg3
  intro u4 h4 hw
  have hw' := hw _ (List.mem_singleton.2 rfl) 0 _ rfl
  refine ⟨rfl, .inr ⟨hne, _, s3.1, s3.2.1, s3.2.2, rfl, hw', hs3, fun j y hj => ?_⟩⟩
  have := hg3.reads (i := j) (k := 0) (vs := [y]) (by show 0 < 1; decide) (fun k z hz => by
   have hk : k = 0 := by have := (List.getElem?_eq_some_iff.1 hz).1; simp only [List.length_cons, List.length_nil] at this; omega
   subst hk
   simp only [List.getElem?_cons_zero, Option.some.injEq] at hz
   subst hz; exact hj)
  exact this.mono h4
end Go.Proofs.YtpfbimkpcnnfkaaGreatDoor.Sx
