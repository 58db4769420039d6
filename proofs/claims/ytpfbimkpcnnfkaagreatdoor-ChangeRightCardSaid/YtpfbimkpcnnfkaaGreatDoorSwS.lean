/- By Sx: a right disk is one that ways may be gone on; shown; WalkFinds. -/
import Derived.Test.YtpfbimkpcnnfkaaGreatDoorSwP
/- By Sx: the law's own disk, and whether it is right; a right disk is one that ways may be gone on. -/
/- By Sx: the document's Right; the law's own disk, and whether it is right. -/
set_option maxRecDepth 100000
set_option linter.unusedVariables false
set_option linter.unusedSimpArgs false
namespace Go.Proofs.YtpfbimkpcnnfkaaGreatDoor.Sx
open Go Go.RowKit Go.Proofs.YtpfbimkpcnnfkaaGreatDoor Go.Proofs.YtpfbimkpcnnfkaaGreatDoor.Ext
theorem rright.cv (A : Option Addr) (c : Nat) (ns : List Nd) (m r : Int) (u : Mem) (hd : DiskAt u A ns) (hs : Szs ns) :
  CV Tryz.prog 39 [.agg #[.slice A ns.length c, .int .i64 m, .int .i64 r]] [] u fun v cs _ => cs = [] ∧ v = .bool (rightF ns m r) := by
 refine cv_of names draws (fn := Tryz.f39) (b := bodyOf Tryz.f39) rfl rfl [⟨4, [3], []⟩] (rright.args ((A, ns.length, c), m, r, ())) (rright.giv _) (fun _ => 0) (rright.run _) (by kernel_rfl) rfl rfl ?_
 unfold rright.T
 intro b1 hb1
 have hl0 : ((ns.length : Int) = 0) = (ns = []) := propext ⟨fun h => List.length_eq_zero_iff.1 (by omega), fun h => by rw [h]; rfl⟩
 refine hold_callg (fun xs _ u2 => u.le u2 ∧ (¬ (ns = [] ∨ m < (ns.length : Int)) → xs.1 = bytesF ns)) (fun hg => ?_) (fun hg => ⟨Mem.le_refl u, fun h => ?_⟩) ?_
 ·exact (rbytes.cv A c ns m r u hd hs.len hs.data).mono' fun v cs u2 hu2 ⟨hc, hv⟩ => ⟨(bytesF ns, ()), (), hv, hc, hu2, fun _ => rfl⟩
 ·simp only [E.den, cD_eql, cD_gtr, bOr, bNot, decide_eq_false_iff_not] at hg
  have hg : ¬ ¬ ((ns.length : Int) = 0 ∨ m < (ns.length : Int)) := hg
  rw [hl0] at hg
  exact absurd h hg
 rintro ⟨s, _⟩ _ u2 ⟨hu2, hso⟩
 have hso : ¬ (ns = [] ∨ m < (ns.length : Int)) → s = bytesF ns := hso
 have hP : ∀ x : Int, ((((ns.length : Int) = 0 ∨ m < (ns.length : Int)) ∨ r < s) ∨ ¬ x = 2) ↔ ¬ (ns ≠ [] ∧ (ns.length : Int) ≤ m ∧ bytesF ns ≤ r ∧ x = 2) := fun x => by
  rw [hl0]
  by_cases h : ns = [] ∨ m < (ns.length : Int)
  ·refine ⟨fun _ h2 => ?_, fun _ => .inl (.inl h)⟩
   rcases h with h | h
   ·exact h2.1 h
   ·omega
  ·rw [hso h]
   have h1 : ¬ ns = [] := fun e => h (.inl e)
   have h2 : ¬ m < (ns.length : Int) := fun e => h (.inr e)
   simp only [h1, h2, false_or, not_false_eq_true, ne_eq, true_and]
   omega
 have hob : ∀ P : Prop, (¬ (((ns.length : Int) = 0 ∨ m < (ns.length : Int)) ∨ r < s)) → (ns ≠ [] → P) → P := fun P h hp => hp fun e => h (.inl (.inl (by rw [hl0]; exact e)))
 obtain ⟨x0, hx0⟩ : ∃ x0, (ns.getD 0 zNd).f0 = x0 := ⟨_, rfl⟩
 have hgd : ns ≠ [] → Reads u2 A 0 [.int .i64 x0] := fun hne => by
  obtain ⟨n, hn⟩ : ∃ n, ns[0]? = some n := ⟨_, List.getElem?_eq_getElem (List.length_pos_iff.2 hne)⟩
  obtain ⟨a7, c7, k1, k2, k3⟩ := hd 0 n hn
  rw [getD_of hn] at hx0
  have := (k2.part 0 1).mono hu2
  rw [← hx0]; exact this
 refine ⟨fun hg => ?_, fun hg => ?_, hold_uldg (fun x => ¬ (((ns.length : Int) = 0 ∨ m < (ns.length : Int)) ∨ r < s) → x = (x0, ())) (fun hg => ?_) (fun hg h => ?_) ?_⟩
 ·simp only [E.den, cD_eql, cD_gtr, bOr, bNot, decide_eq_true_eq] at hg
  have hg : ¬ (((ns.length : Int) = 0 ∨ m < (ns.length : Int)) ∨ r < s) := hg
  refine hob _ hg fun hne => ?_
  have := List.length_pos_iff.2 hne
  exact ⟨Int.le_refl 0, by show (0 : Int) < (ns.length : Int); omega, (hgd hne).some⟩
 ·simp only [E.den, cD_eql, cD_gtr, bOr, bNot, decide_eq_true_eq] at hg
  have hg : ¬ (((ns.length : Int) = 0 ∨ m < (ns.length : Int)) ∨ r < s) := hg
  exact hob _ hg fun hne => (hgd hne).some
 ·simp only [E.den, cD_eql, cD_gtr, bOr, bNot, decide_eq_true_eq] at hg
  have hg : ¬ (((ns.length : Int) = 0 ∨ m < (ns.length : Int)) ∨ r < s) := hg
  exact ⟨(x0, ()), hob _ hg fun hne => hgd hne, fun _ => rfl⟩
 ·simp only [E.den, cD_eql, cD_gtr, bOr, bNot, decide_eq_false_iff_not] at hg
  have hg : ¬ ¬ (((ns.length : Int) = 0 ∨ m < (ns.length : Int)) ∨ r < s) := hg
  exact absurd h hg
 rintro ⟨x1, _⟩ hx1
 have hPx : ((((ns.length : Int) = 0 ∨ m < (ns.length : Int)) ∨ r < s) ∨ ¬ x1 = 2) ↔ ¬ (ns ≠ [] ∧ (ns.length : Int) ≤ m ∧ bytesF ns ≤ r ∧ (ns.getD 0 zNd).f0 = 2) := by
  rw [hx0]
  by_cases h : (((ns.length : Int) = 0 ∨ m < (ns.length : Int)) ∨ r < s)
  ·exact ⟨fun _ => (hP x0).1 (.inl h), fun _ => .inl h⟩
  ·have := hx1 h
   injection this with e
   rw [e]; exact hP x0
 refine ⟨fun h => ?_, fun h => ?_⟩
 ·simp only [E.den, cD_eql, cD_gtr, cD_neq, bOr, decide_eq_true_eq] at h
  have h := hPx.1 h
  unfold rightF
  rw [decide_eq_false h]; exact ⟨rfl, rfl⟩
 simp only [E.den, cD_eql, cD_gtr, cD_neq, bOr, decide_eq_false_iff_not] at h
 have h := fun hh => h (hPx.2 hh)
 have h := Classical.not_not.1 h
 unfold rightF
 rw [decide_eq_true h, Bool.true_and]
 refine hold_count ns.length (fun i u' => u.le u' ∧ (List.range i).all (right1F ns) = true) ⟨hu2, rfl⟩ ?_
 rintro i u3 hi ⟨hu3, hI⟩
 refine ⟨fun hlt => ?_, fun hge => ?_⟩
 ·simp only [E.den, cT_lss] at hlt
  have hlt : (i : Int) < (ns.length : Int) := hlt
  have hil : i < ns.length := by omega
  refine hold_call ((rright1.cv A c ns m r i u3 (hd.mono hu3) hs hil).mono fun v cs u4 hu4 ⟨hc, hv⟩ => ⟨(right1F ns i, ()), (), hv, hc, fun h0 => ?_, fun h0 => ⟨by simp, ?_⟩⟩)
  ·have h0 : (!right1F ns i) = true := h0
   rw [all_no hil (by simpa using h0)]; exact ⟨rfl, rfl⟩
  ·have h0 : (!right1F ns i) = false := h0
   simp only [if_true]
   refine ⟨by rw [← wrap_succ (show i < 4611686018427387904 by have := hs.len; omega)]; rfl, rfl, hil, Mem.le_trans hu3 hu4, ?_⟩
   rw [all_succ, hI, Bool.true_and]; simpa using h0
 ·simp only [E.den, cF_lss] at hge
  have hge : (ns.length : Int) ≤ (i : Int) := hge
  obtain rfl : i = ns.length := by omega
  rw [hI]; exact ⟨rfl, rfl⟩
theorem Grow.shift {v u u2 : Mem} {s : Option Addr × Nat × Nat} {size : Nat} {es : List Value} (h : Grow v u s size es) (hne : s.1 = none ∨ 0 < s.2.2) (hu : u.le u2) (hsz : 0 < size) :
  ∃ v' : Mem, v.le v' ∧ v'.le u2 ∧ Grow v' u2 s size es ∧ ∀ k, (∀ o, u k o = none) → ∀ o, v' k o = u2 k o := by
 classical
 refine ⟨fun k o => if ∃ o', u k o' ≠ none then v k o else u2 k o, fun k o x hx => ?_, fun k o x hx => ?_, ⟨fun k o x hx => ?_, h.len, h.cap, ?_⟩, fun k hk o => if_neg fun ⟨o', ho'⟩ => ho' (hk o')⟩
 ·show (if ∃ o', u k o' ≠ none then v k o else u2 k o) = some x
  rw [if_pos ⟨o, by rw [h.le _ _ _ hx]; simp⟩]; exact hx
 ·have hx : (if ∃ o', u k o' ≠ none then v k o else u2 k o) = some x := hx
  split at hx
  ·exact hu _ _ _ (h.le _ _ _ hx)
  ·exact hx
 ·have hx : (if ∃ o', u k o' ≠ none then v k o else u2 k o) = some x := hx
  split at hx
  ·exact hu _ _ _ (h.le _ _ _ hx)
  ·exact hx
 ·rcases h.at_ with h0 | ⟨b, sp, h1, h2, h3, h4⟩
  ·exact .inl h0
  ·refine .inr ⟨b, sp, h1, fun o => ?_, fun j x hx => hu _ _ _ (h3 j x hx), h4⟩
   have hc : 0 < s.2.2 := hne.resolve_left (by rw [h1]; simp)
   have hl : 0 < (es ++ sp).length := by rw [h4]; exact Nat.mul_pos hc hsz
   show (if ∃ o', u b o' ≠ none then v b o else u2 b o) = none
   rw [if_pos ⟨0, by rw [h3 0 _ (List.getElem?_eq_getElem hl)]; simp⟩]
   exact h2 o
def entC (l : List En) : List Value := l.flatMap fun e => [.string e.f0, .int .i64 e.f1]
theorem entC_len (l : List En) : (entC l).length = l.length * 2 := by
 induction l with
 | nil => rfl
 | cons e l ih => show (_ ++ entC l).length = _; rw [List.length_append, ih, List.length_cons]; simp only [List.length_cons, List.length_nil]; omega
theorem entC_at (l : List En) (i : Nat) (e : En) (h : l[i]? = some e) : ∀ (j : Nat) x, ([.string e.f0, .int .i64 e.f1] : List Value)[j]? = some x → (entC l)[i * 2 + j]? = some x := by
 induction l generalizing i with
 | nil => simp at h
 | cons f l ih =>
  intro j x hx
  show (_ ++ entC l)[i * 2 + j]? = some x
  have hj : j < 2 := (List.getElem?_eq_some_iff.1 hx).1
  cases i with
  | zero =>
   simp only [List.getElem?_cons_zero, Option.some.injEq] at h
   subst h
   rw [List.getElem?_append_left (by simp only [List.length_cons, List.length_nil]; omega)]
   simpa using hx
  | succ i =>
   rw [List.getElem?_append_right (by simp only [List.length_cons, List.length_nil]; omega)]
   have := ih i (by simpa using h) j x hx
   rw [← this]; congr 1; simp only [List.length_cons, List.length_nil]; omega
theorem entC_succ (l : List En) (i : Nat) (e : En) (h : l[i]? = some e) : entC (l.take (i + 1)) = entC (l.take i) ++ [.string e.f0, .int .i64 e.f1] := by
 obtain ⟨g, rfl⟩ := List.getElem?_eq_some_iff.1 h
 unfold entC
 rw [List.take_succ_eq_append_getElem g, List.flatMap_append]; rfl
theorem lnode.cv (n : Nd) (A : Option Addr) (c : Nat) (u : Mem) (hd : EntAt u A n.f7) (hn : n.f7.length ≤ 1000000) :
  CV Tryz.prog 27 [.agg (Sx.cv K0 (n.row A c)).toArray] [] u fun v cs u' => cs = [] ∧ ∃ s : Option Addr × Nat × Nat, v = .agg (Sx.cv K0 (n.row s.1 s.2.2)).toArray ∧ s.2.1 = n.f7.length ∧ Grow u u' s 2 (entC n.f7) := by
 refine cv_of names draws (fn := Tryz.f27) (b := bodyOf Tryz.f27) rfl rfl [⟨3, [4], [3]⟩] (lnode.args (n.row A c)) (lnode.giv _) (fun _ => 0) (lnode.run _) (by kernel_rfl) rfl rfl ?_
 unfold lnode.T
 intro b1 hb1 b2 hb2 b3 hb3
 refine hold_loop (sk := [.i .i64]) (oks := [K0]) (fun x y u' => ∃ (i : Nat) (s : Option Addr × Nat × Nat), x = ((i : Int), ()) ∧ y = ((n.f0, n.f1, n.f2, n.f3, n.f4, n.f5, n.f6, s, ()), ()) ∧ i ≤ n.f7.length ∧ s.2.1 = i ∧ Grow u u' s 2 (entC (n.f7.take i)))
  (fun x _ => ((n.f7.length : Int) - x.1).toNat) (0, ()) ((n.f0, n.f1, n.f2, n.f3, n.f4, n.f5, n.f6, (none, 0, 0), ()), ()) rfl rfl ⟨0, (none, 0, 0), rfl, rfl, by omega, rfl, Grow.nil⟩ ?_
 rintro x y u1 ⟨i, s, rfl, rfl, hi, hsi, hg⟩
 refine ⟨fun hlt => ?_, fun hge => ?_⟩
 ·simp only [E.den, cT_lss] at hlt
  have hlt : (i : Int) < (n.f7.length : Int) := hlt
  have hil : i < n.f7.length := by omega
  obtain ⟨e, he⟩ : ∃ e, n.f7[i]? = some e := ⟨_, List.getElem?_eq_getElem hil⟩
  have re := (hd i e he).mono hg.le
  have b1 : (0 : Int) ≤ (i : Int) ∧ (i : Int) < (n.f7.length : Int) ∧ A.isSome = true := ⟨by omega, hlt, re.some⟩
  refine ⟨fun _ => b1, fun _ => ⟨(e.f0, e.f1, ()), by show Reads u1 A ((i : Int).toNat * 2) _; rw [Int.toNat_natCast]; exact re, ?_⟩, fun h => by cases h⟩
  intro b4 hb4
  refine ⟨fun _ u3 h3 hw => ?_, fun h => by cases h⟩
  have hw' := hw _ (List.mem_singleton.2 rfl)
  refine (bv_one (P := Tryz.prog) (t := 62) (ty := 62) (e := 124) (z := .agg #[.string ⟨#[]⟩, .int .i64 0]) (size := 2) (bytes := 24) (by kernel_rfl) (by kernel_rfl) rfl (by decide) (u0 := u) (b := b4) (ys := [.string e.f0, .int .i64 e.f1]) (Mem.le_refl u) hg h3 hw' rfl (by simp [Value.oneCell']) (by omega) (by omega)).mono fun v u4 ⟨s', hv', hs', hg'⟩ => ⟨(s', ()), hv', by simp, ?_⟩
  simp only [if_true]
  refine ⟨(((i + 1 : Nat) : Int), ()), ((n.f0, n.f1, n.f2, n.f3, n.f4, n.f5, n.f6, s', ()), ()), by rw [← wrap_succ (show i < 4611686018427387904 by omega)]; rfl, rfl, ⟨i + 1, s', rfl, rfl, by omega, by rw [hs', hsi], by rw [entC_succ _ i e he]; exact hg'⟩, by simp only; omega⟩
 ·simp only [E.den, cF_lss] at hge
  have hge : (n.f7.length : Int) ≤ (i : Int) := hge
  obtain rfl : i = n.f7.length := by omega
  rw [List.take_length] at hg
  refine ⟨rfl, s, ?_, hsi, hg⟩
  unfold Nd.row
  rw [← hsi]; rfl
end Go.Proofs.YtpfbimkpcnnfkaaGreatDoor.Sx
set_option maxRecDepth 100000
set_option linter.unusedVariables false
set_option linter.unusedSimpArgs false
namespace Go.Proofs.YtpfbimkpcnnfkaaGreatDoor.Sx
open Go Go.RowKit Go.Proofs.YtpfbimkpcnnfkaaGreatDoor Go.Proofs.YtpfbimkpcnnfkaaGreatDoor.Ext
structure NsC (v : Mem) (l : List Nd) (es : List Value) : Prop where
 len : es.length = l.length * 8
 at_ : ∀ (i : Nat) n, l[i]? = some n → ∃ a7 c7, n.f7.length ≤ c7 ∧ (∀ (k : Nat) x, (Sx.cv K0 (n.row a7 c7))[k]? = some x → es[i * 8 + k]? = some x) ∧ EntAt v a7 n.f7
theorem NsC.mono {v v' : Mem} {l : List Nd} {es : List Value} (h : NsC v l es) (hv : v.le v') : NsC v' l es := ⟨h.len, fun i n hi => by
 obtain ⟨a7, c7, h1, h2, h3⟩ := h.at_ i n hi
 exact ⟨a7, c7, h1, h2, h3.mono hv⟩⟩
theorem NsC.snoc {v : Mem} {l : List Nd} {es : List Value} {n : Nd} {a7 : Option Addr} {c7 : Nat} (h : NsC v l es) (h1 : n.f7.length ≤ c7) (h2 : EntAt v a7 n.f7) : NsC v (l ++ [n]) (es ++ Sx.cv K0 (n.row a7 c7)) := by
 refine ⟨by rw [List.length_append, h.len, List.length_append]; show _ + 8 = _; simp only [List.length_cons, List.length_nil]; omega, fun i x hi => ?_⟩
 rcases Nat.lt_or_ge i l.length with hl | hl
 ·rw [List.getElem?_append_left hl] at hi
  obtain ⟨b7, d7, g1, g2, g3⟩ := h.at_ i x hi
  refine ⟨b7, d7, g1, fun k y hy => ?_, g3⟩
  have := g2 k y hy
  rw [List.getElem?_append_left (List.getElem?_eq_some_iff.1 this).1]; exact this
 ·rw [List.getElem?_append_right hl] at hi
  have hi0 : i - l.length = 0 := by
   have := (List.getElem?_eq_some_iff.1 hi).1
   simp only [List.length_cons, List.length_nil] at this; omega
  rw [hi0] at hi
  simp only [List.getElem?_cons_zero, Option.some.injEq] at hi
  subst hi
  refine ⟨a7, c7, h1, fun k y hy => ?_, h2⟩
  have hil : i = l.length := by omega
  rw [List.getElem?_append_right (by rw [h.len, hil]; omega), h.len, hil, Nat.add_sub_cancel_left]; exact hy
theorem lits.cv (A : Option Addr) (c : Nat) (ns : List Nd) (m r : Int) (u : Mem) (hd : DiskAt u A ns) (hl : ns.length ≤ 1000000) (hs : ∀ n ∈ ns, n.f7.length ≤ 1000000) :
  CV Tryz.prog 15 [.agg #[.slice A ns.length c, .int .i64 m, .int .i64 r]] [] u fun v cs u' => cs = [] ∧ ∃ A' c', v = .agg #[.slice A' ns.length c', .int .i64 m, .int .i64 r] ∧ DiskAt u' A' ns := by
 refine cv_of names draws (fn := Tryz.f15) (b := bodyOf Tryz.f15) rfl rfl [⟨3, [4], [3]⟩] (lits.args ((A, ns.length, c), m, r, ())) (lits.giv _) (fun _ => 0) (lits.run _) (by kernel_rfl) rfl rfl ?_
 unfold lits.T
 intro b1 hb1 b2 hb2 b3 hb3
 refine hold_loop (sk := [.i .i64]) (oks := [[.s, .i .i64, .i .i64]]) (fun x y u' => ∃ (i : Nat) (s : Option Addr × Nat × Nat) (v' : Mem) (es : List Value), x = ((i : Int), ()) ∧ y = ((s, m, r, ()), ()) ∧ i ≤ ns.length ∧ s.2.1 = i ∧ (s.1 = none ∨ 0 < s.2.2) ∧ u.le v' ∧ Grow v' u' s 8 es ∧ NsC v' (ns.take i) es)
  (fun x _ => ((ns.length : Int) - x.1).toNat) (0, ()) (((none, 0, 0), m, r, ()), ()) rfl rfl ⟨0, (none, 0, 0), u, [], rfl, rfl, by omega, rfl, .inl rfl, Mem.le_refl u, Grow.nil, ⟨by simp, fun i n hi => by simp at hi⟩⟩ ?_
 rintro x y u1 ⟨i, s, v', es, rfl, rfl, hi, hsi, hne, huv, hg, hc⟩
 refine ⟨fun hlt => ?_, fun hge => ?_⟩
 ·simp only [E.den, cT_lss] at hlt
  have hlt : (i : Int) < (ns.length : Int) := hlt
  have hil : i < ns.length := by omega
  obtain ⟨n, hn⟩ : ∃ n, ns[i]? = some n := ⟨_, List.getElem?_eq_getElem hil⟩
  have hnl := hs n (List.mem_of_getElem? hn)
  obtain ⟨a7, c7, k1, k2, k3⟩ := hd i n hn
  have hu1 := Mem.le_trans huv hg.le
  have rn := k2.mono hu1
  have b1 : (0 : Int) ≤ (i : Int) ∧ (i : Int) < (ns.length : Int) ∧ A.isSome = true := ⟨by omega, hlt, rn.some⟩
  refine ⟨fun _ => b1, fun _ => ⟨n.row a7 c7, by show Reads u1 A ((i : Int).toNat * 8) _; rw [Int.toNat_natCast]; exact rn, ?_⟩, fun h => by cases h⟩
  refine hold_call ((lnode.cv n a7 c7 u1 (k3.mono hu1) hnl).mono fun v cs u2 hu2 ⟨hcs, s7, hv, hs7, hg7⟩ => ⟨n.row s7.1 s7.2.2, (), hv, hcs, ?_⟩)
  obtain ⟨v2, w1, w2, hg2, w3⟩ := hg.shift hne hu2 (by decide)
  have hE : EntAt v2 s7.1 n.f7 := by
   intro j e he
   rcases hg7.at_ with ⟨_, h0⟩ | ⟨b, sp, h1, h2, h3, h4⟩
   ·have h5 := hg7.cap
    have := (List.getElem?_eq_some_iff.1 he).1
    omega
   ·refine ⟨b, 0, h1, fun k x hx => ?_⟩
    have h5 := entC_at n.f7 j e he k x hx
    rw [w3 b h2, Nat.zero_add]
    exact h3 _ _ (by rw [List.getElem?_append_left (List.getElem?_eq_some_iff.1 h5).1]; exact h5)
  intro b4 hb4
  refine ⟨fun _ u3 h3 hw => ?_, fun h => by cases h⟩
  have hw' := hw _ (List.mem_singleton.2 rfl)
  refine (bv_one (P := Tryz.prog) (t := 33) (ty := 33) (e := 64) (z := .agg #[.int .i64 0, .int .i64 0, .int .i64 0, .int .i64 0, .int .i64 0, .int .i64 0, .string ⟨#[]⟩, .slice none 0 0]) (size := 8) (bytes := 88) (by kernel_rfl) (by kernel_rfl) rfl (by decide) (u0 := u) (b := b4) (ys := Sx.cv K0 (n.row s7.1 s7.2.2)) (Mem.le_trans huv w1) hg2 h3 hw' rfl
   (by intro y hy; simp only [Nd.row, Sx.cv, List.mem_cons, List.mem_nil_iff, or_false] at hy; rcases hy with rfl | rfl | rfl | rfl | rfl | rfl | rfl | rfl <;> rfl) (by omega) (by omega)).mono fun v u4 ⟨s', hv', hs', hg'⟩ => ⟨(s', ()), hv', by simp, ?_⟩
  simp only [if_true]
  have hcap := hg'.cap
  refine ⟨(((i + 1 : Nat) : Int), ()), ((s', m, r, ()), ()), by rw [← wrap_succ (show i < 4611686018427387904 by omega)]; rfl, rfl, ⟨i + 1, s', v2, _, rfl, rfl, by omega, by rw [hs', hsi], .inr (by omega), Mem.le_trans huv w1, hg', ?_⟩, by simp only; omega⟩
  obtain ⟨g, hgn⟩ := List.getElem?_eq_some_iff.1 hn
  rw [List.take_succ_eq_append_getElem g, hgn]
  exact (hc.mono w1).snoc (by have := hg7.cap; omega) hE
 ·simp only [E.den, cF_lss] at hge
  have hge : (ns.length : Int) ≤ (i : Int) := hge
  obtain rfl : i = ns.length := by omega
  rw [List.take_length] at hc
  refine ⟨rfl, s.1, s.2.2, by rw [← hsi]; rfl, fun j n hj => ?_⟩
  obtain ⟨a7, c7, h1, h2, h3⟩ := hc.at_ j n hj
  exact ⟨a7, c7, h1, hg.reads (k := 0) (by show 0 < 8; decide) h2, h3.mono hg.le⟩
def smallAt (ns : List Nd) (i : Nat) : Bool := decide ((ns.getD i zNd).f6.size ≤ 300 ∧ (ns.getD i zNd).f7.length ≤ 60)
def okF (ns : List Nd) (m r : Int) : Bool := (List.range (min ns.length 110)).all (smallAt ns) && (decide (ns.length ≤ 100) && rightF ns m r)
theorem okF.sizes {ns : List Nd} (hs : (List.range (min ns.length 110)).all (smallAt ns) = true) (hl : ns.length ≤ 100) : ∀ n ∈ ns, n.f6.size ≤ 300 ∧ n.f7.length ≤ 60 := by
 intro n hn
 obtain ⟨i, hi⟩ := List.getElem?_of_mem hn
 have := List.all_eq_true.1 hs i (List.mem_range.2 (by have := (List.getElem?_eq_some_iff.1 hi).1; omega))
 unfold smallAt at this
 rw [getD_of hi] at this
 simpa using this
theorem lright.cv (A : Option Addr) (c : Nat) (ns : List Nd) (m r : Int) (u : Mem) (hd : DiskAt u A ns) (hnm : ∀ n ∈ ns, ∀ e ∈ n.f7, e.f0.size ≤ 1000000000000000) :
  CV Tryz.prog 10 [.agg #[.slice A ns.length c, .int .i64 m, .int .i64 r]] [] u fun v cs _ => cs = [] ∧ v = .bool (okF ns m r) := by
 refine cv_of names draws (fn := Tryz.f10) (b := bodyOf Tryz.f10) rfl rfl [⟨2, [3], []⟩] (lright.args ((A, ns.length, c), m, r, ())) (lright.giv _) (fun _ => 0) (lright.run _) (by kernel_rfl) rfl rfl ?_
 unfold lright.T
 intro b1 hb1
 refine hold_count (min ns.length 110) (fun i u' => u.le u' ∧ (List.range i).all (smallAt ns) = true) ⟨Mem.le_refl u, rfl⟩ ?_
 rintro i u1 hi ⟨hu1, hI⟩
 refine ⟨fun hlt => ?_, fun hge => ?_⟩
 ·simp only [E.den, cD_lss, bAnd, decide_eq_true_eq] at hlt
  have hlt : (i : Int) < (ns.length : Int) ∧ (i : Int) < 110 := hlt
  have hil : i < ns.length := by omega
  obtain ⟨n, hn⟩ : ∃ n, ns[i]? = some n := ⟨_, List.getElem?_eq_getElem hil⟩
  obtain ⟨a7, c7, k1, k2, k3⟩ := hd i n hn
  have rn := k2.mono hu1
  have b1 : (0 : Int) ≤ (i : Int) ∧ (i : Int) < (ns.length : Int) ∧ A.isSome = true := ⟨by omega, hlt.1, rn.some⟩
  have hp : smallAt ns i = decide (n.f6.size ≤ 300 ∧ n.f7.length ≤ 60) := by unfold smallAt; rw [getD_of hn]
  refine ⟨fun _ => b1, fun _ => rn.some, fun _ => ⟨(n.f6, ()), by show Reads u1 A ((i : Int).toNat * 8 + 6) _; rw [Int.toNat_natCast]; exact rn.part 6 1, ?_⟩, fun h => by cases h⟩
  refine ⟨fun _ => b1, fun _ => rn.some, hold_uldg (fun x => n.f6.size ≤ 300 → x = ((a7, n.f7.length, c7), ())) (fun hg => ⟨((a7, n.f7.length, c7), ()), by show Reads u1 A ((i : Int).toNat * 8 + 7) _; rw [Int.toNat_natCast]; exact rn.part 7 1, fun _ => rfl⟩) (fun hg h => ?_) ?_⟩
  ·simp only [E.den, cD_gtr, bNot, decide_eq_false_iff_not] at hg
   have hg : ¬ ¬ (300 : Int) < (n.f6.size : Int) := hg
   omega
  rintro ⟨x, _⟩ hx
  have hiff : ((300 : Int) < (n.f6.size : Int) ∨ (60 : Int) < (x.2.1 : Int)) ↔ smallAt ns i = false := by
   rw [hp, decide_eq_false_iff_not]
   by_cases h : n.f6.size ≤ 300
   ·have := hx h
    injection this with e
    rw [e]; show _ ∨ (60 : Int) < (n.f7.length : Int) ↔ _
    omega
   ·exact ⟨fun _ h2 => h h2.1, fun _ => .inl (by omega)⟩
  refine ⟨fun h => ?_, fun h => ⟨by simp, ?_⟩⟩
  ·simp only [E.den, cD_gtr, bOr, decide_eq_true_eq] at h
   have h := hiff.1 h
   unfold okF
   rw [all_no (i := i) (by omega) h]; exact ⟨rfl, rfl⟩
  ·simp only [E.den, cD_gtr, bOr, decide_eq_false_iff_not] at h
   have h : smallAt ns i = true := by
    cases hh : smallAt ns i with
    | true => rfl
    | false => exact absurd (hiff.2 hh) h
   simp only [if_true]
   refine ⟨by rw [← wrap_succ (show i < 4611686018427387904 by omega)]; rfl, rfl, by omega, hu1, ?_⟩
   rw [all_succ, hI, h]; rfl
 ·simp only [E.den, cD_lss, bAnd, decide_eq_false_iff_not] at hge
  have hge : ¬ ((i : Int) < (ns.length : Int) ∧ (i : Int) < 110) := hge
  obtain rfl : i = min ns.length 110 := by omega
  have hle : ∀ b : Bool, (E.den (.cmp .leq (.ofN (.at ns.length)) (.i 100) : E S.ty .B)) = b → decide (ns.length ≤ 100) = b := fun b hb => by
   rw [← hb]; show _ = cmpI .leq (ns.length : Int) 100
   rw [cD_leq, Bool.eq_iff_iff]; simp only [decide_eq_true_eq]; omega
  have hle1 : ns.length ≤ 100 → Szs ns := fun h => ⟨by omega, fun n hn => by have := (okF.sizes hI h n hn).2; omega, hnm, fun n hn => by have := (okF.sizes hI h n hn).1; omega⟩
  unfold okF
  rw [hI, Bool.true_and]
  refine hold_callg (fun xs _ u2 => u.le u2 ∧ (ns.length ≤ 100 → ∃ A' c', xs = ((A', ns.length, c'), m, r, ()) ∧ DiskAt u2 A' ns)) (fun hg => ?_) (fun hg => ⟨hu1, fun h => ?_⟩) ?_
  ·have hg := hle _ hg
   have hz := hle1 (of_decide_eq_true hg)
   exact (lits.cv A c ns m r u1 (hd.mono hu1) hz.len hz.names).mono fun v cs u2 hu2 ⟨hc, A', c', hv, hd'⟩ => ⟨((A', ns.length, c'), m, r, ()), (), hv, hc, Mem.le_trans hu1 hu2, fun _ => ⟨A', c', rfl, hd'⟩⟩
  ·have hg := hle _ hg
   exact absurd h (of_decide_eq_false hg)
  rintro xs _ u2 ⟨hu2, hx⟩
  refine hold_callg (fun ys _ u3 => ns.length ≤ 100 → ys.1 = rightF ns m r) (fun hg => ?_) (fun hg h => ?_) ?_
  ·have hg := of_decide_eq_true (hle _ hg)
   obtain ⟨A', c', rfl, hd'⟩ := hx hg
   exact (rright.cv A' c' ns m r u2 hd' (hle1 hg)).mono fun v cs u3 hu3 ⟨hc, hv⟩ => ⟨(rightF ns m r, ()), (), hv, hc, fun _ => rfl⟩
  ·have hg := hle _ hg
   exact absurd h (of_decide_eq_false hg)
  rintro ⟨y, _⟩ _ u3 hy
  refine ⟨rfl, ?_⟩
  show Value.bool (bif cmpI .leq (ns.length : Int) 100 then y else false) = _
  congr 1
  rw [show cmpI .leq (ns.length : Int) 100 = decide (ns.length ≤ 100) from (hle _ rfl).symm]
  by_cases h : ns.length ≤ 100
  ·rw [decide_eq_true h, show y = _ from hy h]; rfl
  ·rw [decide_eq_false h]; rfl
end Go.Proofs.YtpfbimkpcnnfkaaGreatDoor.Sx
set_option maxRecDepth 100000
set_option linter.unusedVariables false
set_option linter.unusedSimpArgs false
namespace Go.Proofs.YtpfbimkpcnnfkaaGreatDoor.Sx
open Go Go.RowKit Go.Proofs.YtpfbimkpcnnfkaaGreatDoor Go.Proofs.YtpfbimkpcnnfkaaGreatDoor.Ext
theorem cmp_neg : ∀ a b : List UInt8, Lib.compareBytes a b < 0 ↔ Op.bytesLess a b = true
 | [], [] => by simp [Lib.compareBytes, Op.bytesLess]
 | [], _ :: _ => by simp [Lib.compareBytes, Op.bytesLess]
 | _ :: _, [] => by simp [Lib.compareBytes, Op.bytesLess]
 | a :: u, b :: v => by
  unfold Lib.compareBytes Op.bytesLess
  by_cases h1 : a < b
  ·simp [h1]
  ·by_cases h2 : b < a
   ·have hne : ¬ a = b := by rintro rfl; exact h1 h2
    simp [h1, h2, hne]
   ·have he : a = b := UInt8.le_antisymm (UInt8.not_lt.1 h2) (UInt8.not_lt.1 h1)
    subst he
    simp [h1, cmp_neg u v]
theorem less_trans : ∀ a b c : List UInt8, Op.bytesLess a b = true → Op.bytesLess b c = true → Op.bytesLess a c = true
 | [], [], _, h, _ => by simp [Op.bytesLess] at h
 | [], _ :: _, [], _, h => by simp [Op.bytesLess] at h
 | [], _ :: _, _ :: _, _, _ => by simp [Op.bytesLess]
 | _ :: _, [], _, h, _ => by simp [Op.bytesLess] at h
 | _ :: _, _ :: _, [], _, h => by simp [Op.bytesLess] at h
 | a :: u, b :: v, c :: x, h1, h2 => by
  simp only [Op.bytesLess, Bool.or_eq_true, decide_eq_true_eq, Bool.and_eq_true, beq_iff_eq] at h1 h2 ⊢
  rcases h1 with h1 | ⟨rfl, h1⟩
  ·rcases h2 with h2 | ⟨rfl, h2⟩
   ·exact .inl (UInt8.lt_trans h1 h2)
   ·exact .inl h1
  ·rcases h2 with h2 | ⟨rfl, h2⟩
   ·exact .inl h2
   ·exact .inr ⟨rfl, less_trans u v x h1 h2⟩
theorem less_total : ∀ a b : List UInt8, Op.bytesLess a b = false → a ≠ b → Op.bytesLess b a = true
 | [], [], _, h => by simp at h
 | [], _ :: _, h, _ => by simp [Op.bytesLess] at h
 | _ :: _, [], _, _ => by simp [Op.bytesLess]
 | a :: u, b :: v, h, hne => by
  simp only [Op.bytesLess, Bool.or_eq_false_iff, decide_eq_false_iff_not, Bool.and_eq_false_iff] at h
  simp only [Op.bytesLess, Bool.or_eq_true, decide_eq_true_eq, Bool.and_eq_true, beq_iff_eq]
  obtain ⟨h1, h2⟩ := h
  by_cases he : a = b
  ·subst he
   exact .inr ⟨rfl, less_total u v (h2.resolve_left (by simp)) (by rintro rfl; exact hne rfl)⟩
  ·exact .inl (UInt8.lt_of_le_of_ne (UInt8.not_lt.1 h1) (Ne.symm he))
def Rising (l : List En) : Prop := ∀ (j : Nat) x y, l[j]? = some x → l[j + 1]? = some y → Op.bytesLess x.f0.data.toList y.f0.data.toList = true
theorem Rising.lt {l : List En} (h : Rising l) : ∀ (k a : Nat) x y, l[a]? = some x → l[a + k + 1]? = some y → Op.bytesLess x.f0.data.toList y.f0.data.toList = true
 | 0, a, x, y, hx, hy => h a x y hx hy
 | k + 1, a, x, y, hx, hy => by
  obtain ⟨z, hz⟩ : ∃ z, l[a + k + 1]? = some z := ⟨_, List.getElem?_eq_getElem (by have := (List.getElem?_eq_some_iff.1 hy).1; omega)⟩
  exact less_trans _ _ _ (h.lt k a x z hx hz) (h (a + k + 1) z y hz hy)
theorem Rising.sorted {l : List En} (h : Rising l) (name : ByteArray) : Sorted l name := by
 have hl : ∀ (a b : Nat) x y, a < b → l[a]? = some x → l[b]? = some y → Op.bytesLess x.f0.data.toList y.f0.data.toList = true := by
  intro a b x y hab hx hy
  exact h.lt (b - a - 1) a x y hx (by rw [show a + (b - a - 1) + 1 = b by omega]; exact hy)
 constructor
 ·intro a b x y hab hx hy ho
  rcases Nat.lt_or_ge a b with h1 | h1
  ·exact (cmp_neg _ _).2 (less_trans _ _ _ (hl a b x y h1 hx hy) ((cmp_neg _ _).1 ho))
  ·have : a = b := by omega
   subst this; rw [hx] at hy; cases hy; exact ho
 ·intro a b x y hab hx hy ho
  rcases Nat.lt_or_ge a b with h1 | h1
  ·have hxy := hl a b x y h1 hx hy
   rcases Int.lt_trichotomy (ord y name) 0 with h2 | h2 | h2
   ·have := (cmp_neg _ _).2 (less_trans _ _ _ hxy ((cmp_neg _ _).1 h2))
    unfold ord at ho; omega
   ·have e := (cmp_zero _ _).1 h2
    have := (cmp_neg _ _).2 (e ▸ hxy : Op.bytesLess x.f0.data.toList name.data.toList = true)
    unfold ord at ho; omega
   ·exact h2
  ·have : a = b := by omega
   subst this; rw [hx] at hy; cases hy; exact ho
theorem rising_of {l : List En} (h : sortedF l = true) : Rising l := by
 intro j x y hx hy
 have h1 := List.all_eq_true.1 h (j + 1) (List.mem_range.2 (List.getElem?_eq_some_iff.1 hy).1)
 unfold sortedAt at h1
 rw [getD_of hy, Nat.add_sub_cancel, getD_of hx] at h1
 simp only [Bool.and_eq_true, Bool.or_eq_true, decide_eq_true_eq, Bool.not_eq_true', cmpT, Bool.or_eq_false_iff, beq_eq_false_iff_ne, ne_eq] at h1
 have h2 := h1.2.resolve_left (by omega)
 have := less_total _ _ h2.1 h2.2
 rwa [toList_data, toList_data] at this
theorem names_up (ns : List Nd) (i : Int) : ∀ k, (namesAt ns i k).1 = 0 ∨ 0 ≤ (namesAt ns i k).2
 | 0 => .inl rfl
 | k + 1 => by
  have ih := names_up ns i k
  simp only [namesAt]
  by_cases h : countF (ns.getD k zNd) i = 0
  ·rw [if_pos h, h]; simpa using ih
  ·rw [if_neg h]; exact .inr (by omega)
theorem nd_ok {ns : List Nd} {i : Nat} {n : Nd} (hi : ns[i]? = some n) (h : right1F ns i = true) (h6 : n.f6.size ≤ 300) (h7 : n.f7.length ≤ 60) : NdOk n := by
 unfold right1F at h
 simp only [getD_of hi] at h
 split at h
 ·rw [of_decide_eq_true h]; exact zNd_ok
 split at h
 ·cases h
 rename_i _ hm
 split at h
 ·cases h
 rename_i hs
 split at h
 ·cases h
 rename_i he
 refine ⟨by omega, (rising_of ?_).sorted, by omega, fun h2 => ?_, fun e hm => ?_, by omega⟩
 ·cases hh : sortedF n.f7 with
  | true => rfl
  | false => exact absurd (.inr (.inr hh)) hs
 ·split at h
  ·have := of_decide_eq_true h; omega
  split at h
  ·cases h
  split at h
  ·have := (of_decide_eq_true h).2; omega
  ·rename_i hz
   rw [Bool.and_eq_true] at h
   have h3 := of_decide_eq_true h.1
   have h4 := names_up ns i ns.length
   unfold namesF at h3 hz
   omega
 ·obtain ⟨k, hk⟩ := List.getElem?_of_mem hm
  have h1 : (List.range n.f7.length).all (entOk ns n.f7) = true := by simpa using he
  have := List.all_eq_true.1 h1 k (List.mem_range.2 (List.getElem?_eq_some_iff.1 hk).1)
  unfold entOk at this
  rw [getD_of hk, Bool.and_eq_true] at this
  have := this.1
  unfold getB at this
  exact (of_decide_eq_true this).1
theorem ns_ok {ns : List Nd} {m r : Int} (h : okF ns m r = true) : NsOk ns := by
 unfold okF at h
 simp only [Bool.and_eq_true, decide_eq_true_eq] at h
 obtain ⟨h1, h2, h3⟩ := h
 refine ⟨by omega, fun n hn => ?_⟩
 obtain ⟨i, hi⟩ := List.getElem?_of_mem hn
 have hz := okF.sizes h1 h2 n hn
 unfold rightF at h3
 rw [Bool.and_eq_true] at h3
 exact nd_ok hi (List.all_eq_true.1 h3.2 i (List.mem_range.2 (List.getElem?_eq_some_iff.1 hi).1)) hz.1 hz.2
end Go.Proofs.YtpfbimkpcnnfkaaGreatDoor.Sx
