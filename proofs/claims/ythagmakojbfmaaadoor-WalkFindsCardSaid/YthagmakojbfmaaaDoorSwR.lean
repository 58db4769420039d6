/- By Sx: the law's own disk, and whether it is right; a right disk is one that ways may be gone on. -/
import Derived.Test.YthagmakojbfmaaaDoorSwP
/- By Sx: the document's Right; the law's own disk, and whether it is right. -/
set_option maxRecDepth 100000
set_option linter.unusedVariables false
set_option linter.unusedSimpArgs false
namespace Go.Proofs.YthagmakojbfmaaaDoor.Sx
open Go Go.RowKit Go.Proofs.YthagmakojbfmaaaDoor Go.Proofs.YthagmakojbfmaaaDoor.Ext
theorem rright.cv (A : Option Addr) (c : Nat) (ns : List Nd) (m r : Int) (u : Mem) (hd : DiskAt u A ns) (hs : Szs ns) :
    CV Tryd.prog 19 [.agg #[.slice A ns.length c, .int .i64 m, .int .i64 r]] [] u fun v cs _ => cs = [] ∧ v = .bool (rightF ns m r) := by
  refine cv_of names draws (fn := Tryd.f19) (b := bodyOf Tryd.f19) rfl rfl [⟨4, [3], []⟩] (rright.args ((A, ns.length, c), m, r, ())) (rright.giv _) (fun _ => 0) (rright.run _) (by kernel_rfl) rfl rfl ?_
  unfold rright.T
  intro b1 hb1
  have hl0 : ((ns.length : Int) = 0) = (ns = []) := propext ⟨fun h => List.length_eq_zero_iff.1 (by omega), fun h => by rw [h]; rfl⟩
  refine hold_callg (fun xs _ u2 => u.le u2 ∧ (¬ (ns = [] ∨ m < (ns.length : Int)) → xs.1 = bytesF ns)) (fun hg => ?_) (fun hg => ⟨Mem.le_refl u, fun h => ?_⟩) ?_
  · exact (rbytes.cv A c ns m r u hd hs.len hs.data).mono' fun v cs u2 hu2 ⟨hc, hv⟩ => ⟨(bytesF ns, ()), (), hv, hc, hu2, fun _ => rfl⟩
  · simp only [E.den, cD_eql, cD_gtr, bOr, bNot, decide_eq_false_iff_not] at hg
    have hg : ¬ ¬ ((ns.length : Int) = 0 ∨ m < (ns.length : Int)) := hg
    rw [hl0] at hg
    exact absurd h hg
  rintro ⟨s, _⟩ _ u2 ⟨hu2, hso⟩
  have hso : ¬ (ns = [] ∨ m < (ns.length : Int)) → s = bytesF ns := hso
  have hP : ∀ x : Int, ((((ns.length : Int) = 0 ∨ m < (ns.length : Int)) ∨ r < s) ∨ ¬ x = 2) ↔ ¬ (ns ≠ [] ∧ (ns.length : Int) ≤ m ∧ bytesF ns ≤ r ∧ x = 2) := fun x => by
    rw [hl0]
    by_cases h : ns = [] ∨ m < (ns.length : Int)
    · refine ⟨fun _ h2 => ?_, fun _ => .inl (.inl h)⟩
      rcases h with h | h
      · exact h2.1 h
      · omega
    · rw [hso h]
      have h1 : ¬ ns = [] := fun e => h (.inl e)
      have h2 : ¬ m < (ns.length : Int) := fun e => h (.inr e)
      simp only [h1, h2, false_or, not_false_eq_true, ne_eq, true_and]
      omega
  have hob : ∀ P : Prop, (¬ (((ns.length : Int) = 0 ∨ m < (ns.length : Int)) ∨ r < s)) → (ns ≠ [] → P) → P := fun P h hp => hp fun e => h (.inl (.inl (by rw [hl0]; exact e)))
  obtain ⟨x0, hx0⟩ : ∃ x0, (ns.getD 0 zNd).f0 = x0 := ⟨_, rfl⟩
  have hgd : ns ≠ [] → Reads u2 A 0 [.int .i64 x0] := fun hne => by
    obtain ⟨n, hn⟩ : ∃ n, ns[0]? = some n := ⟨_, List.getElem?_eq_getElem (List.length_pos_iff.2 hne)⟩
    obtain ⟨a7, c7, k1, k2, k3⟩ := hd 0 n hn
    rw [getD_of hn] at hx0
    have := (k2.part 0 1).mono hu2
    rw [← hx0]; exact this
  refine ⟨fun hg => ?_, fun hg => ?_, hold_uldg (fun x => ¬ (((ns.length : Int) = 0 ∨ m < (ns.length : Int)) ∨ r < s) → x = (x0, ())) (fun hg => ?_) (fun hg h => ?_) ?_⟩
  · simp only [E.den, cD_eql, cD_gtr, bOr, bNot, decide_eq_true_eq] at hg
    have hg : ¬ (((ns.length : Int) = 0 ∨ m < (ns.length : Int)) ∨ r < s) := hg
    refine hob _ hg fun hne => ?_
    have := List.length_pos_iff.2 hne
    exact ⟨Int.le_refl 0, by show (0 : Int) < (ns.length : Int); omega, (hgd hne).some⟩
  · simp only [E.den, cD_eql, cD_gtr, bOr, bNot, decide_eq_true_eq] at hg
    have hg : ¬ (((ns.length : Int) = 0 ∨ m < (ns.length : Int)) ∨ r < s) := hg
    exact hob _ hg fun hne => (hgd hne).some
  · simp only [E.den, cD_eql, cD_gtr, bOr, bNot, decide_eq_true_eq] at hg
    have hg : ¬ (((ns.length : Int) = 0 ∨ m < (ns.length : Int)) ∨ r < s) := hg
    exact ⟨(x0, ()), hob _ hg fun hne => hgd hne, fun _ => rfl⟩
  · simp only [E.den, cD_eql, cD_gtr, bOr, bNot, decide_eq_false_iff_not] at hg
    have hg : ¬ ¬ (((ns.length : Int) = 0 ∨ m < (ns.length : Int)) ∨ r < s) := hg
    exact absurd h hg
  rintro ⟨x1, _⟩ hx1
  have hPx : ((((ns.length : Int) = 0 ∨ m < (ns.length : Int)) ∨ r < s) ∨ ¬ x1 = 2) ↔ ¬ (ns ≠ [] ∧ (ns.length : Int) ≤ m ∧ bytesF ns ≤ r ∧ (ns.getD 0 zNd).f0 = 2) := by
    rw [hx0]
    by_cases h : (((ns.length : Int) = 0 ∨ m < (ns.length : Int)) ∨ r < s)
    · exact ⟨fun _ => (hP x0).1 (.inl h), fun _ => .inl h⟩
    · have := hx1 h
      injection this with e
      rw [e]; exact hP x0
  refine ⟨fun h => ?_, fun h => ?_⟩
  · simp only [E.den, cD_eql, cD_gtr, cD_neq, bOr, decide_eq_true_eq] at h
    have h := hPx.1 h
    unfold rightF
    rw [decide_eq_false h]; exact ⟨rfl, rfl⟩
  simp only [E.den, cD_eql, cD_gtr, cD_neq, bOr, decide_eq_false_iff_not] at h
  have h := fun hh => h (hPx.2 hh)
  have h := Classical.not_not.1 h
  unfold rightF
  rw [decide_eq_true h, Bool.true_and]
  refine hold_count ns.length (fun i u' => u.le u' ∧ (List.range i).all (right1F ns) = true) ⟨hu2, rfl⟩ ?_
  rintro i u3 hi ⟨hu3, hI⟩
  refine ⟨fun hlt => ?_, fun hge => ?_⟩
  · simp only [E.den, cT_lss] at hlt
    have hlt : (i : Int) < (ns.length : Int) := hlt
    have hil : i < ns.length := by omega
    refine hold_call ((rright1.cv A c ns m r i u3 (hd.mono hu3) hs hil).mono fun v cs u4 hu4 ⟨hc, hv⟩ => ⟨(right1F ns i, ()), (), hv, hc, fun h0 => ?_, fun h0 => ⟨by simp, ?_⟩⟩)
    · have h0 : (!right1F ns i) = true := h0
      rw [all_no hil (by simpa using h0)]; exact ⟨rfl, rfl⟩
    · have h0 : (!right1F ns i) = false := h0
      simp only [if_true]
      refine ⟨by rw [← wrap_succ (show i < 4611686018427387904 by have := hs.len; omega)]; rfl, rfl, hil, Mem.le_trans hu3 hu4, ?_⟩
      rw [all_succ, hI, Bool.true_and]; simpa using h0
  · simp only [E.den, cF_lss] at hge
    have hge : (ns.length : Int) ≤ (i : Int) := hge
    obtain rfl : i = ns.length := by omega
    rw [hI]; exact ⟨rfl, rfl⟩
theorem Grow.shift {v u u2 : Mem} {s : Option Addr × Nat × Nat} {size : Nat} {es : List Value} (h : Grow v u s size es) (hne : s.1 = none ∨ 0 < s.2.2) (hu : u.le u2) (hsz : 0 < size) :
    ∃ v' : Mem, v.le v' ∧ v'.le u2 ∧ Grow v' u2 s size es ∧ ∀ k, (∀ o, u k o = none) → ∀ o, v' k o = u2 k o := by
  classical
  refine ⟨fun k o => if ∃ o', u k o' ≠ none then v k o else u2 k o, fun k o x hx => ?_, fun k o x hx => ?_, ⟨fun k o x hx => ?_, h.len, h.cap, ?_⟩, fun k hk o => if_neg fun ⟨o', ho'⟩ => ho' (hk o')⟩
  · show (if ∃ o', u k o' ≠ none then v k o else u2 k o) = some x
    rw [if_pos ⟨o, by rw [h.le _ _ _ hx]; simp⟩]; exact hx
  · have hx : (if ∃ o', u k o' ≠ none then v k o else u2 k o) = some x := hx
    split at hx
    · exact hu _ _ _ (h.le _ _ _ hx)
    · exact hx
  · have hx : (if ∃ o', u k o' ≠ none then v k o else u2 k o) = some x := hx
    split at hx
    · exact hu _ _ _ (h.le _ _ _ hx)
    · exact hx
  · rcases h.at_ with h0 | ⟨b, sp, h1, h2, h3, h4⟩
    · exact .inl h0
    · refine .inr ⟨b, sp, h1, fun o => ?_, fun j x hx => hu _ _ _ (h3 j x hx), h4⟩
      have hc : 0 < s.2.2 := hne.resolve_left (by rw [h1]; simp)
      have hl : 0 < (es ++ sp).length := by rw [h4]; exact Nat.mul_pos hc hsz
      show (if ∃ o', u b o' ≠ none then v b o else u2 b o) = none
      rw [if_pos ⟨0, by rw [h3 0 _ (List.getElem?_eq_getElem hl)]; simp⟩]
      exact h2 o
def entC (l : List En) : List Value := l.flatMap fun e => [.string e.f0, .int .i64 e.f1]
theorem entC_at (l : List En) (i : Nat) (e : En) (h : l[i]? = some e) : ∀ (j : Nat) x, ([.string e.f0, .int .i64 e.f1] : List Value)[j]? = some x → (entC l)[i * 2 + j]? = some x := by
  induction l generalizing i with
  | nil => simp at h
  | cons f l ih =>
    intro j x hx
    show (_ ++ entC l)[i * 2 + j]? = some x
    have hj : j < 2 := (List.getElem?_eq_some_iff.1 hx).1
    cases i with
    | zero =>
      simp only [List.getElem?_cons_zero, Option.some.injEq] at h
      subst h
      rw [List.getElem?_append_left (by simp only [List.length_cons, List.length_nil]; omega)]
      simpa using hx
    | succ i =>
      rw [List.getElem?_append_right (by simp only [List.length_cons, List.length_nil]; omega)]
      have := ih i (by simpa using h) j x hx
      rw [← this]; congr 1; simp only [List.length_cons, List.length_nil]; omega
theorem entC_succ (l : List En) (i : Nat) (e : En) (h : l[i]? = some e) : entC (l.take (i + 1)) = entC (l.take i) ++ [.string e.f0, .int .i64 e.f1] := by
  obtain ⟨g, rfl⟩ := List.getElem?_eq_some_iff.1 h
  unfold entC
  rw [List.take_succ_eq_append_getElem g, List.flatMap_append]; rfl
theorem lnode.cv (n : Nd) (A : Option Addr) (c : Nat) (u : Mem) (hd : EntAt u A n.f7) (hn : n.f7.length ≤ 1000000) :
    CV Tryd.prog 31 [.agg (Sx.cv K0 (n.row A c)).toArray] [] u fun v cs u' => cs = [] ∧ ∃ s : Option Addr × Nat × Nat, v = .agg (Sx.cv K0 (n.row s.1 s.2.2)).toArray ∧ s.2.1 = n.f7.length ∧ Grow u u' s 2 (entC n.f7) := by
  refine cv_of names draws (fn := Tryd.f31) (b := bodyOf Tryd.f31) rfl rfl [⟨3, [4], [3]⟩] (lnode.args (n.row A c)) (lnode.giv _) (fun _ => 0) (lnode.run _) (by kernel_rfl) rfl rfl ?_
  unfold lnode.T
  intro b1 hb1 b2 hb2 b3 hb3
  refine hold_loop (sk := [.i .i64]) (oks := [K0]) (fun x y u' => ∃ (i : Nat) (s : Option Addr × Nat × Nat), x = ((i : Int), ()) ∧ y = ((n.f0, n.f1, n.f2, n.f3, n.f4, n.f5, n.f6, s, ()), ()) ∧ i ≤ n.f7.length ∧ s.2.1 = i ∧ Grow u u' s 2 (entC (n.f7.take i)))
    (fun x _ => ((n.f7.length : Int) - x.1).toNat) (0, ()) ((n.f0, n.f1, n.f2, n.f3, n.f4, n.f5, n.f6, (none, 0, 0), ()), ()) rfl rfl ⟨0, (none, 0, 0), rfl, rfl, by omega, rfl, Grow.nil⟩ ?_
  rintro x y u1 ⟨i, s, rfl, rfl, hi, hsi, hg⟩
  refine ⟨fun hlt => ?_, fun hge => ?_⟩
  · simp only [E.den, cT_lss] at hlt
    have hlt : (i : Int) < (n.f7.length : Int) := hlt
    have hil : i < n.f7.length := by omega
    obtain ⟨e, he⟩ : ∃ e, n.f7[i]? = some e := ⟨_, List.getElem?_eq_getElem hil⟩
    have re := (hd i e he).mono hg.le
    have b1 : (0 : Int) ≤ (i : Int) ∧ (i : Int) < (n.f7.length : Int) ∧ A.isSome = true := ⟨by omega, hlt, re.some⟩
    refine ⟨fun _ => b1, fun _ => ⟨(e.f0, e.f1, ()), by show Reads u1 A ((i : Int).toNat * 2) _; rw [Int.toNat_natCast]; exact re, ?_⟩, fun h => by cases h⟩
    intro b4 hb4
    refine ⟨fun _ u3 h3 hw => ?_, fun h => by cases h⟩
    have hw' := hw _ (List.mem_singleton.2 rfl)
    refine (bv_one (P := Tryd.prog) (t := 52) (ty := 52) (e := 80) (z := .agg #[.string ⟨#[]⟩, .int .i64 0]) (size := 2) (bytes := 24) (by kernel_rfl) (by kernel_rfl) rfl (by decide) (u0 := u) (b := b4) (ys := [.string e.f0, .int .i64 e.f1]) (Mem.le_refl u) hg h3 hw' rfl (by simp [Value.oneCell']) (by omega) (by omega)).mono fun v u4 ⟨s', hv', hs', hg'⟩ => ⟨(s', ()), hv', by simp, ?_⟩
    simp only [if_true]
    refine ⟨(((i + 1 : Nat) : Int), ()), ((n.f0, n.f1, n.f2, n.f3, n.f4, n.f5, n.f6, s', ()), ()), by rw [← wrap_succ (show i < 4611686018427387904 by omega)]; rfl, rfl, ⟨i + 1, s', rfl, rfl, by omega, by rw [hs', hsi], by rw [entC_succ _ i e he]; exact hg'⟩, by simp only; omega⟩
  · simp only [E.den, cF_lss] at hge
    have hge : (n.f7.length : Int) ≤ (i : Int) := hge
    obtain rfl : i = n.f7.length := by omega
    rw [List.take_length] at hg
    refine ⟨rfl, s, ?_, hsi, hg⟩
    unfold Nd.row
    rw [← hsi]; rfl
end Go.Proofs.YthagmakojbfmaaaDoor.Sx
set_option maxRecDepth 100000
set_option linter.unusedVariables false
set_option linter.unusedSimpArgs false
namespace Go.Proofs.YthagmakojbfmaaaDoor.Sx
open Go Go.RowKit Go.Proofs.YthagmakojbfmaaaDoor Go.Proofs.YthagmakojbfmaaaDoor.Ext
structure NsC (v : Mem) (l : List Nd) (es : List Value) : Prop where
  len : es.length = l.length * 8
  at_ : ∀ (i : Nat) n, l[i]? = some n → ∃ a7 c7, n.f7.length ≤ c7 ∧ (∀ (k : Nat) x, (Sx.cv K0 (n.row a7 c7))[k]? = some x → es[i * 8 + k]? = some x) ∧ EntAt v a7 n.f7
theorem NsC.mono {v v' : Mem} {l : List Nd} {es : List Value} (h : NsC v l es) (hv : v.le v') : NsC v' l es := ⟨h.len, fun i n hi => by
  obtain ⟨a7, c7, h1, h2, h3⟩ := h.at_ i n hi
  exact ⟨a7, c7, h1, h2, h3.mono hv⟩⟩
theorem NsC.snoc {v : Mem} {l : List Nd} {es : List Value} {n : Nd} {a7 : Option Addr} {c7 : Nat} (h : NsC v l es) (h1 : n.f7.length ≤ c7) (h2 : EntAt v a7 n.f7) : NsC v (l ++ [n]) (es ++ Sx.cv K0 (n.row a7 c7)) := by
  refine ⟨by rw [List.length_append, h.len, List.length_append]; show _ + 8 = _; simp only [List.length_cons, List.length_nil]; omega, fun i x hi => ?_⟩
  rcases Nat.lt_or_ge i l.length with hl | hl
  · rw [List.getElem?_append_left hl] at hi
    obtain ⟨b7, d7, g1, g2, g3⟩ := h.at_ i x hi
    refine ⟨b7, d7, g1, fun k y hy => ?_, g3⟩
    have := g2 k y hy
    rw [List.getElem?_append_left (List.getElem?_eq_some_iff.1 this).1]; exact this
  · rw [List.getElem?_append_right hl] at hi
    have hi0 : i - l.length = 0 := by
      have := (List.getElem?_eq_some_iff.1 hi).1
      simp only [List.length_cons, List.length_nil] at this; omega
    rw [hi0] at hi
    simp only [List.getElem?_cons_zero, Option.some.injEq] at hi
    subst hi
    refine ⟨a7, c7, h1, fun k y hy => ?_, h2⟩
    have hil : i = l.length := by omega
    rw [List.getElem?_append_right (by rw [h.len, hil]; omega), h.len, hil, Nat.add_sub_cancel_left]; exact hy
theorem lits.cv (A : Option Addr) (c : Nat) (ns : List Nd) (m r : Int) (u : Mem) (hd : DiskAt u A ns) (hl : ns.length ≤ 1000000) (hs : ∀ n ∈ ns, n.f7.length ≤ 1000000) :
    CV Tryd.prog 14 [.agg #[.slice A ns.length c, .int .i64 m, .int .i64 r]] [] u fun v cs u' => cs = [] ∧ ∃ A' c', v = .agg #[.slice A' ns.length c', .int .i64 m, .int .i64 r] ∧ DiskAt u' A' ns := by
  refine cv_of names draws (fn := Tryd.f14) (b := bodyOf Tryd.f14) rfl rfl [⟨3, [4], [3]⟩] (lits.args ((A, ns.length, c), m, r, ())) (lits.giv _) (fun _ => 0) (lits.run _) (by kernel_rfl) rfl rfl ?_
  unfold lits.T
  intro b1 hb1 b2 hb2 b3 hb3
  refine hold_loop (sk := [.i .i64]) (oks := [[.s, .i .i64, .i .i64]]) (fun x y u' => ∃ (i : Nat) (s : Option Addr × Nat × Nat) (v' : Mem) (es : List Value), x = ((i : Int), ()) ∧ y = ((s, m, r, ()), ()) ∧ i ≤ ns.length ∧ s.2.1 = i ∧ (s.1 = none ∨ 0 < s.2.2) ∧ u.le v' ∧ Grow v' u' s 8 es ∧ NsC v' (ns.take i) es)
    (fun x _ => ((ns.length : Int) - x.1).toNat) (0, ()) (((none, 0, 0), m, r, ()), ()) rfl rfl ⟨0, (none, 0, 0), u, [], rfl, rfl, by omega, rfl, .inl rfl, Mem.le_refl u, Grow.nil, ⟨by simp, fun i n hi => by simp at hi⟩⟩ ?_
  rintro x y u1 ⟨i, s, v', es, rfl, rfl, hi, hsi, hne, huv, hg, hc⟩
  refine ⟨fun hlt => ?_, fun hge => ?_⟩
  · simp only [E.den, cT_lss] at hlt
    have hlt : (i : Int) < (ns.length : Int) := hlt
    have hil : i < ns.length := by omega
    obtain ⟨n, hn⟩ : ∃ n, ns[i]? = some n := ⟨_, List.getElem?_eq_getElem hil⟩
    have hnl := hs n (List.mem_of_getElem? hn)
    obtain ⟨a7, c7, k1, k2, k3⟩ := hd i n hn
    have hu1 := Mem.le_trans huv hg.le
    have rn := k2.mono hu1
    have b1 : (0 : Int) ≤ (i : Int) ∧ (i : Int) < (ns.length : Int) ∧ A.isSome = true := ⟨by omega, hlt, rn.some⟩
    refine ⟨fun _ => b1, fun _ => ⟨n.row a7 c7, by show Reads u1 A ((i : Int).toNat * 8) _; rw [Int.toNat_natCast]; exact rn, ?_⟩, fun h => by cases h⟩
    refine hold_call ((lnode.cv n a7 c7 u1 (k3.mono hu1) hnl).mono fun v cs u2 hu2 ⟨hcs, s7, hv, hs7, hg7⟩ => ⟨n.row s7.1 s7.2.2, (), hv, hcs, ?_⟩)
    obtain ⟨v2, w1, w2, hg2, w3⟩ := hg.shift hne hu2 (by decide)
    have hE : EntAt v2 s7.1 n.f7 := by
      intro j e he
      rcases hg7.at_ with ⟨_, h0⟩ | ⟨b, sp, h1, h2, h3, h4⟩
      · have h5 := hg7.cap
        have := (List.getElem?_eq_some_iff.1 he).1
        omega
      · refine ⟨b, 0, h1, fun k x hx => ?_⟩
        have h5 := entC_at n.f7 j e he k x hx
        rw [w3 b h2, Nat.zero_add]
        exact h3 _ _ (by rw [List.getElem?_append_left (List.getElem?_eq_some_iff.1 h5).1]; exact h5)
    intro b4 hb4
    refine ⟨fun _ u3 h3 hw => ?_, fun h => by cases h⟩
    have hw' := hw _ (List.mem_singleton.2 rfl)
    refine (bv_one (P := Tryd.prog) (t := 35) (ty := 35) (e := 54) (z := .agg #[.int .i64 0, .int .i64 0, .int .i64 0, .int .i64 0, .int .i64 0, .int .i64 0, .string ⟨#[]⟩, .slice none 0 0]) (size := 8) (bytes := 88) (by kernel_rfl) (by kernel_rfl) rfl (by decide) (u0 := u) (b := b4) (ys := Sx.cv K0 (n.row s7.1 s7.2.2)) (Mem.le_trans huv w1) hg2 h3 hw' rfl
      (by intro y hy; simp only [Nd.row, Sx.cv, List.mem_cons, List.mem_nil_iff, or_false] at hy; rcases hy with rfl | rfl | rfl | rfl | rfl | rfl | rfl | rfl <;> rfl) (by omega) (by omega)).mono fun v u4 ⟨s', hv', hs', hg'⟩ => ⟨(s', ()), hv', by simp, ?_⟩
    simp only [if_true]
    have hcap := hg'.cap
    refine ⟨(((i + 1 : Nat) : Int), ()), ((s', m, r, ()), ()), by rw [← wrap_succ (show i < 4611686018427387904 by omega)]; rfl, rfl, ⟨i + 1, s', v2, _, rfl, rfl, by omega, by rw [hs', hsi], .inr (by omega), Mem.le_trans huv w1, hg', ?_⟩, by simp only; omega⟩
    obtain ⟨g, hgn⟩ := List.getElem?_eq_some_iff.1 hn
    rw [List.take_succ_eq_append_getElem g, hgn]
    exact (hc.mono w1).snoc (by have := hg7.cap; omega) hE
  · simp only [E.den, cF_lss] at hge
    have hge : (ns.length : Int) ≤ (i : Int) := hge
    obtain rfl : i = ns.length := by omega
    rw [List.take_length] at hc
    refine ⟨rfl, s.1, s.2.2, by rw [← hsi]; rfl, fun j n hj => ?_⟩
    obtain ⟨a7, c7, h1, h2, h3⟩ := hc.at_ j n hj
    exact ⟨a7, c7, h1, hg.reads (k := 0) (by show 0 < 8; decide) h2, h3.mono hg.le⟩
def smallAt (ns : List Nd) (i : Nat) : Bool := decide ((ns.getD i zNd).f6.size ≤ 300 ∧ (ns.getD i zNd).f7.length ≤ 60)
def okF (ns : List Nd) (m r : Int) : Bool := (List.range (min ns.length 110)).all (smallAt ns) && (decide (ns.length ≤ 100) && rightF ns m r)
theorem okF.sizes {ns : List Nd} (hs : (List.range (min ns.length 110)).all (smallAt ns) = true) (hl : ns.length ≤ 100) : ∀ n ∈ ns, n.f6.size ≤ 300 ∧ n.f7.length ≤ 60 := by
  intro n hn
  obtain ⟨i, hi⟩ := List.getElem?_of_mem hn
  have := List.all_eq_true.1 hs i (List.mem_range.2 (by have := (List.getElem?_eq_some_iff.1 hi).1; omega))
  unfold smallAt at this
  rw [getD_of hi] at this
  simpa using this
theorem lright.cv (A : Option Addr) (c : Nat) (ns : List Nd) (m r : Int) (u : Mem) (hd : DiskAt u A ns) (hnm : ∀ n ∈ ns, ∀ e ∈ n.f7, e.f0.size ≤ 1000000000000000) :
    CV Tryd.prog 10 [.agg #[.slice A ns.length c, .int .i64 m, .int .i64 r]] [] u fun v cs _ => cs = [] ∧ v = .bool (okF ns m r) := by
  refine cv_of names draws (fn := Tryd.f10) (b := bodyOf Tryd.f10) rfl rfl [⟨2, [3], []⟩] (lright.args ((A, ns.length, c), m, r, ())) (lright.giv _) (fun _ => 0) (lright.run _) (by kernel_rfl) rfl rfl ?_
  unfold lright.T
  intro b1 hb1
  refine hold_count (min ns.length 110) (fun i u' => u.le u' ∧ (List.range i).all (smallAt ns) = true) ⟨Mem.le_refl u, rfl⟩ ?_
  rintro i u1 hi ⟨hu1, hI⟩
  refine ⟨fun hlt => ?_, fun hge => ?_⟩
  · simp only [E.den, cD_lss, bAnd, decide_eq_true_eq] at hlt
    have hlt : (i : Int) < (ns.length : Int) ∧ (i : Int) < 110 := hlt
    have hil : i < ns.length := by omega
    obtain ⟨n, hn⟩ : ∃ n, ns[i]? = some n := ⟨_, List.getElem?_eq_getElem hil⟩
    obtain ⟨a7, c7, k1, k2, k3⟩ := hd i n hn
    have rn := k2.mono hu1
    have b1 : (0 : Int) ≤ (i : Int) ∧ (i : Int) < (ns.length : Int) ∧ A.isSome = true := ⟨by omega, hlt.1, rn.some⟩
    have hp : smallAt ns i = decide (n.f6.size ≤ 300 ∧ n.f7.length ≤ 60) := by unfold smallAt; rw [getD_of hn]
    refine ⟨fun _ => b1, fun _ => rn.some, fun _ => ⟨(n.f6, ()), by show Reads u1 A ((i : Int).toNat * 8 + 6) _; rw [Int.toNat_natCast]; exact rn.part 6 1, ?_⟩, fun h => by cases h⟩
    refine ⟨fun _ => b1, fun _ => rn.some, hold_uldg (fun x => n.f6.size ≤ 300 → x = ((a7, n.f7.length, c7), ())) (fun hg => ⟨((a7, n.f7.length, c7), ()), by show Reads u1 A ((i : Int).toNat * 8 + 7) _; rw [Int.toNat_natCast]; exact rn.part 7 1, fun _ => rfl⟩) (fun hg h => ?_) ?_⟩
    · simp only [E.den, cD_gtr, bNot, decide_eq_false_iff_not] at hg
      have hg : ¬ ¬ (300 : Int) < (n.f6.size : Int) := hg
      omega
    rintro ⟨x, _⟩ hx
    have hiff : ((300 : Int) < (n.f6.size : Int) ∨ (60 : Int) < (x.2.1 : Int)) ↔ smallAt ns i = false := by
      rw [hp, decide_eq_false_iff_not]
      by_cases h : n.f6.size ≤ 300
      · have := hx h
        injection this with e
        rw [e]; show _ ∨ (60 : Int) < (n.f7.length : Int) ↔ _
        omega
      · exact ⟨fun _ h2 => h h2.1, fun _ => .inl (by omega)⟩
    refine ⟨fun h => ?_, fun h => ⟨by simp, ?_⟩⟩
    · simp only [E.den, cD_gtr, bOr, decide_eq_true_eq] at h
      have h := hiff.1 h
      unfold okF
      rw [all_no (i := i) (by omega) h]; exact ⟨rfl, rfl⟩
    · simp only [E.den, cD_gtr, bOr, decide_eq_false_iff_not] at h
      have h : smallAt ns i = true := by
        cases hh : smallAt ns i with
        | true => rfl
        | false => exact absurd (hiff.2 hh) h
      simp only [if_true]
      refine ⟨by rw [← wrap_succ (show i < 4611686018427387904 by omega)]; rfl, rfl, by omega, hu1, ?_⟩
      rw [all_succ, hI, h]; rfl
  · simp only [E.den, cD_lss, bAnd, decide_eq_false_iff_not] at hge
    have hge : ¬ ((i : Int) < (ns.length : Int) ∧ (i : Int) < 110) := hge
    obtain rfl : i = min ns.length 110 := by omega
    have hle : ∀ b : Bool, (E.den (.cmp .leq (.ofN (.at ns.length)) (.i 100) : E S.ty .B)) = b → decide (ns.length ≤ 100) = b := fun b hb => by
      rw [← hb]; show _ = cmpI .leq (ns.length : Int) 100
      rw [cD_leq, Bool.eq_iff_iff]; simp only [decide_eq_true_eq]; omega
    have hle1 : ns.length ≤ 100 → Szs ns := fun h => ⟨by omega, fun n hn => by have := (okF.sizes hI h n hn).2; omega, hnm, fun n hn => by have := (okF.sizes hI h n hn).1; omega⟩
    unfold okF
    rw [hI, Bool.true_and]
    refine hold_callg (fun xs _ u2 => u.le u2 ∧ (ns.length ≤ 100 → ∃ A' c', xs = ((A', ns.length, c'), m, r, ()) ∧ DiskAt u2 A' ns)) (fun hg => ?_) (fun hg => ⟨hu1, fun h => ?_⟩) ?_
    · have hg := hle _ hg
      have hz := hle1 (of_decide_eq_true hg)
      exact (lits.cv A c ns m r u1 (hd.mono hu1) hz.len hz.names).mono fun v cs u2 hu2 ⟨hc, A', c', hv, hd'⟩ => ⟨((A', ns.length, c'), m, r, ()), (), hv, hc, Mem.le_trans hu1 hu2, fun _ => ⟨A', c', rfl, hd'⟩⟩
    · have hg := hle _ hg
      exact absurd h (of_decide_eq_false hg)
    rintro xs _ u2 ⟨hu2, hx⟩
    refine hold_callg (fun ys _ u3 => ns.length ≤ 100 → ys.1 = rightF ns m r) (fun hg => ?_) (fun hg h => ?_) ?_
    · have hg := of_decide_eq_true (hle _ hg)
      obtain ⟨A', c', rfl, hd'⟩ := hx hg
      exact (rright.cv A' c' ns m r u2 hd' (hle1 hg)).mono fun v cs u3 hu3 ⟨hc, hv⟩ => ⟨(rightF ns m r, ()), (), hv, hc, fun _ => rfl⟩
    · have hg := hle _ hg
      exact absurd h (of_decide_eq_false hg)
    rintro ⟨y, _⟩ _ u3 hy
    refine ⟨rfl, ?_⟩
    show Value.bool (bif cmpI .leq (ns.length : Int) 100 then y else false) = _
    congr 1
    rw [show cmpI .leq (ns.length : Int) 100 = decide (ns.length ≤ 100) from (hle _ rfl).symm]
    by_cases h : ns.length ≤ 100
    · rw [decide_eq_true h, show y = _ from hy h]; rfl
    · rw [decide_eq_false h]; rfl
end Go.Proofs.YthagmakojbfmaaaDoor.Sx
