/- By Sx: the walker's step, as far as it does not hop. -/
import Derived.Test.YthagmakojbfmaaaDoorSwD
set_option maxRecDepth 100000
set_option linter.unusedVariables false
set_option linter.unusedSimpArgs false
namespace Go.Proofs.YthagmakojbfmaaaDoor.Sx
open Go Go.RowKit Go.Proofs.YthagmakojbfmaaaDoor
def StrsAt (u : Mem) (a : Option Addr) (l : List ByteArray) : Prop := ∀ (i : Nat) x, l[i]? = some x → Reads u a i [.string x]
theorem StrsAt.mono {u u' : Mem} {a : Option Addr} {l : List ByteArray} (h : StrsAt u a l) (hu : u.le u') : StrsAt u' a l := fun i x hi => (h i x hi).mono hu
structure PartsAt (u : Mem) (p : Option Addr × Nat × Nat) (ps : List ByteArray) : Prop where
  len : p.2.1 = ps.length
  cap : p.2.1 ≤ p.2.2
  at_ : StrsAt u p.1 ps
theorem PartsAt.mono {u u' : Mem} {p : Option Addr × Nat × Nat} {ps : List ByteArray} (h : PartsAt u p ps) (hu : u.le u') : PartsAt u' p ps := ⟨h.len, h.cap, h.at_.mono hu⟩
def rest1 (p : Option Addr × Nat × Nat) : Option Addr × Nat × Nat := (if p.2.2 = 1 then p.1 else p.1.map fun x => x.add 1, p.2.1 - 1, p.2.2 - 1)
theorem PartsAt.rest {u : Mem} {p : Option Addr × Nat × Nat} {x : ByteArray} {ps : List ByteArray} (h : PartsAt u p (x :: ps)) : PartsAt u (rest1 p) ps := by
  obtain ⟨h1, h2, h3⟩ := h
  simp only [List.length_cons] at h1
  refine ⟨by simp only [rest1]; omega, by simp only [rest1]; omega, fun i y hi => ?_⟩
  obtain ⟨b, f, e, hh⟩ := h3 (i + 1) y (by simpa using hi)
  have hlt := (List.getElem?_eq_some_iff.1 hi).1
  simp only [rest1]
  rw [if_neg (by omega), e]
  refine ⟨b, f + 1, by simp [Addr.add], fun j v hj => ?_⟩
  have := hh j v hj
  rwa [show f + 1 + i + j = f + (i + 1) + j by omega]
def StepR (A : Option Addr) (n c : Nat) (m r : Int) (s : Int × Wk × List ByteArray) (v : Value) (cs : List (List Value)) (u' : Mem) : Prop :=
  ErrAt u' v s.1 ∧ ∃ p, cs = [cv K1 (s.2.1.row (A, n, c) m r p)] ∧ (s.1 = 0 → PartsAt u' p s.2.2)
def HopOk (A : Option Addr) (n c : Nat) (m r : Int) (hopF : Wk → ByteArray → List ByteArray → Int × Wk × List ByteArray) : Prop :=
  ∀ (k : Wk) (text : ByteArray) (rest : List ByteArray) (p q : Option Addr × Nat × Nat) (b : Nat) (u : Mem), text.size ≤ 1000 → rest.length ≤ 1000000 → PartsAt u q rest →
    CV Tryd.prog 57 [.pointer (some ⟨b, 0, none⟩), .string text, .slice q.1 q.2.1 q.2.2] [(b, cv K1 (k.row (A, n, c) m r p))] u (StepR A n c m r (hopF k text rest))
def tailF (hopF : Wk → ByteArray → List ByteArray → Int × Wk × List ByteArray) (k : Wk) (part : ByteArray) (rest : List ByteArray) (ino : Int) (n : Nd) : Int × Wk × List ByteArray :=
  if ino = -1 then (if rest = [] then (0, k.ended ⟨k.at_, part, -1, k.slash⟩, [part]) else (2, k, []))
  else if n.f0 = 3 ∧ (¬ rest = [] ∨ k.follow = true ∨ k.slash = true) then hopF k n.f6 rest
  else if rest = [] then (if k.slash = true ∧ ¬ n.f0 = 2 then (4, k, []) else (0, { k.ended ⟨k.at_, part, ino, k.slash⟩ with at_ := ino }, []))
  else (0, { k with at_ := ino }, rest)
def stepF (hopF : Wk → ByteArray → List ByteArray → Int × Wk × List ByteArray) (ns : List Nd) (k : Wk) (part : ByteArray) (rest : List ByteArray) : Int × Wk × List ByteArray :=
  if ¬ hereB ns k.at_ = 0 then (hereB ns k.at_, k, [])
  else if mayB (getL ns k.at_).f1 (getL ns k.at_).f2 k.who 1 = false then (7, k, [])
  else tailF hopF k part rest (namedB k.at_ (getL ns k.at_) part) (getL ns (namedB k.at_ (getL ns k.at_) part))
set_option maxHeartbeats 1000000 in
theorem step.cv {hopF : Wk → ByteArray → List ByteArray → Int × Wk × List ByteArray} (A : Option Addr) (c : Nat) (ns : List Nd) (m r : Int) (hh : HopOk A ns.length c m r hopF) (k : Wk) (part : ByteArray) (rest : List ByteArray) (p : Option Addr × Nat × Nat) (b : Nat) (u : Mem)
    (hd : DiskAt u A ns) (hl : ns.length ≤ 1000000) (he : ∀ i, (getL ns i).f7.length ≤ 1000000 ∧ Sorted (getL ns i).f7 part ∧ (getL ns i).f6.size ≤ 1000) (hr : rest.length ≤ 1000000) (hp : PartsAt u p (part :: rest)) :
    CV Tryd.prog 40 [.pointer (some ⟨b, 0, none⟩)] [(b, cv K1 (k.row (A, ns.length, c) m r p))] u (StepR A ns.length c m r (stepF hopF ns k part rest)) := by
  obtain ⟨pa, pn, pc⟩ := p
  obtain ⟨q1, q2, q3⟩ := id hp
  simp only [List.length_cons] at q1 q2 q3
  refine cv_of names draws (fn := Tryd.f40) (b := bodyOf Tryd.f40) rfl rfl [] (step.args (k.row (A, ns.length, c) m r (pa, pn, pc))) (step.giv _) (fun _ => b) (step.run _) (by kernel_rfl) rfl rfl ?_
  simp only [step.T, Hold, PubTo, SV.den, E.den, denL, binI, cT_eql, cF_eql, cT_neq, cF_neq, cT_lss, cF_lss, cT_leq, cF_leq, cT_gtr, cF_gtr, cT_geq, cF_geq, tT_eql, tF_eql, tT_neq, tF_neq, rowsD, denLL, Ob.den, den_cells, List.map_nil, List.map_cons, true_implies, forall_const, true_and, and_true, Bool.true_eq_false, Bool.false_eq_true, reduceCtorEq, false_implies, implies_true, Bool.not_not, Bool.not_true, Bool.not_false, Bool.not_eq_true', Bool.not_eq_false', cond_true, cond_false, Nat.add_eq, Nat.mul_eq, Nat.sub_eq, Nat.add_zero, Nat.zero_mul, Nat.zero_add]
  refine (here.cv k ns A c m r (pa, pn, pc) b u hd hl).mono fun v cs u1 hu1 ⟨hc, a7, c7, e, hv, hE, h7, h8⟩ => ?_
  refine ⟨((getL ns k.at_).f0, (getL ns k.at_).f1, (getL ns k.at_).f2, (getL ns k.at_).f3, (getL ns k.at_).f4, (getL ns k.at_).f5, (getL ns k.at_).f6, (a7, (getL ns k.at_).f7.length, c7), e, ()), (k.row (A, ns.length, c) m r (pa, pn, pc), ()), hv, hc, fun b1 hb1 => ?_⟩
  unfold Wk.row
  dsimp only
  refine ⟨?_, fun hn => ?_, fun hn => ?_⟩
  · rcases hE with ⟨_, rfl⟩ | ⟨_, q, rfl, _⟩
    · exact .inl rfl
    · exact .inr ⟨_, _, rfl⟩
  · rcases id hE with ⟨_, rfl⟩ | ⟨h0, _⟩
    · cases hn
    · have : stepF hopF ns k part rest = (hereB ns k.at_, k, []) := by unfold stepF; rw [if_pos h0]
      rw [this]
      exact ⟨hE, (pa, pn, pc), rfl, fun h => absurd h h0⟩
  have d7 : (7 : Int) ≠ 0 := by decide
  have d2 : (2 : Int) ≠ 0 := by decide
  have d4 : (4 : Int) ≠ 0 := by decide
  have n0 : (0 : Int) < (pn : Int) := by omega
  have n1 : (1 : Int) ≤ (pn : Int) := by omega
  have n2 : (pn : Int) ≤ (pc : Int) := by omega
  obtain ⟨h0, rfl⟩ : hereB ns k.at_ = 0 ∧ e = .nilIface := by
    rcases hE with h | ⟨_, q, rfl, _⟩
    · exact h
    · cases hn
  refine (may.cv (getL ns k.at_).f1 (getL ns k.at_).f2 k.who 1 u1).mono fun v cs u2 hu2 ⟨hc2, hv2⟩ => ⟨(mayB (getL ns k.at_).f1 (getL ns k.at_).f2 k.who 1, ()), (), hv2, hc2, fun hm b3 hb3 u3 hu3 hw => ?_, fun hm => ?_⟩
  · have : stepF hopF ns k part rest = (7, k, []) := by unfold stepF; rw [if_neg (by simp [h0]), if_pos hm]
    rw [this]
    exact ⟨.inr ⟨d7, _, rfl, hw _ (List.mem_singleton.2 rfl) 0 _ rfl⟩, (pa, pn, pc), rfl, fun h => absurd h d7⟩
  have hu02 := Mem.le_trans hu1 hu2
  have hp0 := (q3 0 part rfl)
  refine ⟨⟨Int.le_refl 0, n0, hp0.some⟩, (part, ()), hp0.mono hu02, ⟨by decide, n1, n2⟩, ?_⟩
  refine (named.cv k (getL ns k.at_) part a7 c7 (A, ns.length, c) m r (pa, pn, pc) b u2 (h8.mono hu2) (he k.at_).1 (he k.at_).2.1).mono fun v cs u3 hu3 ⟨hc3, hv3⟩ => ⟨(namedB k.at_ (getL ns k.at_) part, ()), (k.row (A, ns.length, c) m r (pa, pn, pc), ()), hv3, hc3, ?_⟩
  refine (get.cv A c ns m r (namedB k.at_ (getL ns k.at_) part) u3 (hd.mono (Mem.le_trans hu02 hu3)) hl).mono fun v cs u4 hu4 ⟨hc4, a8, c8, hv4, h9, h10⟩ => ?_
  have hS : stepF hopF ns k part rest = tailF hopF k part rest (namedB k.at_ (getL ns k.at_) part) (getL ns (namedB k.at_ (getL ns k.at_) part)) := by
    have hm : mayB (getL ns k.at_).f1 (getL ns k.at_).f2 k.who 1 = true := hm
    unfold stepF; rw [if_neg (by simp [h0]), if_neg (by rw [hm]; decide)]
  rw [hS]
  clear hS
  have hsz := (he (namedB k.at_ (getL ns k.at_) part)).2.2
  have hp4 := hp.mono (Mem.le_trans (Mem.le_trans hu02 hu3) hu4)
  generalize namedB k.at_ (getL ns k.at_) part = ino at *
  generalize getL ns ino = N at *
  refine ⟨(N.f0, N.f1, N.f2, N.f3, N.f4, N.f5, N.f6, (a8, N.f7.length, c8), getB ns ino, ()), (), hv4, hc4, fun b4 hb4 => ?_⟩
  unfold Wk.row
  dsimp only
  have cr : cmpI .eql (((pn - 1 : Nat)) : Int) 0 = decide (rest = []) := by
    rw [cD_eql, q1]
    cases rest with
    | nil => rfl
    | cons x r => rw [Bool.eq_iff_iff]; simp; omega
  have cF : ∀ x y : Bool, (bif x then y else false) = (x && y) := fun x y => by cases x <;> rfl
  have cT : ∀ x y : Bool, (bif x then true else y) = (x || y) := fun x y => by cases x <;> rfl
  have ci : cmpI .eql ino (-1) = decide (ino = -1) := cD_eql
  have c3 : cmpI .eql N.f0 3 = decide (N.f0 = 3) := cD_eql
  have c2 : cmpI .neq N.f0 2 = decide (¬ N.f0 = 2) := cD_neq
  have pr : PartsAt u4 (rest1 (pa, pn, pc)) rest := hp4.rest
  have hbk : upd (upd (fun x => b) 3 b1) 9 b4 147 = b := rfl
  simp only [cF, cT, ci, cr, c3, c2, hbk]
  refine ⟨fun ht => ?_, fun hf => ⟨fun hi => ?_, fun hi => ⟨fun ht => ?_, fun hf3 => ⟨fun ht => ?_, fun hf4 => ⟨fun hr0 => ?_, fun hr0 => ?_⟩⟩⟩⟩⟩
  · have ht : ino = -1 ∧ rest = [] := by simpa using ht
    unfold tailF
    rw [if_pos ht.1, if_pos ht.2]
    have hpp : PartsAt u4 (pa, pn, pc) [part] := by rw [← ht.2]; exact hp4
    have hend := end_.cv2 k ⟨k.at_, part, -1, k.slash⟩ (A, ns.length, c) m r (pa, pn, pc) b u4
    refine CV.mono hend fun v cs u5 hu5 h5 => ?_
    refine ⟨(), ((k.ended ⟨k.at_, part, -1, k.slash⟩).row (A, ns.length, c) m r (pa, pn, pc), ()), h5.1, h5.2, ?_⟩
    dsimp only
    exact ⟨.inl ⟨rfl, rfl⟩, (pa, pn, pc), rfl, fun _ => hpp.mono hu5⟩
  · have hi : ino = -1 := hi
    have hf : ¬ rest = [] := fun h => by
      have : (decide (ino = -1) && decide (rest = [])) = false := hf
      rw [decide_eq_true hi, decide_eq_true h] at this; cases this
    unfold tailF
    rw [if_pos hi, if_neg hf]
    exact fun b5 hb5 u5 hu5 hw => ⟨.inr ⟨d2, _, rfl, hw _ (List.mem_singleton.2 rfl) 0 _ rfl⟩, (pa, pn, pc), rfl, fun h => absurd h d2⟩
  · have hi : ¬ ino = -1 := hi
    have ht : N.f0 = 3 ∧ (¬ rest = [] ∨ k.follow = true ∨ k.slash = true) := by
      have : (decide (N.f0 = 3) && (!decide (rest = []) || k.follow || k.slash)) = true := ht
      simpa [or_assoc] using this
    unfold tailF
    rw [if_neg hi, if_pos ht]
    exact (hh k N.f6 rest (pa, pn, pc) (rest1 (pa, pn, pc)) b u4 hsz hr pr).mono fun v cs u5 hu5 ⟨hE5, q, hc5, hp5⟩ => ⟨(v, ()), ((hopF k N.f6 rest).2.1.row (A, ns.length, c) m r q, ()), rfl, hc5, hE5, q, rfl, hp5⟩
  all_goals
    have hi : ¬ ino = -1 := hi
    have h3 : ¬ (N.f0 = 3 ∧ (¬ rest = [] ∨ k.follow = true ∨ k.slash = true)) := by
      intro h
      have h' : (decide (N.f0 = 3) && (!decide (rest = []) || k.follow || k.slash)) = false := hf3
      have h'' : (decide (N.f0 = 3) && (!decide (rest = []) || k.follow || k.slash)) = true := by simpa [or_assoc] using h
      rw [h''] at h'; cases h'
    unfold tailF
    rw [if_neg hi, if_neg h3]
  · have ht : (rest = [] ∧ k.slash = true) ∧ ¬ N.f0 = 2 := by
      have : ((decide (rest = []) && k.slash) && decide (¬ N.f0 = 2)) = true := ht
      simpa using this
    rw [if_pos ht.1.1, if_pos ⟨ht.1.2, ht.2⟩]
    exact fun b5 hb5 u5 hu5 hw => ⟨.inr ⟨d4, _, rfl, hw _ (List.mem_singleton.2 rfl) 0 _ rfl⟩, (pa, pn, pc), rfl, fun h => absurd h d4⟩
  · have hr0 : rest = [] := by
      have : ((pn - 1 : Nat) : Int) = 0 := hr0
      have : rest.length = 0 := by omega
      exact List.length_eq_zero_iff.1 this
    have hf4 : ¬ (k.slash = true ∧ ¬ N.f0 = 2) := by
      intro h
      have h' : ((decide (rest = []) && k.slash) && decide (¬ N.f0 = 2)) = false := hf4
      have h'' : ((decide (rest = []) && k.slash) && decide (¬ N.f0 = 2)) = true := by simp [hr0, h.1, h.2]
      rw [h''] at h'; cases h'
    rw [if_pos hr0, if_neg hf4]
    have hpp : PartsAt u4 (rest1 (pa, pn, pc)) [] := by rw [← hr0]; exact pr
    have hend := end_.cv2 k ⟨k.at_, part, ino, k.slash⟩ (A, ns.length, c) m r (pa, pn, pc) b u4
    refine CV.mono hend fun v cs u5 hu5 h5 => ?_
    refine ⟨(), ((k.ended ⟨k.at_, part, ino, k.slash⟩).row (A, ns.length, c) m r (pa, pn, pc), ()), h5.1, h5.2, ?_⟩
    dsimp only
    exact ⟨.inl ⟨rfl, rfl⟩, rest1 (pa, pn, pc), rfl, fun _ => hpp.mono hu5⟩
  · have hr0 : ¬ rest = [] := by
      intro h
      have : ¬ ((pn - 1 : Nat) : Int) = 0 := hr0
      rw [h] at q1
      simp at q1
      omega
    rw [if_neg hr0]
    exact ⟨.inl ⟨rfl, rfl⟩, rest1 (pa, pn, pc), rfl, fun _ => pr⟩
end Go.Proofs.YthagmakojbfmaaaDoor.Sx
