/- By Sx: all parts of a way: a plain function, and the walker's loop. -/
import Derived.Test.YthagmakojbfmaaaDoorSwF
import Derived.Test.YthagmakojbfmaaaDoorSxTc
set_option maxRecDepth 100000
set_option linter.unusedVariables false
set_option linter.unusedSimpArgs false
namespace Go.Proofs.YthagmakojbfmaaaDoor.Sx
open Go Go.RowKit Go.Proofs.YthagmakojbfmaaaDoor Go.Proofs.YthagmakojbfmaaaDoor.Ext
def walkGo (ns : List Nd) (who : Int) (follow slash : Bool) : Nat → Int → Int → List ByteArray → Sp × Int
  | 0, _, _, _ => (zSp, 0)
  | _ + 1, _, _, [] => (zSp, 0)
  | f + 1, at_, hops, part :: rest =>
    if ¬ hereB ns at_ = 0 then (zSp, hereB ns at_)
    else if mayB (getL ns at_).f1 (getL ns at_).f2 who 1 = false then (zSp, 7)
    else if namedB at_ (getL ns at_) part < 0 then (if rest = [] then (⟨at_, part, -1, slash⟩, 0) else (zSp, 2))
    else if (getL ns (namedB at_ (getL ns at_) part)).f0 = 3 ∧ (¬ rest = [] ∨ follow = true ∨ slash = true) then
      (if hops = 8 then (zSp, 8) else if ¬ checkB (getL ns (namedB at_ (getL ns at_) part)).f6 = 0 then (zSp, checkB (getL ns (namedB at_ (getL ns at_) part)).f6)
      else if partsB (getL ns (namedB at_ (getL ns at_) part)).f6 ++ rest = [] then (⟨0, ⟨#[]⟩, 0, slash⟩, 0)
      else walkGo ns who follow slash f (if pre47 (getL ns (namedB at_ (getL ns at_) part)).f6 then 0 else at_) (hops + 1) (partsB (getL ns (namedB at_ (getL ns at_) part)).f6 ++ rest))
    else if rest = [] then (if slash = true ∧ ¬ (getL ns (namedB at_ (getL ns at_) part)).f0 = 2 then (zSp, 4) else (⟨at_, part, namedB at_ (getL ns at_) part, slash⟩, 0))
    else walkGo ns who follow slash f (namedB at_ (getL ns at_) part) hops rest
def goF (ns : List Nd) (who at_ : Int) (parts : List ByteArray) (follow slash : Bool) : Sp × Int :=
  if parts = [] then (if ¬ hereB ns at_ = 0 then (zSp, hereB ns at_) else (⟨at_, ⟨#[]⟩, at_, true⟩, 0)) else walkGo ns who follow slash 2000 at_ 0 parts
def walkF (ns : List Nd) (who from_ : Int) (path : ByteArray) (follow : Bool) : Sp × Int :=
  if ¬ checkB path = 0 then (zSp, checkB path) else goF ns who (if pre47 path then 0 else from_) (partsB path) follow (suf47 path)
def nodeF (ns : List Nd) (who from_ : Int) (path : ByteArray) (follow : Bool) : Int × Int :=
  if ¬ (walkF ns who from_ path follow).2 = 0 then (0, (walkF ns who from_ path follow).2) else if (walkF ns who from_ path follow).1.f2 = -1 then (0, 2) else ((walkF ns who from_ path follow).1.f2, 0)
structure NdOk (n : Nd) : Prop where
  names : n.f7.length ≤ 1000000
  sorted : ∀ part, Sorted n.f7 part
  data : n.f6.size ≤ 1000
  up : n.f0 = 2 → 0 ≤ n.f5
  inos : ∀ e ∈ n.f7, 0 ≤ e.f1
  mode : 0 ≤ n.f1 ∧ n.f1 ≤ 63
structure NsOk (ns : List Nd) : Prop where
  len : ns.length ≤ 1000000
  all_ : ∀ n ∈ ns, NdOk n
theorem zNd_ok : NdOk zNd := ⟨by simp [zNd], fun part => ⟨fun a b x y _ hx => by simp [zNd] at hx, fun a b x y _ hx => by simp [zNd] at hx⟩, by decide, by simp [zNd], fun e he => by simp [zNd] at he, by decide⟩
theorem NsOk.get {ns : List Nd} (h : NsOk ns) (i : Int) : NdOk (getL ns i) := by
  unfold getL
  split
  · rename_i hb
    unfold getB at hb
    simp only [decide_eq_true_eq] at hb
    have hi : i.toNat < ns.length := by omega
    rw [show ns.getD i.toNat zNd = ns[i.toNat] by simp [List.getD, hi]]
    exact h.all_ _ (List.getElem_mem hi)
  · exact zNd_ok
theorem here_pos {ns : List Nd} {i : Int} (h : hereB ns i = 0) : 0 ≤ i := by
  unfold hereB getB at h
  split at h
  · rename_i hb; simp only [decide_eq_true_eq] at hb; exact hb.1
  · cases h
theorem here_dir {ns : List Nd} {i : Int} (h : hereB ns i = 0) : (getL ns i).f0 = 2 := by
  unfold hereB at h
  split at h
  · split at h
    · assumption
    · cases h
  · cases h
theorem ino_ge {l : List En} {part : ByteArray} (h : ∀ e ∈ l, 0 ≤ e.f1) : inoL l part = -1 ∨ 0 ≤ inoL l part := by
  unfold inoL
  split
  · exact .inl rfl
  · rename_i e he
    exact .inr (h e (List.mem_of_find?_eq_some he))
theorem named_ge {ns : List Nd} (h : NsOk ns) {at_ : Int} (ha : hereB ns at_ = 0) (part : ByteArray) : namedB at_ (getL ns at_) part = -1 ∨ 0 ≤ namedB at_ (getL ns at_) part := by
  unfold namedB
  split
  · exact .inr (here_pos ha)
  · split
    · exact .inr ((h.get at_).up (here_dir ha))
    · exact ino_ge (h.get at_).inos
def Wk.spot (k : Wk) : Sp := ⟨k.dir, k.name, k.ino, k.slashed⟩
def meas (hops : Int) (n : Nat) : Nat := (8 - hops).toNat * 200 + n
theorem check_parts {p : ByteArray} (h : checkB p = 0) : (partsB p).length ≤ 101 := by
  have h1 := parts_le p
  unfold checkB at h
  split at h
  · cases h
  · split at h
    · cases h
    · omega
theorem step_go {ns : List Nd} (hn : NsOk ns) (k : Wk) (part : ByteArray) (rest : List ByteArray) (f : Nat) (ho : k.over = false) (hh : 0 ≤ k.hops ∧ k.hops ≤ 8) :
    ((stepF hopF ns k part rest).1 ≠ 0 → walkGo ns k.who k.follow k.slash (f + 1) k.at_ k.hops (part :: rest) = (zSp, (stepF hopF ns k part rest).1)) ∧
    ((stepF hopF ns k part rest).1 = 0 → ((stepF hopF ns k part rest).2.1.over = true ∧ walkGo ns k.who k.follow k.slash (f + 1) k.at_ k.hops (part :: rest) = ((stepF hopF ns k part rest).2.1.spot, 0)) ∨
      ((stepF hopF ns k part rest).2.1.over = false ∧ walkGo ns k.who k.follow k.slash (f + 1) k.at_ k.hops (part :: rest) = walkGo ns k.who k.follow k.slash f (stepF hopF ns k part rest).2.1.at_ (stepF hopF ns k part rest).2.1.hops (stepF hopF ns k part rest).2.2 ∧
        meas (stepF hopF ns k part rest).2.1.hops (stepF hopF ns k part rest).2.2.length < meas k.hops (rest.length + 1) ∧ (stepF hopF ns k part rest).2.2 ≠ [] ∧ 0 ≤ (stepF hopF ns k part rest).2.1.hops ∧ (stepF hopF ns k part rest).2.1.hops ≤ 8)) ∧
    (stepF hopF ns k part rest).2.1.who = k.who ∧ (stepF hopF ns k part rest).2.1.follow = k.follow ∧ (stepF hopF ns k part rest).2.1.slash = k.slash := by
  simp only [walkGo, stepF]
  by_cases h0 : hereB ns k.at_ = 0
  case neg => simp [h0]
  simp only [h0, not_true, if_false]
  by_cases h1 : mayB (getL ns k.at_).f1 (getL ns k.at_).f2 k.who 1 = false
  · simp [h1]
  have h1 : mayB (getL ns k.at_).f1 (getL ns k.at_).f2 k.who 1 = true := by simpa using h1
  simp only [h1, Bool.true_eq_false, if_false]
  have hge := named_ge hn h0 part
  generalize namedB k.at_ (getL ns k.at_) part = ino at *
  generalize getL ns ino = n at *
  unfold tailF
  rcases hge with rfl | hge
  · simp only [if_true, show (-1 : Int) < 0 by decide]
    by_cases hr : rest = []
    · simp [hr, Wk.ended, Wk.spot]
    · simp [hr]
  have n1 : ¬ ino = -1 := by omega
  have n2 : ¬ ino < 0 := by omega
  simp only [n1, n2, if_false]
  by_cases h3 : n.f0 = 3 ∧ (¬ rest = [] ∨ k.follow = true ∨ k.slash = true)
  · simp only [if_pos h3, hopF]
    by_cases h8 : k.hops = 8
    · simp [h8]
    simp only [h8, if_false]
    by_cases hc : checkB n.f6 = 0
    case neg => simp [hc]
    have hw : IntKind.i64.wrap (k.hops + 1) = k.hops + 1 := by rw [IntKind.wrap_i64] <;> omega
    simp only [hc, not_true, if_false, hw]
    by_cases he : partsB n.f6 ++ rest = []
    · simp [he, Wk.spot]
    · simp only [he, if_false]
      refine ⟨fun h => absurd rfl h, fun _ => .inr ⟨ho, trivial, ?_, he, by omega, by omega⟩, trivial, trivial, trivial⟩
      have := check_parts hc
      simp only [meas, List.length_append]
      omega
  · simp only [if_neg h3]
    by_cases hr : rest = []
    · simp only [hr, if_true]
      by_cases hs : k.slash = true ∧ ¬ n.f0 = 2
      · simp [hs]
      · simp [hs, Wk.ended, Wk.spot]
    · simp only [hr, if_false]
      refine ⟨fun h => absurd rfl h, fun _ => .inr ⟨ho, trivial, ?_, hr, hh.1, hh.2⟩, trivial, trivial, trivial⟩
      simp only [meas]; omega
end Go.Proofs.YthagmakojbfmaaaDoor.Sx
