/- A region that draws its order, in a round of a range over a function, by the plain law for one whose head only reads. -/
import Derived.StillTailTactics
import Derived.OrdersIn
import Derived.RangeFuncCalls
import Derived.TacticsIn
namespace Go.Proofs.YtmjhlddlhicofaaDoor.Iter
open Go
set_option linter.unusedVariables false

theorem uponIn_round_of {l n : Nat} {P : Program} {o : Oper} {a : Act} {K : Act → World → Prop} {Q : Exit → Act → World → Prop} : ∀ {r : Result Next}, o.upon P a K Q r → o.uponIn (Fence.wide.inRound l) n P a K Q r := by
  rintro r h
  rcases r with ⟨x, w'⟩ | ⟨x, w'⟩
  · cases x with
    | value v => exact h
    | skip => exact h
    | defer d => exact h
    | enter f args =>
      refine ⟨fun e => (by cases e), CallsIn.inRound l (callsIn_wide.2 (Calls.mono h ?_))⟩
      rintro e w'' h'
      cases e <;> exact h'
    | row row args =>
      refine ⟨fun e => (by cases e), fun c cs _ => ?_⟩
      obtain ⟨v, w'', h1, h2⟩ := h c cs
      exact ⟨v, w'', h1, stepsIn_wide.2 h2⟩
    | _ => exact h.elim
  · cases x with
    | panic v => exact h
    | _ => exact h.elim

theorem wpIn_round_of {l n : Nat} {P : Program} {o : Oper} {a : Act} {w : World} {K : Act → World → Prop} {Q : Exit → Act → World → Prop} (hd : ∀ c, o.op ≠ .defer c) (h : o.wp P a w K Q) : o.wpIn (Fence.wide.inRound l) n P a w K Q := by
  refine ⟨fun _ _ => trivial, ?_⟩
  have h' : o.upon P a K Q ((execOp a.eval o).run P w) := h
  show o.uponIn _ _ _ _ _ _ ((o.semAt (some l) a.eval).run P w)
  rw [Oper.semAt_some l _ _ hd]
  exact uponIn_round_of h'

theorem wpAnyIn_round_of {l n : Nat} {P : Program} {md : Region.Mode} {ops : Array Oper} {Q : Exit → Act → World → Prop} (hq : ¬ LetsOut Q) (hd : ∀ (i : Nat) (o : Oper), ops[i]? = some o → ∀ c, o.op ≠ .defer c) :
    ∀ (f : Nat) (listed : Array Bool) (a : Act) (w : World), wpAny P md ops Q f listed a w → wpAnyIn (Fence.wide.inRound l) n P md ops Q f listed a w
  | 0, listed, a, w, h => h
  | f + 1, listed, a, w, h => by
    refine ⟨h.1, fun i hi => ?_⟩
    have h2 := h.2 i hi
    unfold wpOp at h2
    unfold wpOpIn
    cases ho : ops[i]? with
    | none => rw [ho] at h2; exact wpAnyIn_round_of hq hd f _ _ _ h2
    | some o =>
      rw [ho] at h2
      simp only at h2 ⊢
      by_cases hw : Region.wanted o (yielded ops a.tmps) = true
      · rw [if_pos hw] at h2
        rw [if_pos hw]
        rcases h2 with h2 | h2
        · exact Oper.wpIn_mono (fun a' w' h' => wpAnyIn_round_of hq hd f _ _ _ h') (wpIn_round_of (hd i o ho) h2)
        · exact absurd h2.2 hq
      · rw [if_neg hw] at h2
        rw [if_neg hw]
        exact ⟨fun _ _ => trivial, wpAnyIn_round_of hq hd f _ _ _ h2⟩

theorem wpAny_still_tail {P : Program} {Q : Exit → Act → World → Prop} {a : Act} {w : World} {l : List Oper} (n : Nat) (hB : Region.lexTailB .any l.toArray n = true)
    (h : wpStill P l.toArray w (fun a' => wpList P l.toArray Q (l.drop n) a' w) (l.take n) a) : wpAny P .any l.toArray Q l.toArray.size (Array.replicate l.toArray.size false) a w := by
  simp only [Region.lexTailB, Bool.and_eq_true, decide_eq_true_eq] at hB
  obtain ⟨⟨⟨⟨hsel, hn⟩, hs⟩, hc⟩, hlex⟩ := hB
  have hn' : n < l.length := by simpa using hn
  have htl : (l.take n).length = n := by rw [List.length_take]; omega
  have hdl : (l.drop n).length = l.toArray.size - n := by simp
  have inv0 : HeadInv .any l.toArray n (Array.replicate l.toArray.size false) :=
    ⟨by simp, fun j oj _ hl => (by rw [getD_replicate_false] at hl; cases hl), fun t _ ht => getD_in (by simpa using ht) (getD_replicate_false _ _)⟩
  have H := wpAnyL_lex (md := .any) (g := l.toArray.size - n) hsel hs hc hn (l.take n) 0 _ a
    (fun j hj => by rw [htl] at hj; simp [hj]) (by rw [htl]; omega) inv0 (by rw [htl]; exact hlex) h
  have h2 := wpAny_of_head (Q' := Q) (g := l.toArray.size - n) (fun listed a' hL => by
    have h3 := wpAny_of_seq (md := .any) (Q' := Q) (l.drop n) n listed a' w (fun j => by simp [List.getElem?_drop]) (by rw [hdl]; exact hL.1) hL.2
    rwa [hdl] at h3) _ _ _ H
  rw [htl, show n + (l.toArray.size - n) = l.toArray.size by omega] at h2
  exact h2

def noDefer (o : Oper) : Bool := match o.op with
  | .defer _ => false
  | _ => true
theorem noDefer_all {l : List Oper} (h : l.all noDefer = true) (i : Nat) (o : Oper) (ho : l.toArray[i]? = some o) (c : Call) : o.op ≠ .defer c := by
  intro e
  have h1 : o ∈ l := by
    rw [List.getElem?_toArray] at ho
    exact List.mem_of_getElem? ho
  have h2 := List.all_eq_true.1 h o h1
  unfold noDefer at h2
  rw [e] at h2
  cases h2

/-- A region that draws, in a round: its first n operations read, or call what reads; the others come one behind the other. -/
theorem region_round_still_tail {l0 m : Nat} {P : Program} {id : Nat} {Q : Exit → Act → World → Prop} {a : Act} {w : World} {l : List Oper} (n : Nat) (hm : P.follows .mixedOrders = true) (hB : Region.lexTailB .any l.toArray n = true)
    (hq : ¬ LetsOut Q) (hd : l.all noDefer = true)
    (h : wpStill P l.toArray w.drew (fun a' => wpList P l.toArray Q (l.drop n) a' w.drew) (l.take n) a) : (Code.region id l.toArray true).wpIn (Fence.wide.inRound l0) m P Q a w :=
  wpIn_region_any hm (wpAnyIn_round_of hq (noDefer_all hd) _ _ _ _ (wpAny_still_tail n hB h))
end Go.Proofs.YtmjhlddlhicofaaDoor.Iter
