/- A law of my own on 'for x := range seq': what is known between two rounds lies in blocks that are named (a footprint), and whatever the iterator does elsewhere does not touch it. -/
import Derived.RangeFuncNested
import Derived.RangeFuncBound
import Derived.RangeFuncCalls
import Derived.RangeFuncLeaves
import Derived.Shelf.Abstract
import Derived.Shelf.RegionOpen
import Derived.WalkKit
import Derived.OwnWalkIn
import Derived.TacticsInMore
import Derived.LoopNIn
import Derived.LoopIn
import Derived.Below
namespace Go.Proofs.YtpfbimkpcnnfkaaGreatDoor.Iter
open Go Go.RowKit
set_option linter.unusedVariables false
set_option linter.unusedSimpArgs false
structure Keep (FP : Nat → Prop) (w w' : World) : Prop where
 os : w'.os = w.os
 tape : w'.tape = w.tape
 output : w'.output = w.output
 size : w.heap.size ≤ w'.heap.size
 block : ∀ k, k < w.heap.size → ¬ FP k → w'.heap[k]? = w.heap[k]?
def Bd (FP : Nat → Prop) (w : World) : Prop := ∀ k, FP k → k < w.heap.size
def Gr (FP : Nat → Prop) (w : World) (FP' : Nat → Prop) : Prop := ∀ k, FP' k → FP k ∨ w.heap.size ≤ k
def Loc {β : Type} (J : β → (Nat → Prop) → World → Prop) : Prop := ∀ s FP W W', J s FP W → (∀ k, FP k → W'.heap[k]? = W.heap[k]?) → J s FP W'
theorem Keep.refl (FP : Nat → Prop) (w : World) : Keep FP w w := ⟨rfl, rfl, rfl, Nat.le_refl _, fun _ _ _ => rfl⟩
theorem Keep.trans {FP : Nat → Prop} {a b c : World} (h : Keep FP a b) (k : Keep FP b c) : Keep FP a c :=
 ⟨k.os.trans h.os, k.tape.trans h.tape, k.output.trans h.output, Nat.le_trans h.size k.size, fun i hi hn => (k.block i (Nat.lt_of_lt_of_le hi h.size) hn).trans (h.block i hi hn)⟩
theorem Keep.weak {FP FP' : Nat → Prop} {a b : World} (h : Keep FP a b) (hs : ∀ k, k < a.heap.size → FP k → FP' k) : Keep FP' a b :=
 ⟨h.os, h.tape, h.output, h.size, fun i hi hn => h.block i hi (fun hf => hn (hs i hi hf))⟩
theorem Keep.alloc {FP : Nat → Prop} {a b : World} (h : Keep FP a b) (o : Obj) : Keep FP a (b.alloc o) :=
 ⟨h.os, h.tape, h.output, by have := h.size; simp; omega, fun i hi hn => by
  rw [Below.heap_alloc _ _ _ (Nat.lt_of_lt_of_le hi h.size)]; exact h.block i hi hn⟩
theorem putObj_block {W : World} {l k : Nat} {o : Obj} (h : k ≠ l) : (W.putObj l o).heap[k]? = W.heap[k]? := World.putObj_heap_other h
theorem Keep.putObj {FP : Nat → Prop} {a b : World} (h : Keep FP a b) (l : Nat) (o : Obj) (hl : FP l ∨ a.heap.size ≤ l) : Keep FP a (b.putObj l o) :=
 ⟨h.os, h.tape, h.output, by have := h.size; simp; omega, fun i hi hn => by
  rw [putObj_block (fun e => by subst e; rcases hl with hl | hl; exact hn hl; omega)]; exact h.block i hi hn⟩
theorem Keep.of_below {FP : Nat → Prop} {a b : World} (h : Below a.heap.size a b) : Keep FP a b := ⟨h.os, h.tape, h.output, h.size, fun i hi _ => h.block i hi⟩
theorem Keep.below {FP : Nat → Prop} {a b : World} (h : Keep FP a b) {n : Nat} (hn : n ≤ a.heap.size) (hf : ∀ k, FP k → n ≤ k) : Below n a b :=
 ⟨h.os, h.tape, h.output, h.size, fun i hi => h.block i (by omega) (fun hfi => by have := hf i hfi; omega)⟩
theorem Keep.then {FP FP' : Nat → Prop} {a b c : World} (h : Keep FP a b) (k : Keep FP' b c) (hf : ∀ i, i < a.heap.size → FP' i → FP i) : Keep FP a c :=
 ⟨k.os.trans h.os, k.tape.trans h.tape, k.output.trans h.output, Nat.le_trans h.size k.size, fun i hi hn => (k.block i (Nat.lt_of_lt_of_le hi h.size) (fun hf' => hn (hf i hi hf'))).trans (h.block i hi hn)⟩
def strAt (w : World) (b : Nat) : Nat := match w.heap[b]? with
 | some (.cells c _ _) => match (c[0]? : Option Value) with | some (.string s) => s.size | _ => 0
 | _ => 0
theorem strAt_of {w : World} {b t : Nat} {s : ByteArray} (h : w.heap[b]? = some (.cells #[.string s] t (0, 0))) : strAt w b = s.size := by simp [strAt, h]
theorem box_cell {w : World} {b t : Nat} {v : Value} (h : w.heap[b]? = some (.cells #[v] t (0, 0))) : w.cell? ⟨b, 0, none⟩ = some v := by simp [World.cell?, h]
theorem box_free {w : World} {b t : Nat} {v : Value} (h : w.heap[b]? = some (.cells #[v] t (0, 0))) (o : Nat) : w.frozen? ⟨b, o, none⟩ = false := by simp [World.frozen?, h]
theorem box_set {w : World} {b t : Nat} {v u : Value} (h : w.heap[b]? = some (.cells #[v] t (0, 0))) : (w.setCell ⟨b, 0, none⟩ u).heap[b]? = some (.cells #[u] t (0, 0)) := by
 have hlt : b < w.heap.size := (Array.getElem?_eq_some_iff.1 h).1
 unfold World.setCell
 simp only [Array.getElem?_modify, if_pos trivial, h]
 rfl
theorem set_other {w : World} {b k : Nat} {u : Value} (h : k ≠ b) : (w.setCell ⟨b, 0, none⟩ u).heap[k]? = w.heap[k]? := by
 unfold World.setCell
 simp only [Array.getElem?_modify]
 rw [if_neg (fun e => h e.symm)]
theorem Keep.setCell {FP : Nat → Prop} {a b : World} (h : Keep FP a b) (l : Nat) (u : Value) (hl : FP l ∨ a.heap.size ≤ l) : Keep FP a (b.setCell ⟨l, 0, none⟩ u) :=
 ⟨h.os, h.tape, h.output, by have := h.size; simp [World.setCell]; omega, fun i hi hn => by
  rw [set_other (fun e => by subst e; rcases hl with hl | hl; exact hn hl; omega)]; exact h.block i hi hn⟩
section
variable {α : Type} {F : Fence} {n : Nat} {P : Program}
def RoundP (J Jx : List α → (Nat → Prop) → World → Prop) (xs : List α) (FP : Nat → Prop) (W1 : World) (e : Ending) (W' : World) : Prop :=
 ∃ FP', Gr FP W1 FP' ∧ Bd FP' W' ∧ Keep FP W1 W' ∧ ((e = .returned (.bool true) ∧ J xs FP' W') ∨ (e = .returned (.bool false) ∧ Jx xs FP' W'))
def SeqL (F : Fence) (n : Nat) (P : Program) (g : Nat) (lb : Array Value) (encs : α → Array Value) (M : Nat → Prop) (S Sp : List α → Prop) (Pre : World → Prop) : Prop :=
 ∀ (l : Nat) (J Jx : List α → (Nat → Prop) → World → Prop) (FP : Nat → Prop) (W : World), Pre W → Loc J → Loc Jx → Bd FP W → (∀ k, FP k → ¬ M k) →
  (∀ pre x FP W1, J pre FP W1 → Bd FP W1 → Sp (pre ++ [x]) → YieldAt F (n - 1) P l (encs x) W1 (RoundP J Jx (pre ++ [x]) FP W1)) →
  J [] FP W →
  CallsIn F n P g (#[.func (.yield l) #[] #[]] ++ lb) W fun e W' => (∃ v, e = .returned v) ∧
   ∃ FP', Gr FP W FP' ∧ Bd FP' W' ∧ Keep (fun k => FP k ∨ M k) W W' ∧ ((∃ xs, S xs ∧ J xs FP' W') ∨ (∃ pre, Sp pre ∧ Jx pre FP' W'))
def bodyL (I : List α → (Nat → Prop) → World → Prop) (Ix : Code → List α → (Nat → Prop) → World → Prop) (xs : List α) (FP : Nat → Prop) (W : World) : Exit → Act → World → Prop
 | .normal, _, W' => ∃ FP', Gr FP W FP' ∧ Bd FP' W' ∧ Keep FP W W' ∧ I xs FP' W'
 | .ret, _, W' => ∃ FP', Gr FP W FP' ∧ Bd FP' W' ∧ Keep FP W W' ∧ Ix .ret xs FP' W'
 | .exit id, _, W' => ∃ FP', Gr FP W FP' ∧ Bd FP' W' ∧ Keep FP W W' ∧ Ix (.exit id) xs FP' W'
 | .goto t, _, W' => ∃ FP', Gr FP W FP' ∧ Bd FP' W' ∧ Keep FP W W' ∧ Ix (.goto t) xs FP' W'
 | .panic _, _, _ => False
 | .outgrown, _, _ => False
theorem wpIn_rangeFunc_L {g : Operand} {ps : Array Tmp} {assign body : Code} {Q : Exit → Act → World → Prop} {a : Act} {w : World}
  (hro : F.round = none) (h1 : 1 ≤ n) {gf : Nat} {lb : Array Value} (hg : a.eval g = .func (.func gf) #[] lb) (hFg : F.fn gf) (eg : ∀ args w, (callFunc gf args).run P w = .ok (.enter gf args) w)
  {encs : α → Array Value} {M : Nat → Prop} {S Sp : List α → Prop} {Pre : World → Prop} (hseq : SeqL F (n - 1) P gf lb encs M S Sp Pre)
  (hPre : ∀ W1, Below w.heap.size w W1 → Pre W1) (hM : Bd M w) (hps : ∀ x, (encs x).size = ps.size)
  (I : List α → (Nat → Prop) → World → Prop) (Ix : Code → List α → (Nat → Prop) → World → Prop) (hI : Loc I) (hIx : ∀ c, Loc (Ix c)) (FP0 : Nat → Prop) (hF0 : Bd FP0 w) (hFM : ∀ k, FP0 k → ¬ M k) (h0 : I [] FP0 w) (a₁ : α → Act)
  (hassign : ∀ (l : Nat) (x : α) (W : World) (K : Act → World → Prop), K (a₁ x) W →
   assign.wpIn (F.inRound l) (n - 1 - 1) P (Exit.then K (fun _ _ _ => False)) { tmps := (ps.zip (encs x)).foldl (fun t (p, v) => t.setIfInBounds p v) a.tmps, defers := [] } W)
  (hbody : ∀ (l : Nat) (pre : List α) (x : α) (FP : Nat → Prop) (W : World), I pre FP W → Bd FP W → w.heap.size ≤ W.heap.size → Sp (pre ++ [x]) → body.wpIn (F.inRound l) (n - 1 - 1) P (bodyL I Ix (pre ++ [x]) FP W) (a₁ x) W)
  (hdone : ∀ (D : Nat) (xs : List α) (FP : Nat → Prop) (W : World), S xs → I xs FP W → Gr FP0 w FP → Bd FP W → Keep (fun k => FP0 k ∨ M k) w W → w.heap.size ≤ D → ¬ FP D → W.heap[D]? = some (.deferred (some [])) → Q .normal { a with defers := { target := .collected D, args := #[] } :: a.defers } W)
  (hstop : ∀ (D : Nat) (c : Code) (pre : List α) (FP : Nat → Prop) (W : World), Sp pre → Ix c pre FP W → Gr FP0 w FP → Bd FP W → Keep (fun k => FP0 k ∨ M k) w W → w.heap.size ≤ D → ¬ FP D → W.heap[D]? = some (.deferred (some [])) → c.wpIn F n P Q { a with defers := { target := .collected D, args := #[] } :: a.defers } W) :
  (Code.rangeFunc g ps assign body).wpIn F n P Q a w := by
 refine wpIn_rangeFunc ?_
 intro fn hfn
 rw [hro]
 obtain ⟨rec, hrec⟩ : ∃ rec : LoopState → Option Code → Loop, rec = fun st pe => { state := st, pending := pe, fn, tmps := a.tmps, params := ps, assign, body, defers := w.heap.size } := ⟨_, rfl⟩
 obtain ⟨D, hD⟩ : ∃ D, D = w.heap.size := ⟨_, rfl⟩
 obtain ⟨W1, hW1⟩ : ∃ W1, (w.alloc (.deferred (some []))).alloc (.loop (rec .ready none)) = W1 := ⟨_, rfl⟩
 have hL1 : W1.heap[D + 1]? = some (.loop (rec .ready none)) := by
  rw [← hW1, hD]; have := World.alloc_heap_new (w.alloc (.deferred (some []))) (.loop (rec .ready none)); rwa [World.size_alloc] at this
 have hK1 : W1.heap[D]? = some (.deferred (some [])) := by
  rw [← hW1, hD]; exact (Below.heap_alloc _ _ _ (by simp)).trans (World.alloc_heap_new w _)
 have hb1 : Below w.heap.size w W1 := by
  rw [← hW1]; exact (((Below.refl _ w).alloc (Nat.le_refl _) _).alloc (by simp) _)
 have hs1 : W1.heap.size = D + 2 := by rw [← hW1, hD]; simp
 have hI1 : I [] FP0 W1 := hI _ _ _ _ h0 (fun k hk => hb1.block k (hF0 k hk))
 refine ⟨D + 1, [{ target := .collected D, args := #[] }], W1, { target := .fn (.func gf) lb, args := #[.func (.yield (D + 1)) #[] #[]] }, W1, gf,
  #[.func (.yield (D + 1)) #[] #[]] ++ lb, W1, ?_, ?_, ?_, ?_, fun _ => h1, ?_⟩
 ·rw [← hW1, hrec, hD]; exact run_enterLoop_outer _ _ _ _ _
 ·simp only [resolve, hg]
  simp [go_sem]
 ·intro f' hf'; simp [Target.leads] at hf'; subst hf'; exact hFg
 ·simp [invoke, go_sem, eg]
 ·-- the two blocks of book-keeping lie beside the body's footprint
  have hJloc : ∀ (R : List α → (Nat → Prop) → World → Prop) (o : Obj → Prop), Loc R → Loc (fun pre FPt W => ∃ FP, FPt = (fun k => FP k ∨ k = D ∨ k = D + 1) ∧ ¬ FP D ∧ ¬ FP (D + 1) ∧ Gr FP0 w FP ∧ R pre FP W ∧ (∃ x, W.heap[D + 1]? = some x ∧ o x) ∧ W.heap[D]? = some (.deferred (some []))) := by
   intro R o hR s FPt W W' h hk
   obtain ⟨FP, rfl, e1, e2, e3, e4, ⟨x, e5, e6⟩, e7⟩ := h
   exact ⟨FP, rfl, e1, e2, e3, hR _ _ _ _ e4 (fun k hf => hk k (.inl hf)), ⟨x, (hk (D + 1) (.inr (.inr rfl))).trans e5, e6⟩, (hk D (.inr (.inl rfl))).trans e7⟩
  have hGo : ∀ {FP FP' : Nat → Prop} {W : World}, Gr FP0 w FP → w.heap.size ≤ W.heap.size → Gr FP W FP' → Gr FP0 w FP' := fun h1 h2 h3 k hk => by
   rcases h3 k hk with h | h
   ·exact h1 k h
   ·exact .inr (by omega)
  refine (hseq (D + 1)
   (fun pre FPt W => ∃ FP, FPt = (fun k => FP k ∨ k = D ∨ k = D + 1) ∧ ¬ FP D ∧ ¬ FP (D + 1) ∧ Gr FP0 w FP ∧ I pre FP W ∧ (∃ x, W.heap[D + 1]? = some x ∧ x = .loop (rec .ready none)) ∧ W.heap[D]? = some (.deferred (some [])))
   (fun pre FPt W => ∃ FP, FPt = (fun k => FP k ∨ k = D ∨ k = D + 1) ∧ ¬ FP D ∧ ¬ FP (D + 1) ∧ Gr FP0 w FP ∧ (∃ c, Ix c pre FP W ∧ W.heap[D + 1]? = some (.loop (rec .done (some c)))) ∧ (∃ x, W.heap[D + 1]? = some x ∧ True) ∧ W.heap[D]? = some (.deferred (some [])))
   (fun k => FP0 k ∨ k = D ∨ k = D + 1) W1 (hPre W1 hb1) (hJloc I _ hI) ?_ ?_ ?_ ?_ ?_).mono ?_
  ·intro s FPt W W' h hk
   obtain ⟨FP, rfl, e1, e2, e3, ⟨c, e4, e5⟩, ⟨x, e6, e7⟩, e8⟩ := h
   exact ⟨FP, rfl, e1, e2, e3, ⟨c, hIx c _ _ _ _ e4 (fun k hf => hk k (.inl hf)), (hk (D + 1) (.inr (.inr rfl))).trans e5⟩, ⟨x, (hk (D + 1) (.inr (.inr rfl))).trans e6, e7⟩, (hk D (.inr (.inl rfl))).trans e8⟩
  ·intro k hk
   rcases hk with hk | rfl | rfl
   ·have := hF0 k hk; omega
   ·omega
   ·omega
  ·intro k hk
   rcases hk with hk | rfl | rfl
   ·exact hFM k hk
   ·intro hm; have := hM _ hm; omega
   ·intro hm; have := hM _ hm; omega
  ·-- one round
   rintro pre x FPt W ⟨FP, rfl, n1, n2, g1, hi, ⟨_, hl, rfl⟩, hk⟩ hbd hlen
   have hlt : D + 1 < W.heap.size := (Array.getElem?_eq_some_iff.1 hl).1
   have hy := run_yield (P := P) (args := encs x) hl (by rw [hrec]; exact hps x)
   rw [hrec] at hy
   refine ⟨fn, _, assign, body, hy, roundIn_of_wpIn hfn (hassign _ x W _ ⟨_, run_beginRound hl (by rw [hrec]), ?_⟩)⟩
   obtain ⟨W2, hW2⟩ : ∃ W2, W.putObj (D + 1) (.loop { rec .ready none with state := .busy }) = W2 := ⟨_, rfl⟩
   have hl2 : W2.heap[D + 1]? = some (.loop { rec .ready none with state := .busy }) := by rw [← hW2]; exact World.putObj_heap_same hlt
   have hk2 : W2.heap[D]? = some (.deferred (some [])) := by rw [← hW2]; exact (World.putObj_heap_other (by omega)).trans hk
   have hs2 : W2.heap.size = W.heap.size := by rw [← hW2]; simp
   have hi2 : I pre FP W2 := hI _ _ _ _ hi (fun k hf => by rw [← hW2]; exact putObj_block (fun e => by subst e; exact n2 hf))
   have hkp2 : Keep (fun k => FP k ∨ k = D ∨ k = D + 1) W W2 := by rw [← hW2]; exact (Keep.refl _ W).putObj _ _ (.inl (.inr (.inr rfl)))
   rw [hW2]
   have hbd2 : Bd FP W2 := fun k hf => by have := hbd k (.inl hf); omega
   refine wpIn_mono (hbody _ pre x FP W2 hi2 hbd2 (by omega) hlen) ?_
   have fin : ∀ (jump : Option Code) (FP' : Nat → Prop) (W3 : World), Gr FP W2 FP' → Bd FP' W3 → Keep FP W2 W3 →
     (Instr.endRound (D + 1) jump).run P W3 = .ok (.bool jump.isNone) (W3.putObj (D + 1) (.loop (rec (if jump.isNone then .ready else .done) jump))) ∧
     ¬ FP' D ∧ ¬ FP' (D + 1) ∧
     (W3.putObj (D + 1) (.loop (rec (if jump.isNone then .ready else .done) jump))).heap[D + 1]? = some (.loop (rec (if jump.isNone then .ready else .done) jump)) ∧
     (W3.putObj (D + 1) (.loop (rec (if jump.isNone then .ready else .done) jump))).heap[D]? = some (.deferred (some [])) ∧
     Gr (fun k => FP k ∨ k = D ∨ k = D + 1) W (fun k => FP' k ∨ k = D ∨ k = D + 1) ∧ Bd (fun k => FP' k ∨ k = D ∨ k = D + 1) (W3.putObj (D + 1) (.loop (rec (if jump.isNone then .ready else .done) jump))) ∧
     Keep (fun k => FP k ∨ k = D ∨ k = D + 1) W (W3.putObj (D + 1) (.loop (rec (if jump.isNone then .ready else .done) jump))) ∧
     (∀ k, FP' k → (W3.putObj (D + 1) (.loop (rec (if jump.isNone then .ready else .done) jump))).heap[k]? = W3.heap[k]?) := by
    intro jump FP' W3 hgr hbd3 hk3
    have hl3 : W3.heap[D + 1]? = some (.loop { rec .ready none with state := .busy }) := (hk3.block _ (by omega) n2).trans hl2
    have hD3 : W3.heap[D]? = some (.deferred (some [])) := (hk3.block _ (by omega) n1).trans hk2
    have m1 : ¬ FP' D := fun h => by rcases hgr D h with h | h; exact n1 h; omega
    have m2 : ¬ FP' (D + 1) := fun h => by rcases hgr _ h with h | h; exact n2 h; omega
    have := run_endRound (P := P) jump hl3
    rw [hrec] at this
    refine ⟨by rw [hrec]; exact this, m1, m2, World.putObj_heap_same (Array.getElem?_eq_some_iff.1 hl3).1, (World.putObj_heap_other (by omega)).trans hD3, ?_, ?_, ?_, ?_⟩
    ·intro k hk'
     rcases hk' with hk' | hk'
     ·rcases hgr k hk' with h | h
      ·exact .inl (.inl h)
      ·exact .inr (by omega)
     ·exact .inl (.inr hk')
    ·intro k hk'
     have h3 := hk3.size
     rcases hk' with hk' | rfl | rfl
     ·have := hbd3 k hk'; simpa using this
     ·simp; omega
     ·simp; omega
    ·exact (hkp2.trans (hk3.weak (fun k _ h => .inl h))).putObj _ _ (.inl (.inr (.inr rfl)))
    ·intro k hf
     exact putObj_block (fun e => by subst e; exact m2 hf)
   rintro e a3 W3 hp
   cases e with
   | normal =>
    obtain ⟨FP', hgr, hbd3, hk3, hi3⟩ := hp
    obtain ⟨hr, m1, m2, hl4, hk4, q1, q2, q3, q4⟩ := fin none FP' W3 hgr hbd3 hk3
    exact ⟨_, _, hr, _, q1, q2, q3, .inl ⟨rfl, FP', rfl, m1, m2, hGo g1 (by omega) hgr, hI _ _ _ _ hi3 q4, ⟨_, hl4, rfl⟩, hk4⟩⟩
   | ret =>
    obtain ⟨FP', hgr, hbd3, hk3, hi3⟩ := hp
    obtain ⟨hr, m1, m2, hl4, hk4, q1, q2, q3, q4⟩ := fin (some .ret) FP' W3 hgr hbd3 hk3
    exact ⟨_, _, hr, _, q1, q2, q3, .inr ⟨rfl, FP', rfl, m1, m2, hGo g1 (by omega) hgr, ⟨.ret, hIx _ _ _ _ _ hi3 q4, hl4⟩, ⟨_, hl4, trivial⟩, hk4⟩⟩
   | exit id =>
    obtain ⟨FP', hgr, hbd3, hk3, hi3⟩ := hp
    obtain ⟨hr, m1, m2, hl4, hk4, q1, q2, q3, q4⟩ := fin (some (.exit id)) FP' W3 hgr hbd3 hk3
    exact ⟨_, _, hr, _, q1, q2, q3, .inr ⟨rfl, FP', rfl, m1, m2, hGo g1 (by omega) hgr, ⟨.exit id, hIx _ _ _ _ _ hi3 q4, hl4⟩, ⟨_, hl4, trivial⟩, hk4⟩⟩
   | goto t =>
    obtain ⟨FP', hgr, hbd3, hk3, hi3⟩ := hp
    obtain ⟨hr, m1, m2, hl4, hk4, q1, q2, q3, q4⟩ := fin (some (.goto t)) FP' W3 hgr hbd3 hk3
    exact ⟨_, _, hr, _, q1, q2, q3, .inr ⟨rfl, FP', rfl, m1, m2, hGo g1 (by omega) hgr, ⟨.goto t, hIx _ _ _ _ _ hi3 q4, hl4⟩, ⟨_, hl4, trivial⟩, hk4⟩⟩
   | panic ch => exact hp.elim
   | outgrown => exact hp.elim
  ·exact ⟨FP0, rfl, fun h => by have := hF0 _ h; omega, fun h => by have := hF0 _ h; omega, fun k h => .inl h, hI1, ⟨_, hL1, rfl⟩, hK1⟩
  ·-- behind the iterator
   have hkp : ∀ {W2 : World} (o : Obj), Keep (fun k => (FP0 k ∨ k = D ∨ k = D + 1) ∨ M k) W1 W2 → Keep (fun k => FP0 k ∨ M k) w (W2.putObj (D + 1) o) := by
    intro W2 o h
    refine ((Keep.of_below hb1).then h ?_).putObj _ _ (.inr (by omega))
    intro i hi hf
    rcases hf with (hf | rfl | rfl) | hf
    ·exact .inl hf
    ·omega
    ·omega
    ·exact .inr hf
   rintro e W2 ⟨⟨v, rfl⟩, FPt, hgr, hbd, hkeep, (⟨xs, hS, FP, rfl, m1, m2, g1, hi, ⟨_, hl, rfl⟩, hk⟩ | ⟨pre, hSp, FP, rfl, m1, m2, g1, ⟨c, hi, hl⟩, _, hk⟩)⟩
   ·refine ⟨none, _, by have := run_endLoop (P := P) hl (by rw [hrec]; simp); rw [hrec] at this; exact this, ?_⟩
    refine hdone D xs FP _ hS (hI _ _ _ _ hi (fun k hf => putObj_block (fun e => by subst e; exact m2 hf))) g1 (fun k hf => by have := hbd k (.inl hf); simpa using this) (hkp _ hkeep) (by omega) m1 ((World.putObj_heap_other (by omega)).trans hk)
   ·refine ⟨some c, _, by have := run_endLoop (P := P) hl (by rw [hrec]; simp); rw [hrec] at this; exact this, ?_⟩
    refine hstop D c pre FP _ hSp (hIx _ _ _ _ _ hi (fun k hf => putObj_block (fun e => by subst e; exact m2 hf))) g1 (fun k hf => by have := hbd k (.inl hf); simpa using this) (hkp _ hkeep) (by omega) m1 ((World.putObj_heap_other (by omega)).trans hk)
end
end Go.Proofs.YtpfbimkpcnnfkaaGreatDoor.Iter
