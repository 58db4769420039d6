/- The iterator of route.parts: its contract. -/
import Derived.Test.YtpfbimkpcnnfkaaGreatDoorExtIt
import Derived.Lib.SlicesS
namespace Go.Proofs.YtpfbimkpcnnfkaaGreatDoor.Ext
open Go Go.RowKit Go.Proofs.YtpfbimkpcnnfkaaGreatDoor.Iter
set_option linter.unusedVariables false
set_option linter.unusedSimpArgs false
def outs (at_ : Nat) : List ByteArray → List (Nat × ByteArray)
 | [] => []
 | s :: r => if s.size = 0 then outs (at_ + s.size + 1) r else (at_ + s.size, s) :: outs (at_ + s.size + 1) r
def atOf : List ByteArray → Nat
 | [] => 0
 | s :: r => s.size + 1 + atOf r
theorem outs_append : ∀ (l r : List ByteArray) (at_ : Nat), outs at_ (l ++ r) = outs at_ l ++ outs (at_ + atOf l) r
 | [], r, at_ => by simp [outs, atOf]
 | s :: l, r, at_ => by
  have e : atOf (s :: l) = s.size + 1 + atOf l := rfl
  rw [List.cons_append, e, ← Nat.add_assoc, ← Nat.add_assoc]
  have ih := outs_append l r (at_ + s.size + 1)
  show (if s.size = 0 then outs (at_ + s.size + 1) (l ++ r) else (at_ + s.size, s) :: outs (at_ + s.size + 1) (l ++ r)) = (if s.size = 0 then outs (at_ + s.size + 1) l else (at_ + s.size, s) :: outs (at_ + s.size + 1) l) ++ outs (at_ + s.size + 1 + atOf l) r
  rw [ih]
  split <;> simp
theorem atOf_append : ∀ (l r : List ByteArray), atOf (l ++ r) = atOf l + atOf r
 | [], r => by simp [atOf]
 | s :: l, r => by
  have ih := atOf_append l r
  show s.size + 1 + atOf (l ++ r) = s.size + 1 + atOf l + atOf r
  omega
def partsL (p : ByteArray) : List (Nat × ByteArray) := outs 0 (segsB p)
theorem atOf_segs : ∀ (l : List UInt8), atOf ((segs l).map bs) = l.length + 1
 | [] => rfl
 | c :: l => by
  have ih := atOf_segs l
  have hne := segs_ne l
  unfold segs
  by_cases hc : (c == 47) = true
  ·rw [if_pos hc, List.map_cons]
   unfold atOf
   rw [ih, bs_size]; simp; omega
  ·rw [if_neg hc]
   rcases hs : segs l with _ | ⟨s, r⟩
   ·exact absurd hs hne
   ·rw [hs, List.map_cons] at ih
    unfold atOf at ih
    rw [bs_size] at ih
    show atOf (((c :: s) :: r).map bs) = _
    rw [List.map_cons]
    unfold atOf
    rw [bs_size]; simp only [List.length_cons]; omega
theorem atOf_prefix (p : ByteArray) (pre : List ByteArray) (h : pre <+: segsB p) : atOf pre ≤ p.size + 1 := by
 obtain ⟨r, hr⟩ := h
 have h1 := atOf_segs p.data.toList
 have h2 : atOf (segsB p) = p.size + 1 := by unfold segsB; rw [h1]; simp
 rw [← hr, atOf_append] at h2
 omega
theorem outs_snoc (pre : List ByteArray) (x : ByteArray) : outs 0 (pre ++ [x]) = if x.size = 0 then outs 0 pre else outs 0 pre ++ [(atOf pre + x.size, x)] := by
 rw [outs_append]
 show outs 0 pre ++ (if x.size = 0 then [] else [(0 + atOf pre + x.size, x)]) = _
 split <;> simp
theorem atOf_snoc (pre : List ByteArray) (x : ByteArray) : atOf (pre ++ [x]) = atOf pre + x.size + 1 := by
 rw [atOf_append]; show _ + (x.size + 1 + 0) = _; omega
theorem outs_prefix (p : ByteArray) (pre : List ByteArray) (h : pre <+: segsB p) : outs 0 pre <+: partsL p := by
 obtain ⟨r, hr⟩ := h
 unfold partsL
 rw [← hr, outs_append]
 exact List.prefix_append _ _
theorem roundIn_wide {n m l l' : Nat} {P : Program} {f : FuncId} {tmps : Array Value} {assign body : Code} {w : World} {R : Ending → World → Prop} (h : RoundIn Fence.wide n P l f tmps assign body w R) :
  RoundIn (Fence.wide.inRound l') m P l f tmps assign body w R := ⟨h.1, fun c cs _ => h.2 c cs (room_wide _)⟩
attribute [local go_sem] Oper.semAt_some
set_option maxHeartbeats 1000000 in
theorem splitSeq_calls (p : ByteArray) (w : World) : Calls Tryz.prog 159 #[.string p, .string ⟨#[47]⟩, .int .i64 0] w fun e w' =>
  e = .returned (.func (.func 164) #[] #[.pointer (some ⟨w.heap.size + 1, 0, none⟩), .pointer (some ⟨w.heap.size, 0, none⟩), .pointer (some ⟨w.heap.size + 2, 0, none⟩)]) ∧
  Below w.heap.size w w' ∧ w'.heap.size = w.heap.size + 3 ∧ w'.heap[w.heap.size + 1]? = some (.cells #[.string ⟨#[47]⟩] 9 (0, 0)) ∧ w'.heap[w.heap.size]? = some (.cells #[.string p] 9 (0, 0)) ∧ w'.heap[w.heap.size + 2]? = some (.cells #[.int .i64 0] 3 (0, 0)) := by
 go_enter Tryz.func159, Tryz.ntmps159
 go_wp2
 go_ret
 refine ⟨rfl, (((Below.refl _ w).alloc (Nat.le_refl _) _).alloc (by simp) _).alloc (by simp; omega) _, by simp, ?_, ?_, ?_⟩
 ·rw [Below.heap_alloc _ _ _ (by simp)]
  have := heap_alloc_new (w.alloc (.cells #[.string p] 9)) (.cells #[.string ⟨#[47]⟩] 9)
  simpa using this
 ·rw [Below.heap_alloc _ _ _ (by simp; omega), Below.heap_alloc _ _ _ (by simp)]
  exact heap_alloc_new w _
 ·have := heap_alloc_new ((w.alloc (.cells #[.string p] 9)).alloc (.cells #[.string ⟨#[47]⟩] 9)) (.cells #[.int .i64 0] 3)
  simpa using this
theorem SplitSeq_calls (p : ByteArray) (w : World) : Calls Tryz.prog 147 #[.string p, .string ⟨#[47]⟩] w fun e w' =>
  e = .returned (.func (.func 164) #[] #[.pointer (some ⟨w.heap.size + 1, 0, none⟩), .pointer (some ⟨w.heap.size, 0, none⟩), .pointer (some ⟨w.heap.size + 2, 0, none⟩)]) ∧
  Below w.heap.size w w' ∧ w'.heap.size = w.heap.size + 3 ∧ w'.heap[w.heap.size + 1]? = some (.cells #[.string ⟨#[47]⟩] 9 (0, 0)) ∧ w'.heap[w.heap.size]? = some (.cells #[.string p] 9 (0, 0)) ∧ w'.heap[w.heap.size + 2]? = some (.cells #[.int .i64 0] 3 (0, 0)) := by
 go_enter Tryz.func147, Tryz.ntmps147
 go_wp2_with (go_at_call 159; refine (splitSeq_calls p _).mono ?_; rintro e w' ⟨rfl, h⟩; have H := Lib.hid h; clear h)
 go_ret
 exact ⟨rfl, H.out⟩
theorem parts_calls (p : ByteArray) (w : World) : Calls Tryz.prog 130 #[.string p] w fun e w' =>
  e = .returned (.func (.func 146) #[] #[.pointer (some ⟨w.heap.size, 0, none⟩)]) ∧ w' = w.alloc (.cells #[.string p] 9) := by
 go_enter Tryz.func130, Tryz.ntmps130
 go_wp2
 go_ret
 exact ⟨rfl, rfl⟩
set_option maxHeartbeats 4000000 in
set_option maxRecDepth 100000 in
theorem parts1_L (n : Nat) (hn : 2 ≤ n) (p : ByteArray) (hp : p.size ≤ 4611686018427387904) (bp : Nat) :
  SeqL Fence.wide n Tryz.prog 146 #[.pointer (some ⟨bp, 0, none⟩)] (fun x : Nat × ByteArray => #[.int .i64 x.1, .string x.2]) (fun _ => False)
   (· = partsL p) (fun pre => pre <+: partsL p) (fun W => W.heap[bp]? = some (.cells #[.string p] 9 (0, 0))) := by
 rintro l J Jx FP0 W q1 hJ hJx hB0 hM hY h0
 have hlt : bp < W.heap.size := (Array.getElem?_eq_some_iff.1 q1).1
 have c1 : ((W.alloc (.cells #[.func (.yield l) #[] #[]] 213)).alloc (.cells #[.int .i64 0] 3)).cell? ⟨bp, 0, none⟩ = some (.string p) := by
  refine box_cell (t := 9) ?_
  rw [Below.heap_alloc _ _ _ (by simp; omega), Below.heap_alloc _ _ _ hlt]; exact q1
 refine callsIn_of_wp_marks Tryz.func146 rfl trivial ?_ rfl
 simp only [Tryz.ntmps146, List.size_toArray, List.length_cons, List.length_nil, Nat.reduceAdd, Nat.reduceSub, Array.replicate_succ, Array.replicate_zero, List.push_toArray, List.append_toArray, List.nil_append, List.cons_append]
 gi_wp2_with (refine ⟨trivial, fun h => (by cases h), ?_⟩; gi_at_call 147; refine (callsIn_wide.2 (SplitSeq_calls p _)).mono ?_; rintro e w' ⟨rfl, hb, hz, d1, d2, d3⟩)
 simp only [World.size_alloc] at hb hz d1 d2 d3
 have eb : w'.heap[W.heap.size]? = some (.cells #[.func (.yield l) #[] #[]] 213 (0, 0)) := by
  rw [hb.block _ (by omega), Below.heap_alloc _ _ _ (by simp)]; exact heap_alloc_new W _
 have ea : w'.heap[W.heap.size + 1]? = some (.cells #[.int .i64 0] 3 (0, 0)) := by
  rw [hb.block _ (by omega)]; have := heap_alloc_new (W.alloc (.cells #[.func (.yield l) #[] #[]] 213)) (.cells #[.int .i64 0] 3); simpa using this
 have kw : Keep FP0 W w' := ((((Keep.refl FP0 W).alloc _).alloc _).then (Keep.of_below (FP := FP0) (by simpa using hb)) (fun i hi h => h))
 have hY0 := Lib.hid hY
 have Q1 := Lib.hid q1
 clear hY c1 q1
 refine wpIn_rangeFunc_L (α := ByteArray) (gf := 164) (lb := #[.pointer (some ⟨W.heap.size + 1 + 1 + 1, 0, none⟩), .pointer (some ⟨W.heap.size + 1 + 1, 0, none⟩), .pointer (some ⟨W.heap.size + 1 + 1 + 2, 0, none⟩)]) rfl (by omega) rfl trivial (enters_of Tryz.func164 (by kernel_rfl) rfl) (encs := fun x => #[.string x])
  (splitSeq1_L (n - 1) p hp (W.heap.size + 1 + 1 + 1) (W.heap.size + 1 + 1) (W.heap.size + 1 + 1 + 2) (by omega) (by omega))
  (fun W1 h1 => ⟨(h1.block _ (by omega)).trans d1, (h1.block _ (by omega)).trans d2, (h1.block _ (by omega)).trans d3⟩)
  (by rintro k (rfl | rfl | rfl) <;> omega) (fun _ => rfl)
  (fun pre FPt V => ∃ FP, FPt = (fun k => FP k ∨ k = W.heap.size ∨ k = W.heap.size + 1) ∧ ¬ FP W.heap.size ∧ ¬ FP (W.heap.size + 1) ∧ V.heap[W.heap.size]? = some (.cells #[.func (.yield l) #[] #[]] 213 (0, 0)) ∧ V.heap[W.heap.size + 1]? = some (.cells #[.int .i64 (atOf pre : Nat)] 3 (0, 0)) ∧ Gr FP0 W FP ∧ J (outs 0 pre) FP V)
  (fun c _ FPt V => c = .ret ∧ ∃ FP pre, FPt = (fun k => FP k ∨ k = W.heap.size ∨ k = W.heap.size + 1) ∧ pre <+: partsL p ∧ Gr FP0 W FP ∧ Jx pre FP V)
  ?locI ?locX (fun k => FP0 k ∨ k = W.heap.size ∨ k = W.heap.size + 1) ?bd0 ?disj ?start
  (fun x => { tmps := #[.func (.yield l) #[] #[], .pointer (some ⟨bp, 0, none⟩), .pointer (some ⟨W.heap.size, 0, none⟩), .pointer (some ⟨W.heap.size + 1, 0, none⟩), .string x, .string p, .func (.func 164) #[] #[.pointer (some ⟨W.heap.size + 1 + 1 + 1, 0, none⟩), .pointer (some ⟨W.heap.size + 1 + 1, 0, none⟩), .pointer (some ⟨W.heap.size + 1 + 1 + 2, 0, none⟩)], .string x, undef, undef, undef, undef, undef, undef, undef, undef, undef, undef, undef, undef, undef, undef, undef], defers := [] }) ?assign ?body ?done ?stop
 case locI =>
  rintro s FPt V V' ⟨FP, rfl, m1, m2, h1, h2, h3, h4⟩ hk
  exact ⟨FP, rfl, m1, m2, (hk _ (.inr (.inl rfl))).trans h1, (hk _ (.inr (.inr rfl))).trans h2, h3, hJ _ _ _ _ h4 (fun k h => hk k (.inl h))⟩
 case locX =>
  rintro c s FPt V V' ⟨rfl, FP, pre, rfl, h1, h2, h3⟩ hk
  exact ⟨rfl, FP, pre, rfl, h1, h2, hJx _ _ _ _ h3 (fun k h => hk k (.inl h))⟩
 case bd0 =>
  rintro k (h | rfl | rfl)
  ·have := hB0 k h; omega
  ·omega
  ·omega
 case disj =>
  rintro k (h | rfl | rfl)
  ·have := hB0 k h; omega
  ·omega
  ·omega
 case start =>
  exact ⟨FP0, rfl, fun h => by have := hB0 _ h; omega, fun h => by have := hB0 _ h; omega, eb, ea, fun k h => .inl h, hJ _ _ _ _ h0 (fun k h => by have := hB0 k h; rw [hb.block _ (by omega), Below.heap_alloc _ _ _ (by simp; omega), Below.heap_alloc _ _ _ this])⟩
 case assign =>
  intro l2 x V K hK
  gi_wp2
  exact hK
 case body =>
  rintro l2 pre x FPt V ⟨FP, rfl, m1, m2, h1, h2, h3, h4⟩ hbd hsz hsp
  have zs : atOf pre + x.size + 1 ≤ p.size + 1 := by have := atOf_prefix p _ hsp; rw [atOf_snoc] at this; exact this
  have zi : ((atOf pre : Int) + (x.size : Int)) + 1 ≤ 4611686018427387905 := by omega
  have ca := box_cell h2
  have fa := box_free h2 0
  obtain ⟨U, hU⟩ : ∃ U, V.setCell ⟨W.heap.size + 1, 0, none⟩ (.int .i64 ((atOf pre : Int) + (x.size : Int))) = U := ⟨_, rfl⟩
  have u1 : U.heap[W.heap.size]? = some (.cells #[.func (.yield l) #[] #[]] 213 (0, 0)) := by rw [← hU]; exact (set_other (by omega)).trans h1
  have u2 : U.heap[W.heap.size + 1]? = some (.cells #[.int .i64 ((atOf pre : Int) + (x.size : Int))] 3 (0, 0)) := by rw [← hU]; exact box_set h2
  have uk : ∀ k, FP k → U.heap[k]? = V.heap[k]? := fun k hk => by rw [← hU]; exact set_other (fun e => by subst e; exact m2 hk)
  have uK : Keep (fun k => FP k ∨ k = W.heap.size ∨ k = W.heap.size + 1) V U := by rw [← hU]; exact (Keep.refl _ V).setCell _ _ (.inl (.inr (.inr rfl)))
  have us : U.heap.size = V.heap.size := by rw [← hU]; simp [World.setCell]
  have ca' := box_cell u2
  have fa' := box_free u2 0
  have cb' := box_cell u1
  -- behind 'at++'
  have fin : ∀ (FP' : Nat → Prop) (Z : World), Gr FP U FP' → Bd FP' Z → Keep FP U Z → J (outs 0 (pre ++ [x])) FP' Z →
    Z.heap[W.heap.size + 1]? = some (.cells #[.int .i64 ((atOf pre : Int) + (x.size : Int))] 3 (0, 0)) ∧
    ∃ FP2, Gr (fun k => FP k ∨ k = W.heap.size ∨ k = W.heap.size + 1) V FP2 ∧ Bd FP2 (Z.setCell ⟨W.heap.size + 1, 0, none⟩ (.int .i64 ((atOf pre : Int) + (x.size : Int) + 1))) ∧
     Keep (fun k => FP k ∨ k = W.heap.size ∨ k = W.heap.size + 1) V (Z.setCell ⟨W.heap.size + 1, 0, none⟩ (.int .i64 ((atOf pre : Int) + (x.size : Int) + 1))) ∧
     ∃ FP, FP2 = (fun k => FP k ∨ k = W.heap.size ∨ k = W.heap.size + 1) ∧ ¬ FP W.heap.size ∧ ¬ FP (W.heap.size + 1) ∧
      (Z.setCell ⟨W.heap.size + 1, 0, none⟩ (.int .i64 ((atOf pre : Int) + (x.size : Int) + 1))).heap[W.heap.size]? = some (.cells #[.func (.yield l) #[] #[]] 213 (0, 0)) ∧
      (Z.setCell ⟨W.heap.size + 1, 0, none⟩ (.int .i64 ((atOf pre : Int) + (x.size : Int) + 1))).heap[W.heap.size + 1]? = some (.cells #[.int .i64 (atOf (pre ++ [x]) : Nat)] 3 (0, 0)) ∧
      Gr FP0 W FP ∧ J (outs 0 (pre ++ [x])) FP (Z.setCell ⟨W.heap.size + 1, 0, none⟩ (.int .i64 ((atOf pre : Int) + (x.size : Int) + 1))) := by
   intro FP' Z g1 g2 g3 g4
   have m3 : ¬ FP' W.heap.size := fun h => by rcases g1 _ h with h | h; exact m1 h; omega
   have m4 : ¬ FP' (W.heap.size + 1) := fun h => by rcases g1 _ h with h | h; exact m2 h; omega
   have z2 := (g3.block _ (by omega) m2).trans u2
   have z1 := (g3.block _ (by omega) m1).trans u1
   have gs := g3.size
   refine ⟨z2, (fun k => FP' k ∨ k = W.heap.size ∨ k = W.heap.size + 1), ?_, ?_, ?_, FP', rfl, m3, m4, ?_, ?_, ?_, ?_⟩
   ·rintro k (h | h)
    ·rcases g1 k h with h | h
     ·exact .inl (.inl h)
     ·exact .inr (by omega)
    ·exact .inl (.inr h)
   ·rintro k (h | rfl | rfl)
    ·have := g2 k h; simpa [World.setCell] using this
    ·simp [World.setCell]; omega
    ·simp [World.setCell]; omega
   ·exact (uK.then g3 (fun i hi h => .inl h)).setCell _ _ (.inl (.inr (.inr rfl)))
   ·exact (set_other (by omega)).trans z1
   ·rw [box_set z2, atOf_snoc]; simp
   ·intro k hk
    rcases g1 k hk with h | h
    ·exact h3 k h
    ·exact .inr (by omega)
   ·exact hJ _ _ _ _ g4 (fun k hk => set_other (fun e => by subst e; exact m4 hk))
  by_cases hx : x.size = 0
  ·obtain rfl : x = ⟨#[]⟩ := by
    refine ba_ext ?_
    exact List.eq_nil_of_length_eq_zero (by simpa using hx)
   have KK := Lib.hid (fin FP U (fun k h => .inl h) (fun k h => by have := hbd k (.inl h); omega) (Keep.refl _ _) (by rw [outs_snoc, if_pos hx]; exact hJ _ _ _ _ h4 uk)).2
   have e0 : ((atOf pre : Int) + ((⟨#[]⟩ : ByteArray).size : Int)) = (atOf pre : Int) := by rw [hx]; simp
   rw [e0] at KK hU ca' u2
   clear fin hb hz d1 d2 d3 eb ea kw hsz hsp h3 h4 hbd hJ hJx hM hn hp h0 hB0 zs hx u1 uk uK us h1 h2 e0
   repeat gi_step
   refine ⟨fun _ _ => trivial, ?_⟩
   repeat gi_step
   exact KK.out
  ·have hx' : x.toList.isEmpty = false := by
    cases hb : x.toList.isEmpty with
    | false => rfl
    | true =>
     have h0 : (⟨#[]⟩ : ByteArray).toList = [] := by simp [go_sem]
     have h1 : (x.toList == (⟨#[]⟩ : ByteArray).toList) = true := by rw [List.isEmpty_iff.1 hb, h0]; rfl
     exact absurd (congrArg ByteArray.size ((Lib.bytes_beq_iff _ _).1 h1)) hx
   have hj2 : J (outs 0 pre) FP U := hJ _ _ _ _ h4 uk
   have hprf := outs_prefix p _ hsp
   have ho : outs 0 (pre ++ [x]) = outs 0 pre ++ [(atOf pre + x.size, x)] := by rw [outs_snoc, if_neg hx]
   rw [ho] at hprf
   have HO := Lib.hid ho
   have hbU : Bd FP U := fun k h => by have := hbd k (.inl h); omega
   obtain ⟨fn, tmps, assign, body, hy, hR⟩ := hY0.out (outs 0 pre) (atOf pre + x.size, x) FP U hj2 hbU hprf
   have HR := Lib.hid hR
   have FIN := Lib.hid fin
   have KK := Lib.hid (And.intro hbd (And.intro uK (And.intro us (And.intro h3 hprf))))
   have hy' : (Instr.yield l #[.int .i64 ((atOf pre : Int) + (x.size : Int)), .string x]).run Tryz.prog U = .ok (.round l fn tmps assign body) U := by simpa using hy
   clear hy hR fin hb hz d1 d2 d3 eb ea kw hsz hsp h3 h4 hbd hJ hJx hM hn hp h0 hB0 zs u1 uk uK us h1 h2 ho hprf hbU hj2
   have w1 : IntKind.i64.wrap ((atOf pre : Int) + (x.size : Int)) = (atOf pre : Int) + (x.size : Int) := by
    go_bits; trivial
   have w2 : IntKind.i64.wrap ((atOf pre : Int) + (x.size : Int) + 1) = (atOf pre : Int) + (x.size : Int) + 1 := by
    go_bits; trivial
   clear zi
   repeat gi_step
   refine ⟨fun h => (by cases h), (roundIn_wide HR.out).mono ?_⟩
   obtain ⟨hbd, uK, us, h3, hprf⟩ := KK.out
   rintro e W3 ⟨FP', g1, g2, g3, (⟨rfl, hJ3⟩ | ⟨rfl, hJ3⟩)⟩
   ·obtain ⟨z2, zz⟩ := FIN.out FP' W3 g1 g2 g3 (by rw [HO.out]; exact hJ3)
    have zc := box_cell z2
    have zf := box_free z2 0
    have ZZ := Lib.hid zz
    clear zz g1 g2 g3 hJ3 hbd uK us h3 hprf z2
    gi_wp2
    exact ZZ.out
   ·have HH := Lib.hid (And.intro g1 (And.intro g2 (And.intro g3 (And.intro hJ3 (And.intro hbd (And.intro uK (And.intro us (And.intro h3 hprf))))))))
    clear g1 g2 g3 hJ3 hbd uK us h3 hprf
    gi_wp2
    obtain ⟨g1, g2, g3, hJ3, hbd, uK, us, h3, hprf⟩ := HH.out
    have gs := g3.size
    refine ⟨fun k => FP' k ∨ k = W.heap.size ∨ k = W.heap.size + 1, ?_, ?_, uK.then g3 (fun i hi h => .inl h), rfl, FP', _, rfl, hprf, ?_, hJ3⟩
    ·rintro k (h | h)
     ·rcases g1 k h with h | h
      ·exact .inl (.inl h)
      ·exact .inr (by omega)
     ·exact .inl (.inr h)
    ·rintro k (h | h)
     ·exact g2 k h
     ·have := hbd k (.inr h); omega
    ·intro k hk
     rcases g1 k hk with h | h
     ·exact h3 k h
     ·have := hbd W.heap.size (.inr (.inl rfl)); exact .inr (by omega)
 case done =>
  rintro D xs FPt V rfl ⟨FP, rfl, m1, m2, h1, h2, h3, h4⟩ hgr hbd hkp hD hnD hK
  have HH := Lib.hid (And.intro hb (And.intro hz (And.intro kw (And.intro hbd (And.intro hkp (And.intro h3 (And.intro h4 hJ)))))))
  clear hb hz d1 d2 d3 eb ea kw hbd hkp h3 h4 hJ hJx h1 h2 hgr hM h0 hB0
  gi_wp2
  refine ⟨by simp, .inl ⟨_, _, rfl, run_takeDeferred hK, ?_⟩⟩
  obtain ⟨hb, hz, kw, hbd, hkp, h3, h4, hJ⟩ := HH.out
  refine ⟨_, results_none rfl _ _ _, ⟨_, rfl⟩, FP, h3, fun k hk => by have := hbd k (.inl hk); simpa using this, ?_, .inl ?_⟩
  ·refine (kw.then hkp ?_).putObj _ _ (.inr (by omega))
   rintro i hi ((h | rfl | rfl) | (rfl | rfl | rfl))
   ·exact h
   all_goals omega
  ·exact hJ _ _ _ _ h4 (fun k hk => putObj_block (fun e => by subst e; exact hnD (.inl hk)))
 case stop =>
  rintro D c pre FPt V hsp ⟨rfl, FP, pre2, rfl, h1, h2, h3⟩ hgr hbd hkp hD hnD hK
  have HH := Lib.hid (And.intro hb (And.intro hz (And.intro kw (And.intro hbd (And.intro hkp (And.intro h1 (And.intro h2 h3)))))))
  clear hb hz d1 d2 d3 eb ea kw hbd hkp h1 h2 h3 hJ hgr hM h0 hB0
  gi_wp2
  refine ⟨by simp, .inl ⟨_, _, rfl, run_takeDeferred hK, ?_⟩⟩
  obtain ⟨hb, hz, kw, hbd, hkp, h1, h2, h3⟩ := HH.out
  refine ⟨_, results_none rfl _ _ _, ⟨_, rfl⟩, FP, h2, fun k hk => by have := hbd k (.inl hk); simpa using this, ?_, .inr ⟨pre2, h1, ?_⟩⟩
  ·refine (kw.then hkp ?_).putObj _ _ (.inr (by omega))
   rintro i hi ((h | rfl | rfl) | (rfl | rfl | rfl))
   ·exact h
   all_goals omega
  ·exact hJx _ _ _ _ h3 (fun k hk => putObj_block (fun e => by subst e; exact hnD (.inl hk)))
end Go.Proofs.YtpfbimkpcnnfkaaGreatDoor.Ext
