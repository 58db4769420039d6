/- disk.Get, mode.May. -/
import Derived.Test.YthagmakojbfmaaaDoorKinds
import Derived.Test.YthagmakojbfmaaaDoorShelf
import Derived.Lib.Hide
import Derived.IntWalk
import Derived.Laws.ResultCell
import Derived.Deep.RegionHeld
/- entry.Find: the search in a sorted list of names. -/
namespace Go.Proofs.YthagmakojbfmaaaDoor.Ext
open Go Go.RowKit Go.Proofs.YthagmakojbfmaaaDoorW.PrintWords
set_option linter.unusedVariables false
set_option linter.unusedSimpArgs false
def ord (e : S57) (name : ByteArray) : Int := Lib.compareBytes e.f0.data.toList name.data.toList
def atB (l : List S57) (name : ByteArray) (i : Nat) : Bool := decide (i < l.length ∧ ord (rd_T57 l i) name = 0)
set_option maxHeartbeats 1000000 in
set_option maxRecDepth 100000 in
theorem place1_calls (e : S57) (name : ByteArray) (w : World) : Calls Tryd.prog 75 #[.agg #[.string e.f0, .int .i64 e.f1], .string name] w fun r w' => r = .returned (.int .i64 (ord e name)) ∧ Below w.heap.size w w' := by
 have bl : Below w.heap.size w (w.alloc (.cells #[.string e.f0, .int .i64 e.f1] 57)) := (Below.refl _ w).alloc (Nat.le_refl _) _
 have BL := Lib.hid bl
 clear bl
 go_enter Tryd.func75, Tryd.ntmps75
 go_wp2_with (go_at_call 76; refine (Tryd.strings_Compare e.f0 name _).mono ?_; rintro r w' ⟨rfl, rfl⟩)
 go_ret
 exact ⟨rfl, BL.out⟩
set_option maxHeartbeats 4000000 in
set_option maxRecDepth 100000 in
theorem search_calls (A : Option Addr) (c : Nat) (l : List S57) (name : ByteArray) (w : World) (hr : Kd.C k57 w A l.length l) (hc : l.length ≤ c) (hl : l.length ≤ 1000000)
  (hm : ∀ a b : Nat, a ≤ b → b < l.length → ord (rd_T57 l b) name < 0 → ord (rd_T57 l a) name < 0) :
  Calls Tryd.prog 74 #[.slice A l.length c, .string name, .func (.func 75) #[] #[]] w fun e w' => ∃ i : Nat, i ≤ l.length ∧ (∀ k : Nat, k < i → ord (rd_T57 l k) name < 0) ∧ (∀ k : Nat, i ≤ k → k < l.length → 0 ≤ ord (rd_T57 l k) name) ∧
   e = .returned (.tuple #[.int .i64 i, .bool (atB l name i)]) ∧ Below w.heap.size w w' := by
 go_enter Tryd.func74, Tryd.ntmps74
 have HR := Lib.hid hr
 have HM := Lib.hid hm
 clear hr hm
 go_wp2
 go_loopw [9, 10] (fun v9 v10 wr => ∃ i j : Nat, v9 = .int .i64 (i : Nat) ∧ v10 = .int .i64 (j : Nat) ∧ i ≤ j ∧ j ≤ l.length ∧ (∀ k : Nat, k < i → ord (rd_T57 l k) name < 0) ∧ (∀ k : Nat, j ≤ k → k < l.length → 0 ≤ ord (rd_T57 l k) name) ∧ Below w.heap.size w wr) (fun v9 v10 _ => (intOf v10).toNat - (intOf v9).toNat)
 case atStart => exact ⟨0, l.length, rfl, rfl, Nat.zero_le _, Nat.le_refl _, fun k h => by omega, fun k h1 h2 => by omega, Below.refl _ _⟩
 case round =>
  obtain ⟨i, j, rfl, rfl, h1, h2, h3, h4, hb⟩ := hrel
  by_cases hij : i < j
  ·have hij' : (i : Int) < (j : Int) := by omega
   obtain ⟨h, hh⟩ : ∃ h, h = (i + j) / 2 := ⟨_, rfl⟩
   have hlt : h < l.length := by omega
   have hr' := Kd.C_below HR.out hb
   obtain ⟨ad, eA, x0, x1⟩ := at_T57 hr' (h : Int) (by omega) (by omega)
   cases eA
   rw [Int.toNat_natCast] at x0 x1
   have w1 : IntKind.i64.wrap ((i : Int) + (j : Int)) = (i : Int) + (j : Int) := by
    rw [IntKind.wrap_i64] <;> omega
   have w2 : IntKind.u64.wrap ((i : Int) + (j : Int)) = (i : Int) + (j : Int) := IntWalk.u64_in _ (by omega)
   have w3 : wrap64 (((i : Int) + (j : Int)) / 2) = (h : Int) := by unfold wrap64; omega
   have g1 : (0 : Int) ≤ (h : Int) := by omega
   have g2 : (h : Int) < (l.length : Int) := by omega
   have HX := Lib.hid (And.intro h1 (And.intro h2 (And.intro h3 (And.intro h4 (And.intro hb (And.intro hh (And.intro hlt hl)))))))
   clear h1 h2 h3 h4 hb hr' hh hlt hc hl
   go_wp2_with (go_at_call 75; refine (place1_calls (rd_T57 l h) name _).mono ?_; rintro r w' ⟨rfl, hb2⟩)
   ·rename_i hx
    obtain ⟨h1, h2, h3, h4, hb, hh, hlt, hl⟩ := HX.out
    have w4 : wrap64 ((h : Int) + 1) = ((h + 1 : Nat) : Int) := by unfold wrap64; omega
    rw [w4]
    refine ⟨⟨h + 1, j, rfl, rfl, by omega, h2, fun k hk => HM.out k h (by omega) hlt hx, h4, below_step hb hb2⟩, ?_⟩
    simp [intOf]; omega
   ·rename_i hx
    obtain ⟨h1, h2, h3, h4, hb, hh, hlt, hl⟩ := HX.out
    refine ⟨⟨i, h, rfl, rfl, by omega, by omega, h3, fun k hk1 hk2 => Int.not_lt.1 (fun hk3 => absurd (HM.out h k hk1 hk2 hk3) (Int.not_lt.2 hx)), below_step hb hb2⟩, ?_⟩
    simp [intOf]; omega
  ·obtain rfl : i = j := by omega
   by_cases hi : i < l.length
   ·have hi' : (i : Int) < (l.length : Int) := by omega
    have hr' := Kd.C_below HR.out hb
    obtain ⟨ad, eA, x0, x1⟩ := at_T57 hr' (i : Int) (by omega) (by omega)
    cases eA
    rw [Int.toNat_natCast] at x0 x1
    have g1 : (0 : Int) ≤ (i : Int) := by omega
    have HX := Lib.hid (And.intro h2 (And.intro h3 (And.intro h4 hb)))
    clear h1 h2 h3 h4 hb hr' hc hl
    go_wp2_with (go_at_call 75; refine (place1_calls (rd_T57 l i) name _).mono ?_; rintro r w' ⟨rfl, hb2⟩)
    obtain ⟨h2, h3, h4, hb⟩ := HX.out
    go_ret2
    refine ⟨i, h2, h3, h4, ?_, below_step hb hb2⟩
    have e : decide (i < l.length ∧ ord (rd_T57 l i) name = 0) = (ord (rd_T57 l i) name == 0) := by
     rw [Bool.eq_iff_iff]; simp [hi]
    unfold atB
    rw [e]; rfl
   ·obtain rfl : i = l.length := by omega
    have HX := Lib.hid (And.intro h3 hb)
    clear h1 h2 h3 h4 hb hc hl
    go_wp2
    obtain ⟨h3, hb⟩ := HX.out
    go_ret2
    exact ⟨l.length, Nat.le_refl _, h3, fun k a b => by omega, by unfold atB; simp, hb⟩
theorem place_calls (A : Option Addr) (c : Nat) (l : List S57) (name : ByteArray) (w : World) (hr : Kd.C k57 w A l.length l) (hc : l.length ≤ c) (hl : l.length ≤ 1000000)
  (hm : ∀ a b : Nat, a ≤ b → b < l.length → ord (rd_T57 l b) name < 0 → ord (rd_T57 l a) name < 0) :
  Calls Tryd.prog 71 #[.slice A l.length c, .string name] w fun e w' => ∃ i : Nat, i ≤ l.length ∧ (∀ k : Nat, k < i → ord (rd_T57 l k) name < 0) ∧ (∀ k : Nat, i ≤ k → k < l.length → 0 ≤ ord (rd_T57 l k) name) ∧
   e = .returned (.tuple #[.int .i64 i, .bool (atB l name i)]) ∧ Below w.heap.size w w' := by
 have HS := Lib.hid (search_calls A c l name w hr hc hl hm)
 clear hr hm
 go_enter Tryd.func71, Tryd.ntmps71
 go_wp2_with (go_at_call 74; refine HS.out.mono ?_; rintro e w' ⟨i, h1, h2, h3, rfl, h4⟩)
 go_ret2
 exact ⟨i, h1, h2, h3, rfl, h4⟩
def findL (l : List S57) (name : ByteArray) : Option S57 := l.find? (fun e => ord e name == 0)
def inoL (l : List S57) (name : ByteArray) : Int := match findL l name with
 | none => -1
 | some e => e.f1
theorem rd_T57_nat (l : List S57) (i : Nat) (h : i < l.length) : rd_T57 l (i : Int) = l[i] := by
 unfold rd_T57
 rw [Int.toNat_natCast, List.getD_eq_getElem?_getD, List.getElem?_eq_getElem h]; rfl
structure Sorted57 (l : List S57) (name : ByteArray) : Prop where
 lt : ∀ a b : Nat, a ≤ b → b < l.length → ord (rd_T57 l b) name < 0 → ord (rd_T57 l a) name < 0
 le : ∀ a b : Nat, a ≤ b → b < l.length → ord (rd_T57 l b) name ≤ 0 → ord (rd_T57 l a) name ≤ 0
theorem find_at (l : List S57) (name : ByteArray) (hs : Sorted57 l name) (i : Nat) (hi : i ≤ l.length) (h1 : ∀ k : Nat, k < i → ord (rd_T57 l k) name < 0) (h2 : ∀ k : Nat, i ≤ k → k < l.length → 0 ≤ ord (rd_T57 l k) name) :
  findL l name = if atB l name i = true then some (rd_T57 l i) else none := by
 unfold findL atB
 by_cases h : i < l.length ∧ ord (rd_T57 l i) name = 0
 ·rw [if_pos (decide_eq_true h), List.find?_eq_some_iff_getElem]
  refine ⟨by simpa using h.2, i, h.1, (rd_T57_nat l i h.1).symm, fun j hj => ?_⟩
  have := h1 j hj
  rw [rd_T57_nat l j (by omega)] at this
  simp; omega
 ·rw [if_neg (by simpa using h), List.find?_eq_none]
  intro e he hz
  obtain ⟨j, hj, rfl⟩ := List.getElem_of_mem he
  rw [← rd_T57_nat l j hj] at hz
  have hz' : ord (rd_T57 l j) name = 0 := by simpa using hz
  rcases Nat.lt_or_ge j i with hji | hji
  ·have := h1 j hji; omega
  ·have h3 := hs.le i j hji hj (by omega)
   have h4 := h2 i (Nat.le_refl _) (by omega)
   exact h ⟨by omega, by omega⟩
set_option maxHeartbeats 1000000 in
set_option maxRecDepth 100000 in
theorem find_calls (A : Option Addr) (c : Nat) (l : List S57) (name : ByteArray) (w : World) (hr : Kd.C k57 w A l.length l) (hc : l.length ≤ c) (hl : l.length ≤ 1000000) (hs : Sorted57 l name) :
  Calls Tryd.prog 66 #[.slice A l.length c, .string name] w fun e w' => e = .returned (.tuple #[.int .i64 (inoL l name), .bool (findL l name).isSome]) ∧ Below w.heap.size w w' := by
 refine Calls.mono (R := fun e w' => ∃ i : Nat, i ≤ l.length ∧ (∀ k : Nat, k < i → ord (rd_T57 l k) name < 0) ∧ (∀ k : Nat, i ≤ k → k < l.length → 0 ≤ ord (rd_T57 l k) name) ∧
   e = .returned (.tuple #[.int .i64 (if atB l name i = true then (rd_T57 l i).f1 else -1), .bool (atB l name i)]) ∧ Below w.heap.size w w') ?_ ?_
 ·have HP := Lib.hid (place_calls A c l name w hr hc hl hs.lt)
  have HR := Lib.hid hr
  clear hr hs
  go_enter Tryd.func66, Tryd.ntmps66
  go_wp2_with (go_at_call 71; refine HP.out.mono ?_; rintro e w' ⟨i, h1, h2, h3, rfl, h4⟩; have HX := Lib.hid (And.intro h1 (And.intro h2 (And.intro h3 h4))); clear h1 h2 h3 h4; cases ha : atB l name i)
  ·obtain ⟨h1, h2, h3, h4⟩ := HX.out
   go_ret2
   refine ⟨i, h1, h2, h3, ?_, h4⟩
   rw [ha, if_neg Bool.false_ne_true]; rfl
  ·have hi : i < l.length := by unfold atB at ha; exact (of_decide_eq_true ha).1
   obtain ⟨ad, eA, x0, x1⟩ := at_T57 (Kd.C_below HR.out HX.out.2.2.2) (i : Int) (by omega) (by omega)
   cases eA
   rw [Int.toNat_natCast] at x0 x1
   have g1 : (0 : Int) ≤ (i : Int) := by omega
   have g2 : (i : Int) < (l.length : Int) := by omega
   go_simp
   try go_bits
   try go_wp2
   obtain ⟨h1, h2, h3, h4⟩ := HX.out
   go_ret2
   refine ⟨i, h1, h2, h3, ?_, h4⟩
   rw [ha, if_pos rfl]; rfl
 ·rintro e w' ⟨i, h1, h2, h3, rfl, h4⟩
  have hf := find_at l name hs i h1 h2 h3
  refine ⟨?_, h4⟩
  unfold inoL
  rw [hf]
  by_cases ha : atB l name i = true
  ·rw [if_pos ha, if_pos ha, ha]; rfl
  ·have ha' : atB l name i = false := by simpa using ha
   rw [if_neg ha, if_neg ha, ha']; rfl
end Go.Proofs.YthagmakojbfmaaaDoor.Ext
namespace Go.Proofs.YthagmakojbfmaaaDoor.Ext
open Go Go.RowKit Go.Proofs.YthagmakojbfmaaaDoorW.PrintWords
set_option linter.unusedVariables false
set_option linter.unusedSimpArgs false
def nodeV (n : S48) (A : Option Addr) (c : Nat) : Value := .agg #[.int .i64 n.f0, .int .i64 n.f1, .int .i64 n.f2, .int .i64 n.f3, .int .i64 n.f4, .int .i64 n.f5, .string n.f6, .slice A n.f7.length c]
def getB (l : List S48) (i : Int) : Bool := decide (0 ≤ i ∧ i < l.length ∧ (rd_T48 l i).f0 ≠ 0)
def getL (l : List S48) (i : Int) : S48 := if getB l i = true then rd_T48 l i else z48
set_option maxHeartbeats 1000000 in
set_option maxRecDepth 100000 in
theorem between_calls (n a b : Int) (w : World) : Calls Tryd.prog 65 #[.int .i64 n, .int .i64 a, .int .i64 b] w fun e w' => e = .returned (.bool (decide (a ≤ n ∧ n ≤ b))) ∧ w' = w := by
 go_enter Tryd.func65, Tryd.ntmps65
 go_wp2
 ·go_ret
  exact ⟨by simp [*], rfl⟩
 ·go_ret
  exact ⟨by simp [*]; intro h; omega, rfl⟩
set_option maxHeartbeats 4000000 in
set_option maxRecDepth 100000 in
theorem get_calls (A : Option Addr) (c : Nat) (l : List S48) (m r i : Int) (w0 w : World) (hB : Below w0.heap.size w0 w) (hr : Kd.C k48 w0 A l.length l) (hc : l.length ≤ c) (hl : l.length ≤ 1000000) :
  Calls Tryd.prog 54 #[.agg #[.slice A l.length c, .int .i64 m, .int .i64 r], .int .i64 i] w fun e w' => ∃ A7 c7, e = .returned (.tuple #[nodeV (getL l i) A7 c7, .bool (getB l i)]) ∧ (getL l i).f7.length ≤ c7 ∧ Kd.C k57 w0 A7 (getL l i).f7.length (getL l i).f7 ∧ Below w.heap.size w w' := by
 have W1 : IntKind.i64.wrap ((l.length : Int) - 1) = (l.length : Int) - 1 := by rw [IntKind.wrap_i64] <;> omega
 by_cases h : 0 ≤ i ∧ i ≤ (l.length : Int) - 1
 ·have hb := between_calls i 0 ((l.length : Int) - 1)
  rw [decide_eq_true h] at hb
  obtain ⟨ad, A7, c7, eA, x0, x1, x2, x3, x4, x5, x6, x7, hc7, hC⟩ := at_T48 hr i h.1 (by omega)
  have al : ∀ (a : Addr) (v : Value), w0.cell? a = some v → ((w.alloc (.cells #[.slice A l.length c, .int .i64 m, .int .i64 r] 24)).alloc (.cells #[.int .i64 0, .int .i64 0, .int .i64 0, .int .i64 0, .int .i64 0, .int .i64 0, .string ⟨#[]⟩, .slice none 0 0] 48)).cell? a = some v := fun a v hv0 => by
   have hv : w.cell? a = some v := by
    have hlt := World.block_lt_of_cell? w0 a hv0
    have hh := hB.block a.block hlt
    unfold World.cell? at hv0 ⊢
    rw [hh]; exact hv0
   have e1 : (w.alloc (.cells #[.slice A l.length c, .int .i64 m, .int .i64 r] 24)).cell? a = some v := by rw [World.cell?_alloc_some w a _ (by rw [hv]; rfl)]; exact hv
   rw [World.cell?_alloc_some _ a _ (by rw [e1]; rfl)]; exact e1
  replace x0 := al _ _ x0
  replace x1 := al _ _ x1
  replace x2 := al _ _ x2
  replace x3 := al _ _ x3
  replace x4 := al _ _ x4
  replace x5 := al _ _ x5
  replace x6 := al _ _ x6
  replace x7 := al _ _ x7
  clear al
  cases eA
  have g1 : 0 ≤ i := h.1
  have g2 : i < (l.length : Int) := by omega
  have hg : getB l i = !((rd_T48 l i).f0 == 0) := by unfold getB; rw [Bool.eq_iff_iff]; simp [g1, g2]
  by_cases hz : (rd_T48 l i).f0 = 0
  ·have hg' : getB l i = false := by rw [hg, hz]; rfl
   have hgl : getL l i = z48 := by unfold getL; rw [hg']; rfl
   rw [hg', hgl]
   rw [hz] at x0
   clear hr hB hc hl hg hg' hgl h hc7 hC
   go_enter Tryd.func54, Tryd.ntmps54
   go_wp2_with (go_at_call 65; refine (hb _).mono ?_; rintro e w' ⟨rfl, rfl⟩)
   refine bodyPost_ret (v := .tuple #[nodeV z48 none 0, .bool false]) ?_ rfl ?_
   ·rw [results_cell_tmp rfl]
    go_simp
    try rfl
   ·refine ⟨none, 0, rfl, Nat.le_refl _, ?_, ((Below.refl _ w).alloc (Nat.le_refl _) _).alloc (by simp) _⟩
    exact Kd.C_nil _ _
  ·have hg' : getB l i = true := by rw [hg]; simpa using hz
   have hgl : getL l i = rd_T48 l i := by unfold getL; rw [hg']; rfl
   rw [hg', hgl]
   have hz' : ((rd_T48 l i).f0 == 0) = false := by simpa using hz
   have HX := Lib.hid (And.intro hc7 hC)
   clear hr hB hc hl hg hg' hgl h hc7 hC
   generalize rd_T48 l i = n at x0 x1 x2 x3 x4 x5 x6 x7 hz hz' HX ⊢
   go_enter Tryd.func54, Tryd.ntmps54
   go_wp2_with (go_at_call 65; refine (hb _).mono ?_; rintro e w' ⟨rfl, rfl⟩)
   refine bodyPost_ret (v := .tuple #[nodeV n A7 c7, .bool true]) ?_ rfl ?_
   ·rw [results_cell_tmp rfl]
    go_simp
    try rfl
   ·have bl : Below w.heap.size w ((w.alloc (.cells #[.slice (some ad) l.length c, .int .i64 m, .int .i64 r] 24)).alloc (.cells #[.int .i64 n.f0, .int .i64 n.f1, .int .i64 n.f2, .int .i64 n.f3, .int .i64 n.f4, .int .i64 n.f5, .string n.f6, .slice A7 n.f7.length c7] 48)) := ((Below.refl _ w).alloc (Nat.le_refl _) _).alloc (by simp) _
    exact ⟨A7, c7, rfl, HX.out.1, HX.out.2, bl⟩
 ·have hb := between_calls i 0 ((l.length : Int) - 1)
  rw [decide_eq_false h] at hb
  have hg : getB l i = false := by unfold getB; rw [decide_eq_false]; intro h2; exact h ⟨h2.1, by omega⟩
  have hgl : getL l i = z48 := by unfold getL; rw [hg]; rfl
  rw [hg, hgl]
  have HR := Lib.hid hr
  clear hr hB hc hl hg hgl h
  go_enter Tryd.func54, Tryd.ntmps54
  go_wp2_with (go_at_call 65; refine (hb _).mono ?_; rintro e w' ⟨rfl, rfl⟩)
  refine bodyPost_ret (v := .tuple #[nodeV z48 none 0, .bool false]) ?_ rfl ?_
  ·rw [results_cell_tmp rfl]
   go_simp
   try rfl
  ·refine ⟨none, 0, rfl, Nat.le_refl _, ?_, ((Below.refl _ w).alloc (Nat.le_refl _) _).alloc (by simp) _⟩
   exact Kd.C_nil _ _
def mayB (m o u want : Int) : Bool := if u = 0 then true else bits .andNot .i64 (bits .and .i64 want 7) (if u = o then m / 8 else m) == 0
set_option maxHeartbeats 1000000 in
set_option maxRecDepth 100000 in
theorem may_calls (m o u want : Int) (w : World) : Calls Tryd.prog 55 #[.int .i64 m, .int .i64 o, .int .i64 u, .int .i64 want] w fun e w' => e = .returned (.bool (mayB m o u want)) ∧ w' = w := by
 unfold mayB
 by_cases h0 : u = 0
 ·have e0 : (u == 0) = true := by simpa using h0
  rw [if_pos h0]
  clear h0
  go_enter Tryd.func55, Tryd.ntmps55
  go_wp2
  go_ret
  exact ⟨rfl, rfl⟩
 ·have e0 : (u == 0) = false := by simpa using h0
  rw [if_neg h0]
  by_cases h1 : u = o
  ·have e1 : (u == o) = true := by simpa using h1
   rw [if_pos h1]
   clear h1 h0
   go_enter Tryd.func55, Tryd.ntmps55
   go_wp2
   go_ret
   exact ⟨rfl, rfl⟩
  ·have e1 : (u == o) = false := by simpa using h1
   rw [if_neg h1]
   clear h1 h0
   go_enter Tryd.func55, Tryd.ntmps55
   go_wp2
   go_ret
   exact ⟨rfl, rfl⟩
end Go.Proofs.YthagmakojbfmaaaDoor.Ext
