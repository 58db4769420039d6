/- The functions of package stencil, given by hand to the print: third part: IndexRune and ContainsRune at the letters, Fits. -/
import Derived.Test.YtoojgfhhmdohaaaDoorExtB
import Derived.Deep.DeepFit
import Derived.Handy
import Derived.Lib.IndexAny
import Derived.RegionTactic
import Derived.ChangeAlike
namespace Go.Proofs.YtoojgfhhmdohaaaDoor.Ext
open Go.RowKit
set_option linter.unusedVariables false
set_option linter.unusedSimpArgs false

theorem below_drewN {B : Nat} {w W : World} (h : Below B w W) (n : Nat) : Below B w (W.drewN n) := ⟨h.os, h.tape, h.output, h.size, h.block⟩

theorem enc_high (r : Int) (h0 : 128 ≤ r) : 2 ≤ (Utf8.encode r).size ∧ (Utf8.encode r).size ≤ 4 ∧ ∀ b, (Utf8.encode r).data.toList[(Utf8.encode r).size - 1]? = some b → 128 ≤ b.toNat := by
  unfold Utf8.encode
  have hc : 128 ≤ (if Utf8.valid r = true then r.toNat else Utf8.runeError) := by
    split
    · omega
    · decide
  generalize (if Utf8.valid r = true then r.toNat else Utf8.runeError) = c at hc ⊢
  simp only []
  rw [if_neg (by omega)]
  have key : ∀ x : Nat, 128 ≤ (UInt8.ofNat (0x80 + x % 64)).toNat := by
    intro x
    rw [UInt8.toNat_ofNat']
    omega
  split
  · refine ⟨by show 2 ≤ 2; omega, by show 2 ≤ 4; omega, fun b hb => ?_⟩
    have hb' : some (UInt8.ofNat (0x80 + c % 64)) = some b := hb
    cases hb'; exact key c
  · split
    · refine ⟨by show 2 ≤ 3; omega, by show 3 ≤ 4; omega, fun b hb => ?_⟩
      have hb' : some (UInt8.ofNat (0x80 + c % 64)) = some b := hb
      cases hb'; exact key c
    · refine ⟨by show 2 ≤ 4; omega, by show 4 ≤ 4; omega, fun b hb => ?_⟩
      have hb' : some (UInt8.ofNat (0x80 + c % 64)) = some b := hb
      cases hb'; exact key c

set_option maxHeartbeats 1000000 in
set_option maxRecDepth 100000 in
theorem index_err (w : World) : Calls Tryd.prog 29 #[.string letS, .int .i32 65533] w fun e w' => e = .returned (.int .i64 (-1)) ∧ Below w.heap.size w w' := by
  unfold letS
  go_enter Tryd.func29, Tryd.ntmps29
  go_wp2
  go_loopw [] (fun wr => ∃ pos : Nat, pos ≤ 36 ∧ wr.heap[w.heap.size]? = some (.stringIter letS pos) ∧ Below w.heap.size w wr) (fun wr => 36 - wr.iterPos w.heap.size)
  case atStart => exact ⟨0, Nat.zero_le _, World.iter_heap w letS 0, (Below.refl _ w).alloc (Nat.le_refl _) _⟩
  case round =>
    obtain ⟨pos, hpk, hit, hbw⟩ := hrel
    by_cases hp : pos < letS.size
    · have ha := letS_ascii pos hp
      have hnx : ∀ ty, (Instr.next (.pointer (some ⟨w.heap.size, 0, none⟩)) true ty).run Tryd.prog wr = _ := fun ty => Lib.run_next_ascii_at wr w.heap.size letS pos ty hit hp ha
      have hit2 := Lib.iterAt_heap wr w.heap.size letS pos (pos + 1) hit
      have hbw2 := Lib.below_iterAt hbw (k := w.heap.size) (by omega) letS (pos + 1)
      have HI := Lib.hid hit
      have HI2 := Lib.hid hit2
      clear hit hit2
      have heq : (((letS[pos]'hp).toNat : Int) == 65533) = false := by simp; omega
      clear ha
      go_wp2
      go_roundw
      case rel => exact ⟨pos + 1, by rw [letS_size] at hp; omega, HI2.out, hbw2⟩
      case measure => simp only [World.iterPos, HI.out, HI2.out]; rw [letS_size] at hp; omega
    · have hnx : ∀ ty, (Instr.next (.pointer (some ⟨w.heap.size, 0, none⟩)) true ty).run Tryd.prog wr = _ := fun ty => Lib.run_next_end_at wr w.heap.size letS pos ty hit hp
      clear hit
      go_wp2
      go_ret
      exact ⟨rfl, hbw⟩

theorem indexByte_high (c : UInt8) (hc : 128 ≤ c.toNat) : ∀ l : List UInt8, (∀ x ∈ l, x.toNat < 128) → Lib.indexByte l c = -1
  | [], _ => rfl
  | b :: l, h => by
    have hb : (b == c) = false := by
      have := h b (by simp)
      simp only [beq_eq_false_iff_ne, ne_eq]
      intro e; subst e; omega
    have ih := indexByte_high c hc l (fun x hx => h x (by simp [hx]))
    unfold Lib.indexByte
    rw [hb, ih]; rfl
set_option maxHeartbeats 1000000 in
set_option maxRecDepth 100000 in
theorem index_high1 (r : Int) (h0 : 128 ≤ r) (h1 : r ≤ 2147483647) (hd : (r == 65533) = false) (hv : Lib.validRune r = true) (hsz : (Utf8.encode r).size = 2) (w : World) :
    Calls Tryd.prog 29 #[.string letS, .int .i32 r] w fun e w' => e = .returned (.int .i64 (-1)) ∧ Below w.heap.size w w' := by
  have hlt : 1 < (Utf8.encode r).size := by omega
  have hb := (enc_high r h0).2.2 ((Utf8.encode r)[1]'hlt) (by rw [hsz]; exact (List.getElem?_eq_getElem (l := (Utf8.encode r).data.toList) (i := 1) (by simpa using hlt)).trans rfl)
  have hne : (((letS[1]'(by decide)).toNat : Int) != (((Utf8.encode r)[1]'hlt).toNat : Int)) = true := by
    have := letS_ascii 1 (by decide)
    simp only [bne_iff_ne, ne_eq]
    omega
  have hix := indexByte_high ((Utf8.encode r)[1]'hlt) hb (letS.extract 2 36).data.toList (by decide)
  unfold letS at hne hix
  have hw1 : IntKind.i64.wrap 2 = 2 := by decide
  have hcall : ∀ W, Calls Tryd.prog 37 #[.string ((⟨#[97, 98, 99, 100, 101, 102, 103, 104, 105, 106, 107, 108, 109, 110, 111, 112, 113, 114, 115, 116, 117, 118, 119, 120, 121, 122, 48, 49, 50, 51, 52, 53, 54, 55, 56, 57]⟩ : ByteArray).extract 2 36), .int .u8 (((Utf8.encode r)[1]'hlt).toNat : Int)] W fun e W' => e = .returned (.int .i64 (-1)) ∧ W' = W := fun W => by
    refine (Tryd.strings_IndexByte _ _ _).mono ?_
    rintro e w' ⟨rfl, rfl⟩
    refine ⟨ret_int ?_, rfl⟩
    rw [← hix]
    congr 1
    simp
  have HC := Lib.hid hcall
  clear hcall
  have HB := Lib.hid hb
  clear hb
  unfold letS
  go_enter Tryd.func29, Tryd.ntmps29
  go_wp2_with (go_at_call 38; refine (Tryd.utf8_ValidRune r _).mono ?_; rintro e w' ⟨rfl, rfl⟩; rw [hv])
  go_step3
  go_wp2
  refine wp_loop_rounds 1 ?_
  rw [rounds_succ]
  go_wp2
  go_step3
  go_wp2
  go_region
  go_wp2
  clear hix
  obtain ⟨w2, hw2⟩ : ∃ w2 : World, w'.drew = w2 := ⟨_, rfl⟩
  have hb2 : Below w'.heap.size w' w2 := by rw [← hw2]; exact (Below.refl _ w').drew
  rw [hw2]
  clear hw2
  go_quiet ((go_at_call 37; exact Calls.quiet_of_same (HC.out _)))
  go_wp2
  rw [Exit.noGoto_ret]
  try go_wp2
  try rw [Exit.noGoto_ret]
  try go_wp2
  go_ret
  exact ⟨rfl, hb2.trans (below_drewN (Below.refl _ w2) _)⟩
set_option maxHeartbeats 1000000 in
set_option maxRecDepth 100000 in
theorem index_high2 (r : Int) (h0 : 128 ≤ r) (h1 : r ≤ 2147483647) (hd : (r == 65533) = false) (hv : Lib.validRune r = true) (hsz : (Utf8.encode r).size = 3) (w : World) :
    Calls Tryd.prog 29 #[.string letS, .int .i32 r] w fun e w' => e = .returned (.int .i64 (-1)) ∧ Below w.heap.size w w' := by
  have hlt : 2 < (Utf8.encode r).size := by omega
  have hb := (enc_high r h0).2.2 ((Utf8.encode r)[2]'hlt) (by rw [hsz]; exact (List.getElem?_eq_getElem (l := (Utf8.encode r).data.toList) (i := 2) (by simpa using hlt)).trans rfl)
  have hne : (((letS[2]'(by decide)).toNat : Int) != (((Utf8.encode r)[2]'hlt).toNat : Int)) = true := by
    have := letS_ascii 2 (by decide)
    simp only [bne_iff_ne, ne_eq]
    omega
  have hix := indexByte_high ((Utf8.encode r)[2]'hlt) hb (letS.extract 3 36).data.toList (by decide)
  unfold letS at hne hix
  have hw2 : IntKind.i64.wrap 3 = 3 := by decide
  have hcall : ∀ W, Calls Tryd.prog 37 #[.string ((⟨#[97, 98, 99, 100, 101, 102, 103, 104, 105, 106, 107, 108, 109, 110, 111, 112, 113, 114, 115, 116, 117, 118, 119, 120, 121, 122, 48, 49, 50, 51, 52, 53, 54, 55, 56, 57]⟩ : ByteArray).extract 3 36), .int .u8 (((Utf8.encode r)[2]'hlt).toNat : Int)] W fun e W' => e = .returned (.int .i64 (-1)) ∧ W' = W := fun W => by
    refine (Tryd.strings_IndexByte _ _ _).mono ?_
    rintro e w' ⟨rfl, rfl⟩
    refine ⟨ret_int ?_, rfl⟩
    rw [← hix]
    congr 1
    simp
  have HC := Lib.hid hcall
  clear hcall
  have HB := Lib.hid hb
  clear hb
  unfold letS
  go_enter Tryd.func29, Tryd.ntmps29
  go_wp2_with (go_at_call 38; refine (Tryd.utf8_ValidRune r _).mono ?_; rintro e w' ⟨rfl, rfl⟩; rw [hv])
  go_step3
  go_wp2
  refine wp_loop_rounds 1 ?_
  rw [rounds_succ]
  go_wp2
  go_step3
  go_wp2
  go_region
  go_wp2
  clear hix
  obtain ⟨w2, hw2⟩ : ∃ w2 : World, w'.drew = w2 := ⟨_, rfl⟩
  have hb2 : Below w'.heap.size w' w2 := by rw [← hw2]; exact (Below.refl _ w').drew
  rw [hw2]
  clear hw2
  go_quiet ((go_at_call 37; exact Calls.quiet_of_same (HC.out _)))
  go_wp2
  rw [Exit.noGoto_ret]
  try go_wp2
  try rw [Exit.noGoto_ret]
  try go_wp2
  go_ret
  exact ⟨rfl, hb2.trans (below_drewN (Below.refl _ w2) _)⟩
set_option maxHeartbeats 1000000 in
set_option maxRecDepth 100000 in
theorem index_high3 (r : Int) (h0 : 128 ≤ r) (h1 : r ≤ 2147483647) (hd : (r == 65533) = false) (hv : Lib.validRune r = true) (hsz : (Utf8.encode r).size = 4) (w : World) :
    Calls Tryd.prog 29 #[.string letS, .int .i32 r] w fun e w' => e = .returned (.int .i64 (-1)) ∧ Below w.heap.size w w' := by
  have hlt : 3 < (Utf8.encode r).size := by omega
  have hb := (enc_high r h0).2.2 ((Utf8.encode r)[3]'hlt) (by rw [hsz]; exact (List.getElem?_eq_getElem (l := (Utf8.encode r).data.toList) (i := 3) (by simpa using hlt)).trans rfl)
  have hne : (((letS[3]'(by decide)).toNat : Int) != (((Utf8.encode r)[3]'hlt).toNat : Int)) = true := by
    have := letS_ascii 3 (by decide)
    simp only [bne_iff_ne, ne_eq]
    omega
  have hix := indexByte_high ((Utf8.encode r)[3]'hlt) hb (letS.extract 4 36).data.toList (by decide)
  unfold letS at hne hix
  have hw3 : IntKind.i64.wrap 4 = 4 := by decide
  have hcall : ∀ W, Calls Tryd.prog 37 #[.string ((⟨#[97, 98, 99, 100, 101, 102, 103, 104, 105, 106, 107, 108, 109, 110, 111, 112, 113, 114, 115, 116, 117, 118, 119, 120, 121, 122, 48, 49, 50, 51, 52, 53, 54, 55, 56, 57]⟩ : ByteArray).extract 4 36), .int .u8 (((Utf8.encode r)[3]'hlt).toNat : Int)] W fun e W' => e = .returned (.int .i64 (-1)) ∧ W' = W := fun W => by
    refine (Tryd.strings_IndexByte _ _ _).mono ?_
    rintro e w' ⟨rfl, rfl⟩
    refine ⟨ret_int ?_, rfl⟩
    rw [← hix]
    congr 1
    simp
  have HC := Lib.hid hcall
  clear hcall
  have HB := Lib.hid hb
  clear hb
  unfold letS
  go_enter Tryd.func29, Tryd.ntmps29
  go_wp2_with (go_at_call 38; refine (Tryd.utf8_ValidRune r _).mono ?_; rintro e w' ⟨rfl, rfl⟩; rw [hv])
  go_step3
  go_wp2
  refine wp_loop_rounds 1 ?_
  rw [rounds_succ]
  go_wp2
  go_step3
  go_wp2
  go_region
  go_wp2
  clear hix
  obtain ⟨w2, hw2⟩ : ∃ w2 : World, w'.drew = w2 := ⟨_, rfl⟩
  have hb2 : Below w'.heap.size w' w2 := by rw [← hw2]; exact (Below.refl _ w').drew
  rw [hw2]
  clear hw2
  go_quiet ((go_at_call 37; exact Calls.quiet_of_same (HC.out _)))
  go_wp2
  rw [Exit.noGoto_ret]
  try go_wp2
  try rw [Exit.noGoto_ret]
  try go_wp2
  go_ret
  exact ⟨rfl, hb2.trans (below_drewN (Below.refl _ w2) _)⟩

set_option maxHeartbeats 1000000 in
set_option maxRecDepth 100000 in
theorem index_bad (r : Int) (h0 : 128 ≤ r) (h1 : r ≤ 2147483647) (hd : (r == 65533) = false) (hv : Lib.validRune r = false) (w : World) :
    Calls Tryd.prog 29 #[.string letS, .int .i32 r] w fun e w' => e = .returned (.int .i64 (-1)) ∧ Below w.heap.size w w' := by
  unfold letS
  go_enter Tryd.func29, Tryd.ntmps29
  go_wp2_with (go_at_call 38; refine (Tryd.utf8_ValidRune r _).mono ?_; rintro e w' ⟨rfl, rfl⟩; rw [hv])
  go_ret
  exact ⟨rfl, Below.refl _ _⟩
theorem index_any (r : Int) (h0 : 128 ≤ r) (h1 : r ≤ 2147483647) (w : World) :
    Calls Tryd.prog 29 #[.string letS, .int .i32 r] w fun e w' => e = .returned (.int .i64 (-1)) ∧ Below w.heap.size w w' := by
  by_cases hd : r = 65533
  · subst hd; exact index_err w
  · have hd' : (r == 65533) = false := by simpa using hd
    rcases hv : Lib.validRune r with _ | _
    · exact index_bad r h0 h1 hd' hv w
    · obtain ⟨e1, e2, _⟩ := enc_high r h0
      rcases (by omega : (Utf8.encode r).size = 2 ∨ (Utf8.encode r).size = 3 ∨ (Utf8.encode r).size = 4) with h | h | h
      · exact index_high1 r h0 h1 hd' hv h w
      · exact index_high2 r h0 h1 hd' hv h w
      · exact index_high3 r h0 h1 hd' hv h w
theorem contains_hi (r : Int) (h0 : 128 ≤ r) (h1 : r ≤ 2147483647) (w : World) :
    Calls Tryd.prog 23 #[.string letS, .int .i32 r] w fun e w' => e = .returned (.bool false) ∧ Below w.heap.size w w' := by
  unfold letS
  go_enter Tryd.func23, Tryd.ntmps23
  go_wp2_with (go_at_call 29; refine (index_any r h0 h1 _).mono ?_; rintro e w' ⟨rfl, hb⟩)
  go_wp2
  go_ret
  exact ⟨rfl, hb⟩
theorem contains_lo (c : UInt8) (h : c.toNat < 128) (w : World) :
    Calls Tryd.prog 23 #[.string letS, .int .i32 c.toNat] w fun e w' => e = .returned (.bool (letters.contains c)) ∧ Below w.heap.size w w' := by
  refine (Tryd.strings_ContainsRune_ascii letS c.toNat w (by omega) (by omega)).mono ?_
  rintro e w' ⟨rfl, rfl⟩
  have e1 : (c.toNat : Int).toNat.toUInt8 = c := by simp
  rw [e1]
  have : decide (0 ≤ Lib.indexByte letS.data.toList c) = letters.contains c := (Lib.contains_iff_indexByte letters c).symm
  rw [this]
  exact ⟨rfl, Below.refl _ _⟩

/-! ### Fits -/
def fitsB (t n : List UInt8) : Bool := (Lib.hasPrefix n (stemL t) && n.length == t.length) && (n.drop (stemL t).length).all (letters.contains ·)
theorem cut_no (n : ByteArray) (st : List UInt8) (h : Lib.hasPrefix n.data.toList st = false) (w : World) :
    Calls Tryd.prog 22 #[.string n, .string ⟨st.toArray⟩] w fun e w' => e = .returned (.tuple #[.string n, .bool false]) ∧ w = w' := by
  refine (Tryd.strings_CutPrefix _ _ _).mono ?_
  rintro e w' ⟨rfl, rfl⟩
  have hp : (⟨st.toArray⟩ : ByteArray).data.toList = st := by simp
  rw [hp, h]
  unfold Lib.trimPrefix
  rw [h]
  exact ⟨rfl, rfl⟩
theorem cut_yes (n : ByteArray) (st : List UInt8) (h : Lib.hasPrefix n.data.toList st = true) (w : World) :
    Calls Tryd.prog 22 #[.string n, .string ⟨st.toArray⟩] w fun e w' => e = .returned (.tuple #[.string ⟨(n.data.toList.drop st.length).toArray⟩, .bool true]) ∧ w = w' := by
  refine (Tryd.strings_CutPrefix _ _ _).mono ?_
  rintro e w' ⟨rfl, rfl⟩
  have hp : (⟨st.toArray⟩ : ByteArray).data.toList = st := by simp
  rw [hp, h]
  unfold Lib.trimPrefix
  rw [h]
  exact ⟨rfl, rfl⟩
set_option maxHeartbeats 1000000 in
theorem fits_no (t n : ByteArray) (w : World) (ht : t.size ≤ 9223372036854775807) (h : (Lib.hasPrefix n.data.toList (stemL t.data.toList) && n.size == t.size) = false) :
    Calls Tryd.prog 16 #[.string t, .string n] w fun e w' => e = .returned (.bool false) ∧ Below w.heap.size w w' := by
  rcases hh : Lib.hasPrefix n.data.toList (stemL t.data.toList) with _ | _
  · have HH := Lib.hid hh
    clear hh h
    go_enter Tryd.func16, Tryd.ntmps16
    go_wp2_with (first | (go_at_call 20; refine (stem_calls t _ ht).mono ?_; rintro e w' ⟨rfl, rfl⟩) | (go_at_call 22; refine (cut_no n _ HH.out _).mono ?_; rintro e w' ⟨rfl, rfl⟩))
    go_wp2
    go_ret
    exact ⟨rfl, Below.refl _ _⟩
  · have hs : ((n.size : Int) != (t.size : Int)) = true := by
      rw [hh] at h
      simp only [Bool.true_and, beq_eq_false_iff_ne] at h
      simp only [bne_iff_ne, ne_eq]; omega
    have hs2 : (n.size != t.size) = true := by
      simp only [bne_iff_ne, ne_eq] at hs ⊢; omega
    have HH := Lib.hid hh
    clear hh h
    go_enter Tryd.func16, Tryd.ntmps16
    go_wp2_with (first | (go_at_call 20; refine (stem_calls t _ ht).mono ?_; rintro e w' ⟨rfl, rfl⟩) | (go_at_call 22; refine (cut_yes n _ HH.out _).mono ?_; rintro e w' ⟨rfl, rfl⟩))
    go_wp2
    go_ret
    exact ⟨rfl, Below.refl _ _⟩
theorem let_lo (c : UInt8) (h : letters.contains c = true) : c.toNat < 128 := letters_ascii c (by simpa using h)
theorem all_drop (p : UInt8 → Bool) (l : List UInt8) (k : Nat) (h : k < l.length) : (l.drop k).all p = (p l[k] && (l.drop (k + 1)).all p) := by
  rw [List.drop_eq_getElem_cons h, List.all_cons]
set_option maxHeartbeats 2000000 in
theorem fits_yes (t n : ByteArray) (w : World) (ht : t.size ≤ 9223372036854775807) (h1 : Lib.hasPrefix n.data.toList (stemL t.data.toList) = true) (h2 : n.size = t.size) (r : Bool) (hr : (n.data.toList.drop (stemL t.data.toList).length).all (letters.contains ·) = r) :
    Calls Tryd.prog 16 #[.string t, .string n] w fun e w' => e = .returned (.bool r) ∧ Below w.heap.size w w' := by
  have hs : ((n.size : Int) != (t.size : Int)) = false := by
    simp only [bne_eq_false_iff_eq]; omega
  have hs2 : (n.size != t.size) = false := by
    simp only [bne_eq_false_iff_eq]; omega
  have HH := Lib.hid h1
  have HR := Lib.hid hr
  clear h1 h2 hr
  go_enter Tryd.func16, Tryd.ntmps16
  go_wp2_with (first | (go_at_call 20; refine (stem_calls t _ ht).mono ?_; rintro e w' ⟨rfl, rfl⟩) | (go_at_call 22; refine (cut_yes n _ HH.out _).mono ?_; rintro e w' ⟨rfl, rfl⟩))
  go_wp2
  generalize hq : n.data.toList.drop (stemL t.data.toList).length = q at *
  have HQ := Lib.hid hq
  clear hq hs hs2
  go_loopw [] (fun wr => ∃ pos : Nat, pos ≤ q.length ∧ wr.heap[w.heap.size]? = some (.stringIter ⟨q.toArray⟩ pos) ∧ Below w.heap.size w wr ∧ (q.drop pos).all (letters.contains ·) = r) (fun wr => q.length - wr.iterPos w.heap.size)
  case atStart => exact ⟨0, Nat.zero_le _, World.iter_heap w ⟨q.toArray⟩ 0, (Below.refl _ w).alloc (Nat.le_refl _) _, HR.out⟩
  case round =>
    obtain ⟨pos, hpk, hit, hbw, hal⟩ := hrel
    have hz : (⟨q.toArray⟩ : ByteArray).size = q.length := by show q.toArray.size = _; simp
    by_cases hp : pos < (⟨q.toArray⟩ : ByteArray).size
    · have hp' : pos < q.length := by omega
      have hget : (⟨q.toArray⟩ : ByteArray)[pos]'hp = q[pos] := rfl
      have hlt : w.heap.size < wr.heap.size := (Array.getElem?_eq_some_iff.1 hit).1
      rw [all_drop _ _ _ hp'] at hal
      by_cases ha : (q[pos]).toNat < 128
      · have hnx : ∀ ty, (Instr.next (.pointer (some ⟨w.heap.size, 0, none⟩)) true ty).run Tryd.prog wr = _ := fun ty => Lib.run_next_ascii_at wr w.heap.size ⟨q.toArray⟩ pos ty hit hp (by rw [hget]; exact ha)
        rw [hget] at hnx
        have hit2 := Lib.iterAt_heap wr w.heap.size ⟨q.toArray⟩ pos (pos + 1) hit
        have hbw2 := Lib.below_iterAt hbw (k := w.heap.size) (by omega) ⟨q.toArray⟩ (pos + 1)
        have HI := Lib.hid hit
        have HI2 := Lib.hid hit2
        clear hit hit2
        generalize q[pos] = c at *
        rcases hc : letters.contains c with _ | _
        · rw [hc] at hal
          have HAL := Lib.hid hal
          have HC := Lib.hid hc
          clear hal hc
          go_wp2_with (go_at_call 23; refine (contains_lo c ha _).mono ?_; rintro e w1 ⟨rfl, hb⟩; rw [HC.out])
          go_wp2
          go_ret
          have : false = r := by simpa using HAL.out
          exact ⟨by rw [← this]; rfl, hbw2.trans (by rw [Lib.iterAt_size] at hb; exact hb.mono (by omega))⟩
        · rw [hc] at hal
          have HAL := Lib.hid hal
          have HC := Lib.hid hc
          clear hal hc
          go_wp2_with (go_at_call 23; refine (contains_lo c ha _).mono ?_; rintro e w1 ⟨rfl, hb⟩; rw [HC.out])
          go_wp2
          rw [Lib.iterAt_size] at hb
          have hw1 : w1.heap[w.heap.size]? = some (.stringIter ⟨q.toArray⟩ (pos + 1)) := by rw [hb.block _ hlt]; exact HI2.out
          go_roundw
          case rel => exact ⟨pos + 1, by omega, hw1, hbw2.trans (hb.mono (by omega)), by simpa using HAL.out⟩
          case measure => simp only [World.iterPos, HI.out, hw1]; omega
      · have hhi := decode_high ⟨q.toArray⟩ pos hp (by rw [hget]; omega)
        have hle := decode_le ⟨q.toArray⟩ pos
        have hnx : ∀ ty, (Instr.next (.pointer (some ⟨w.heap.size, 0, none⟩)) true ty).run Tryd.prog wr = _ := fun ty => Lib.run_next_any_at wr w.heap.size ⟨q.toArray⟩ pos ty hit hp
        have hbw2 := Lib.below_iterAt hbw (k := w.heap.size) (by omega) ⟨q.toArray⟩ (pos + (Utf8.decode ⟨q.toArray⟩ pos).2)
        have hcf : letters.contains q[pos] = false := by
          rcases hc : letters.contains q[pos] with _ | _
          · rfl
          · exact absurd (let_lo _ hc) ha
        rw [hcf] at hal
        have HAL := Lib.hid hal
        clear hit hal hcf
        go_wp2_with (go_at_call 23; refine (contains_hi _ (by omega) (by omega) _).mono ?_; rintro e w1 ⟨rfl, hb⟩)
        go_wp2
        go_ret
        have : false = r := by simpa using HAL.out
        exact ⟨by rw [← this]; rfl, hbw2.trans (by rw [Lib.iterAt_size] at hb; exact hb.mono (by omega))⟩
    · have hnx : ∀ ty, (Instr.next (.pointer (some ⟨w.heap.size, 0, none⟩)) true ty).run Tryd.prog wr = _ := fun ty => Lib.run_next_end_at wr w.heap.size ⟨q.toArray⟩ pos ty hit hp
      have hd : q.drop pos = [] := List.drop_eq_nil_of_le (by omega)
      rw [hd] at hal
      have HAL := Lib.hid hal
      clear hit hal hd
      go_wp2
      go_ret
      have : true = r := by simpa using HAL.out
      exact ⟨by rw [← this]; rfl, hbw⟩
end Go.Proofs.YtoojgfhhmdohaaaDoor.Ext
