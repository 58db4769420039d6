/- route.Base, Dir, Join: what they answer. -/
import Derived.Test.YtmjhlddlhicofaaDoorExtIt
import Derived.Lib.SlicesS
import Derived.Lib.LastIndexByte
namespace Go.Proofs.YtmjhlddlhicofaaDoor.Ext
open Go Go.RowKit
set_option linter.unusedVariables false
set_option linter.unusedSimpArgs false

theorem isEmpty_size (x : ByteArray) : x.toList.isEmpty = decide (x.size = 0) := by
  cases hb : x.toList.isEmpty with
  | true =>
    have h0 : (⟨#[]⟩ : ByteArray).toList = [] := by simp [go_sem]
    have h1 : (x.toList == (⟨#[]⟩ : ByteArray).toList) = true := by rw [List.isEmpty_iff.1 hb, h0]; rfl
    have := (Lib.bytes_beq_iff _ _).1 h1
    subst this; rfl
  | false =>
    cases hd : decide (x.size = 0) with
    | false => rfl
    | true =>
      obtain rfl : x = ⟨#[]⟩ := ba_ext (List.eq_nil_of_length_eq_zero (by simpa using of_decide_eq_true hd))
      have h0 : (⟨#[]⟩ : ByteArray).toList = [] := by simp [go_sem]
      rw [h0] at hb; cases hb

/-- Without the slashes at the end. -/
def bareB (p : ByteArray) : ByteArray := ⟨(Lib.trimRightB p.data.toList 47).toArray⟩
def cut (q : ByteArray) : Nat := (Lib.lastIndexByte q 47 + 1).toNat
def baseB (p : ByteArray) : ByteArray := if (bareB p).size = 0 ∧ p.size ≠ 0 then ⟨#[47]⟩ else (bareB p).extract (cut (bareB p)) (bareB p).size
theorem last_cases (q : ByteArray) : Lib.lastIndexByte q 47 = -1 ∨ ∃ i : Nat, i < q.size ∧ Lib.lastIndexByte q 47 = i := by
  rcases Lib.lastIdx_spec q 47 q.size with h | ⟨i, h1, h2, _⟩
  · exact .inl h.1
  · exact .inr ⟨i, h1, h2⟩
theorem cut_le (q : ByteArray) : cut q ≤ q.size ∧ Lib.lastIndexByte q 47 + 1 = (cut q : Int) := by
  unfold cut
  rcases last_cases q with h | ⟨i, h1, h⟩
  · rw [h]; simp
  · rw [h]; omega
theorem trimRight_le : ∀ (l : List UInt8) (c : UInt8), (Lib.trimRightB l c).length ≤ l.length := by
  intro l c
  unfold Lib.trimRightB
  have h := (List.dropWhile_sublist (l := l.reverse) (· == c)).length_le
  rw [List.length_reverse] at h
  rw [List.length_reverse]
  exact h
theorem bareB_le (p : ByteArray) : (bareB p).size ≤ p.size := by
  have := trimRight_le p.data.toList 47
  unfold bareB
  rw [show (⟨(Lib.trimRightB p.data.toList 47).toArray⟩ : ByteArray).size = (Lib.trimRightB p.data.toList 47).length from bs_size _]
  simpa using this

set_option maxHeartbeats 1000000 in
set_option maxRecDepth 100000 in
theorem base_calls (p : ByteArray) (w : World) (hs : p.size ≤ 4611686018427387000) : Calls Tryd.prog 9 #[.string p] w fun e w' => e = .returned (.string (baseB p)) ∧ w' = w := by
  have hs2 : p.size ≤ 9223372036854775807 := by omega
  have hb := bareB_le p
  have hb2 : (bareB p).size < 4611686018427387904 := by omega
  obtain ⟨q, hq⟩ : ∃ q, bareB p = q := ⟨_, rfl⟩
  have hT : Calls Tryd.prog 19 #[.string p, .string ⟨#[47]⟩] w fun e w' => e = .returned (.string q) ∧ w' = w := by
    rw [← hq]; exact Tryd.strings_TrimRight_one p 47 (by decide) w hs2
  have hL : Calls Tryd.prog 20 #[.string q, .string ⟨#[47]⟩] w fun e w' => e = .returned (.int .i64 (Lib.lastIndexByte q 47)) ∧ w' = w :=
    Tryd.strings_LastIndex_one q ⟨#[47]⟩ rfl (by rw [← hq]; exact hb2) w
  have hc := cut_le q
  have e1 := isEmpty_size q
  have e2 := isEmpty_size p
  have hB : baseB p = if q.size = 0 ∧ p.size ≠ 0 then ⟨#[47]⟩ else q.extract (cut q) q.size := by unfold baseB; rw [hq]
  have W1 : IntKind.i64.wrap (Lib.lastIndexByte q 47 + 1) = (cut q : Int) := by
    rw [hc.2]; have := hc.1; rw [hq] at hb hb2
    rw [IntKind.wrap_i64] <;> omega
  have hc1 : (cut q : Int) ≤ (q.size : Int) := by omega
  rw [hB]
  clear hB hb hb2 hc
  by_cases h1 : q.size = 0
  · rw [decide_eq_true h1] at e1
    by_cases h2 : p.size = 0
    · rw [decide_eq_true h2] at e2
      rw [if_neg (fun h => h.2 h2)]
      go_enter Tryd.func9, Tryd.ntmps9
      go_wp2_with (first | (go_at_call 19; refine hT.mono ?_; rintro e w' ⟨rfl, rfl⟩) | (go_at_call 20; refine hL.mono ?_; rintro e w' ⟨rfl, rfl⟩))
      go_ret
      exact ⟨by rw [h1]; rfl, rfl⟩
    · rw [decide_eq_false h2] at e2
      rw [if_pos ⟨h1, h2⟩]
      go_enter Tryd.func9, Tryd.ntmps9
      go_wp2_with (first | (go_at_call 19; refine hT.mono ?_; rintro e w' ⟨rfl, rfl⟩) | (go_at_call 20; refine hL.mono ?_; rintro e w' ⟨rfl, rfl⟩))
      go_ret
      exact ⟨rfl, rfl⟩
  · rw [decide_eq_false h1] at e1
    rw [if_neg (fun h => h1 h.1)]
    go_enter Tryd.func9, Tryd.ntmps9
    go_wp2_with (first | (go_at_call 19; refine hT.mono ?_; rintro e w' ⟨rfl, rfl⟩) | (go_at_call 20; refine hL.mono ?_; rintro e w' ⟨rfl, rfl⟩))
    go_ret
    exact ⟨rfl, rfl⟩

/-! ### Dir -/
def orB (p q : ByteArray) : ByteArray := if q.size ≠ 0 then q else if Lib.hasPrefix p.data.toList [47] = true then ⟨#[47]⟩ else ⟨#[46]⟩
def dirB (p : ByteArray) : ByteArray := orB p (bareB ((bareB p).extract 0 (cut (bareB p))))
set_option maxHeartbeats 1000000 in
set_option maxRecDepth 100000 in
theorem or_calls (p q : ByteArray) (b : Nat) (w : World) (c0 : w.cell? ⟨b, 0, none⟩ = some (.string p)) :
    Calls Tryd.prog 22 #[.string q, .pointer (some ⟨b, 0, none⟩)] w fun e w' => e = .returned (.string (orB p q)) ∧ w' = w := by
  have e1 := isEmpty_size q
  unfold orB
  by_cases h1 : q.size = 0
  · rw [if_neg (fun h => h h1)]
    rw [decide_eq_true h1] at e1
    cases h2 : Lib.hasPrefix p.data.toList [47] with
    | true =>
      rw [if_pos rfl]
      go_enter Tryd.func22, Tryd.ntmps22
      go_wp2_with (go_at_call 23; refine (Tryd.strings_HasPrefix p ⟨#[47]⟩ _).mono ?_; rintro e w' ⟨rfl, rfl⟩; simp only [h2])
      go_ret
      exact ⟨rfl, rfl⟩
    | false =>
      rw [if_neg (by simp)]
      go_enter Tryd.func22, Tryd.ntmps22
      go_wp2_with (go_at_call 23; refine (Tryd.strings_HasPrefix p ⟨#[47]⟩ _).mono ?_; rintro e w' ⟨rfl, rfl⟩; simp only [h2])
      go_ret
      exact ⟨rfl, rfl⟩
  · rw [if_pos h1]
    rw [decide_eq_false h1] at e1
    go_enter Tryd.func22, Tryd.ntmps22
    go_wp2
    go_ret
    exact ⟨rfl, rfl⟩
set_option maxHeartbeats 1000000 in
set_option maxRecDepth 100000 in
theorem dir_calls (p : ByteArray) (w : World) (hs : p.size ≤ 4611686018427387000) : Calls Tryd.prog 11 #[.string p] w fun e w' => e = .returned (.string (dirB p)) ∧ Below w.heap.size w w' := by
  have hs2 : p.size ≤ 9223372036854775807 := by omega
  have hb := bareB_le p
  have hb2 : (bareB p).size < 4611686018427387904 := by omega
  obtain ⟨q, hq⟩ : ∃ q, bareB p = q := ⟨_, rfl⟩
  have hc := cut_le q
  obtain ⟨r, hr⟩ : ∃ r, bareB (q.extract 0 (cut q)) = r := ⟨_, rfl⟩
  have c0 : (w.alloc (.cells #[.string p] 9)).cell? ⟨w.heap.size, 0, none⟩ = some (.string p) := Iter.box_cell (heap_alloc_new w _)
  have bl : Below w.heap.size w (w.alloc (.cells #[.string p] 9)) := (Below.refl _ w).alloc (Nat.le_refl _) _
  have hT : Calls Tryd.prog 19 #[.string p, .string ⟨#[47]⟩] (w.alloc (.cells #[.string p] 9)) fun e w' => e = .returned (.string q) ∧ w' = w.alloc (.cells #[.string p] 9) := by
    rw [← hq]; exact Tryd.strings_TrimRight_one p 47 (by decide) _ hs2
  have hT2 : Calls Tryd.prog 19 #[.string (q.extract 0 (cut q)), .string ⟨#[47]⟩] (w.alloc (.cells #[.string p] 9)) fun e w' => e = .returned (.string r) ∧ w' = w.alloc (.cells #[.string p] 9) := by
    rw [← hr]; exact Tryd.strings_TrimRight_one (q.extract 0 (cut q)) 47 (by decide) _ (by rw [ByteArray.size_extract]; rw [hq] at hb; omega)
  have hL : Calls Tryd.prog 20 #[.string q, .string ⟨#[47]⟩] (w.alloc (.cells #[.string p] 9)) fun e w' => e = .returned (.int .i64 (Lib.lastIndexByte q 47)) ∧ w' = w.alloc (.cells #[.string p] 9) :=
    Tryd.strings_LastIndex_one q ⟨#[47]⟩ rfl (by rw [← hq]; exact hb2) _
  have hO := or_calls p r w.heap.size _ c0
  have hB : dirB p = orB p r := by unfold dirB; rw [hq, hr]
  have W1 : IntKind.i64.wrap (Lib.lastIndexByte q 47 + 1) = (cut q : Int) := by
    rw [hc.2]; have := hc.1; rw [hq] at hb hb2
    rw [IntKind.wrap_i64] <;> omega
  have hc1 : (cut q : Int) ≤ (q.size : Int) := by omega
  rw [hB]
  have BL := Lib.hid bl
  clear hB hb hb2 hc bl
  go_enter Tryd.func11, Tryd.ntmps11
  go_wp2_with (first | (go_at_call 19; first | (with_reducible refine hT.mono ?_; rintro e w' ⟨rfl, rfl⟩) | (with_reducible refine hT2.mono ?_; rintro e w' ⟨rfl, rfl⟩)) | (go_at_call 20; refine hL.mono ?_; rintro e w' ⟨rfl, rfl⟩) | (go_at_call 22; refine hO.mono ?_; rintro e w' ⟨rfl, rfl⟩))
  go_ret
  exact ⟨rfl, BL.out⟩

/-! ### Join -/
def joinB (a b : ByteArray) : ByteArray :=
  if a.size = 0 then b else if Lib.hasPrefix b.data.toList [47] = true then b else if b.size = 0 then a else bs (Lib.trimSuffix a.data.toList [47]) ++ ⟨#[47]⟩ ++ b
set_option maxHeartbeats 1000000 in
set_option maxRecDepth 100000 in
theorem join_calls (a b : ByteArray) (w : World) (ha : a.size ≤ 1000000000000000000) (hb : b.size ≤ 1000000000000000000) :
    Calls Tryd.prog 13 #[.string a, .string b] w fun e w' => e = .returned (.string (joinB a b)) ∧ w' = w := by
  have e1 := isEmpty_size a
  have e2 := isEmpty_size b
  have ha2 : a.size ≤ 9223372036854775807 := by omega
  unfold joinB
  by_cases h1 : a.size = 0
  · rw [if_pos h1]
    rw [decide_eq_true h1] at e1
    go_enter Tryd.func13, Tryd.ntmps13
    go_wp2_with (go_at_call 23; refine (Tryd.strings_HasPrefix b ⟨#[47]⟩ _).mono ?_; rintro e w' ⟨rfl, rfl⟩)
    go_ret
    exact ⟨rfl, rfl⟩
  · rw [if_neg h1]
    rw [decide_eq_false h1] at e1
    cases h2 : Lib.hasPrefix b.data.toList [47] with
    | true =>
      rw [if_pos rfl]
      go_enter Tryd.func13, Tryd.ntmps13
      go_wp2_with (go_at_call 23; refine (Tryd.strings_HasPrefix b ⟨#[47]⟩ _).mono ?_; rintro e w' ⟨rfl, rfl⟩; simp only [h2])
      go_ret
      exact ⟨rfl, rfl⟩
    | false =>
      rw [if_neg (by simp)]
      by_cases h3 : b.size = 0
      · rw [if_pos h3]
        rw [decide_eq_true h3] at e2
        go_enter Tryd.func13, Tryd.ntmps13
        go_wp2_with (go_at_call 23; refine (Tryd.strings_HasPrefix b ⟨#[47]⟩ _).mono ?_; rintro e w' ⟨rfl, rfl⟩; simp only [h2])
        go_ret
        exact ⟨rfl, rfl⟩
      · rw [if_neg h3]
        rw [decide_eq_false h3] at e2
        have hT : Calls Tryd.prog 25 #[.string a, .string ⟨#[47]⟩] w fun e w' => e = .returned (.string (bs (Lib.trimSuffix a.data.toList [47]))) ∧ w' = w := Tryd.strings_TrimSuffix a ⟨#[47]⟩ w ha2
        have hl : (bs (Lib.trimSuffix a.data.toList [47])).size ≤ a.size := by
          rw [bs_size]; unfold Lib.trimSuffix; split
          · rw [List.length_take]; have : a.data.toList.length = a.size := by simp
            omega
          · have : a.data.toList.length = a.size := by simp
            omega
        obtain ⟨t, ht⟩ : ∃ t, bs (Lib.trimSuffix a.data.toList [47]) = t := ⟨_, rfl⟩
        rw [ht] at hT hl ⊢
        have hz : t.size + (⟨#[47]⟩ : ByteArray).size ≤ 9223372036854775807 := by show t.size + 1 ≤ _; omega
        have hz2 : (t ++ (⟨#[47]⟩ : ByteArray)).size + b.size ≤ 9223372036854775807 := by rw [ByteArray.size_append]; show t.size + 1 + b.size ≤ _; omega
        go_enter Tryd.func13, Tryd.ntmps13
        go_wp2_with (first | (go_at_call 23; refine (Tryd.strings_HasPrefix b ⟨#[47]⟩ _).mono ?_; rintro e w' ⟨rfl, rfl⟩; simp only [h2]) | (go_at_call 25; refine hT.mono ?_; rintro e w' ⟨rfl, rfl⟩))
        go_ret
        exact ⟨rfl, rfl⟩
end Go.Proofs.YtmjhlddlhicofaaDoor.Ext
