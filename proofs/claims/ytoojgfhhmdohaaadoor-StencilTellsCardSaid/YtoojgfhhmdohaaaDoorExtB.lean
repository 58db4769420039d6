/- The functions of package stencil, given by hand to the print: second part: letter, Letter, IndexRune and ContainsRune at the letters. -/
import Derived.Test.YtoojgfhhmdohaaaDoorExtA
import Derived.Lib.OthersKept
import Derived.Deep.QuietTactic
import Derived.BigQuiet

namespace Go.Proofs.YtoojgfhhmdohaaaDoor.Ext
open Go.RowKit
set_option linter.unusedVariables false
set_option linter.unusedSimpArgs false

def letS : ByteArray := ⟨#[97, 98, 99, 100, 101, 102, 103, 104, 105, 106, 107, 108, 109, 110, 111, 112, 113, 114, 115, 116, 117, 118, 119, 120, 121, 122, 48, 49, 50, 51, 52, 53, 54, 55, 56, 57]⟩
theorem letS_size : letS.size = 36 := rfl
theorem letS_ascii : ∀ (i : Nat) (h : i < letS.size), (letS[i]'h).toNat < 128 := by
  intro i h
  have : ∀ j : Fin 36, (letS[j.val]'j.isLt).toNat < 128 := by decide
  exact this ⟨i, h⟩
theorem letS_get : ∀ (i : Nat) (h : i < letS.size), letS[i]'h = letters.getD i 0 := by
  intro i h
  have : ∀ j : Fin 36, letS[j.val]'j.isLt = letters.getD j.val 0 := by decide
  exact this ⟨i, h⟩

set_option maxHeartbeats 1000000 in
/-- The loop of letter, from its place on. -/
theorem letter_calls (n : Int) (w : World) : Calls Tryd.prog 21 #[.int .i64 n] w fun e w' => e = .returned (.int .i32 (let1 n).toNat) ∧ Below w.heap.size w w' := by
  obtain ⟨k, hk, hk36⟩ : ∃ k : Nat, n % 36 = k ∧ k < 36 := ⟨(n % 36).toNat, by omega, by omega⟩
  have hlet : let1 n = letters.getD k 0 := by unfold let1; rw [hk]; rfl
  have HL := Lib.hid hlet
  clear hlet
  have hlo0 : -36 < n.tmod 36 := by have := Int.lt_tmod_of_pos n (b := 36) (by decide); omega
  have hmk : (n.tmod 36 < 0 ∧ n.tmod 36 + 36 = k) ∨ (0 ≤ n.tmod 36 ∧ n.tmod 36 = k) := by
    rcases Int.lt_or_le n 0 with h | h
    · have h0 : 0 ≤ -n := by omega
      have h1 : n.tmod 36 = -((-n) % 36) := by rw [← Int.tmod_eq_emod_of_nonneg h0, Int.neg_tmod, Int.neg_neg]
      rw [h1]; omega
    · rw [Int.tmod_eq_emod_of_nonneg h]; omega
  clear hk
  have hlo := hlo0
  clear hlo0
  rcases hmk with ⟨h1, h2⟩ | ⟨h1, h2⟩
  all_goals
    have H2 := Lib.hid h2
    clear h2
    go_enter Tryd.func21, Tryd.ntmps21
    go_wp2
    rw [H2.out]
    clear hlo h1 H2
    go_loopw [] (fun wr => ∃ pos : Nat, pos ≤ k ∧ wr.heap[w.heap.size]? = some (.stringIter letS pos) ∧ Below w.heap.size w wr) (fun wr => 36 - wr.iterPos w.heap.size)
    case atStart => exact ⟨0, Nat.zero_le _, World.iter_heap w letS 0, (Below.refl _ w).alloc (Nat.le_refl _) _⟩
    case round =>
      obtain ⟨pos, hpk, hit, hbw⟩ := hrel
      have hp : pos < letS.size := by rw [letS_size]; omega
      have ha := letS_ascii pos hp
      have hg := letS_get pos hp
      have hnx : ∀ ty, (Instr.next (.pointer (some ⟨w.heap.size, 0, none⟩)) true ty).run Tryd.prog wr = _ := fun ty => Lib.run_next_ascii_at wr w.heap.size letS pos ty hit hp ha
      have hit2 := Lib.iterAt_heap wr w.heap.size letS pos (pos + 1) hit
      have hbw2 := Lib.below_iterAt hbw (k := w.heap.size) (by omega) letS (pos + 1)
      have HI := Lib.hid hit
      have HI2 := Lib.hid hit2
      have HG := Lib.hid hg
      clear hit hit2 hg ha
      by_cases he : pos < k
      · have heq : ((pos : Int) == (k : Int)) = false := by simp; omega
        go_wp2
        go_roundw
        case rel => exact ⟨pos + 1, by omega, HI2.out, hbw2⟩
        case measure => simp only [World.iterPos, HI.out, HI2.out]; rw [letS_size] at hp; omega
      · obtain rfl : pos = k := by omega
        go_wp2
        go_ret
        exact ⟨ret_int (by rw [HL.out, HG.out]), hbw2⟩

theorem utf8_encode_ascii (c : Nat) (h : c < 128) : Utf8.encode (c : Int) = ⟨#[c.toUInt8]⟩ := by
  unfold Utf8.encode
  have hv : Utf8.valid (c : Int) = true := by unfold Utf8.valid; simp; omega
  simp only [hv, if_true, Int.toNat_natCast]
  rw [if_pos (by omega)]
theorem let1_mem (n : Int) : let1 n ∈ letters := by
  unfold let1
  have h : (n % 36).toNat < letters.length := by show _ < 36; omega
  rw [List.getD_eq_getElem?_getD, List.getElem?_eq_getElem h]
  exact List.getElem_mem _
theorem letters_ascii : ∀ c ∈ letters, c.toNat < 128 := by decide
theorem let1_ascii (n : Int) : (let1 n).toNat < 128 := letters_ascii _ (let1_mem n)

theorem letterS_calls (n : Int) (w : World) : Calls Tryd.prog 14 #[.int .i64 n] w fun e w' => e = .returned (.string ⟨#[let1 n]⟩) ∧ Below w.heap.size w w' := by
  have ha := let1_ascii n
  have he : Utf8.encode ((let1 n).toNat : Int) = ⟨#[let1 n]⟩ := by rw [utf8_encode_ascii _ ha]; simp
  have HE := Lib.hid he
  clear he
  go_enter Tryd.func14, Tryd.ntmps14
  go_wp2_with (go_at_call 21; refine (letter_calls n _).mono ?_; rintro e w' ⟨rfl, hb⟩)
  go_wp2
  go_ret
  exact ⟨by rw [← HE.out]; rfl, hb⟩
end Go.Proofs.YtoojgfhhmdohaaaDoor.Ext
