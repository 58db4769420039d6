/- flagstoneref05.Sorted: it comes to an end; where it says yes, each name is behind the one ahead of it. -/
import Derived.Test.YthagmakojbfmaaaDoorRfT
import Derived.Test.YthagmakojbfmaaaDoorBx
import Derived.Laws.Cover1
set_option linter.unusedVariables false
set_option linter.unusedSimpArgs false
namespace Go.Proofs.YthagmakojbfmaaaDoor.Ext
open Go Go.RowKit Go.Proofs.YthagmakojbfmaaaDoor Go.Proofs.YthagmakojbfmaaaDoorW.PrintWords Go.Proofs.YthagmakojbfmaaaDoor.Pright
def leqB (q p : ByteArray) : Bool := Op.bytesLess q.toList p.toList || q.toList == p.toList
def Adj (es : List S80) (x : Int) : Prop := ∀ j : Int, 0 < j → j < x → leqB (rd_T80 es j).f0 (rd_T80 es (j - 1)).f0 = false
def SrtR (es : List S80) (w : World) (e : Ending) (w' : World) : Prop := ∃ b, e = .returned (.bool b) ∧ Drawn0 w w' ∧ (b = true → Adj es es.length)
attribute [local go_sem ↓] Go.wp_at_zero Go.wp_at_succ
set_option maxRecDepth 100000 in
set_option maxHeartbeats 4000000 in
theorem sorted_calls (A : Option Addr) (c : Nat) (es : List S80) (w : World) (hr : Kd.C k80 w A es.length es) (hc : es.length ≤ c) (hl : es.length ≤ 1000000) (hn : ∀ i, (rd_T80 es i).f0.size ≤ 1000000000000000) :
  Calls Tryd.prog 47 #[.slice A es.length c] w (SrtR es w) := by
 have HR := Lib.hid hr
 have HL := Lib.hid (And.intro hc (And.intro hl hn))
 clear hr hc hl hn
 go_enter Tryd.func47, Tryd.ntmps47
 go_wp2_with fail
 go_loopw [3] (fun i wr => ∃ x : Int, i = .int .i64 x ∧ 0 ≤ x ∧ x ≤ es.length ∧ Adj es x ∧ ∃ n, wr = w.drewN n) (fun i _ => es.length - (intOf i).toNat)
 case atStart => exact ⟨0, rfl, Int.le_refl _, by omega, fun j h1 h2 => by omega, 0, rfl⟩
 case round =>
  obtain ⟨x, rfl, h0, h1, hadj, n, rfl⟩ := hrel
  have HJ := Lib.hid (And.intro h0 (And.intro h1 hadj))
  clear h0 h1 hadj
  by_cases hlt : x < (es.length : Int)
  ·have d1 : decide (x < (es.length : Int)) = true := decide_eq_true hlt
   obtain ⟨ad, e1, c0, c1⟩ := at_T80 HR.out x HJ.out.1 hlt
   subst e1
   obtain ⟨y, hy⟩ := legal_f (rd_T80 es x).f0 (HL.out.2.2 x)
   have HY := Lib.hid hy
   have HLT := Lib.hid hlt
   have p0 : (0 ≤ x) = True := eq_true HJ.out.1
   have p1 : (x < (es.length : Int)) = True := eq_true hlt
   clear hy c1 hlt
   generalize hnm : (rd_T80 es x).f0 = nm at c0
   have HN := Lib.hid hnm
   clear hnm
   have q1 : wrap64 (x + 1) = x + 1 := wrap_succ HJ.out.1 (by have := HJ.out.2.1; have := HL.out.2.1; omega)
   have q2 : IntKind.i64.wrap (x + 1) = x + 1 := by have := HJ.out.1; have := HJ.out.2.1; have := HL.out.2.1; rw [IntKind.wrap_i64] <;> omega
   by_cases hy0 : y = 0
   ·subst hy0
    by_cases hx0 : 0 < x
    ·have d2 : decide (0 < x) = true := decide_eq_true hx0
     obtain ⟨z, hz⟩ : ∃ z, x - 1 = z := ⟨_, rfl⟩
     have q3 : wrap64 (x - 1) = z := by rw [← hz]; unfold wrap64; have := HJ.out.2.1; have := HL.out.2.1; omega
     have q4 : IntKind.i64.wrap (x - 1) = z := by rw [← hz]; have := HJ.out.1; have := HJ.out.2.1; have := HL.out.2.1; rw [IntKind.wrap_i64] <;> omega
     have HZ := Lib.hid hz
     obtain ⟨ad2, e2, c2, c3⟩ := at_T80 HR.out z (by omega) (by have := HLT.out; omega)
     cases e2
     clear c3
     generalize hnm2 : (rd_T80 es z).f0 = nm2 at c2
     have HN2 := Lib.hid hnm2
     clear hnm2
     have p2 : (0 ≤ z) = True := eq_true (by omega)
     have p3 : (z < (es.length : Int)) = True := eq_true (by have := HLT.out; omega)
     clear hz
     have HX0 := Lib.hid hx0
     clear hx0
     cases hlq : leqB nm nm2 with
     | true =>
      have hq : ∀ t, binOp .leq t (.string nm) (.string nm2) = pure (.bool true) := fun t => by rw [binOp_string_leq]; exact congrArg (fun b => pure (Value.bool b)) hlq
      clear hlq
      go_wp2_with fail
      have S0 : (fun w' => w'.cell? (ad.add (x.toNat * 2)) = some (.string nm) ∧ w'.cell? (ad.add (z.toNat * 2)) = some (.string nm2)) (w.drewN n) := ⟨c0, c2⟩
      refine reg0 25 (fun w' => w'.cell? (ad.add (x.toNat * 2)) = some (.string nm) ∧ w'.cell? (ad.add (z.toNat * 2)) = some (.string nm2)) (by kernel_rfl) (by kernel_rfl) (by kernel_rfl) ?_ (fun l hg hHeld => ?_)
      ·(try dsimp only); exact S0
      (apply tkT 0 1 hg; (focus rfl); (focus rfl); (focus kernel_rfl); (focus (intro w0 hSw; (try dsimp only at hSw); go_simp; try (with_reducible rfl))); (focus assumption))
      try simp only [zP, zA, zZ, zS]
      (apply tkT 1 3 hg; (focus rfl); (focus rfl); (focus kernel_rfl); (focus (intro w0 hSw; (try dsimp only at hSw); go_simp; try (with_reducible rfl))); (focus assumption))
      try simp only [zP, zA, zZ, zS]
      (apply tkT 2 7 hg; (focus rfl); (focus rfl); (focus kernel_rfl); (focus (intro w0 hSw; (try dsimp only at hSw); go_simp; try (with_reducible rfl))); (focus assumption))
      try simp only [zP, zA, zZ, zS]
      (apply tkT 3 15 hg; (focus rfl); (focus rfl); (focus kernel_rfl); (focus (intro w0 hSw; (try dsimp only at hSw); go_simp; try (with_reducible rfl))); (focus assumption))
      try simp only [zP, zA, zZ, zS]
      (apply tkT 4 31 hg; (focus rfl); (focus rfl); (focus kernel_rfl); (focus (intro w0 hSw; (try dsimp only at hSw); go_simp; try (with_reducible rfl))); (focus assumption))
      try simp only [zP, zA, zZ, zS]
      (apply act1 5 63 hg; (focus rfl); (focus rfl); (focus kernel_rfl))
      intro K hK
      go_simp
      rw [← HN.out]
      refine (flagstoneref05_Legal.calls _ _ _ _ HY.out).mono ?_
      rintro e u5 ⟨rfl, ⟨m, rfl⟩⟩
      refine hK.out _ _ ?_ (fun hHeld => ?_)
      ·(try dsimp only); exact S0
      clear hK K
      try simp only [zP, zA, zZ, zS]
      (apply tkT 6 127 hg; (focus rfl); (focus rfl); (focus kernel_rfl); (focus (intro w0 hSw; (try dsimp only at hSw); go_simp; try (with_reducible rfl))); (focus assumption))
      try simp only [zP, zA, zZ, zS]
      (apply tkT 7 255 hg; (focus rfl); (focus rfl); (focus kernel_rfl); (focus (intro w0 hSw; (try dsimp only at hSw); go_simp; try (with_reducible rfl))); (focus assumption))
      try simp only [zP, zA, zZ, zS]
      (first | (apply tkT 8 511 hg; (focus rfl); (focus rfl); (focus kernel_rfl); (focus (intro w0 hSw; (try dsimp only at hSw); go_simp; try (with_reducible rfl))); (focus assumption)) | (apply tkF 8 511 hg; (focus rfl); (focus rfl); (focus kernel_rfl); (focus assumption)))
      try simp only [zP, zA, zZ, zS]
      (first | (apply tkT 9 1023 hg; (focus rfl); (focus rfl); (focus kernel_rfl); (focus (intro w0 hSw; (try dsimp only at hSw); go_simp; try (with_reducible rfl))); (focus assumption)) | (apply tkF 9 1023 hg; (focus rfl); (focus rfl); (focus kernel_rfl); (focus assumption)))
      try simp only [zP, zA, zZ, zS]
      (first | (apply tkT 10 2047 hg; (focus rfl); (focus rfl); (focus kernel_rfl); (focus (intro w0 hSw; (try dsimp only at hSw); go_simp; try (with_reducible rfl))); (focus assumption)) | (apply tkF 10 2047 hg; (focus rfl); (focus rfl); (focus kernel_rfl); (focus assumption)))
      try simp only [zP, zA, zZ, zS]
      (first | (apply tkT 11 4095 hg; (focus rfl); (focus rfl); (focus kernel_rfl); (focus (intro w0 hSw; (try dsimp only at hSw); go_simp; try (with_reducible rfl))); (focus assumption)) | (apply tkF 11 4095 hg; (focus rfl); (focus rfl); (focus kernel_rfl); (focus assumption)))
      try simp only [zP, zA, zZ, zS]
      (first | (apply tkT 12 8191 hg; (focus rfl); (focus rfl); (focus kernel_rfl); (focus (intro w0 hSw; (try dsimp only at hSw); go_simp; try (with_reducible rfl))); (focus assumption)) | (apply tkF 12 8191 hg; (focus rfl); (focus rfl); (focus kernel_rfl); (focus assumption)))
      try simp only [zP, zA, zZ, zS]
      (first | (apply tkT 13 16383 hg; (focus rfl); (focus rfl); (focus kernel_rfl); (focus (intro w0 hSw; (try dsimp only at hSw); go_simp; try (with_reducible rfl))); (focus assumption)) | (apply tkF 13 16383 hg; (focus rfl); (focus rfl); (focus kernel_rfl); (focus assumption)))
      try simp only [zP, zA, zZ, zS]
      (first | (apply tkT 14 32767 hg; (focus rfl); (focus rfl); (focus kernel_rfl); (focus (intro w0 hSw; (try dsimp only at hSw); go_simp; try (with_reducible rfl))); (focus assumption)) | (apply tkF 14 32767 hg; (focus rfl); (focus rfl); (focus kernel_rfl); (focus assumption)))
      try simp only [zP, zA, zZ, zS]
      (first | (apply tkT 15 65535 hg; (focus rfl); (focus rfl); (focus kernel_rfl); (focus (intro w0 hSw; (try dsimp only at hSw); go_simp; try (with_reducible rfl))); (focus assumption)) | (apply tkF 15 65535 hg; (focus rfl); (focus rfl); (focus kernel_rfl); (focus assumption)))
      try simp only [zP, zA, zZ, zS]
      (first | (apply tkT 16 131071 hg; (focus rfl); (focus rfl); (focus kernel_rfl); (focus (intro w0 hSw; (try dsimp only at hSw); go_simp; try (with_reducible rfl))); (focus assumption)) | (apply tkF 16 131071 hg; (focus rfl); (focus rfl); (focus kernel_rfl); (focus assumption)))
      try simp only [zP, zA, zZ, zS]
      (first | (apply tkT 17 262143 hg; (focus rfl); (focus rfl); (focus kernel_rfl); (focus (intro w0 hSw; (try dsimp only at hSw); go_simp; try (with_reducible rfl))); (focus assumption)) | (apply tkF 17 262143 hg; (focus rfl); (focus rfl); (focus kernel_rfl); (focus assumption)))
      try simp only [zP, zA, zZ, zS]
      (first | (apply tkT 18 524287 hg; (focus rfl); (focus rfl); (focus kernel_rfl); (focus (intro w0 hSw; (try dsimp only at hSw); go_simp; try (with_reducible rfl))); (focus assumption)) | (apply tkF 18 524287 hg; (focus rfl); (focus rfl); (focus kernel_rfl); (focus assumption)))
      try simp only [zP, zA, zZ, zS]
      (first | (apply tkT 19 1048575 hg; (focus rfl); (focus rfl); (focus kernel_rfl); (focus (intro w0 hSw; (try dsimp only at hSw); go_simp; try (with_reducible rfl))); (focus assumption)) | (apply tkF 19 1048575 hg; (focus rfl); (focus rfl); (focus kernel_rfl); (focus assumption)))
      try simp only [zP, zA, zZ, zS]
      (first | (apply tkT 20 2097151 hg; (focus rfl); (focus rfl); (focus kernel_rfl); (focus (intro w0 hSw; (try dsimp only at hSw); go_simp; try (with_reducible rfl))); (focus assumption)) | (apply tkF 20 2097151 hg; (focus rfl); (focus rfl); (focus kernel_rfl); (focus assumption)))
      try simp only [zP, zA, zZ, zS]
      (first | (apply tkT 21 4194303 hg; (focus rfl); (focus rfl); (focus kernel_rfl); (focus (intro w0 hSw; (try dsimp only at hSw); go_simp; try (with_reducible rfl))); (focus assumption)) | (apply tkF 21 4194303 hg; (focus rfl); (focus rfl); (focus kernel_rfl); (focus assumption)))
      try simp only [zP, zA, zZ, zS]
      (first | (apply tkT 22 8388607 hg; (focus rfl); (focus rfl); (focus kernel_rfl); (focus (intro w0 hSw; (try dsimp only at hSw); go_simp; try (with_reducible rfl))); (focus assumption)) | (apply tkF 22 8388607 hg; (focus rfl); (focus rfl); (focus kernel_rfl); (focus assumption)))
      try simp only [zP, zA, zZ, zS]
      (first | (apply tkT 23 16777215 hg; (focus rfl); (focus rfl); (focus kernel_rfl); (focus (intro w0 hSw; (try dsimp only at hSw); go_simp; try (with_reducible rfl))); (focus assumption)) | (apply tkF 23 16777215 hg; (focus rfl); (focus rfl); (focus kernel_rfl); (focus assumption)))
      try simp only [zP, zA, zZ, zS]
      (apply tkT 24 33554431 hg; (focus rfl); (focus rfl); (focus kernel_rfl); (focus (intro w0 hSw; (try dsimp only at hSw); go_simp; try (with_reducible rfl))); (focus assumption))
      try simp only [zP, zA, zZ, zS]
      refine actE hg (by kernel_rfl) ?_
      clear S0
      go_wp2_with fail
      go_ret
      exact ⟨false, rfl, ⟨by first | exact ⟨_, rfl⟩ | exact ⟨_, World.drewN_drewN _ _ _⟩⟩, fun h => by cases h⟩
     | false =>
      have hq : ∀ t, binOp .leq t (.string nm) (.string nm2) = pure (.bool false) := fun t => by rw [binOp_string_leq]; exact congrArg (fun b => pure (Value.bool b)) hlq
      have HQ := Lib.hid hlq
      clear hlq
      go_wp2_with fail
      have S0 : (fun w' => w'.cell? (ad.add (x.toNat * 2)) = some (.string nm) ∧ w'.cell? (ad.add (z.toNat * 2)) = some (.string nm2)) (w.drewN n) := ⟨c0, c2⟩
      refine reg0 25 (fun w' => w'.cell? (ad.add (x.toNat * 2)) = some (.string nm) ∧ w'.cell? (ad.add (z.toNat * 2)) = some (.string nm2)) (by kernel_rfl) (by kernel_rfl) (by kernel_rfl) ?_ (fun l hg hHeld => ?_)
      ·(try dsimp only); exact S0
      (apply tkT 0 1 hg; (focus rfl); (focus rfl); (focus kernel_rfl); (focus (intro w0 hSw; (try dsimp only at hSw); go_simp; try (with_reducible rfl))); (focus assumption))
      try simp only [zP, zA, zZ, zS]
      (apply tkT 1 3 hg; (focus rfl); (focus rfl); (focus kernel_rfl); (focus (intro w0 hSw; (try dsimp only at hSw); go_simp; try (with_reducible rfl))); (focus assumption))
      try simp only [zP, zA, zZ, zS]
      (apply tkT 2 7 hg; (focus rfl); (focus rfl); (focus kernel_rfl); (focus (intro w0 hSw; (try dsimp only at hSw); go_simp; try (with_reducible rfl))); (focus assumption))
      try simp only [zP, zA, zZ, zS]
      (apply tkT 3 15 hg; (focus rfl); (focus rfl); (focus kernel_rfl); (focus (intro w0 hSw; (try dsimp only at hSw); go_simp; try (with_reducible rfl))); (focus assumption))
      try simp only [zP, zA, zZ, zS]
      (apply tkT 4 31 hg; (focus rfl); (focus rfl); (focus kernel_rfl); (focus (intro w0 hSw; (try dsimp only at hSw); go_simp; try (with_reducible rfl))); (focus assumption))
      try simp only [zP, zA, zZ, zS]
      (apply act1 5 63 hg; (focus rfl); (focus rfl); (focus kernel_rfl))
      intro K hK
      go_simp
      rw [← HN.out]
      refine (flagstoneref05_Legal.calls _ _ _ _ HY.out).mono ?_
      rintro e u5 ⟨rfl, ⟨m, rfl⟩⟩
      refine hK.out _ _ ?_ (fun hHeld => ?_)
      ·(try dsimp only); exact S0
      clear hK K
      try simp only [zP, zA, zZ, zS]
      (apply tkT 6 127 hg; (focus rfl); (focus rfl); (focus kernel_rfl); (focus (intro w0 hSw; (try dsimp only at hSw); go_simp; try (with_reducible rfl))); (focus assumption))
      try simp only [zP, zA, zZ, zS]
      (apply tkT 7 255 hg; (focus rfl); (focus rfl); (focus kernel_rfl); (focus (intro w0 hSw; (try dsimp only at hSw); go_simp; try (with_reducible rfl))); (focus assumption))
      try simp only [zP, zA, zZ, zS]
      (first | (apply tkT 8 511 hg; (focus rfl); (focus rfl); (focus kernel_rfl); (focus (intro w0 hSw; (try dsimp only at hSw); go_simp; try (with_reducible rfl))); (focus assumption)) | (apply tkF 8 511 hg; (focus rfl); (focus rfl); (focus kernel_rfl); (focus assumption)))
      try simp only [zP, zA, zZ, zS]
      (first | (apply tkT 9 1023 hg; (focus rfl); (focus rfl); (focus kernel_rfl); (focus (intro w0 hSw; (try dsimp only at hSw); go_simp; try (with_reducible rfl))); (focus assumption)) | (apply tkF 9 1023 hg; (focus rfl); (focus rfl); (focus kernel_rfl); (focus assumption)))
      try simp only [zP, zA, zZ, zS]
      (first | (apply tkT 10 2047 hg; (focus rfl); (focus rfl); (focus kernel_rfl); (focus (intro w0 hSw; (try dsimp only at hSw); go_simp; try (with_reducible rfl))); (focus assumption)) | (apply tkF 10 2047 hg; (focus rfl); (focus rfl); (focus kernel_rfl); (focus assumption)))
      try simp only [zP, zA, zZ, zS]
      (first | (apply tkT 11 4095 hg; (focus rfl); (focus rfl); (focus kernel_rfl); (focus (intro w0 hSw; (try dsimp only at hSw); go_simp; try (with_reducible rfl))); (focus assumption)) | (apply tkF 11 4095 hg; (focus rfl); (focus rfl); (focus kernel_rfl); (focus assumption)))
      try simp only [zP, zA, zZ, zS]
      (first | (apply tkT 12 8191 hg; (focus rfl); (focus rfl); (focus kernel_rfl); (focus (intro w0 hSw; (try dsimp only at hSw); go_simp; try (with_reducible rfl))); (focus assumption)) | (apply tkF 12 8191 hg; (focus rfl); (focus rfl); (focus kernel_rfl); (focus assumption)))
      try simp only [zP, zA, zZ, zS]
      (first | (apply tkT 13 16383 hg; (focus rfl); (focus rfl); (focus kernel_rfl); (focus (intro w0 hSw; (try dsimp only at hSw); go_simp; try (with_reducible rfl))); (focus assumption)) | (apply tkF 13 16383 hg; (focus rfl); (focus rfl); (focus kernel_rfl); (focus assumption)))
      try simp only [zP, zA, zZ, zS]
      (first | (apply tkT 14 32767 hg; (focus rfl); (focus rfl); (focus kernel_rfl); (focus (intro w0 hSw; (try dsimp only at hSw); go_simp; try (with_reducible rfl))); (focus assumption)) | (apply tkF 14 32767 hg; (focus rfl); (focus rfl); (focus kernel_rfl); (focus assumption)))
      try simp only [zP, zA, zZ, zS]
      (first | (apply tkT 15 65535 hg; (focus rfl); (focus rfl); (focus kernel_rfl); (focus (intro w0 hSw; (try dsimp only at hSw); go_simp; try (with_reducible rfl))); (focus assumption)) | (apply tkF 15 65535 hg; (focus rfl); (focus rfl); (focus kernel_rfl); (focus assumption)))
      try simp only [zP, zA, zZ, zS]
      (first | (apply tkT 16 131071 hg; (focus rfl); (focus rfl); (focus kernel_rfl); (focus (intro w0 hSw; (try dsimp only at hSw); go_simp; try (with_reducible rfl))); (focus assumption)) | (apply tkF 16 131071 hg; (focus rfl); (focus rfl); (focus kernel_rfl); (focus assumption)))
      try simp only [zP, zA, zZ, zS]
      (first | (apply tkT 17 262143 hg; (focus rfl); (focus rfl); (focus kernel_rfl); (focus (intro w0 hSw; (try dsimp only at hSw); go_simp; try (with_reducible rfl))); (focus assumption)) | (apply tkF 17 262143 hg; (focus rfl); (focus rfl); (focus kernel_rfl); (focus assumption)))
      try simp only [zP, zA, zZ, zS]
      (first | (apply tkT 18 524287 hg; (focus rfl); (focus rfl); (focus kernel_rfl); (focus (intro w0 hSw; (try dsimp only at hSw); go_simp; try (with_reducible rfl))); (focus assumption)) | (apply tkF 18 524287 hg; (focus rfl); (focus rfl); (focus kernel_rfl); (focus assumption)))
      try simp only [zP, zA, zZ, zS]
      (first | (apply tkT 19 1048575 hg; (focus rfl); (focus rfl); (focus kernel_rfl); (focus (intro w0 hSw; (try dsimp only at hSw); go_simp; try (with_reducible rfl))); (focus assumption)) | (apply tkF 19 1048575 hg; (focus rfl); (focus rfl); (focus kernel_rfl); (focus assumption)))
      try simp only [zP, zA, zZ, zS]
      (first | (apply tkT 20 2097151 hg; (focus rfl); (focus rfl); (focus kernel_rfl); (focus (intro w0 hSw; (try dsimp only at hSw); go_simp; try (with_reducible rfl))); (focus assumption)) | (apply tkF 20 2097151 hg; (focus rfl); (focus rfl); (focus kernel_rfl); (focus assumption)))
      try simp only [zP, zA, zZ, zS]
      (first | (apply tkT 21 4194303 hg; (focus rfl); (focus rfl); (focus kernel_rfl); (focus (intro w0 hSw; (try dsimp only at hSw); go_simp; try (with_reducible rfl))); (focus assumption)) | (apply tkF 21 4194303 hg; (focus rfl); (focus rfl); (focus kernel_rfl); (focus assumption)))
      try simp only [zP, zA, zZ, zS]
      (first | (apply tkT 22 8388607 hg; (focus rfl); (focus rfl); (focus kernel_rfl); (focus (intro w0 hSw; (try dsimp only at hSw); go_simp; try (with_reducible rfl))); (focus assumption)) | (apply tkF 22 8388607 hg; (focus rfl); (focus rfl); (focus kernel_rfl); (focus assumption)))
      try simp only [zP, zA, zZ, zS]
      (first | (apply tkT 23 16777215 hg; (focus rfl); (focus rfl); (focus kernel_rfl); (focus (intro w0 hSw; (try dsimp only at hSw); go_simp; try (with_reducible rfl))); (focus assumption)) | (apply tkF 23 16777215 hg; (focus rfl); (focus rfl); (focus kernel_rfl); (focus assumption)))
      try simp only [zP, zA, zZ, zS]
      (apply tkT 24 33554431 hg; (focus rfl); (focus rfl); (focus kernel_rfl); (focus (intro w0 hSw; (try dsimp only at hSw); go_simp; try (with_reducible rfl))); (focus assumption))
      try simp only [zP, zA, zZ, zS]
      refine actE hg (by kernel_rfl) ?_
      clear S0
      go_wp2_with fail
      go_roundw
      case rel => exact ⟨x + 1, by first | rfl | rw [q2], by have := HJ.out.1; omega, by have := HLT.out; omega, fun j j0 j1 => (by
        by_cases hj : j < x
        ·exact HJ.out.2.2 j j0 hj
        ·have : j = x := by omega
         subst this
         rw [HN.out, HZ.out, HN2.out]; exact HQ.out), by first | exact ⟨_, rfl⟩ | exact ⟨_, World.drewN_drewN _ _ _⟩⟩
      case measure => simp [intOf, q1, q2]; have := HJ.out.1; have := HLT.out; omega
    ·have d2 : decide (0 < x) = false := decide_eq_false hx0
     have HX0 := Lib.hid hx0
     clear hx0
     go_wp2_with fail
     have S0 : (fun w' => w'.cell? (ad.add (x.toNat * 2)) = some (.string nm)) (w.drewN n) := c0
     refine reg0 25 (fun w' => w'.cell? (ad.add (x.toNat * 2)) = some (.string nm)) (by kernel_rfl) (by kernel_rfl) (by kernel_rfl) ?_ (fun l hg hHeld => ?_)
     ·(try dsimp only); exact S0
     (apply tkT 0 1 hg; (focus rfl); (focus rfl); (focus kernel_rfl); (focus (intro w0 hSw; (try dsimp only at hSw); go_simp; try (with_reducible rfl))); (focus assumption))
     try simp only [zP, zA, zZ, zS]
     (apply tkT 1 3 hg; (focus rfl); (focus rfl); (focus kernel_rfl); (focus (intro w0 hSw; (try dsimp only at hSw); go_simp; try (with_reducible rfl))); (focus assumption))
     try simp only [zP, zA, zZ, zS]
     (apply tkT 2 7 hg; (focus rfl); (focus rfl); (focus kernel_rfl); (focus (intro w0 hSw; (try dsimp only at hSw); go_simp; try (with_reducible rfl))); (focus assumption))
     try simp only [zP, zA, zZ, zS]
     (apply tkT 3 15 hg; (focus rfl); (focus rfl); (focus kernel_rfl); (focus (intro w0 hSw; (try dsimp only at hSw); go_simp; try (with_reducible rfl))); (focus assumption))
     try simp only [zP, zA, zZ, zS]
     (apply tkT 4 31 hg; (focus rfl); (focus rfl); (focus kernel_rfl); (focus (intro w0 hSw; (try dsimp only at hSw); go_simp; try (with_reducible rfl))); (focus assumption))
     try simp only [zP, zA, zZ, zS]
     (apply act1 5 63 hg; (focus rfl); (focus rfl); (focus kernel_rfl))
     intro K hK
     go_simp
     rw [← HN.out]
     refine (flagstoneref05_Legal.calls _ _ _ _ HY.out).mono ?_
     rintro e u5 ⟨rfl, ⟨m, rfl⟩⟩
     refine hK.out _ _ ?_ (fun hHeld => ?_)
     ·(try dsimp only); exact S0
     clear hK K
     try simp only [zP, zA, zZ, zS]
     (apply tkT 6 127 hg; (focus rfl); (focus rfl); (focus kernel_rfl); (focus (intro w0 hSw; (try dsimp only at hSw); go_simp; try (with_reducible rfl))); (focus assumption))
     try simp only [zP, zA, zZ, zS]
     (apply tkT 7 255 hg; (focus rfl); (focus rfl); (focus kernel_rfl); (focus (intro w0 hSw; (try dsimp only at hSw); go_simp; try (with_reducible rfl))); (focus assumption))
     try simp only [zP, zA, zZ, zS]
     (first | (apply tkT 8 511 hg; (focus rfl); (focus rfl); (focus kernel_rfl); (focus (intro w0 hSw; (try dsimp only at hSw); go_simp; try (with_reducible rfl))); (focus assumption)) | (apply tkF 8 511 hg; (focus rfl); (focus rfl); (focus kernel_rfl); (focus assumption)))
     try simp only [zP, zA, zZ, zS]
     (first | (apply tkT 9 1023 hg; (focus rfl); (focus rfl); (focus kernel_rfl); (focus (intro w0 hSw; (try dsimp only at hSw); go_simp; try (with_reducible rfl))); (focus assumption)) | (apply tkF 9 1023 hg; (focus rfl); (focus rfl); (focus kernel_rfl); (focus assumption)))
     try simp only [zP, zA, zZ, zS]
     (first | (apply tkT 10 2047 hg; (focus rfl); (focus rfl); (focus kernel_rfl); (focus (intro w0 hSw; (try dsimp only at hSw); go_simp; try (with_reducible rfl))); (focus assumption)) | (apply tkF 10 2047 hg; (focus rfl); (focus rfl); (focus kernel_rfl); (focus assumption)))
     try simp only [zP, zA, zZ, zS]
     (first | (apply tkT 11 4095 hg; (focus rfl); (focus rfl); (focus kernel_rfl); (focus (intro w0 hSw; (try dsimp only at hSw); go_simp; try (with_reducible rfl))); (focus assumption)) | (apply tkF 11 4095 hg; (focus rfl); (focus rfl); (focus kernel_rfl); (focus assumption)))
     try simp only [zP, zA, zZ, zS]
     (first | (apply tkT 12 8191 hg; (focus rfl); (focus rfl); (focus kernel_rfl); (focus (intro w0 hSw; (try dsimp only at hSw); go_simp; try (with_reducible rfl))); (focus assumption)) | (apply tkF 12 8191 hg; (focus rfl); (focus rfl); (focus kernel_rfl); (focus assumption)))
     try simp only [zP, zA, zZ, zS]
     (first | (apply tkT 13 16383 hg; (focus rfl); (focus rfl); (focus kernel_rfl); (focus (intro w0 hSw; (try dsimp only at hSw); go_simp; try (with_reducible rfl))); (focus assumption)) | (apply tkF 13 16383 hg; (focus rfl); (focus rfl); (focus kernel_rfl); (focus assumption)))
     try simp only [zP, zA, zZ, zS]
     (first | (apply tkT 14 32767 hg; (focus rfl); (focus rfl); (focus kernel_rfl); (focus (intro w0 hSw; (try dsimp only at hSw); go_simp; try (with_reducible rfl))); (focus assumption)) | (apply tkF 14 32767 hg; (focus rfl); (focus rfl); (focus kernel_rfl); (focus assumption)))
     try simp only [zP, zA, zZ, zS]
     (first | (apply tkT 15 65535 hg; (focus rfl); (focus rfl); (focus kernel_rfl); (focus (intro w0 hSw; (try dsimp only at hSw); go_simp; try (with_reducible rfl))); (focus assumption)) | (apply tkF 15 65535 hg; (focus rfl); (focus rfl); (focus kernel_rfl); (focus assumption)))
     try simp only [zP, zA, zZ, zS]
     (first | (apply tkT 16 131071 hg; (focus rfl); (focus rfl); (focus kernel_rfl); (focus (intro w0 hSw; (try dsimp only at hSw); go_simp; try (with_reducible rfl))); (focus assumption)) | (apply tkF 16 131071 hg; (focus rfl); (focus rfl); (focus kernel_rfl); (focus assumption)))
     try simp only [zP, zA, zZ, zS]
     (first | (apply tkT 17 262143 hg; (focus rfl); (focus rfl); (focus kernel_rfl); (focus (intro w0 hSw; (try dsimp only at hSw); go_simp; try (with_reducible rfl))); (focus assumption)) | (apply tkF 17 262143 hg; (focus rfl); (focus rfl); (focus kernel_rfl); (focus assumption)))
     try simp only [zP, zA, zZ, zS]
     (first | (apply tkT 18 524287 hg; (focus rfl); (focus rfl); (focus kernel_rfl); (focus (intro w0 hSw; (try dsimp only at hSw); go_simp; try (with_reducible rfl))); (focus assumption)) | (apply tkF 18 524287 hg; (focus rfl); (focus rfl); (focus kernel_rfl); (focus assumption)))
     try simp only [zP, zA, zZ, zS]
     (first | (apply tkT 19 1048575 hg; (focus rfl); (focus rfl); (focus kernel_rfl); (focus (intro w0 hSw; (try dsimp only at hSw); go_simp; try (with_reducible rfl))); (focus assumption)) | (apply tkF 19 1048575 hg; (focus rfl); (focus rfl); (focus kernel_rfl); (focus assumption)))
     try simp only [zP, zA, zZ, zS]
     (first | (apply tkT 20 2097151 hg; (focus rfl); (focus rfl); (focus kernel_rfl); (focus (intro w0 hSw; (try dsimp only at hSw); go_simp; try (with_reducible rfl))); (focus assumption)) | (apply tkF 20 2097151 hg; (focus rfl); (focus rfl); (focus kernel_rfl); (focus assumption)))
     try simp only [zP, zA, zZ, zS]
     (first | (apply tkT 21 4194303 hg; (focus rfl); (focus rfl); (focus kernel_rfl); (focus (intro w0 hSw; (try dsimp only at hSw); go_simp; try (with_reducible rfl))); (focus assumption)) | (apply tkF 21 4194303 hg; (focus rfl); (focus rfl); (focus kernel_rfl); (focus assumption)))
     try simp only [zP, zA, zZ, zS]
     (first | (apply tkT 22 8388607 hg; (focus rfl); (focus rfl); (focus kernel_rfl); (focus (intro w0 hSw; (try dsimp only at hSw); go_simp; try (with_reducible rfl))); (focus assumption)) | (apply tkF 22 8388607 hg; (focus rfl); (focus rfl); (focus kernel_rfl); (focus assumption)))
     try simp only [zP, zA, zZ, zS]
     (first | (apply tkT 23 16777215 hg; (focus rfl); (focus rfl); (focus kernel_rfl); (focus (intro w0 hSw; (try dsimp only at hSw); go_simp; try (with_reducible rfl))); (focus assumption)) | (apply tkF 23 16777215 hg; (focus rfl); (focus rfl); (focus kernel_rfl); (focus assumption)))
     try simp only [zP, zA, zZ, zS]
     (apply tkT 24 33554431 hg; (focus rfl); (focus rfl); (focus kernel_rfl); (focus (intro w0 hSw; (try dsimp only at hSw); go_simp; try (with_reducible rfl))); (focus assumption))
     try simp only [zP, zA, zZ, zS]
     refine actE hg (by kernel_rfl) ?_
     clear S0
     go_wp2_with fail
     go_roundw
     case rel => exact ⟨x + 1, by first | rfl | rw [q2], by have := HJ.out.1; omega, by have := HLT.out; omega, fun j j0 j1 => (by have := HX0.out; omega), by first | exact ⟨_, rfl⟩ | exact ⟨_, World.drewN_drewN _ _ _⟩⟩
     case measure => simp [intOf, q1, q2]; have := HJ.out.1; have := HLT.out; omega
   ·have hyb : (y != 0) = true := by simpa using hy0
    clear hy0
    go_wp2_with fail
    have S0 : (fun w' => w'.cell? (ad.add (x.toNat * 2)) = some (.string nm)) (w.drewN n) := c0
    refine reg0 25 (fun w' => w'.cell? (ad.add (x.toNat * 2)) = some (.string nm)) (by kernel_rfl) (by kernel_rfl) (by kernel_rfl) ?_ (fun l hg hHeld => ?_)
    ·(try dsimp only); exact S0
    (apply tkT 0 1 hg; (focus rfl); (focus rfl); (focus kernel_rfl); (focus (intro w0 hSw; (try dsimp only at hSw); go_simp; try (with_reducible rfl))); (focus assumption))
    try simp only [zP, zA, zZ, zS]
    (apply tkT 1 3 hg; (focus rfl); (focus rfl); (focus kernel_rfl); (focus (intro w0 hSw; (try dsimp only at hSw); go_simp; try (with_reducible rfl))); (focus assumption))
    try simp only [zP, zA, zZ, zS]
    (apply tkT 2 7 hg; (focus rfl); (focus rfl); (focus kernel_rfl); (focus (intro w0 hSw; (try dsimp only at hSw); go_simp; try (with_reducible rfl))); (focus assumption))
    try simp only [zP, zA, zZ, zS]
    (apply tkT 3 15 hg; (focus rfl); (focus rfl); (focus kernel_rfl); (focus (intro w0 hSw; (try dsimp only at hSw); go_simp; try (with_reducible rfl))); (focus assumption))
    try simp only [zP, zA, zZ, zS]
    (apply tkT 4 31 hg; (focus rfl); (focus rfl); (focus kernel_rfl); (focus (intro w0 hSw; (try dsimp only at hSw); go_simp; try (with_reducible rfl))); (focus assumption))
    try simp only [zP, zA, zZ, zS]
    (apply act1 5 63 hg; (focus rfl); (focus rfl); (focus kernel_rfl))
    intro K hK
    go_simp
    rw [← HN.out]
    refine (flagstoneref05_Legal.calls _ _ _ _ HY.out).mono ?_
    rintro e u5 ⟨rfl, ⟨m, rfl⟩⟩
    refine hK.out _ _ ?_ (fun hHeld => ?_)
    ·(try dsimp only); exact S0
    clear hK K
    try simp only [zP, zA, zZ, zS]
    (apply tkT 6 127 hg; (focus rfl); (focus rfl); (focus kernel_rfl); (focus (intro w0 hSw; (try dsimp only at hSw); go_simp; try (with_reducible rfl))); (focus assumption))
    try simp only [zP, zA, zZ, zS]
    (apply tkT 7 255 hg; (focus rfl); (focus rfl); (focus kernel_rfl); (focus (intro w0 hSw; (try dsimp only at hSw); go_simp; try (with_reducible rfl))); (focus assumption))
    try simp only [zP, zA, zZ, zS]
    (first | (apply tkT 8 511 hg; (focus rfl); (focus rfl); (focus kernel_rfl); (focus (intro w0 hSw; (try dsimp only at hSw); go_simp; try (with_reducible rfl))); (focus assumption)) | (apply tkF 8 511 hg; (focus rfl); (focus rfl); (focus kernel_rfl); (focus assumption)))
    try simp only [zP, zA, zZ, zS]
    (first | (apply tkT 9 1023 hg; (focus rfl); (focus rfl); (focus kernel_rfl); (focus (intro w0 hSw; (try dsimp only at hSw); go_simp; try (with_reducible rfl))); (focus assumption)) | (apply tkF 9 1023 hg; (focus rfl); (focus rfl); (focus kernel_rfl); (focus assumption)))
    try simp only [zP, zA, zZ, zS]
    (first | (apply tkT 10 2047 hg; (focus rfl); (focus rfl); (focus kernel_rfl); (focus (intro w0 hSw; (try dsimp only at hSw); go_simp; try (with_reducible rfl))); (focus assumption)) | (apply tkF 10 2047 hg; (focus rfl); (focus rfl); (focus kernel_rfl); (focus assumption)))
    try simp only [zP, zA, zZ, zS]
    (first | (apply tkT 11 4095 hg; (focus rfl); (focus rfl); (focus kernel_rfl); (focus (intro w0 hSw; (try dsimp only at hSw); go_simp; try (with_reducible rfl))); (focus assumption)) | (apply tkF 11 4095 hg; (focus rfl); (focus rfl); (focus kernel_rfl); (focus assumption)))
    try simp only [zP, zA, zZ, zS]
    (first | (apply tkT 12 8191 hg; (focus rfl); (focus rfl); (focus kernel_rfl); (focus (intro w0 hSw; (try dsimp only at hSw); go_simp; try (with_reducible rfl))); (focus assumption)) | (apply tkF 12 8191 hg; (focus rfl); (focus rfl); (focus kernel_rfl); (focus assumption)))
    try simp only [zP, zA, zZ, zS]
    (first | (apply tkT 13 16383 hg; (focus rfl); (focus rfl); (focus kernel_rfl); (focus (intro w0 hSw; (try dsimp only at hSw); go_simp; try (with_reducible rfl))); (focus assumption)) | (apply tkF 13 16383 hg; (focus rfl); (focus rfl); (focus kernel_rfl); (focus assumption)))
    try simp only [zP, zA, zZ, zS]
    (first | (apply tkT 14 32767 hg; (focus rfl); (focus rfl); (focus kernel_rfl); (focus (intro w0 hSw; (try dsimp only at hSw); go_simp; try (with_reducible rfl))); (focus assumption)) | (apply tkF 14 32767 hg; (focus rfl); (focus rfl); (focus kernel_rfl); (focus assumption)))
    try simp only [zP, zA, zZ, zS]
    (first | (apply tkT 15 65535 hg; (focus rfl); (focus rfl); (focus kernel_rfl); (focus (intro w0 hSw; (try dsimp only at hSw); go_simp; try (with_reducible rfl))); (focus assumption)) | (apply tkF 15 65535 hg; (focus rfl); (focus rfl); (focus kernel_rfl); (focus assumption)))
    try simp only [zP, zA, zZ, zS]
    (first | (apply tkT 16 131071 hg; (focus rfl); (focus rfl); (focus kernel_rfl); (focus (intro w0 hSw; (try dsimp only at hSw); go_simp; try (with_reducible rfl))); (focus assumption)) | (apply tkF 16 131071 hg; (focus rfl); (focus rfl); (focus kernel_rfl); (focus assumption)))
    try simp only [zP, zA, zZ, zS]
    (first | (apply tkT 17 262143 hg; (focus rfl); (focus rfl); (focus kernel_rfl); (focus (intro w0 hSw; (try dsimp only at hSw); go_simp; try (with_reducible rfl))); (focus assumption)) | (apply tkF 17 262143 hg; (focus rfl); (focus rfl); (focus kernel_rfl); (focus assumption)))
    try simp only [zP, zA, zZ, zS]
    (first | (apply tkT 18 524287 hg; (focus rfl); (focus rfl); (focus kernel_rfl); (focus (intro w0 hSw; (try dsimp only at hSw); go_simp; try (with_reducible rfl))); (focus assumption)) | (apply tkF 18 524287 hg; (focus rfl); (focus rfl); (focus kernel_rfl); (focus assumption)))
    try simp only [zP, zA, zZ, zS]
    (first | (apply tkT 19 1048575 hg; (focus rfl); (focus rfl); (focus kernel_rfl); (focus (intro w0 hSw; (try dsimp only at hSw); go_simp; try (with_reducible rfl))); (focus assumption)) | (apply tkF 19 1048575 hg; (focus rfl); (focus rfl); (focus kernel_rfl); (focus assumption)))
    try simp only [zP, zA, zZ, zS]
    (first | (apply tkT 20 2097151 hg; (focus rfl); (focus rfl); (focus kernel_rfl); (focus (intro w0 hSw; (try dsimp only at hSw); go_simp; try (with_reducible rfl))); (focus assumption)) | (apply tkF 20 2097151 hg; (focus rfl); (focus rfl); (focus kernel_rfl); (focus assumption)))
    try simp only [zP, zA, zZ, zS]
    (first | (apply tkT 21 4194303 hg; (focus rfl); (focus rfl); (focus kernel_rfl); (focus (intro w0 hSw; (try dsimp only at hSw); go_simp; try (with_reducible rfl))); (focus assumption)) | (apply tkF 21 4194303 hg; (focus rfl); (focus rfl); (focus kernel_rfl); (focus assumption)))
    try simp only [zP, zA, zZ, zS]
    (first | (apply tkT 22 8388607 hg; (focus rfl); (focus rfl); (focus kernel_rfl); (focus (intro w0 hSw; (try dsimp only at hSw); go_simp; try (with_reducible rfl))); (focus assumption)) | (apply tkF 22 8388607 hg; (focus rfl); (focus rfl); (focus kernel_rfl); (focus assumption)))
    try simp only [zP, zA, zZ, zS]
    (first | (apply tkT 23 16777215 hg; (focus rfl); (focus rfl); (focus kernel_rfl); (focus (intro w0 hSw; (try dsimp only at hSw); go_simp; try (with_reducible rfl))); (focus assumption)) | (apply tkF 23 16777215 hg; (focus rfl); (focus rfl); (focus kernel_rfl); (focus assumption)))
    try simp only [zP, zA, zZ, zS]
    (apply tkT 24 33554431 hg; (focus rfl); (focus rfl); (focus kernel_rfl); (focus (intro w0 hSw; (try dsimp only at hSw); go_simp; try (with_reducible rfl))); (focus assumption))
    try simp only [zP, zA, zZ, zS]
    refine actE hg (by kernel_rfl) ?_
    clear S0
    go_wp2_with fail
    go_ret
    exact ⟨false, rfl, ⟨by first | exact ⟨_, rfl⟩ | exact ⟨_, World.drewN_drewN _ _ _⟩⟩, fun h => by cases h⟩
  ·have d1 : decide (x < (es.length : Int)) = false := decide_eq_false hlt
   have HLT := Lib.hid hlt
   clear hlt
   go_wp2_with fail
   go_ret
   exact ⟨true, rfl, ⟨⟨_, rfl⟩⟩, fun _ => by have := HJ.out.2.1; have := HLT.out; have e : (es.length : Int) = x := (by omega); rw [e]; exact HJ.out.2.2⟩
end Go.Proofs.YthagmakojbfmaaaDoor.Ext
