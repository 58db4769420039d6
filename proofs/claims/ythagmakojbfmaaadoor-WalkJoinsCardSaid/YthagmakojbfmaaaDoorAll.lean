/- The walker: all steps. -/
import Derived.Test.YthagmakojbfmaaaDoorStp
/- The walker: what all its steps do, in plain words. -/
set_option linter.unusedVariables false
set_option linter.unusedSimpArgs false
namespace Go.Proofs.YthagmakojbfmaaaDoor.Ext
open Go Go.RowKit Go.Proofs.YthagmakojbfmaaaDoor Go.Proofs.YthagmakojbfmaaaDoorW.PrintWords
def stepF (ns : List S48) (k : Wk) (part : ByteArray) (rest : List ByteArray) : Int × Wk × List ByteArray :=
 if ¬ hereB ns k.at_ = 0 then (hereB ns k.at_, k, [])
 else if mayB (getL ns k.at_).f1 (getL ns k.at_).f2 k.who 1 = false then (7, k, [])
 else if namedB k.at_ (getL ns k.at_) part = -1 then (if rest = [] then (0, k.ended ⟨k.at_, part, -1, k.slash⟩, [part]) else (2, k, []))
 else if (getL ns (namedB k.at_ (getL ns k.at_) part)).f0 = 3 ∧ (¬ rest = [] ∨ k.follow = true ∨ k.slash = true) then
  (if k.hops = 8 then (8, k, [])
   else if checkB (getL ns (namedB k.at_ (getL ns k.at_) part)).f6 = 0 then (0, k.hopped (rootB (getL ns (namedB k.at_ (getL ns k.at_) part)).f6) (namesL (getL ns (namedB k.at_ (getL ns k.at_) part)).f6 ++ rest), namesL (getL ns (namedB k.at_ (getL ns k.at_) part)).f6 ++ rest)
   else (checkB (getL ns (namedB k.at_ (getL ns k.at_) part)).f6, k, []))
 else if rest = [] then (if k.slash = true ∧ ¬ (getL ns (namedB k.at_ (getL ns k.at_) part)).f0 = 2 then (4, k, []) else (0, { k.ended ⟨k.at_, part, namedB k.at_ (getL ns k.at_) part, k.slash⟩ with at_ := namedB k.at_ (getL ns k.at_) part }, []))
 else (0, { k with at_ := namedB k.at_ (getL ns k.at_) part }, rest)
def EndR (s : Int × Wk × List ByteArray) (A : Option Addr) (c n : Nat) (m r : Int) (bk : Nat) (w : World) (e : Ending) (w' : World) : Prop :=
 if s.1 = 0 then GoR bk s.2.1 s.2.2 A c n m r w e w' else BadR bk s.1 w e w'
theorem StepR.plain {k : Wk} {A : Option Addr} {c : Nat} {ns : List S48} {m r : Int} {bk : Nat} {part : ByteArray} {rest : List ByteArray} {w w' : World} {e : Ending} (h : StepR k A c ns m r bk part rest w e w') :
  EndR (stepF ns k part rest) A c ns.length m r bk w e w' := by
 have dec7 : ¬ (7 : Int) = 0 := by decide
 have dec8 : ¬ (8 : Int) = 0 := by decide
 have dec2 : ¬ (2 : Int) = 0 := by decide
 have dec4 : ¬ (4 : Int) = 0 := by decide
 unfold StepR HopR at h
 unfold stepF
 by_cases h1 : ¬ hereB ns k.at_ = 0
 ·rw [if_pos h1] at h ⊢; unfold EndR; rw [if_neg h1]; exact h
 rw [if_neg h1] at h ⊢
 by_cases h2 : mayB (getL ns k.at_).f1 (getL ns k.at_).f2 k.who 1 = false
 ·rw [if_pos h2] at h ⊢; unfold EndR; rw [if_neg dec7]; exact h
 rw [if_neg h2] at h ⊢
 generalize namedB k.at_ (getL ns k.at_) part = ino at h ⊢
 by_cases h3 : ino = -1
 ·rw [if_pos h3] at h ⊢
  by_cases h4 : rest = []
  ·rw [if_pos h4] at h ⊢; unfold EndR; rw [if_pos rfl]; exact h
  ·rw [if_neg h4] at h ⊢; unfold EndR; rw [if_neg dec2]; exact h
 rw [if_neg h3] at h ⊢
 by_cases h5 : (getL ns ino).f0 = 3 ∧ (¬ rest = [] ∨ k.follow = true ∨ k.slash = true)
 ·rw [if_pos h5] at h ⊢
  by_cases h6 : k.hops = 8
  ·rw [if_pos h6] at h ⊢; unfold EndR; rw [if_neg dec8]; exact h
  rw [if_neg h6] at h ⊢
  by_cases h7 : checkB (getL ns ino).f6 = 0
  ·rw [if_pos h7] at h ⊢; unfold EndR; rw [if_pos rfl]; exact h
  ·rw [if_neg h7] at h ⊢; unfold EndR; rw [if_neg h7]; exact h
 rw [if_neg h5] at h ⊢
 by_cases h8 : rest = []
 ·rw [if_pos h8] at h ⊢
  by_cases h9 : k.slash = true ∧ ¬ (getL ns ino).f0 = 2
  ·rw [if_pos h9] at h ⊢; unfold EndR; rw [if_neg dec4]; exact h
  ·rw [if_neg h9] at h ⊢; unfold EndR; rw [if_pos rfl]; exact h
 ·rw [if_neg h8] at h ⊢; unfold EndR; rw [if_pos rfl]; exact h
theorem stepF_parts (ns : List S48) (k : Wk) (v : Value) (part : ByteArray) (rest : List ByteArray) :
  stepF ns { k with parts := v } part rest = ((stepF ns k part rest).1, { (stepF ns k part rest).2.1 with parts := v }, (stepF ns k part rest).2.2) := by
 unfold stepF Wk.hopped Wk.ended
 by_cases h1 : ¬ hereB ns k.at_ = 0
 ·rw [if_pos h1, if_pos h1]
 rw [if_neg h1, if_neg h1]
 by_cases h2 : mayB (getL ns k.at_).f1 (getL ns k.at_).f2 k.who 1 = false
 ·rw [if_pos h2, if_pos h2]
 rw [if_neg h2, if_neg h2]
 generalize namedB k.at_ (getL ns k.at_) part = ino
 by_cases h3 : ino = -1
 ·rw [if_pos h3, if_pos h3]
  by_cases h4 : rest = []
  ·rw [if_pos h4, if_pos h4]
  ·rw [if_neg h4, if_neg h4]
 rw [if_neg h3, if_neg h3]
 by_cases h5 : (getL ns ino).f0 = 3 ∧ (¬ rest = [] ∨ k.follow = true ∨ k.slash = true)
 ·rw [if_pos h5, if_pos h5]
  by_cases h6 : k.hops = 8
  ·rw [if_pos h6, if_pos h6]
  rw [if_neg h6, if_neg h6]
  by_cases h7 : checkB (getL ns ino).f6 = 0
  ·rw [if_pos h7, if_pos h7]
   by_cases h8 : namesL (getL ns ino).f6 ++ rest = []
   ·rw [if_pos h8, if_pos h8]
   ·rw [if_neg h8, if_neg h8]
  ·rw [if_neg h7, if_neg h7]
 rw [if_neg h5, if_neg h5]
 by_cases h8 : rest = []
 ·rw [if_pos h8, if_pos h8]
  by_cases h9 : k.slash = true ∧ ¬ (getL ns ino).f0 = 2
  ·rw [if_pos h9, if_pos h9]
  ·rw [if_neg h9, if_neg h9]
 ·rw [if_neg h8, if_neg h8]
def goF : Nat → List S48 → Wk → List ByteArray → Int × Wk
 | 0, _, k, _ => (0, k)
 | n + 1, ns, k, ps => if k.over = true then (0, k) else match ps with
  | [] => (0, k)
  | part :: rest => if (stepF ns k part rest).1 = 0 then goF n ns (stepF ns k part rest).2.1 (stepF ns k part rest).2.2 else ((stepF ns k part rest).1, (stepF ns k part rest).2.1)
theorem goF_parts (n : Nat) (ns : List S48) (k : Wk) (v : Value) (ps : List ByteArray) : goF n ns { k with parts := v } ps = ((goF n ns k ps).1, { (goF n ns k ps).2 with parts := v }) := by
 induction n generalizing k ps with
 | zero => rfl
 | succ n ih =>
  unfold goF
  by_cases h : k.over = true
  ·rw [if_pos h, if_pos h]
  rw [if_neg h, if_neg h]
  cases ps with
  | nil => rfl
  | cons part rest =>
   simp only [stepF_parts]
   by_cases h0 : (stepF ns k part rest).1 = 0
   ·rw [if_pos h0, if_pos h0]; exact ih _ _
   ·rw [if_neg h0, if_neg h0]
def far (k : Wk) (ps : List ByteArray) : Nat := (8 - k.hops).toNat * 1010 + ps.length + (if k.over = true then 0 else 1)
theorem far_step (ns : List S48) (k : Wk) (part : ByteArray) (rest : List ByteArray) (ho : k.over = false) (hh : 0 ≤ k.hops ∧ k.hops ≤ 8) (htx : ∀ i, (getL ns i).f6.size ≤ 1000) (h0 : (stepF ns k part rest).1 = 0) :
  far (stepF ns k part rest).2.1 (stepF ns k part rest).2.2 < far k (part :: rest) ∧ (0 ≤ (stepF ns k part rest).2.1.hops ∧ (stepF ns k part rest).2.1.hops ≤ 8) ∧ ((stepF ns k part rest).2.1.over = true ∨ (stepF ns k part rest).2.2 ≠ []) := by
 revert h0
 unfold stepF
 by_cases h1 : ¬ hereB ns k.at_ = 0
 ·rw [if_pos h1]; intro h; exact absurd h h1
 rw [if_neg h1]
 by_cases h2 : mayB (getL ns k.at_).f1 (getL ns k.at_).f2 k.who 1 = false
 ·rw [if_pos h2]; intro h; exact absurd (show (7 : Int) = 0 from h) (by decide)
 rw [if_neg h2]
 generalize namedB k.at_ (getL ns k.at_) part = ino
 by_cases h3 : ino = -1
 ·rw [if_pos h3]
  by_cases h4 : rest = []
  ·rw [if_pos h4]; intro _; subst h4; exact ⟨by simp [far, Wk.ended, ho], hh, .inl rfl⟩
  ·rw [if_neg h4]; intro h; exact absurd (show (2 : Int) = 0 from h) (by decide)
 rw [if_neg h3]
 by_cases h5 : (getL ns ino).f0 = 3 ∧ (¬ rest = [] ∨ k.follow = true ∨ k.slash = true)
 ·rw [if_pos h5]
  by_cases h6 : k.hops = 8
  ·rw [if_pos h6]; intro h; exact absurd (show (8 : Int) = 0 from h) (by decide)
  rw [if_neg h6]
  by_cases h7 : checkB (getL ns ino).f6 = 0
  ·rw [if_pos h7]
   intro _
   have hn := names_len (getL ns ino).f6
   have ht := htx ino
   unfold Wk.hopped
   by_cases h8 : namesL (getL ns ino).f6 ++ rest = []
   ·rw [if_pos h8, h8]
    refine ⟨?_, ⟨by simp [Wk.ended]; omega, by simp [Wk.ended]; omega⟩, .inl rfl⟩
    simp [far, Wk.ended, ho]; omega
   ·rw [if_neg h8]
    refine ⟨?_, ⟨by simp; omega, by simp; omega⟩, .inr h8⟩
    simp [far, ho]; omega
  ·rw [if_neg h7]; intro h; exact absurd h h7
 rw [if_neg h5]
 by_cases h8 : rest = []
 ·rw [if_pos h8]
  by_cases h9 : k.slash = true ∧ ¬ (getL ns ino).f0 = 2
  ·rw [if_pos h9]; intro h; exact absurd (show (4 : Int) = 0 from h) (by decide)
  ·rw [if_neg h9]; intro _; exact ⟨by simp [far, Wk.ended, ho]; try omega, hh, .inl rfl⟩
 ·rw [if_neg h8]; intro _; exact ⟨by simp [far, ho], hh, .inr h8⟩
def allF (ns : List S48) (k : Wk) (ps : List ByteArray) : Int × Wk := if ps = [] then (hereB ns k.at_, k.ended ⟨k.at_, ⟨#[]⟩, k.at_, true⟩) else goF 10000 ns k ps
theorem allF_parts (ns : List S48) (k : Wk) (v : Value) (ps : List ByteArray) : allF ns { k with parts := v } ps = ((allF ns k ps).1, { (allF ns k ps).2 with parts := v }) := by
 unfold allF
 by_cases h : ps = []
 ·rw [if_pos h, if_pos h]; rfl
 ·rw [if_neg h, if_neg h]; exact goF_parts _ _ _ _ _
def ErrC (w : World) (ev : Value) (no : Int) : Prop :=
 (no = 0 ∧ ev = .nilIface) ∨ (no ≠ 0 ∧ ∃ p, Box w p #[.int .i64 no] ∧ (ev = .iface 66 (.pointer (some ⟨p, 0, none⟩)) ∨ ∃ q part, ev = .iface 90 (.pointer (some ⟨q, 0, none⟩)) ∧ Box w q #[.string part, .iface 66 (.pointer (some ⟨p, 0, none⟩))]))
def AllR (s : Int × Wk) (A : Option Addr) (c n : Nat) (m r : Int) (bk : Nat) (w : World) (e : Ending) (w' : World) : Prop :=
 Gro (fun x => x = bk) w w' ∧ ∃ ev, e = .returned ev ∧ ErrC w' ev s.1 ∧ (s.1 = 0 → ∃ v, Wb w' bk { s.2 with parts := v } A c n m r)
theorem Gro.low {bk n : Nat} {w0 w w' : World} (h : Gro (fun x => x = bk) w w') (hB : Below n w0 w) (hn : n ≤ w.heap.size) (hbk : n ≤ bk) : Below n w0 w' :=
 hB.trans ⟨h.os, h.tape, h.output, h.size, fun k hk => h.block k (Nat.lt_of_lt_of_le hk hn) (by omega)⟩
end Go.Proofs.YthagmakojbfmaaaDoor.Ext
set_option linter.unusedVariables false
set_option linter.unusedSimpArgs false
namespace Go.Proofs.YthagmakojbfmaaaDoor.Ext
open Go Go.RowKit Go.Proofs.YthagmakojbfmaaaDoor Go.Proofs.YthagmakojbfmaaaDoorW.PrintWords
def farW (bk : Nat) (w : World) : Nat := match ((row w bk)[8]? : Option Value), ((row w bk)[5]? : Option Value), ((row w bk)[13]? : Option Value) with
 | some (Value.int _ h), some (Value.slice _ n _), some (Value.bool o) => (8 - h).toNat * 1010 + n + (if o = true then 0 else 1)
 | _, _, _ => 0
theorem farW_eq {w : World} {bk : Nat} {k : Wk} {A : Option Addr} {c n : Nat} {m r : Int} (h : Wb w bk k A c n m r) (s : Sl) (qs : List ByteArray) (hv : k.parts = .slice s.a qs.length s.c) : farW bk w = far k qs := by
 unfold farW
 rw [h.box.row, wk_eq, hv]
 rfl
attribute [local go_sem] isRow_drew row_drew isRow_drewN row_drewN cell_isRow rowSz_isRow isHead_ptr blockOf_ptr row_alloc isRow_alloc rowSz_alloc setRow_alloc isRow_setRow isRow_setCell isRow_frozen setCell_setRow_same setCell_setRow_other cell_setRow_same' cell_setRow_other' frozen_setRow' row_setRow_same row_setRow_other rowSz_setRow_same rowSz_setRow_other setRow_setRow_same' setRow_comm' ne_l2 ne_r2 ne_l3 ne_r3 ne_l4 ne_r4 ne_l5 ne_r5 ne_l6 ne_r6 ne_l7 ne_r7 ne_l8 ne_r8 wk_len row_setCell_same
attribute [local go_sem ↓] ldx_48
attribute [local go_sem ↓] Go.wp_at_zero Go.wp_at_succ
set_option maxRecDepth 100000 in
set_option maxHeartbeats 4000000 in
theorem all_none (k : Wk) (A : Option Addr) (c : Nat) (ns : List S48) (m r : Int) (bk : Nat) (w0 w : World) (s : Sl) (ps : List ByteArray) (hB : Below w0.heap.size w0 w) (hbk : w0.heap.size ≤ bk) (hk : Wb w bk k A c ns.length m r) (hd : Dk w0 A ns) (hc : ns.length ≤ c) (hl : ns.length ≤ 1000000) (hv : k.parts = .slice s.a ps.length s.c) (hp : rStr.Is w (But w bk) s ps) (hps : ps = []) :
  Calls Tryd.prog 23 #[.pointer (some ⟨bk, 0, none⟩)] w (AllR (hereB ns k.at_, k.ended ⟨k.at_, ⟨#[]⟩, k.at_, true⟩) A c ns.length m r bk w) := by
 subst hps
 simp only [List.length_nil] at hv
 have BB := Lib.hid hB
 have Hk := Lib.hid hk.box
 have HWb := Lib.hid hk
 have HD := Lib.hid (hd.step hB)
 have HL := Lib.hid (And.intro hc (And.intro hl hbk))
 have HS := Lib.hid (show Since w w from Below.refl _ w)
 clear hB hk hd hc hl hp hbk
 have hw := wk_eq
 obtain ⟨ik, rk, lk, nk, mk⟩ := boxAll Hk.out
 go_enter Tryd.func23, Tryd.ntmps23
 go_wp2_with fail
 refine Calls.at_ fun W hW => ?_
 have B0 : Below w.heap.size w W := by rw [hW]; repeat' (first | with_reducible refine Below.alloc ?_ ?_ _ | with_reducible refine Below.setRow_ ?_ ?_ _ | with_reducible refine Below.setCell ?_ ?_ _ | with_reducible refine Below.drew ?_ | with_reducible refine Below.drewN_ ?_ _ | with_reducible exact Below.refl _ _ | assumption | (simp; done) | (simp; omega) | omega)
 clear hW
 refine (here_calls k A c ns m r bk W (Hk.out.step B0) (HD.out.step B0) HL.out.1 HL.out.2.1).mono ?_
 rintro e w1 h
 obtain ⟨hb, A7, c7, ev, rfl, h7, hE, hEr⟩ := (show HereR ns k.at_ W e w1 from h)
 have C := B0.trans (hb.mono B0.size)
 replace BB := Lib.hid (BB.out.trans (C.mono BB.out.size))
 replace HWb := Lib.hid (HWb.out.step C)
 replace HD := Lib.hid (HD.out.step C)
 replace HS := Lib.hid (HS.out.step C)
 try clear ik rk lk nk mk
 replace Hk := Lib.hid (Hk.out.step C)
 obtain ⟨ik, rk, lk, nk, mk⟩ := boxAll Hk.out
 have HV := Lib.hid hEr
 clear h hb C B0 W hEr h7 hE
 unfold nodeV
 go_wp2_with (first | (apply ld_row 48 8; (focus rfl); (focus go_simp); (focus (go_simp; rfl)); (focus (exact Tryd.underlying48)); (focus kernel_rfl)) | (apply st_row 48 8; (focus rfl); (focus rfl); (focus go_simp); (focus kernel_rfl); (focus rfl); (focus (first | (simp [Value.oneCell']; done) | (simp [Value.oneCell', Job.cells]; done)))) | fail)
 refine Code.at_ fun v2 hW => ?_
 have B0 : Below w1.heap.size w1 v2 := by rw [hW]; repeat' (first | with_reducible refine Below.alloc ?_ ?_ _ | with_reducible refine Below.setRow_ ?_ ?_ _ | with_reducible refine Below.setCell ?_ ?_ _ | with_reducible refine Below.drew ?_ | with_reducible refine Below.drewN_ ?_ _ | with_reducible exact Below.refl _ _ | assumption | (simp; done) | (simp; omega) | omega)
 have Hz := Lib.hid (show Box v2 (w1.heap.size) #[.int .i64 (getL ns k.at_).f0, .int .i64 (getL ns k.at_).f1, .int .i64 (getL ns k.at_).f2, .int .i64 (getL ns k.at_).f3, .int .i64 (getL ns k.at_).f4, .int .i64 (getL ns k.at_).f5, .string (getL ns k.at_).f6, .slice A7 (getL ns k.at_).f7.length c7] from ⟨_, by rw [hW]; (try rw [setRow_alloc, if_pos rfl]); exact blk_new _ (by first | rfl | simp)⟩)
 clear hW
 have C := B0
 replace BB := Lib.hid (BB.out.trans (C.mono BB.out.size))
 replace HWb := Lib.hid (HWb.out.step C)
 replace HD := Lib.hid (HD.out.step C)
 replace HS := Lib.hid (HS.out.step C)
 replace HV := Lib.hid (HV.out.step C)
 try clear ik rk lk nk mk
 replace Hk := Lib.hid (Hk.out.step C)
 obtain ⟨bz, hbz⟩ : ∃ b, b = w1.heap.size := ⟨_, rfl⟩
 rw [← hbz] at Hz ⊢
 clear hbz
 clear C B0
 have c4 : v2.cell? ⟨bk, 4, none⟩ = some (.int .i64 k.at_) := block_cell HWb.out 4
 have S0 := And.intro Hk.out.isRow c4
 refine reg0 11 (fun w' => isRow w' bk = true ∧ w'.cell? ⟨bk, 4, none⟩ = some (.int .i64 k.at_)) (by kernel_rfl) (by kernel_rfl) (by kernel_rfl) ?_ (fun l hg hHeld => ?_)
 ·(try dsimp only); (first | exact S1 | exact S0)
 (apply tkT 0 1 hg; (focus rfl); (focus rfl); (focus kernel_rfl); (focus (intro w0 hSw; (try dsimp only at hSw); go_simp; try (with_reducible rfl))); (focus assumption))
 try simp only [zP, zA, zZ, zS]
 (apply tkT 1 3 hg; (focus rfl); (focus rfl); (focus kernel_rfl); (focus (intro w0 hSw; (try dsimp only at hSw); go_simp; try (with_reducible rfl))); (focus assumption))
 try simp only [zP, zA, zZ, zS]
 (apply tkT 2 7 hg; (focus rfl); (focus rfl); (focus kernel_rfl); (focus (intro w0 hSw; (try dsimp only at hSw); go_simp; try (with_reducible rfl))); (focus assumption))
 try simp only [zP, zA, zZ, zS]
 (apply tkT 3 15 hg; (focus rfl); (focus rfl); (focus kernel_rfl); (focus (intro w0 hSw; (try dsimp only at hSw); go_simp; try (with_reducible rfl))); (focus assumption))
 try simp only [zP, zA, zZ, zS]
 (apply tkT 4 31 hg; (focus rfl); (focus rfl); (focus kernel_rfl); (focus (intro w0 hSw; (try dsimp only at hSw); go_simp; try (with_reducible rfl))); (focus assumption))
 try simp only [zP, zA, zZ, zS]
 (apply tkT 5 63 hg; (focus rfl); (focus rfl); (focus kernel_rfl); (focus (intro w0 hSw; (try dsimp only at hSw); go_simp; try (with_reducible rfl))); (focus assumption))
 try simp only [zP, zA, zZ, zS]
 (apply tkT 6 127 hg; (focus rfl); (focus rfl); (focus kernel_rfl); (focus (intro w0 hSw; (try dsimp only at hSw); go_simp; try (with_reducible rfl))); (focus assumption))
 try simp only [zP, zA, zZ, zS]
 (apply tkT 7 255 hg; (focus rfl); (focus rfl); (focus kernel_rfl); (focus (intro w0 hSw; (try dsimp only at hSw); go_simp; try (with_reducible rfl))); (focus assumption))
 try simp only [zP, zA, zZ, zS]
 (apply tkT 8 511 hg; (focus rfl); (focus rfl); (focus kernel_rfl); (focus (intro w0 hSw; (try dsimp only at hSw); go_simp; try (with_reducible rfl))); (focus assumption))
 try simp only [zP, zA, zZ, zS]
 (apply tkT 9 1023 hg; (focus rfl); (focus rfl); (focus kernel_rfl); (focus (intro w0 hSw; (try dsimp only at hSw); go_simp; try (with_reducible rfl))); (focus assumption))
 try simp only [zP, zA, zZ, zS]
 (apply act1 10 2047 hg; (focus rfl); (focus rfl); (focus kernel_rfl))
 intro K hK
 go_simp
 refine (end2_calls k A c ns.length m r bk ⟨k.at_, ⟨#[]⟩, k.at_, true⟩ _ (HWb.out.step (Below.refl _ _).drew)).mono ?_
 rintro e u5 ⟨rfl, h5, g5⟩
 have S1 := And.intro h5.box.isRow (show u5.cell? ⟨bk, 4, none⟩ = some (.int .i64 k.at_) from block_cell h5 4)
 refine hK.out _ _ ?_ (fun hHeld => ?_)
 ·(try dsimp only); (first | exact S1 | exact S0)
 clear hK K
 try simp only [zP, zA, zZ, zS]
 refine actE hg (by kernel_rfl) ?_
 have H5 := Lib.hid (And.intro h5 (Gro.trans (Gro.of_below (HS.out.step (Below.refl _ _).drew)) g5))
 clear S0 S1 c4
 have GP := Lib.hid g5
 clear h5 g5
 go_wp2_with fail
 go_ret
 refine ⟨H5.out.2, ev, rfl, ?_, fun _ => ⟨k.parts, H5.out.1⟩⟩
 have hV := HV.out
 rcases hV with ⟨h0, rfl⟩ | ⟨h0, p, rfl, hpb⟩
 ·exact .inl ⟨h0, rfl⟩
 ·refine .inr ⟨h0, p, ?_, .inl rfl⟩
  obtain ⟨t, ht⟩ := hpb
  have hpk : p ≠ bk := by rintro rfl; have h1 := HWb.out; unfold Wb at h1; rw [h1] at ht; injection ht with ht; injection ht with ht; have := congrArg Array.size ht; simp [Wk.cells] at this
  exact ⟨t, (GP.out.block p (by have := (Array.getElem?_eq_some_iff.1 ht).1; simpa using this) hpk).trans ht⟩
set_option maxRecDepth 100000 in
set_option maxHeartbeats 4000000 in
theorem all_some (k : Wk) (A : Option Addr) (c : Nat) (ns : List S48) (m r : Int) (bk : Nat) (w0 w : World) (s : Sl) (ps : List ByteArray) (hB : Below w0.heap.size w0 w) (hbk : w0.heap.size ≤ bk) (hk : Wb w bk k A c ns.length m r) (hd : Dk w0 A ns) (hc : ns.length ≤ c) (hl : ns.length ≤ 1000000) (hv : k.parts = .slice s.a ps.length s.c) (hp : rStr.Is w (But w bk) s ps) (hps : ps ≠ []) (hf7 : ∀ i, (getL ns i).f7.length ≤ 1000000) (hso : ∀ i part, Sorted57 (getL ns i).f7 part) (htx : ∀ i, (getL ns i).f6.size ≤ 1000) (hh : 0 ≤ k.hops ∧ k.hops ≤ 8) (hfar : far k ps ≤ 10000) (hov : k.over = false) :
  Calls Tryd.prog 23 #[.pointer (some ⟨bk, 0, none⟩)] w (AllR (goF 10000 ns k ps) A c ns.length m r bk w) := by
 obtain ⟨s0, s1⟩ := s
 simp only at hv hp
 have hps0 : ((ps.length : Int) == 0) = false := by have : ¬ ps.length = 0 := fun h => hps (List.eq_nil_of_length_eq_zero h); simp; exact hps
 have HD0 := Lib.hid hd
 have HC := Lib.hid (And.intro hc (And.intro hl (And.intro hbk (And.intro hf7 (And.intro hso htx)))))
 have HN := Lib.hid (And.intro hh (And.intro hfar hov))
 have HPS := Lib.hid hps
 have BB := Lib.hid hB
 have HS := Lib.hid (And.intro hk hp)
 have ik := hk.box.isRow; have rk := hk.box.row
 have hw := wk_eq
 clear hk hp hB hd hc hl hbk hf7 hso htx hh hfar hov hps
 generalize hq : goF 10000 ns k ps = Q
 have HQ := Lib.hid hq
 clear hq
 have HV := Lib.hid hv
 go_enter Tryd.func23, Tryd.ntmps23
 go_wp2_with fail
 clear ik rk hps0
 go_loopw [] (fun wr => ∃ (n : Nat) (k' : Wk) (s : Sl) (qs : List ByteArray), Gro (fun x => x = bk) w wr ∧ Wb wr bk k' A c ns.length m r ∧ k'.parts = .slice s.a qs.length s.c ∧ rStr.Is wr (But wr bk) s qs ∧ (0 ≤ k'.hops ∧ k'.hops ≤ 8) ∧ far k' qs ≤ n ∧ n ≤ 10000 ∧ (k'.over = true ∨ qs ≠ []) ∧ (goF n ns k' qs).1 = Q.1 ∧ ∀ v, { (goF n ns k' qs).2 with parts := v } = { Q.2 with parts := v }) (fun wr => farW bk wr)
 case atStart => exact ⟨10000, k, ⟨s0, s1⟩, ps, Gro.refl _ _, HS.out.1, HV.out, HS.out.2, HN.out.1, HN.out.2.1, Nat.le_refl _, .inr HPS.out, by rw [HQ.out], fun v => by rw [HQ.out]⟩
 case round =>
  obtain ⟨n, k', s, qs, h1, h2, h3, h4, h5, h6, h7, h8, h9, h10⟩ := hrel
  obtain ⟨s2, s3⟩ := s
  have ik := h2.box.isRow; have rk := h2.box.row
  have HX := Lib.hid (And.intro h1 (And.intro h2 (And.intro h3 (And.intro h4 (And.intro h5 (And.intro h6 (And.intro h7 (And.intro h8 (And.intro h9 h10)))))))))
  simp only at h3
  clear h1 h2 h4 h5 h6 h7 h8 h9 h10 HS
  by_cases hov : k'.over = true
  ·go_wp2_with fail
   go_ret
   have e1 : (goF n ns k' qs) = (0, k') := by cases n with | zero => rfl | succ n => unfold goF; rw [if_pos hov]
   obtain ⟨x1, x2, x3, x4, x5, x6, x7, x8, x9, x10⟩ := HX.out
   rw [e1] at x9 x10
   refine ⟨x1, _, rfl, .inl ⟨x9.symm, rfl⟩, fun _ => ⟨k'.parts, ?_⟩⟩
   rw [← x10 k'.parts]; exact x2
  ·have hov0 : k'.over = false := by simpa using hov
   obtain ⟨part, rest, rfl⟩ : ∃ part rest, qs = part :: rest := by
    have := HX.out.2.2.2.2.2.2.2.1
    cases qs with
    | nil => exact absurd rfl (this.resolve_left hov)
    | cons a l => exact ⟨a, l, rfl⟩
   obtain ⟨b, off, e', g', c0⟩ := HX.out.2.2.2.1.2.str 0 (by simp)
   simp only at e'
   subst e'
   simp only [Nat.add_zero, List.getElem_cons_zero] at c0
   clear g'
   have hrl : rest.length ≤ 100000 := by have h := HX.out.2.2.2.2.2.1; have h' := HX.out.2.2.2.2.2.2.1; unfold far at h; simp only [List.length_cons] at h; omega
   have HRL := Lib.hid hrl
   have hpos : (0 : Int) < (rest.length : Int) + 1 := by omega
   simp only [List.length_cons] at h3
   go_wp2_with fail
   have HB1 := Lib.hid (Gro.low HX.out.1 BB.out BB.out.size HC.out.2.2.1)
   refine (step_calls k' A c ns m r bk w0 _ part rest b off s3 HB1.out HC.out.2.2.1 HX.out.2.1 HD0.out HC.out.1 HC.out.2.1 h3 HX.out.2.2.2.1 HRL.out (HC.out.2.2.2.1 _) (HC.out.2.2.2.2.1 _ _) HX.out.2.2.2.2.1 HC.out.2.2.2.2.2).mono ?_
   rintro e w2 h
   have h := StepR.plain h
   obtain ⟨n, rfl⟩ : ∃ n', n = n' + 1 := ⟨n - 1, by have := HX.out.2.2.2.2.2.1; unfold far at this; rw [if_neg hov] at this; omega⟩
   have hgo : goF (n + 1) ns k' (part :: rest) = if (stepF ns k' part rest).1 = 0 then goF n ns (stepF ns k' part rest).2.1 (stepF ns k' part rest).2.2 else ((stepF ns k' part rest).1, (stepF ns k' part rest).2.1) := by
    show (if k'.over = true then _ else _) = _
    rw [if_neg hov]
   have HG := Lib.hid hgo
   unfold EndR at h
   clear hgo hpos
   by_cases h0 : (stepF ns k' part rest).1 = 0
   ·rw [if_pos h0] at h
    obtain ⟨g1, rfl, v, g2, s', hv', g3⟩ := h
    have hfs := far_step ns k' part rest hov0 HX.out.2.2.2.2.1 HC.out.2.2.2.2.2 h0
    have HY := Lib.hid (And.intro g1 (And.intro g2 (And.intro g3 (And.intro h0 (And.intro hfs hv')))))
    clear g1 g2 g3 h0 hfs ik rk hv' c0
    go_wp2_with fail
    go_roundw
    case rel =>
     obtain ⟨g1, g2, g3, h0, hfs, hv'⟩ := HY.out
     refine ⟨n, { (stepF ns k' part rest).2.1 with parts := v }, s', (stepF ns k' part rest).2.2, Gro.trans HX.out.1 g1, g2, hv', g3, hfs.2.1, ?_, by have := HX.out.2.2.2.2.2.2.1; omega, hfs.2.2, ?_, ?_⟩
     ·have := HX.out.2.2.2.2.2.1
      have e2 : far { (stepF ns k' part rest).2.1 with parts := v } (stepF ns k' part rest).2.2 = far (stepF ns k' part rest).2.1 (stepF ns k' part rest).2.2 := rfl
      omega
     ·have := HX.out.2.2.2.2.2.2.2.2.1
      rw [HG.out, if_pos h0] at this
      rw [goF_parts]; exact this
     ·intro v2
      have := HX.out.2.2.2.2.2.2.2.2.2 v2
      rw [HG.out, if_pos h0] at this
      rw [goF_parts]; exact this
    case measure =>
     obtain ⟨g1, g2, g3, h0, hfs, hv'⟩ := HY.out
     rw [farW_eq g2 s' _ hv', farW_eq HX.out.2.1 ⟨some ⟨b, off, none⟩, s3⟩ _ HX.out.2.2.1]
     exact hfs.1
   ·rw [if_neg h0] at h
    obtain ⟨g1, p, rfl, hpb⟩ := h
    have HY := Lib.hid (And.intro g1 (And.intro hpb h0))
    clear g1 hpb h0 ik rk c0
    go_wp2_with fail
    go_ret
    obtain ⟨g1, hpb, h0⟩ := HY.out
    have x9 := HX.out.2.2.2.2.2.2.2.2.1
    rw [HG.out, if_neg h0] at x9
    simp only at x9
    refine ⟨(Gro.trans HX.out.1 g1).alloc _, _, rfl, .inr ⟨by rw [← x9]; exact h0, p, by rw [← x9]; exact hpb.step ((Below.refl _ _).alloc (Nat.le_refl _) _), .inr ⟨_, part, rfl, ⟨_, blk_new _ rfl⟩⟩⟩, fun h => absurd (x9.trans h) h0⟩
theorem all_calls (k : Wk) (A : Option Addr) (c : Nat) (ns : List S48) (m r : Int) (bk : Nat) (w0 w : World) (s : Sl) (ps : List ByteArray) (hB : Below w0.heap.size w0 w) (hbk : w0.heap.size ≤ bk) (hk : Wb w bk k A c ns.length m r) (hd : Dk w0 A ns) (hc : ns.length ≤ c) (hl : ns.length ≤ 1000000) (hv : k.parts = .slice s.a ps.length s.c) (hp : rStr.Is w (But w bk) s ps) (hf7 : ∀ i, (getL ns i).f7.length ≤ 1000000) (hso : ∀ i part, Sorted57 (getL ns i).f7 part) (htx : ∀ i, (getL ns i).f6.size ≤ 1000) (hh : 0 ≤ k.hops ∧ k.hops ≤ 8) (hfar : far k ps ≤ 10000) (hov : k.over = false) :
  Calls Tryd.prog 23 #[.pointer (some ⟨bk, 0, none⟩)] w (AllR (allF ns k ps) A c ns.length m r bk w) := by
 unfold allF
 by_cases h : ps = []
 ·rw [if_pos h]; exact all_none k A c ns m r bk w0 w s ps hB hbk hk hd hc hl hv hp h
 ·rw [if_neg h]; exact all_some k A c ns m r bk w0 w s ps hB hbk hk hd hc hl hv hp h hf7 hso htx hh hfar hov
end Go.Proofs.YthagmakojbfmaaaDoor.Ext
