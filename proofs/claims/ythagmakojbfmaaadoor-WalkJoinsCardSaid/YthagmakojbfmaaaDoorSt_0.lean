/- The walker: a step over one part. -/
import Derived.Test.YthagmakojbfmaaaDoorSt1
set_option linter.unusedVariables false
set_option linter.unusedSimpArgs false
namespace Go.Proofs.YthagmakojbfmaaaDoor.Ext
open Go Go.RowKit Go.Proofs.YthagmakojbfmaaaDoor Go.Proofs.YthagmakojbfmaaaDoorW.PrintWords
attribute [local go_sem] isRow_drew row_drew isRow_drewN row_drewN cell_isRow rowSz_isRow isHead_ptr blockOf_ptr row_alloc isRow_alloc rowSz_alloc setRow_alloc isRow_setRow isRow_setCell isRow_frozen setCell_setRow_same setCell_setRow_other cell_setRow_same' cell_setRow_other' frozen_setRow' row_setRow_same row_setRow_other rowSz_setRow_same rowSz_setRow_other setRow_setRow_same' setRow_comm' ne_l2 ne_r2 ne_l3 ne_r3 ne_l4 ne_r4 ne_l5 ne_r5 ne_l6 ne_r6 ne_l7 ne_r7 ne_l8 ne_r8 wk_len row_setCell_same
attribute [local go_sem ↓] ldx_48
attribute [local go_sem ↓] Go.wp_at_zero Go.wp_at_succ
set_option maxRecDepth 100000 in
set_option maxHeartbeats 4000000 in
theorem step_3a (k : Wk) (A : Option Addr) (c : Nat) (ns : List S48) (m r : Int) (bk : Nat) (w0 w : World) (part : ByteArray) (rest : List ByteArray) (b off cp : Nat) (hB : Below w0.heap.size w0 w) (hbk : w0.heap.size ≤ bk) (hk : Wb w bk k A c ns.length m r) (hd : Dk w0 A ns) (hc : ns.length ≤ c) (hl : ns.length ≤ 1000000) (hv : k.parts = .slice (some ⟨b, off, none⟩) (rest.length + 1) cp) (hp : Pts w bk ⟨some ⟨b, off, none⟩, cp⟩ (part :: rest)) (hrl : rest.length ≤ 100000) (ino : Int) (he : hereB ns k.at_ = 0) (hm : mayB (getL ns k.at_).f1 (getL ns k.at_).f2 k.who 1 = true) (hin : namedB k.at_ (getL ns k.at_) part = ino) (hf7 : (getL ns k.at_).f7.length ≤ 1000000) (hso : Sorted57 (getL ns k.at_).f7 part) (hh : 0 ≤ k.hops ∧ k.hops ≤ 8) (htx : (getL ns ino).f6.size ≤ 1000) (hlast : rest = []) (hcp : cp = 1) (hi : ino = -1) :
  Calls Tryd.prog 40 #[.pointer (some ⟨bk, 0, none⟩)] w (GoR bk (k.ended ⟨k.at_, part, -1, k.slash⟩) [part] A c ns.length m r w) := by
 have BB := Lib.hid hB
 have Hk := Lib.hid hk.box
 have HWb := Lib.hid hk
 have HD := Lib.hid (hd.step hB)
 have HD0 := Lib.hid hd
 have HL := Lib.hid (And.intro hc (And.intro hl (And.intro hrl hbk)))
 have HP := Lib.hid hp
 have HS := Lib.hid (show Since w w from Below.refl _ w)
 clear hB hk hd hc hl hp hrl hbk
 subst hlast
 subst hcp
 have HQ := Lib.hid (And.intro he (And.intro hm hin))
 have HF := Lib.hid (And.intro hf7 hso)
 have HH := Lib.hid (And.intro hh htx)
 have HC := Lib.hid (And.intro hi trivial)
 clear he hm hin hf7 hso hh htx hi
 have hw := wk_eq
 obtain ⟨ik, rk, lk, nk, mk⟩ := boxAll Hk.out
 go_enter Tryd.func40, Tryd.ntmps40
 go_wp2_with fail
 refine Calls.at_ fun W hW => ?_
 have B0 : Below w.heap.size w W := by rw [hW]; repeat' (first | with_reducible refine Below.alloc ?_ ?_ _ | with_reducible refine Below.setRow_ ?_ ?_ _ | with_reducible refine Below.setCell ?_ ?_ _ | with_reducible refine Below.drew ?_ | with_reducible refine Below.drewN_ ?_ _ | with_reducible exact Below.refl _ _ | assumption | (simp; done) | (simp; omega) | omega)
 clear hW
 refine (here_calls k A c ns m r bk W (Hk.out.step B0) (HD.out.step B0) HL.out.1 HL.out.2.1).mono ?_
 rintro e w1 h
 obtain ⟨hb, A7, c7, ev, rfl, h7, hE, hEr⟩ := (show HereR ns k.at_ W e w1 from h)
 rcases hEr with ⟨_, rfl⟩ | ⟨h0, _⟩
 case inr => exact absurd HQ.out.1 h0
 have h7' := Lib.hid h7
 clear h7
 have hE2 := Es.step hE hb
 have C := B0.trans (hb.mono B0.size)
 replace BB := Lib.hid (BB.out.trans (C.mono BB.out.size))
 replace HWb := Lib.hid (HWb.out.step C)
 replace HD := Lib.hid (HD.out.step C)
 replace HP := Lib.hid (HP.out.step C)
 replace HS := Lib.hid (HS.out.step C)
 try clear ik rk lk nk mk
 replace Hk := Lib.hid (Hk.out.step C)
 obtain ⟨ik, rk, lk, nk, mk⟩ := boxAll Hk.out
 have HE := Lib.hid hE2
 clear h hb C B0 W hE2 hE
 unfold nodeV
 go_wp2_with (first | (apply ld_row 48 8; (focus rfl); (focus go_simp); (focus (go_simp; rfl)); (focus (exact Tryd.underlying48)); (focus kernel_rfl)) | (apply st_row 48 8; (focus rfl); (focus rfl); (focus go_simp); (focus kernel_rfl); (focus rfl); (focus (first | (simp [Value.oneCell']; done) | (simp [Value.oneCell', Job.cells]; done)))) | fail)
 refine Code.at_ fun v2 hW => ?_
 have B0 : Below w1.heap.size w1 v2 := by rw [hW]; repeat' (first | with_reducible refine Below.alloc ?_ ?_ _ | with_reducible refine Below.setRow_ ?_ ?_ _ | with_reducible refine Below.setCell ?_ ?_ _ | with_reducible refine Below.drew ?_ | with_reducible refine Below.drewN_ ?_ _ | with_reducible exact Below.refl _ _ | assumption | (simp; done) | (simp; omega) | omega)
 have Hz := Lib.hid (show Box v2 (w1.heap.size) #[.int .i64 (getL ns k.at_).f0, .int .i64 (getL ns k.at_).f1, .int .i64 (getL ns k.at_).f2, .int .i64 (getL ns k.at_).f3, .int .i64 (getL ns k.at_).f4, .int .i64 (getL ns k.at_).f5, .string (getL ns k.at_).f6, .slice A7 (getL ns k.at_).f7.length c7] from ⟨_, by rw [hW]; (try rw [setRow_alloc, if_pos rfl]); exact blk_new _ (by first | rfl | simp)⟩)
 clear hW
 have C := B0
 replace BB := Lib.hid (BB.out.trans (C.mono BB.out.size))
 replace HWb := Lib.hid (HWb.out.step C)
 replace HD := Lib.hid (HD.out.step C)
 replace HP := Lib.hid (HP.out.step C)
 replace HS := Lib.hid (HS.out.step C)
 replace HE := Lib.hid (HE.out.step C)
 try clear ik rk lk nk mk
 replace Hk := Lib.hid (Hk.out.step C)
 obtain ⟨bz, hbz⟩ : ∃ b, b = w1.heap.size := ⟨_, rfl⟩
 rw [← hbz] at Hz ⊢
 clear hbz
 clear C B0
 have S0 : (isRow v2 bk = true ∧ isRow v2 bz = true) ∧ row v2 bk = (k.cells A c ns.length m r) ∧ row v2 bz = #[.int .i64 (getL ns k.at_).f0, .int .i64 (getL ns k.at_).f1, .int .i64 (getL ns k.at_).f2, .int .i64 (getL ns k.at_).f3, .int .i64 (getL ns k.at_).f4, .int .i64 (getL ns k.at_).f5, .string (getL ns k.at_).f6, .slice A7 (getL ns k.at_).f7.length c7] := ⟨⟨Hk.out.isRow, Hz.out.isRow⟩, Hk.out.row, Hz.out.row⟩
 refine reg0 10 (fun w' => (isRow w' bk = true ∧ isRow w' bz = true) ∧ row w' bk = (k.cells A c ns.length m r) ∧ row w' bz = #[.int .i64 (getL ns k.at_).f0, .int .i64 (getL ns k.at_).f1, .int .i64 (getL ns k.at_).f2, .int .i64 (getL ns k.at_).f3, .int .i64 (getL ns k.at_).f4, .int .i64 (getL ns k.at_).f5, .string (getL ns k.at_).f6, .slice A7 (getL ns k.at_).f7.length c7]) (by kernel_rfl) (by kernel_rfl) (by kernel_rfl) ?_ (fun l hg hHeld => ?_)
 ·(try dsimp only); exact S0
 (apply tkT 0 1 hg; (focus rfl); (focus rfl); (focus kernel_rfl); (focus (intro w0 hSw; (try dsimp only at hSw); go_simp; try (with_reducible rfl))); (focus assumption))
 try simp only [zP, zA, zZ, zS]
 (apply tkT 1 3 hg; (focus rfl); (focus rfl); (focus kernel_rfl); (focus (intro w0 hSw; (try dsimp only at hSw); go_simp; try (with_reducible rfl))); (focus assumption))
 try simp only [zP, zA, zZ, zS]
 (apply tkT 2 7 hg; (focus rfl); (focus rfl); (focus kernel_rfl); (focus (intro w0 hSw; (try dsimp only at hSw); go_simp; try (with_reducible rfl))); (focus assumption))
 try simp only [zP, zA, zZ, zS]
 (apply tkT 3 15 hg; (focus rfl); (focus rfl); (focus kernel_rfl); (focus (intro w0 hSw; (try dsimp only at hSw); go_simp; try (with_reducible rfl))); (focus assumption))
 try simp only [zP, zA, zZ, zS]
 (apply tkT 4 31 hg; (focus rfl); (focus rfl); (focus kernel_rfl); (focus (intro w0 hSw; (try dsimp only at hSw); go_simp; try (with_reducible rfl))); (focus assumption))
 try simp only [zP, zA, zZ, zS]
 (apply tkT 5 63 hg; (focus rfl); (focus rfl); (focus kernel_rfl); (focus (intro w0 hSw; (try dsimp only at hSw); go_simp; try (with_reducible rfl))); (focus assumption))
 try simp only [zP, zA, zZ, zS]
 (apply tkT 6 127 hg; (focus rfl); (focus rfl); (focus kernel_rfl); (focus (intro w0 hSw; (try dsimp only at hSw); go_simp; try (with_reducible rfl))); (focus assumption))
 try simp only [zP, zA, zZ, zS]
 (apply tkT 7 255 hg; (focus rfl); (focus rfl); (focus kernel_rfl); (focus (intro w0 hSw; (try dsimp only at hSw); go_simp; try (with_reducible rfl))); (focus assumption))
 try simp only [zP, zA, zZ, zS]
 (apply act1 8 511 hg; (focus rfl); (focus rfl); (focus kernel_rfl))
 intro K hK
 go_simp
 refine (may_calls _ _ _ _ _).mono ?_
 rintro e u ⟨rfl, rfl⟩
 rw [HQ.out.2.1]
 refine hK.out _ _ ?_ (fun hHeld => ?_)
 ·(try dsimp only); exact S0
 clear hK K
 try simp only [zP, zA, zZ, zS]
 (apply tkT 9 1023 hg; (focus rfl); (focus rfl); (focus kernel_rfl); (focus (intro w0 hSw; (try dsimp only at hSw); go_simp; try (with_reducible rfl))); (focus assumption))
 try simp only [zP, zA, zZ, zS]
 refine actE hg (by kernel_rfl) ?_
 clear S0
 go_wp2_with fail
 refine Code.at_ fun v3 hW => ?_
 have B0 : Below v2.heap.size v2 v3 := by rw [hW]; repeat' (first | with_reducible refine Below.alloc ?_ ?_ _ | with_reducible refine Below.setRow_ ?_ ?_ _ | with_reducible refine Below.setCell ?_ ?_ _ | with_reducible refine Below.drew ?_ | with_reducible refine Below.drewN_ ?_ _ | with_reducible exact Below.refl _ _ | assumption | (simp; done) | (simp; omega) | omega)
 clear hW
 have C := B0
 replace BB := Lib.hid (BB.out.trans (C.mono BB.out.size))
 replace HWb := Lib.hid (HWb.out.step C)
 replace HD := Lib.hid (HD.out.step C)
 replace HP := Lib.hid (HP.out.step C)
 replace HS := Lib.hid (HS.out.step C)
 replace HE := Lib.hid (HE.out.step C)
 try clear ik rk lk nk mk
 replace Hk := Lib.hid (Hk.out.step C)
 try clear iz rz lz nz mz
 replace Hz := Lib.hid (Hz.out.step C)
 clear C B0
 obtain ⟨b', off', e', g', c0⟩ := HP.out.2.str 0 (by simp)
 cases e'
 simp only [Nat.add_zero, List.getElem_cons_zero] at c0
 clear g'
 have S0 : (isRow v3 bk = true ∧ row v3 bk = (k.cells A c ns.length m r)) ∧ v3.cell? ⟨b, off, none⟩ = some (.string part) := ⟨⟨Hk.out.isRow, Hk.out.row⟩, c0⟩
 refine reg0 13 (fun w' => (isRow w' bk = true ∧ row w' bk = (k.cells A c ns.length m r)) ∧ w'.cell? ⟨b, off, none⟩ = some (.string part)) (by kernel_rfl) (by kernel_rfl) (by kernel_rfl) ?_ (fun l hg hHeld => ?_)
 ·(try dsimp only); exact S0
 (apply tkT 0 1 hg; (focus rfl); (focus rfl); (focus kernel_rfl); (focus (intro w0 hSw; (try dsimp only at hSw); go_simp; try (with_reducible rfl))); (focus assumption))
 try simp only [zP, zA, zZ, zS]
 (apply tkT 1 3 hg; (focus rfl); (focus rfl); (focus kernel_rfl); (focus (intro w0 hSw; (try dsimp only at hSw); go_simp; try (with_reducible rfl))); (focus assumption))
 try simp only [zP, zA, zZ, zS]
 (apply tkT 2 7 hg; (focus rfl); (focus rfl); (focus kernel_rfl); (focus (intro w0 hSw; (try dsimp only at hSw); go_simp; try (with_reducible rfl))); (focus assumption))
 try simp only [zP, zA, zZ, zS]
 (apply tkT 3 15 hg; (focus rfl); (focus rfl); (focus kernel_rfl); (focus (intro w0 hSw; (try dsimp only at hSw); go_simp; try (with_reducible rfl))); (focus assumption))
 try simp only [zP, zA, zZ, zS]
 (apply tkT 4 31 hg; (focus rfl); (focus rfl); (focus kernel_rfl); (focus (intro w0 hSw; (try dsimp only at hSw); go_simp; try (with_reducible rfl))); (focus assumption))
 try simp only [zP, zA, zZ, zS]
 (apply tkT 5 63 hg; (focus rfl); (focus rfl); (focus kernel_rfl); (focus (intro w0 hSw; (try dsimp only at hSw); go_simp; try (with_reducible rfl))); (focus assumption))
 try simp only [zP, zA, zZ, zS]
 (apply tkT 6 127 hg; (focus rfl); (focus rfl); (focus kernel_rfl); (focus (intro w0 hSw; (try dsimp only at hSw); go_simp; try (with_reducible rfl))); (focus assumption))
 try simp only [zP, zA, zZ, zS]
 (apply tkT 7 255 hg; (focus rfl); (focus rfl); (focus kernel_rfl); (focus (intro w0 hSw; (try dsimp only at hSw); go_simp; try (with_reducible rfl))); (focus assumption))
 try simp only [zP, zA, zZ, zS]
 (apply tkT 8 511 hg; (focus rfl); (focus rfl); (focus kernel_rfl); (focus (intro w0 hSw; (try dsimp only at hSw); go_simp; try (with_reducible rfl))); (focus assumption))
 try simp only [zP, zA, zZ, zS]
 (apply tkT 9 1023 hg; (focus rfl); (focus rfl); (focus kernel_rfl); (focus (intro w0 hSw; (try dsimp only at hSw); go_simp; try (with_reducible rfl))); (focus assumption))
 try simp only [zP, zA, zZ, zS]
 (apply tkT 10 2047 hg; (focus rfl); (focus rfl); (focus kernel_rfl); (focus (intro w0 hSw; (try dsimp only at hSw); go_simp; try (with_reducible rfl))); (focus assumption))
 try simp only [zP, zA, zZ, zS]
 (apply tkT 11 4095 hg; (focus rfl); (focus rfl); (focus kernel_rfl); (focus (intro w0 hSw; (try dsimp only at hSw); go_simp; try (with_reducible rfl))); (focus assumption))
 try simp only [zP, zA, zZ, zS]
 (apply tkT 12 8191 hg; (focus rfl); (focus rfl); (focus kernel_rfl); (focus (intro w0 hSw; (try dsimp only at hSw); go_simp; try (with_reducible rfl))); (focus assumption))
 try simp only [zP, zA, zZ, zS]
 refine actE hg (by kernel_rfl) ?_
 clear S0 c0
 obtain ⟨ik, rk, lk, nk, mk⟩ := boxAll Hk.out
 obtain ⟨iz, rz, lz, nz, mz⟩ := boxAll Hz.out
 have HR := Lib.hid (show Pts v3 bk ⟨some ⟨b, off, none⟩, 0⟩ [] from Pts.none_left)
 go_wp2_with fail
 refine Calls.at_ fun W hW => ?_
 have B0 : Below v3.heap.size v3 W := by rw [hW]; repeat' (first | with_reducible refine Below.alloc ?_ ?_ _ | with_reducible refine Below.setRow_ ?_ ?_ _ | with_reducible refine Below.setCell ?_ ?_ _ | with_reducible refine Below.drew ?_ | with_reducible refine Below.drewN_ ?_ _ | with_reducible exact Below.refl _ _ | assumption | (simp; done) | (simp; omega) | omega)
 clear hW
 refine (named_calls k A c ns.length m r bk (getL ns k.at_) A7 c7 part W (HWb.out.step B0) (HE.out.step B0) h7'.out HF.out.1 HF.out.2).mono ?_
 rintro e w4 h
 have h' := h
 obtain ⟨rfl, hb⟩ := h'
 rw [HQ.out.2.2]
 have C := B0.trans (hb.mono B0.size)
 replace BB := Lib.hid (BB.out.trans (C.mono BB.out.size))
 replace HWb := Lib.hid (HWb.out.step C)
 replace HD := Lib.hid (HD.out.step C)
 replace HP := Lib.hid (HP.out.step C)
 replace HS := Lib.hid (HS.out.step C)
 replace HE := Lib.hid (HE.out.step C)
 replace HR := Lib.hid (HR.out.step C)
 try clear ik rk lk nk mk
 replace Hk := Lib.hid (Hk.out.step C)
 try clear iz rz lz nz mz
 replace Hz := Lib.hid (Hz.out.step C)
 obtain ⟨ik, rk, lk, nk, mk⟩ := boxAll Hk.out
 obtain ⟨iz, rz, lz, nz, mz⟩ := boxAll Hz.out
 clear h hb C B0 W
 go_wp2_with fail
 refine Calls.at_ fun W hW => ?_
 have B0 : Below w4.heap.size w4 W := by rw [hW]; repeat' (first | with_reducible refine Below.alloc ?_ ?_ _ | with_reducible refine Below.setRow_ ?_ ?_ _ | with_reducible refine Below.setCell ?_ ?_ _ | with_reducible refine Below.drew ?_ | with_reducible refine Below.drewN_ ?_ _ | with_reducible exact Below.refl _ _ | assumption | (simp; done) | (simp; omega) | omega)
 clear hW
 refine (get_calls A c ns m r ino w0 W (BB.out.trans (B0.mono BB.out.size)) HD0.out HL.out.1 HL.out.2.1).mono ?_
 rintro e w5 h
 have h' := h
 obtain ⟨A8, c8, rfl, h8_, hE8, hb⟩ := h'
 have C := B0.trans (hb.mono B0.size)
 replace BB := Lib.hid (BB.out.trans (C.mono BB.out.size))
 replace HWb := Lib.hid (HWb.out.step C)
 replace HD := Lib.hid (HD.out.step C)
 replace HP := Lib.hid (HP.out.step C)
 replace HS := Lib.hid (HS.out.step C)
 replace HE := Lib.hid (HE.out.step C)
 replace HR := Lib.hid (HR.out.step C)
 try clear ik rk lk nk mk
 replace Hk := Lib.hid (Hk.out.step C)
 try clear iz rz lz nz mz
 replace Hz := Lib.hid (Hz.out.step C)
 obtain ⟨ik, rk, lk, nk, mk⟩ := boxAll Hk.out
 obtain ⟨iz, rz, lz, nz, mz⟩ := boxAll Hz.out
 clear h hb C B0 W h8_ hE8
 unfold nodeV
 have hi : (ino == -1) = true := by rw [HC.out.1]; rfl
 go_wp2_with (first | (apply ld_row 48 8; (focus rfl); (focus go_simp); (focus (go_simp; rfl)); (focus (exact Tryd.underlying48)); (focus kernel_rfl)) | (apply st_row 48 8; (focus rfl); (focus rfl); (focus go_simp); (focus kernel_rfl); (focus rfl); (focus (first | (simp [Value.oneCell']; done) | (simp [Value.oneCell', Job.cells]; done)))) | fail)
 try clear hi
 try clear hk3
 try clear hk2
 try clear hf
 try clear hs
 refine Code.at_ fun v6 hW => ?_
 have B0 : Below w5.heap.size w5 v6 := by rw [hW]; repeat' (first | with_reducible refine Below.alloc ?_ ?_ _ | with_reducible refine Below.setRow_ ?_ ?_ _ | with_reducible refine Below.setCell ?_ ?_ _ | with_reducible refine Below.drew ?_ | with_reducible refine Below.drewN_ ?_ _ | with_reducible exact Below.refl _ _ | assumption | (simp; done) | (simp; omega) | omega)
 clear hW
 have C := B0
 replace BB := Lib.hid (BB.out.trans (C.mono BB.out.size))
 replace HWb := Lib.hid (HWb.out.step C)
 replace HD := Lib.hid (HD.out.step C)
 replace HP := Lib.hid (HP.out.step C)
 replace HS := Lib.hid (HS.out.step C)
 replace HE := Lib.hid (HE.out.step C)
 replace HR := Lib.hid (HR.out.step C)
 try clear ik rk lk nk mk
 replace Hk := Lib.hid (Hk.out.step C)
 try clear iz rz lz nz mz
 replace Hz := Lib.hid (Hz.out.step C)
 clear C B0
 have c4 : v6.cell? ⟨bk, 4, none⟩ = some (.int .i64 k.at_) := block_cell HWb.out 4
 have c7_ : v6.cell? ⟨bk, 7, none⟩ = some (.bool k.slash) := block_cell HWb.out 7
 have S0 := And.intro Hk.out.isRow (And.intro c4 c7_)
 refine reg0 12 (fun w' => isRow w' bk = true ∧ w'.cell? ⟨bk, 4, none⟩ = some (.int .i64 k.at_) ∧ w'.cell? ⟨bk, 7, none⟩ = some (.bool k.slash)) (by kernel_rfl) (by kernel_rfl) (by kernel_rfl) ?_ (fun l hg hHeld => ?_)
 ·(try dsimp only); (first | exact S1 | exact S0)
 (apply tkT 0 1 hg; (focus rfl); (focus rfl); (focus kernel_rfl); (focus (intro w0 hSw; (try dsimp only at hSw); go_simp; try (with_reducible rfl))); (focus assumption))
 try simp only [zP, zA, zZ, zS]
 (apply tkT 1 3 hg; (focus rfl); (focus rfl); (focus kernel_rfl); (focus (intro w0 hSw; (try dsimp only at hSw); go_simp; try (with_reducible rfl))); (focus assumption))
 try simp only [zP, zA, zZ, zS]
 (apply tkT 2 7 hg; (focus rfl); (focus rfl); (focus kernel_rfl); (focus (intro w0 hSw; (try dsimp only at hSw); go_simp; try (with_reducible rfl))); (focus assumption))
 try simp only [zP, zA, zZ, zS]
 (apply tkT 3 15 hg; (focus rfl); (focus rfl); (focus kernel_rfl); (focus (intro w0 hSw; (try dsimp only at hSw); go_simp; try (with_reducible rfl))); (focus assumption))
 try simp only [zP, zA, zZ, zS]
 (apply tkT 4 31 hg; (focus rfl); (focus rfl); (focus kernel_rfl); (focus (intro w0 hSw; (try dsimp only at hSw); go_simp; try (with_reducible rfl))); (focus assumption))
 try simp only [zP, zA, zZ, zS]
 (apply tkT 5 63 hg; (focus rfl); (focus rfl); (focus kernel_rfl); (focus (intro w0 hSw; (try dsimp only at hSw); go_simp; try (with_reducible rfl))); (focus assumption))
 try simp only [zP, zA, zZ, zS]
 (apply tkT 6 127 hg; (focus rfl); (focus rfl); (focus kernel_rfl); (focus (intro w0 hSw; (try dsimp only at hSw); go_simp; try (with_reducible rfl))); (focus assumption))
 try simp only [zP, zA, zZ, zS]
 (apply tkT 7 255 hg; (focus rfl); (focus rfl); (focus kernel_rfl); (focus (intro w0 hSw; (try dsimp only at hSw); go_simp; try (with_reducible rfl))); (focus assumption))
 try simp only [zP, zA, zZ, zS]
 (apply tkT 8 511 hg; (focus rfl); (focus rfl); (focus kernel_rfl); (focus (intro w0 hSw; (try dsimp only at hSw); go_simp; try (with_reducible rfl))); (focus assumption))
 try simp only [zP, zA, zZ, zS]
 (apply tkT 9 1023 hg; (focus rfl); (focus rfl); (focus kernel_rfl); (focus (intro w0 hSw; (try dsimp only at hSw); go_simp; try (with_reducible rfl))); (focus assumption))
 try simp only [zP, zA, zZ, zS]
 (apply tkT 10 2047 hg; (focus rfl); (focus rfl); (focus kernel_rfl); (focus (intro w0 hSw; (try dsimp only at hSw); go_simp; try (with_reducible rfl))); (focus assumption))
 try simp only [zP, zA, zZ, zS]
 (apply act1 11 4095 hg; (focus rfl); (focus rfl); (focus kernel_rfl))
 intro K hK
 go_simp
 refine (end2_calls k A c ns.length m r bk ⟨k.at_, part, (-1), k.slash⟩ _ (HWb.out.step (Below.refl _ _).drew)).mono ?_
 rintro e u5 ⟨rfl, h5, g5⟩
 have S1 := And.intro h5.box.isRow (And.intro (show u5.cell? ⟨bk, 4, none⟩ = some (.int .i64 k.at_) from block_cell h5 4) (show u5.cell? ⟨bk, 7, none⟩ = some (.bool k.slash) from block_cell h5 7))
 refine hK.out _ _ ?_ (fun hHeld => ?_)
 ·(try dsimp only); (first | exact S1 | exact S0)
 clear hK K
 try simp only [zP, zA, zZ, zS]
 refine actE hg (by kernel_rfl) ?_
 have H5 := Lib.hid (And.intro h5 (Gro.trans (Gro.of_below (HS.out.step (Below.refl _ _).drew)) g5))
 have GP := Lib.hid (Gro.trans (Gro.of_below (Below.refl _ v6).drew) g5)
 have i5 := h5.box.isRow; have r5 := h5.box.row
 clear S0 S1 c4 c7_ h5 g5
 clear i5 r5
 go_wp2_with fail
 go_ret
 exact ⟨H5.out.2, rfl, k.parts, H5.out.1, ⟨⟨some ⟨b, off, none⟩, 1⟩, hv, Pts.gro HP.out GP.out⟩⟩
set_option maxRecDepth 100000 in
set_option maxHeartbeats 4000000 in
theorem step_3b (k : Wk) (A : Option Addr) (c : Nat) (ns : List S48) (m r : Int) (bk : Nat) (w0 w : World) (part : ByteArray) (rest : List ByteArray) (b off cp : Nat) (hB : Below w0.heap.size w0 w) (hbk : w0.heap.size ≤ bk) (hk : Wb w bk k A c ns.length m r) (hd : Dk w0 A ns) (hc : ns.length ≤ c) (hl : ns.length ≤ 1000000) (hv : k.parts = .slice (some ⟨b, off, none⟩) (rest.length + 1) cp) (hp : Pts w bk ⟨some ⟨b, off, none⟩, cp⟩ (part :: rest)) (hrl : rest.length ≤ 100000) (ino : Int) (he : hereB ns k.at_ = 0) (hm : mayB (getL ns k.at_).f1 (getL ns k.at_).f2 k.who 1 = true) (hin : namedB k.at_ (getL ns k.at_) part = ino) (hf7 : (getL ns k.at_).f7.length ≤ 1000000) (hso : Sorted57 (getL ns k.at_).f7 part) (hh : 0 ≤ k.hops ∧ k.hops ≤ 8) (htx : (getL ns ino).f6.size ≤ 1000) (hlast : rest = []) (hcp : ¬ cp = 1) (hi : ino = -1) :
  Calls Tryd.prog 40 #[.pointer (some ⟨bk, 0, none⟩)] w (GoR bk (k.ended ⟨k.at_, part, -1, k.slash⟩) [part] A c ns.length m r w) := by
 have BB := Lib.hid hB
 have Hk := Lib.hid hk.box
 have HWb := Lib.hid hk
 have HD := Lib.hid (hd.step hB)
 have HD0 := Lib.hid hd
 have HL := Lib.hid (And.intro hc (And.intro hl (And.intro hrl hbk)))
 have HP := Lib.hid hp
 have HS := Lib.hid (show Since w w from Below.refl _ w)
 clear hB hk hd hc hl hp hrl hbk
 subst hlast
 have HQ := Lib.hid (And.intro he (And.intro hm hin))
 have HF := Lib.hid (And.intro hf7 hso)
 have HH := Lib.hid (And.intro hh htx)
 have HC := Lib.hid (And.intro hi trivial)
 clear he hm hin hf7 hso hh htx hi
 have hw := wk_eq
 obtain ⟨ik, rk, lk, nk, mk⟩ := boxAll Hk.out
 go_enter Tryd.func40, Tryd.ntmps40
 go_wp2_with fail
 refine Calls.at_ fun W hW => ?_
 have B0 : Below w.heap.size w W := by rw [hW]; repeat' (first | with_reducible refine Below.alloc ?_ ?_ _ | with_reducible refine Below.setRow_ ?_ ?_ _ | with_reducible refine Below.setCell ?_ ?_ _ | with_reducible refine Below.drew ?_ | with_reducible refine Below.drewN_ ?_ _ | with_reducible exact Below.refl _ _ | assumption | (simp; done) | (simp; omega) | omega)
 clear hW
 refine (here_calls k A c ns m r bk W (Hk.out.step B0) (HD.out.step B0) HL.out.1 HL.out.2.1).mono ?_
 rintro e w1 h
 obtain ⟨hb, A7, c7, ev, rfl, h7, hE, hEr⟩ := (show HereR ns k.at_ W e w1 from h)
 rcases hEr with ⟨_, rfl⟩ | ⟨h0, _⟩
 case inr => exact absurd HQ.out.1 h0
 have h7' := Lib.hid h7
 clear h7
 have hE2 := Es.step hE hb
 have C := B0.trans (hb.mono B0.size)
 replace BB := Lib.hid (BB.out.trans (C.mono BB.out.size))
 replace HWb := Lib.hid (HWb.out.step C)
 replace HD := Lib.hid (HD.out.step C)
 replace HP := Lib.hid (HP.out.step C)
 replace HS := Lib.hid (HS.out.step C)
 try clear ik rk lk nk mk
 replace Hk := Lib.hid (Hk.out.step C)
 obtain ⟨ik, rk, lk, nk, mk⟩ := boxAll Hk.out
 have HE := Lib.hid hE2
 clear h hb C B0 W hE2 hE
 unfold nodeV
 go_wp2_with (first | (apply ld_row 48 8; (focus rfl); (focus go_simp); (focus (go_simp; rfl)); (focus (exact Tryd.underlying48)); (focus kernel_rfl)) | (apply st_row 48 8; (focus rfl); (focus rfl); (focus go_simp); (focus kernel_rfl); (focus rfl); (focus (first | (simp [Value.oneCell']; done) | (simp [Value.oneCell', Job.cells]; done)))) | fail)
 refine Code.at_ fun v2 hW => ?_
 have B0 : Below w1.heap.size w1 v2 := by rw [hW]; repeat' (first | with_reducible refine Below.alloc ?_ ?_ _ | with_reducible refine Below.setRow_ ?_ ?_ _ | with_reducible refine Below.setCell ?_ ?_ _ | with_reducible refine Below.drew ?_ | with_reducible refine Below.drewN_ ?_ _ | with_reducible exact Below.refl _ _ | assumption | (simp; done) | (simp; omega) | omega)
 have Hz := Lib.hid (show Box v2 (w1.heap.size) #[.int .i64 (getL ns k.at_).f0, .int .i64 (getL ns k.at_).f1, .int .i64 (getL ns k.at_).f2, .int .i64 (getL ns k.at_).f3, .int .i64 (getL ns k.at_).f4, .int .i64 (getL ns k.at_).f5, .string (getL ns k.at_).f6, .slice A7 (getL ns k.at_).f7.length c7] from ⟨_, by rw [hW]; (try rw [setRow_alloc, if_pos rfl]); exact blk_new _ (by first | rfl | simp)⟩)
 clear hW
 have C := B0
 replace BB := Lib.hid (BB.out.trans (C.mono BB.out.size))
 replace HWb := Lib.hid (HWb.out.step C)
 replace HD := Lib.hid (HD.out.step C)
 replace HP := Lib.hid (HP.out.step C)
 replace HS := Lib.hid (HS.out.step C)
 replace HE := Lib.hid (HE.out.step C)
 try clear ik rk lk nk mk
 replace Hk := Lib.hid (Hk.out.step C)
 obtain ⟨bz, hbz⟩ : ∃ b, b = w1.heap.size := ⟨_, rfl⟩
 rw [← hbz] at Hz ⊢
 clear hbz
 clear C B0
 have S0 : (isRow v2 bk = true ∧ isRow v2 bz = true) ∧ row v2 bk = (k.cells A c ns.length m r) ∧ row v2 bz = #[.int .i64 (getL ns k.at_).f0, .int .i64 (getL ns k.at_).f1, .int .i64 (getL ns k.at_).f2, .int .i64 (getL ns k.at_).f3, .int .i64 (getL ns k.at_).f4, .int .i64 (getL ns k.at_).f5, .string (getL ns k.at_).f6, .slice A7 (getL ns k.at_).f7.length c7] := ⟨⟨Hk.out.isRow, Hz.out.isRow⟩, Hk.out.row, Hz.out.row⟩
 refine reg0 10 (fun w' => (isRow w' bk = true ∧ isRow w' bz = true) ∧ row w' bk = (k.cells A c ns.length m r) ∧ row w' bz = #[.int .i64 (getL ns k.at_).f0, .int .i64 (getL ns k.at_).f1, .int .i64 (getL ns k.at_).f2, .int .i64 (getL ns k.at_).f3, .int .i64 (getL ns k.at_).f4, .int .i64 (getL ns k.at_).f5, .string (getL ns k.at_).f6, .slice A7 (getL ns k.at_).f7.length c7]) (by kernel_rfl) (by kernel_rfl) (by kernel_rfl) ?_ (fun l hg hHeld => ?_)
 ·(try dsimp only); exact S0
 (apply tkT 0 1 hg; (focus rfl); (focus rfl); (focus kernel_rfl); (focus (intro w0 hSw; (try dsimp only at hSw); go_simp; try (with_reducible rfl))); (focus assumption))
 try simp only [zP, zA, zZ, zS]
 (apply tkT 1 3 hg; (focus rfl); (focus rfl); (focus kernel_rfl); (focus (intro w0 hSw; (try dsimp only at hSw); go_simp; try (with_reducible rfl))); (focus assumption))
 try simp only [zP, zA, zZ, zS]
 (apply tkT 2 7 hg; (focus rfl); (focus rfl); (focus kernel_rfl); (focus (intro w0 hSw; (try dsimp only at hSw); go_simp; try (with_reducible rfl))); (focus assumption))
 try simp only [zP, zA, zZ, zS]
 (apply tkT 3 15 hg; (focus rfl); (focus rfl); (focus kernel_rfl); (focus (intro w0 hSw; (try dsimp only at hSw); go_simp; try (with_reducible rfl))); (focus assumption))
 try simp only [zP, zA, zZ, zS]
 (apply tkT 4 31 hg; (focus rfl); (focus rfl); (focus kernel_rfl); (focus (intro w0 hSw; (try dsimp only at hSw); go_simp; try (with_reducible rfl))); (focus assumption))
 try simp only [zP, zA, zZ, zS]
 (apply tkT 5 63 hg; (focus rfl); (focus rfl); (focus kernel_rfl); (focus (intro w0 hSw; (try dsimp only at hSw); go_simp; try (with_reducible rfl))); (focus assumption))
 try simp only [zP, zA, zZ, zS]
 (apply tkT 6 127 hg; (focus rfl); (focus rfl); (focus kernel_rfl); (focus (intro w0 hSw; (try dsimp only at hSw); go_simp; try (with_reducible rfl))); (focus assumption))
 try simp only [zP, zA, zZ, zS]
 (apply tkT 7 255 hg; (focus rfl); (focus rfl); (focus kernel_rfl); (focus (intro w0 hSw; (try dsimp only at hSw); go_simp; try (with_reducible rfl))); (focus assumption))
 try simp only [zP, zA, zZ, zS]
 (apply act1 8 511 hg; (focus rfl); (focus rfl); (focus kernel_rfl))
 intro K hK
 go_simp
 refine (may_calls _ _ _ _ _).mono ?_
 rintro e u ⟨rfl, rfl⟩
 rw [HQ.out.2.1]
 refine hK.out _ _ ?_ (fun hHeld => ?_)
 ·(try dsimp only); exact S0
 clear hK K
 try simp only [zP, zA, zZ, zS]
 (apply tkT 9 1023 hg; (focus rfl); (focus rfl); (focus kernel_rfl); (focus (intro w0 hSw; (try dsimp only at hSw); go_simp; try (with_reducible rfl))); (focus assumption))
 try simp only [zP, zA, zZ, zS]
 refine actE hg (by kernel_rfl) ?_
 clear S0
 go_wp2_with fail
 refine Code.at_ fun v3 hW => ?_
 have B0 : Below v2.heap.size v2 v3 := by rw [hW]; repeat' (first | with_reducible refine Below.alloc ?_ ?_ _ | with_reducible refine Below.setRow_ ?_ ?_ _ | with_reducible refine Below.setCell ?_ ?_ _ | with_reducible refine Below.drew ?_ | with_reducible refine Below.drewN_ ?_ _ | with_reducible exact Below.refl _ _ | assumption | (simp; done) | (simp; omega) | omega)
 clear hW
 have C := B0
 replace BB := Lib.hid (BB.out.trans (C.mono BB.out.size))
 replace HWb := Lib.hid (HWb.out.step C)
 replace HD := Lib.hid (HD.out.step C)
 replace HP := Lib.hid (HP.out.step C)
 replace HS := Lib.hid (HS.out.step C)
 replace HE := Lib.hid (HE.out.step C)
 try clear ik rk lk nk mk
 replace Hk := Lib.hid (Hk.out.step C)
 try clear iz rz lz nz mz
 replace Hz := Lib.hid (Hz.out.step C)
 clear C B0
 obtain ⟨b', off', e', g', c0⟩ := HP.out.2.str 0 (by simp)
 cases e'
 simp only [Nat.add_zero, List.getElem_cons_zero] at c0
 clear g'
 have hcap : 1 ≤ cp := by have := HP.out.1; simpa using this
 have S0 : (isRow v3 bk = true ∧ row v3 bk = (k.cells A c ns.length m r)) ∧ v3.cell? ⟨b, off, none⟩ = some (.string part) := ⟨⟨Hk.out.isRow, Hk.out.row⟩, c0⟩
 refine reg0 13 (fun w' => (isRow w' bk = true ∧ row w' bk = (k.cells A c ns.length m r)) ∧ w'.cell? ⟨b, off, none⟩ = some (.string part)) (by kernel_rfl) (by kernel_rfl) (by kernel_rfl) ?_ (fun l hg hHeld => ?_)
 ·(try dsimp only); exact S0
 (apply tkT 0 1 hg; (focus rfl); (focus rfl); (focus kernel_rfl); (focus (intro w0 hSw; (try dsimp only at hSw); go_simp; try (with_reducible rfl))); (focus assumption))
 try simp only [zP, zA, zZ, zS]
 (apply tkT 1 3 hg; (focus rfl); (focus rfl); (focus kernel_rfl); (focus (intro w0 hSw; (try dsimp only at hSw); go_simp; try (with_reducible rfl))); (focus assumption))
 try simp only [zP, zA, zZ, zS]
 (apply tkT 2 7 hg; (focus rfl); (focus rfl); (focus kernel_rfl); (focus (intro w0 hSw; (try dsimp only at hSw); go_simp; try (with_reducible rfl))); (focus assumption))
 try simp only [zP, zA, zZ, zS]
 (apply tkT 3 15 hg; (focus rfl); (focus rfl); (focus kernel_rfl); (focus (intro w0 hSw; (try dsimp only at hSw); go_simp; try (with_reducible rfl))); (focus assumption))
 try simp only [zP, zA, zZ, zS]
 (apply tkT 4 31 hg; (focus rfl); (focus rfl); (focus kernel_rfl); (focus (intro w0 hSw; (try dsimp only at hSw); go_simp; try (with_reducible rfl))); (focus assumption))
 try simp only [zP, zA, zZ, zS]
 (apply tkT 5 63 hg; (focus rfl); (focus rfl); (focus kernel_rfl); (focus (intro w0 hSw; (try dsimp only at hSw); go_simp; try (with_reducible rfl))); (focus assumption))
 try simp only [zP, zA, zZ, zS]
 (apply tkT 6 127 hg; (focus rfl); (focus rfl); (focus kernel_rfl); (focus (intro w0 hSw; (try dsimp only at hSw); go_simp; try (with_reducible rfl))); (focus assumption))
 try simp only [zP, zA, zZ, zS]
 (apply tkT 7 255 hg; (focus rfl); (focus rfl); (focus kernel_rfl); (focus (intro w0 hSw; (try dsimp only at hSw); go_simp; try (with_reducible rfl))); (focus assumption))
 try simp only [zP, zA, zZ, zS]
 (apply tkT 8 511 hg; (focus rfl); (focus rfl); (focus kernel_rfl); (focus (intro w0 hSw; (try dsimp only at hSw); go_simp; try (with_reducible rfl))); (focus assumption))
 try simp only [zP, zA, zZ, zS]
 (apply tkT 9 1023 hg; (focus rfl); (focus rfl); (focus kernel_rfl); (focus (intro w0 hSw; (try dsimp only at hSw); go_simp; try (with_reducible rfl))); (focus assumption))
 try simp only [zP, zA, zZ, zS]
 (apply tkT 10 2047 hg; (focus rfl); (focus rfl); (focus kernel_rfl); (focus (intro w0 hSw; (try dsimp only at hSw); go_simp; try (with_reducible rfl))); (focus assumption))
 try simp only [zP, zA, zZ, zS]
 (apply tkT 11 4095 hg; (focus rfl); (focus rfl); (focus kernel_rfl); (focus (intro w0 hSw; (try dsimp only at hSw); go_simp; try (with_reducible rfl))); (focus assumption))
 try simp only [zP, zA, zZ, zS]
 (apply tkT 12 8191 hg; (focus rfl); (focus rfl); (focus kernel_rfl); (focus (intro w0 hSw; (try dsimp only at hSw); go_simp; try (with_reducible rfl))); (focus assumption))
 try simp only [zP, zA, zZ, zS]
 refine actE hg (by kernel_rfl) ?_
 clear S0 c0
 obtain ⟨ik, rk, lk, nk, mk⟩ := boxAll Hk.out
 obtain ⟨iz, rz, lz, nz, mz⟩ := boxAll Hz.out
 have HR := Lib.hid (show Pts v3 bk ⟨some ⟨b, off + 1, none⟩, (cp - 1)⟩ [] from HP.out.rest)
 go_wp2_with fail
 refine Calls.at_ fun W hW => ?_
 have B0 : Below v3.heap.size v3 W := by rw [hW]; repeat' (first | with_reducible refine Below.alloc ?_ ?_ _ | with_reducible refine Below.setRow_ ?_ ?_ _ | with_reducible refine Below.setCell ?_ ?_ _ | with_reducible refine Below.drew ?_ | with_reducible refine Below.drewN_ ?_ _ | with_reducible exact Below.refl _ _ | assumption | (simp; done) | (simp; omega) | omega)
 clear hW
 refine (named_calls k A c ns.length m r bk (getL ns k.at_) A7 c7 part W (HWb.out.step B0) (HE.out.step B0) h7'.out HF.out.1 HF.out.2).mono ?_
 rintro e w4 h
 have h' := h
 obtain ⟨rfl, hb⟩ := h'
 rw [HQ.out.2.2]
 have C := B0.trans (hb.mono B0.size)
 replace BB := Lib.hid (BB.out.trans (C.mono BB.out.size))
 replace HWb := Lib.hid (HWb.out.step C)
 replace HD := Lib.hid (HD.out.step C)
 replace HP := Lib.hid (HP.out.step C)
 replace HS := Lib.hid (HS.out.step C)
 replace HE := Lib.hid (HE.out.step C)
 replace HR := Lib.hid (HR.out.step C)
 try clear ik rk lk nk mk
 replace Hk := Lib.hid (Hk.out.step C)
 try clear iz rz lz nz mz
 replace Hz := Lib.hid (Hz.out.step C)
 obtain ⟨ik, rk, lk, nk, mk⟩ := boxAll Hk.out
 obtain ⟨iz, rz, lz, nz, mz⟩ := boxAll Hz.out
 clear h hb C B0 W
 go_wp2_with fail
 refine Calls.at_ fun W hW => ?_
 have B0 : Below w4.heap.size w4 W := by rw [hW]; repeat' (first | with_reducible refine Below.alloc ?_ ?_ _ | with_reducible refine Below.setRow_ ?_ ?_ _ | with_reducible refine Below.setCell ?_ ?_ _ | with_reducible refine Below.drew ?_ | with_reducible refine Below.drewN_ ?_ _ | with_reducible exact Below.refl _ _ | assumption | (simp; done) | (simp; omega) | omega)
 clear hW
 refine (get_calls A c ns m r ino w0 W (BB.out.trans (B0.mono BB.out.size)) HD0.out HL.out.1 HL.out.2.1).mono ?_
 rintro e w5 h
 have h' := h
 obtain ⟨A8, c8, rfl, h8_, hE8, hb⟩ := h'
 have C := B0.trans (hb.mono B0.size)
 replace BB := Lib.hid (BB.out.trans (C.mono BB.out.size))
 replace HWb := Lib.hid (HWb.out.step C)
 replace HD := Lib.hid (HD.out.step C)
 replace HP := Lib.hid (HP.out.step C)
 replace HS := Lib.hid (HS.out.step C)
 replace HE := Lib.hid (HE.out.step C)
 replace HR := Lib.hid (HR.out.step C)
 try clear ik rk lk nk mk
 replace Hk := Lib.hid (Hk.out.step C)
 try clear iz rz lz nz mz
 replace Hz := Lib.hid (Hz.out.step C)
 obtain ⟨ik, rk, lk, nk, mk⟩ := boxAll Hk.out
 obtain ⟨iz, rz, lz, nz, mz⟩ := boxAll Hz.out
 clear h hb C B0 W h8_ hE8
 unfold nodeV
 have hi : (ino == -1) = true := by rw [HC.out.1]; rfl
 go_wp2_with (first | (apply ld_row 48 8; (focus rfl); (focus go_simp); (focus (go_simp; rfl)); (focus (exact Tryd.underlying48)); (focus kernel_rfl)) | (apply st_row 48 8; (focus rfl); (focus rfl); (focus go_simp); (focus kernel_rfl); (focus rfl); (focus (first | (simp [Value.oneCell']; done) | (simp [Value.oneCell', Job.cells]; done)))) | fail)
 try clear hi
 try clear hk3
 try clear hk2
 try clear hf
 try clear hs
 refine Code.at_ fun v6 hW => ?_
 have B0 : Below w5.heap.size w5 v6 := by rw [hW]; repeat' (first | with_reducible refine Below.alloc ?_ ?_ _ | with_reducible refine Below.setRow_ ?_ ?_ _ | with_reducible refine Below.setCell ?_ ?_ _ | with_reducible refine Below.drew ?_ | with_reducible refine Below.drewN_ ?_ _ | with_reducible exact Below.refl _ _ | assumption | (simp; done) | (simp; omega) | omega)
 clear hW
 have C := B0
 replace BB := Lib.hid (BB.out.trans (C.mono BB.out.size))
 replace HWb := Lib.hid (HWb.out.step C)
 replace HD := Lib.hid (HD.out.step C)
 replace HP := Lib.hid (HP.out.step C)
 replace HS := Lib.hid (HS.out.step C)
 replace HE := Lib.hid (HE.out.step C)
 replace HR := Lib.hid (HR.out.step C)
 try clear ik rk lk nk mk
 replace Hk := Lib.hid (Hk.out.step C)
 try clear iz rz lz nz mz
 replace Hz := Lib.hid (Hz.out.step C)
 clear C B0
 have c4 : v6.cell? ⟨bk, 4, none⟩ = some (.int .i64 k.at_) := block_cell HWb.out 4
 have c7_ : v6.cell? ⟨bk, 7, none⟩ = some (.bool k.slash) := block_cell HWb.out 7
 have S0 := And.intro Hk.out.isRow (And.intro c4 c7_)
 refine reg0 12 (fun w' => isRow w' bk = true ∧ w'.cell? ⟨bk, 4, none⟩ = some (.int .i64 k.at_) ∧ w'.cell? ⟨bk, 7, none⟩ = some (.bool k.slash)) (by kernel_rfl) (by kernel_rfl) (by kernel_rfl) ?_ (fun l hg hHeld => ?_)
 ·(try dsimp only); (first | exact S1 | exact S0)
 (apply tkT 0 1 hg; (focus rfl); (focus rfl); (focus kernel_rfl); (focus (intro w0 hSw; (try dsimp only at hSw); go_simp; try (with_reducible rfl))); (focus assumption))
 try simp only [zP, zA, zZ, zS]
 (apply tkT 1 3 hg; (focus rfl); (focus rfl); (focus kernel_rfl); (focus (intro w0 hSw; (try dsimp only at hSw); go_simp; try (with_reducible rfl))); (focus assumption))
 try simp only [zP, zA, zZ, zS]
 (apply tkT 2 7 hg; (focus rfl); (focus rfl); (focus kernel_rfl); (focus (intro w0 hSw; (try dsimp only at hSw); go_simp; try (with_reducible rfl))); (focus assumption))
 try simp only [zP, zA, zZ, zS]
 (apply tkT 3 15 hg; (focus rfl); (focus rfl); (focus kernel_rfl); (focus (intro w0 hSw; (try dsimp only at hSw); go_simp; try (with_reducible rfl))); (focus assumption))
 try simp only [zP, zA, zZ, zS]
 (apply tkT 4 31 hg; (focus rfl); (focus rfl); (focus kernel_rfl); (focus (intro w0 hSw; (try dsimp only at hSw); go_simp; try (with_reducible rfl))); (focus assumption))
 try simp only [zP, zA, zZ, zS]
 (apply tkT 5 63 hg; (focus rfl); (focus rfl); (focus kernel_rfl); (focus (intro w0 hSw; (try dsimp only at hSw); go_simp; try (with_reducible rfl))); (focus assumption))
 try simp only [zP, zA, zZ, zS]
 (apply tkT 6 127 hg; (focus rfl); (focus rfl); (focus kernel_rfl); (focus (intro w0 hSw; (try dsimp only at hSw); go_simp; try (with_reducible rfl))); (focus assumption))
 try simp only [zP, zA, zZ, zS]
 (apply tkT 7 255 hg; (focus rfl); (focus rfl); (focus kernel_rfl); (focus (intro w0 hSw; (try dsimp only at hSw); go_simp; try (with_reducible rfl))); (focus assumption))
 try simp only [zP, zA, zZ, zS]
 (apply tkT 8 511 hg; (focus rfl); (focus rfl); (focus kernel_rfl); (focus (intro w0 hSw; (try dsimp only at hSw); go_simp; try (with_reducible rfl))); (focus assumption))
 try simp only [zP, zA, zZ, zS]
 (apply tkT 9 1023 hg; (focus rfl); (focus rfl); (focus kernel_rfl); (focus (intro w0 hSw; (try dsimp only at hSw); go_simp; try (with_reducible rfl))); (focus assumption))
 try simp only [zP, zA, zZ, zS]
 (apply tkT 10 2047 hg; (focus rfl); (focus rfl); (focus kernel_rfl); (focus (intro w0 hSw; (try dsimp only at hSw); go_simp; try (with_reducible rfl))); (focus assumption))
 try simp only [zP, zA, zZ, zS]
 (apply act1 11 4095 hg; (focus rfl); (focus rfl); (focus kernel_rfl))
 intro K hK
 go_simp
 refine (end2_calls k A c ns.length m r bk ⟨k.at_, part, (-1), k.slash⟩ _ (HWb.out.step (Below.refl _ _).drew)).mono ?_
 rintro e u5 ⟨rfl, h5, g5⟩
 have S1 := And.intro h5.box.isRow (And.intro (show u5.cell? ⟨bk, 4, none⟩ = some (.int .i64 k.at_) from block_cell h5 4) (show u5.cell? ⟨bk, 7, none⟩ = some (.bool k.slash) from block_cell h5 7))
 refine hK.out _ _ ?_ (fun hHeld => ?_)
 ·(try dsimp only); (first | exact S1 | exact S0)
 clear hK K
 try simp only [zP, zA, zZ, zS]
 refine actE hg (by kernel_rfl) ?_
 have H5 := Lib.hid (And.intro h5 (Gro.trans (Gro.of_below (HS.out.step (Below.refl _ _).drew)) g5))
 have GP := Lib.hid (Gro.trans (Gro.of_below (Below.refl _ v6).drew) g5)
 have i5 := h5.box.isRow; have r5 := h5.box.row
 clear S0 S1 c4 c7_ h5 g5
 clear i5 r5
 go_wp2_with fail
 go_ret
 exact ⟨H5.out.2, rfl, k.parts, H5.out.1, ⟨⟨some ⟨b, off, none⟩, cp⟩, hv, Pts.gro HP.out GP.out⟩⟩
set_option maxRecDepth 100000 in
set_option maxHeartbeats 4000000 in
theorem step_4b (k : Wk) (A : Option Addr) (c : Nat) (ns : List S48) (m r : Int) (bk : Nat) (w0 w : World) (part : ByteArray) (rest : List ByteArray) (b off cp : Nat) (hB : Below w0.heap.size w0 w) (hbk : w0.heap.size ≤ bk) (hk : Wb w bk k A c ns.length m r) (hd : Dk w0 A ns) (hc : ns.length ≤ c) (hl : ns.length ≤ 1000000) (hv : k.parts = .slice (some ⟨b, off, none⟩) (rest.length + 1) cp) (hp : Pts w bk ⟨some ⟨b, off, none⟩, cp⟩ (part :: rest)) (hrl : rest.length ≤ 100000) (ino : Int) (he : hereB ns k.at_ = 0) (hm : mayB (getL ns k.at_).f1 (getL ns k.at_).f2 k.who 1 = true) (hin : namedB k.at_ (getL ns k.at_) part = ino) (hf7 : (getL ns k.at_).f7.length ≤ 1000000) (hso : Sorted57 (getL ns k.at_).f7 part) (hh : 0 ≤ k.hops ∧ k.hops ≤ 8) (htx : (getL ns ino).f6.size ≤ 1000) (hlast : ¬ rest = []) (hcp : ¬ cp = 1) (hi : ino = -1) :
  Calls Tryd.prog 40 #[.pointer (some ⟨bk, 0, none⟩)] w (BadR bk 2 w) := by
 have BB := Lib.hid hB
 have Hk := Lib.hid hk.box
 have HWb := Lib.hid hk
 have HD := Lib.hid (hd.step hB)
 have HD0 := Lib.hid hd
 have HL := Lib.hid (And.intro hc (And.intro hl (And.intro hrl hbk)))
 have HP := Lib.hid hp
 have HS := Lib.hid (show Since w w from Below.refl _ w)
 clear hB hk hd hc hl hp hrl hbk
 have HC0 := Lib.hid hlast
 clear hlast
 have HQ := Lib.hid (And.intro he (And.intro hm hin))
 have HF := Lib.hid (And.intro hf7 hso)
 have HH := Lib.hid (And.intro hh htx)
 have HC := Lib.hid (And.intro hi trivial)
 clear he hm hin hf7 hso hh htx hi
 have hrn : ¬ rest.length = 0 := fun h => HC0.out (List.eq_nil_of_length_eq_zero h)
 have hw := wk_eq
 obtain ⟨ik, rk, lk, nk, mk⟩ := boxAll Hk.out
 go_enter Tryd.func40, Tryd.ntmps40
 go_wp2_with fail
 refine Calls.at_ fun W hW => ?_
 have B0 : Below w.heap.size w W := by rw [hW]; repeat' (first | with_reducible refine Below.alloc ?_ ?_ _ | with_reducible refine Below.setRow_ ?_ ?_ _ | with_reducible refine Below.setCell ?_ ?_ _ | with_reducible refine Below.drew ?_ | with_reducible refine Below.drewN_ ?_ _ | with_reducible exact Below.refl _ _ | assumption | (simp; done) | (simp; omega) | omega)
 clear hW
 refine (here_calls k A c ns m r bk W (Hk.out.step B0) (HD.out.step B0) HL.out.1 HL.out.2.1).mono ?_
 rintro e w1 h
 obtain ⟨hb, A7, c7, ev, rfl, h7, hE, hEr⟩ := (show HereR ns k.at_ W e w1 from h)
 rcases hEr with ⟨_, rfl⟩ | ⟨h0, _⟩
 case inr => exact absurd HQ.out.1 h0
 have h7' := Lib.hid h7
 clear h7
 have hE2 := Es.step hE hb
 have C := B0.trans (hb.mono B0.size)
 replace BB := Lib.hid (BB.out.trans (C.mono BB.out.size))
 replace HWb := Lib.hid (HWb.out.step C)
 replace HD := Lib.hid (HD.out.step C)
 replace HP := Lib.hid (HP.out.step C)
 replace HS := Lib.hid (HS.out.step C)
 try clear ik rk lk nk mk
 replace Hk := Lib.hid (Hk.out.step C)
 obtain ⟨ik, rk, lk, nk, mk⟩ := boxAll Hk.out
 have HE := Lib.hid hE2
 clear h hb C B0 W hE2 hE
 unfold nodeV
 go_wp2_with (first | (apply ld_row 48 8; (focus rfl); (focus go_simp); (focus (go_simp; rfl)); (focus (exact Tryd.underlying48)); (focus kernel_rfl)) | (apply st_row 48 8; (focus rfl); (focus rfl); (focus go_simp); (focus kernel_rfl); (focus rfl); (focus (first | (simp [Value.oneCell']; done) | (simp [Value.oneCell', Job.cells]; done)))) | fail)
 refine Code.at_ fun v2 hW => ?_
 have B0 : Below w1.heap.size w1 v2 := by rw [hW]; repeat' (first | with_reducible refine Below.alloc ?_ ?_ _ | with_reducible refine Below.setRow_ ?_ ?_ _ | with_reducible refine Below.setCell ?_ ?_ _ | with_reducible refine Below.drew ?_ | with_reducible refine Below.drewN_ ?_ _ | with_reducible exact Below.refl _ _ | assumption | (simp; done) | (simp; omega) | omega)
 have Hz := Lib.hid (show Box v2 (w1.heap.size) #[.int .i64 (getL ns k.at_).f0, .int .i64 (getL ns k.at_).f1, .int .i64 (getL ns k.at_).f2, .int .i64 (getL ns k.at_).f3, .int .i64 (getL ns k.at_).f4, .int .i64 (getL ns k.at_).f5, .string (getL ns k.at_).f6, .slice A7 (getL ns k.at_).f7.length c7] from ⟨_, by rw [hW]; (try rw [setRow_alloc, if_pos rfl]); exact blk_new _ (by first | rfl | simp)⟩)
 clear hW
 have C := B0
 replace BB := Lib.hid (BB.out.trans (C.mono BB.out.size))
 replace HWb := Lib.hid (HWb.out.step C)
 replace HD := Lib.hid (HD.out.step C)
 replace HP := Lib.hid (HP.out.step C)
 replace HS := Lib.hid (HS.out.step C)
 replace HE := Lib.hid (HE.out.step C)
 try clear ik rk lk nk mk
 replace Hk := Lib.hid (Hk.out.step C)
 obtain ⟨bz, hbz⟩ : ∃ b, b = w1.heap.size := ⟨_, rfl⟩
 rw [← hbz] at Hz ⊢
 clear hbz
 clear C B0
 have S0 : (isRow v2 bk = true ∧ isRow v2 bz = true) ∧ row v2 bk = (k.cells A c ns.length m r) ∧ row v2 bz = #[.int .i64 (getL ns k.at_).f0, .int .i64 (getL ns k.at_).f1, .int .i64 (getL ns k.at_).f2, .int .i64 (getL ns k.at_).f3, .int .i64 (getL ns k.at_).f4, .int .i64 (getL ns k.at_).f5, .string (getL ns k.at_).f6, .slice A7 (getL ns k.at_).f7.length c7] := ⟨⟨Hk.out.isRow, Hz.out.isRow⟩, Hk.out.row, Hz.out.row⟩
 refine reg0 10 (fun w' => (isRow w' bk = true ∧ isRow w' bz = true) ∧ row w' bk = (k.cells A c ns.length m r) ∧ row w' bz = #[.int .i64 (getL ns k.at_).f0, .int .i64 (getL ns k.at_).f1, .int .i64 (getL ns k.at_).f2, .int .i64 (getL ns k.at_).f3, .int .i64 (getL ns k.at_).f4, .int .i64 (getL ns k.at_).f5, .string (getL ns k.at_).f6, .slice A7 (getL ns k.at_).f7.length c7]) (by kernel_rfl) (by kernel_rfl) (by kernel_rfl) ?_ (fun l hg hHeld => ?_)
 ·(try dsimp only); exact S0
 (apply tkT 0 1 hg; (focus rfl); (focus rfl); (focus kernel_rfl); (focus (intro w0 hSw; (try dsimp only at hSw); go_simp; try (with_reducible rfl))); (focus assumption))
 try simp only [zP, zA, zZ, zS]
 (apply tkT 1 3 hg; (focus rfl); (focus rfl); (focus kernel_rfl); (focus (intro w0 hSw; (try dsimp only at hSw); go_simp; try (with_reducible rfl))); (focus assumption))
 try simp only [zP, zA, zZ, zS]
 (apply tkT 2 7 hg; (focus rfl); (focus rfl); (focus kernel_rfl); (focus (intro w0 hSw; (try dsimp only at hSw); go_simp; try (with_reducible rfl))); (focus assumption))
 try simp only [zP, zA, zZ, zS]
 (apply tkT 3 15 hg; (focus rfl); (focus rfl); (focus kernel_rfl); (focus (intro w0 hSw; (try dsimp only at hSw); go_simp; try (with_reducible rfl))); (focus assumption))
 try simp only [zP, zA, zZ, zS]
 (apply tkT 4 31 hg; (focus rfl); (focus rfl); (focus kernel_rfl); (focus (intro w0 hSw; (try dsimp only at hSw); go_simp; try (with_reducible rfl))); (focus assumption))
 try simp only [zP, zA, zZ, zS]
 (apply tkT 5 63 hg; (focus rfl); (focus rfl); (focus kernel_rfl); (focus (intro w0 hSw; (try dsimp only at hSw); go_simp; try (with_reducible rfl))); (focus assumption))
 try simp only [zP, zA, zZ, zS]
 (apply tkT 6 127 hg; (focus rfl); (focus rfl); (focus kernel_rfl); (focus (intro w0 hSw; (try dsimp only at hSw); go_simp; try (with_reducible rfl))); (focus assumption))
 try simp only [zP, zA, zZ, zS]
 (apply tkT 7 255 hg; (focus rfl); (focus rfl); (focus kernel_rfl); (focus (intro w0 hSw; (try dsimp only at hSw); go_simp; try (with_reducible rfl))); (focus assumption))
 try simp only [zP, zA, zZ, zS]
 (apply act1 8 511 hg; (focus rfl); (focus rfl); (focus kernel_rfl))
 intro K hK
 go_simp
 refine (may_calls _ _ _ _ _).mono ?_
 rintro e u ⟨rfl, rfl⟩
 rw [HQ.out.2.1]
 refine hK.out _ _ ?_ (fun hHeld => ?_)
 ·(try dsimp only); exact S0
 clear hK K
 try simp only [zP, zA, zZ, zS]
 (apply tkT 9 1023 hg; (focus rfl); (focus rfl); (focus kernel_rfl); (focus (intro w0 hSw; (try dsimp only at hSw); go_simp; try (with_reducible rfl))); (focus assumption))
 try simp only [zP, zA, zZ, zS]
 refine actE hg (by kernel_rfl) ?_
 clear S0
 go_wp2_with fail
 refine Code.at_ fun v3 hW => ?_
 have B0 : Below v2.heap.size v2 v3 := by rw [hW]; repeat' (first | with_reducible refine Below.alloc ?_ ?_ _ | with_reducible refine Below.setRow_ ?_ ?_ _ | with_reducible refine Below.setCell ?_ ?_ _ | with_reducible refine Below.drew ?_ | with_reducible refine Below.drewN_ ?_ _ | with_reducible exact Below.refl _ _ | assumption | (simp; done) | (simp; omega) | omega)
 clear hW
 have C := B0
 replace BB := Lib.hid (BB.out.trans (C.mono BB.out.size))
 replace HWb := Lib.hid (HWb.out.step C)
 replace HD := Lib.hid (HD.out.step C)
 replace HP := Lib.hid (HP.out.step C)
 replace HS := Lib.hid (HS.out.step C)
 replace HE := Lib.hid (HE.out.step C)
 try clear ik rk lk nk mk
 replace Hk := Lib.hid (Hk.out.step C)
 try clear iz rz lz nz mz
 replace Hz := Lib.hid (Hz.out.step C)
 clear C B0
 obtain ⟨b', off', e', g', c0⟩ := HP.out.2.str 0 (by simp)
 cases e'
 simp only [Nat.add_zero, List.getElem_cons_zero] at c0
 clear g'
 have hcap : rest.length + 1 ≤ cp := by have := HP.out.1; simpa using this
 have hone : (1 : Int) ≤ (rest.length : Int) + 1 := by omega
 have S0 : (isRow v3 bk = true ∧ row v3 bk = (k.cells A c ns.length m r)) ∧ v3.cell? ⟨b, off, none⟩ = some (.string part) := ⟨⟨Hk.out.isRow, Hk.out.row⟩, c0⟩
 refine reg0 13 (fun w' => (isRow w' bk = true ∧ row w' bk = (k.cells A c ns.length m r)) ∧ w'.cell? ⟨b, off, none⟩ = some (.string part)) (by kernel_rfl) (by kernel_rfl) (by kernel_rfl) ?_ (fun l hg hHeld => ?_)
 ·(try dsimp only); exact S0
 (apply tkT 0 1 hg; (focus rfl); (focus rfl); (focus kernel_rfl); (focus (intro w0 hSw; (try dsimp only at hSw); go_simp; try (with_reducible rfl))); (focus assumption))
 try simp only [zP, zA, zZ, zS]
 (apply tkT 1 3 hg; (focus rfl); (focus rfl); (focus kernel_rfl); (focus (intro w0 hSw; (try dsimp only at hSw); go_simp; try (with_reducible rfl))); (focus assumption))
 try simp only [zP, zA, zZ, zS]
 (apply tkT 2 7 hg; (focus rfl); (focus rfl); (focus kernel_rfl); (focus (intro w0 hSw; (try dsimp only at hSw); go_simp; try (with_reducible rfl))); (focus assumption))
 try simp only [zP, zA, zZ, zS]
 (apply tkT 3 15 hg; (focus rfl); (focus rfl); (focus kernel_rfl); (focus (intro w0 hSw; (try dsimp only at hSw); go_simp; try (with_reducible rfl))); (focus assumption))
 try simp only [zP, zA, zZ, zS]
 (apply tkT 4 31 hg; (focus rfl); (focus rfl); (focus kernel_rfl); (focus (intro w0 hSw; (try dsimp only at hSw); go_simp; try (with_reducible rfl))); (focus assumption))
 try simp only [zP, zA, zZ, zS]
 (apply tkT 5 63 hg; (focus rfl); (focus rfl); (focus kernel_rfl); (focus (intro w0 hSw; (try dsimp only at hSw); go_simp; try (with_reducible rfl))); (focus assumption))
 try simp only [zP, zA, zZ, zS]
 (apply tkT 6 127 hg; (focus rfl); (focus rfl); (focus kernel_rfl); (focus (intro w0 hSw; (try dsimp only at hSw); go_simp; try (with_reducible rfl))); (focus assumption))
 try simp only [zP, zA, zZ, zS]
 (apply tkT 7 255 hg; (focus rfl); (focus rfl); (focus kernel_rfl); (focus (intro w0 hSw; (try dsimp only at hSw); go_simp; try (with_reducible rfl))); (focus assumption))
 try simp only [zP, zA, zZ, zS]
 (apply tkT 8 511 hg; (focus rfl); (focus rfl); (focus kernel_rfl); (focus (intro w0 hSw; (try dsimp only at hSw); go_simp; try (with_reducible rfl))); (focus assumption))
 try simp only [zP, zA, zZ, zS]
 (apply tkT 9 1023 hg; (focus rfl); (focus rfl); (focus kernel_rfl); (focus (intro w0 hSw; (try dsimp only at hSw); go_simp; try (with_reducible rfl))); (focus assumption))
 try simp only [zP, zA, zZ, zS]
 (apply tkT 10 2047 hg; (focus rfl); (focus rfl); (focus kernel_rfl); (focus (intro w0 hSw; (try dsimp only at hSw); go_simp; try (with_reducible rfl))); (focus assumption))
 try simp only [zP, zA, zZ, zS]
 (apply tkT 11 4095 hg; (focus rfl); (focus rfl); (focus kernel_rfl); (focus (intro w0 hSw; (try dsimp only at hSw); go_simp; try (with_reducible rfl))); (focus assumption))
 try simp only [zP, zA, zZ, zS]
 (apply tkT 12 8191 hg; (focus rfl); (focus rfl); (focus kernel_rfl); (focus (intro w0 hSw; (try dsimp only at hSw); go_simp; try (with_reducible rfl))); (focus assumption))
 try simp only [zP, zA, zZ, zS]
 refine actE hg (by kernel_rfl) ?_
 clear S0 c0
 obtain ⟨ik, rk, lk, nk, mk⟩ := boxAll Hk.out
 obtain ⟨iz, rz, lz, nz, mz⟩ := boxAll Hz.out
 have HR := Lib.hid (show Pts v3 bk ⟨some ⟨b, off + 1, none⟩, (cp - 1)⟩ rest from HP.out.rest)
 go_wp2_with fail
 refine Calls.at_ fun W hW => ?_
 have B0 : Below v3.heap.size v3 W := by rw [hW]; repeat' (first | with_reducible refine Below.alloc ?_ ?_ _ | with_reducible refine Below.setRow_ ?_ ?_ _ | with_reducible refine Below.setCell ?_ ?_ _ | with_reducible refine Below.drew ?_ | with_reducible refine Below.drewN_ ?_ _ | with_reducible exact Below.refl _ _ | assumption | (simp; done) | (simp; omega) | omega)
 clear hW
 refine (named_calls k A c ns.length m r bk (getL ns k.at_) A7 c7 part W (HWb.out.step B0) (HE.out.step B0) h7'.out HF.out.1 HF.out.2).mono ?_
 rintro e w4 h
 have h' := h
 obtain ⟨rfl, hb⟩ := h'
 rw [HQ.out.2.2]
 have C := B0.trans (hb.mono B0.size)
 replace BB := Lib.hid (BB.out.trans (C.mono BB.out.size))
 replace HWb := Lib.hid (HWb.out.step C)
 replace HD := Lib.hid (HD.out.step C)
 replace HP := Lib.hid (HP.out.step C)
 replace HS := Lib.hid (HS.out.step C)
 replace HE := Lib.hid (HE.out.step C)
 replace HR := Lib.hid (HR.out.step C)
 try clear ik rk lk nk mk
 replace Hk := Lib.hid (Hk.out.step C)
 try clear iz rz lz nz mz
 replace Hz := Lib.hid (Hz.out.step C)
 obtain ⟨ik, rk, lk, nk, mk⟩ := boxAll Hk.out
 obtain ⟨iz, rz, lz, nz, mz⟩ := boxAll Hz.out
 clear h hb C B0 W
 go_wp2_with fail
 refine Calls.at_ fun W hW => ?_
 have B0 : Below w4.heap.size w4 W := by rw [hW]; repeat' (first | with_reducible refine Below.alloc ?_ ?_ _ | with_reducible refine Below.setRow_ ?_ ?_ _ | with_reducible refine Below.setCell ?_ ?_ _ | with_reducible refine Below.drew ?_ | with_reducible refine Below.drewN_ ?_ _ | with_reducible exact Below.refl _ _ | assumption | (simp; done) | (simp; omega) | omega)
 clear hW
 refine (get_calls A c ns m r ino w0 W (BB.out.trans (B0.mono BB.out.size)) HD0.out HL.out.1 HL.out.2.1).mono ?_
 rintro e w5 h
 have h' := h
 obtain ⟨A8, c8, rfl, h8_, hE8, hb⟩ := h'
 have C := B0.trans (hb.mono B0.size)
 replace BB := Lib.hid (BB.out.trans (C.mono BB.out.size))
 replace HWb := Lib.hid (HWb.out.step C)
 replace HD := Lib.hid (HD.out.step C)
 replace HP := Lib.hid (HP.out.step C)
 replace HS := Lib.hid (HS.out.step C)
 replace HE := Lib.hid (HE.out.step C)
 replace HR := Lib.hid (HR.out.step C)
 try clear ik rk lk nk mk
 replace Hk := Lib.hid (Hk.out.step C)
 try clear iz rz lz nz mz
 replace Hz := Lib.hid (Hz.out.step C)
 obtain ⟨ik, rk, lk, nk, mk⟩ := boxAll Hk.out
 obtain ⟨iz, rz, lz, nz, mz⟩ := boxAll Hz.out
 clear h hb C B0 W h8_ hE8
 unfold nodeV
 have hi : (ino == -1) = true := by rw [HC.out.1]; rfl
 go_wp2_with (first | (apply ld_row 48 8; (focus rfl); (focus go_simp); (focus (go_simp; rfl)); (focus (exact Tryd.underlying48)); (focus kernel_rfl)) | (apply st_row 48 8; (focus rfl); (focus rfl); (focus go_simp); (focus kernel_rfl); (focus rfl); (focus (first | (simp [Value.oneCell']; done) | (simp [Value.oneCell', Job.cells]; done)))) | fail)
 go_ret
 have hs : Below w.heap.size w w5 := HS.out
 refine ⟨Gro.of_below ?_, _, rfl, ⟨_, blk_new _ (by first | rfl | simp)⟩⟩
 repeat' (first | exact hs | with_reducible refine Below.alloc ?_ ?_ _ | exact hs.size | (have := hs.size; simp; omega))
end Go.Proofs.YthagmakojbfmaaaDoor.Ext
