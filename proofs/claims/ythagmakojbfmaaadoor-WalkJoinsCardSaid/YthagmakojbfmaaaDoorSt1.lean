/- The walker: a step over one part. -/
import Derived.Test.YthagmakojbfmaaaDoorHop
set_option linter.unusedVariables false
set_option linter.unusedSimpArgs false
namespace Go.Proofs.YthagmakojbfmaaaDoor.Ext
open Go Go.RowKit Go.Proofs.YthagmakojbfmaaaDoor Go.Proofs.YthagmakojbfmaaaDoorW.PrintWords
def Since (w v : World) : Prop := Below w.heap.size w v
theorem Since.step {w v u : World} (h : Since w v) (hb : Below v.heap.size v u) : Since w u := Below.trans h (hb.mono (Below.size h))
def Pts (w : World) (bk : Nat) (s : Sl) (ps : List ByteArray) : Prop := rStr.Is w (But w bk) s ps
theorem Pts.gro {w w1 : World} {bk : Nat} {s : Sl} {ps : List ByteArray} (h : Pts w bk s ps) (hg : Gro (fun x => x = bk) w w1) : Pts w1 bk s ps := (Rp.Is.move h fun k hk => hg.block k hk.1 hk.2).weak fun k hk => ⟨Nat.lt_of_lt_of_le hk.1 hg.size, hk.2⟩
theorem Pts.step {w w1 : World} {bk : Nat} {s : Sl} {ps : List ByteArray} (h : Pts w bk s ps) (hb : Below w.heap.size w w1) : Pts w1 bk s ps := h.gro (Gro.of_below hb)
theorem Pts.rest {w : World} {bk b off cp : Nat} {part : ByteArray} {rest : List ByteArray} (h : Pts w bk ⟨some ⟨b, off, none⟩, cp⟩ (part :: rest)) : Pts w bk ⟨some ⟨b, off + 1, none⟩, cp - 1⟩ rest := by
 have h1 := h.1
 have h2 := Rp.Row.drop h.2 1 (by simp)
 have e : (Option.map (fun x : Addr => x.add (1 * rStr.sz)) (some (⟨b, off, none⟩ : Addr))) = some ⟨b, off + 1, none⟩ := by simp [rStr, Rp.scalar, Addr.add]
 refine ⟨by simp only [List.length_cons] at h1 ⊢; omega, ?_⟩
 have h3 : rStr.Row w (But w bk) (Option.map (fun x : Addr => x.add (1 * rStr.sz)) (some (⟨b, off, none⟩ : Addr))) rest := h2
 rw [e] at h3
 exact h3
theorem Pts.none_left {w : World} {bk b off : Nat} : Pts w bk ⟨some ⟨b, off, none⟩, 0⟩ [] := Rp.Is.nil _ _ _ _
def HopR (k : Wk) (text : ByteArray) (ps : List ByteArray) (A : Option Addr) (c n : Nat) (m r : Int) (bk : Nat) (w : World) (e : Ending) (w' : World) : Prop :=
 if k.hops = 8 then BadR bk 8 w e w' else if checkB text = 0 then GoR bk (k.hopped (rootB text) ps) ps A c n m r w e w' else BadR bk (checkB text) w e w'
theorem hop_calls (k : Wk) (A : Option Addr) (c n : Nat) (m r : Int) (bk : Nat) (w : World) (text : ByteArray) (rest : List ByteArray) (ad : Addr) (cr : Nat) (hk : Wb w bk k A c n m r) (hrest : rStr.Is w (But w bk) ⟨some ad, cr⟩ rest) (hl : rest.length ≤ 100000) (hh : 0 ≤ k.hops ∧ k.hops ≤ 8) (ht : text.size ≤ 1000) :
  Calls Tryd.prog 57 #[.pointer (some ⟨bk, 0, none⟩), .string text, .slice (some ad) rest.length cr] w (HopR k text (namesL text ++ rest) A c n m r bk w) := by
 unfold HopR
 by_cases h8 : k.hops = 8
 ·simp only [if_pos h8]; exact hop_loop k A c n m r bk w text _ hk h8
 ·simp only [if_neg h8]
  by_cases hc : checkB text = 0
  ·simp only [if_pos hc]; exact hop_go k A c n m r bk w text rest _ ad cr hk hrest hl h8 hh ht hc rfl
  ·simp only [if_neg hc]; exact hop_bad k A c n m r bk w text _ hk h8 (by omega) hc
theorem BadR.since {bk : Nat} {no : Int} {w v w' : World} {e : Ending} (h : BadR bk no v e w') (hs : Since w v) : BadR bk no w e w' := ⟨Gro.trans (Gro.of_below hs) h.1, h.2⟩
theorem GoR.since {bk : Nat} {k : Wk} {ps : List ByteArray} {A : Option Addr} {c n : Nat} {m r : Int} {w v w' : World} {e : Ending} (h : GoR bk k ps A c n m r v e w') (hs : Since w v) : GoR bk k ps A c n m r w e w' := ⟨Gro.trans (Gro.of_below hs) h.1, h.2⟩
theorem HopR.ret {k : Wk} {text : ByteArray} {ps : List ByteArray} {A : Option Addr} {c n : Nat} {m r : Int} {bk : Nat} {w w' : World} {e : Ending} (h : HopR k text ps A c n m r bk w e w') : ∃ v, e = .returned v := by
 unfold HopR at h
 by_cases h8 : k.hops = 8
 ·simp only [if_pos h8] at h; obtain ⟨_, p, rfl, _⟩ := h; exact ⟨_, rfl⟩
 ·by_cases hc : checkB text = 0
  ·simp only [if_neg h8, if_pos hc] at h; obtain ⟨_, rfl, _⟩ := h; exact ⟨_, rfl⟩
  ·simp only [if_neg h8, if_neg hc] at h; obtain ⟨_, p, rfl, _⟩ := h; exact ⟨_, rfl⟩
theorem HopR.since {k : Wk} {text : ByteArray} {ps : List ByteArray} {A : Option Addr} {c n : Nat} {m r : Int} {bk : Nat} {w v w' : World} {e : Ending} (h : HopR k text ps A c n m r bk v e w') (hs : Since w v) : HopR k text ps A c n m r bk w e w' := by
 unfold HopR at h ⊢
 by_cases h8 : k.hops = 8
 ·simp only [if_pos h8] at h ⊢; exact h.since hs
 ·by_cases hc : checkB text = 0
  ·simp only [if_neg h8, if_pos hc] at h ⊢; exact h.since hs
  ·simp only [if_neg h8, if_neg hc] at h ⊢; exact h.since hs
attribute [local go_sem] isRow_drew row_drew isRow_drewN row_drewN cell_isRow rowSz_isRow isHead_ptr blockOf_ptr row_alloc isRow_alloc rowSz_alloc setRow_alloc isRow_setRow isRow_setCell isRow_frozen setCell_setRow_same setCell_setRow_other cell_setRow_same' cell_setRow_other' frozen_setRow' row_setRow_same row_setRow_other rowSz_setRow_same rowSz_setRow_other setRow_setRow_same' setRow_comm' ne_l2 ne_r2 ne_l3 ne_r3 ne_l4 ne_r4 ne_l5 ne_r5 ne_l6 ne_r6 ne_l7 ne_r7 ne_l8 ne_r8 wk_len row_setCell_same
attribute [local go_sem ↓] ldx_48
attribute [local go_sem ↓] Go.wp_at_zero Go.wp_at_succ
set_option maxRecDepth 100000 in
set_option maxHeartbeats 4000000 in
theorem step_here (k : Wk) (A : Option Addr) (c : Nat) (ns : List S48) (m r : Int) (bk : Nat) (w0 w : World) (part : ByteArray) (rest : List ByteArray) (b off cp : Nat) (hB : Below w0.heap.size w0 w) (hbk : w0.heap.size ≤ bk) (hk : Wb w bk k A c ns.length m r) (hd : Dk w0 A ns) (hc : ns.length ≤ c) (hl : ns.length ≤ 1000000) (hv : k.parts = .slice (some ⟨b, off, none⟩) (rest.length + 1) cp) (hp : Pts w bk ⟨some ⟨b, off, none⟩, cp⟩ (part :: rest)) (hrl : rest.length ≤ 100000) (he : hereB ns k.at_ ≠ 0) :
  Calls Tryd.prog 40 #[.pointer (some ⟨bk, 0, none⟩)] w (BadR bk (hereB ns k.at_) w) := by
 have BB := Lib.hid hB
 have Hk := Lib.hid hk.box
 have HWb := Lib.hid hk
 have HD := Lib.hid (hd.step hB)
 have HD0 := Lib.hid hd
 have HL := Lib.hid (And.intro hc (And.intro hl (And.intro hrl hbk)))
 have HP := Lib.hid hp
 have HS := Lib.hid (show Since w w from Below.refl _ w)
 clear hB hk hd hc hl hp hrl hbk
 have HQ := Lib.hid he
 clear he
 have hw := wk_eq
 obtain ⟨ik, rk, lk, nk, mk⟩ := boxAll Hk.out
 go_enter Tryd.func40, Tryd.ntmps40
 go_wp2_with fail
 refine Calls.at_ fun W hW => ?_
 have B0 : Below w.heap.size w W := by rw [hW]; repeat' (first | with_reducible refine Below.alloc ?_ ?_ _ | with_reducible refine Below.setRow_ ?_ ?_ _ | with_reducible refine Below.setCell ?_ ?_ _ | with_reducible refine Below.drew ?_ | with_reducible refine Below.drewN_ ?_ _ | with_reducible exact Below.refl _ _ | assumption | (simp; done) | (simp; omega) | omega)
 clear hW
 refine (here_calls k A c ns m r bk W (Hk.out.step B0) (HD.out.step B0) HL.out.1 HL.out.2.1).mono ?_
 rintro e w1 h
 obtain ⟨hb, A7, c7, ev, rfl, h7, hE, hEr⟩ := (show HereR ns k.at_ W e w1 from h)
 rcases hEr with ⟨h0, _⟩ | ⟨_, p, rfl, hpb⟩
 ·exact absurd h0 HQ.out
 have h7' := Lib.hid h7
 clear h7
 have C := B0.trans (hb.mono B0.size)
 replace BB := Lib.hid (BB.out.trans (C.mono BB.out.size))
 replace HWb := Lib.hid (HWb.out.step C)
 replace HD := Lib.hid (HD.out.step C)
 replace HP := Lib.hid (HP.out.step C)
 replace HS := Lib.hid (HS.out.step C)
 try clear ik rk lk nk mk
 replace Hk := Lib.hid (Hk.out.step C)
 obtain ⟨ik, rk, lk, nk, mk⟩ := boxAll Hk.out
 clear h hb C B0 W hE
 have HE := Lib.hid hpb
 clear hpb
 unfold nodeV
 go_wp2_with (first | (apply ld_row 48 8; (focus rfl); (focus go_simp); (focus (go_simp; rfl)); (focus (exact Tryd.underlying48)); (focus kernel_rfl)) | (apply st_row 48 8; (focus rfl); (focus rfl); (focus go_simp); (focus kernel_rfl); (focus rfl); (focus (first | (simp [Value.oneCell']; done) | (simp [Value.oneCell', Job.cells]; done)))) | fail)
 go_ret
 refine ⟨Gro.of_below ?_, p, rfl, HE.out.step ?_⟩
 ·exact (Below.alloc HS.out (Below.size HS.out) _)
 ·exact (Below.refl _ _).alloc (Nat.le_refl _) _
set_option maxRecDepth 100000 in
set_option maxHeartbeats 4000000 in
theorem step_may (k : Wk) (A : Option Addr) (c : Nat) (ns : List S48) (m r : Int) (bk : Nat) (w0 w : World) (part : ByteArray) (rest : List ByteArray) (b off cp : Nat) (hB : Below w0.heap.size w0 w) (hbk : w0.heap.size ≤ bk) (hk : Wb w bk k A c ns.length m r) (hd : Dk w0 A ns) (hc : ns.length ≤ c) (hl : ns.length ≤ 1000000) (hv : k.parts = .slice (some ⟨b, off, none⟩) (rest.length + 1) cp) (hp : Pts w bk ⟨some ⟨b, off, none⟩, cp⟩ (part :: rest)) (hrl : rest.length ≤ 100000) (he : hereB ns k.at_ = 0) (hm : mayB (getL ns k.at_).f1 (getL ns k.at_).f2 k.who 1 = false) :
  Calls Tryd.prog 40 #[.pointer (some ⟨bk, 0, none⟩)] w (BadR bk 7 w) := by
 have BB := Lib.hid hB
 have Hk := Lib.hid hk.box
 have HWb := Lib.hid hk
 have HD := Lib.hid (hd.step hB)
 have HD0 := Lib.hid hd
 have HL := Lib.hid (And.intro hc (And.intro hl (And.intro hrl hbk)))
 have HP := Lib.hid hp
 have HS := Lib.hid (show Since w w from Below.refl _ w)
 clear hB hk hd hc hl hp hrl hbk
 have HQ := Lib.hid (And.intro he (And.intro hm trivial))
 clear he hm
 have hw := wk_eq
 obtain ⟨ik, rk, lk, nk, mk⟩ := boxAll Hk.out
 go_enter Tryd.func40, Tryd.ntmps40
 go_wp2_with fail
 refine Calls.at_ fun W hW => ?_
 have B0 : Below w.heap.size w W := by rw [hW]; repeat' (first | with_reducible refine Below.alloc ?_ ?_ _ | with_reducible refine Below.setRow_ ?_ ?_ _ | with_reducible refine Below.setCell ?_ ?_ _ | with_reducible refine Below.drew ?_ | with_reducible refine Below.drewN_ ?_ _ | with_reducible exact Below.refl _ _ | assumption | (simp; done) | (simp; omega) | omega)
 clear hW
 refine (here_calls k A c ns m r bk W (Hk.out.step B0) (HD.out.step B0) HL.out.1 HL.out.2.1).mono ?_
 rintro e w1 h
 obtain ⟨hb, A7, c7, ev, rfl, h7, hE, hEr⟩ := (show HereR ns k.at_ W e w1 from h)
 rcases hEr with ⟨_, rfl⟩ | ⟨h0, _⟩
 case inr => exact absurd HQ.out.1 h0
 have h7' := Lib.hid h7
 clear h7
 have hE2 := Es.step hE hb
 have C := B0.trans (hb.mono B0.size)
 replace BB := Lib.hid (BB.out.trans (C.mono BB.out.size))
 replace HWb := Lib.hid (HWb.out.step C)
 replace HD := Lib.hid (HD.out.step C)
 replace HP := Lib.hid (HP.out.step C)
 replace HS := Lib.hid (HS.out.step C)
 try clear ik rk lk nk mk
 replace Hk := Lib.hid (Hk.out.step C)
 obtain ⟨ik, rk, lk, nk, mk⟩ := boxAll Hk.out
 have HE := Lib.hid hE2
 clear h hb C B0 W hE2 hE
 unfold nodeV
 go_wp2_with (first | (apply ld_row 48 8; (focus rfl); (focus go_simp); (focus (go_simp; rfl)); (focus (exact Tryd.underlying48)); (focus kernel_rfl)) | (apply st_row 48 8; (focus rfl); (focus rfl); (focus go_simp); (focus kernel_rfl); (focus rfl); (focus (first | (simp [Value.oneCell']; done) | (simp [Value.oneCell', Job.cells]; done)))) | fail)
 refine Code.at_ fun v2 hW => ?_
 have B0 : Below w1.heap.size w1 v2 := by rw [hW]; repeat' (first | with_reducible refine Below.alloc ?_ ?_ _ | with_reducible refine Below.setRow_ ?_ ?_ _ | with_reducible refine Below.setCell ?_ ?_ _ | with_reducible refine Below.drew ?_ | with_reducible refine Below.drewN_ ?_ _ | with_reducible exact Below.refl _ _ | assumption | (simp; done) | (simp; omega) | omega)
 have Hz := Lib.hid (show Box v2 (w1.heap.size) #[.int .i64 (getL ns k.at_).f0, .int .i64 (getL ns k.at_).f1, .int .i64 (getL ns k.at_).f2, .int .i64 (getL ns k.at_).f3, .int .i64 (getL ns k.at_).f4, .int .i64 (getL ns k.at_).f5, .string (getL ns k.at_).f6, .slice A7 (getL ns k.at_).f7.length c7] from ⟨_, by rw [hW]; (try rw [setRow_alloc, if_pos rfl]); exact blk_new _ (by first | rfl | simp)⟩)
 clear hW
 have C := B0
 replace BB := Lib.hid (BB.out.trans (C.mono BB.out.size))
 replace HWb := Lib.hid (HWb.out.step C)
 replace HD := Lib.hid (HD.out.step C)
 replace HP := Lib.hid (HP.out.step C)
 replace HS := Lib.hid (HS.out.step C)
 replace HE := Lib.hid (HE.out.step C)
 try clear ik rk lk nk mk
 replace Hk := Lib.hid (Hk.out.step C)
 obtain ⟨bz, hbz⟩ : ∃ b, b = w1.heap.size := ⟨_, rfl⟩
 rw [← hbz] at Hz ⊢
 clear hbz
 clear C B0
 have S0 : (isRow v2 bk = true ∧ isRow v2 bz = true) ∧ row v2 bk = (k.cells A c ns.length m r) ∧ row v2 bz = #[.int .i64 (getL ns k.at_).f0, .int .i64 (getL ns k.at_).f1, .int .i64 (getL ns k.at_).f2, .int .i64 (getL ns k.at_).f3, .int .i64 (getL ns k.at_).f4, .int .i64 (getL ns k.at_).f5, .string (getL ns k.at_).f6, .slice A7 (getL ns k.at_).f7.length c7] := ⟨⟨Hk.out.isRow, Hz.out.isRow⟩, Hk.out.row, Hz.out.row⟩
 refine reg0 10 (fun w' => (isRow w' bk = true ∧ isRow w' bz = true) ∧ row w' bk = (k.cells A c ns.length m r) ∧ row w' bz = #[.int .i64 (getL ns k.at_).f0, .int .i64 (getL ns k.at_).f1, .int .i64 (getL ns k.at_).f2, .int .i64 (getL ns k.at_).f3, .int .i64 (getL ns k.at_).f4, .int .i64 (getL ns k.at_).f5, .string (getL ns k.at_).f6, .slice A7 (getL ns k.at_).f7.length c7]) (by kernel_rfl) (by kernel_rfl) (by kernel_rfl) ?_ (fun l hg hHeld => ?_)
 ·(try dsimp only); exact S0
 (apply tkT 0 1 hg; (focus rfl); (focus rfl); (focus kernel_rfl); (focus (intro w0 hSw; (try dsimp only at hSw); go_simp; try (with_reducible rfl))); (focus assumption))
 try simp only [zP, zA, zZ, zS]
 (apply tkT 1 3 hg; (focus rfl); (focus rfl); (focus kernel_rfl); (focus (intro w0 hSw; (try dsimp only at hSw); go_simp; try (with_reducible rfl))); (focus assumption))
 try simp only [zP, zA, zZ, zS]
 (apply tkT 2 7 hg; (focus rfl); (focus rfl); (focus kernel_rfl); (focus (intro w0 hSw; (try dsimp only at hSw); go_simp; try (with_reducible rfl))); (focus assumption))
 try simp only [zP, zA, zZ, zS]
 (apply tkT 3 15 hg; (focus rfl); (focus rfl); (focus kernel_rfl); (focus (intro w0 hSw; (try dsimp only at hSw); go_simp; try (with_reducible rfl))); (focus assumption))
 try simp only [zP, zA, zZ, zS]
 (apply tkT 4 31 hg; (focus rfl); (focus rfl); (focus kernel_rfl); (focus (intro w0 hSw; (try dsimp only at hSw); go_simp; try (with_reducible rfl))); (focus assumption))
 try simp only [zP, zA, zZ, zS]
 (apply tkT 5 63 hg; (focus rfl); (focus rfl); (focus kernel_rfl); (focus (intro w0 hSw; (try dsimp only at hSw); go_simp; try (with_reducible rfl))); (focus assumption))
 try simp only [zP, zA, zZ, zS]
 (apply tkT 6 127 hg; (focus rfl); (focus rfl); (focus kernel_rfl); (focus (intro w0 hSw; (try dsimp only at hSw); go_simp; try (with_reducible rfl))); (focus assumption))
 try simp only [zP, zA, zZ, zS]
 (apply tkT 7 255 hg; (focus rfl); (focus rfl); (focus kernel_rfl); (focus (intro w0 hSw; (try dsimp only at hSw); go_simp; try (with_reducible rfl))); (focus assumption))
 try simp only [zP, zA, zZ, zS]
 (apply act1 8 511 hg; (focus rfl); (focus rfl); (focus kernel_rfl))
 intro K hK
 go_simp
 refine (may_calls _ _ _ _ _).mono ?_
 rintro e u ⟨rfl, rfl⟩
 rw [HQ.out.2.1]
 refine hK.out _ _ ?_ (fun hHeld => ?_)
 ·(try dsimp only); exact S0
 clear hK K
 try simp only [zP, zA, zZ, zS]
 (apply tkT 9 1023 hg; (focus rfl); (focus rfl); (focus kernel_rfl); (focus (intro w0 hSw; (try dsimp only at hSw); go_simp; try (with_reducible rfl))); (focus assumption))
 try simp only [zP, zA, zZ, zS]
 refine actE hg (by kernel_rfl) ?_
 clear S0
 go_wp2_with fail
 have HS2 := Lib.hid (HS.out.step (Below.refl _ _).drew)
 go_ret
 exact ⟨Gro.of_below (Below.alloc HS2.out (Below.size HS2.out) _), _, rfl, ⟨_, blk_new _ rfl⟩⟩
end Go.Proofs.YthagmakojbfmaaaDoor.Ext
