/- The walker: the directory to which the way has come. -/
import Derived.Test.YthagmakojbfmaaaDoorBx
set_option linter.unusedVariables false
set_option linter.unusedSimpArgs false
namespace Go.Proofs.YthagmakojbfmaaaDoor.Ext
open Go Go.RowKit Go.Proofs.YthagmakojbfmaaaDoor Go.Proofs.YthagmakojbfmaaaDoorW.PrintWords
def HereR (l : List S48) (at_ : Int) (w : World) (e : Ending) (w' : World) : Prop :=
 Below w.heap.size w w' ∧ ∃ A7 c7 ev, e = .returned (.tuple #[nodeV (getL l at_) A7 c7, ev]) ∧ (getL l at_).f7.length ≤ c7 ∧ Es w A7 (getL l at_).f7 ∧ ErrV w' ev (hereB l at_)
theorem keep2 {W w1 : World} (hb : Below W.heap.size W w1) {b1 b2 : Nat} {c1 c2 : Array Value} (h : (isRow W b1 = true ∧ isRow W b2 = true) ∧ row W b1 = c1 ∧ row W b2 = c2) : (isRow w1 b1 = true ∧ isRow w1 b2 = true) ∧ row w1 b1 = c1 ∧ row w1 b2 = c2 := by
 obtain ⟨⟨i1, i2⟩, r1, r2⟩ := h
 exact ⟨⟨isRow_call hb i1, isRow_call hb i2⟩, row_call hb i1 r1, row_call hb i2 r2⟩
attribute [local go_sem] isRow_drew row_drew isRow_drewN row_drewN cell_isRow rowSz_isRow isHead_ptr blockOf_ptr row_alloc isRow_alloc rowSz_alloc setRow_alloc isRow_setRow isRow_setCell isRow_frozen setCell_setRow_same setCell_setRow_other cell_setRow_same' cell_setRow_other' frozen_setRow' row_setRow_same row_setRow_other rowSz_setRow_same rowSz_setRow_other setRow_setRow_same' setRow_comm' ne_l2 ne_r2 ne_l3 ne_r3 ne_l4 ne_r4 ne_l5 ne_r5 ne_l6 ne_r6 ne_l7 ne_r7 ne_l8 ne_r8 wk_len
theorem ldx_48 {ρ : Operand → Value} {dst : Option Tmp} {tt : TypeId} {pos : String} {after : Array Edge} {gd : Option (Nat × Bool)} {x : Operand} {w : World} (h1 : isHead (ρ x) = true) (h2 : rowSz w (blockOf (ρ x)) 8 = true) : (execOp ρ { dst := dst, op := .load 48 x, type := tt, pos := pos, after := after, guard := gd }).run Tryd.prog w = .ok (.value (.agg (row w (blockOf (ρ x))))) w := ld_exec 48 8 Tryd.underlying48 (by kernel_rfl) h1 h2
attribute [local go_sem ↓] ldx_48
attribute [local go_sem ↓] Go.wp_at_zero Go.wp_at_succ
set_option maxRecDepth 100000 in
set_option maxHeartbeats 4000000 in
theorem here_no (k : Wk) (A : Option Addr) (c : Nat) (ns : List S48) (m r : Int) (bk : Nat) (w : World) (hk : Box w bk (k.cells A c ns.length m r)) (hd : Dk w A ns) (hc : ns.length ≤ c) (hl : ns.length ≤ 1000000) (hgB : getB ns k.at_ = false) :
  Calls Tryd.prog 38 #[.pointer (some ⟨bk, 0, none⟩)] w (HereR ns k.at_ w) := by
 have Hk := Lib.hid hk
 have HD := Lib.hid (And.intro hd (And.intro hc hl))
 clear hk hd hc hl
 have HQ := Lib.hid hgB
 have hw := wk_eq
 obtain ⟨ik, rk, lk, nk, mk⟩ := boxAll Hk.out
 go_enter Tryd.func38, Tryd.ntmps38
 go_wp2_with (first | (apply ld_row 48 8; (focus rfl); (focus go_simp); (focus (go_simp; rfl)); (focus (exact Tryd.underlying48)); (focus kernel_rfl)) | (apply st_row 48 8; (focus rfl); (focus rfl); (focus go_simp); (focus kernel_rfl); (focus rfl); (focus (first | (simp [Value.oneCell']; done) | (simp [Value.oneCell', Job.cells]; done)))) | fail)
 refine Code.at_ fun v1 hW => ?_
 have B0 : Below w.heap.size w v1 := by rw [hW]; repeat' (first | with_reducible refine Below.alloc ?_ ?_ _ | with_reducible refine Below.setRow_ ?_ ?_ _ | with_reducible refine Below.setCell ?_ ?_ _ | with_reducible refine Below.drew ?_ | with_reducible refine Below.drewN_ ?_ _ | with_reducible exact Below.refl _ _ | assumption | (simp; done) | (simp; omega) | omega)
 have Hr := Lib.hid (show Box v1 (w.heap.size) #[.int .i64 0, .int .i64 0, .int .i64 0, .int .i64 0, .int .i64 0, .int .i64 0, .string ⟨#[]⟩, .slice none 0 0] from ⟨_, by rw [hW]; (try rw [setRow_alloc, if_pos rfl]); exact blk_new _ (by first | rfl | simp)⟩)
 clear hW
 have C := B0
 have BB := Lib.hid C
 clear ik rk lk nk mk
 replace Hk := Lib.hid (Hk.out.step C)
 obtain ⟨br, hbr⟩ : ∃ b, b = w.heap.size := ⟨_, rfl⟩
 rw [← hbr] at Hr ⊢
 have gr : w.heap.size ≤ br := by rw [hbr]; first | exact Nat.le_refl _ | exact Nat.le_add_right _ _ | omega
 clear hbr
 clear C B0
 have D0 : Below v1.heap.size v1 v1.drew := (Below.refl _ _).drew
 have S0 : (isRow v1.drew bk = true ∧ isRow v1.drew br = true) ∧ row v1.drew bk = (k.cells A c ns.length m r) ∧ row v1.drew br = #[.int .i64 0, .int .i64 0, .int .i64 0, .int .i64 0, .int .i64 0, .int .i64 0, .string ⟨#[]⟩, .slice none 0 0] := ⟨⟨Hk.out.isRow, Hr.out.isRow⟩, Hk.out.row, Hr.out.row⟩
 replace D0 := Lib.hid D0
 refine reg0 15 (fun w' => (isRow w' bk = true ∧ isRow w' br = true) ∧ row w' bk = (k.cells A c ns.length m r) ∧ row w' br = #[.int .i64 0, .int .i64 0, .int .i64 0, .int .i64 0, .int .i64 0, .int .i64 0, .string ⟨#[]⟩, .slice none 0 0]) (by kernel_rfl) (by kernel_rfl) (by kernel_rfl) ?_ (fun l hg hHeld => ?_)
 ·(try dsimp only); exact S0
 (apply tkT 0 1 hg; (focus rfl); (focus rfl); (focus kernel_rfl); (focus (intro w0 hSw; (try dsimp only at hSw); go_simp; try (with_reducible rfl))); (focus assumption))
 try simp only [zP, zA, zZ, zS]
 (apply tkT 1 3 hg; (focus rfl); (focus rfl); (focus kernel_rfl); (focus (intro w0 hSw; (try dsimp only at hSw); go_simp; try (with_reducible rfl))); (focus assumption))
 try simp only [zP, zA, zZ, zS]
 (apply tkT 2 7 hg; (focus rfl); (focus rfl); (focus kernel_rfl); (focus (intro w0 hSw; (try dsimp only at hSw); go_simp; try (with_reducible rfl))); (focus assumption))
 try simp only [zP, zA, zZ, zS]
 (apply tkT 3 15 hg; (focus rfl); (focus rfl); (focus kernel_rfl); (focus (intro w0 hSw; (try dsimp only at hSw); go_simp; try (with_reducible rfl))); (focus assumption))
 try simp only [zP, zA, zZ, zS]
 (apply tkT 4 31 hg; (focus rfl); (focus rfl); (focus kernel_rfl); (focus (intro w0 hSw; (try dsimp only at hSw); go_simp; try (with_reducible rfl))); (focus assumption))
 try simp only [zP, zA, zZ, zS]
 (apply tkT 5 63 hg; (focus rfl); (focus rfl); (focus kernel_rfl); (focus (intro w0 hSw; (try dsimp only at hSw); go_simp; try (with_reducible rfl))); (focus assumption))
 try simp only [zP, zA, zZ, zS]
 (apply tkT 6 127 hg; (focus rfl); (focus rfl); (focus kernel_rfl); (focus (intro w0 hSw; (try dsimp only at hSw); go_simp; try (with_reducible rfl))); (focus assumption))
 try simp only [zP, zA, zZ, zS]
 (apply tkT 7 255 hg; (focus rfl); (focus rfl); (focus kernel_rfl); (focus (intro w0 hSw; (try dsimp only at hSw); go_simp; try (with_reducible rfl))); (focus assumption))
 try simp only [zP, zA, zZ, zS]
 refine act2 8 12 511 4351 hg rfl rfl (by rfl) (by rfl) (by kernel_rfl) ?_ ?_
 ·intro K hK
  go_simp
  refine (get_calls A c ns m r k.at_ w _ (BB.out.trans (D0.out.mono BB.out.size)) HD.out.1 HD.out.2.1 HD.out.2.2).mono ?_
  rintro e u2_1 h
  have h' := h
  obtain ⟨A7, c7, rfl, h7, hE, hb⟩ := h'
  have HE := Lib.hid (And.intro h7 hE)
  clear h7 hE
  unfold nodeV
  replace D0 := Lib.hid (D0.out.trans (hb.mono D0.out.size))
  replace S0 := keep2 hb S0
  clear hb h
  refine hK.out _ _ ?_ (fun hHeld => ?_)
  ·(try dsimp only); exact S0
  clear hK K
  try simp only [zP, zA, zZ, zS]
  (apply tkT 9 1023 hg; (focus rfl); (focus rfl); (focus kernel_rfl); (focus (intro w0 hSw; (try dsimp only at hSw); go_simp; try (with_reducible rfl))); (focus assumption))
  try simp only [zP, zA, zZ, zS]
  (apply tkT 10 2047 hg; (focus rfl); (focus rfl); (focus kernel_rfl); (focus (intro w0 hSw; (try dsimp only at hSw); go_simp; try (with_reducible rfl))); (focus assumption))
  try simp only [zP, zA, zZ, zS]
  (apply tkT 11 4095 hg; (focus rfl); (focus rfl); (focus kernel_rfl); (focus (intro w0 hSw; (try dsimp only at hSw); go_simp; try (with_reducible rfl))); (focus assumption))
  try simp only [zP, zA, zZ, zS]
  (apply act1 12 8191 hg; (focus rfl); (focus rfl); (focus kernel_rfl))
  intro K hK
  go_simp
  refine K_at (K := K) fun u2_2 hW => ?_
  have hb : Below u2_1.heap.size u2_1 u2_2 := by rw [hW]; exact (Below.refl _ _).alloc (Nat.le_refl _) _
  have Y : Box u2_2 u2_1.heap.size #[.int .i64 0, .int .i64 0, .int .i64 0, .int .i64 0, .int .i64 0, .int .i64 0, .string ⟨#[]⟩, .slice none 0 0] := ⟨_, by rw [hW]; exact blk_new _ rfl⟩
  obtain ⟨bo, hbx⟩ : ∃ b, b = u2_1.heap.size := ⟨_, rfl⟩
  try simp only [drew_size] at hbx Y
  rw [← hbx] at Y ⊢
  have hbl : v1.heap.size ≤ bo := by rw [hbx]; exact D0.out.size
  have Ho := Lib.hid Y
  clear hW Y hbx
  replace D0 := Lib.hid (D0.out.trans (hb.mono D0.out.size))
  replace S0 := keep2 hb S0
  clear hb
  refine hK.out _ _ ?_ (fun hHeld => ?_)
  ·(try dsimp only); exact S0
  clear hK K
  try simp only [zP, zA, zZ, zS]
  (apply act1 13 16383 hg; (focus rfl); (focus rfl); (focus kernel_rfl))
  intro K hK
  have i_ := Ho.out.isRow; have r_ := Ho.out.row
  (apply wp_st_row 48 8; (focus rfl); (focus rfl); (focus go_simp); (focus kernel_rfl); (focus rfl); (focus (first | (simp [Value.oneCell']; done) | (simp [Value.oneCell', Job.cells]; done))))
  refine K_at (K := K) fun u2_3 hW => ?_
  have hb : Below bo u2_2 u2_3 := by rw [hW]; exact Below.setRow_ (Below.refl _ _) (Nat.le_refl _) _
  have Y : Box u2_3 bo #[.int .i64 (getL ns k.at_).f0, .int .i64 (getL ns k.at_).f1, .int .i64 (getL ns k.at_).f2, .int .i64 (getL ns k.at_).f3, .int .i64 (getL ns k.at_).f4, .int .i64 (getL ns k.at_).f5, .string (getL ns k.at_).f6, .slice A7 (getL ns k.at_).f7.length c7] := by obtain ⟨t, h⟩ := Ho.out; exact ⟨t, by rw [hW]; exact blk_row h⟩
  clear hW i_ r_
  replace D0 := Lib.hid (D0.out.trans (hb.mono hbl))
  have S1 : (isRow u2_3 bk = true ∧ isRow u2_3 br = true) ∧ row u2_3 bk = (k.cells A c ns.length m r) ∧ row u2_3 br = #[.int .i64 0, .int .i64 0, .int .i64 0, .int .i64 0, .int .i64 0, .int .i64 0, .string ⟨#[]⟩, .slice none 0 0] := keep2 D0.out (⟨⟨Hk.out.isRow, Hr.out.isRow⟩, Hk.out.row, Hr.out.row⟩)
  clear S0
  have S0 := S1
  clear S1
  replace Ho := Lib.hid Y
  clear hb Y hbl
  refine hK.out _ _ ?_ (fun hHeld => ?_)
  ·(try dsimp only); exact S0
  clear hK K
  try simp only [zP, zA, zZ, zS]
  (apply tkT 14 32767 hg; (focus rfl); (focus rfl); (focus kernel_rfl); (focus (intro w0 hSw; (try dsimp only at hSw); go_simp; try (with_reducible rfl))); (focus assumption))
  try simp only [zP, zA, zZ, zS]
  refine actE hg (by kernel_rfl) ?_
  have C := D0.out
  replace BB := Lib.hid (BB.out.trans (C.mono BB.out.size))
  replace Hk := Lib.hid (Hk.out.step C)
  replace Hr := Lib.hid (Hr.out.step C)
  clear C D0 S0
  obtain ⟨ik, rk, lk, nk, mk⟩ := boxAll Hk.out
  obtain ⟨ir, rr, lr, nr, mr⟩ := boxAll Hr.out
  obtain ⟨io, ro, lo, no, mo⟩ := boxAll Ho.out
  go_wp2_with (first | (apply ld_row 48 8; (focus rfl); (focus go_simp); (focus (go_simp; rfl)); (focus (exact Tryd.underlying48)); (focus kernel_rfl)) | (apply st_row 48 8; (focus rfl); (focus rfl); (focus go_simp); (focus kernel_rfl); (focus rfl); (focus (first | (simp [Value.oneCell']; done) | (simp [Value.oneCell', Job.cells]; done)))) | fail)
  refine ret_row_tmp (n := 8) (cs := #[.int .i64 (getL ns k.at_).f0, .int .i64 (getL ns k.at_).f1, .int .i64 (getL ns k.at_).f2, .int .i64 (getL ns k.at_).f3, .int .i64 (getL ns k.at_).f4, .int .i64 (getL ns k.at_).f5, .string (getL ns k.at_).f6, .slice A7 (getL ns k.at_).f7.length c7]) rfl rfl rfl (by go_simp) (by go_simp) Tryd.underlying48 (by kernel_rfl) rfl ?_
  refine ⟨?_, A7, c7, _, (by first | rfl | (unfold nodeV; rw [HQ.out.2]; rfl)), HE.out.1, HE.out.2, ?_⟩
  ·repeat' (first | with_reducible refine Below.alloc ?_ ?_ _ | with_reducible refine Below.setRow_ ?_ ?_ _ | exact BB.out | omega | (have := BB.out.size; simp; omega) | exact BB.out.size)
  ·rw [show hereB ns k.at_ = 2 by unfold hereB; simp [HQ.out]]; exact .inr ⟨by decide, _, rfl, _, blk_new _ (by simp)⟩
 ·intro K hK
  go_simp
  refine K_at (K := K) fun u2_1 hW => ?_
  have hb : Below v1.drew.heap.size v1.drew u2_1 := by rw [hW]; exact (Below.refl _ _).alloc (Nat.le_refl _) _
  have Y : Box u2_1 v1.drew.heap.size #[.int .i64 0, .int .i64 0, .int .i64 0, .int .i64 0, .int .i64 0, .int .i64 0, .string ⟨#[]⟩, .slice none 0 0] := ⟨_, by rw [hW]; exact blk_new _ rfl⟩
  obtain ⟨bo, hbx⟩ : ∃ b, b = v1.drew.heap.size := ⟨_, rfl⟩
  try simp only [drew_size] at hbx Y
  rw [← hbx] at Y ⊢
  have hbl : v1.heap.size ≤ bo := by rw [hbx]; exact D0.out.size
  have Ho := Lib.hid Y
  clear hW Y hbx
  replace D0 := Lib.hid (D0.out.trans (hb.mono D0.out.size))
  replace S0 := keep2 hb S0
  clear hb
  refine hK.out _ _ ?_ (fun hHeld => ?_)
  ·(try dsimp only); exact S0
  clear hK K
  try simp only [zP, zA, zZ, zS]
  (apply act1 8 4607 hg; (focus rfl); (focus rfl); (focus kernel_rfl))
  intro K hK
  go_simp
  refine (get_calls A c ns m r k.at_ w _ (BB.out.trans (D0.out.mono BB.out.size)) HD.out.1 HD.out.2.1 HD.out.2.2).mono ?_
  rintro e u2_2 h
  have h' := h
  obtain ⟨A7, c7, rfl, h7, hE, hb⟩ := h'
  have HE := Lib.hid (And.intro h7 hE)
  clear h7 hE
  unfold nodeV
  replace D0 := Lib.hid (D0.out.trans (hb.mono D0.out.size))
  replace S0 := keep2 hb S0
  replace Ho := Lib.hid (Ho.out.step hb)
  clear hb h
  refine hK.out _ _ ?_ (fun hHeld => ?_)
  ·(try dsimp only); exact S0
  clear hK K
  try simp only [zP, zA, zZ, zS]
  (apply tkT 9 5119 hg; (focus rfl); (focus rfl); (focus kernel_rfl); (focus (intro w0 hSw; (try dsimp only at hSw); go_simp; try (with_reducible rfl))); (focus assumption))
  try simp only [zP, zA, zZ, zS]
  (apply tkT 10 6143 hg; (focus rfl); (focus rfl); (focus kernel_rfl); (focus (intro w0 hSw; (try dsimp only at hSw); go_simp; try (with_reducible rfl))); (focus assumption))
  try simp only [zP, zA, zZ, zS]
  (apply tkT 11 8191 hg; (focus rfl); (focus rfl); (focus kernel_rfl); (focus (intro w0 hSw; (try dsimp only at hSw); go_simp; try (with_reducible rfl))); (focus assumption))
  try simp only [zP, zA, zZ, zS]
  (apply act1 13 16383 hg; (focus rfl); (focus rfl); (focus kernel_rfl))
  intro K hK
  have i_ := Ho.out.isRow; have r_ := Ho.out.row
  (apply wp_st_row 48 8; (focus rfl); (focus rfl); (focus go_simp); (focus kernel_rfl); (focus rfl); (focus (first | (simp [Value.oneCell']; done) | (simp [Value.oneCell', Job.cells]; done))))
  refine K_at (K := K) fun u2_3 hW => ?_
  have hb : Below bo u2_2 u2_3 := by rw [hW]; exact Below.setRow_ (Below.refl _ _) (Nat.le_refl _) _
  have Y : Box u2_3 bo #[.int .i64 (getL ns k.at_).f0, .int .i64 (getL ns k.at_).f1, .int .i64 (getL ns k.at_).f2, .int .i64 (getL ns k.at_).f3, .int .i64 (getL ns k.at_).f4, .int .i64 (getL ns k.at_).f5, .string (getL ns k.at_).f6, .slice A7 (getL ns k.at_).f7.length c7] := by obtain ⟨t, h⟩ := Ho.out; exact ⟨t, by rw [hW]; exact blk_row h⟩
  clear hW i_ r_
  replace D0 := Lib.hid (D0.out.trans (hb.mono hbl))
  have S1 : (isRow u2_3 bk = true ∧ isRow u2_3 br = true) ∧ row u2_3 bk = (k.cells A c ns.length m r) ∧ row u2_3 br = #[.int .i64 0, .int .i64 0, .int .i64 0, .int .i64 0, .int .i64 0, .int .i64 0, .string ⟨#[]⟩, .slice none 0 0] := keep2 D0.out (⟨⟨Hk.out.isRow, Hr.out.isRow⟩, Hk.out.row, Hr.out.row⟩)
  clear S0
  have S0 := S1
  clear S1
  replace Ho := Lib.hid Y
  clear hb Y hbl
  refine hK.out _ _ ?_ (fun hHeld => ?_)
  ·(try dsimp only); exact S0
  clear hK K
  try simp only [zP, zA, zZ, zS]
  (apply tkT 14 32767 hg; (focus rfl); (focus rfl); (focus kernel_rfl); (focus (intro w0 hSw; (try dsimp only at hSw); go_simp; try (with_reducible rfl))); (focus assumption))
  try simp only [zP, zA, zZ, zS]
  refine actE hg (by kernel_rfl) ?_
  have C := D0.out
  replace BB := Lib.hid (BB.out.trans (C.mono BB.out.size))
  replace Hk := Lib.hid (Hk.out.step C)
  replace Hr := Lib.hid (Hr.out.step C)
  clear C D0 S0
  obtain ⟨ik, rk, lk, nk, mk⟩ := boxAll Hk.out
  obtain ⟨ir, rr, lr, nr, mr⟩ := boxAll Hr.out
  obtain ⟨io, ro, lo, no, mo⟩ := boxAll Ho.out
  go_wp2_with (first | (apply ld_row 48 8; (focus rfl); (focus go_simp); (focus (go_simp; rfl)); (focus (exact Tryd.underlying48)); (focus kernel_rfl)) | (apply st_row 48 8; (focus rfl); (focus rfl); (focus go_simp); (focus kernel_rfl); (focus rfl); (focus (first | (simp [Value.oneCell']; done) | (simp [Value.oneCell', Job.cells]; done)))) | fail)
  refine ret_row_tmp (n := 8) (cs := #[.int .i64 (getL ns k.at_).f0, .int .i64 (getL ns k.at_).f1, .int .i64 (getL ns k.at_).f2, .int .i64 (getL ns k.at_).f3, .int .i64 (getL ns k.at_).f4, .int .i64 (getL ns k.at_).f5, .string (getL ns k.at_).f6, .slice A7 (getL ns k.at_).f7.length c7]) rfl rfl rfl (by go_simp) (by go_simp) Tryd.underlying48 (by kernel_rfl) rfl ?_
  refine ⟨?_, A7, c7, _, (by first | rfl | (unfold nodeV; rw [HQ.out.2]; rfl)), HE.out.1, HE.out.2, ?_⟩
  ·repeat' (first | with_reducible refine Below.alloc ?_ ?_ _ | with_reducible refine Below.setRow_ ?_ ?_ _ | exact BB.out | omega | (have := BB.out.size; simp; omega) | exact BB.out.size)
  ·rw [show hereB ns k.at_ = 2 by unfold hereB; simp [HQ.out]]; exact .inr ⟨by decide, _, rfl, _, blk_new _ (by simp)⟩
set_option maxRecDepth 100000 in
set_option maxHeartbeats 4000000 in
theorem here_not (k : Wk) (A : Option Addr) (c : Nat) (ns : List S48) (m r : Int) (bk : Nat) (w : World) (hk : Box w bk (k.cells A c ns.length m r)) (hd : Dk w A ns) (hc : ns.length ≤ c) (hl : ns.length ≤ 1000000) (hgB : getB ns k.at_ = true) (hK : ¬ (getL ns k.at_).f0 = 2) :
  Calls Tryd.prog 38 #[.pointer (some ⟨bk, 0, none⟩)] w (HereR ns k.at_ w) := by
 have Hk := Lib.hid hk
 have HD := Lib.hid (And.intro hd (And.intro hc hl))
 clear hk hd hc hl
 have HQ := Lib.hid (And.intro hgB hK)
 have hw := wk_eq
 obtain ⟨ik, rk, lk, nk, mk⟩ := boxAll Hk.out
 go_enter Tryd.func38, Tryd.ntmps38
 go_wp2_with (first | (apply ld_row 48 8; (focus rfl); (focus go_simp); (focus (go_simp; rfl)); (focus (exact Tryd.underlying48)); (focus kernel_rfl)) | (apply st_row 48 8; (focus rfl); (focus rfl); (focus go_simp); (focus kernel_rfl); (focus rfl); (focus (first | (simp [Value.oneCell']; done) | (simp [Value.oneCell', Job.cells]; done)))) | fail)
 refine Code.at_ fun v1 hW => ?_
 have B0 : Below w.heap.size w v1 := by rw [hW]; repeat' (first | with_reducible refine Below.alloc ?_ ?_ _ | with_reducible refine Below.setRow_ ?_ ?_ _ | with_reducible refine Below.setCell ?_ ?_ _ | with_reducible refine Below.drew ?_ | with_reducible refine Below.drewN_ ?_ _ | with_reducible exact Below.refl _ _ | assumption | (simp; done) | (simp; omega) | omega)
 have Hr := Lib.hid (show Box v1 (w.heap.size) #[.int .i64 0, .int .i64 0, .int .i64 0, .int .i64 0, .int .i64 0, .int .i64 0, .string ⟨#[]⟩, .slice none 0 0] from ⟨_, by rw [hW]; (try rw [setRow_alloc, if_pos rfl]); exact blk_new _ (by first | rfl | simp)⟩)
 clear hW
 have C := B0
 have BB := Lib.hid C
 clear ik rk lk nk mk
 replace Hk := Lib.hid (Hk.out.step C)
 obtain ⟨br, hbr⟩ : ∃ b, b = w.heap.size := ⟨_, rfl⟩
 rw [← hbr] at Hr ⊢
 have gr : w.heap.size ≤ br := by rw [hbr]; first | exact Nat.le_refl _ | exact Nat.le_add_right _ _ | omega
 clear hbr
 clear C B0
 have D0 : Below v1.heap.size v1 v1.drew := (Below.refl _ _).drew
 have S0 : (isRow v1.drew bk = true ∧ isRow v1.drew br = true) ∧ row v1.drew bk = (k.cells A c ns.length m r) ∧ row v1.drew br = #[.int .i64 0, .int .i64 0, .int .i64 0, .int .i64 0, .int .i64 0, .int .i64 0, .string ⟨#[]⟩, .slice none 0 0] := ⟨⟨Hk.out.isRow, Hr.out.isRow⟩, Hk.out.row, Hr.out.row⟩
 replace D0 := Lib.hid D0
 refine reg0 15 (fun w' => (isRow w' bk = true ∧ isRow w' br = true) ∧ row w' bk = (k.cells A c ns.length m r) ∧ row w' br = #[.int .i64 0, .int .i64 0, .int .i64 0, .int .i64 0, .int .i64 0, .int .i64 0, .string ⟨#[]⟩, .slice none 0 0]) (by kernel_rfl) (by kernel_rfl) (by kernel_rfl) ?_ (fun l hg hHeld => ?_)
 ·(try dsimp only); exact S0
 (apply tkT 0 1 hg; (focus rfl); (focus rfl); (focus kernel_rfl); (focus (intro w0 hSw; (try dsimp only at hSw); go_simp; try (with_reducible rfl))); (focus assumption))
 try simp only [zP, zA, zZ, zS]
 (apply tkT 1 3 hg; (focus rfl); (focus rfl); (focus kernel_rfl); (focus (intro w0 hSw; (try dsimp only at hSw); go_simp; try (with_reducible rfl))); (focus assumption))
 try simp only [zP, zA, zZ, zS]
 (apply tkT 2 7 hg; (focus rfl); (focus rfl); (focus kernel_rfl); (focus (intro w0 hSw; (try dsimp only at hSw); go_simp; try (with_reducible rfl))); (focus assumption))
 try simp only [zP, zA, zZ, zS]
 (apply tkT 3 15 hg; (focus rfl); (focus rfl); (focus kernel_rfl); (focus (intro w0 hSw; (try dsimp only at hSw); go_simp; try (with_reducible rfl))); (focus assumption))
 try simp only [zP, zA, zZ, zS]
 (apply tkT 4 31 hg; (focus rfl); (focus rfl); (focus kernel_rfl); (focus (intro w0 hSw; (try dsimp only at hSw); go_simp; try (with_reducible rfl))); (focus assumption))
 try simp only [zP, zA, zZ, zS]
 (apply tkT 5 63 hg; (focus rfl); (focus rfl); (focus kernel_rfl); (focus (intro w0 hSw; (try dsimp only at hSw); go_simp; try (with_reducible rfl))); (focus assumption))
 try simp only [zP, zA, zZ, zS]
 (apply tkT 6 127 hg; (focus rfl); (focus rfl); (focus kernel_rfl); (focus (intro w0 hSw; (try dsimp only at hSw); go_simp; try (with_reducible rfl))); (focus assumption))
 try simp only [zP, zA, zZ, zS]
 (apply tkT 7 255 hg; (focus rfl); (focus rfl); (focus kernel_rfl); (focus (intro w0 hSw; (try dsimp only at hSw); go_simp; try (with_reducible rfl))); (focus assumption))
 try simp only [zP, zA, zZ, zS]
 refine act2 8 12 511 4351 hg rfl rfl (by rfl) (by rfl) (by kernel_rfl) ?_ ?_
 ·intro K hK
  go_simp
  refine (get_calls A c ns m r k.at_ w _ (BB.out.trans (D0.out.mono BB.out.size)) HD.out.1 HD.out.2.1 HD.out.2.2).mono ?_
  rintro e u2_1 h
  have h' := h
  obtain ⟨A7, c7, rfl, h7, hE, hb⟩ := h'
  have HE := Lib.hid (And.intro h7 hE)
  clear h7 hE
  unfold nodeV
  replace D0 := Lib.hid (D0.out.trans (hb.mono D0.out.size))
  replace S0 := keep2 hb S0
  clear hb h
  refine hK.out _ _ ?_ (fun hHeld => ?_)
  ·(try dsimp only); exact S0
  clear hK K
  try simp only [zP, zA, zZ, zS]
  (apply tkT 9 1023 hg; (focus rfl); (focus rfl); (focus kernel_rfl); (focus (intro w0 hSw; (try dsimp only at hSw); go_simp; try (with_reducible rfl))); (focus assumption))
  try simp only [zP, zA, zZ, zS]
  (apply tkT 10 2047 hg; (focus rfl); (focus rfl); (focus kernel_rfl); (focus (intro w0 hSw; (try dsimp only at hSw); go_simp; try (with_reducible rfl))); (focus assumption))
  try simp only [zP, zA, zZ, zS]
  (apply tkT 11 4095 hg; (focus rfl); (focus rfl); (focus kernel_rfl); (focus (intro w0 hSw; (try dsimp only at hSw); go_simp; try (with_reducible rfl))); (focus assumption))
  try simp only [zP, zA, zZ, zS]
  (apply act1 12 8191 hg; (focus rfl); (focus rfl); (focus kernel_rfl))
  intro K hK
  go_simp
  refine K_at (K := K) fun u2_2 hW => ?_
  have hb : Below u2_1.heap.size u2_1 u2_2 := by rw [hW]; exact (Below.refl _ _).alloc (Nat.le_refl _) _
  have Y : Box u2_2 u2_1.heap.size #[.int .i64 0, .int .i64 0, .int .i64 0, .int .i64 0, .int .i64 0, .int .i64 0, .string ⟨#[]⟩, .slice none 0 0] := ⟨_, by rw [hW]; exact blk_new _ rfl⟩
  obtain ⟨bo, hbx⟩ : ∃ b, b = u2_1.heap.size := ⟨_, rfl⟩
  try simp only [drew_size] at hbx Y
  rw [← hbx] at Y ⊢
  have hbl : v1.heap.size ≤ bo := by rw [hbx]; exact D0.out.size
  have Ho := Lib.hid Y
  clear hW Y hbx
  replace D0 := Lib.hid (D0.out.trans (hb.mono D0.out.size))
  replace S0 := keep2 hb S0
  clear hb
  refine hK.out _ _ ?_ (fun hHeld => ?_)
  ·(try dsimp only); exact S0
  clear hK K
  try simp only [zP, zA, zZ, zS]
  (apply act1 13 16383 hg; (focus rfl); (focus rfl); (focus kernel_rfl))
  intro K hK
  have i_ := Ho.out.isRow; have r_ := Ho.out.row
  (apply wp_st_row 48 8; (focus rfl); (focus rfl); (focus go_simp); (focus kernel_rfl); (focus rfl); (focus (first | (simp [Value.oneCell']; done) | (simp [Value.oneCell', Job.cells]; done))))
  refine K_at (K := K) fun u2_3 hW => ?_
  have hb : Below bo u2_2 u2_3 := by rw [hW]; exact Below.setRow_ (Below.refl _ _) (Nat.le_refl _) _
  have Y : Box u2_3 bo #[.int .i64 (getL ns k.at_).f0, .int .i64 (getL ns k.at_).f1, .int .i64 (getL ns k.at_).f2, .int .i64 (getL ns k.at_).f3, .int .i64 (getL ns k.at_).f4, .int .i64 (getL ns k.at_).f5, .string (getL ns k.at_).f6, .slice A7 (getL ns k.at_).f7.length c7] := by obtain ⟨t, h⟩ := Ho.out; exact ⟨t, by rw [hW]; exact blk_row h⟩
  clear hW i_ r_
  replace D0 := Lib.hid (D0.out.trans (hb.mono hbl))
  have S1 : (isRow u2_3 bk = true ∧ isRow u2_3 br = true) ∧ row u2_3 bk = (k.cells A c ns.length m r) ∧ row u2_3 br = #[.int .i64 0, .int .i64 0, .int .i64 0, .int .i64 0, .int .i64 0, .int .i64 0, .string ⟨#[]⟩, .slice none 0 0] := keep2 D0.out (⟨⟨Hk.out.isRow, Hr.out.isRow⟩, Hk.out.row, Hr.out.row⟩)
  clear S0
  have S0 := S1
  clear S1
  replace Ho := Lib.hid Y
  clear hb Y hbl
  refine hK.out _ _ ?_ (fun hHeld => ?_)
  ·(try dsimp only); exact S0
  clear hK K
  try simp only [zP, zA, zZ, zS]
  (apply tkT 14 32767 hg; (focus rfl); (focus rfl); (focus kernel_rfl); (focus (intro w0 hSw; (try dsimp only at hSw); go_simp; try (with_reducible rfl))); (focus assumption))
  try simp only [zP, zA, zZ, zS]
  refine actE hg (by kernel_rfl) ?_
  have C := D0.out
  replace BB := Lib.hid (BB.out.trans (C.mono BB.out.size))
  replace Hk := Lib.hid (Hk.out.step C)
  replace Hr := Lib.hid (Hr.out.step C)
  clear C D0 S0
  obtain ⟨ik, rk, lk, nk, mk⟩ := boxAll Hk.out
  obtain ⟨ir, rr, lr, nr, mr⟩ := boxAll Hr.out
  obtain ⟨io, ro, lo, no, mo⟩ := boxAll Ho.out
  go_wp2_with (first | (apply ld_row 48 8; (focus rfl); (focus go_simp); (focus (go_simp; rfl)); (focus (exact Tryd.underlying48)); (focus kernel_rfl)) | (apply st_row 48 8; (focus rfl); (focus rfl); (focus go_simp); (focus kernel_rfl); (focus rfl); (focus (first | (simp [Value.oneCell']; done) | (simp [Value.oneCell', Job.cells]; done)))) | fail)
  refine ret_row_tmp (n := 8) (cs := #[.int .i64 (getL ns k.at_).f0, .int .i64 (getL ns k.at_).f1, .int .i64 (getL ns k.at_).f2, .int .i64 (getL ns k.at_).f3, .int .i64 (getL ns k.at_).f4, .int .i64 (getL ns k.at_).f5, .string (getL ns k.at_).f6, .slice A7 (getL ns k.at_).f7.length c7]) rfl rfl rfl (by go_simp) (by go_simp) Tryd.underlying48 (by kernel_rfl) rfl ?_
  refine ⟨?_, A7, c7, _, (by first | rfl | (unfold nodeV; rw [HQ.out.2]; rfl)), HE.out.1, HE.out.2, ?_⟩
  ·repeat' (first | with_reducible refine Below.alloc ?_ ?_ _ | with_reducible refine Below.setRow_ ?_ ?_ _ | exact BB.out | omega | (have := BB.out.size; simp; omega) | exact BB.out.size)
  ·rw [show hereB ns k.at_ = 4 by unfold hereB; simp [HQ.out]]; exact .inr ⟨by decide, _, rfl, _, blk_new _ (by simp)⟩
 ·intro K hK
  go_simp
  refine K_at (K := K) fun u2_1 hW => ?_
  have hb : Below v1.drew.heap.size v1.drew u2_1 := by rw [hW]; exact (Below.refl _ _).alloc (Nat.le_refl _) _
  have Y : Box u2_1 v1.drew.heap.size #[.int .i64 0, .int .i64 0, .int .i64 0, .int .i64 0, .int .i64 0, .int .i64 0, .string ⟨#[]⟩, .slice none 0 0] := ⟨_, by rw [hW]; exact blk_new _ rfl⟩
  obtain ⟨bo, hbx⟩ : ∃ b, b = v1.drew.heap.size := ⟨_, rfl⟩
  try simp only [drew_size] at hbx Y
  rw [← hbx] at Y ⊢
  have hbl : v1.heap.size ≤ bo := by rw [hbx]; exact D0.out.size
  have Ho := Lib.hid Y
  clear hW Y hbx
  replace D0 := Lib.hid (D0.out.trans (hb.mono D0.out.size))
  replace S0 := keep2 hb S0
  clear hb
  refine hK.out _ _ ?_ (fun hHeld => ?_)
  ·(try dsimp only); exact S0
  clear hK K
  try simp only [zP, zA, zZ, zS]
  (apply act1 8 4607 hg; (focus rfl); (focus rfl); (focus kernel_rfl))
  intro K hK
  go_simp
  refine (get_calls A c ns m r k.at_ w _ (BB.out.trans (D0.out.mono BB.out.size)) HD.out.1 HD.out.2.1 HD.out.2.2).mono ?_
  rintro e u2_2 h
  have h' := h
  obtain ⟨A7, c7, rfl, h7, hE, hb⟩ := h'
  have HE := Lib.hid (And.intro h7 hE)
  clear h7 hE
  unfold nodeV
  replace D0 := Lib.hid (D0.out.trans (hb.mono D0.out.size))
  replace S0 := keep2 hb S0
  replace Ho := Lib.hid (Ho.out.step hb)
  clear hb h
  refine hK.out _ _ ?_ (fun hHeld => ?_)
  ·(try dsimp only); exact S0
  clear hK K
  try simp only [zP, zA, zZ, zS]
  (apply tkT 9 5119 hg; (focus rfl); (focus rfl); (focus kernel_rfl); (focus (intro w0 hSw; (try dsimp only at hSw); go_simp; try (with_reducible rfl))); (focus assumption))
  try simp only [zP, zA, zZ, zS]
  (apply tkT 10 6143 hg; (focus rfl); (focus rfl); (focus kernel_rfl); (focus (intro w0 hSw; (try dsimp only at hSw); go_simp; try (with_reducible rfl))); (focus assumption))
  try simp only [zP, zA, zZ, zS]
  (apply tkT 11 8191 hg; (focus rfl); (focus rfl); (focus kernel_rfl); (focus (intro w0 hSw; (try dsimp only at hSw); go_simp; try (with_reducible rfl))); (focus assumption))
  try simp only [zP, zA, zZ, zS]
  (apply act1 13 16383 hg; (focus rfl); (focus rfl); (focus kernel_rfl))
  intro K hK
  have i_ := Ho.out.isRow; have r_ := Ho.out.row
  (apply wp_st_row 48 8; (focus rfl); (focus rfl); (focus go_simp); (focus kernel_rfl); (focus rfl); (focus (first | (simp [Value.oneCell']; done) | (simp [Value.oneCell', Job.cells]; done))))
  refine K_at (K := K) fun u2_3 hW => ?_
  have hb : Below bo u2_2 u2_3 := by rw [hW]; exact Below.setRow_ (Below.refl _ _) (Nat.le_refl _) _
  have Y : Box u2_3 bo #[.int .i64 (getL ns k.at_).f0, .int .i64 (getL ns k.at_).f1, .int .i64 (getL ns k.at_).f2, .int .i64 (getL ns k.at_).f3, .int .i64 (getL ns k.at_).f4, .int .i64 (getL ns k.at_).f5, .string (getL ns k.at_).f6, .slice A7 (getL ns k.at_).f7.length c7] := by obtain ⟨t, h⟩ := Ho.out; exact ⟨t, by rw [hW]; exact blk_row h⟩
  clear hW i_ r_
  replace D0 := Lib.hid (D0.out.trans (hb.mono hbl))
  have S1 : (isRow u2_3 bk = true ∧ isRow u2_3 br = true) ∧ row u2_3 bk = (k.cells A c ns.length m r) ∧ row u2_3 br = #[.int .i64 0, .int .i64 0, .int .i64 0, .int .i64 0, .int .i64 0, .int .i64 0, .string ⟨#[]⟩, .slice none 0 0] := keep2 D0.out (⟨⟨Hk.out.isRow, Hr.out.isRow⟩, Hk.out.row, Hr.out.row⟩)
  clear S0
  have S0 := S1
  clear S1
  replace Ho := Lib.hid Y
  clear hb Y hbl
  refine hK.out _ _ ?_ (fun hHeld => ?_)
  ·(try dsimp only); exact S0
  clear hK K
  try simp only [zP, zA, zZ, zS]
  (apply tkT 14 32767 hg; (focus rfl); (focus rfl); (focus kernel_rfl); (focus (intro w0 hSw; (try dsimp only at hSw); go_simp; try (with_reducible rfl))); (focus assumption))
  try simp only [zP, zA, zZ, zS]
  refine actE hg (by kernel_rfl) ?_
  have C := D0.out
  replace BB := Lib.hid (BB.out.trans (C.mono BB.out.size))
  replace Hk := Lib.hid (Hk.out.step C)
  replace Hr := Lib.hid (Hr.out.step C)
  clear C D0 S0
  obtain ⟨ik, rk, lk, nk, mk⟩ := boxAll Hk.out
  obtain ⟨ir, rr, lr, nr, mr⟩ := boxAll Hr.out
  obtain ⟨io, ro, lo, no, mo⟩ := boxAll Ho.out
  go_wp2_with (first | (apply ld_row 48 8; (focus rfl); (focus go_simp); (focus (go_simp; rfl)); (focus (exact Tryd.underlying48)); (focus kernel_rfl)) | (apply st_row 48 8; (focus rfl); (focus rfl); (focus go_simp); (focus kernel_rfl); (focus rfl); (focus (first | (simp [Value.oneCell']; done) | (simp [Value.oneCell', Job.cells]; done)))) | fail)
  refine ret_row_tmp (n := 8) (cs := #[.int .i64 (getL ns k.at_).f0, .int .i64 (getL ns k.at_).f1, .int .i64 (getL ns k.at_).f2, .int .i64 (getL ns k.at_).f3, .int .i64 (getL ns k.at_).f4, .int .i64 (getL ns k.at_).f5, .string (getL ns k.at_).f6, .slice A7 (getL ns k.at_).f7.length c7]) rfl rfl rfl (by go_simp) (by go_simp) Tryd.underlying48 (by kernel_rfl) rfl ?_
  refine ⟨?_, A7, c7, _, (by first | rfl | (unfold nodeV; rw [HQ.out.2]; rfl)), HE.out.1, HE.out.2, ?_⟩
  ·repeat' (first | with_reducible refine Below.alloc ?_ ?_ _ | with_reducible refine Below.setRow_ ?_ ?_ _ | exact BB.out | omega | (have := BB.out.size; simp; omega) | exact BB.out.size)
  ·rw [show hereB ns k.at_ = 4 by unfold hereB; simp [HQ.out]]; exact .inr ⟨by decide, _, rfl, _, blk_new _ (by simp)⟩
set_option maxRecDepth 100000 in
set_option maxHeartbeats 4000000 in
theorem here_ok (k : Wk) (A : Option Addr) (c : Nat) (ns : List S48) (m r : Int) (bk : Nat) (w : World) (hk : Box w bk (k.cells A c ns.length m r)) (hd : Dk w A ns) (hc : ns.length ≤ c) (hl : ns.length ≤ 1000000) (hgB : getB ns k.at_ = true) (hK : (getL ns k.at_).f0 = 2) :
  Calls Tryd.prog 38 #[.pointer (some ⟨bk, 0, none⟩)] w (HereR ns k.at_ w) := by
 have Hk := Lib.hid hk
 have HD := Lib.hid (And.intro hd (And.intro hc hl))
 clear hk hd hc hl
 have HQ := Lib.hid (And.intro hgB hK)
 clear hK
 have hw := wk_eq
 obtain ⟨ik, rk, lk, nk, mk⟩ := boxAll Hk.out
 go_enter Tryd.func38, Tryd.ntmps38
 go_wp2_with (first | (apply ld_row 48 8; (focus rfl); (focus go_simp); (focus (go_simp; rfl)); (focus (exact Tryd.underlying48)); (focus kernel_rfl)) | (apply st_row 48 8; (focus rfl); (focus rfl); (focus go_simp); (focus kernel_rfl); (focus rfl); (focus (first | (simp [Value.oneCell']; done) | (simp [Value.oneCell', Job.cells]; done)))) | fail)
 refine Code.at_ fun v1 hW => ?_
 have B0 : Below w.heap.size w v1 := by rw [hW]; repeat' (first | with_reducible refine Below.alloc ?_ ?_ _ | with_reducible refine Below.setRow_ ?_ ?_ _ | with_reducible refine Below.setCell ?_ ?_ _ | with_reducible refine Below.drew ?_ | with_reducible refine Below.drewN_ ?_ _ | with_reducible exact Below.refl _ _ | assumption | (simp; done) | (simp; omega) | omega)
 have Hr := Lib.hid (show Box v1 (w.heap.size) #[.int .i64 0, .int .i64 0, .int .i64 0, .int .i64 0, .int .i64 0, .int .i64 0, .string ⟨#[]⟩, .slice none 0 0] from ⟨_, by rw [hW]; (try rw [setRow_alloc, if_pos rfl]); exact blk_new _ (by first | rfl | simp)⟩)
 clear hW
 have C := B0
 have BB := Lib.hid C
 clear ik rk lk nk mk
 replace Hk := Lib.hid (Hk.out.step C)
 obtain ⟨br, hbr⟩ : ∃ b, b = w.heap.size := ⟨_, rfl⟩
 rw [← hbr] at Hr ⊢
 have gr : w.heap.size ≤ br := by rw [hbr]; first | exact Nat.le_refl _ | exact Nat.le_add_right _ _ | omega
 clear hbr
 clear C B0
 have D0 : Below v1.heap.size v1 v1.drew := (Below.refl _ _).drew
 have S0 : (isRow v1.drew bk = true ∧ isRow v1.drew br = true) ∧ row v1.drew bk = (k.cells A c ns.length m r) ∧ row v1.drew br = #[.int .i64 0, .int .i64 0, .int .i64 0, .int .i64 0, .int .i64 0, .int .i64 0, .string ⟨#[]⟩, .slice none 0 0] := ⟨⟨Hk.out.isRow, Hr.out.isRow⟩, Hk.out.row, Hr.out.row⟩
 replace D0 := Lib.hid D0
 refine reg0 15 (fun w' => (isRow w' bk = true ∧ isRow w' br = true) ∧ row w' bk = (k.cells A c ns.length m r) ∧ row w' br = #[.int .i64 0, .int .i64 0, .int .i64 0, .int .i64 0, .int .i64 0, .int .i64 0, .string ⟨#[]⟩, .slice none 0 0]) (by kernel_rfl) (by kernel_rfl) (by kernel_rfl) ?_ (fun l hg hHeld => ?_)
 ·(try dsimp only); exact S0
 (apply tkT 0 1 hg; (focus rfl); (focus rfl); (focus kernel_rfl); (focus (intro w0 hSw; (try dsimp only at hSw); go_simp; try (with_reducible rfl))); (focus assumption))
 try simp only [zP, zA, zZ, zS]
 (apply tkT 1 3 hg; (focus rfl); (focus rfl); (focus kernel_rfl); (focus (intro w0 hSw; (try dsimp only at hSw); go_simp; try (with_reducible rfl))); (focus assumption))
 try simp only [zP, zA, zZ, zS]
 (apply tkT 2 7 hg; (focus rfl); (focus rfl); (focus kernel_rfl); (focus (intro w0 hSw; (try dsimp only at hSw); go_simp; try (with_reducible rfl))); (focus assumption))
 try simp only [zP, zA, zZ, zS]
 (apply tkT 3 15 hg; (focus rfl); (focus rfl); (focus kernel_rfl); (focus (intro w0 hSw; (try dsimp only at hSw); go_simp; try (with_reducible rfl))); (focus assumption))
 try simp only [zP, zA, zZ, zS]
 (apply tkT 4 31 hg; (focus rfl); (focus rfl); (focus kernel_rfl); (focus (intro w0 hSw; (try dsimp only at hSw); go_simp; try (with_reducible rfl))); (focus assumption))
 try simp only [zP, zA, zZ, zS]
 (apply tkT 5 63 hg; (focus rfl); (focus rfl); (focus kernel_rfl); (focus (intro w0 hSw; (try dsimp only at hSw); go_simp; try (with_reducible rfl))); (focus assumption))
 try simp only [zP, zA, zZ, zS]
 (apply tkT 6 127 hg; (focus rfl); (focus rfl); (focus kernel_rfl); (focus (intro w0 hSw; (try dsimp only at hSw); go_simp; try (with_reducible rfl))); (focus assumption))
 try simp only [zP, zA, zZ, zS]
 (apply tkT 7 255 hg; (focus rfl); (focus rfl); (focus kernel_rfl); (focus (intro w0 hSw; (try dsimp only at hSw); go_simp; try (with_reducible rfl))); (focus assumption))
 try simp only [zP, zA, zZ, zS]
 refine act2 8 12 511 4351 hg rfl rfl (by rfl) (by rfl) (by kernel_rfl) ?_ ?_
 ·intro K hK
  go_simp
  refine (get_calls A c ns m r k.at_ w _ (BB.out.trans (D0.out.mono BB.out.size)) HD.out.1 HD.out.2.1 HD.out.2.2).mono ?_
  rintro e u2_1 h
  have h' := h
  obtain ⟨A7, c7, rfl, h7, hE, hb⟩ := h'
  have HE := Lib.hid (And.intro h7 hE)
  clear h7 hE
  unfold nodeV
  replace D0 := Lib.hid (D0.out.trans (hb.mono D0.out.size))
  replace S0 := keep2 hb S0
  clear hb h
  refine hK.out _ _ ?_ (fun hHeld => ?_)
  ·(try dsimp only); exact S0
  clear hK K
  try simp only [zP, zA, zZ, zS]
  (apply tkT 9 1023 hg; (focus rfl); (focus rfl); (focus kernel_rfl); (focus (intro w0 hSw; (try dsimp only at hSw); go_simp; try (with_reducible rfl))); (focus assumption))
  try simp only [zP, zA, zZ, zS]
  (apply tkT 10 2047 hg; (focus rfl); (focus rfl); (focus kernel_rfl); (focus (intro w0 hSw; (try dsimp only at hSw); go_simp; try (with_reducible rfl))); (focus assumption))
  try simp only [zP, zA, zZ, zS]
  (apply tkT 11 4095 hg; (focus rfl); (focus rfl); (focus kernel_rfl); (focus (intro w0 hSw; (try dsimp only at hSw); go_simp; try (with_reducible rfl))); (focus assumption))
  try simp only [zP, zA, zZ, zS]
  (apply act1 12 8191 hg; (focus rfl); (focus rfl); (focus kernel_rfl))
  intro K hK
  go_simp
  refine K_at (K := K) fun u2_2 hW => ?_
  have hb : Below u2_1.heap.size u2_1 u2_2 := by rw [hW]; exact (Below.refl _ _).alloc (Nat.le_refl _) _
  have Y : Box u2_2 u2_1.heap.size #[.int .i64 0, .int .i64 0, .int .i64 0, .int .i64 0, .int .i64 0, .int .i64 0, .string ⟨#[]⟩, .slice none 0 0] := ⟨_, by rw [hW]; exact blk_new _ rfl⟩
  obtain ⟨bo, hbx⟩ : ∃ b, b = u2_1.heap.size := ⟨_, rfl⟩
  try simp only [drew_size] at hbx Y
  rw [← hbx] at Y ⊢
  have hbl : v1.heap.size ≤ bo := by rw [hbx]; exact D0.out.size
  have Ho := Lib.hid Y
  clear hW Y hbx
  replace D0 := Lib.hid (D0.out.trans (hb.mono D0.out.size))
  replace S0 := keep2 hb S0
  clear hb
  refine hK.out _ _ ?_ (fun hHeld => ?_)
  ·(try dsimp only); exact S0
  clear hK K
  try simp only [zP, zA, zZ, zS]
  (apply act1 13 16383 hg; (focus rfl); (focus rfl); (focus kernel_rfl))
  intro K hK
  have i_ := Ho.out.isRow; have r_ := Ho.out.row
  (apply wp_st_row 48 8; (focus rfl); (focus rfl); (focus go_simp); (focus kernel_rfl); (focus rfl); (focus (first | (simp [Value.oneCell']; done) | (simp [Value.oneCell', Job.cells]; done))))
  refine K_at (K := K) fun u2_3 hW => ?_
  have hb : Below bo u2_2 u2_3 := by rw [hW]; exact Below.setRow_ (Below.refl _ _) (Nat.le_refl _) _
  have Y : Box u2_3 bo #[.int .i64 (getL ns k.at_).f0, .int .i64 (getL ns k.at_).f1, .int .i64 (getL ns k.at_).f2, .int .i64 (getL ns k.at_).f3, .int .i64 (getL ns k.at_).f4, .int .i64 (getL ns k.at_).f5, .string (getL ns k.at_).f6, .slice A7 (getL ns k.at_).f7.length c7] := by obtain ⟨t, h⟩ := Ho.out; exact ⟨t, by rw [hW]; exact blk_row h⟩
  clear hW i_ r_
  replace D0 := Lib.hid (D0.out.trans (hb.mono hbl))
  have S1 : (isRow u2_3 bk = true ∧ isRow u2_3 br = true) ∧ row u2_3 bk = (k.cells A c ns.length m r) ∧ row u2_3 br = #[.int .i64 0, .int .i64 0, .int .i64 0, .int .i64 0, .int .i64 0, .int .i64 0, .string ⟨#[]⟩, .slice none 0 0] := keep2 D0.out (⟨⟨Hk.out.isRow, Hr.out.isRow⟩, Hk.out.row, Hr.out.row⟩)
  clear S0
  have S0 := S1
  clear S1
  replace Ho := Lib.hid Y
  clear hb Y hbl
  refine hK.out _ _ ?_ (fun hHeld => ?_)
  ·(try dsimp only); exact S0
  clear hK K
  try simp only [zP, zA, zZ, zS]
  (apply tkT 14 32767 hg; (focus rfl); (focus rfl); (focus kernel_rfl); (focus (intro w0 hSw; (try dsimp only at hSw); go_simp; try (with_reducible rfl))); (focus assumption))
  try simp only [zP, zA, zZ, zS]
  refine actE hg (by kernel_rfl) ?_
  have C := D0.out
  replace BB := Lib.hid (BB.out.trans (C.mono BB.out.size))
  replace Hk := Lib.hid (Hk.out.step C)
  replace Hr := Lib.hid (Hr.out.step C)
  clear C D0 S0
  obtain ⟨ik, rk, lk, nk, mk⟩ := boxAll Hk.out
  obtain ⟨ir, rr, lr, nr, mr⟩ := boxAll Hr.out
  obtain ⟨io, ro, lo, no, mo⟩ := boxAll Ho.out
  have hK := HQ.out.2
  go_wp2_with (first | (apply ld_row 48 8; (focus rfl); (focus go_simp); (focus (go_simp; rfl)); (focus (exact Tryd.underlying48)); (focus kernel_rfl)) | (apply st_row 48 8; (focus rfl); (focus rfl); (focus go_simp); (focus kernel_rfl); (focus rfl); (focus (first | (simp [Value.oneCell']; done) | (simp [Value.oneCell', Job.cells]; done)))) | fail)
  refine ret_row_tmp (n := 8) (cs := #[.int .i64 (getL ns k.at_).f0, .int .i64 (getL ns k.at_).f1, .int .i64 (getL ns k.at_).f2, .int .i64 (getL ns k.at_).f3, .int .i64 (getL ns k.at_).f4, .int .i64 (getL ns k.at_).f5, .string (getL ns k.at_).f6, .slice A7 (getL ns k.at_).f7.length c7]) rfl rfl rfl (by go_simp) (by go_simp) Tryd.underlying48 (by kernel_rfl) rfl ?_
  refine ⟨?_, A7, c7, _, (by first | rfl | (unfold nodeV; rw [HQ.out.2]; rfl)), HE.out.1, HE.out.2, ?_⟩
  ·repeat' (first | with_reducible refine Below.alloc ?_ ?_ _ | with_reducible refine Below.setRow_ ?_ ?_ _ | exact BB.out | omega | (have := BB.out.size; simp; omega) | exact BB.out.size)
  ·rw [show hereB ns k.at_ = 0 by unfold hereB; simp [HQ.out]]; exact .inl ⟨rfl, rfl⟩
 ·intro K hK
  go_simp
  refine K_at (K := K) fun u2_1 hW => ?_
  have hb : Below v1.drew.heap.size v1.drew u2_1 := by rw [hW]; exact (Below.refl _ _).alloc (Nat.le_refl _) _
  have Y : Box u2_1 v1.drew.heap.size #[.int .i64 0, .int .i64 0, .int .i64 0, .int .i64 0, .int .i64 0, .int .i64 0, .string ⟨#[]⟩, .slice none 0 0] := ⟨_, by rw [hW]; exact blk_new _ rfl⟩
  obtain ⟨bo, hbx⟩ : ∃ b, b = v1.drew.heap.size := ⟨_, rfl⟩
  try simp only [drew_size] at hbx Y
  rw [← hbx] at Y ⊢
  have hbl : v1.heap.size ≤ bo := by rw [hbx]; exact D0.out.size
  have Ho := Lib.hid Y
  clear hW Y hbx
  replace D0 := Lib.hid (D0.out.trans (hb.mono D0.out.size))
  replace S0 := keep2 hb S0
  clear hb
  refine hK.out _ _ ?_ (fun hHeld => ?_)
  ·(try dsimp only); exact S0
  clear hK K
  try simp only [zP, zA, zZ, zS]
  (apply act1 8 4607 hg; (focus rfl); (focus rfl); (focus kernel_rfl))
  intro K hK
  go_simp
  refine (get_calls A c ns m r k.at_ w _ (BB.out.trans (D0.out.mono BB.out.size)) HD.out.1 HD.out.2.1 HD.out.2.2).mono ?_
  rintro e u2_2 h
  have h' := h
  obtain ⟨A7, c7, rfl, h7, hE, hb⟩ := h'
  have HE := Lib.hid (And.intro h7 hE)
  clear h7 hE
  unfold nodeV
  replace D0 := Lib.hid (D0.out.trans (hb.mono D0.out.size))
  replace S0 := keep2 hb S0
  replace Ho := Lib.hid (Ho.out.step hb)
  clear hb h
  refine hK.out _ _ ?_ (fun hHeld => ?_)
  ·(try dsimp only); exact S0
  clear hK K
  try simp only [zP, zA, zZ, zS]
  (apply tkT 9 5119 hg; (focus rfl); (focus rfl); (focus kernel_rfl); (focus (intro w0 hSw; (try dsimp only at hSw); go_simp; try (with_reducible rfl))); (focus assumption))
  try simp only [zP, zA, zZ, zS]
  (apply tkT 10 6143 hg; (focus rfl); (focus rfl); (focus kernel_rfl); (focus (intro w0 hSw; (try dsimp only at hSw); go_simp; try (with_reducible rfl))); (focus assumption))
  try simp only [zP, zA, zZ, zS]
  (apply tkT 11 8191 hg; (focus rfl); (focus rfl); (focus kernel_rfl); (focus (intro w0 hSw; (try dsimp only at hSw); go_simp; try (with_reducible rfl))); (focus assumption))
  try simp only [zP, zA, zZ, zS]
  (apply act1 13 16383 hg; (focus rfl); (focus rfl); (focus kernel_rfl))
  intro K hK
  have i_ := Ho.out.isRow; have r_ := Ho.out.row
  (apply wp_st_row 48 8; (focus rfl); (focus rfl); (focus go_simp); (focus kernel_rfl); (focus rfl); (focus (first | (simp [Value.oneCell']; done) | (simp [Value.oneCell', Job.cells]; done))))
  refine K_at (K := K) fun u2_3 hW => ?_
  have hb : Below bo u2_2 u2_3 := by rw [hW]; exact Below.setRow_ (Below.refl _ _) (Nat.le_refl _) _
  have Y : Box u2_3 bo #[.int .i64 (getL ns k.at_).f0, .int .i64 (getL ns k.at_).f1, .int .i64 (getL ns k.at_).f2, .int .i64 (getL ns k.at_).f3, .int .i64 (getL ns k.at_).f4, .int .i64 (getL ns k.at_).f5, .string (getL ns k.at_).f6, .slice A7 (getL ns k.at_).f7.length c7] := by obtain ⟨t, h⟩ := Ho.out; exact ⟨t, by rw [hW]; exact blk_row h⟩
  clear hW i_ r_
  replace D0 := Lib.hid (D0.out.trans (hb.mono hbl))
  have S1 : (isRow u2_3 bk = true ∧ isRow u2_3 br = true) ∧ row u2_3 bk = (k.cells A c ns.length m r) ∧ row u2_3 br = #[.int .i64 0, .int .i64 0, .int .i64 0, .int .i64 0, .int .i64 0, .int .i64 0, .string ⟨#[]⟩, .slice none 0 0] := keep2 D0.out (⟨⟨Hk.out.isRow, Hr.out.isRow⟩, Hk.out.row, Hr.out.row⟩)
  clear S0
  have S0 := S1
  clear S1
  replace Ho := Lib.hid Y
  clear hb Y hbl
  refine hK.out _ _ ?_ (fun hHeld => ?_)
  ·(try dsimp only); exact S0
  clear hK K
  try simp only [zP, zA, zZ, zS]
  (apply tkT 14 32767 hg; (focus rfl); (focus rfl); (focus kernel_rfl); (focus (intro w0 hSw; (try dsimp only at hSw); go_simp; try (with_reducible rfl))); (focus assumption))
  try simp only [zP, zA, zZ, zS]
  refine actE hg (by kernel_rfl) ?_
  have C := D0.out
  replace BB := Lib.hid (BB.out.trans (C.mono BB.out.size))
  replace Hk := Lib.hid (Hk.out.step C)
  replace Hr := Lib.hid (Hr.out.step C)
  clear C D0 S0
  obtain ⟨ik, rk, lk, nk, mk⟩ := boxAll Hk.out
  obtain ⟨ir, rr, lr, nr, mr⟩ := boxAll Hr.out
  obtain ⟨io, ro, lo, no, mo⟩ := boxAll Ho.out
  have hK := HQ.out.2
  go_wp2_with (first | (apply ld_row 48 8; (focus rfl); (focus go_simp); (focus (go_simp; rfl)); (focus (exact Tryd.underlying48)); (focus kernel_rfl)) | (apply st_row 48 8; (focus rfl); (focus rfl); (focus go_simp); (focus kernel_rfl); (focus rfl); (focus (first | (simp [Value.oneCell']; done) | (simp [Value.oneCell', Job.cells]; done)))) | fail)
  refine ret_row_tmp (n := 8) (cs := #[.int .i64 (getL ns k.at_).f0, .int .i64 (getL ns k.at_).f1, .int .i64 (getL ns k.at_).f2, .int .i64 (getL ns k.at_).f3, .int .i64 (getL ns k.at_).f4, .int .i64 (getL ns k.at_).f5, .string (getL ns k.at_).f6, .slice A7 (getL ns k.at_).f7.length c7]) rfl rfl rfl (by go_simp) (by go_simp) Tryd.underlying48 (by kernel_rfl) rfl ?_
  refine ⟨?_, A7, c7, _, (by first | rfl | (unfold nodeV; rw [HQ.out.2]; rfl)), HE.out.1, HE.out.2, ?_⟩
  ·repeat' (first | with_reducible refine Below.alloc ?_ ?_ _ | with_reducible refine Below.setRow_ ?_ ?_ _ | exact BB.out | omega | (have := BB.out.size; simp; omega) | exact BB.out.size)
  ·rw [show hereB ns k.at_ = 0 by unfold hereB; simp [HQ.out]]; exact .inl ⟨rfl, rfl⟩
set_option maxRecDepth 100000 in
set_option maxHeartbeats 4000000 in
theorem here_calls (k : Wk) (A : Option Addr) (c : Nat) (ns : List S48) (m r : Int) (bk : Nat) (w : World) (hk : Box w bk (k.cells A c ns.length m r)) (hd : Dk w A ns) (hc : ns.length ≤ c) (hl : ns.length ≤ 1000000)  :
  Calls Tryd.prog 38 #[.pointer (some ⟨bk, 0, none⟩)] w (HereR ns k.at_ w) := by
 by_cases hgB : getB ns k.at_ = true
 ·by_cases hK : (getL ns k.at_).f0 = 2
  ·exact here_ok k A c ns m r bk w hk hd hc hl hgB hK
  ·exact here_not k A c ns m r bk w hk hd hc hl hgB hK
 ·exact here_no k A c ns m r bk w hk hd hc hl (by simpa using hgB)
end Go.Proofs.YthagmakojbfmaaaDoor.Ext
