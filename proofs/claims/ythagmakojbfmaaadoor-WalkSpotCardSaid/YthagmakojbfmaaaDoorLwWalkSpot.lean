/- flagstonelaw07.WalkSpot: it answers true. -/
import Derived.Test.YthagmakojbfmaaaDoorSw
import Derived.Test.YthagmakojbfmaaaDoorLq
import Derived.Test.YthagmakojbfmaaaDoorFn
set_option linter.unusedVariables false
set_option linter.unusedSimpArgs false
namespace Go.Proofs.YthagmakojbfmaaaDoor.Ext
open Go Go.RowKit Go.Proofs.YthagmakojbfmaaaDoor Go.Proofs.YthagmakojbfmaaaDoorW.PrintWords
attribute [local go_sem] isRow_drew row_drew isRow_drewN row_drewN cell_isRow rowSz_isRow isHead_ptr blockOf_ptr row_alloc isRow_alloc rowSz_alloc setRow_alloc isRow_setRow isRow_setCell isRow_frozen setCell_setRow_same setCell_setRow_other cell_setRow_same' cell_setRow_other' frozen_setRow' row_setRow_same row_setRow_other rowSz_setRow_same rowSz_setRow_other setRow_setRow_same' setRow_comm' ne_l2 ne_r2 ne_l3 ne_r3 ne_l4 ne_r4 ne_l5 ne_r5 ne_l6 ne_r6 ne_l7 ne_r7 ne_l8 ne_r8
attribute [local go_sem ↓] ldx_28
attribute [local go_sem ↓] ldx_24
attribute [local go_sem ↓] Go.wp_at_zero Go.wp_at_succ
set_option maxRecDepth 100000 in
set_option maxHeartbeats 8000000 in
theorem walkSpot_calls (A : Option Addr) (c : Nat) (ns : List S48) (m r : Int) (who frm : Int) (path : ByteArray) (fol : Bool) (w : World) (hd : Dk w A ns) (hg : Eg w) (hc : ns.length ≤ c) (hl : ns.length ≤ 1000000000000000) (hs : ∀ i j, (rd_T57 (rd_T48 ns i).f7 j).f0.size ≤ 1000000000000000) :
  Calls Tryd.prog 8 #[.agg #[.slice A ns.length c, .int .i64 m, .int .i64 r], .int .i64 who, .int .i64 frm, .string path, .bool fol] w (ShR w) := by
 have HL := Lib.hid (And.intro hc (And.intro hl hs))
 have HD := Lib.hid hd
 have HG := Lib.hid hg
 clear hd hg hc hl hs
 go_enter Tryd.func8, Tryd.ntmps8
 go_wp2_with (first | go_skip | (apply st_row 28 4; (focus rfl); (focus rfl); (focus go_simp); (focus kernel_rfl); (focus rfl); (focus (simp [Value.oneCell']; done))) | (apply st_row 24 3; (focus rfl); (focus rfl); (focus go_simp); (focus kernel_rfl); (focus rfl); (focus (simp [Value.oneCell']; done))))
 refine Calls.at_ fun W hW => ?_
 have B0 : Below w.heap.size w W := by rw [hW]; repeat' (first | with_reducible refine Below.alloc ?_ ?_ _ | with_reducible refine Below.setRow_ ?_ ?_ _ | with_reducible refine Below.setCell ?_ ?_ _ | with_reducible refine Below.drew ?_ | with_reducible refine Below.drewN_ ?_ _ | with_reducible exact Below.refl _ _ | assumption | (simp; done) | (simp; omega) | omega)
 have Ydk : Box W (w.heap.size) #[.slice A ns.length c, .int .i64 m, .int .i64 r] := ⟨_, by rw [hW]; exact blk_new _ (by first | rfl | simp)⟩
 clear hW
 refine (lright_calls A c ns m r W (HD.out.step B0) HL.out.1 HL.out.2.1 HL.out.2.2).mono ?_
 rintro e w1 h
 have h' := h
 obtain ⟨rb, rfl, hb, hok⟩ := (show LrR _ _ _ _ from h')
 have HOK := Lib.hid hok
 have C := B0.trans (hb.mono B0.size)
 have BB := Lib.hid C
 replace HD := Lib.hid (HD.out.step C)
 replace HG := Lib.hid (HG.out.step C)
 have Hdk := Lib.hid (Ydk.step hb)
 obtain ⟨bdk, hbdk⟩ : ∃ b, b = w.heap.size := ⟨_, rfl⟩
 rw [← hbdk] at Hdk ⊢
 clear Ydk hbdk
 obtain ⟨idk, rdk, ldk, ndk, mdk⟩ := boxAll Hdk.out
 clear h hb C B0 W h' hok
 cases rb with
 | false =>
  go_wp2_with (first | go_skip | (apply st_row 28 4; (focus rfl); (focus rfl); (focus go_simp); (focus kernel_rfl); (focus rfl); (focus (simp [Value.oneCell']; done))) | (apply st_row 24 3; (focus rfl); (focus rfl); (focus go_simp); (focus kernel_rfl); (focus rfl); (focus (simp [Value.oneCell']; done))))
  refine Calls.at_ fun W hW => ?_
  have B0 : Below w1.heap.size w1 W := by rw [hW]; repeat' (first | with_reducible refine Below.alloc ?_ ?_ _ | with_reducible refine Below.setRow_ ?_ ?_ _ | with_reducible refine Below.setCell ?_ ?_ _ | with_reducible refine Below.drew ?_ | with_reducible refine Below.drewN_ ?_ _ | with_reducible exact Below.refl _ _ | assumption | (simp; done) | (simp; omega) | omega)
  clear hW
  refine (shown_calls W (HG.out.step B0)).mono ?_
  rintro e w2 h
  obtain ⟨rfl, hb⟩ := (show ShR _ _ _ from h)
  have C := B0.trans (hb.mono B0.size)
  replace BB := Lib.hid (BB.out.trans (C.mono BB.out.size))
  replace HD := Lib.hid (HD.out.step C)
  replace HG := Lib.hid (HG.out.step C)
  try clear idk rdk ldk ndk mdk
  replace Hdk := Lib.hid (Hdk.out.step C)
  obtain ⟨idk, rdk, ldk, ndk, mdk⟩ := boxAll Hdk.out
  clear h hb C B0 W
  go_wp2_with (first | go_skip | (apply st_row 28 4; (focus rfl); (focus rfl); (focus go_simp); (focus kernel_rfl); (focus rfl); (focus (simp [Value.oneCell']; done))) | (apply st_row 24 3; (focus rfl); (focus rfl); (focus go_simp); (focus kernel_rfl); (focus rfl); (focus (simp [Value.oneCell']; done))))
  go_ret
  refine ⟨rfl, ?_⟩
  have BB1 := BB.out
  have BBs := BB.out.size
  try exact BB1
  all_goals repeat' (first | with_reducible refine Below.alloc ?_ ?_ _ | with_reducible refine Below.setRow_ ?_ ?_ _ | with_reducible refine Below.setCell ?_ ?_ _ | with_reducible refine Below.drew ?_ | with_reducible refine Below.drewN_ ?_ _ | with_reducible exact Below.refl _ _ | assumption | (simp; done) | (simp; omega) | omega)
 | true =>
  have HR := Lib.hid (HOK.out (by simp))
  clear HOK
  by_cases zpath : path.size ≤ 200
  ·have d_path : decide ((200 : Int) < (path.size : Int)) = false := decide_eq_false (by omega)
   have HZpath := Lib.hid zpath
   clear zpath
   have HF := Lib.hid (RightD.fit HR.out)
   have HN := Lib.hid (show ns.length ≤ 1000000 by have := HR.out.1.1; omega)
   go_wp2_with (first | go_skip | (apply st_row 28 4; (focus rfl); (focus rfl); (focus go_simp); (focus kernel_rfl); (focus rfl); (focus (simp [Value.oneCell']; done))) | (apply st_row 24 3; (focus rfl); (focus rfl); (focus go_simp); (focus kernel_rfl); (focus rfl); (focus (simp [Value.oneCell']; done))))
   refine Calls.at_ fun W hW => ?_
   have B0 : Below w1.heap.size w1 W := by rw [hW]; repeat' (first | with_reducible refine Below.alloc ?_ ?_ _ | with_reducible refine Below.setRow_ ?_ ?_ _ | with_reducible refine Below.setCell ?_ ?_ _ | with_reducible refine Below.drew ?_ | with_reducible refine Below.drewN_ ?_ _ | with_reducible exact Below.refl _ _ | assumption | (simp; done) | (simp; omega) | omega)
   clear hW
   refine (shown_calls W (HG.out.step B0)).mono ?_
   rintro e w2 h
   obtain ⟨rfl, hb⟩ := (show ShR _ _ _ from h)
   have C := B0.trans (hb.mono B0.size)
   replace BB := Lib.hid (BB.out.trans (C.mono BB.out.size))
   replace HD := Lib.hid (HD.out.step C)
   replace HG := Lib.hid (HG.out.step C)
   try clear idk rdk ldk ndk mdk
   replace Hdk := Lib.hid (Hdk.out.step C)
   obtain ⟨idk, rdk, ldk, ndk, mdk⟩ := boxAll Hdk.out
   clear h hb C B0 W
   have hSP := spot_law ns HR.out who frm path fol (Nat.le_trans HZpath.out (by decide))
   obtain ⟨⟨nos, s0, s1, s2, s3⟩, hx⟩ : ∃ x, walkF ns who frm path fol = x := ⟨_, rfl⟩
   have HXs := Lib.hid hx
   clear hx
   rw [HXs.out] at hSP
   obtain ⟨h0, h1⟩ := hSP
   simp only at h0 h1
   go_wp2_with (first | go_skip | (apply st_row 28 4; (focus rfl); (focus rfl); (focus go_simp); (focus kernel_rfl); (focus rfl); (focus (simp [Value.oneCell']; done))) | (apply st_row 24 3; (focus rfl); (focus rfl); (focus go_simp); (focus kernel_rfl); (focus rfl); (focus (simp [Value.oneCell']; done))))
   refine Calls.at_ fun W hW => ?_
   have B0 : Below w2.heap.size w2 W := by rw [hW]; repeat' (first | with_reducible refine Below.alloc ?_ ?_ _ | with_reducible refine Below.setRow_ ?_ ?_ _ | with_reducible refine Below.setCell ?_ ?_ _ | with_reducible refine Below.drew ?_ | with_reducible refine Below.drewN_ ?_ _ | with_reducible exact Below.refl _ _ | assumption | (simp; done) | (simp; omega) | omega)
   clear hW
   refine (walk_calls A c ns m r who frm path fol W (HD.out.step B0) (HG.out.step B0) HL.out.1 HN.out HF.out (Nat.le_trans HZpath.out (by decide))).mono ?_
   rintro e w3 h
   obtain ⟨rfl, hb⟩ := (show RetW W (walkF ns who frm path fol) e w3 from h)
   rw [HXs.out]
   unfold spotV
   try simp only
   have C := B0.trans (hb.mono B0.size)
   replace BB := Lib.hid (BB.out.trans (C.mono BB.out.size))
   replace HD := Lib.hid (HD.out.step C)
   replace HG := Lib.hid (HG.out.step C)
   try clear idk rdk ldk ndk mdk
   replace Hdk := Lib.hid (Hdk.out.step C)
   obtain ⟨idk, rdk, ldk, ndk, mdk⟩ := boxAll Hdk.out
   clear h hb C B0 W
   by_cases z0 : nos = 0
   ·subst z0
    obtain ⟨l0, l1, l2, n0, n1, n2⟩ := h0 rfl
    clear h0 h1
    have g0 : decide (s0 < 0) = false := decide_eq_false (by omega)
    have g1 : decide ((ns.length : Int) ≤ s0) = false := decide_eq_false (by omega)
    obtain ⟨ada, Aa, ca, eAa, xa, -, -, -, -, x5, -⟩ := at_T48 HD.out s0 l0 l1
    subst eAa
    have hka : (rd_T48 ns s0).f0 = 2 := l2
    rw [hka] at xa
    replace xa := lift1 (.cells #[.int .i64 s0, .string s1, .int .i64 s2, .bool s3] 28) xa
    have p0a : (0 ≤ s0) = True := eq_true l0
    have p1a : (s0 < (ns.length : Int)) = True := eq_true l1
    have HL0 := Lib.hid (And.intro l0 l1)
    clear hka l2 l0 l1
    by_cases zn : s1.toList = []
    ·have e := n0 (.inl zn)
     have znb : (s1.toList == []) = true := by rw [zn]; rfl
     have znc : s1.toList.isEmpty = true := by rw [zn]; rfl
     subst e
     clear n0 n1 n2 zn x5
     go_wp2_with (first | go_skip | (apply st_row 28 4; (focus rfl); (focus rfl); (focus go_simp); (focus kernel_rfl); (focus rfl); (focus (simp [Value.oneCell']; done))) | (apply st_row 24 3; (focus rfl); (focus rfl); (focus go_simp); (focus kernel_rfl); (focus rfl); (focus (simp [Value.oneCell']; done))))
     go_ret
     refine ⟨rfl, ?_⟩
     have BB1 := BB.out
     have BBs := BB.out.size
     try exact BB1
     all_goals repeat' (first | with_reducible refine Below.alloc ?_ ?_ _ | with_reducible refine Below.setRow_ ?_ ?_ _ | with_reducible refine Below.setCell ?_ ?_ _ | with_reducible refine Below.drew ?_ | with_reducible refine Below.drewN_ ?_ _ | with_reducible exact Below.refl _ _ | assumption | (simp; done) | (simp; omega) | omega)
    ·by_cases zd : s1.toList = [46]
     ·have e := n0 (.inr zd)
      have znb : (s1.toList == []) = false := by simpa using zn
      have znc : s1.toList.isEmpty = false := by simpa using zn
      have zdb : (s1.toList == [46]) = true := by rw [zd]; rfl
      subst e
      clear n0 n1 n2 zn zd x5
      go_wp2_with (first | go_skip | (apply st_row 28 4; (focus rfl); (focus rfl); (focus go_simp); (focus kernel_rfl); (focus rfl); (focus (simp [Value.oneCell']; done))) | (apply st_row 24 3; (focus rfl); (focus rfl); (focus go_simp); (focus kernel_rfl); (focus rfl); (focus (simp [Value.oneCell']; done))))
      go_ret
      refine ⟨rfl, ?_⟩
      have BB1 := BB.out
      have BBs := BB.out.size
      try exact BB1
      all_goals repeat' (first | with_reducible refine Below.alloc ?_ ?_ _ | with_reducible refine Below.setRow_ ?_ ?_ _ | with_reducible refine Below.setCell ?_ ?_ _ | with_reducible refine Below.drew ?_ | with_reducible refine Below.drewN_ ?_ _ | with_reducible exact Below.refl _ _ | assumption | (simp; done) | (simp; omega) | omega)
     ·by_cases ze : s1.toList = [46, 46]
      ·have e := n1 ze
       have znb : (s1.toList == []) = false := by simpa using zn
       have znc : s1.toList.isEmpty = false := by simpa using zn
       have zdb : (s1.toList == [46]) = false := by simpa using zd
       have zeb : (s1.toList == [46, 46]) = true := by rw [ze]; rfl
       rw [← e] at x5
       have HX5 := Lib.hid (show CellIs _ ⟨(ada.add (s0.toNat * 8)).block, (ada.add (s0.toNat * 8)).off + 5, none⟩ (.int .i64 s2) from x5)
       clear n0 n1 n2 zn zd ze e x5
       go_wp2_with (first | go_skip | (apply st_row 28 4; (focus rfl); (focus rfl); (focus go_simp); (focus kernel_rfl); (focus rfl); (focus (simp [Value.oneCell']; done))) | (apply st_row 24 3; (focus rfl); (focus rfl); (focus go_simp); (focus kernel_rfl); (focus rfl); (focus (simp [Value.oneCell']; done))))
       refine Code.at_ fun v4 hW => ?_
       have B0 : Below w3.heap.size w3 v4 := by rw [hW]; repeat' (first | with_reducible refine Below.alloc ?_ ?_ _ | with_reducible refine Below.setRow_ ?_ ?_ _ | with_reducible refine Below.setCell ?_ ?_ _ | with_reducible refine Below.drew ?_ | with_reducible refine Below.drewN_ ?_ _ | with_reducible exact Below.refl _ _ | assumption | (simp; done) | (simp; omega) | omega)
       have Hsa := Lib.hid (show Box v4 (w3.heap.size) #[.int .i64 s0, .string s1, .int .i64 s2, .bool s3] from ⟨_, by rw [hW]; (try rw [setRow_alloc, if_pos rfl]); exact blk_new _ (by first | rfl | simp)⟩)
       clear hW
       have C := B0
       replace BB := Lib.hid (BB.out.trans (C.mono BB.out.size))
       replace HD := Lib.hid (HD.out.step C)
       replace HG := Lib.hid (HG.out.step C)
       replace HX5 := Lib.hid (HX5.out.step C)
       try clear idk rdk ldk ndk mdk
       replace Hdk := Lib.hid (Hdk.out.step C)
       obtain ⟨bsa, hbsa⟩ : ∃ b, b = w3.heap.size := ⟨_, rfl⟩
       rw [← hbsa] at Hsa ⊢
       clear hbsa
       clear C B0
       obtain ⟨idk, rdk, ldk, ndk, mdk⟩ := boxAll Hdk.out
       obtain ⟨isa, rsa, lsa, nsa, msa⟩ := boxAll Hsa.out
       have xx := HX5.out
       unfold CellIs at xx
       have D0 : Below v4.heap.size v4 v4.drew := (Below.refl _ _).drew
       have S0 : ((isRow v4.drew bdk = true ∧ isRow v4.drew bsa = true) ∧ row v4.drew bdk = #[.slice (some ada) ns.length c, .int .i64 m, .int .i64 r] ∧ row v4.drew bsa = #[.int .i64 s0, .string s1, .int .i64 s2, .bool s3]) ∧ v4.drew.cell? ⟨(ada.add (s0.toNat * 8)).block, (ada.add (s0.toNat * 8)).off + 5, none⟩ = some (.int .i64 s2) := ⟨⟨⟨Hdk.out.isRow, Hsa.out.isRow⟩, Hdk.out.row, Hsa.out.row⟩, xx⟩
       replace D0 := Lib.hid D0
       refine reg0 11 (fun w' => ((isRow w' bdk = true ∧ isRow w' bsa = true) ∧ row w' bdk = #[.slice (some ada) ns.length c, .int .i64 m, .int .i64 r] ∧ row w' bsa = #[.int .i64 s0, .string s1, .int .i64 s2, .bool s3]) ∧ w'.cell? ⟨(ada.add (s0.toNat * 8)).block, (ada.add (s0.toNat * 8)).off + 5, none⟩ = some (.int .i64 s2)) (by kernel_rfl) (by kernel_rfl) (by kernel_rfl) ?_ (fun l hg hHeld => ?_)
       ·(try dsimp only); exact S0
       (apply tkT 0 1 hg; (focus rfl); (focus rfl); (focus kernel_rfl); (focus (intro w0 hSw; (try dsimp only at hSw); go_simp; try (with_reducible rfl))); (focus assumption))
       try simp only [zP, zA, zZ, zS]
       (apply tkT 1 3 hg; (focus rfl); (focus rfl); (focus kernel_rfl); (focus (intro w0 hSw; (try dsimp only at hSw); go_simp; try (with_reducible rfl))); (focus assumption))
       try simp only [zP, zA, zZ, zS]
       (apply tkT 2 7 hg; (focus rfl); (focus rfl); (focus kernel_rfl); (focus (intro w0 hSw; (try dsimp only at hSw); go_simp; try (with_reducible rfl))); (focus assumption))
       try simp only [zP, zA, zZ, zS]
       (apply tkT 3 15 hg; (focus rfl); (focus rfl); (focus kernel_rfl); (focus (intro w0 hSw; (try dsimp only at hSw); go_simp; try (with_reducible rfl))); (focus assumption))
       try simp only [zP, zA, zZ, zS]
       (apply tkT 4 31 hg; (focus rfl); (focus rfl); (focus kernel_rfl); (focus (intro w0 hSw; (try dsimp only at hSw); go_simp; try (with_reducible rfl))); (focus assumption))
       try simp only [zP, zA, zZ, zS]
       (apply tkT 5 63 hg; (focus rfl); (focus rfl); (focus kernel_rfl); (focus (intro w0 hSw; (try dsimp only at hSw); go_simp; try (with_reducible rfl))); (focus assumption))
       try simp only [zP, zA, zZ, zS]
       (apply tkT 6 127 hg; (focus rfl); (focus rfl); (focus kernel_rfl); (focus (intro w0 hSw; (try dsimp only at hSw); go_simp; try (with_reducible rfl))); (focus assumption))
       try simp only [zP, zA, zZ, zS]
       (apply tkT 7 255 hg; (focus rfl); (focus rfl); (focus kernel_rfl); (focus (intro w0 hSw; (try dsimp only at hSw); go_simp; try (with_reducible rfl))); (focus assumption))
       try simp only [zP, zA, zZ, zS]
       (apply tkT 8 511 hg; (focus rfl); (focus rfl); (focus kernel_rfl); (focus (intro w0 hSw; (try dsimp only at hSw); go_simp; try (with_reducible rfl))); (focus assumption))
       try simp only [zP, zA, zZ, zS]
       (apply tkT 9 1023 hg; (focus rfl); (focus rfl); (focus kernel_rfl); (focus (intro w0 hSw; (try dsimp only at hSw); go_simp; try (with_reducible rfl))); (focus assumption))
       try simp only [zP, zA, zZ, zS]
       (apply tkT 10 2047 hg; (focus rfl); (focus rfl); (focus kernel_rfl); (focus (intro w0 hSw; (try dsimp only at hSw); go_simp; try (with_reducible rfl))); (focus assumption))
       try simp only [zP, zA, zZ, zS]
       refine actE hg (by kernel_rfl) ?_
       have C := D0.out
       replace BB := Lib.hid (BB.out.trans (C.mono BB.out.size))
       replace Hdk := Lib.hid (Hdk.out.step C)
       replace Hsa := Lib.hid (Hsa.out.step C)
       replace HD := Lib.hid (HD.out.step C)
       replace HG := Lib.hid (HG.out.step C)
       replace HX5 := Lib.hid (HX5.out.step C)
       clear C D0 S0
       try clear idk rdk ldk ndk mdk isa rsa lsa nsa msa
       obtain ⟨idk, rdk, ldk, ndk, mdk⟩ := boxAll Hdk.out
       obtain ⟨isa, rsa, lsa, nsa, msa⟩ := boxAll Hsa.out
       go_wp2_with (first | go_skip | (apply st_row 28 4; (focus rfl); (focus rfl); (focus go_simp); (focus kernel_rfl); (focus rfl); (focus (simp [Value.oneCell']; done))) | (apply st_row 24 3; (focus rfl); (focus rfl); (focus go_simp); (focus kernel_rfl); (focus rfl); (focus (simp [Value.oneCell']; done))))
       go_ret
       refine ⟨rfl, ?_⟩
       have BB1 := BB.out
       have BBs := BB.out.size
       try exact BB1
       all_goals repeat' (first | with_reducible refine Below.alloc ?_ ?_ _ | with_reducible refine Below.setRow_ ?_ ?_ _ | with_reducible refine Below.setCell ?_ ?_ _ | with_reducible refine Below.drew ?_ | with_reducible refine Below.drewN_ ?_ _ | with_reducible exact Below.refl _ _ | assumption | (simp; done) | (simp; omega) | omega)
      ·obtain ⟨e, en⟩ := n2 zn zd ze
       have znb : (s1.toList == []) = false := by simpa using zn
       have znc : s1.toList.isEmpty = false := by simpa using zn
       have zdb : (s1.toList == [46]) = false := by simpa using zd
       have zeb : (s1.toList == [46, 46]) = false := by simpa using ze
       have HF1 := Lib.hid (show Pright.flagstoneref05_Find.f 1000 ((rd_T48 ns s0).f7.map entC) s1 = some (s2, decide (0 ≤ s2)) by rw [refFind _ _ (HR.out.1.2 _ (rd_mem HL0.out.1 HL0.out.2)).1, ← e, en])
       clear n0 n1 n2 zn zd ze e en x5
       go_wp2_with (first | go_skip | (apply st_row 28 4; (focus rfl); (focus rfl); (focus go_simp); (focus kernel_rfl); (focus rfl); (focus (simp [Value.oneCell']; done))) | (apply st_row 24 3; (focus rfl); (focus rfl); (focus go_simp); (focus kernel_rfl); (focus rfl); (focus (simp [Value.oneCell']; done))))
       refine Code.at_ fun v4 hW => ?_
       have B0 : Below w3.heap.size w3 v4 := by rw [hW]; repeat' (first | with_reducible refine Below.alloc ?_ ?_ _ | with_reducible refine Below.setRow_ ?_ ?_ _ | with_reducible refine Below.setCell ?_ ?_ _ | with_reducible refine Below.drew ?_ | with_reducible refine Below.drewN_ ?_ _ | with_reducible exact Below.refl _ _ | assumption | (simp; done) | (simp; omega) | omega)
       have Hsa := Lib.hid (show Box v4 (w3.heap.size) #[.int .i64 s0, .string s1, .int .i64 s2, .bool s3] from ⟨_, by rw [hW]; (try rw [setRow_alloc, if_pos rfl]); exact blk_new _ (by first | rfl | simp)⟩)
       clear hW
       have C := B0
       replace BB := Lib.hid (BB.out.trans (C.mono BB.out.size))
       replace HD := Lib.hid (HD.out.step C)
       replace HG := Lib.hid (HG.out.step C)
       try clear idk rdk ldk ndk mdk
       replace Hdk := Lib.hid (Hdk.out.step C)
       obtain ⟨bsa, hbsa⟩ : ∃ b, b = w3.heap.size := ⟨_, rfl⟩
       rw [← hbsa] at Hsa ⊢
       clear hbsa
       clear C B0
       obtain ⟨idk, rdk, ldk, ndk, mdk⟩ := boxAll Hdk.out
       obtain ⟨isa, rsa, lsa, nsa, msa⟩ := boxAll Hsa.out
       have D0 : Below v4.heap.size v4 v4.drew := (Below.refl _ _).drew
       have S0 : (isRow v4.drew bdk = true ∧ isRow v4.drew bsa = true) ∧ row v4.drew bdk = #[.slice (some ada) ns.length c, .int .i64 m, .int .i64 r] ∧ row v4.drew bsa = #[.int .i64 s0, .string s1, .int .i64 s2, .bool s3] := ⟨⟨Hdk.out.isRow, Hsa.out.isRow⟩, Hdk.out.row, Hsa.out.row⟩
       replace D0 := Lib.hid D0
       refine reg0 16 (fun w' => (isRow w' bdk = true ∧ isRow w' bsa = true) ∧ row w' bdk = #[.slice (some ada) ns.length c, .int .i64 m, .int .i64 r] ∧ row w' bsa = #[.int .i64 s0, .string s1, .int .i64 s2, .bool s3]) (by kernel_rfl) (by kernel_rfl) (by kernel_rfl) ?_ (fun l hg hHeld => ?_)
       ·(try dsimp only); exact S0
       (apply tkT 0 1 hg; (focus rfl); (focus rfl); (focus kernel_rfl); (focus (intro w0 hSw; (try dsimp only at hSw); go_simp; try (with_reducible rfl))); (focus assumption))
       try simp only [zP, zA, zZ, zS]
       (apply tkT 3 9 hg; (focus rfl); (focus rfl); (focus kernel_rfl); (focus (intro w0 hSw; (try dsimp only at hSw); go_simp; try (with_reducible rfl))); (focus assumption))
       try simp only [zP, zA, zZ, zS]
       (apply tkT 4 25 hg; (focus rfl); (focus rfl); (focus kernel_rfl); (focus (intro w0 hSw; (try dsimp only at hSw); go_simp; try (with_reducible rfl))); (focus assumption))
       try simp only [zP, zA, zZ, zS]
       (apply tkT 8 281 hg; (focus rfl); (focus rfl); (focus kernel_rfl); (focus (intro w0 hSw; (try dsimp only at hSw); go_simp; try (with_reducible rfl))); (focus assumption))
       try simp only [zP, zA, zZ, zS]
       (apply tkT 9 793 hg; (focus rfl); (focus rfl); (focus kernel_rfl); (focus (intro w0 hSw; (try dsimp only at hSw); go_simp; try (with_reducible rfl))); (focus assumption))
       try simp only [zP, zA, zZ, zS]
       (apply act1 1 795 hg; (focus rfl); (focus rfl); (focus kernel_rfl))
       intro K hK
       go_simp
       refine (Pright.flagstonelaw07_its.calls 1000 (some ada) c ns m r _ _ _ _ (HD.out.step D0.out) HL.out.1 (its_f ns m r HR.out.1)).mono ?_
       rintro e u5_1 h
       obtain ⟨v0, rfl, hv0, hb⟩ := h
       obtain ⟨es, hes⟩ : ∃ es, es = ns.map nodeC := ⟨_, rfl⟩
       rw [← hes] at hv0
       obtain ⟨A2, c2, rfl, hc2, hC2⟩ := Kd.R_reads (Kd.S_R hv0)
       have hlt : s0 < (es.length : Int) := by rw [hes, List.length_map]; exact HL0.out.2
       obtain ⟨ad2, A7, c7, e2, -, -, -, -, -, -, -, x7, hc7, hC7⟩ := at_T54 hC2 s0 HL0.out.1 hlt
       cases e2
       have hn7 : (rd_T54 es s0).f7 = (rd_T48 ns s0).f7.map entC := by rw [hes, rd_map54]; rfl
       rw [hn7] at x7 hc7 hC7
       generalize (rd_T48 ns s0).f7.map entC = l7 at x7 hc7 hC7 HF1
       have HC7 := Lib.hid (And.intro hc7 (show R80 u5_1 A7 l7 from hC7))
       have p1e : (s0 < (es.length : Int)) = True := eq_true hlt
       have hfl := fun w0 => field37 (.slice (some ad2) es.length c2) (.int .i64 m) (.int .i64 r) w0
       clear hn7 hC7 hc7 hes hv0 hC2 hc2 hlt
       have h := hb
       replace D0 := Lib.hid (D0.out.trans (hb.mono D0.out.size))
       replace S0 := keep2 hb S0
       clear hb h
       refine hK.out _ _ ?_ (fun hHeld => ?_)
       ·(try dsimp only); exact S0
       clear hK K
       try simp only [zP, zA, zZ, zS]
       (apply tkT 2 799 hg; (focus rfl); (focus rfl); (focus kernel_rfl); (focus (intro w0 hSw; (try dsimp only at hSw); go_simp; try (with_reducible rfl))); (focus assumption))
       try simp only [zP, zA, zZ, zS]
       (apply tkT 5 831 hg; (focus rfl); (focus rfl); (focus kernel_rfl); (focus (intro w0 hSw; (try dsimp only at hSw); go_simp; try (with_reducible rfl))); (focus assumption))
       try simp only [zP, zA, zZ, zS]
       (apply tkT 6 895 hg; (focus rfl); (focus rfl); (focus kernel_rfl); (focus (intro w0 hSw; (try dsimp only at hSw); go_simp; try (with_reducible rfl))); (focus assumption))
       try simp only [zP, zA, zZ, zS]
       (apply act1 7 1023 hg; (focus rfl); (focus rfl); (focus kernel_rfl))
       intro K hK
       go_simp
       clear x7
       refine hK.out _ _ ?_ (fun hHeld => ?_)
       ·(try dsimp only); exact S0
       clear hK K
       try simp only [zP, zA, zZ, zS]
       (apply act1 10 2047 hg; (focus rfl); (focus rfl); (focus kernel_rfl))
       intro K hK
       go_simp
       refine (Pright.flagstoneref05_Find.calls 1000 A7 c7 l7 s1 _ _ _ HC7.out.2 HC7.out.1 HF1.out).mono ?_
       rintro e u5_2 h
       obtain ⟨rfl, hdr⟩ := h
       have hb := Drawn0.below hdr
       clear hdr
       have h := hb
       replace D0 := Lib.hid (D0.out.trans (hb.mono D0.out.size))
       replace S0 := keep2 hb S0
       clear hb h
       refine hK.out _ _ ?_ (fun hHeld => ?_)
       ·(try dsimp only); exact S0
       clear hK K
       try simp only [zP, zA, zZ, zS]
       (apply tkT 11 4095 hg; (focus rfl); (focus rfl); (focus kernel_rfl); (focus (intro w0 hSw; (try dsimp only at hSw); go_simp; try (with_reducible rfl))); (focus assumption))
       try simp only [zP, zA, zZ, zS]
       (apply tkT 12 8191 hg; (focus rfl); (focus rfl); (focus kernel_rfl); (focus (intro w0 hSw; (try dsimp only at hSw); go_simp; try (with_reducible rfl))); (focus assumption))
       try simp only [zP, zA, zZ, zS]
       (apply tkT 13 16383 hg; (focus rfl); (focus rfl); (focus kernel_rfl); (focus (intro w0 hSw; (try dsimp only at hSw); go_simp; try (with_reducible rfl))); (focus assumption))
       try simp only [zP, zA, zZ, zS]
       (apply tkT 14 32767 hg; (focus rfl); (focus rfl); (focus kernel_rfl); (focus (intro w0 hSw; (try dsimp only at hSw); go_simp; try (with_reducible rfl))); (focus assumption))
       try simp only [zP, zA, zZ, zS]
       (apply tkT 15 65535 hg; (focus rfl); (focus rfl); (focus kernel_rfl); (focus (intro w0 hSw; (try dsimp only at hSw); go_simp; try (with_reducible rfl))); (focus assumption))
       try simp only [zP, zA, zZ, zS]
       refine actE hg (by kernel_rfl) ?_
       have C := D0.out
       replace BB := Lib.hid (BB.out.trans (C.mono BB.out.size))
       replace Hdk := Lib.hid (Hdk.out.step C)
       replace Hsa := Lib.hid (Hsa.out.step C)
       replace HD := Lib.hid (HD.out.step C)
       replace HG := Lib.hid (HG.out.step C)
       clear C D0 S0
       try clear idk rdk ldk ndk mdk isa rsa lsa nsa msa
       obtain ⟨idk, rdk, ldk, ndk, mdk⟩ := boxAll Hdk.out
       obtain ⟨isa, rsa, lsa, nsa, msa⟩ := boxAll Hsa.out
       go_wp2_with (first | go_skip | (apply st_row 28 4; (focus rfl); (focus rfl); (focus go_simp); (focus kernel_rfl); (focus rfl); (focus (simp [Value.oneCell']; done))) | (apply st_row 24 3; (focus rfl); (focus rfl); (focus go_simp); (focus kernel_rfl); (focus rfl); (focus (simp [Value.oneCell']; done))))
       go_ret
       refine ⟨rfl, ?_⟩
       have BB1 := BB.out
       have BBs := BB.out.size
       try exact BB1
       all_goals repeat' (first | with_reducible refine Below.alloc ?_ ?_ _ | with_reducible refine Below.setRow_ ?_ ?_ _ | with_reducible refine Below.setCell ?_ ?_ _ | with_reducible refine Below.drew ?_ | with_reducible refine Below.drewN_ ?_ _ | with_reducible exact Below.refl _ _ | assumption | (simp; done) | (simp; omega) | omega)
   ·obtain ⟨h2, h3⟩ := h1 z0
    unfold z28 at h2
    cases h2
    have dn : (nos != 0) = true := by simpa using z0
    have de : (nos == 0) = false := by simpa using z0
    have d3 : (nos != 3) = true := by simpa using h3
    have d4 : (nos == 3) = false := by simpa using h3
    clear h0 h1 h3 z0
    go_wp2_with (first | go_skip | (apply st_row 28 4; (focus rfl); (focus rfl); (focus go_simp); (focus kernel_rfl); (focus rfl); (focus (simp [Value.oneCell']; done))) | (apply st_row 24 3; (focus rfl); (focus rfl); (focus go_simp); (focus kernel_rfl); (focus rfl); (focus (simp [Value.oneCell']; done))))
    go_ret
    refine ⟨rfl, ?_⟩
    have BB1 := BB.out
    have BBs := BB.out.size
    try exact BB1
    all_goals repeat' (first | with_reducible refine Below.alloc ?_ ?_ _ | with_reducible refine Below.setRow_ ?_ ?_ _ | with_reducible refine Below.setCell ?_ ?_ _ | with_reducible refine Below.drew ?_ | with_reducible refine Below.drewN_ ?_ _ | with_reducible exact Below.refl _ _ | assumption | (simp; done) | (simp; omega) | omega)
  ·have d_path : decide ((200 : Int) < (path.size : Int)) = true := decide_eq_true (by omega)
   clear zpath
   go_wp2_with (first | go_skip | (apply st_row 28 4; (focus rfl); (focus rfl); (focus go_simp); (focus kernel_rfl); (focus rfl); (focus (simp [Value.oneCell']; done))) | (apply st_row 24 3; (focus rfl); (focus rfl); (focus go_simp); (focus kernel_rfl); (focus rfl); (focus (simp [Value.oneCell']; done))))
   refine Calls.at_ fun W hW => ?_
   have B0 : Below w1.heap.size w1 W := by rw [hW]; repeat' (first | with_reducible refine Below.alloc ?_ ?_ _ | with_reducible refine Below.setRow_ ?_ ?_ _ | with_reducible refine Below.setCell ?_ ?_ _ | with_reducible refine Below.drew ?_ | with_reducible refine Below.drewN_ ?_ _ | with_reducible exact Below.refl _ _ | assumption | (simp; done) | (simp; omega) | omega)
   clear hW
   refine (shown_calls W (HG.out.step B0)).mono ?_
   rintro e w2 h
   obtain ⟨rfl, hb⟩ := (show ShR _ _ _ from h)
   have C := B0.trans (hb.mono B0.size)
   replace BB := Lib.hid (BB.out.trans (C.mono BB.out.size))
   replace HD := Lib.hid (HD.out.step C)
   replace HG := Lib.hid (HG.out.step C)
   try clear idk rdk ldk ndk mdk
   replace Hdk := Lib.hid (Hdk.out.step C)
   obtain ⟨idk, rdk, ldk, ndk, mdk⟩ := boxAll Hdk.out
   clear h hb C B0 W
   go_wp2_with (first | go_skip | (apply st_row 28 4; (focus rfl); (focus rfl); (focus go_simp); (focus kernel_rfl); (focus rfl); (focus (simp [Value.oneCell']; done))) | (apply st_row 24 3; (focus rfl); (focus rfl); (focus go_simp); (focus kernel_rfl); (focus rfl); (focus (simp [Value.oneCell']; done))))
   go_ret
   refine ⟨rfl, ?_⟩
   have BB1 := BB.out
   have BBs := BB.out.size
   try exact BB1
   all_goals repeat' (first | with_reducible refine Below.alloc ?_ ?_ _ | with_reducible refine Below.setRow_ ?_ ?_ _ | with_reducible refine Below.setCell ?_ ?_ _ | with_reducible refine Below.drew ?_ | with_reducible refine Below.drewN_ ?_ _ | with_reducible exact Below.refl _ _ | assumption | (simp; done) | (simp; omega) | omega)
end Go.Proofs.YthagmakojbfmaaaDoor.Ext
