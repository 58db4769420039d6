/- flagstonelaw07.WalkJoins: it answers true. -/
import Derived.Test.YthagmakojbfmaaaDoorSw
import Derived.Test.YthagmakojbfmaaaDoorLq
import Derived.Test.YthagmakojbfmaaaDoorJn
set_option linter.unusedVariables false
set_option linter.unusedSimpArgs false
namespace Go.Proofs.YthagmakojbfmaaaDoor.Ext
open Go Go.RowKit Go.Proofs.YthagmakojbfmaaaDoor Go.Proofs.YthagmakojbfmaaaDoorW.PrintWords
attribute [local go_sem] isRow_drew row_drew isRow_drewN row_drewN cell_isRow rowSz_isRow isHead_ptr blockOf_ptr row_alloc isRow_alloc rowSz_alloc setRow_alloc isRow_setRow isRow_setCell isRow_frozen setCell_setRow_same setCell_setRow_other cell_setRow_same' cell_setRow_other' frozen_setRow' row_setRow_same row_setRow_other rowSz_setRow_same rowSz_setRow_other setRow_setRow_same' setRow_comm' ne_l2 ne_r2 ne_l3 ne_r3 ne_l4 ne_r4 ne_l5 ne_r5 ne_l6 ne_r6 ne_l7 ne_r7 ne_l8 ne_r8
attribute [local go_sem ↓] ldx_28
attribute [local go_sem ↓] ldx_24
attribute [local go_sem ↓] Go.wp_at_zero Go.wp_at_succ
set_option maxRecDepth 100000 in
set_option maxHeartbeats 8000000 in
theorem walkJoins_calls (A : Option Addr) (c : Nat) (ns : List S48) (m r : Int) (who frm : Int) (p q : ByteArray) (w : World) (hd : Dk w A ns) (hg : Eg w) (hc : ns.length ≤ c) (hl : ns.length ≤ 1000000000000000) (hs : ∀ i j, (rd_T57 (rd_T48 ns i).f7 j).f0.size ≤ 1000000000000000) :
  Calls Tryd.prog 4 #[.agg #[.slice A ns.length c, .int .i64 m, .int .i64 r], .int .i64 who, .int .i64 frm, .string p, .string q] w (ShR w) := by
 have HL := Lib.hid (And.intro hc (And.intro hl hs))
 have HD := Lib.hid hd
 have HG := Lib.hid hg
 clear hd hg hc hl hs
 go_enter Tryd.func4, Tryd.ntmps4
 go_wp2_with (first | go_skip | (apply st_row 28 4; (focus rfl); (focus rfl); (focus go_simp); (focus kernel_rfl); (focus rfl); (focus (simp [Value.oneCell']; done))) | (apply st_row 24 3; (focus rfl); (focus rfl); (focus go_simp); (focus kernel_rfl); (focus rfl); (focus (simp [Value.oneCell']; done))))
 refine Calls.at_ fun W hW => ?_
 have B0 : Below w.heap.size w W := by rw [hW]; repeat' (first | with_reducible refine Below.alloc ?_ ?_ _ | with_reducible refine Below.setRow_ ?_ ?_ _ | with_reducible refine Below.setCell ?_ ?_ _ | with_reducible refine Below.drew ?_ | with_reducible refine Below.drewN_ ?_ _ | with_reducible exact Below.refl _ _ | assumption | (simp; done) | (simp; omega) | omega)
 have Ydk : Box W (w.heap.size) #[.slice A ns.length c, .int .i64 m, .int .i64 r] := ⟨_, by rw [hW]; exact blk_new _ (by first | rfl | simp)⟩
 clear hW
 refine (lright_calls A c ns m r W (HD.out.step B0) HL.out.1 HL.out.2.1 HL.out.2.2).mono ?_
 rintro e w1 h
 have h' := h
 obtain ⟨rb, rfl, hb, hok⟩ := (show LrR _ _ _ _ from h')
 have HOK := Lib.hid hok
 have C := B0.trans (hb.mono B0.size)
 have BB := Lib.hid C
 replace HD := Lib.hid (HD.out.step C)
 replace HG := Lib.hid (HG.out.step C)
 have Hdk := Lib.hid (Ydk.step hb)
 obtain ⟨bdk, hbdk⟩ : ∃ b, b = w.heap.size := ⟨_, rfl⟩
 rw [← hbdk] at Hdk ⊢
 clear Ydk hbdk
 obtain ⟨idk, rdk, ldk, ndk, mdk⟩ := boxAll Hdk.out
 clear h hb C B0 W h' hok
 cases rb with
 | false =>
  go_wp2_with (first | go_skip | (apply st_row 28 4; (focus rfl); (focus rfl); (focus go_simp); (focus kernel_rfl); (focus rfl); (focus (simp [Value.oneCell']; done))) | (apply st_row 24 3; (focus rfl); (focus rfl); (focus go_simp); (focus kernel_rfl); (focus rfl); (focus (simp [Value.oneCell']; done))))
  refine Calls.at_ fun W hW => ?_
  have B0 : Below w1.heap.size w1 W := by rw [hW]; repeat' (first | with_reducible refine Below.alloc ?_ ?_ _ | with_reducible refine Below.setRow_ ?_ ?_ _ | with_reducible refine Below.setCell ?_ ?_ _ | with_reducible refine Below.drew ?_ | with_reducible refine Below.drewN_ ?_ _ | with_reducible exact Below.refl _ _ | assumption | (simp; done) | (simp; omega) | omega)
  clear hW
  refine (shown_calls W (HG.out.step B0)).mono ?_
  rintro e w2 h
  obtain ⟨rfl, hb⟩ := (show ShR _ _ _ from h)
  have C := B0.trans (hb.mono B0.size)
  replace BB := Lib.hid (BB.out.trans (C.mono BB.out.size))
  replace HD := Lib.hid (HD.out.step C)
  replace HG := Lib.hid (HG.out.step C)
  try clear idk rdk ldk ndk mdk
  replace Hdk := Lib.hid (Hdk.out.step C)
  obtain ⟨idk, rdk, ldk, ndk, mdk⟩ := boxAll Hdk.out
  clear h hb C B0 W
  go_wp2_with (first | go_skip | (apply st_row 28 4; (focus rfl); (focus rfl); (focus go_simp); (focus kernel_rfl); (focus rfl); (focus (simp [Value.oneCell']; done))) | (apply st_row 24 3; (focus rfl); (focus rfl); (focus go_simp); (focus kernel_rfl); (focus rfl); (focus (simp [Value.oneCell']; done))))
  go_ret
  refine ⟨rfl, ?_⟩
  have BB1 := BB.out
  have BBs := BB.out.size
  try exact BB1
  all_goals repeat' (first | with_reducible refine Below.alloc ?_ ?_ _ | with_reducible refine Below.setRow_ ?_ ?_ _ | with_reducible refine Below.setCell ?_ ?_ _ | with_reducible refine Below.drew ?_ | with_reducible refine Below.drewN_ ?_ _ | with_reducible exact Below.refl _ _ | assumption | (simp; done) | (simp; omega) | omega)
 | true =>
  have HR := Lib.hid (HOK.out (by simp))
  clear HOK
  by_cases zp : p.size ≤ 90
  ·have d_p : decide ((90 : Int) < (p.size : Int)) = false := decide_eq_false (by omega)
   have HZp := Lib.hid zp
   clear zp
   by_cases zq : q.size ≤ 90
   ·have d_q : decide ((90 : Int) < (q.size : Int)) = false := decide_eq_false (by omega)
    have HZq := Lib.hid zq
    clear zq
    by_cases zq0 : ¬ q.data.toList = []
    ·have z1 : (q.toList == []) = false := by rw [toList_data]; simpa using zq0
     have z2 : q.toList.isEmpty = false := by rw [toList_data]; simpa using zq0
     have HE := Lib.hid zq0
     clear zq0
     by_cases zh : q.data.toList.head? ≠ some 47
     ·have hbq := head_bt q.data.toList HE.out
      rw [bs_of] at hbq
      have qsz : (0 < q.size) = True := eq_true (by rw [← size_data]; cases h : q.data.toList with | nil => exact absurd h HE.out | cons a l => simp)
      have hb0 : 0 < q.size := of_eq_true qsz
      have hb1 : (((q[0]'hb0).toNat : Int) = 47) = False := eq_false (fun h => zh (by rw [head_at q hb0, (u8_47 _).1 h]))
      have hb2 : (((q[0]'hb0).toNat : Int) == 47) = false := by rw [beq_eq_false_iff_ne]; exact of_eq_false hb1
      have HH := Lib.hid zh
      clear zh hbq
      have HF := Lib.hid (RightD.fit HR.out)
      have HN := Lib.hid (show ns.length ≤ 1000000 by have := HR.out.1.1; omega)
      go_wp2_with (first | go_skip | (apply st_row 28 4; (focus rfl); (focus rfl); (focus go_simp); (focus kernel_rfl); (focus rfl); (focus (simp [Value.oneCell']; done))) | (apply st_row 24 3; (focus rfl); (focus rfl); (focus go_simp); (focus kernel_rfl); (focus rfl); (focus (simp [Value.oneCell']; done))))
      refine Calls.at_ fun W hW => ?_
      have B0 : Below w1.heap.size w1 W := by rw [hW]; repeat' (first | with_reducible refine Below.alloc ?_ ?_ _ | with_reducible refine Below.setRow_ ?_ ?_ _ | with_reducible refine Below.setCell ?_ ?_ _ | with_reducible refine Below.drew ?_ | with_reducible refine Below.drewN_ ?_ _ | with_reducible exact Below.refl _ _ | assumption | (simp; done) | (simp; omega) | omega)
      clear hW
      refine (shown_calls W (HG.out.step B0)).mono ?_
      rintro e w2 h
      obtain ⟨rfl, hb⟩ := (show ShR _ _ _ from h)
      have C := B0.trans (hb.mono B0.size)
      replace BB := Lib.hid (BB.out.trans (C.mono BB.out.size))
      replace HD := Lib.hid (HD.out.step C)
      replace HG := Lib.hid (HG.out.step C)
      try clear idk rdk ldk ndk mdk
      replace Hdk := Lib.hid (Hdk.out.step C)
      obtain ⟨idk, rdk, ldk, ndk, mdk⟩ := boxAll Hdk.out
      clear h hb C B0 W
      obtain ⟨⟨i0, i1⟩, hx⟩ : ∃ x, nodeF ns who frm p true = x := ⟨_, rfl⟩
      have HXi := Lib.hid hx
      clear hx
      obtain ⟨⟨j0, j1⟩, hx⟩ : ∃ x, nodeF ns who i0 q true = x := ⟨_, rfl⟩
      have HXj := Lib.hid hx
      clear hx
      go_wp2_with (first | go_skip | (apply st_row 28 4; (focus rfl); (focus rfl); (focus go_simp); (focus kernel_rfl); (focus rfl); (focus (simp [Value.oneCell']; done))) | (apply st_row 24 3; (focus rfl); (focus rfl); (focus go_simp); (focus kernel_rfl); (focus rfl); (focus (simp [Value.oneCell']; done))))
      refine Calls.at_ fun W hW => ?_
      have B0 : Below w2.heap.size w2 W := by rw [hW]; repeat' (first | with_reducible refine Below.alloc ?_ ?_ _ | with_reducible refine Below.setRow_ ?_ ?_ _ | with_reducible refine Below.setCell ?_ ?_ _ | with_reducible refine Below.drew ?_ | with_reducible refine Below.drewN_ ?_ _ | with_reducible exact Below.refl _ _ | assumption | (simp; done) | (simp; omega) | omega)
      clear hW
      refine (node_calls A c ns m r who frm p true W (HD.out.step B0) (HG.out.step B0) HL.out.1 HN.out HF.out (Nat.le_trans HZp.out (by decide))).mono ?_
      rintro e w3 h
      obtain ⟨rfl, hb⟩ := (show RetN W (nodeF ns who frm p true) e w3 from h)
      rw [HXi.out]
      try simp only
      have C := B0.trans (hb.mono B0.size)
      replace BB := Lib.hid (BB.out.trans (C.mono BB.out.size))
      replace HD := Lib.hid (HD.out.step C)
      replace HG := Lib.hid (HG.out.step C)
      try clear idk rdk ldk ndk mdk
      replace Hdk := Lib.hid (Hdk.out.step C)
      obtain ⟨idk, rdk, ldk, ndk, mdk⟩ := boxAll Hdk.out
      clear h hb C B0 W
      go_wp2_with (first | go_skip | (apply st_row 28 4; (focus rfl); (focus rfl); (focus go_simp); (focus kernel_rfl); (focus rfl); (focus (simp [Value.oneCell']; done))) | (apply st_row 24 3; (focus rfl); (focus rfl); (focus go_simp); (focus kernel_rfl); (focus rfl); (focus (simp [Value.oneCell']; done))))
      refine Calls.at_ fun W hW => ?_
      have B0 : Below w3.heap.size w3 W := by rw [hW]; repeat' (first | with_reducible refine Below.alloc ?_ ?_ _ | with_reducible refine Below.setRow_ ?_ ?_ _ | with_reducible refine Below.setCell ?_ ?_ _ | with_reducible refine Below.drew ?_ | with_reducible refine Below.drewN_ ?_ _ | with_reducible exact Below.refl _ _ | assumption | (simp; done) | (simp; omega) | omega)
      clear hW
      refine (node_calls A c ns m r who i0 q true W (HD.out.step B0) (HG.out.step B0) HL.out.1 HN.out HF.out (Nat.le_trans HZq.out (by decide))).mono ?_
      rintro e w4 h
      obtain ⟨rfl, hb⟩ := (show RetN W (nodeF ns who i0 q true) e w4 from h)
      rw [HXj.out]
      try simp only
      have C := B0.trans (hb.mono B0.size)
      replace BB := Lib.hid (BB.out.trans (C.mono BB.out.size))
      replace HD := Lib.hid (HD.out.step C)
      replace HG := Lib.hid (HG.out.step C)
      try clear idk rdk ldk ndk mdk
      replace Hdk := Lib.hid (Hdk.out.step C)
      obtain ⟨idk, rdk, ldk, ndk, mdk⟩ := boxAll Hdk.out
      clear h hb C B0 W
      by_cases zi1 : i1 = 0
      ·subst zi1
       by_cases zj1 : j1 = 0
       ·subst zj1
        have hJ := joins_law ns HR.out who frm p q HZp.out HZq.out HE.out HH.out (by rw [HXi.out]) (by rw [HXi.out]; simp only; rw [HXj.out])
        have hjf := refJoin p.data.toList q.data.toList (by rw [size_data]; have := HZp.out; omega) (by rw [size_data]; have := HZq.out; omega) 999
        rw [bs_of, bs_of] at hjf
        have hjl := (len_join (check_parts (Decidable.byContradiction fun h => by have hh := (node_zero (by rw [HXi.out])).1; rw [walk_not ns who frm p true h] at hh; exact h hh)).1 HE.out HH.out).1
        rw [size_data, size_data] at hjl
        rw [HXi.out] at hJ
        simp only at hJ
        rw [HXj.out] at hJ
        simp only at hJ
        have hps : (bs (joinL p.data.toList q.data.toList)).size = (joinL p.data.toList q.data.toList).length := bs_size _
        rw [← hps] at hJ hjl
        generalize bs (joinL p.data.toList q.data.toList) = P at hJ hjf hjl hps
        have HJF := Lib.hid hjf
        have HPS := Lib.hid (show P.size ≤ 1000 by have := HZp.out; have := HZq.out; omega)
        clear hjf hjl hps
        obtain ⟨⟨k0, k1⟩, hx⟩ : ∃ x, nodeF ns who frm P true = x := ⟨_, rfl⟩
        rw [hx] at hJ
        simp only at hJ
        have HXk := Lib.hid hx
        have HJ := Lib.hid hJ
        clear hx hJ
        go_wp2_with (first | go_skip | (apply st_row 28 4; (focus rfl); (focus rfl); (focus go_simp); (focus kernel_rfl); (focus rfl); (focus (simp [Value.oneCell']; done))) | (apply st_row 24 3; (focus rfl); (focus rfl); (focus go_simp); (focus kernel_rfl); (focus rfl); (focus (simp [Value.oneCell']; done))))
        refine Code.at_ fun v5 hW => ?_
        have B0 : Below w4.heap.size w4 v5 := by rw [hW]; repeat' (first | with_reducible refine Below.alloc ?_ ?_ _ | with_reducible refine Below.setRow_ ?_ ?_ _ | with_reducible refine Below.setCell ?_ ?_ _ | with_reducible refine Below.drew ?_ | with_reducible refine Below.drewN_ ?_ _ | with_reducible exact Below.refl _ _ | assumption | (simp; done) | (simp; omega) | omega)
        clear hW
        have C := B0
        replace BB := Lib.hid (BB.out.trans (C.mono BB.out.size))
        replace HD := Lib.hid (HD.out.step C)
        replace HG := Lib.hid (HG.out.step C)
        try clear idk rdk ldk ndk mdk
        replace Hdk := Lib.hid (Hdk.out.step C)
        clear C B0
        obtain ⟨idk, rdk, ldk, ndk, mdk⟩ := boxAll Hdk.out
        have D0 : Below v5.heap.size v5 v5.drew := (Below.refl _ _).drew
        have S0 : isRow v5.drew bdk = true ∧ row v5.drew bdk = #[.slice A ns.length c, .int .i64 m, .int .i64 r] := ⟨Hdk.out.isRow, Hdk.out.row⟩
        replace D0 := Lib.hid D0
        refine reg0 12 (fun w' => isRow w' bdk = true ∧ row w' bdk = #[.slice A ns.length c, .int .i64 m, .int .i64 r]) (by kernel_rfl) (by kernel_rfl) (by kernel_rfl) ?_ (fun l hg hHeld => ?_)
        ·(try dsimp only); exact S0
        (apply tkT 0 1 hg; (focus rfl); (focus rfl); (focus kernel_rfl); (focus (intro w0 hSw; (try dsimp only at hSw); go_simp; try (with_reducible rfl))); (focus assumption))
        try simp only [zP, zA, zZ, zS]
        (apply tkT 1 3 hg; (focus rfl); (focus rfl); (focus kernel_rfl); (focus (intro w0 hSw; (try dsimp only at hSw); go_simp; try (with_reducible rfl))); (focus assumption))
        try simp only [zP, zA, zZ, zS]
        (apply tkT 2 7 hg; (focus rfl); (focus rfl); (focus kernel_rfl); (focus (intro w0 hSw; (try dsimp only at hSw); go_simp; try (with_reducible rfl))); (focus assumption))
        try simp only [zP, zA, zZ, zS]
        (apply tkT 3 15 hg; (focus rfl); (focus rfl); (focus kernel_rfl); (focus (intro w0 hSw; (try dsimp only at hSw); go_simp; try (with_reducible rfl))); (focus assumption))
        try simp only [zP, zA, zZ, zS]
        (apply tkT 4 31 hg; (focus rfl); (focus rfl); (focus kernel_rfl); (focus (intro w0 hSw; (try dsimp only at hSw); go_simp; try (with_reducible rfl))); (focus assumption))
        try simp only [zP, zA, zZ, zS]
        (apply act1 5 63 hg; (focus rfl); (focus rfl); (focus kernel_rfl))
        intro K hK
        go_simp
        refine (Pright.flagstoneref01_Join.calls 1000 p q P _ HJF.out).mono ?_
        rintro e u6_1 h
        obtain ⟨rfl, hdr⟩ := h
        have hb := Drawn0.below hdr
        clear hdr
        have h := hb
        replace D0 := Lib.hid (D0.out.trans (hb.mono D0.out.size))
        replace S0 := keepR hb S0
        clear hb h
        refine hK.out _ _ ?_ (fun hHeld => ?_)
        ·(try dsimp only); exact S0
        clear hK K
        try simp only [zP, zA, zZ, zS]
        (apply act1 6 127 hg; (focus rfl); (focus rfl); (focus kernel_rfl))
        intro K hK
        go_simp
        refine (node_calls A c ns m r who frm P true _ (HD.out.step D0.out) (HG.out.step D0.out) HL.out.1 HN.out HF.out HPS.out).mono ?_
        rintro e u6_2 h
        obtain ⟨rfl, hb⟩ := (show RetN _ (nodeF ns who frm P true) e u6_2 from h)
        rw [HXk.out]
        try simp only
        have h := hb
        replace D0 := Lib.hid (D0.out.trans (hb.mono D0.out.size))
        replace S0 := keepR hb S0
        clear hb h
        refine hK.out _ _ ?_ (fun hHeld => ?_)
        ·(try dsimp only); exact S0
        clear hK K
        try simp only [zP, zA, zZ, zS]
        (apply tkT 7 255 hg; (focus rfl); (focus rfl); (focus kernel_rfl); (focus (intro w0 hSw; (try dsimp only at hSw); go_simp; try (with_reducible rfl))); (focus assumption))
        try simp only [zP, zA, zZ, zS]
        (apply tkT 8 511 hg; (focus rfl); (focus rfl); (focus kernel_rfl); (focus (intro w0 hSw; (try dsimp only at hSw); go_simp; try (with_reducible rfl))); (focus assumption))
        try simp only [zP, zA, zZ, zS]
        (apply tkT 9 1023 hg; (focus rfl); (focus rfl); (focus kernel_rfl); (focus (intro w0 hSw; (try dsimp only at hSw); go_simp; try (with_reducible rfl))); (focus assumption))
        try simp only [zP, zA, zZ, zS]
        (apply tkT 10 2047 hg; (focus rfl); (focus rfl); (focus kernel_rfl); (focus (intro w0 hSw; (try dsimp only at hSw); go_simp; try (with_reducible rfl))); (focus assumption))
        try simp only [zP, zA, zZ, zS]
        (apply tkT 11 4095 hg; (focus rfl); (focus rfl); (focus kernel_rfl); (focus (intro w0 hSw; (try dsimp only at hSw); go_simp; try (with_reducible rfl))); (focus assumption))
        try simp only [zP, zA, zZ, zS]
        refine actE hg (by kernel_rfl) ?_
        have C := D0.out
        replace BB := Lib.hid (BB.out.trans (C.mono BB.out.size))
        replace Hdk := Lib.hid (Hdk.out.step C)
        replace HD := Lib.hid (HD.out.step C)
        replace HG := Lib.hid (HG.out.step C)
        clear C D0 S0
        try clear idk rdk ldk ndk mdk
        obtain ⟨idk, rdk, ldk, ndk, mdk⟩ := boxAll Hdk.out
        rcases HJ.out with ⟨hk1, hk0⟩ | hk1 | ⟨hk1, hk2⟩
        ·subst hk1
         subst hk0
         go_wp2_with (first | go_skip | (apply st_row 28 4; (focus rfl); (focus rfl); (focus go_simp); (focus kernel_rfl); (focus rfl); (focus (simp [Value.oneCell']; done))) | (apply st_row 24 3; (focus rfl); (focus rfl); (focus go_simp); (focus kernel_rfl); (focus rfl); (focus (simp [Value.oneCell']; done))))
         go_ret
         refine ⟨rfl, ?_⟩
         have BB1 := BB.out
         have BBs := BB.out.size
         try exact BB1
         all_goals repeat' (first | with_reducible refine Below.alloc ?_ ?_ _ | with_reducible refine Below.setRow_ ?_ ?_ _ | with_reducible refine Below.setCell ?_ ?_ _ | with_reducible refine Below.drew ?_ | with_reducible refine Below.drewN_ ?_ _ | with_reducible exact Below.refl _ _ | assumption | (simp; done) | (simp; omega) | omega)
        ·subst hk1
         go_wp2_with (first | go_skip | (apply st_row 28 4; (focus rfl); (focus rfl); (focus go_simp); (focus kernel_rfl); (focus rfl); (focus (simp [Value.oneCell']; done))) | (apply st_row 24 3; (focus rfl); (focus rfl); (focus go_simp); (focus kernel_rfl); (focus rfl); (focus (simp [Value.oneCell']; done))))
         go_ret
         refine ⟨rfl, ?_⟩
         have BB1 := BB.out
         have BBs := BB.out.size
         try exact BB1
         all_goals repeat' (first | with_reducible refine Below.alloc ?_ ?_ _ | with_reducible refine Below.setRow_ ?_ ?_ _ | with_reducible refine Below.setCell ?_ ?_ _ | with_reducible refine Below.drew ?_ | with_reducible refine Below.drewN_ ?_ _ | with_reducible exact Below.refl _ _ | assumption | (simp; done) | (simp; omega) | omega)
        ·subst hk1
         have dl : decide ((100 : Int) < (P.size : Int)) = true := decide_eq_true (by omega)
         clear hk2
         go_wp2_with (first | go_skip | (apply st_row 28 4; (focus rfl); (focus rfl); (focus go_simp); (focus kernel_rfl); (focus rfl); (focus (simp [Value.oneCell']; done))) | (apply st_row 24 3; (focus rfl); (focus rfl); (focus go_simp); (focus kernel_rfl); (focus rfl); (focus (simp [Value.oneCell']; done))))
         refine Calls.at_ fun W hW => ?_
         have B0 : Below u6_2.heap.size u6_2 W := by rw [hW]; repeat' (first | with_reducible refine Below.alloc ?_ ?_ _ | with_reducible refine Below.setRow_ ?_ ?_ _ | with_reducible refine Below.setCell ?_ ?_ _ | with_reducible refine Below.drew ?_ | with_reducible refine Below.drewN_ ?_ _ | with_reducible exact Below.refl _ _ | assumption | (simp; done) | (simp; omega) | omega)
         clear hW
         refine (Pright.flagstoneref01_Join.calls 1000 p q P W HJF.out).mono ?_
         rintro e w7 h
         obtain ⟨rfl, hdr⟩ := h
         have hb := Drawn0.below hdr
         have h := hb
         have C := B0.trans (hb.mono B0.size)
         replace BB := Lib.hid (BB.out.trans (C.mono BB.out.size))
         replace HD := Lib.hid (HD.out.step C)
         replace HG := Lib.hid (HG.out.step C)
         try clear idk rdk ldk ndk mdk
         replace Hdk := Lib.hid (Hdk.out.step C)
         obtain ⟨idk, rdk, ldk, ndk, mdk⟩ := boxAll Hdk.out
         clear h hb C B0 W hdr
         go_wp2_with (first | go_skip | (apply st_row 28 4; (focus rfl); (focus rfl); (focus go_simp); (focus kernel_rfl); (focus rfl); (focus (simp [Value.oneCell']; done))) | (apply st_row 24 3; (focus rfl); (focus rfl); (focus go_simp); (focus kernel_rfl); (focus rfl); (focus (simp [Value.oneCell']; done))))
         go_ret
         refine ⟨rfl, ?_⟩
         have BB1 := BB.out
         have BBs := BB.out.size
         try exact BB1
         all_goals repeat' (first | with_reducible refine Below.alloc ?_ ?_ _ | with_reducible refine Below.setRow_ ?_ ?_ _ | with_reducible refine Below.setCell ?_ ?_ _ | with_reducible refine Below.drew ?_ | with_reducible refine Below.drewN_ ?_ _ | with_reducible exact Below.refl _ _ | assumption | (simp; done) | (simp; omega) | omega)
       ·have dn : (j1 != 0) = true := by simpa using zj1
        have de : (j1 == 0) = false := by simpa using zj1
        clear zj1
        go_wp2_with (first | go_skip | (apply st_row 28 4; (focus rfl); (focus rfl); (focus go_simp); (focus kernel_rfl); (focus rfl); (focus (simp [Value.oneCell']; done))) | (apply st_row 24 3; (focus rfl); (focus rfl); (focus go_simp); (focus kernel_rfl); (focus rfl); (focus (simp [Value.oneCell']; done))))
        go_ret
        refine ⟨rfl, ?_⟩
        have BB1 := BB.out
        have BBs := BB.out.size
        try exact BB1
        all_goals repeat' (first | with_reducible refine Below.alloc ?_ ?_ _ | with_reducible refine Below.setRow_ ?_ ?_ _ | with_reducible refine Below.setCell ?_ ?_ _ | with_reducible refine Below.drew ?_ | with_reducible refine Below.drewN_ ?_ _ | with_reducible exact Below.refl _ _ | assumption | (simp; done) | (simp; omega) | omega)
      ·have dn : (i1 != 0) = true := by simpa using zi1
       have de : (i1 == 0) = false := by simpa using zi1
       clear zi1
       go_wp2_with (first | go_skip | (apply st_row 28 4; (focus rfl); (focus rfl); (focus go_simp); (focus kernel_rfl); (focus rfl); (focus (simp [Value.oneCell']; done))) | (apply st_row 24 3; (focus rfl); (focus rfl); (focus go_simp); (focus kernel_rfl); (focus rfl); (focus (simp [Value.oneCell']; done))))
       go_ret
       refine ⟨rfl, ?_⟩
       have BB1 := BB.out
       have BBs := BB.out.size
       try exact BB1
       all_goals repeat' (first | with_reducible refine Below.alloc ?_ ?_ _ | with_reducible refine Below.setRow_ ?_ ?_ _ | with_reducible refine Below.setCell ?_ ?_ _ | with_reducible refine Below.drew ?_ | with_reducible refine Below.drewN_ ?_ _ | with_reducible exact Below.refl _ _ | assumption | (simp; done) | (simp; omega) | omega)
     ·have zh' := Decidable.not_not.1 zh
      have hbq := head_bt q.data.toList HE.out
      rw [bs_of, zh'] at hbq
      have qsz : (0 < q.size) = True := eq_true (by rw [← size_data]; cases h : q.data.toList with | nil => exact absurd h HE.out | cons a l => simp)
      have hb0 : 0 < q.size := of_eq_true qsz
      have hb1 : (((q[0]'hb0).toNat : Int) = 47) = True := eq_true (by have e := head_at q hb0; rw [zh'] at e; rw [← Option.some.inj e]; rfl)
      have hb2 : (((q[0]'hb0).toNat : Int) == 47) = true := by rw [beq_iff_eq]; exact of_eq_true hb1
      clear zh zh' hbq
      go_wp2_with (first | go_skip | (apply st_row 28 4; (focus rfl); (focus rfl); (focus go_simp); (focus kernel_rfl); (focus rfl); (focus (simp [Value.oneCell']; done))) | (apply st_row 24 3; (focus rfl); (focus rfl); (focus go_simp); (focus kernel_rfl); (focus rfl); (focus (simp [Value.oneCell']; done))))
      refine Calls.at_ fun W hW => ?_
      have B0 : Below w1.heap.size w1 W := by rw [hW]; repeat' (first | with_reducible refine Below.alloc ?_ ?_ _ | with_reducible refine Below.setRow_ ?_ ?_ _ | with_reducible refine Below.setCell ?_ ?_ _ | with_reducible refine Below.drew ?_ | with_reducible refine Below.drewN_ ?_ _ | with_reducible exact Below.refl _ _ | assumption | (simp; done) | (simp; omega) | omega)
      clear hW
      refine (shown_calls W (HG.out.step B0)).mono ?_
      rintro e w2 h
      obtain ⟨rfl, hb⟩ := (show ShR _ _ _ from h)
      have C := B0.trans (hb.mono B0.size)
      replace BB := Lib.hid (BB.out.trans (C.mono BB.out.size))
      replace HD := Lib.hid (HD.out.step C)
      replace HG := Lib.hid (HG.out.step C)
      try clear idk rdk ldk ndk mdk
      replace Hdk := Lib.hid (Hdk.out.step C)
      obtain ⟨idk, rdk, ldk, ndk, mdk⟩ := boxAll Hdk.out
      clear h hb C B0 W
      go_wp2_with (first | go_skip | (apply st_row 28 4; (focus rfl); (focus rfl); (focus go_simp); (focus kernel_rfl); (focus rfl); (focus (simp [Value.oneCell']; done))) | (apply st_row 24 3; (focus rfl); (focus rfl); (focus go_simp); (focus kernel_rfl); (focus rfl); (focus (simp [Value.oneCell']; done))))
      go_ret
      refine ⟨rfl, ?_⟩
      have BB1 := BB.out
      have BBs := BB.out.size
      try exact BB1
      all_goals repeat' (first | with_reducible refine Below.alloc ?_ ?_ _ | with_reducible refine Below.setRow_ ?_ ?_ _ | with_reducible refine Below.setCell ?_ ?_ _ | with_reducible refine Below.drew ?_ | with_reducible refine Below.drewN_ ?_ _ | with_reducible exact Below.refl _ _ | assumption | (simp; done) | (simp; omega) | omega)
    ·have z1 : (q.toList == []) = true := by rw [toList_data, Decidable.not_not.1 zq0]; rfl
     have z2 : q.toList.isEmpty = true := by rw [toList_data, Decidable.not_not.1 zq0]; rfl
     clear zq0
     go_wp2_with (first | go_skip | (apply st_row 28 4; (focus rfl); (focus rfl); (focus go_simp); (focus kernel_rfl); (focus rfl); (focus (simp [Value.oneCell']; done))) | (apply st_row 24 3; (focus rfl); (focus rfl); (focus go_simp); (focus kernel_rfl); (focus rfl); (focus (simp [Value.oneCell']; done))))
     refine Calls.at_ fun W hW => ?_
     have B0 : Below w1.heap.size w1 W := by rw [hW]; repeat' (first | with_reducible refine Below.alloc ?_ ?_ _ | with_reducible refine Below.setRow_ ?_ ?_ _ | with_reducible refine Below.setCell ?_ ?_ _ | with_reducible refine Below.drew ?_ | with_reducible refine Below.drewN_ ?_ _ | with_reducible exact Below.refl _ _ | assumption | (simp; done) | (simp; omega) | omega)
     clear hW
     refine (shown_calls W (HG.out.step B0)).mono ?_
     rintro e w2 h
     obtain ⟨rfl, hb⟩ := (show ShR _ _ _ from h)
     have C := B0.trans (hb.mono B0.size)
     replace BB := Lib.hid (BB.out.trans (C.mono BB.out.size))
     replace HD := Lib.hid (HD.out.step C)
     replace HG := Lib.hid (HG.out.step C)
     try clear idk rdk ldk ndk mdk
     replace Hdk := Lib.hid (Hdk.out.step C)
     obtain ⟨idk, rdk, ldk, ndk, mdk⟩ := boxAll Hdk.out
     clear h hb C B0 W
     go_wp2_with (first | go_skip | (apply st_row 28 4; (focus rfl); (focus rfl); (focus go_simp); (focus kernel_rfl); (focus rfl); (focus (simp [Value.oneCell']; done))) | (apply st_row 24 3; (focus rfl); (focus rfl); (focus go_simp); (focus kernel_rfl); (focus rfl); (focus (simp [Value.oneCell']; done))))
     go_ret
     refine ⟨rfl, ?_⟩
     have BB1 := BB.out
     have BBs := BB.out.size
     try exact BB1
     all_goals repeat' (first | with_reducible refine Below.alloc ?_ ?_ _ | with_reducible refine Below.setRow_ ?_ ?_ _ | with_reducible refine Below.setCell ?_ ?_ _ | with_reducible refine Below.drew ?_ | with_reducible refine Below.drewN_ ?_ _ | with_reducible exact Below.refl _ _ | assumption | (simp; done) | (simp; omega) | omega)
   ·have d_q : decide ((90 : Int) < (q.size : Int)) = true := decide_eq_true (by omega)
    clear zq
    go_wp2_with (first | go_skip | (apply st_row 28 4; (focus rfl); (focus rfl); (focus go_simp); (focus kernel_rfl); (focus rfl); (focus (simp [Value.oneCell']; done))) | (apply st_row 24 3; (focus rfl); (focus rfl); (focus go_simp); (focus kernel_rfl); (focus rfl); (focus (simp [Value.oneCell']; done))))
    refine Calls.at_ fun W hW => ?_
    have B0 : Below w1.heap.size w1 W := by rw [hW]; repeat' (first | with_reducible refine Below.alloc ?_ ?_ _ | with_reducible refine Below.setRow_ ?_ ?_ _ | with_reducible refine Below.setCell ?_ ?_ _ | with_reducible refine Below.drew ?_ | with_reducible refine Below.drewN_ ?_ _ | with_reducible exact Below.refl _ _ | assumption | (simp; done) | (simp; omega) | omega)
    clear hW
    refine (shown_calls W (HG.out.step B0)).mono ?_
    rintro e w2 h
    obtain ⟨rfl, hb⟩ := (show ShR _ _ _ from h)
    have C := B0.trans (hb.mono B0.size)
    replace BB := Lib.hid (BB.out.trans (C.mono BB.out.size))
    replace HD := Lib.hid (HD.out.step C)
    replace HG := Lib.hid (HG.out.step C)
    try clear idk rdk ldk ndk mdk
    replace Hdk := Lib.hid (Hdk.out.step C)
    obtain ⟨idk, rdk, ldk, ndk, mdk⟩ := boxAll Hdk.out
    clear h hb C B0 W
    go_wp2_with (first | go_skip | (apply st_row 28 4; (focus rfl); (focus rfl); (focus go_simp); (focus kernel_rfl); (focus rfl); (focus (simp [Value.oneCell']; done))) | (apply st_row 24 3; (focus rfl); (focus rfl); (focus go_simp); (focus kernel_rfl); (focus rfl); (focus (simp [Value.oneCell']; done))))
    go_ret
    refine ⟨rfl, ?_⟩
    have BB1 := BB.out
    have BBs := BB.out.size
    try exact BB1
    all_goals repeat' (first | with_reducible refine Below.alloc ?_ ?_ _ | with_reducible refine Below.setRow_ ?_ ?_ _ | with_reducible refine Below.setCell ?_ ?_ _ | with_reducible refine Below.drew ?_ | with_reducible refine Below.drewN_ ?_ _ | with_reducible exact Below.refl _ _ | assumption | (simp; done) | (simp; omega) | omega)
  ·have d_p : decide ((90 : Int) < (p.size : Int)) = true := decide_eq_true (by omega)
   clear zp
   go_wp2_with (first | go_skip | (apply st_row 28 4; (focus rfl); (focus rfl); (focus go_simp); (focus kernel_rfl); (focus rfl); (focus (simp [Value.oneCell']; done))) | (apply st_row 24 3; (focus rfl); (focus rfl); (focus go_simp); (focus kernel_rfl); (focus rfl); (focus (simp [Value.oneCell']; done))))
   refine Calls.at_ fun W hW => ?_
   have B0 : Below w1.heap.size w1 W := by rw [hW]; repeat' (first | with_reducible refine Below.alloc ?_ ?_ _ | with_reducible refine Below.setRow_ ?_ ?_ _ | with_reducible refine Below.setCell ?_ ?_ _ | with_reducible refine Below.drew ?_ | with_reducible refine Below.drewN_ ?_ _ | with_reducible exact Below.refl _ _ | assumption | (simp; done) | (simp; omega) | omega)
   clear hW
   refine (shown_calls W (HG.out.step B0)).mono ?_
   rintro e w2 h
   obtain ⟨rfl, hb⟩ := (show ShR _ _ _ from h)
   have C := B0.trans (hb.mono B0.size)
   replace BB := Lib.hid (BB.out.trans (C.mono BB.out.size))
   replace HD := Lib.hid (HD.out.step C)
   replace HG := Lib.hid (HG.out.step C)
   try clear idk rdk ldk ndk mdk
   replace Hdk := Lib.hid (Hdk.out.step C)
   obtain ⟨idk, rdk, ldk, ndk, mdk⟩ := boxAll Hdk.out
   clear h hb C B0 W
   go_wp2_with (first | go_skip | (apply st_row 28 4; (focus rfl); (focus rfl); (focus go_simp); (focus kernel_rfl); (focus rfl); (focus (simp [Value.oneCell']; done))) | (apply st_row 24 3; (focus rfl); (focus rfl); (focus go_simp); (focus kernel_rfl); (focus rfl); (focus (simp [Value.oneCell']; done))))
   go_ret
   refine ⟨rfl, ?_⟩
   have BB1 := BB.out
   have BBs := BB.out.size
   try exact BB1
   all_goals repeat' (first | with_reducible refine Below.alloc ?_ ?_ _ | with_reducible refine Below.setRow_ ?_ ?_ _ | with_reducible refine Below.setCell ?_ ?_ _ | with_reducible refine Below.drew ?_ | with_reducible refine Below.drewN_ ?_ _ | with_reducible exact Below.refl _ _ | assumption | (simp; done) | (simp; omega) | omega)
end Go.Proofs.YthagmakojbfmaaaDoor.Ext
