/- flagstonelaw07.WalkSlash: it answers true. -/
import Derived.Test.YthagmakojbfmaaaDoorSw
import Derived.Test.YthagmakojbfmaaaDoorLq
set_option linter.unusedVariables false
set_option linter.unusedSimpArgs false
namespace Go.Proofs.YthagmakojbfmaaaDoor.Ext
open Go Go.RowKit Go.Proofs.YthagmakojbfmaaaDoor Go.Proofs.YthagmakojbfmaaaDoorW.PrintWords
attribute [local go_sem] isRow_drew row_drew isRow_drewN row_drewN cell_isRow rowSz_isRow isHead_ptr blockOf_ptr row_alloc isRow_alloc rowSz_alloc setRow_alloc isRow_setRow isRow_setCell isRow_frozen setCell_setRow_same setCell_setRow_other cell_setRow_same' cell_setRow_other' frozen_setRow' row_setRow_same row_setRow_other rowSz_setRow_same rowSz_setRow_other setRow_setRow_same' setRow_comm' ne_l2 ne_r2 ne_l3 ne_r3 ne_l4 ne_r4 ne_l5 ne_r5 ne_l6 ne_r6 ne_l7 ne_r7 ne_l8 ne_r8
attribute [local go_sem ↓] ldx_28
attribute [local go_sem ↓] ldx_24
attribute [local go_sem ↓] Go.wp_at_zero Go.wp_at_succ
set_option maxRecDepth 100000 in
set_option maxHeartbeats 8000000 in
theorem walkSlash_calls (A : Option Addr) (c : Nat) (ns : List S48) (m r : Int) (who frm : Int) (path : ByteArray) (w : World) (hd : Dk w A ns) (hg : Eg w) (hc : ns.length ≤ c) (hl : ns.length ≤ 1000000000000000) (hs : ∀ i j, (rd_T57 (rd_T48 ns i).f7 j).f0.size ≤ 1000000000000000) :
    Calls Tryd.prog 9 #[.agg #[.slice A ns.length c, .int .i64 m, .int .i64 r], .int .i64 who, .int .i64 frm, .string path] w (ShR w) := by
  have HL := Lib.hid (And.intro hc (And.intro hl hs))
  have HD := Lib.hid hd
  have HG := Lib.hid hg
  clear hd hg hc hl hs
  go_enter Tryd.func9, Tryd.ntmps9
  go_wp2_with (first | go_skip | (apply st_row 28 4; (focus rfl); (focus rfl); (focus go_simp); (focus kernel_rfl); (focus rfl); (focus (simp [Value.oneCell']; done))) | (apply st_row 24 3; (focus rfl); (focus rfl); (focus go_simp); (focus kernel_rfl); (focus rfl); (focus (simp [Value.oneCell']; done))))
  refine Calls.at_ fun W hW => ?_
  have B0 : Below w.heap.size w W := by rw [hW]; repeat' (first | with_reducible refine Below.alloc ?_ ?_ _ | with_reducible refine Below.setRow_ ?_ ?_ _ | with_reducible refine Below.setCell ?_ ?_ _ | with_reducible refine Below.drew ?_ | with_reducible refine Below.drewN_ ?_ _ | with_reducible exact Below.refl _ _ | assumption | (simp; done) | (simp; omega) | omega)
  have Ydk : Box W (w.heap.size) #[.slice A ns.length c, .int .i64 m, .int .i64 r] := ⟨_, by rw [hW]; exact blk_new _ (by first | rfl | simp)⟩
  clear hW
  refine (lright_calls A c ns m r W (HD.out.step B0) HL.out.1 HL.out.2.1 HL.out.2.2).mono ?_
  rintro e w1 h
  have h' := h
  obtain ⟨rb, rfl, hb, hok⟩ := (show LrR _ _ _ _ from h')
  have HOK := Lib.hid hok
  have C := B0.trans (hb.mono B0.size)
  have BB := Lib.hid C
  replace HD := Lib.hid (HD.out.step C)
  replace HG := Lib.hid (HG.out.step C)
  have Hdk := Lib.hid (Ydk.step hb)
  obtain ⟨bdk, hbdk⟩ : ∃ b, b = w.heap.size := ⟨_, rfl⟩
  rw [← hbdk] at Hdk ⊢
  clear Ydk hbdk
  obtain ⟨idk, rdk, ldk, ndk, mdk⟩ := boxAll Hdk.out
  clear h hb C B0 W h' hok
  cases rb with
  | false =>
    go_wp2_with (first | go_skip | (apply st_row 28 4; (focus rfl); (focus rfl); (focus go_simp); (focus kernel_rfl); (focus rfl); (focus (simp [Value.oneCell']; done))) | (apply st_row 24 3; (focus rfl); (focus rfl); (focus go_simp); (focus kernel_rfl); (focus rfl); (focus (simp [Value.oneCell']; done))))
    refine Calls.at_ fun W hW => ?_
    have B0 : Below w1.heap.size w1 W := by rw [hW]; repeat' (first | with_reducible refine Below.alloc ?_ ?_ _ | with_reducible refine Below.setRow_ ?_ ?_ _ | with_reducible refine Below.setCell ?_ ?_ _ | with_reducible refine Below.drew ?_ | with_reducible refine Below.drewN_ ?_ _ | with_reducible exact Below.refl _ _ | assumption | (simp; done) | (simp; omega) | omega)
    clear hW
    refine (shown_calls W (HG.out.step B0)).mono ?_
    rintro e w2 h
    obtain ⟨rfl, hb⟩ := (show ShR _ _ _ from h)
    have C := B0.trans (hb.mono B0.size)
    replace BB := Lib.hid (BB.out.trans (C.mono BB.out.size))
    replace HD := Lib.hid (HD.out.step C)
    replace HG := Lib.hid (HG.out.step C)
    try clear idk rdk ldk ndk mdk
    replace Hdk := Lib.hid (Hdk.out.step C)
    obtain ⟨idk, rdk, ldk, ndk, mdk⟩ := boxAll Hdk.out
    clear h hb C B0 W
    go_wp2_with (first | go_skip | (apply st_row 28 4; (focus rfl); (focus rfl); (focus go_simp); (focus kernel_rfl); (focus rfl); (focus (simp [Value.oneCell']; done))) | (apply st_row 24 3; (focus rfl); (focus rfl); (focus go_simp); (focus kernel_rfl); (focus rfl); (focus (simp [Value.oneCell']; done))))
    go_ret
    refine ⟨rfl, ?_⟩
    have BB1 := BB.out
    have BBs := BB.out.size
    repeat' (first | with_reducible refine Below.alloc ?_ ?_ _ | with_reducible refine Below.setRow_ ?_ ?_ _ | with_reducible refine Below.setCell ?_ ?_ _ | with_reducible refine Below.drew ?_ | with_reducible refine Below.drewN_ ?_ _ | with_reducible exact Below.refl _ _ | assumption | (simp; done) | (simp; omega) | omega)
  | true =>
    have HR := Lib.hid (HOK.out (by simp))
    clear HOK
    by_cases zpath : path.size ≤ 90
    · have d_path : decide ((90 : Int) < (path.size : Int)) = false := decide_eq_false (by omega)
      have HZpath := Lib.hid zpath
      clear zpath
      by_cases ze : ¬ path.toList = []
      · have z1 : (path.toList == []) = false := by simpa using ze
        have z2 : path.toList.isEmpty = false := by simpa using ze
        have HE := Lib.hid ze
        clear ze
        have HF := Lib.hid (RightD.fit HR.out)
        have HN := Lib.hid (show ns.length ≤ 1000000 by have := HR.out.1.1; omega)
        go_wp2_with (first | go_skip | (apply st_row 28 4; (focus rfl); (focus rfl); (focus go_simp); (focus kernel_rfl); (focus rfl); (focus (simp [Value.oneCell']; done))) | (apply st_row 24 3; (focus rfl); (focus rfl); (focus go_simp); (focus kernel_rfl); (focus rfl); (focus (simp [Value.oneCell']; done))))
        refine Calls.at_ fun W hW => ?_
        have B0 : Below w1.heap.size w1 W := by rw [hW]; repeat' (first | with_reducible refine Below.alloc ?_ ?_ _ | with_reducible refine Below.setRow_ ?_ ?_ _ | with_reducible refine Below.setCell ?_ ?_ _ | with_reducible refine Below.drew ?_ | with_reducible refine Below.drewN_ ?_ _ | with_reducible exact Below.refl _ _ | assumption | (simp; done) | (simp; omega) | omega)
        clear hW
        refine (shown_calls W (HG.out.step B0)).mono ?_
        rintro e w2 h
        obtain ⟨rfl, hb⟩ := (show ShR _ _ _ from h)
        have C := B0.trans (hb.mono B0.size)
        replace BB := Lib.hid (BB.out.trans (C.mono BB.out.size))
        replace HD := Lib.hid (HD.out.step C)
        replace HG := Lib.hid (HG.out.step C)
        try clear idk rdk ldk ndk mdk
        replace Hdk := Lib.hid (Hdk.out.step C)
        obtain ⟨idk, rdk, ldk, ndk, mdk⟩ := boxAll Hdk.out
        clear h hb C B0 W
        have hSL := slash_law ns HR.out who frm path HZpath.out HE.out
        have hPs : (path ++ (⟨#[47]⟩ : ByteArray)).size ≤ 1000 := by rw [ByteArray.size_append]; have := HZpath.out; show _ + 1 ≤ _; omega
        have dcat : ¬ ((path.size : Int) + 1 > 9223372036854775807) := by have := HZpath.out; omega
        obtain ⟨P, hcat⟩ : ∃ P : ByteArray, path ++ (⟨#[47]⟩ : ByteArray) = P := ⟨_, rfl⟩
        rw [hcat] at hSL hPs
        have HP := Lib.hid hPs
        clear hPs
        obtain ⟨⟨nos, s0, s1, s2, s3⟩, hx⟩ : ∃ x, walkF ns who frm P false = x := ⟨_, rfl⟩
        have HXs := Lib.hid hx
        clear hx
        obtain ⟨⟨nott, t0, t1, t2, t3⟩, hx⟩ : ∃ x, walkF ns who frm path true = x := ⟨_, rfl⟩
        have HXt := Lib.hid hx
        clear hx
        rw [HXs.out, HXt.out] at hSL
        obtain ⟨h0, h1⟩ := hSL
        simp only at h0 h1
        go_wp2_with (first | go_skip | (apply st_row 28 4; (focus rfl); (focus rfl); (focus go_simp); (focus kernel_rfl); (focus rfl); (focus (simp [Value.oneCell']; done))) | (apply st_row 24 3; (focus rfl); (focus rfl); (focus go_simp); (focus kernel_rfl); (focus rfl); (focus (simp [Value.oneCell']; done))))
        refine Calls.at_ fun W hW => ?_
        have B0 : Below w2.heap.size w2 W := by rw [hW]; repeat' (first | with_reducible refine Below.alloc ?_ ?_ _ | with_reducible refine Below.setRow_ ?_ ?_ _ | with_reducible refine Below.setCell ?_ ?_ _ | with_reducible refine Below.drew ?_ | with_reducible refine Below.drewN_ ?_ _ | with_reducible exact Below.refl _ _ | assumption | (simp; done) | (simp; omega) | omega)
        clear hW
        refine (walk_calls A c ns m r who frm P false W (HD.out.step B0) (HG.out.step B0) HL.out.1 HN.out HF.out HP.out).mono ?_
        rintro e w3 h
        obtain ⟨rfl, hb⟩ := (show RetW W (walkF ns who frm P false) e w3 from h)
        rw [HXs.out]
        unfold spotV
        try simp only
        have C := B0.trans (hb.mono B0.size)
        replace BB := Lib.hid (BB.out.trans (C.mono BB.out.size))
        replace HD := Lib.hid (HD.out.step C)
        replace HG := Lib.hid (HG.out.step C)
        try clear idk rdk ldk ndk mdk
        replace Hdk := Lib.hid (Hdk.out.step C)
        obtain ⟨idk, rdk, ldk, ndk, mdk⟩ := boxAll Hdk.out
        clear h hb C B0 W
        go_wp2_with (first | go_skip | (apply st_row 28 4; (focus rfl); (focus rfl); (focus go_simp); (focus kernel_rfl); (focus rfl); (focus (simp [Value.oneCell']; done))) | (apply st_row 24 3; (focus rfl); (focus rfl); (focus go_simp); (focus kernel_rfl); (focus rfl); (focus (simp [Value.oneCell']; done))))
        refine Calls.at_ fun W hW => ?_
        have B0 : Below w3.heap.size w3 W := by rw [hW]; repeat' (first | with_reducible refine Below.alloc ?_ ?_ _ | with_reducible refine Below.setRow_ ?_ ?_ _ | with_reducible refine Below.setCell ?_ ?_ _ | with_reducible refine Below.drew ?_ | with_reducible refine Below.drewN_ ?_ _ | with_reducible exact Below.refl _ _ | assumption | (simp; done) | (simp; omega) | omega)
        have Ysa : Box W (w3.heap.size) #[.int .i64 s0, .string s1, .int .i64 s2, .bool s3] := ⟨_, by rw [hW]; exact blk_new _ (by first | rfl | simp)⟩
        clear hW
        refine (walk_calls A c ns m r who frm path true W (HD.out.step B0) (HG.out.step B0) HL.out.1 HN.out HF.out (Nat.le_trans HZpath.out (by decide))).mono ?_
        rintro e w4 h
        obtain ⟨rfl, hb⟩ := (show RetW W (walkF ns who frm path true) e w4 from h)
        rw [HXt.out]
        unfold spotV
        try simp only
        have C := B0.trans (hb.mono B0.size)
        replace BB := Lib.hid (BB.out.trans (C.mono BB.out.size))
        replace HD := Lib.hid (HD.out.step C)
        replace HG := Lib.hid (HG.out.step C)
        try clear idk rdk ldk ndk mdk
        replace Hdk := Lib.hid (Hdk.out.step C)
        have Hsa := Lib.hid (Ysa.step hb)
        obtain ⟨bsa, hbsa⟩ : ∃ b, b = w3.heap.size := ⟨_, rfl⟩
        rw [← hbsa] at Hsa ⊢
        clear Ysa hbsa
        obtain ⟨idk, rdk, ldk, ndk, mdk⟩ := boxAll Hdk.out
        obtain ⟨isa, rsa, lsa, nsa, msa⟩ := boxAll Hsa.out
        clear h hb C B0 W
        by_cases z0 : nos = 0
        · subst z0
          obtain ⟨rfl, rfl, rfl, rfl, h3⟩ := h1 rfl
          clear h0 h1
          by_cases zn : s2 < 0
          · have n0 : decide (s2 < 0) = true := decide_eq_true zn
            clear h3 zn
            go_wp2_with (first | go_skip | (apply st_row 28 4; (focus rfl); (focus rfl); (focus go_simp); (focus kernel_rfl); (focus rfl); (focus (simp [Value.oneCell']; done))) | (apply st_row 24 3; (focus rfl); (focus rfl); (focus go_simp); (focus kernel_rfl); (focus rfl); (focus (simp [Value.oneCell']; done))))
            go_ret
            refine ⟨rfl, ?_⟩
            have BB1 := BB.out
            have BBs := BB.out.size
            repeat' (first | with_reducible refine Below.alloc ?_ ?_ _ | with_reducible refine Below.setRow_ ?_ ?_ _ | with_reducible refine Below.setCell ?_ ?_ _ | with_reducible refine Below.drew ?_ | with_reducible refine Below.drewN_ ?_ _ | with_reducible exact Below.refl _ _ | assumption | (simp; done) | (simp; omega) | omega)
          · obtain ⟨l0, l1, l2⟩ := h3.resolve_left zn
            have n0 : decide (s2 < 0) = false := decide_eq_false zn
            have n1 : decide (s2 < (ns.length : Int)) = true := decide_eq_true l1
            obtain ⟨ada, Aa, ca, eAa, xa, -⟩ := at_T48 HD.out s2 l0 l1
            have hka : (rd_T48 ns s2).f0 = 2 := l2
            rw [hka] at xa
            replace xa := lift1 (.cells #[.int .i64 s0, .string t1, .int .i64 s2, .bool t3] 28) xa
            have p0a : (0 ≤ s2) = True := eq_true l0
            have p1a : (s2 < (ns.length : Int)) = True := eq_true l1
            clear hka
            subst eAa
            clear l0 l1 l2 h3 zn
            go_wp2_with (first | go_skip | (apply st_row 28 4; (focus rfl); (focus rfl); (focus go_simp); (focus kernel_rfl); (focus rfl); (focus (simp [Value.oneCell']; done))) | (apply st_row 24 3; (focus rfl); (focus rfl); (focus go_simp); (focus kernel_rfl); (focus rfl); (focus (simp [Value.oneCell']; done))))
            go_ret
            refine ⟨rfl, ?_⟩
            have BB1 := BB.out
            have BBs := BB.out.size
            repeat' (first | with_reducible refine Below.alloc ?_ ?_ _ | with_reducible refine Below.setRow_ ?_ ?_ _ | with_reducible refine Below.setCell ?_ ?_ _ | with_reducible refine Below.drew ?_ | with_reducible refine Below.drewN_ ?_ _ | with_reducible exact Below.refl _ _ | assumption | (simp; done) | (simp; omega) | omega)
        · have h2 := h0 z0
          have dz : (nos == 0) = false := by simpa using z0
          have dn : (nos != 0) = true := by simpa using z0
          clear h0 h1
          by_cases z4 : nott = nos
          · subst z4
            clear h2 z0
            go_wp2_with (first | go_skip | (apply st_row 28 4; (focus rfl); (focus rfl); (focus go_simp); (focus kernel_rfl); (focus rfl); (focus (simp [Value.oneCell']; done))) | (apply st_row 24 3; (focus rfl); (focus rfl); (focus go_simp); (focus kernel_rfl); (focus rfl); (focus (simp [Value.oneCell']; done))))
            go_ret
            refine ⟨rfl, ?_⟩
            have BB1 := BB.out
            have BBs := BB.out.size
            repeat' (first | with_reducible refine Below.alloc ?_ ?_ _ | with_reducible refine Below.setRow_ ?_ ?_ _ | with_reducible refine Below.setCell ?_ ?_ _ | with_reducible refine Below.drew ?_ | with_reducible refine Below.drewN_ ?_ _ | with_reducible exact Below.refl _ _ | assumption | (simp; done) | (simp; omega) | omega)
          · have h3 := h2.resolve_left z4
            subst h3
            have e4 : (nott == 4) = false := by simpa using z4
            clear h2 z0 z4
            go_wp2_with (first | go_skip | (apply st_row 28 4; (focus rfl); (focus rfl); (focus go_simp); (focus kernel_rfl); (focus rfl); (focus (simp [Value.oneCell']; done))) | (apply st_row 24 3; (focus rfl); (focus rfl); (focus go_simp); (focus kernel_rfl); (focus rfl); (focus (simp [Value.oneCell']; done))))
            go_ret
            refine ⟨rfl, ?_⟩
            have BB1 := BB.out
            have BBs := BB.out.size
            repeat' (first | with_reducible refine Below.alloc ?_ ?_ _ | with_reducible refine Below.setRow_ ?_ ?_ _ | with_reducible refine Below.setCell ?_ ?_ _ | with_reducible refine Below.drew ?_ | with_reducible refine Below.drewN_ ?_ _ | with_reducible exact Below.refl _ _ | assumption | (simp; done) | (simp; omega) | omega)
      · have z1 : (path.toList == []) = true := by rw [Decidable.not_not.1 ze]; rfl
        have z2 : path.toList.isEmpty = true := by rw [Decidable.not_not.1 ze]; rfl
        clear ze
        go_wp2_with (first | go_skip | (apply st_row 28 4; (focus rfl); (focus rfl); (focus go_simp); (focus kernel_rfl); (focus rfl); (focus (simp [Value.oneCell']; done))) | (apply st_row 24 3; (focus rfl); (focus rfl); (focus go_simp); (focus kernel_rfl); (focus rfl); (focus (simp [Value.oneCell']; done))))
        refine Calls.at_ fun W hW => ?_
        have B0 : Below w1.heap.size w1 W := by rw [hW]; repeat' (first | with_reducible refine Below.alloc ?_ ?_ _ | with_reducible refine Below.setRow_ ?_ ?_ _ | with_reducible refine Below.setCell ?_ ?_ _ | with_reducible refine Below.drew ?_ | with_reducible refine Below.drewN_ ?_ _ | with_reducible exact Below.refl _ _ | assumption | (simp; done) | (simp; omega) | omega)
        clear hW
        refine (shown_calls W (HG.out.step B0)).mono ?_
        rintro e w2 h
        obtain ⟨rfl, hb⟩ := (show ShR _ _ _ from h)
        have C := B0.trans (hb.mono B0.size)
        replace BB := Lib.hid (BB.out.trans (C.mono BB.out.size))
        replace HD := Lib.hid (HD.out.step C)
        replace HG := Lib.hid (HG.out.step C)
        try clear idk rdk ldk ndk mdk
        replace Hdk := Lib.hid (Hdk.out.step C)
        obtain ⟨idk, rdk, ldk, ndk, mdk⟩ := boxAll Hdk.out
        clear h hb C B0 W
        go_wp2_with (first | go_skip | (apply st_row 28 4; (focus rfl); (focus rfl); (focus go_simp); (focus kernel_rfl); (focus rfl); (focus (simp [Value.oneCell']; done))) | (apply st_row 24 3; (focus rfl); (focus rfl); (focus go_simp); (focus kernel_rfl); (focus rfl); (focus (simp [Value.oneCell']; done))))
        go_ret
        refine ⟨rfl, ?_⟩
        have BB1 := BB.out
        have BBs := BB.out.size
        repeat' (first | with_reducible refine Below.alloc ?_ ?_ _ | with_reducible refine Below.setRow_ ?_ ?_ _ | with_reducible refine Below.setCell ?_ ?_ _ | with_reducible refine Below.drew ?_ | with_reducible refine Below.drewN_ ?_ _ | with_reducible exact Below.refl _ _ | assumption | (simp; done) | (simp; omega) | omega)
    · have d_path : decide ((90 : Int) < (path.size : Int)) = true := decide_eq_true (by omega)
      clear zpath
      go_wp2_with (first | go_skip | (apply st_row 28 4; (focus rfl); (focus rfl); (focus go_simp); (focus kernel_rfl); (focus rfl); (focus (simp [Value.oneCell']; done))) | (apply st_row 24 3; (focus rfl); (focus rfl); (focus go_simp); (focus kernel_rfl); (focus rfl); (focus (simp [Value.oneCell']; done))))
      refine Calls.at_ fun W hW => ?_
      have B0 : Below w1.heap.size w1 W := by rw [hW]; repeat' (first | with_reducible refine Below.alloc ?_ ?_ _ | with_reducible refine Below.setRow_ ?_ ?_ _ | with_reducible refine Below.setCell ?_ ?_ _ | with_reducible refine Below.drew ?_ | with_reducible refine Below.drewN_ ?_ _ | with_reducible exact Below.refl _ _ | assumption | (simp; done) | (simp; omega) | omega)
      clear hW
      refine (shown_calls W (HG.out.step B0)).mono ?_
      rintro e w2 h
      obtain ⟨rfl, hb⟩ := (show ShR _ _ _ from h)
      have C := B0.trans (hb.mono B0.size)
      replace BB := Lib.hid (BB.out.trans (C.mono BB.out.size))
      replace HD := Lib.hid (HD.out.step C)
      replace HG := Lib.hid (HG.out.step C)
      try clear idk rdk ldk ndk mdk
      replace Hdk := Lib.hid (Hdk.out.step C)
      obtain ⟨idk, rdk, ldk, ndk, mdk⟩ := boxAll Hdk.out
      clear h hb C B0 W
      go_wp2_with (first | go_skip | (apply st_row 28 4; (focus rfl); (focus rfl); (focus go_simp); (focus kernel_rfl); (focus rfl); (focus (simp [Value.oneCell']; done))) | (apply st_row 24 3; (focus rfl); (focus rfl); (focus go_simp); (focus kernel_rfl); (focus rfl); (focus (simp [Value.oneCell']; done))))
      go_ret
      refine ⟨rfl, ?_⟩
      have BB1 := BB.out
      have BBs := BB.out.size
      repeat' (first | with_reducible refine Below.alloc ?_ ?_ _ | with_reducible refine Below.setRow_ ?_ ?_ _ | with_reducible refine Below.setCell ?_ ?_ _ | with_reducible refine Below.drew ?_ | with_reducible refine Below.drewN_ ?_ _ | with_reducible exact Below.refl _ _ | assumption | (simp; done) | (simp; omega) | omega)
end Go.Proofs.YthagmakojbfmaaaDoor.Ext
