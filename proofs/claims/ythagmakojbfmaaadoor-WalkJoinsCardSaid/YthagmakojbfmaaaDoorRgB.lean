/- flagstoneref06.right: it comes to an end; what is so where it says yes: the long road. -/
import Derived.Test.YthagmakojbfmaaaDoorRgA
set_option linter.unusedVariables false
set_option linter.unusedSimpArgs false
namespace Go.Proofs.YthagmakojbfmaaaDoor.Ext
open Go Go.RowKit Go.Proofs.YthagmakojbfmaaaDoor Go.Proofs.YthagmakojbfmaaaDoorW.PrintWords Go.Proofs.YthagmakojbfmaaaDoor.Pright
theorem cell_at {w : World} {ns : List S80} {x : Int} {ad : Addr} {ino : Int} (h : R80 w (some ad) ns) (h0 : 0 ≤ x) (h1 : x < ns.length) (hi : (rd_T80 ns x).f1 = ino) : w.cell? ⟨(ad.add (x.toNat * 2)).block, (ad.add (x.toNat * 2)).off + 1, none⟩ = some (.int .i64 ino) := by
 obtain ⟨ad8, e8, c80, c81⟩ := at_T80 h x h0 h1
 cases e8
 rw [← hi]; exact c81
attribute [local go_sem] isRow_drew row_drew isRow_drewN row_drewN cell_isRow rowSz_isRow isHead_ptr blockOf_ptr row_alloc isRow_alloc rowSz_alloc setRow_alloc isRow_setRow isRow_setCell isRow_frozen setCell_setRow_same setCell_setRow_other cell_setRow_same' cell_setRow_other' frozen_setRow' row_setRow_same row_setRow_other rowSz_setRow_same rowSz_setRow_other setRow_setRow_same' setRow_comm' ne_l2 ne_r2 ne_l3 ne_r3 ne_l4 ne_r4 ne_l5 ne_r5 ne_l6 ne_r6 ne_l7 ne_r7 ne_l8 ne_r8
attribute [local go_sem ↓] ldx_54
attribute [local go_sem ↓] ldx_37
attribute [local go_sem ↓] Go.wp_at_zero Go.wp_at_succ
set_option maxRecDepth 100000 in
set_option maxHeartbeats 8000000 in
theorem right_6 (A : Option Addr) (c : Nat) (es : List S54) (m r i : Int) (w : World) (nd : S54) (hnd : rd_T54 es i = nd) (hr : R54 w A es) (hc : es.length ≤ c) (hl : es.length ≤ 100) (hn : ∀ x, x ∈ es → x.f7.length ≤ 60) (hs : ∀ j, (rd_T80 nd.f7 j).f0.size ≤ 1000000000000000) (hi : 0 ≤ i ∧ i < es.length) (k0 : ¬ nd.f0 = 0) (a1 : ¬ nd.f0 < 1) (a2 : ¬ 3 < nd.f0) (a3 : ¬ nd.f1 < 0) (a4 : ¬ 63 < nd.f1) (a5 : ¬ nd.f4 < 0) (k2 : nd.f0 = 2) (k6 : ∀ t, binOp .neq t (.string nd.f6) (.string ⟨#[]⟩) = pure (.bool true)) :
  Calls Tryd.prog 33 #[.agg #[.slice A es.length c, .int .i64 m, .int .i64 r], .int .i64 i] w (RgtR es nd w) := by
 have HD0 := Lib.hid (And.intro hnd (And.intro hc (And.intro hl (And.intro hn (And.intro hs hi)))))
 have HR := Lib.hid hr
 clear hnd hr hc hl hn hs
 have hi0 : (0 ≤ i) = True := eq_true hi.1
 have hi1 : (i < (es.length : Int)) = True := eq_true hi.2
 clear hi
 have f0 : (nd.f0 == 0) = false := by simpa using k0
 have a1d : decide (nd.f0 < 1) = false := decide_eq_false a1
 have a2d : decide (3 < nd.f0) = false := decide_eq_false a2
 have a3d : decide (nd.f1 < 0) = false := decide_eq_false a3
 have a4d : decide (63 < nd.f1) = false := decide_eq_false a4
 have a5d : decide (nd.f4 < 0) = false := decide_eq_false a5
 have f2 : (nd.f0 == 2) = true := by simpa using k2
 have g2 : (nd.f0 != 2) = false := by simpa using k2
 have f6 := k6
 clear k2 k6
 clear k0 a1 a2 a3 a4 a5
 obtain ⟨ad, A7, c7, eA, x0, x1, x2, x3, x4, x5, x6, x7, hc7, hC⟩ := at_T54 HR.out i HD0.out.2.2.2.2.2.1 HD0.out.2.2.2.2.2.2
 rw [HD0.out.1] at x0 x1 x2 x3 x4 x5 x6 x7 hc7 hC
 cases eA
 have HE := Lib.hid (show R80 _ A7 nd.f7 from hC)
 have HC7 := Lib.hid hc7
 clear hC hc7
 replace x0 := lift1 (.cells #[.slice (some ad) es.length c, .int .i64 m, .int .i64 r] 37) x0
 replace x1 := lift1 (.cells #[.slice (some ad) es.length c, .int .i64 m, .int .i64 r] 37) x1
 replace x2 := lift1 (.cells #[.slice (some ad) es.length c, .int .i64 m, .int .i64 r] 37) x2
 replace x3 := lift1 (.cells #[.slice (some ad) es.length c, .int .i64 m, .int .i64 r] 37) x3
 replace x4 := lift1 (.cells #[.slice (some ad) es.length c, .int .i64 m, .int .i64 r] 37) x4
 replace x5 := lift1 (.cells #[.slice (some ad) es.length c, .int .i64 m, .int .i64 r] 37) x5
 replace x6 := lift1 (.cells #[.slice (some ad) es.length c, .int .i64 m, .int .i64 r] 37) x6
 replace x7 := lift1 (.cells #[.slice (some ad) es.length c, .int .i64 m, .int .i64 r] 37) x7
 go_enter Tryd.func33, Tryd.ntmps33
 go_wp2_with (first | go_skip | (apply st_row 54 8; (focus rfl); (focus rfl); (focus go_simp); (focus kernel_rfl); (focus rfl); (focus (simp [Value.oneCell']; done))))
 go_ret
 refine ⟨false, rfl, ?_, fun h => by cases h⟩
 try have BB1 := BB.out
 repeat' (first | assumption | exact Below.refl _ _ | with_reducible refine Below.alloc ?_ ?_ _ | with_reducible refine Below.setRow_ ?_ ?_ _ | exact BB.out | exact BB.out.size | omega | (simp; done) | (simp; omega) | (have := BB.out.size; simp; omega))
set_option maxRecDepth 100000 in
set_option maxHeartbeats 8000000 in
theorem right_7 (A : Option Addr) (c : Nat) (es : List S54) (m r i : Int) (w : World) (nd : S54) (hnd : rd_T54 es i = nd) (hr : R54 w A es) (hc : es.length ≤ c) (hl : es.length ≤ 100) (hn : ∀ x, x ∈ es → x.f7.length ≤ 60) (hs : ∀ j, (rd_T80 nd.f7 j).f0.size ≤ 1000000000000000) (hi : 0 ≤ i ∧ i < es.length) (k0 : ¬ nd.f0 = 0) (a1 : ¬ nd.f0 < 1) (a2 : ¬ 3 < nd.f0) (a3 : ¬ nd.f1 < 0) (a4 : ¬ 63 < nd.f1) (a5 : ¬ nd.f4 < 0) (k2 : ¬ nd.f0 = 2) (k7 : 0 < (nd.f7.length : Int)) :
  Calls Tryd.prog 33 #[.agg #[.slice A es.length c, .int .i64 m, .int .i64 r], .int .i64 i] w (RgtR es nd w) := by
 have HD0 := Lib.hid (And.intro hnd (And.intro hc (And.intro hl (And.intro hn (And.intro hs hi)))))
 have HR := Lib.hid hr
 clear hnd hr hc hl hn hs
 have hi0 : (0 ≤ i) = True := eq_true hi.1
 have hi1 : (i < (es.length : Int)) = True := eq_true hi.2
 clear hi
 have f0 : (nd.f0 == 0) = false := by simpa using k0
 have a1d : decide (nd.f0 < 1) = false := decide_eq_false a1
 have a2d : decide (3 < nd.f0) = false := decide_eq_false a2
 have a3d : decide (nd.f1 < 0) = false := decide_eq_false a3
 have a4d : decide (63 < nd.f1) = false := decide_eq_false a4
 have a5d : decide (nd.f4 < 0) = false := decide_eq_false a5
 have f2 : (nd.f0 == 2) = false := by simpa using k2
 have g2 : (nd.f0 != 2) = true := by simpa using k2
 obtain ⟨n7, hn7⟩ : ∃ n, n = nd.f7.length := ⟨_, rfl⟩
 rw [← hn7] at k7
 have f7a : (0 < n7) = True := eq_true (Int.natCast_pos.1 k7)
 have f7 : decide (0 < (n7 : Int)) = true := decide_eq_true k7
 have f7c : (n7 = 0) = False := eq_false (Nat.pos_iff_ne_zero.1 (Int.natCast_pos.1 k7))
 clear k2 k7
 clear k0 a1 a2 a3 a4 a5
 obtain ⟨ad, A7, c7, eA, x0, x1, x2, x3, x4, x5, x6, x7, hc7, hC⟩ := at_T54 HR.out i HD0.out.2.2.2.2.2.1 HD0.out.2.2.2.2.2.2
 rw [HD0.out.1] at x0 x1 x2 x3 x4 x5 x6 x7 hc7 hC
 cases eA
 have HE := Lib.hid (show R80 _ A7 nd.f7 from hC)
 have HC7 := Lib.hid hc7
 clear hC hc7
 replace x0 := lift1 (.cells #[.slice (some ad) es.length c, .int .i64 m, .int .i64 r] 37) x0
 replace x1 := lift1 (.cells #[.slice (some ad) es.length c, .int .i64 m, .int .i64 r] 37) x1
 replace x2 := lift1 (.cells #[.slice (some ad) es.length c, .int .i64 m, .int .i64 r] 37) x2
 replace x3 := lift1 (.cells #[.slice (some ad) es.length c, .int .i64 m, .int .i64 r] 37) x3
 replace x4 := lift1 (.cells #[.slice (some ad) es.length c, .int .i64 m, .int .i64 r] 37) x4
 replace x5 := lift1 (.cells #[.slice (some ad) es.length c, .int .i64 m, .int .i64 r] 37) x5
 replace x6 := lift1 (.cells #[.slice (some ad) es.length c, .int .i64 m, .int .i64 r] 37) x6
 replace x7 := lift1 (.cells #[.slice (some ad) es.length c, .int .i64 m, .int .i64 r] 37) x7
 clear HE HC7
 rw [← hn7] at x7
 clear hn7
 go_enter Tryd.func33, Tryd.ntmps33
 go_wp2_with (first | go_skip | (apply st_row 54 8; (focus rfl); (focus rfl); (focus go_simp); (focus kernel_rfl); (focus rfl); (focus (simp [Value.oneCell']; done))))
 go_ret
 refine ⟨false, rfl, ?_, fun h => by cases h⟩
 try have BB1 := BB.out
 repeat' (first | assumption | exact Below.refl _ _ | with_reducible refine Below.alloc ?_ ?_ _ | with_reducible refine Below.setRow_ ?_ ?_ _ | exact BB.out | exact BB.out.size | omega | (simp; done) | (simp; omega) | (have := BB.out.size; simp; omega))
set_option maxRecDepth 100000 in
set_option maxHeartbeats 8000000 in
theorem right_8 (A : Option Addr) (c : Nat) (es : List S54) (m r i : Int) (w : World) (nd : S54) (hnd : rd_T54 es i = nd) (hr : R54 w A es) (hc : es.length ≤ c) (hl : es.length ≤ 100) (hn : ∀ x, x ∈ es → x.f7.length ≤ 60) (hs : ∀ j, (rd_T80 nd.f7 j).f0.size ≤ 1000000000000000) (hi : 0 ≤ i ∧ i < es.length) (k0 : ¬ nd.f0 = 0) (a1 : ¬ nd.f0 < 1) (a2 : ¬ 3 < nd.f0) (a3 : ¬ nd.f1 < 0) (a4 : ¬ 63 < nd.f1) (a5 : ¬ nd.f4 < 0) (k2 : nd.f0 = 2) (k6 : ∀ t, binOp .neq t (.string nd.f6) (.string ⟨#[]⟩) = pure (.bool false)) :
  Calls Tryd.prog 33 #[.agg #[.slice A es.length c, .int .i64 m, .int .i64 r], .int .i64 i] w (RgtR es nd w) := by
 have hl7 : nd.f7.length ≤ 60 := by have := hn _ (show nd ∈ es by rw [← hnd]; unfold rd_T54; rw [List.getD_eq_getElem?_getD, List.getElem?_eq_getElem (by omega)]; exact List.getElem_mem _); exact this
 have HL7 := Lib.hid hl7
 clear hl7
 obtain ⟨cc, dd, hnm, hok⟩ := names_f m r i es hl hn
 have HNM := Lib.hid (And.intro hnm hok)
 clear hnm hok
 obtain ⟨ro, hro⟩ := rooted_f m r i es hl
 have HRO := Lib.hid hro
 clear hro
 have HD0 := Lib.hid (And.intro hnd (And.intro hc (And.intro hl (And.intro hn (And.intro hs hi)))))
 have HR := Lib.hid hr
 clear hnd hr hc hl hn hs
 have hi0 : (0 ≤ i) = True := eq_true hi.1
 have hi1 : (i < (es.length : Int)) = True := eq_true hi.2
 clear hi
 have f0 : (nd.f0 == 0) = false := by simpa using k0
 have a1d : decide (nd.f0 < 1) = false := decide_eq_false a1
 have a2d : decide (3 < nd.f0) = false := decide_eq_false a2
 have a3d : decide (nd.f1 < 0) = false := decide_eq_false a3
 have a4d : decide (63 < nd.f1) = false := decide_eq_false a4
 have a5d : decide (nd.f4 < 0) = false := decide_eq_false a5
 have f2 : (nd.f0 == 2) = true := by simpa using k2
 have g2 : (nd.f0 != 2) = false := by simpa using k2
 have f6 := k6
 clear k6
 have HK2 := Lib.hid k2
 clear k2
 clear k0 a1 a2 a3 a4 a5
 obtain ⟨ad, A7, c7, eA, x0, x1, x2, x3, x4, x5, x6, x7, hc7, hC⟩ := at_T54 HR.out i HD0.out.2.2.2.2.2.1 HD0.out.2.2.2.2.2.2
 rw [HD0.out.1] at x0 x1 x2 x3 x4 x5 x6 x7 hc7 hC
 cases eA
 have HE := Lib.hid (show R80 _ A7 nd.f7 from hC)
 have HC7 := Lib.hid hc7
 clear hC hc7
 replace x0 := lift1 (.cells #[.slice (some ad) es.length c, .int .i64 m, .int .i64 r] 37) x0
 replace x1 := lift1 (.cells #[.slice (some ad) es.length c, .int .i64 m, .int .i64 r] 37) x1
 replace x2 := lift1 (.cells #[.slice (some ad) es.length c, .int .i64 m, .int .i64 r] 37) x2
 replace x3 := lift1 (.cells #[.slice (some ad) es.length c, .int .i64 m, .int .i64 r] 37) x3
 replace x4 := lift1 (.cells #[.slice (some ad) es.length c, .int .i64 m, .int .i64 r] 37) x4
 replace x5 := lift1 (.cells #[.slice (some ad) es.length c, .int .i64 m, .int .i64 r] 37) x5
 replace x6 := lift1 (.cells #[.slice (some ad) es.length c, .int .i64 m, .int .i64 r] 37) x6
 replace x7 := lift1 (.cells #[.slice (some ad) es.length c, .int .i64 m, .int .i64 r] 37) x7
 go_enter Tryd.func33, Tryd.ntmps33
 go_wp2_with (first | go_skip | (apply st_row 54 8; (focus rfl); (focus rfl); (focus go_simp); (focus kernel_rfl); (focus rfl); (focus (simp [Value.oneCell']; done))))
 refine Calls.at_ fun W hW => ?_
 have B0 : Below w.heap.size w W := by rw [hW]; repeat' (first | with_reducible refine Below.alloc ?_ ?_ _ | with_reducible refine Below.setRow_ ?_ ?_ _ | with_reducible refine Below.setCell ?_ ?_ _ | with_reducible refine Below.drew ?_ | with_reducible refine Below.drewN_ ?_ _ | with_reducible exact Below.refl _ _ | assumption | (simp; done) | (simp; omega) | omega)
 have Ydk : Box W (w.heap.size) #[.slice (some ad) es.length c, .int .i64 m, .int .i64 r] := ⟨_, by rw [hW]; exact blk_old (blk_new _ (by first | rfl | simp)) _⟩
 have Ynx : Box W (w.heap.size + 1) #[.int .i64 nd.f0, .int .i64 nd.f1, .int .i64 nd.f2, .int .i64 nd.f3, .int .i64 nd.f4, .int .i64 nd.f5, .string nd.f6, .slice A7 nd.f7.length c7] := ⟨_, by rw [hW]; exact blk_new _ (by first | rfl | simp)⟩
 clear hW
 refine (sorted_calls A7 c7 nd.f7 W (HE.out.step B0) HC7.out (Nat.le_trans HL7.out (by decide)) HD0.out.2.2.2.2.1).mono ?_
 rintro e w1 h
 have h' := h
 obtain ⟨sb, rfl, hdr, hadj⟩ := (show SrtR _ _ _ _ from h')
 have hb := Drawn0.below hdr
 have HAJ := Lib.hid hadj
 have C := B0.trans (hb.mono B0.size)
 have BB := Lib.hid C
 replace HR := Lib.hid (HR.out.step C)
 replace HE := Lib.hid (HE.out.step C)
 have Hdk := Lib.hid (Ydk.step hb)
 have Hnx := Lib.hid (Ynx.step hb)
 obtain ⟨bnx, hbnx⟩ : ∃ b, b = w.heap.size + 1 := ⟨_, rfl⟩
 rw [← hbnx] at Hnx ⊢
 obtain ⟨bdk, hbdk⟩ : ∃ b, b = w.heap.size := ⟨_, rfl⟩
 rw [← hbdk] at Hdk ⊢
 clear Ydk hbdk Ynx hbnx
 obtain ⟨idk, rdk, ldk, ndk, mdk⟩ := boxAll Hdk.out
 obtain ⟨inx, rnx, lnx, nnx, mnx⟩ := boxAll Hnx.out
 clear h hb C B0 W h' hdr hadj
 cases sb with
 | false =>
  go_wp2_with (first | go_skip | (apply st_row 54 8; (focus rfl); (focus rfl); (focus go_simp); (focus kernel_rfl); (focus rfl); (focus (simp [Value.oneCell']; done))))
  go_ret
  refine ⟨false, rfl, ?_, fun h => by cases h⟩
  try have BB1 := BB.out
  repeat' (first | assumption | exact Below.refl _ _ | with_reducible refine Below.alloc ?_ ?_ _ | with_reducible refine Below.setRow_ ?_ ?_ _ | exact BB.out | exact BB.out.size | omega | (simp; done) | (simp; omega) | (have := BB.out.size; simp; omega))
 | true =>
  have HR0 := HR
  have HE0 := HE
  go_wp2_with fail
  go_loopw [6] (fun i_ wr => ∃ x : Int, i_ = .int .i64 x ∧ 0 ≤ x ∧ x ≤ nd.f7.length ∧ InosTo es nd.f7 x ∧ Below w1.heap.size w1 wr ∧ Box wr bdk #[.slice (some ad) es.length c, .int .i64 m, .int .i64 r] ∧ Box wr bnx #[.int .i64 nd.f0, .int .i64 nd.f1, .int .i64 nd.f2, .int .i64 nd.f3, .int .i64 nd.f4, .int .i64 nd.f5, .string nd.f6, .slice A7 nd.f7.length c7]) (fun i_ _ => nd.f7.length - (intOf i_).toNat)
  case atStart => exact ⟨0, rfl, Int.le_refl _, by omega, fun j h1 h2 => by omega, Below.refl _ _, Hdk.out, Hnx.out⟩
  case round =>
   obtain ⟨x, rfl, h0, h1, hin, hB, hbd, hbn⟩ := hrel
   clear idk rdk ldk ndk mdk inx rnx lnx nnx mnx
   replace BB := Lib.hid (BB.out.trans (hB.mono BB.out.size))
   have HX := Lib.hid (And.intro h0 (And.intro h1 (And.intro hin hB)))
   replace Hdk := Lib.hid hbd
   replace Hnx := Lib.hid hbn
   replace HR := Lib.hid (HR0.out.step hB)
   replace HE := Lib.hid (HE0.out.step hB)
   clear h0 h1 hin hB hbd hbn
   obtain ⟨idk, rdk, ldk, ndk, mdk⟩ := boxAll Hdk.out
   obtain ⟨inx, rnx, lnx, nnx, mnx⟩ := boxAll Hnx.out
   by_cases hlt : x < (nd.f7.length : Int)
   ·have d1 : decide (x < (nd.f7.length : Int)) = true := decide_eq_true hlt
    have HLT := Lib.hid hlt
    have p0 : (0 ≤ x) = True := eq_true HX.out.1
    have p1 : (x < (nd.f7.length : Int)) = True := eq_true hlt
    have q2 : IntKind.i64.wrap (x + 1) = x + 1 := by have := HX.out.1; have := HX.out.2.1; have := HL7.out; rw [IntKind.wrap_i64] <;> omega
    have q1 : wrap64 (x + 1) = x + 1 := wrap_succ HX.out.1 (by have := HX.out.2.1; have := HL7.out; omega)
    clear hlt
    have H2 := Lib.hid (Snc.refl wr)
    go_wp2_with fail
    refine Code.at_ fun v2 hW => ?_
    have B0 : Below wr.heap.size wr v2 := by rw [hW]; repeat' (first | with_reducible refine Below.alloc ?_ ?_ _ | with_reducible refine Below.setRow_ ?_ ?_ _ | with_reducible refine Below.setCell ?_ ?_ _ | with_reducible refine Below.drew ?_ | with_reducible refine Below.drewN_ ?_ _ | with_reducible exact Below.refl _ _ | assumption | (simp; done) | (simp; omega) | omega)
    clear hW
    have C := B0
    replace BB := Lib.hid (BB.out.trans (C.mono BB.out.size))
    replace HR := Lib.hid (HR.out.step C)
    replace HE := Lib.hid (HE.out.step C)
    replace H2 := Lib.hid (H2.out.step C)
    try clear idk rdk ldk ndk mdk
    replace Hdk := Lib.hid (Hdk.out.step C)
    try clear inx rnx lnx nnx mnx
    replace Hnx := Lib.hid (Hnx.out.step C)
    clear C B0
    obtain ⟨idk, rdk, ldk, ndk, mdk⟩ := boxAll Hdk.out
    obtain ⟨inx, rnx, lnx, nnx, mnx⟩ := boxAll Hnx.out
    obtain ⟨ad8, e8, c80, c81⟩ := at_T80 HE.out x HX.out.1 HLT.out
    clear c80
    cases e8
    generalize hino : (rd_T80 nd.f7 x).f1 = ino at c81
    have HI := Lib.hid hino
    clear hino
    have D0 : Below v2.heap.size v2 v2.drew := (Below.refl _ _).drew
    have S0 : ((isRow v2.drew bdk = true ∧ isRow v2.drew bnx = true) ∧ row v2.drew bdk = #[.slice (some ad) es.length c, .int .i64 m, .int .i64 r] ∧ row v2.drew bnx = #[.int .i64 nd.f0, .int .i64 nd.f1, .int .i64 nd.f2, .int .i64 nd.f3, .int .i64 nd.f4, .int .i64 nd.f5, .string nd.f6, .slice (some ad8) nd.f7.length c7]) ∧ v2.drew.cell? ⟨(ad8.add (x.toNat * 2)).block, (ad8.add (x.toNat * 2)).off + 1, none⟩ = some (.int .i64 ino) := ⟨⟨⟨Hdk.out.isRow, Hnx.out.isRow⟩, Hdk.out.row, Hnx.out.row⟩, c81⟩
    replace D0 := Lib.hid D0
    refine reg0 14 (fun w' => ((isRow w' bdk = true ∧ isRow w' bnx = true) ∧ row w' bdk = #[.slice (some ad) es.length c, .int .i64 m, .int .i64 r] ∧ row w' bnx = #[.int .i64 nd.f0, .int .i64 nd.f1, .int .i64 nd.f2, .int .i64 nd.f3, .int .i64 nd.f4, .int .i64 nd.f5, .string nd.f6, .slice (some ad8) nd.f7.length c7]) ∧ w'.cell? ⟨(ad8.add (x.toNat * 2)).block, (ad8.add (x.toNat * 2)).off + 1, none⟩ = some (.int .i64 ino)) (by kernel_rfl) (by kernel_rfl) (by kernel_rfl) ?_ (fun l hg hHeld => ?_)
    ·(try dsimp only); exact S0
    (apply tkT 0 1 hg; (focus rfl); (focus rfl); (focus kernel_rfl); (focus (intro w0 hSw; (try dsimp only at hSw); go_simp; try (with_reducible rfl))); (focus assumption))
    try simp only [zP, zA, zZ, zS]
    (apply tkT 1 3 hg; (focus rfl); (focus rfl); (focus kernel_rfl); (focus (intro w0 hSw; (try dsimp only at hSw); go_simp; try (with_reducible rfl))); (focus assumption))
    try simp only [zP, zA, zZ, zS]
    (apply tkT 2 7 hg; (focus rfl); (focus rfl); (focus kernel_rfl); (focus (intro w0 hSw; (try dsimp only at hSw); go_simp; try (with_reducible rfl))); (focus assumption))
    try simp only [zP, zA, zZ, zS]
    (apply tkT 3 15 hg; (focus rfl); (focus rfl); (focus kernel_rfl); (focus (intro w0 hSw; (try dsimp only at hSw); go_simp; try (with_reducible rfl))); (focus assumption))
    try simp only [zP, zA, zZ, zS]
    (apply tkT 4 31 hg; (focus rfl); (focus rfl); (focus kernel_rfl); (focus (intro w0 hSw; (try dsimp only at hSw); go_simp; try (with_reducible rfl))); (focus assumption))
    try simp only [zP, zA, zZ, zS]
    (apply tkT 5 63 hg; (focus rfl); (focus rfl); (focus kernel_rfl); (focus (intro w0 hSw; (try dsimp only at hSw); go_simp; try (with_reducible rfl))); (focus assumption))
    try simp only [zP, zA, zZ, zS]
    (apply tkT 6 127 hg; (focus rfl); (focus rfl); (focus kernel_rfl); (focus (intro w0 hSw; (try dsimp only at hSw); go_simp; try (with_reducible rfl))); (focus assumption))
    try simp only [zP, zA, zZ, zS]
    refine act2 7 11 255 2175 hg rfl rfl (by rfl) (by rfl) (by kernel_rfl) ?_ ?_
    ·intro K hK
     go_simp
     refine (rget_calls (some ad) c es m r ino _ (HR.out.step D0.out) HD0.out.2.1).mono ?_
     rintro e u3_1 h
     obtain ⟨gn, gA, gc, rfl, hb⟩ := h
     have h := hb
     unfold node54
     replace D0 := Lib.hid (D0.out.trans (hb.mono D0.out.size))
     replace S0 := keepX hb S0
     clear hb h
     refine hK.out _ _ ?_ (fun hHeld => ?_)
     ·(try dsimp only); exact S0
     clear hK K
     try simp only [zP, zA, zZ, zS]
     (apply tkT 8 511 hg; (focus rfl); (focus rfl); (focus kernel_rfl); (focus (intro w0 hSw; (try dsimp only at hSw); go_simp; try (with_reducible rfl))); (focus assumption))
     try simp only [zP, zA, zZ, zS]
     (apply tkT 9 1023 hg; (focus rfl); (focus rfl); (focus kernel_rfl); (focus (intro w0 hSw; (try dsimp only at hSw); go_simp; try (with_reducible rfl))); (focus assumption))
     try simp only [zP, zA, zZ, zS]
     (apply tkT 10 2047 hg; (focus rfl); (focus rfl); (focus kernel_rfl); (focus (intro w0 hSw; (try dsimp only at hSw); go_simp; try (with_reducible rfl))); (focus assumption))
     try simp only [zP, zA, zZ, zS]
     (apply act1 11 4095 hg; (focus rfl); (focus rfl); (focus kernel_rfl))
     intro K hK
     go_simp
     refine K_at (K := K) fun u3_2 hW => ?_
     have hb : Below u3_1.heap.size u3_1 u3_2 := by rw [hW]; exact (Below.refl _ _).alloc (Nat.le_refl _) _
     have Y : Box u3_2 u3_1.heap.size #[.int .i64 0, .int .i64 0, .int .i64 0, .int .i64 0, .int .i64 0, .int .i64 0, .string ⟨#[]⟩, .slice none 0 0] := ⟨_, by rw [hW]; exact blk_new _ rfl⟩
     obtain ⟨bgx, hbx⟩ : ∃ b, b = u3_1.heap.size := ⟨_, rfl⟩
     try simp only [drew_size] at hbx Y
     rw [← hbx] at Y ⊢
     have hbl : v2.heap.size ≤ bgx := by rw [hbx]; exact D0.out.size
     have Hgx := Lib.hid Y
     clear hW Y hbx
     replace D0 := Lib.hid (D0.out.trans (hb.mono D0.out.size))
     replace S0 := keepX hb S0
     clear hb
     refine hK.out _ _ ?_ (fun hHeld => ?_)
     ·(try dsimp only); exact S0
     clear hK K
     try simp only [zP, zA, zZ, zS]
     (apply act1 12 8191 hg; (focus rfl); (focus rfl); (focus kernel_rfl))
     intro K hK
     have i_ := Hgx.out.isRow; have r_ := Hgx.out.row
     (apply wp_st_row 54 8; (focus rfl); (focus rfl); (focus go_simp); (focus kernel_rfl); (focus rfl); (focus (first | (simp [Value.oneCell']; done) | (simp [Value.oneCell', Job.cells]; done))))
     refine K_at (K := K) fun u3_3 hW => ?_
     have hb : Below bgx u3_2 u3_3 := by rw [hW]; exact Below.setRow_ (Below.refl _ _) (Nat.le_refl _) _
     have Y : Box u3_3 bgx #[.int .i64 gn.f0, .int .i64 gn.f1, .int .i64 gn.f2, .int .i64 gn.f3, .int .i64 gn.f4, .int .i64 gn.f5, .string gn.f6, .slice gA gn.f7.length gc] := by obtain ⟨t, h⟩ := Hgx.out; exact ⟨t, by rw [hW]; exact blk_row h⟩
     clear hW i_ r_
     replace D0 := Lib.hid (D0.out.trans (hb.mono hbl))
     have S1 : ((isRow u3_3 bdk = true ∧ isRow u3_3 bnx = true) ∧ row u3_3 bdk = #[.slice (some ad) es.length c, .int .i64 m, .int .i64 r] ∧ row u3_3 bnx = #[.int .i64 nd.f0, .int .i64 nd.f1, .int .i64 nd.f2, .int .i64 nd.f3, .int .i64 nd.f4, .int .i64 nd.f5, .string nd.f6, .slice (some ad8) nd.f7.length c7]) ∧ u3_3.cell? ⟨(ad8.add (x.toNat * 2)).block, (ad8.add (x.toNat * 2)).off + 1, none⟩ = some (.int .i64 ino) := keepX D0.out (⟨⟨⟨Hdk.out.isRow, Hnx.out.isRow⟩, Hdk.out.row, Hnx.out.row⟩, c81⟩)
     clear S0
     have S0 := S1
     clear S1
     replace Hgx := Lib.hid Y
     clear hb Y hbl
     refine hK.out _ _ ?_ (fun hHeld => ?_)
     ·(try dsimp only); exact S0
     clear hK K
     try simp only [zP, zA, zZ, zS]
     (apply tkT 13 16383 hg; (focus rfl); (focus rfl); (focus kernel_rfl); (focus (intro w0 hSw; (try dsimp only at hSw); go_simp; try (with_reducible rfl))); (focus assumption))
     try simp only [zP, zA, zZ, zS]
     refine actE hg (by kernel_rfl) ?_
     have C := D0.out
     replace BB := Lib.hid (BB.out.trans (C.mono BB.out.size))
     replace Hdk := Lib.hid (Hdk.out.step C)
     replace Hnx := Lib.hid (Hnx.out.step C)
     replace HR := Lib.hid (HR.out.step C)
     replace HE := Lib.hid (HE.out.step C)
     replace H2 := Lib.hid (H2.out.step C)
     clear C D0 S0
     try clear idk rdk ldk ndk mdk inx rnx lnx nnx mnx
     obtain ⟨idk, rdk, ldk, ndk, mdk⟩ := boxAll Hdk.out
     obtain ⟨inx, rnx, lnx, nnx, mnx⟩ := boxAll Hnx.out
     obtain ⟨igx, rgx, lgx, ngx, mgx⟩ := boxAll Hgx.out
     replace c81 := cell_at HE.out HX.out.1 HLT.out HI.out
     cases hib : isB es ino with
     | false =>
      go_wp2_with fail
      go_ret
      refine ⟨false, rfl, ?_, fun h => by cases h⟩
      try have BB1 := BB.out
      repeat' (first | assumption | exact Below.refl _ _ | with_reducible refine Below.alloc ?_ ?_ _ | with_reducible refine Below.setRow_ ?_ ?_ _ | exact BB.out | exact BB.out.size | omega | (simp; done) | (simp; omega) | (have := BB.out.size; simp; omega))
     | true =>
      have HIB := Lib.hid hib
      clear hib
      by_cases hz : ino = 0
      ·have hzd : (ino == 0) = true := by simpa using hz
       clear hz
       go_wp2_with fail
       go_ret
       refine ⟨false, rfl, ?_, fun h => by cases h⟩
       try have BB1 := BB.out
       repeat' (first | assumption | exact Below.refl _ _ | with_reducible refine Below.alloc ?_ ?_ _ | with_reducible refine Below.setRow_ ?_ ?_ _ | exact BB.out | exact BB.out.size | omega | (simp; done) | (simp; omega) | (have := BB.out.size; simp; omega))
      ·have hzd : (ino == 0) = false := by simpa using hz
       clear hz
       go_wp2_with fail
       go_roundw
       case rel => exact ⟨x + 1, by first | rfl | rw [q2], by have := HX.out.1; omega, by have := HLT.out; omega, fun j j0 j1 => (by
         by_cases hj : j < x
         ·exact HX.out.2.2.1 j j0 hj
         ·have : j = x := by omega
          subst this; rw [HI.out]; exact HIB.out), HX.out.2.2.2.trans (Below.mono H2.out HX.out.2.2.2.size), Hdk.out, Hnx.out⟩
       case measure => simp [intOf, q1, q2]; have := HX.out.1; have := HLT.out; omega
    ·intro K hK
     go_simp
     refine K_at (K := K) fun u3_1 hW => ?_
     have hb : Below v2.drew.heap.size v2.drew u3_1 := by rw [hW]; exact (Below.refl _ _).alloc (Nat.le_refl _) _
     have Y : Box u3_1 v2.drew.heap.size #[.int .i64 0, .int .i64 0, .int .i64 0, .int .i64 0, .int .i64 0, .int .i64 0, .string ⟨#[]⟩, .slice none 0 0] := ⟨_, by rw [hW]; exact blk_new _ rfl⟩
     obtain ⟨bgx, hbx⟩ : ∃ b, b = v2.drew.heap.size := ⟨_, rfl⟩
     try simp only [drew_size] at hbx Y
     rw [← hbx] at Y ⊢
     have hbl : v2.heap.size ≤ bgx := by rw [hbx]; exact D0.out.size
     have Hgx := Lib.hid Y
     clear hW Y hbx
     replace D0 := Lib.hid (D0.out.trans (hb.mono D0.out.size))
     replace S0 := keepX hb S0
     clear hb
     refine hK.out _ _ ?_ (fun hHeld => ?_)
     ·(try dsimp only); exact S0
     clear hK K
     try simp only [zP, zA, zZ, zS]
     (apply act1 7 2303 hg; (focus rfl); (focus rfl); (focus kernel_rfl))
     intro K hK
     go_simp
     refine (rget_calls (some ad) c es m r ino _ (HR.out.step D0.out) HD0.out.2.1).mono ?_
     rintro e u3_2 h
     obtain ⟨gn, gA, gc, rfl, hb⟩ := h
     have h := hb
     unfold node54
     replace D0 := Lib.hid (D0.out.trans (hb.mono D0.out.size))
     replace S0 := keepX hb S0
     replace Hgx := Lib.hid (Hgx.out.step hb)
     clear hb h
     refine hK.out _ _ ?_ (fun hHeld => ?_)
     ·(try dsimp only); exact S0
     clear hK K
     try simp only [zP, zA, zZ, zS]
     (apply tkT 8 2559 hg; (focus rfl); (focus rfl); (focus kernel_rfl); (focus (intro w0 hSw; (try dsimp only at hSw); go_simp; try (with_reducible rfl))); (focus assumption))
     try simp only [zP, zA, zZ, zS]
     (apply tkT 9 3071 hg; (focus rfl); (focus rfl); (focus kernel_rfl); (focus (intro w0 hSw; (try dsimp only at hSw); go_simp; try (with_reducible rfl))); (focus assumption))
     try simp only [zP, zA, zZ, zS]
     (apply tkT 10 4095 hg; (focus rfl); (focus rfl); (focus kernel_rfl); (focus (intro w0 hSw; (try dsimp only at hSw); go_simp; try (with_reducible rfl))); (focus assumption))
     try simp only [zP, zA, zZ, zS]
     (apply act1 12 8191 hg; (focus rfl); (focus rfl); (focus kernel_rfl))
     intro K hK
     have i_ := Hgx.out.isRow; have r_ := Hgx.out.row
     (apply wp_st_row 54 8; (focus rfl); (focus rfl); (focus go_simp); (focus kernel_rfl); (focus rfl); (focus (first | (simp [Value.oneCell']; done) | (simp [Value.oneCell', Job.cells]; done))))
     refine K_at (K := K) fun u3_3 hW => ?_
     have hb : Below bgx u3_2 u3_3 := by rw [hW]; exact Below.setRow_ (Below.refl _ _) (Nat.le_refl _) _
     have Y : Box u3_3 bgx #[.int .i64 gn.f0, .int .i64 gn.f1, .int .i64 gn.f2, .int .i64 gn.f3, .int .i64 gn.f4, .int .i64 gn.f5, .string gn.f6, .slice gA gn.f7.length gc] := by obtain ⟨t, h⟩ := Hgx.out; exact ⟨t, by rw [hW]; exact blk_row h⟩
     clear hW i_ r_
     replace D0 := Lib.hid (D0.out.trans (hb.mono hbl))
     have S1 : ((isRow u3_3 bdk = true ∧ isRow u3_3 bnx = true) ∧ row u3_3 bdk = #[.slice (some ad) es.length c, .int .i64 m, .int .i64 r] ∧ row u3_3 bnx = #[.int .i64 nd.f0, .int .i64 nd.f1, .int .i64 nd.f2, .int .i64 nd.f3, .int .i64 nd.f4, .int .i64 nd.f5, .string nd.f6, .slice (some ad8) nd.f7.length c7]) ∧ u3_3.cell? ⟨(ad8.add (x.toNat * 2)).block, (ad8.add (x.toNat * 2)).off + 1, none⟩ = some (.int .i64 ino) := keepX D0.out (⟨⟨⟨Hdk.out.isRow, Hnx.out.isRow⟩, Hdk.out.row, Hnx.out.row⟩, c81⟩)
     clear S0
     have S0 := S1
     clear S1
     replace Hgx := Lib.hid Y
     clear hb Y hbl
     refine hK.out _ _ ?_ (fun hHeld => ?_)
     ·(try dsimp only); exact S0
     clear hK K
     try simp only [zP, zA, zZ, zS]
     (apply tkT 13 16383 hg; (focus rfl); (focus rfl); (focus kernel_rfl); (focus (intro w0 hSw; (try dsimp only at hSw); go_simp; try (with_reducible rfl))); (focus assumption))
     try simp only [zP, zA, zZ, zS]
     refine actE hg (by kernel_rfl) ?_
     have C := D0.out
     replace BB := Lib.hid (BB.out.trans (C.mono BB.out.size))
     replace Hdk := Lib.hid (Hdk.out.step C)
     replace Hnx := Lib.hid (Hnx.out.step C)
     replace HR := Lib.hid (HR.out.step C)
     replace HE := Lib.hid (HE.out.step C)
     replace H2 := Lib.hid (H2.out.step C)
     clear C D0 S0
     try clear idk rdk ldk ndk mdk inx rnx lnx nnx mnx
     obtain ⟨idk, rdk, ldk, ndk, mdk⟩ := boxAll Hdk.out
     obtain ⟨inx, rnx, lnx, nnx, mnx⟩ := boxAll Hnx.out
     obtain ⟨igx, rgx, lgx, ngx, mgx⟩ := boxAll Hgx.out
     replace c81 := cell_at HE.out HX.out.1 HLT.out HI.out
     cases hib : isB es ino with
     | false =>
      go_wp2_with fail
      go_ret
      refine ⟨false, rfl, ?_, fun h => by cases h⟩
      try have BB1 := BB.out
      repeat' (first | assumption | exact Below.refl _ _ | with_reducible refine Below.alloc ?_ ?_ _ | with_reducible refine Below.setRow_ ?_ ?_ _ | exact BB.out | exact BB.out.size | omega | (simp; done) | (simp; omega) | (have := BB.out.size; simp; omega))
     | true =>
      have HIB := Lib.hid hib
      clear hib
      by_cases hz : ino = 0
      ·have hzd : (ino == 0) = true := by simpa using hz
       clear hz
       go_wp2_with fail
       go_ret
       refine ⟨false, rfl, ?_, fun h => by cases h⟩
       try have BB1 := BB.out
       repeat' (first | assumption | exact Below.refl _ _ | with_reducible refine Below.alloc ?_ ?_ _ | with_reducible refine Below.setRow_ ?_ ?_ _ | exact BB.out | exact BB.out.size | omega | (simp; done) | (simp; omega) | (have := BB.out.size; simp; omega))
      ·have hzd : (ino == 0) = false := by simpa using hz
       clear hz
       go_wp2_with fail
       go_roundw
       case rel => exact ⟨x + 1, by first | rfl | rw [q2], by have := HX.out.1; omega, by have := HLT.out; omega, fun j j0 j1 => (by
         by_cases hj : j < x
         ·exact HX.out.2.2.1 j j0 hj
         ·have : j = x := by omega
          subst this; rw [HI.out]; exact HIB.out), HX.out.2.2.2.trans (Below.mono H2.out HX.out.2.2.2.size), Hdk.out, Hnx.out⟩
       case measure => simp [intOf, q1, q2]; have := HX.out.1; have := HLT.out; omega
   ·have d1 : decide (x < (nd.f7.length : Int)) = false := decide_eq_false hlt
    have HIN := Lib.hid (show InosTo es nd.f7 nd.f7.length from by have e : (nd.f7.length : Int) = x := (by have := HX.out.2.1; omega); rw [e]; exact HX.out.2.2.1)
    clear hlt
    go_wp2_with fail
    refine Calls.at_ fun W hW => ?_
    have B0 : Below wr.heap.size wr W := by rw [hW]; repeat' (first | with_reducible refine Below.alloc ?_ ?_ _ | with_reducible refine Below.setRow_ ?_ ?_ _ | with_reducible refine Below.setCell ?_ ?_ _ | with_reducible refine Below.drew ?_ | with_reducible refine Below.drewN_ ?_ _ | with_reducible exact Below.refl _ _ | assumption | (simp; done) | (simp; omega) | omega)
    clear hW
    refine (flagstoneref06_names.calls 10000 (some ad) c es m r i cc dd W (HR.out.step B0) HD0.out.2.1 HNM.out.1).mono ?_
    rintro e w22 h
    have h' := h
    obtain ⟨rfl, hb⟩ := h'
    have C := B0.trans (hb.mono B0.size)
    replace BB := Lib.hid (BB.out.trans (C.mono BB.out.size))
    replace HR := Lib.hid (HR.out.step C)
    replace HE := Lib.hid (HE.out.step C)
    try clear idk rdk ldk ndk mdk
    replace Hdk := Lib.hid (Hdk.out.step C)
    try clear inx rnx lnx nnx mnx
    replace Hnx := Lib.hid (Hnx.out.step C)
    obtain ⟨idk, rdk, ldk, ndk, mdk⟩ := boxAll Hdk.out
    obtain ⟨inx, rnx, lnx, nnx, mnx⟩ := boxAll Hnx.out
    clear h hb C B0 W
    by_cases kz : i = 0
    ·have fz : (i == 0) = true := by simpa using kz
     clear kz
     by_cases k5 : nd.f5 = 0
     ·have f5 : (nd.f5 == 0) = true := by simpa using k5
      have HF5 := Lib.hid k5
      clear k5
      go_wp2_with fail
      go_ret
      refine ⟨_, rfl, ?_, fun h => (by intro _; exact ⟨HAJ.out (by simp), HIN.out, fun _ => (by rw [HF5.out]; have := HD0.out.2.2.2.2.2; omega)⟩)⟩
      try have BB1 := BB.out
      repeat' (first | assumption | exact Below.refl _ _ | with_reducible refine Below.alloc ?_ ?_ _ | with_reducible refine Below.setRow_ ?_ ?_ _ | exact BB.out | exact BB.out.size | omega | (simp; done) | (simp; omega) | (have := BB.out.size; simp; omega))
     ·have f5 : (nd.f5 == 0) = false := by simpa using k5
      clear k5
      go_wp2_with fail
      go_ret
      refine ⟨false, rfl, ?_, fun h => by cases h⟩
      try have BB1 := BB.out
      repeat' (first | assumption | exact Below.refl _ _ | with_reducible refine Below.alloc ?_ ?_ _ | with_reducible refine Below.setRow_ ?_ ?_ _ | exact BB.out | exact BB.out.size | omega | (simp; done) | (simp; omega) | (have := BB.out.size; simp; omega))
    ·have fz : (i == 0) = false := by simpa using kz
     clear kz
     by_cases k3 : nd.f3 = cc
     ·have f3 : (nd.f3 != cc) = false := by simpa using k3
      clear k3
      by_cases kc : cc = 0
      ·have fc : (cc == 0) = true := by simpa using kc
       clear kc
       by_cases k4 : nd.f4 < 1
       ·have k4d : decide (nd.f4 < 1) = true := decide_eq_true k4
        clear k4
        go_wp2_with fail
        go_ret
        refine ⟨false, rfl, ?_, fun h => by cases h⟩
        try have BB1 := BB.out
        repeat' (first | assumption | exact Below.refl _ _ | with_reducible refine Below.alloc ?_ ?_ _ | with_reducible refine Below.setRow_ ?_ ?_ _ | exact BB.out | exact BB.out.size | omega | (simp; done) | (simp; omega) | (have := BB.out.size; simp; omega))
       ·have k4d : decide (nd.f4 < 1) = false := decide_eq_false k4
        clear k4
        by_cases k7 : (nd.f7.length : Int) = 0
        ·have f7 : ((nd.f7.length : Int) == 0) = true := by simpa using k7
         clear k7
         go_wp2_with fail
         go_ret
         refine ⟨_, rfl, ?_, fun h => (by intro _; exact ⟨HAJ.out (by simp), HIN.out, fun _ => (by have h5 : nd.f5 = 0 := (by simpa using h); rw [h5]; have := HD0.out.2.2.2.2.2; omega)⟩)⟩
         try have BB1 := BB.out
         repeat' (first | assumption | exact Below.refl _ _ | with_reducible refine Below.alloc ?_ ?_ _ | with_reducible refine Below.setRow_ ?_ ?_ _ | exact BB.out | exact BB.out.size | omega | (simp; done) | (simp; omega) | (have := BB.out.size; simp; omega))
        ·have f7 : ((nd.f7.length : Int) == 0) = false := by simpa using k7
         clear k7
         go_wp2_with fail
         go_ret
         refine ⟨false, rfl, ?_, fun h => by cases h⟩
         try have BB1 := BB.out
         repeat' (first | assumption | exact Below.refl _ _ | with_reducible refine Below.alloc ?_ ?_ _ | with_reducible refine Below.setRow_ ?_ ?_ _ | exact BB.out | exact BB.out.size | omega | (simp; done) | (simp; omega) | (have := BB.out.size; simp; omega))
      ·have fc : (cc == 0) = false := by simpa using kc
       have HC0 := Lib.hid kc
       clear kc
       by_cases k1 : cc = 1
       ·have f1 : (cc == 1) = true := by simpa using k1
        clear k1
        by_cases k5 : nd.f5 = dd
        ·have f5 : (nd.f5 == dd) = true := by simpa using k5
         have HDD := Lib.hid k5
         clear k5
         go_wp2_with fail
         refine Calls.at_ fun W hW => ?_
         have B0 : Below w22.heap.size w22 W := by rw [hW]; repeat' (first | with_reducible refine Below.alloc ?_ ?_ _ | with_reducible refine Below.setRow_ ?_ ?_ _ | with_reducible refine Below.setCell ?_ ?_ _ | with_reducible refine Below.drew ?_ | with_reducible refine Below.drewN_ ?_ _ | with_reducible exact Below.refl _ _ | assumption | (simp; done) | (simp; omega) | omega)
         clear hW
         refine (flagstoneref06_rooted.calls 1000 (some ad) c es m r i ro W (HR.out.step B0) HD0.out.2.1 HRO.out).mono ?_
         rintro e w23 h
         have h' := h
         obtain ⟨rfl, hb⟩ := h'
         have C := B0.trans (hb.mono B0.size)
         replace BB := Lib.hid (BB.out.trans (C.mono BB.out.size))
         replace HR := Lib.hid (HR.out.step C)
         replace HE := Lib.hid (HE.out.step C)
         try clear idk rdk ldk ndk mdk
         replace Hdk := Lib.hid (Hdk.out.step C)
         try clear inx rnx lnx nnx mnx
         replace Hnx := Lib.hid (Hnx.out.step C)
         obtain ⟨idk, rdk, ldk, ndk, mdk⟩ := boxAll Hdk.out
         obtain ⟨inx, rnx, lnx, nnx, mnx⟩ := boxAll Hnx.out
         clear h hb C B0 W
         go_wp2_with fail
         go_ret
         refine ⟨ro, rfl, ?_, fun _ _ => ⟨HAJ.out (by simp), HIN.out, fun _ => (by have h := HNM.out.2; have h3 := h.2.2.2 HC0.out; have h2 := h.2.2.1; rw [HDD.out]; exact ⟨h3, h2⟩)⟩⟩
         try have BB1 := BB.out
         repeat' (first | assumption | exact Below.refl _ _ | with_reducible refine Below.alloc ?_ ?_ _ | with_reducible refine Below.setRow_ ?_ ?_ _ | exact BB.out | exact BB.out.size | omega | (simp; done) | (simp; omega) | (have := BB.out.size; simp; omega))
        ·have f5 : (nd.f5 == dd) = false := by simpa using k5
         clear k5
         go_wp2_with fail
         go_ret
         refine ⟨false, rfl, ?_, fun h => by cases h⟩
         try have BB1 := BB.out
         repeat' (first | assumption | exact Below.refl _ _ | with_reducible refine Below.alloc ?_ ?_ _ | with_reducible refine Below.setRow_ ?_ ?_ _ | exact BB.out | exact BB.out.size | omega | (simp; done) | (simp; omega) | (have := BB.out.size; simp; omega))
       ·have f1 : (cc == 1) = false := by simpa using k1
        clear k1
        go_wp2_with fail
        go_ret
        refine ⟨false, rfl, ?_, fun h => by cases h⟩
        try have BB1 := BB.out
        repeat' (first | assumption | exact Below.refl _ _ | with_reducible refine Below.alloc ?_ ?_ _ | with_reducible refine Below.setRow_ ?_ ?_ _ | exact BB.out | exact BB.out.size | omega | (simp; done) | (simp; omega) | (have := BB.out.size; simp; omega))
     ·have f3 : (nd.f3 != cc) = true := by simpa using k3
      clear k3
      go_wp2_with fail
      go_ret
      refine ⟨false, rfl, ?_, fun h => by cases h⟩
      try have BB1 := BB.out
      repeat' (first | assumption | exact Below.refl _ _ | with_reducible refine Below.alloc ?_ ?_ _ | with_reducible refine Below.setRow_ ?_ ?_ _ | exact BB.out | exact BB.out.size | omega | (simp; done) | (simp; omega) | (have := BB.out.size; simp; omega))
set_option maxRecDepth 100000 in
set_option maxHeartbeats 8000000 in
theorem right_9 (A : Option Addr) (c : Nat) (es : List S54) (m r i : Int) (w : World) (nd : S54) (hnd : rd_T54 es i = nd) (hr : R54 w A es) (hc : es.length ≤ c) (hl : es.length ≤ 100) (hn : ∀ x, x ∈ es → x.f7.length ≤ 60) (hs : ∀ j, (rd_T80 nd.f7 j).f0.size ≤ 1000000000000000) (hi : 0 ≤ i ∧ i < es.length) (k0 : ¬ nd.f0 = 0) (a1 : ¬ nd.f0 < 1) (a2 : ¬ 3 < nd.f0) (a3 : ¬ nd.f1 < 0) (a4 : ¬ 63 < nd.f1) (a5 : ¬ nd.f4 < 0) (k2 : ¬ nd.f0 = 2) (k7 : ¬ 0 < (nd.f7.length : Int)) :
  Calls Tryd.prog 33 #[.agg #[.slice A es.length c, .int .i64 m, .int .i64 r], .int .i64 i] w (RgtR es nd w) := by
 have hl7 : nd.f7.length ≤ 60 := by have := hn _ (show nd ∈ es by rw [← hnd]; unfold rd_T54; rw [List.getD_eq_getElem?_getD, List.getElem?_eq_getElem (by omega)]; exact List.getElem_mem _); exact this
 have HL7 := Lib.hid hl7
 clear hl7
 obtain ⟨cc, dd, hnm, hok⟩ := names_f m r i es hl hn
 have HNM := Lib.hid (And.intro hnm hok)
 clear hnm hok
 obtain ⟨ro, hro⟩ := rooted_f m r i es hl
 have HRO := Lib.hid hro
 clear hro
 have HD0 := Lib.hid (And.intro hnd (And.intro hc (And.intro hl (And.intro hn (And.intro hs hi)))))
 have HR := Lib.hid hr
 clear hnd hr hc hl hn hs
 have hi0 : (0 ≤ i) = True := eq_true hi.1
 have hi1 : (i < (es.length : Int)) = True := eq_true hi.2
 clear hi
 have f0 : (nd.f0 == 0) = false := by simpa using k0
 have a1d : decide (nd.f0 < 1) = false := decide_eq_false a1
 have a2d : decide (3 < nd.f0) = false := decide_eq_false a2
 have a3d : decide (nd.f1 < 0) = false := decide_eq_false a3
 have a4d : decide (63 < nd.f1) = false := decide_eq_false a4
 have a5d : decide (nd.f4 < 0) = false := decide_eq_false a5
 have f2 : (nd.f0 == 2) = false := by simpa using k2
 have g2 : (nd.f0 != 2) = true := by simpa using k2
 have H00 := Lib.hid (show nd.f7.length = 0 by omega)
 have HK2 := Lib.hid k2
 clear k2 k7
 clear k0 a1 a2 a3 a4 a5
 obtain ⟨ad, A7, c7, eA, x0, x1, x2, x3, x4, x5, x6, x7, hc7, hC⟩ := at_T54 HR.out i HD0.out.2.2.2.2.2.1 HD0.out.2.2.2.2.2.2
 rw [HD0.out.1] at x0 x1 x2 x3 x4 x5 x6 x7 hc7 hC
 cases eA
 have HE := Lib.hid (show R80 _ A7 nd.f7 from hC)
 have HC7 := Lib.hid hc7
 clear hC hc7
 replace x0 := lift1 (.cells #[.slice (some ad) es.length c, .int .i64 m, .int .i64 r] 37) x0
 replace x1 := lift1 (.cells #[.slice (some ad) es.length c, .int .i64 m, .int .i64 r] 37) x1
 replace x2 := lift1 (.cells #[.slice (some ad) es.length c, .int .i64 m, .int .i64 r] 37) x2
 replace x3 := lift1 (.cells #[.slice (some ad) es.length c, .int .i64 m, .int .i64 r] 37) x3
 replace x4 := lift1 (.cells #[.slice (some ad) es.length c, .int .i64 m, .int .i64 r] 37) x4
 replace x5 := lift1 (.cells #[.slice (some ad) es.length c, .int .i64 m, .int .i64 r] 37) x5
 replace x6 := lift1 (.cells #[.slice (some ad) es.length c, .int .i64 m, .int .i64 r] 37) x6
 replace x7 := lift1 (.cells #[.slice (some ad) es.length c, .int .i64 m, .int .i64 r] 37) x7
 rw [H00.out] at x7
 go_enter Tryd.func33, Tryd.ntmps33
 go_wp2_with (first | go_skip | (apply st_row 54 8; (focus rfl); (focus rfl); (focus go_simp); (focus kernel_rfl); (focus rfl); (focus (simp [Value.oneCell']; done))))
 refine Calls.at_ fun W hW => ?_
 have B0 : Below w.heap.size w W := by rw [hW]; repeat' (first | with_reducible refine Below.alloc ?_ ?_ _ | with_reducible refine Below.setRow_ ?_ ?_ _ | with_reducible refine Below.setCell ?_ ?_ _ | with_reducible refine Below.drew ?_ | with_reducible refine Below.drewN_ ?_ _ | with_reducible exact Below.refl _ _ | assumption | (simp; done) | (simp; omega) | omega)
 have Ydk : Box W (w.heap.size) #[.slice (some ad) es.length c, .int .i64 m, .int .i64 r] := ⟨_, by rw [hW]; exact blk_old (blk_new _ (by first | rfl | simp)) _⟩
 have Ynx : Box W (w.heap.size + 1) #[.int .i64 nd.f0, .int .i64 nd.f1, .int .i64 nd.f2, .int .i64 nd.f3, .int .i64 nd.f4, .int .i64 nd.f5, .string nd.f6, .slice A7 0 c7] := ⟨_, by rw [hW]; exact blk_new _ (by first | rfl | simp)⟩
 clear hW
 refine ((show Calls Tryd.prog 47 #[.slice A7 0 c7] W (SrtR nd.f7 W) from (by have q := sorted_calls A7 c7 nd.f7 W (HE.out.step B0) HC7.out (Nat.le_trans HL7.out (by decide)) HD0.out.2.2.2.2.1; rw [H00.out] at q; exact q))).mono ?_
 rintro e w1 h
 have h' := h
 obtain ⟨sb, rfl, hdr, hadj⟩ := (show SrtR _ _ _ _ from h')
 have hb := Drawn0.below hdr
 have HAJ := Lib.hid hadj
 have C := B0.trans (hb.mono B0.size)
 have BB := Lib.hid C
 replace HR := Lib.hid (HR.out.step C)
 replace HE := Lib.hid (HE.out.step C)
 have Hdk := Lib.hid (Ydk.step hb)
 have Hnx := Lib.hid (Ynx.step hb)
 obtain ⟨bnx, hbnx⟩ : ∃ b, b = w.heap.size + 1 := ⟨_, rfl⟩
 rw [← hbnx] at Hnx ⊢
 obtain ⟨bdk, hbdk⟩ : ∃ b, b = w.heap.size := ⟨_, rfl⟩
 rw [← hbdk] at Hdk ⊢
 clear Ydk hbdk Ynx hbnx
 obtain ⟨idk, rdk, ldk, ndk, mdk⟩ := boxAll Hdk.out
 obtain ⟨inx, rnx, lnx, nnx, mnx⟩ := boxAll Hnx.out
 clear h hb C B0 W h' hdr hadj
 cases sb with
 | false =>
  go_wp2_with (first | go_skip | (apply st_row 54 8; (focus rfl); (focus rfl); (focus go_simp); (focus kernel_rfl); (focus rfl); (focus (simp [Value.oneCell']; done))))
  go_ret
  refine ⟨false, rfl, ?_, fun h => by cases h⟩
  try have BB1 := BB.out
  repeat' (first | assumption | exact Below.refl _ _ | with_reducible refine Below.alloc ?_ ?_ _ | with_reducible refine Below.setRow_ ?_ ?_ _ | exact BB.out | exact BB.out.size | omega | (simp; done) | (simp; omega) | (have := BB.out.size; simp; omega))
 | true =>
  have HR0 := HR
  have HE0 := HE
  go_wp2_with fail
  go_loopw [6] (fun i_ wr => ∃ x : Int, i_ = .int .i64 x ∧ 0 ≤ x ∧ x ≤ nd.f7.length ∧ InosTo es nd.f7 x ∧ Below w1.heap.size w1 wr ∧ Box wr bdk #[.slice (some ad) es.length c, .int .i64 m, .int .i64 r] ∧ Box wr bnx #[.int .i64 nd.f0, .int .i64 nd.f1, .int .i64 nd.f2, .int .i64 nd.f3, .int .i64 nd.f4, .int .i64 nd.f5, .string nd.f6, .slice A7 0 c7]) (fun i_ _ => nd.f7.length - (intOf i_).toNat)
  case atStart => exact ⟨0, rfl, Int.le_refl _, by omega, fun j h1 h2 => by omega, Below.refl _ _, Hdk.out, Hnx.out⟩
  case round =>
   obtain ⟨x, rfl, h0, h1, hin, hB, hbd, hbn⟩ := hrel
   clear idk rdk ldk ndk mdk inx rnx lnx nnx mnx
   replace BB := Lib.hid (BB.out.trans (hB.mono BB.out.size))
   have HX := Lib.hid (And.intro h0 (And.intro h1 (And.intro hin hB)))
   replace Hdk := Lib.hid hbd
   replace Hnx := Lib.hid hbn
   replace HR := Lib.hid (HR0.out.step hB)
   replace HE := Lib.hid (HE0.out.step hB)
   clear h0 h1 hin hB hbd hbn
   obtain ⟨idk, rdk, ldk, ndk, mdk⟩ := boxAll Hdk.out
   obtain ⟨inx, rnx, lnx, nnx, mnx⟩ := boxAll Hnx.out
   have d1 : decide (x < (0 : Int)) = false := decide_eq_false (by have := HX.out.1; omega)
   have HIN := Lib.hid (show InosTo es nd.f7 nd.f7.length from by have e : (nd.f7.length : Int) = x := (by have := HX.out.2.1; have := HX.out.1; have := H00.out; omega); rw [e]; exact HX.out.2.2.1)
   go_wp2_with fail
   refine Calls.at_ fun W hW => ?_
   have B0 : Below wr.heap.size wr W := by rw [hW]; repeat' (first | with_reducible refine Below.alloc ?_ ?_ _ | with_reducible refine Below.setRow_ ?_ ?_ _ | with_reducible refine Below.setCell ?_ ?_ _ | with_reducible refine Below.drew ?_ | with_reducible refine Below.drewN_ ?_ _ | with_reducible exact Below.refl _ _ | assumption | (simp; done) | (simp; omega) | omega)
   clear hW
   refine (flagstoneref06_names.calls 10000 (some ad) c es m r i cc dd W (HR.out.step B0) HD0.out.2.1 HNM.out.1).mono ?_
   rintro e w22 h
   have h' := h
   obtain ⟨rfl, hb⟩ := h'
   have C := B0.trans (hb.mono B0.size)
   replace BB := Lib.hid (BB.out.trans (C.mono BB.out.size))
   replace HR := Lib.hid (HR.out.step C)
   replace HE := Lib.hid (HE.out.step C)
   try clear idk rdk ldk ndk mdk
   replace Hdk := Lib.hid (Hdk.out.step C)
   try clear inx rnx lnx nnx mnx
   replace Hnx := Lib.hid (Hnx.out.step C)
   obtain ⟨idk, rdk, ldk, ndk, mdk⟩ := boxAll Hdk.out
   obtain ⟨inx, rnx, lnx, nnx, mnx⟩ := boxAll Hnx.out
   clear h hb C B0 W
   by_cases kz : i = 0
   ·have fz : (i == 0) = true := by simpa using kz
    clear kz
    go_wp2_with fail
    go_ret
    refine ⟨false, rfl, ?_, fun h => by cases h⟩
    try have BB1 := BB.out
    repeat' (first | assumption | exact Below.refl _ _ | with_reducible refine Below.alloc ?_ ?_ _ | with_reducible refine Below.setRow_ ?_ ?_ _ | exact BB.out | exact BB.out.size | omega | (simp; done) | (simp; omega) | (have := BB.out.size; simp; omega))
   ·have fz : (i == 0) = false := by simpa using kz
    clear kz
    by_cases k3 : nd.f3 = cc
    ·have f3 : (nd.f3 != cc) = false := by simpa using k3
     clear k3
     by_cases kc : cc = 0
     ·have fc : (cc == 0) = true := by simpa using kc
      clear kc
      by_cases k4 : nd.f4 < 1
      ·have k4d : decide (nd.f4 < 1) = true := decide_eq_true k4
       clear k4
       go_wp2_with fail
       go_ret
       refine ⟨false, rfl, ?_, fun h => by cases h⟩
       try have BB1 := BB.out
       repeat' (first | assumption | exact Below.refl _ _ | with_reducible refine Below.alloc ?_ ?_ _ | with_reducible refine Below.setRow_ ?_ ?_ _ | exact BB.out | exact BB.out.size | omega | (simp; done) | (simp; omega) | (have := BB.out.size; simp; omega))
      ·have k4d : decide (nd.f4 < 1) = false := decide_eq_false k4
       clear k4
       go_wp2_with fail
       go_ret
       refine ⟨true, rfl, ?_, fun _ _ => ⟨HAJ.out (by simp), HIN.out, fun h => absurd h HK2.out⟩⟩
       try have BB1 := BB.out
       repeat' (first | assumption | exact Below.refl _ _ | with_reducible refine Below.alloc ?_ ?_ _ | with_reducible refine Below.setRow_ ?_ ?_ _ | exact BB.out | exact BB.out.size | omega | (simp; done) | (simp; omega) | (have := BB.out.size; simp; omega))
     ·have fc : (cc == 0) = false := by simpa using kc
      have HC0 := Lib.hid kc
      clear kc
      go_wp2_with fail
      go_ret
      refine ⟨true, rfl, ?_, fun _ _ => ⟨HAJ.out (by simp), HIN.out, fun h => absurd h HK2.out⟩⟩
      try have BB1 := BB.out
      repeat' (first | assumption | exact Below.refl _ _ | with_reducible refine Below.alloc ?_ ?_ _ | with_reducible refine Below.setRow_ ?_ ?_ _ | exact BB.out | exact BB.out.size | omega | (simp; done) | (simp; omega) | (have := BB.out.size; simp; omega))
    ·have f3 : (nd.f3 != cc) = true := by simpa using k3
     clear k3
     go_wp2_with fail
     go_ret
     refine ⟨false, rfl, ?_, fun h => by cases h⟩
     try have BB1 := BB.out
     repeat' (first | assumption | exact Below.refl _ _ | with_reducible refine Below.alloc ?_ ?_ _ | with_reducible refine Below.setRow_ ?_ ?_ _ | exact BB.out | exact BB.out.size | omega | (simp; done) | (simp; omega) | (have := BB.out.size; simp; omega))
end Go.Proofs.YthagmakojbfmaaaDoor.Ext
