/- flagstonelaw07.right: it comes to an end; what is so where it says yes. -/
import Derived.Test.YthagmakojbfmaaaDoorRgB
/- flagstoneref06.Right: it comes to an end; what is so where it says yes. -/
set_option linter.unusedVariables false
set_option linter.unusedSimpArgs false
namespace Go.Proofs.YthagmakojbfmaaaDoor.Ext
open Go Go.RowKit Go.Proofs.YthagmakojbfmaaaDoor Go.Proofs.YthagmakojbfmaaaDoorW.PrintWords Go.Proofs.YthagmakojbfmaaaDoor.Pright
theorem neq_empty (p : ByteArray) (t : Nat) : binOp .neq t (.string p) (.string ⟨#[]⟩) = pure (.bool (!(p.toList == []))) := by
 show Op.stringOp .neq p ⟨#[]⟩ = _
 unfold Op.stringOp
 rw [show (⟨#[]⟩ : ByteArray).toList = [] from (by unfold ByteArray.toList ByteArray.toList.loop; rfl)]
theorem keepR {W w1 : World} (hb : Below W.heap.size W w1) {b1 : Nat} {c1 : Array Value} (h : isRow W b1 = true ∧ row W b1 = c1) : isRow w1 b1 = true ∧ row w1 b1 = c1 := ⟨isRow_call hb h.1, row_call hb h.1 h.2⟩
theorem keepC {W w1 : World} (hb : Below W.heap.size W w1) {b1 : Nat} {c1 : Array Value} {a : Addr} {v : Value} (h : (isRow W b1 = true ∧ row W b1 = c1) ∧ W.cell? a = some v) : (isRow w1 b1 = true ∧ row w1 b1 = c1) ∧ w1.cell? a = some v := ⟨keepR hb h.1, cell_call hb h.2⟩
theorem right_calls (A : Option Addr) (c : Nat) (es : List S54) (m r i : Int) (w : World) (nd : S54) (hnd : rd_T54 es i = nd) (hr : R54 w A es) (hc : es.length ≤ c) (hl : es.length ≤ 100) (hn : ∀ x, x ∈ es → x.f7.length ≤ 60) (hs : ∀ j, (rd_T80 nd.f7 j).f0.size ≤ 1000000000000000) (hi : 0 ≤ i ∧ i < es.length) :
  Calls Tryd.prog 33 #[.agg #[.slice A es.length c, .int .i64 m, .int .i64 r], .int .i64 i] w (RgtR es nd w) := by
 by_cases k0 : nd.f0 = 0
 ·obtain ⟨yy, hY⟩ := alike_f nd (by have := hn _ (show nd ∈ es by rw [← hnd]; unfold rd_T54; rw [List.getD_eq_getElem?_getD, List.getElem?_eq_getElem (by omega)]; exact List.getElem_mem _); exact this)
  exact right_0 A c es m r i w nd hnd hr hc hl hn hs hi k0 yy hY
 by_cases a1 : nd.f0 < 1
 ·exact right_1 A c es m r i w nd hnd hr hc hl hn hs hi k0 a1
 by_cases a2 : 3 < nd.f0
 ·exact right_2 A c es m r i w nd hnd hr hc hl hn hs hi k0 a1 a2
 by_cases a3 : nd.f1 < 0
 ·exact right_3 A c es m r i w nd hnd hr hc hl hn hs hi k0 a1 a2 a3
 by_cases a4 : 63 < nd.f1
 ·exact right_4 A c es m r i w nd hnd hr hc hl hn hs hi k0 a1 a2 a3 a4
 by_cases a5 : nd.f4 < 0
 ·exact right_5 A c es m r i w nd hnd hr hc hl hn hs hi k0 a1 a2 a3 a4 a5
 by_cases k2 : nd.f0 = 2
 ·by_cases k6 : nd.f6.toList = []
  ·exact right_8 A c es m r i w nd hnd hr hc hl hn hs hi k0 a1 a2 a3 a4 a5 k2 (fun t => by rw [neq_empty, k6]; rfl)
  ·exact right_6 A c es m r i w nd hnd hr hc hl hn hs hi k0 a1 a2 a3 a4 a5 k2 (fun t => by rw [neq_empty]; cases h : nd.f6.toList with | nil => exact absurd h k6 | cons a b => rfl)
 ·by_cases k7 : 0 < (nd.f7.length : Int)
  ·exact right_7 A c es m r i w nd hnd hr hc hl hn hs hi k0 a1 a2 a3 a4 a5 k2 k7
  ·exact right_9 A c es m r i w nd hnd hr hc hl hn hs hi k0 a1 a2 a3 a4 a5 k2 k7
def DiskOk (es : List S54) : Prop := 0 < es.length ∧ (rd_T54 es 0).f0 = 2 ∧ ∀ i : Int, 0 ≤ i → i < es.length → NodeOk es (rd_T54 es i)
def RtR (es : List S54) (w : World) (e : Ending) (w' : World) : Prop := ∃ b, e = .returned (.bool b) ∧ Below w.heap.size w w' ∧ (b = true → DiskOk es)
def Okto (es : List S54) (x : Int) : Prop := ∀ i : Int, 0 ≤ i → i < x → NodeOk es (rd_T54 es i)
attribute [local go_sem] isRow_drew row_drew isRow_drewN row_drewN cell_isRow rowSz_isRow isHead_ptr blockOf_ptr row_alloc isRow_alloc rowSz_alloc setRow_alloc isRow_setRow isRow_setCell isRow_frozen setCell_setRow_same setCell_setRow_other cell_setRow_same' cell_setRow_other' frozen_setRow' row_setRow_same row_setRow_other rowSz_setRow_same rowSz_setRow_other setRow_setRow_same' setRow_comm' ne_l2 ne_r2 ne_l3 ne_r3 ne_l4 ne_r4 ne_l5 ne_r5 ne_l6 ne_r6 ne_l7 ne_r7 ne_l8 ne_r8
attribute [local go_sem ↓] ldx_37
attribute [local go_sem ↓] Go.wp_at_zero Go.wp_at_succ
set_option maxRecDepth 100000 in
set_option maxHeartbeats 8000000 in
theorem Right_0 (A : Option Addr) (c : Nat) (es : List S54) (m r : Int) (w : World) (hr : R54 w A es) (hc : es.length ≤ c) (hl : es.length ≤ 100) (hn : ∀ x, x ∈ es → x.f7.length ≤ 60) (hs : ∀ i j, (rd_T80 (rd_T54 es i).f7 j).f0.size ≤ 1000000000000000) (z : es.length = 0) :
  Calls Tryd.prog 19 #[.agg #[.slice A es.length c, .int .i64 m, .int .i64 r]] w (RtR es w) := by
 have HD0 := Lib.hid (And.intro hc (And.intro hl (And.intro hn hs)))
 have HR := Lib.hid hr
 clear hr hc hl hn hs
 have f0 : ((es.length : Int) == 0) = true := by simpa using z
 clear z
 go_enter Tryd.func19, Tryd.ntmps19
 go_wp2_with fail
 refine Code.at_ fun v1 hW => ?_
 have B0 : Below w.heap.size w v1 := by rw [hW]; repeat' (first | with_reducible refine Below.alloc ?_ ?_ _ | with_reducible refine Below.setRow_ ?_ ?_ _ | with_reducible refine Below.setCell ?_ ?_ _ | with_reducible refine Below.drew ?_ | with_reducible refine Below.drewN_ ?_ _ | with_reducible exact Below.refl _ _ | assumption | (simp; done) | (simp; omega) | omega)
 have Hdk := Lib.hid (show Box v1 (w.heap.size) #[.slice A es.length c, .int .i64 m, .int .i64 r] from ⟨_, by rw [hW]; (try rw [setRow_alloc, if_pos rfl]); exact blk_new _ (by first | rfl | simp)⟩)
 clear hW
 have C := B0
 have BB := Lib.hid C
 replace HR := Lib.hid (HR.out.step C)
 obtain ⟨bdk, hbdk⟩ : ∃ b, b = w.heap.size := ⟨_, rfl⟩
 rw [← hbdk] at Hdk ⊢
 clear hbdk
 clear C B0
 obtain ⟨idk, rdk, ldk, ndk, mdk⟩ := boxAll Hdk.out
 have D0 : Below v1.heap.size v1 v1.drew := (Below.refl _ _).drew
 have S0 : isRow v1.drew bdk = true ∧ row v1.drew bdk = #[.slice A es.length c, .int .i64 m, .int .i64 r] := ⟨Hdk.out.isRow, Hdk.out.row⟩
 replace D0 := Lib.hid D0
 refine reg0 27 (fun w' => isRow w' bdk = true ∧ row w' bdk = #[.slice A es.length c, .int .i64 m, .int .i64 r]) (by kernel_rfl) (by kernel_rfl) (by kernel_rfl) ?_ (fun l hg hHeld => ?_)
 ·(try dsimp only); exact S0
 (apply tkT 0 1 hg; (focus rfl); (focus rfl); (focus kernel_rfl); (focus (intro w0 hSw; (try dsimp only at hSw); go_simp; try (with_reducible rfl))); (focus assumption))
 try simp only [zP, zA, zZ, zS]
 (apply tkT 1 3 hg; (focus rfl); (focus rfl); (focus kernel_rfl); (focus (intro w0 hSw; (try dsimp only at hSw); go_simp; try (with_reducible rfl))); (focus assumption))
 try simp only [zP, zA, zZ, zS]
 (apply tkT 2 7 hg; (focus rfl); (focus rfl); (focus kernel_rfl); (focus (intro w0 hSw; (try dsimp only at hSw); go_simp; try (with_reducible rfl))); (focus assumption))
 try simp only [zP, zA, zZ, zS]
 (apply tkT 3 15 hg; (focus rfl); (focus rfl); (focus kernel_rfl); (focus (intro w0 hSw; (try dsimp only at hSw); go_simp; try (with_reducible rfl))); (focus assumption))
 try simp only [zP, zA, zZ, zS]
 (apply tkT 4 31 hg; (focus rfl); (focus rfl); (focus kernel_rfl); (focus (intro w0 hSw; (try dsimp only at hSw); go_simp; try (with_reducible rfl))); (focus assumption))
 try simp only [zP, zA, zZ, zS]
 (first | (apply tkT 5 63 hg; (focus rfl); (focus rfl); (focus kernel_rfl); (focus (intro w0 hSw; (try dsimp only at hSw); go_simp; try (with_reducible rfl))); (focus assumption)) | (apply tkF 5 63 hg; (focus rfl); (focus rfl); (focus kernel_rfl); (focus assumption)))
 try simp only [zP, zA, zZ, zS]
 (first | (apply tkT 6 127 hg; (focus rfl); (focus rfl); (focus kernel_rfl); (focus (intro w0 hSw; (try dsimp only at hSw); go_simp; try (with_reducible rfl))); (focus assumption)) | (apply tkF 6 127 hg; (focus rfl); (focus rfl); (focus kernel_rfl); (focus assumption)))
 try simp only [zP, zA, zZ, zS]
 (first | (apply tkT 7 255 hg; (focus rfl); (focus rfl); (focus kernel_rfl); (focus (intro w0 hSw; (try dsimp only at hSw); go_simp; try (with_reducible rfl))); (focus assumption)) | (apply tkF 7 255 hg; (focus rfl); (focus rfl); (focus kernel_rfl); (focus assumption)))
 try simp only [zP, zA, zZ, zS]
 (first | (apply tkT 8 511 hg; (focus rfl); (focus rfl); (focus kernel_rfl); (focus (intro w0 hSw; (try dsimp only at hSw); go_simp; try (with_reducible rfl))); (focus assumption)) | (apply tkF 8 511 hg; (focus rfl); (focus rfl); (focus kernel_rfl); (focus assumption)))
 try simp only [zP, zA, zZ, zS]
 (first | (apply tkT 9 1023 hg; (focus rfl); (focus rfl); (focus kernel_rfl); (focus (intro w0 hSw; (try dsimp only at hSw); go_simp; try (with_reducible rfl))); (focus assumption)) | (apply tkF 9 1023 hg; (focus rfl); (focus rfl); (focus kernel_rfl); (focus assumption)))
 try simp only [zP, zA, zZ, zS]
 (first | (apply tkT 10 2047 hg; (focus rfl); (focus rfl); (focus kernel_rfl); (focus (intro w0 hSw; (try dsimp only at hSw); go_simp; try (with_reducible rfl))); (focus assumption)) | (apply tkF 10 2047 hg; (focus rfl); (focus rfl); (focus kernel_rfl); (focus assumption)))
 try simp only [zP, zA, zZ, zS]
 (apply tkT 11 4095 hg; (focus rfl); (focus rfl); (focus kernel_rfl); (focus (intro w0 hSw; (try dsimp only at hSw); go_simp; try (with_reducible rfl))); (focus assumption))
 try simp only [zP, zA, zZ, zS]
 (apply tkT 12 8191 hg; (focus rfl); (focus rfl); (focus kernel_rfl); (focus (intro w0 hSw; (try dsimp only at hSw); go_simp; try (with_reducible rfl))); (focus assumption))
 try simp only [zP, zA, zZ, zS]
 (first | (apply tkT 13 16383 hg; (focus rfl); (focus rfl); (focus kernel_rfl); (focus (intro w0 hSw; (try dsimp only at hSw); go_simp; try (with_reducible rfl))); (focus assumption)) | (apply tkF 13 16383 hg; (focus rfl); (focus rfl); (focus kernel_rfl); (focus assumption)))
 try simp only [zP, zA, zZ, zS]
 (first | (apply tkT 14 32767 hg; (focus rfl); (focus rfl); (focus kernel_rfl); (focus (intro w0 hSw; (try dsimp only at hSw); go_simp; try (with_reducible rfl))); (focus assumption)) | (apply tkF 14 32767 hg; (focus rfl); (focus rfl); (focus kernel_rfl); (focus assumption)))
 try simp only [zP, zA, zZ, zS]
 (first | (apply tkT 15 65535 hg; (focus rfl); (focus rfl); (focus kernel_rfl); (focus (intro w0 hSw; (try dsimp only at hSw); go_simp; try (with_reducible rfl))); (focus assumption)) | (apply tkF 15 65535 hg; (focus rfl); (focus rfl); (focus kernel_rfl); (focus assumption)))
 try simp only [zP, zA, zZ, zS]
 (first | (apply tkT 16 131071 hg; (focus rfl); (focus rfl); (focus kernel_rfl); (focus (intro w0 hSw; (try dsimp only at hSw); go_simp; try (with_reducible rfl))); (focus assumption)) | (apply tkF 16 131071 hg; (focus rfl); (focus rfl); (focus kernel_rfl); (focus assumption)))
 try simp only [zP, zA, zZ, zS]
 (first | (apply tkT 17 262143 hg; (focus rfl); (focus rfl); (focus kernel_rfl); (focus (intro w0 hSw; (try dsimp only at hSw); go_simp; try (with_reducible rfl))); (focus assumption)) | (apply tkF 17 262143 hg; (focus rfl); (focus rfl); (focus kernel_rfl); (focus assumption)))
 try simp only [zP, zA, zZ, zS]
 (apply tkT 18 524287 hg; (focus rfl); (focus rfl); (focus kernel_rfl); (focus (intro w0 hSw; (try dsimp only at hSw); go_simp; try (with_reducible rfl))); (focus assumption))
 try simp only [zP, zA, zZ, zS]
 (apply tkT 19 1048575 hg; (focus rfl); (focus rfl); (focus kernel_rfl); (focus (intro w0 hSw; (try dsimp only at hSw); go_simp; try (with_reducible rfl))); (focus assumption))
 try simp only [zP, zA, zZ, zS]
 (first | (apply tkT 20 2097151 hg; (focus rfl); (focus rfl); (focus kernel_rfl); (focus (intro w0 hSw; (try dsimp only at hSw); go_simp; try (with_reducible rfl))); (focus assumption)) | (apply tkF 20 2097151 hg; (focus rfl); (focus rfl); (focus kernel_rfl); (focus assumption)))
 try simp only [zP, zA, zZ, zS]
 (first | (apply tkT 21 4194303 hg; (focus rfl); (focus rfl); (focus kernel_rfl); (focus (intro w0 hSw; (try dsimp only at hSw); go_simp; try (with_reducible rfl))); (focus assumption)) | (apply tkF 21 4194303 hg; (focus rfl); (focus rfl); (focus kernel_rfl); (focus assumption)))
 try simp only [zP, zA, zZ, zS]
 (first | (apply tkT 22 8388607 hg; (focus rfl); (focus rfl); (focus kernel_rfl); (focus (intro w0 hSw; (try dsimp only at hSw); go_simp; try (with_reducible rfl))); (focus assumption)) | (apply tkF 22 8388607 hg; (focus rfl); (focus rfl); (focus kernel_rfl); (focus assumption)))
 try simp only [zP, zA, zZ, zS]
 (first | (apply tkT 23 16777215 hg; (focus rfl); (focus rfl); (focus kernel_rfl); (focus (intro w0 hSw; (try dsimp only at hSw); go_simp; try (with_reducible rfl))); (focus assumption)) | (apply tkF 23 16777215 hg; (focus rfl); (focus rfl); (focus kernel_rfl); (focus assumption)))
 try simp only [zP, zA, zZ, zS]
 (first | (apply tkT 24 33554431 hg; (focus rfl); (focus rfl); (focus kernel_rfl); (focus (intro w0 hSw; (try dsimp only at hSw); go_simp; try (with_reducible rfl))); (focus assumption)) | (apply tkF 24 33554431 hg; (focus rfl); (focus rfl); (focus kernel_rfl); (focus assumption)))
 try simp only [zP, zA, zZ, zS]
 (first | (apply tkT 25 67108863 hg; (focus rfl); (focus rfl); (focus kernel_rfl); (focus (intro w0 hSw; (try dsimp only at hSw); go_simp; try (with_reducible rfl))); (focus assumption)) | (apply tkF 25 67108863 hg; (focus rfl); (focus rfl); (focus kernel_rfl); (focus assumption)))
 try simp only [zP, zA, zZ, zS]
 (apply tkT 26 134217727 hg; (focus rfl); (focus rfl); (focus kernel_rfl); (focus (intro w0 hSw; (try dsimp only at hSw); go_simp; try (with_reducible rfl))); (focus assumption))
 try simp only [zP, zA, zZ, zS]
 refine actE hg (by kernel_rfl) ?_
 have C := D0.out
 replace BB := Lib.hid (BB.out.trans (C.mono BB.out.size))
 replace Hdk := Lib.hid (Hdk.out.step C)
 replace HR := Lib.hid (HR.out.step C)
 clear C D0 S0
 go_wp2_with fail
 go_ret
 refine ⟨false, rfl, ?_, fun h => by cases h⟩
 try have BB1 := BB.out
 repeat' (first | assumption | exact Below.refl _ _ | with_reducible refine Below.alloc ?_ ?_ _ | with_reducible refine Below.setRow_ ?_ ?_ _ | exact BB.out | exact BB.out.size | omega | (simp; done) | (simp; omega) | (have := BB.out.size; simp; omega))
set_option maxRecDepth 100000 in
set_option maxHeartbeats 8000000 in
theorem Right_1 (A : Option Addr) (c : Nat) (es : List S54) (m r : Int) (w : World) (hr : R54 w A es) (hc : es.length ≤ c) (hl : es.length ≤ 100) (hn : ∀ x, x ∈ es → x.f7.length ≤ 60) (hs : ∀ i j, (rd_T80 (rd_T54 es i).f7 j).f0.size ≤ 1000000000000000) (z : ¬ es.length = 0) (k1 : m < (es.length : Int)) :
  Calls Tryd.prog 19 #[.agg #[.slice A es.length c, .int .i64 m, .int .i64 r]] w (RtR es w) := by
 have HD0 := Lib.hid (And.intro hc (And.intro hl (And.intro hn hs)))
 have HR := Lib.hid hr
 clear hr hc hl hn hs
 have f0 : ((es.length : Int) == 0) = false := by simpa using z
 have d_k1 : decide (m < (es.length : Int)) = true := decide_eq_true k1
 clear z k1
 go_enter Tryd.func19, Tryd.ntmps19
 go_wp2_with fail
 refine Code.at_ fun v1 hW => ?_
 have B0 : Below w.heap.size w v1 := by rw [hW]; repeat' (first | with_reducible refine Below.alloc ?_ ?_ _ | with_reducible refine Below.setRow_ ?_ ?_ _ | with_reducible refine Below.setCell ?_ ?_ _ | with_reducible refine Below.drew ?_ | with_reducible refine Below.drewN_ ?_ _ | with_reducible exact Below.refl _ _ | assumption | (simp; done) | (simp; omega) | omega)
 have Hdk := Lib.hid (show Box v1 (w.heap.size) #[.slice A es.length c, .int .i64 m, .int .i64 r] from ⟨_, by rw [hW]; (try rw [setRow_alloc, if_pos rfl]); exact blk_new _ (by first | rfl | simp)⟩)
 clear hW
 have C := B0
 have BB := Lib.hid C
 replace HR := Lib.hid (HR.out.step C)
 obtain ⟨bdk, hbdk⟩ : ∃ b, b = w.heap.size := ⟨_, rfl⟩
 rw [← hbdk] at Hdk ⊢
 clear hbdk
 clear C B0
 obtain ⟨idk, rdk, ldk, ndk, mdk⟩ := boxAll Hdk.out
 have D0 : Below v1.heap.size v1 v1.drew := (Below.refl _ _).drew
 have S0 : isRow v1.drew bdk = true ∧ row v1.drew bdk = #[.slice A es.length c, .int .i64 m, .int .i64 r] := ⟨Hdk.out.isRow, Hdk.out.row⟩
 replace D0 := Lib.hid D0
 refine reg0 27 (fun w' => isRow w' bdk = true ∧ row w' bdk = #[.slice A es.length c, .int .i64 m, .int .i64 r]) (by kernel_rfl) (by kernel_rfl) (by kernel_rfl) ?_ (fun l hg hHeld => ?_)
 ·(try dsimp only); exact S0
 (apply tkT 0 1 hg; (focus rfl); (focus rfl); (focus kernel_rfl); (focus (intro w0 hSw; (try dsimp only at hSw); go_simp; try (with_reducible rfl))); (focus assumption))
 try simp only [zP, zA, zZ, zS]
 (apply tkT 1 3 hg; (focus rfl); (focus rfl); (focus kernel_rfl); (focus (intro w0 hSw; (try dsimp only at hSw); go_simp; try (with_reducible rfl))); (focus assumption))
 try simp only [zP, zA, zZ, zS]
 (apply tkT 2 7 hg; (focus rfl); (focus rfl); (focus kernel_rfl); (focus (intro w0 hSw; (try dsimp only at hSw); go_simp; try (with_reducible rfl))); (focus assumption))
 try simp only [zP, zA, zZ, zS]
 (apply tkT 3 15 hg; (focus rfl); (focus rfl); (focus kernel_rfl); (focus (intro w0 hSw; (try dsimp only at hSw); go_simp; try (with_reducible rfl))); (focus assumption))
 try simp only [zP, zA, zZ, zS]
 (apply tkT 4 31 hg; (focus rfl); (focus rfl); (focus kernel_rfl); (focus (intro w0 hSw; (try dsimp only at hSw); go_simp; try (with_reducible rfl))); (focus assumption))
 try simp only [zP, zA, zZ, zS]
 (first | (apply tkT 5 63 hg; (focus rfl); (focus rfl); (focus kernel_rfl); (focus (intro w0 hSw; (try dsimp only at hSw); go_simp; try (with_reducible rfl))); (focus assumption)) | (apply tkF 5 63 hg; (focus rfl); (focus rfl); (focus kernel_rfl); (focus assumption)))
 try simp only [zP, zA, zZ, zS]
 (first | (apply tkT 6 127 hg; (focus rfl); (focus rfl); (focus kernel_rfl); (focus (intro w0 hSw; (try dsimp only at hSw); go_simp; try (with_reducible rfl))); (focus assumption)) | (apply tkF 6 127 hg; (focus rfl); (focus rfl); (focus kernel_rfl); (focus assumption)))
 try simp only [zP, zA, zZ, zS]
 (first | (apply tkT 7 255 hg; (focus rfl); (focus rfl); (focus kernel_rfl); (focus (intro w0 hSw; (try dsimp only at hSw); go_simp; try (with_reducible rfl))); (focus assumption)) | (apply tkF 7 255 hg; (focus rfl); (focus rfl); (focus kernel_rfl); (focus assumption)))
 try simp only [zP, zA, zZ, zS]
 (first | (apply tkT 8 511 hg; (focus rfl); (focus rfl); (focus kernel_rfl); (focus (intro w0 hSw; (try dsimp only at hSw); go_simp; try (with_reducible rfl))); (focus assumption)) | (apply tkF 8 511 hg; (focus rfl); (focus rfl); (focus kernel_rfl); (focus assumption)))
 try simp only [zP, zA, zZ, zS]
 (first | (apply tkT 9 1023 hg; (focus rfl); (focus rfl); (focus kernel_rfl); (focus (intro w0 hSw; (try dsimp only at hSw); go_simp; try (with_reducible rfl))); (focus assumption)) | (apply tkF 9 1023 hg; (focus rfl); (focus rfl); (focus kernel_rfl); (focus assumption)))
 try simp only [zP, zA, zZ, zS]
 (first | (apply tkT 10 2047 hg; (focus rfl); (focus rfl); (focus kernel_rfl); (focus (intro w0 hSw; (try dsimp only at hSw); go_simp; try (with_reducible rfl))); (focus assumption)) | (apply tkF 10 2047 hg; (focus rfl); (focus rfl); (focus kernel_rfl); (focus assumption)))
 try simp only [zP, zA, zZ, zS]
 (apply tkT 11 4095 hg; (focus rfl); (focus rfl); (focus kernel_rfl); (focus (intro w0 hSw; (try dsimp only at hSw); go_simp; try (with_reducible rfl))); (focus assumption))
 try simp only [zP, zA, zZ, zS]
 (apply tkT 12 8191 hg; (focus rfl); (focus rfl); (focus kernel_rfl); (focus (intro w0 hSw; (try dsimp only at hSw); go_simp; try (with_reducible rfl))); (focus assumption))
 try simp only [zP, zA, zZ, zS]
 (first | (apply tkT 13 16383 hg; (focus rfl); (focus rfl); (focus kernel_rfl); (focus (intro w0 hSw; (try dsimp only at hSw); go_simp; try (with_reducible rfl))); (focus assumption)) | (apply tkF 13 16383 hg; (focus rfl); (focus rfl); (focus kernel_rfl); (focus assumption)))
 try simp only [zP, zA, zZ, zS]
 (first | (apply tkT 14 32767 hg; (focus rfl); (focus rfl); (focus kernel_rfl); (focus (intro w0 hSw; (try dsimp only at hSw); go_simp; try (with_reducible rfl))); (focus assumption)) | (apply tkF 14 32767 hg; (focus rfl); (focus rfl); (focus kernel_rfl); (focus assumption)))
 try simp only [zP, zA, zZ, zS]
 (first | (apply tkT 15 65535 hg; (focus rfl); (focus rfl); (focus kernel_rfl); (focus (intro w0 hSw; (try dsimp only at hSw); go_simp; try (with_reducible rfl))); (focus assumption)) | (apply tkF 15 65535 hg; (focus rfl); (focus rfl); (focus kernel_rfl); (focus assumption)))
 try simp only [zP, zA, zZ, zS]
 (first | (apply tkT 16 131071 hg; (focus rfl); (focus rfl); (focus kernel_rfl); (focus (intro w0 hSw; (try dsimp only at hSw); go_simp; try (with_reducible rfl))); (focus assumption)) | (apply tkF 16 131071 hg; (focus rfl); (focus rfl); (focus kernel_rfl); (focus assumption)))
 try simp only [zP, zA, zZ, zS]
 (first | (apply tkT 17 262143 hg; (focus rfl); (focus rfl); (focus kernel_rfl); (focus (intro w0 hSw; (try dsimp only at hSw); go_simp; try (with_reducible rfl))); (focus assumption)) | (apply tkF 17 262143 hg; (focus rfl); (focus rfl); (focus kernel_rfl); (focus assumption)))
 try simp only [zP, zA, zZ, zS]
 (apply tkT 18 524287 hg; (focus rfl); (focus rfl); (focus kernel_rfl); (focus (intro w0 hSw; (try dsimp only at hSw); go_simp; try (with_reducible rfl))); (focus assumption))
 try simp only [zP, zA, zZ, zS]
 (apply tkT 19 1048575 hg; (focus rfl); (focus rfl); (focus kernel_rfl); (focus (intro w0 hSw; (try dsimp only at hSw); go_simp; try (with_reducible rfl))); (focus assumption))
 try simp only [zP, zA, zZ, zS]
 (first | (apply tkT 20 2097151 hg; (focus rfl); (focus rfl); (focus kernel_rfl); (focus (intro w0 hSw; (try dsimp only at hSw); go_simp; try (with_reducible rfl))); (focus assumption)) | (apply tkF 20 2097151 hg; (focus rfl); (focus rfl); (focus kernel_rfl); (focus assumption)))
 try simp only [zP, zA, zZ, zS]
 (first | (apply tkT 21 4194303 hg; (focus rfl); (focus rfl); (focus kernel_rfl); (focus (intro w0 hSw; (try dsimp only at hSw); go_simp; try (with_reducible rfl))); (focus assumption)) | (apply tkF 21 4194303 hg; (focus rfl); (focus rfl); (focus kernel_rfl); (focus assumption)))
 try simp only [zP, zA, zZ, zS]
 (first | (apply tkT 22 8388607 hg; (focus rfl); (focus rfl); (focus kernel_rfl); (focus (intro w0 hSw; (try dsimp only at hSw); go_simp; try (with_reducible rfl))); (focus assumption)) | (apply tkF 22 8388607 hg; (focus rfl); (focus rfl); (focus kernel_rfl); (focus assumption)))
 try simp only [zP, zA, zZ, zS]
 (first | (apply tkT 23 16777215 hg; (focus rfl); (focus rfl); (focus kernel_rfl); (focus (intro w0 hSw; (try dsimp only at hSw); go_simp; try (with_reducible rfl))); (focus assumption)) | (apply tkF 23 16777215 hg; (focus rfl); (focus rfl); (focus kernel_rfl); (focus assumption)))
 try simp only [zP, zA, zZ, zS]
 (first | (apply tkT 24 33554431 hg; (focus rfl); (focus rfl); (focus kernel_rfl); (focus (intro w0 hSw; (try dsimp only at hSw); go_simp; try (with_reducible rfl))); (focus assumption)) | (apply tkF 24 33554431 hg; (focus rfl); (focus rfl); (focus kernel_rfl); (focus assumption)))
 try simp only [zP, zA, zZ, zS]
 (first | (apply tkT 25 67108863 hg; (focus rfl); (focus rfl); (focus kernel_rfl); (focus (intro w0 hSw; (try dsimp only at hSw); go_simp; try (with_reducible rfl))); (focus assumption)) | (apply tkF 25 67108863 hg; (focus rfl); (focus rfl); (focus kernel_rfl); (focus assumption)))
 try simp only [zP, zA, zZ, zS]
 (apply tkT 26 134217727 hg; (focus rfl); (focus rfl); (focus kernel_rfl); (focus (intro w0 hSw; (try dsimp only at hSw); go_simp; try (with_reducible rfl))); (focus assumption))
 try simp only [zP, zA, zZ, zS]
 refine actE hg (by kernel_rfl) ?_
 have C := D0.out
 replace BB := Lib.hid (BB.out.trans (C.mono BB.out.size))
 replace Hdk := Lib.hid (Hdk.out.step C)
 replace HR := Lib.hid (HR.out.step C)
 clear C D0 S0
 go_wp2_with fail
 go_ret
 refine ⟨false, rfl, ?_, fun h => by cases h⟩
 try have BB1 := BB.out
 repeat' (first | assumption | exact Below.refl _ _ | with_reducible refine Below.alloc ?_ ?_ _ | with_reducible refine Below.setRow_ ?_ ?_ _ | exact BB.out | exact BB.out.size | omega | (simp; done) | (simp; omega) | (have := BB.out.size; simp; omega))
set_option maxRecDepth 100000 in
set_option maxHeartbeats 8000000 in
theorem Right_2 (A : Option Addr) (c : Nat) (es : List S54) (m r : Int) (w : World) (hr : R54 w A es) (hc : es.length ≤ c) (hl : es.length ≤ 100) (hn : ∀ x, x ∈ es → x.f7.length ≤ 60) (hs : ∀ i j, (rd_T80 (rd_T54 es i).f7 j).f0.size ≤ 1000000000000000) (z : ¬ es.length = 0) (k1 : ¬ m < (es.length : Int)) :
  Calls Tryd.prog 19 #[.agg #[.slice A es.length c, .int .i64 m, .int .i64 r]] w (RtR es w) := by
 have HD0 := Lib.hid (And.intro hc (And.intro hl (And.intro hn hs)))
 have HR := Lib.hid hr
 clear hr hc hl hn hs
 have f0 : ((es.length : Int) == 0) = false := by simpa using z
 have d_k1 : decide (m < (es.length : Int)) = false := decide_eq_false k1
 have HZ := Lib.hid z
 clear z k1
 obtain ⟨by_, hby⟩ := bytes_f m r es HD0.out.2.1
 have HBY := Lib.hid hby
 clear hby
 obtain ⟨ad, A7, c7, eA, -⟩ := at_T54 HR.out 0 (Int.le_refl _) (by have := HZ.out; omega)
 cases eA
 clear A7 c7
 go_enter Tryd.func19, Tryd.ntmps19
 go_wp2_with fail
 refine Code.at_ fun v1 hW => ?_
 have B0 : Below w.heap.size w v1 := by rw [hW]; repeat' (first | with_reducible refine Below.alloc ?_ ?_ _ | with_reducible refine Below.setRow_ ?_ ?_ _ | with_reducible refine Below.setCell ?_ ?_ _ | with_reducible refine Below.drew ?_ | with_reducible refine Below.drewN_ ?_ _ | with_reducible exact Below.refl _ _ | assumption | (simp; done) | (simp; omega) | omega)
 have Hdk := Lib.hid (show Box v1 (w.heap.size) #[.slice (some ad) es.length c, .int .i64 m, .int .i64 r] from ⟨_, by rw [hW]; (try rw [setRow_alloc, if_pos rfl]); exact blk_new _ (by first | rfl | simp)⟩)
 clear hW
 have C := B0
 have BB := Lib.hid C
 replace HR := Lib.hid (HR.out.step C)
 obtain ⟨bdk, hbdk⟩ : ∃ b, b = w.heap.size := ⟨_, rfl⟩
 rw [← hbdk] at Hdk ⊢
 clear hbdk
 clear C B0
 obtain ⟨idk, rdk, ldk, ndk, mdk⟩ := boxAll Hdk.out
 obtain ⟨ad2, A7, c7, e2, x0, -⟩ := at_T54 HR.out 0 (Int.le_refl _) (by have := HZ.out; omega)
 cases e2
 rw [show ad.add (Int.toNat 0 * 8) = ad from rfl] at x0
 generalize hk : (rd_T54 es 0).f0 = kd at x0
 have HK := Lib.hid hk
 clear hk
 have p1 : (0 < (es.length : Int)) = True := eq_true (by have := HZ.out; omega)
 have p1b : (0 < es.length) = True := eq_true (by have := HZ.out; omega)
 have p1c : (es = []) = False := eq_false (fun h => HZ.out (by rw [h]; rfl))
 by_cases kr : r < by_
 ·have d_kr : decide (r < by_) = true := decide_eq_true kr
  clear kr
  have D0 : Below v1.heap.size v1 v1.drew := (Below.refl _ _).drew
  have S0 : (isRow v1.drew bdk = true ∧ row v1.drew bdk = #[.slice (some ad) es.length c, .int .i64 m, .int .i64 r]) ∧ v1.drew.cell? ad = some (.int .i64 kd) := ⟨⟨Hdk.out.isRow, Hdk.out.row⟩, x0⟩
  replace D0 := Lib.hid D0
  refine reg0 27 (fun w' => (isRow w' bdk = true ∧ row w' bdk = #[.slice (some ad) es.length c, .int .i64 m, .int .i64 r]) ∧ w'.cell? ad = some (.int .i64 kd)) (by kernel_rfl) (by kernel_rfl) (by kernel_rfl) ?_ (fun l hg hHeld => ?_)
  ·(try dsimp only); exact S0
  (apply tkT 0 1 hg; (focus rfl); (focus rfl); (focus kernel_rfl); (focus (intro w0 hSw; (try dsimp only at hSw); go_simp; try (with_reducible rfl))); (focus assumption))
  try simp only [zP, zA, zZ, zS]
  (apply tkT 1 3 hg; (focus rfl); (focus rfl); (focus kernel_rfl); (focus (intro w0 hSw; (try dsimp only at hSw); go_simp; try (with_reducible rfl))); (focus assumption))
  try simp only [zP, zA, zZ, zS]
  (apply tkT 2 7 hg; (focus rfl); (focus rfl); (focus kernel_rfl); (focus (intro w0 hSw; (try dsimp only at hSw); go_simp; try (with_reducible rfl))); (focus assumption))
  try simp only [zP, zA, zZ, zS]
  (apply tkT 3 15 hg; (focus rfl); (focus rfl); (focus kernel_rfl); (focus (intro w0 hSw; (try dsimp only at hSw); go_simp; try (with_reducible rfl))); (focus assumption))
  try simp only [zP, zA, zZ, zS]
  (apply tkT 4 31 hg; (focus rfl); (focus rfl); (focus kernel_rfl); (focus (intro w0 hSw; (try dsimp only at hSw); go_simp; try (with_reducible rfl))); (focus assumption))
  try simp only [zP, zA, zZ, zS]
  (first | (apply tkT 5 63 hg; (focus rfl); (focus rfl); (focus kernel_rfl); (focus (intro w0 hSw; (try dsimp only at hSw); go_simp; try (with_reducible rfl))); (focus assumption)) | (apply tkF 5 63 hg; (focus rfl); (focus rfl); (focus kernel_rfl); (focus assumption)))
  try simp only [zP, zA, zZ, zS]
  (first | (apply tkT 6 127 hg; (focus rfl); (focus rfl); (focus kernel_rfl); (focus (intro w0 hSw; (try dsimp only at hSw); go_simp; try (with_reducible rfl))); (focus assumption)) | (apply tkF 6 127 hg; (focus rfl); (focus rfl); (focus kernel_rfl); (focus assumption)))
  try simp only [zP, zA, zZ, zS]
  (first | (apply tkT 7 255 hg; (focus rfl); (focus rfl); (focus kernel_rfl); (focus (intro w0 hSw; (try dsimp only at hSw); go_simp; try (with_reducible rfl))); (focus assumption)) | (apply tkF 7 255 hg; (focus rfl); (focus rfl); (focus kernel_rfl); (focus assumption)))
  try simp only [zP, zA, zZ, zS]
  (first | (apply tkT 8 511 hg; (focus rfl); (focus rfl); (focus kernel_rfl); (focus (intro w0 hSw; (try dsimp only at hSw); go_simp; try (with_reducible rfl))); (focus assumption)) | (apply tkF 8 511 hg; (focus rfl); (focus rfl); (focus kernel_rfl); (focus assumption)))
  try simp only [zP, zA, zZ, zS]
  (first | (apply tkT 9 1023 hg; (focus rfl); (focus rfl); (focus kernel_rfl); (focus (intro w0 hSw; (try dsimp only at hSw); go_simp; try (with_reducible rfl))); (focus assumption)) | (apply tkF 9 1023 hg; (focus rfl); (focus rfl); (focus kernel_rfl); (focus assumption)))
  try simp only [zP, zA, zZ, zS]
  (first | (apply tkT 10 2047 hg; (focus rfl); (focus rfl); (focus kernel_rfl); (focus (intro w0 hSw; (try dsimp only at hSw); go_simp; try (with_reducible rfl))); (focus assumption)) | (apply tkF 10 2047 hg; (focus rfl); (focus rfl); (focus kernel_rfl); (focus assumption)))
  try simp only [zP, zA, zZ, zS]
  (apply tkT 11 4095 hg; (focus rfl); (focus rfl); (focus kernel_rfl); (focus (intro w0 hSw; (try dsimp only at hSw); go_simp; try (with_reducible rfl))); (focus assumption))
  try simp only [zP, zA, zZ, zS]
  (apply tkT 12 8191 hg; (focus rfl); (focus rfl); (focus kernel_rfl); (focus (intro w0 hSw; (try dsimp only at hSw); go_simp; try (with_reducible rfl))); (focus assumption))
  try simp only [zP, zA, zZ, zS]
  (first | (apply tkT 13 16383 hg; (focus rfl); (focus rfl); (focus kernel_rfl); (focus (intro w0 hSw; (try dsimp only at hSw); go_simp; try (with_reducible rfl))); (focus assumption)) | (apply tkF 13 16383 hg; (focus rfl); (focus rfl); (focus kernel_rfl); (focus assumption)))
  try simp only [zP, zA, zZ, zS]
  (first | (apply tkT 15 49151 hg; (focus rfl); (focus rfl); (focus kernel_rfl); (focus (intro w0 hSw; (try dsimp only at hSw); go_simp; try (with_reducible rfl))); (focus assumption)) | (apply tkF 15 49151 hg; (focus rfl); (focus rfl); (focus kernel_rfl); (focus assumption)))
  try simp only [zP, zA, zZ, zS]
  (first | (apply tkT 16 114687 hg; (focus rfl); (focus rfl); (focus kernel_rfl); (focus (intro w0 hSw; (try dsimp only at hSw); go_simp; try (with_reducible rfl))); (focus assumption)) | (apply tkF 16 114687 hg; (focus rfl); (focus rfl); (focus kernel_rfl); (focus assumption)))
  try simp only [zP, zA, zZ, zS]
  (apply act1 14 131071 hg; (focus rfl); (focus rfl); (focus kernel_rfl))
  intro K hK
  go_simp
  refine (flagstoneref06_Bytes.calls 1000 (some ad) c es m r by_ _ (HR.out.step D0.out) HD0.out.1 HBY.out).mono ?_
  rintro e u2_1 h
  obtain ⟨rfl, hb⟩ := h
  have h := hb
  replace D0 := Lib.hid (D0.out.trans (hb.mono D0.out.size))
  replace S0 := keepC hb S0
  clear hb h
  refine hK.out _ _ ?_ (fun hHeld => ?_)
  ·(try dsimp only); exact S0
  clear hK K
  try simp only [zP, zA, zZ, zS]
  (first | (apply tkT 17 262143 hg; (focus rfl); (focus rfl); (focus kernel_rfl); (focus (intro w0 hSw; (try dsimp only at hSw); go_simp; try (with_reducible rfl))); (focus assumption)) | (apply tkF 17 262143 hg; (focus rfl); (focus rfl); (focus kernel_rfl); (focus assumption)))
  try simp only [zP, zA, zZ, zS]
  (apply tkT 18 524287 hg; (focus rfl); (focus rfl); (focus kernel_rfl); (focus (intro w0 hSw; (try dsimp only at hSw); go_simp; try (with_reducible rfl))); (focus assumption))
  try simp only [zP, zA, zZ, zS]
  (apply tkT 19 1048575 hg; (focus rfl); (focus rfl); (focus kernel_rfl); (focus (intro w0 hSw; (try dsimp only at hSw); go_simp; try (with_reducible rfl))); (focus assumption))
  try simp only [zP, zA, zZ, zS]
  (first | (apply tkT 20 2097151 hg; (focus rfl); (focus rfl); (focus kernel_rfl); (focus (intro w0 hSw; (try dsimp only at hSw); go_simp; try (with_reducible rfl))); (focus assumption)) | (apply tkF 20 2097151 hg; (focus rfl); (focus rfl); (focus kernel_rfl); (focus assumption)))
  try simp only [zP, zA, zZ, zS]
  (first | (apply tkT 21 4194303 hg; (focus rfl); (focus rfl); (focus kernel_rfl); (focus (intro w0 hSw; (try dsimp only at hSw); go_simp; try (with_reducible rfl))); (focus assumption)) | (apply tkF 21 4194303 hg; (focus rfl); (focus rfl); (focus kernel_rfl); (focus assumption)))
  try simp only [zP, zA, zZ, zS]
  (first | (apply tkT 22 8388607 hg; (focus rfl); (focus rfl); (focus kernel_rfl); (focus (intro w0 hSw; (try dsimp only at hSw); go_simp; try (with_reducible rfl))); (focus assumption)) | (apply tkF 22 8388607 hg; (focus rfl); (focus rfl); (focus kernel_rfl); (focus assumption)))
  try simp only [zP, zA, zZ, zS]
  (first | (apply tkT 23 16777215 hg; (focus rfl); (focus rfl); (focus kernel_rfl); (focus (intro w0 hSw; (try dsimp only at hSw); go_simp; try (with_reducible rfl))); (focus assumption)) | (apply tkF 23 16777215 hg; (focus rfl); (focus rfl); (focus kernel_rfl); (focus assumption)))
  try simp only [zP, zA, zZ, zS]
  (first | (apply tkT 24 33554431 hg; (focus rfl); (focus rfl); (focus kernel_rfl); (focus (intro w0 hSw; (try dsimp only at hSw); go_simp; try (with_reducible rfl))); (focus assumption)) | (apply tkF 24 33554431 hg; (focus rfl); (focus rfl); (focus kernel_rfl); (focus assumption)))
  try simp only [zP, zA, zZ, zS]
  (first | (apply tkT 25 67108863 hg; (focus rfl); (focus rfl); (focus kernel_rfl); (focus (intro w0 hSw; (try dsimp only at hSw); go_simp; try (with_reducible rfl))); (focus assumption)) | (apply tkF 25 67108863 hg; (focus rfl); (focus rfl); (focus kernel_rfl); (focus assumption)))
  try simp only [zP, zA, zZ, zS]
  (apply tkT 26 134217727 hg; (focus rfl); (focus rfl); (focus kernel_rfl); (focus (intro w0 hSw; (try dsimp only at hSw); go_simp; try (with_reducible rfl))); (focus assumption))
  try simp only [zP, zA, zZ, zS]
  refine actE hg (by kernel_rfl) ?_
  have C := D0.out
  replace BB := Lib.hid (BB.out.trans (C.mono BB.out.size))
  replace Hdk := Lib.hid (Hdk.out.step C)
  replace HR := Lib.hid (HR.out.step C)
  clear C D0 S0
  try clear idk rdk ldk ndk mdk
  obtain ⟨idk, rdk, ldk, ndk, mdk⟩ := boxAll Hdk.out
  go_wp2_with fail
  go_ret
  refine ⟨false, rfl, ?_, fun h => by cases h⟩
  try have BB1 := BB.out
  repeat' (first | assumption | exact Below.refl _ _ | with_reducible refine Below.alloc ?_ ?_ _ | with_reducible refine Below.setRow_ ?_ ?_ _ | exact BB.out | exact BB.out.size | omega | (simp; done) | (simp; omega) | (have := BB.out.size; simp; omega))
 ·have d_kr : decide (r < by_) = false := decide_eq_false kr
  clear kr
  by_cases kk : kd = 2
  ·have kb : (kd == 2) = true := by simpa using kk
   have kn : (kd != 2) = false := by simpa using kk
   have HKK := Lib.hid kk
   clear kk
   have D0 : Below v1.heap.size v1 v1.drew := (Below.refl _ _).drew
   have S0 : (isRow v1.drew bdk = true ∧ row v1.drew bdk = #[.slice (some ad) es.length c, .int .i64 m, .int .i64 r]) ∧ v1.drew.cell? ad = some (.int .i64 kd) := ⟨⟨Hdk.out.isRow, Hdk.out.row⟩, x0⟩
   replace D0 := Lib.hid D0
   refine reg0 27 (fun w' => (isRow w' bdk = true ∧ row w' bdk = #[.slice (some ad) es.length c, .int .i64 m, .int .i64 r]) ∧ w'.cell? ad = some (.int .i64 kd)) (by kernel_rfl) (by kernel_rfl) (by kernel_rfl) ?_ (fun l hg hHeld => ?_)
   ·(try dsimp only); exact S0
   (apply tkT 0 1 hg; (focus rfl); (focus rfl); (focus kernel_rfl); (focus (intro w0 hSw; (try dsimp only at hSw); go_simp; try (with_reducible rfl))); (focus assumption))
   try simp only [zP, zA, zZ, zS]
   (apply tkT 1 3 hg; (focus rfl); (focus rfl); (focus kernel_rfl); (focus (intro w0 hSw; (try dsimp only at hSw); go_simp; try (with_reducible rfl))); (focus assumption))
   try simp only [zP, zA, zZ, zS]
   (apply tkT 2 7 hg; (focus rfl); (focus rfl); (focus kernel_rfl); (focus (intro w0 hSw; (try dsimp only at hSw); go_simp; try (with_reducible rfl))); (focus assumption))
   try simp only [zP, zA, zZ, zS]
   (apply tkT 3 15 hg; (focus rfl); (focus rfl); (focus kernel_rfl); (focus (intro w0 hSw; (try dsimp only at hSw); go_simp; try (with_reducible rfl))); (focus assumption))
   try simp only [zP, zA, zZ, zS]
   (apply tkT 4 31 hg; (focus rfl); (focus rfl); (focus kernel_rfl); (focus (intro w0 hSw; (try dsimp only at hSw); go_simp; try (with_reducible rfl))); (focus assumption))
   try simp only [zP, zA, zZ, zS]
   (first | (apply tkT 5 63 hg; (focus rfl); (focus rfl); (focus kernel_rfl); (focus (intro w0 hSw; (try dsimp only at hSw); go_simp; try (with_reducible rfl))); (focus assumption)) | (apply tkF 5 63 hg; (focus rfl); (focus rfl); (focus kernel_rfl); (focus assumption)))
   try simp only [zP, zA, zZ, zS]
   (first | (apply tkT 6 127 hg; (focus rfl); (focus rfl); (focus kernel_rfl); (focus (intro w0 hSw; (try dsimp only at hSw); go_simp; try (with_reducible rfl))); (focus assumption)) | (apply tkF 6 127 hg; (focus rfl); (focus rfl); (focus kernel_rfl); (focus assumption)))
   try simp only [zP, zA, zZ, zS]
   (first | (apply tkT 7 255 hg; (focus rfl); (focus rfl); (focus kernel_rfl); (focus (intro w0 hSw; (try dsimp only at hSw); go_simp; try (with_reducible rfl))); (focus assumption)) | (apply tkF 7 255 hg; (focus rfl); (focus rfl); (focus kernel_rfl); (focus assumption)))
   try simp only [zP, zA, zZ, zS]
   (first | (apply tkT 8 511 hg; (focus rfl); (focus rfl); (focus kernel_rfl); (focus (intro w0 hSw; (try dsimp only at hSw); go_simp; try (with_reducible rfl))); (focus assumption)) | (apply tkF 8 511 hg; (focus rfl); (focus rfl); (focus kernel_rfl); (focus assumption)))
   try simp only [zP, zA, zZ, zS]
   (first | (apply tkT 9 1023 hg; (focus rfl); (focus rfl); (focus kernel_rfl); (focus (intro w0 hSw; (try dsimp only at hSw); go_simp; try (with_reducible rfl))); (focus assumption)) | (apply tkF 9 1023 hg; (focus rfl); (focus rfl); (focus kernel_rfl); (focus assumption)))
   try simp only [zP, zA, zZ, zS]
   (first | (apply tkT 10 2047 hg; (focus rfl); (focus rfl); (focus kernel_rfl); (focus (intro w0 hSw; (try dsimp only at hSw); go_simp; try (with_reducible rfl))); (focus assumption)) | (apply tkF 10 2047 hg; (focus rfl); (focus rfl); (focus kernel_rfl); (focus assumption)))
   try simp only [zP, zA, zZ, zS]
   (apply tkT 11 4095 hg; (focus rfl); (focus rfl); (focus kernel_rfl); (focus (intro w0 hSw; (try dsimp only at hSw); go_simp; try (with_reducible rfl))); (focus assumption))
   try simp only [zP, zA, zZ, zS]
   (apply tkT 12 8191 hg; (focus rfl); (focus rfl); (focus kernel_rfl); (focus (intro w0 hSw; (try dsimp only at hSw); go_simp; try (with_reducible rfl))); (focus assumption))
   try simp only [zP, zA, zZ, zS]
   (first | (apply tkT 13 16383 hg; (focus rfl); (focus rfl); (focus kernel_rfl); (focus (intro w0 hSw; (try dsimp only at hSw); go_simp; try (with_reducible rfl))); (focus assumption)) | (apply tkF 13 16383 hg; (focus rfl); (focus rfl); (focus kernel_rfl); (focus assumption)))
   try simp only [zP, zA, zZ, zS]
   (first | (apply tkT 15 49151 hg; (focus rfl); (focus rfl); (focus kernel_rfl); (focus (intro w0 hSw; (try dsimp only at hSw); go_simp; try (with_reducible rfl))); (focus assumption)) | (apply tkF 15 49151 hg; (focus rfl); (focus rfl); (focus kernel_rfl); (focus assumption)))
   try simp only [zP, zA, zZ, zS]
   (first | (apply tkT 16 114687 hg; (focus rfl); (focus rfl); (focus kernel_rfl); (focus (intro w0 hSw; (try dsimp only at hSw); go_simp; try (with_reducible rfl))); (focus assumption)) | (apply tkF 16 114687 hg; (focus rfl); (focus rfl); (focus kernel_rfl); (focus assumption)))
   try simp only [zP, zA, zZ, zS]
   (apply act1 14 131071 hg; (focus rfl); (focus rfl); (focus kernel_rfl))
   intro K hK
   go_simp
   refine (flagstoneref06_Bytes.calls 1000 (some ad) c es m r by_ _ (HR.out.step D0.out) HD0.out.1 HBY.out).mono ?_
   rintro e u2_1 h
   obtain ⟨rfl, hb⟩ := h
   have h := hb
   replace D0 := Lib.hid (D0.out.trans (hb.mono D0.out.size))
   replace S0 := keepC hb S0
   clear hb h
   refine hK.out _ _ ?_ (fun hHeld => ?_)
   ·(try dsimp only); exact S0
   clear hK K
   try simp only [zP, zA, zZ, zS]
   (first | (apply tkT 17 262143 hg; (focus rfl); (focus rfl); (focus kernel_rfl); (focus (intro w0 hSw; (try dsimp only at hSw); go_simp; try (with_reducible rfl))); (focus assumption)) | (apply tkF 17 262143 hg; (focus rfl); (focus rfl); (focus kernel_rfl); (focus assumption)))
   try simp only [zP, zA, zZ, zS]
   (apply tkT 18 524287 hg; (focus rfl); (focus rfl); (focus kernel_rfl); (focus (intro w0 hSw; (try dsimp only at hSw); go_simp; try (with_reducible rfl))); (focus assumption))
   try simp only [zP, zA, zZ, zS]
   (apply tkT 19 1048575 hg; (focus rfl); (focus rfl); (focus kernel_rfl); (focus (intro w0 hSw; (try dsimp only at hSw); go_simp; try (with_reducible rfl))); (focus assumption))
   try simp only [zP, zA, zZ, zS]
   (first | (apply tkT 20 2097151 hg; (focus rfl); (focus rfl); (focus kernel_rfl); (focus (intro w0 hSw; (try dsimp only at hSw); go_simp; try (with_reducible rfl))); (focus assumption)) | (apply tkF 20 2097151 hg; (focus rfl); (focus rfl); (focus kernel_rfl); (focus assumption)))
   try simp only [zP, zA, zZ, zS]
   (first | (apply tkT 21 4194303 hg; (focus rfl); (focus rfl); (focus kernel_rfl); (focus (intro w0 hSw; (try dsimp only at hSw); go_simp; try (with_reducible rfl))); (focus assumption)) | (apply tkF 21 4194303 hg; (focus rfl); (focus rfl); (focus kernel_rfl); (focus assumption)))
   try simp only [zP, zA, zZ, zS]
   (first | (apply tkT 22 8388607 hg; (focus rfl); (focus rfl); (focus kernel_rfl); (focus (intro w0 hSw; (try dsimp only at hSw); go_simp; try (with_reducible rfl))); (focus assumption)) | (apply tkF 22 8388607 hg; (focus rfl); (focus rfl); (focus kernel_rfl); (focus assumption)))
   try simp only [zP, zA, zZ, zS]
   (first | (apply tkT 23 16777215 hg; (focus rfl); (focus rfl); (focus kernel_rfl); (focus (intro w0 hSw; (try dsimp only at hSw); go_simp; try (with_reducible rfl))); (focus assumption)) | (apply tkF 23 16777215 hg; (focus rfl); (focus rfl); (focus kernel_rfl); (focus assumption)))
   try simp only [zP, zA, zZ, zS]
   (first | (apply tkT 24 33554431 hg; (focus rfl); (focus rfl); (focus kernel_rfl); (focus (intro w0 hSw; (try dsimp only at hSw); go_simp; try (with_reducible rfl))); (focus assumption)) | (apply tkF 24 33554431 hg; (focus rfl); (focus rfl); (focus kernel_rfl); (focus assumption)))
   try simp only [zP, zA, zZ, zS]
   (first | (apply tkT 25 67108863 hg; (focus rfl); (focus rfl); (focus kernel_rfl); (focus (intro w0 hSw; (try dsimp only at hSw); go_simp; try (with_reducible rfl))); (focus assumption)) | (apply tkF 25 67108863 hg; (focus rfl); (focus rfl); (focus kernel_rfl); (focus assumption)))
   try simp only [zP, zA, zZ, zS]
   (apply tkT 26 134217727 hg; (focus rfl); (focus rfl); (focus kernel_rfl); (focus (intro w0 hSw; (try dsimp only at hSw); go_simp; try (with_reducible rfl))); (focus assumption))
   try simp only [zP, zA, zZ, zS]
   refine actE hg (by kernel_rfl) ?_
   have C := D0.out
   replace BB := Lib.hid (BB.out.trans (C.mono BB.out.size))
   replace Hdk := Lib.hid (Hdk.out.step C)
   replace HR := Lib.hid (HR.out.step C)
   clear C D0 S0
   try clear idk rdk ldk ndk mdk
   obtain ⟨idk, rdk, ldk, ndk, mdk⟩ := boxAll Hdk.out
   try clear x0
   go_wp2_with fail
   have HR0 := HR
   go_loopw [3] (fun i_ wr => ∃ x : Int, i_ = .int .i64 x ∧ 0 ≤ x ∧ x ≤ es.length ∧ Okto es x ∧ Below u2_1.heap.size u2_1 wr ∧ Box wr bdk #[.slice (some ad) es.length c, .int .i64 m, .int .i64 r]) (fun i_ _ => es.length - (intOf i_).toNat)
   case atStart => exact ⟨0, rfl, Int.le_refl _, by omega, fun j h1 h2 => by omega, Below.refl _ _, Hdk.out⟩
   case round =>
    obtain ⟨x, rfl, h0, h1, hin, hB, hbd⟩ := hrel
    clear idk rdk ldk ndk mdk
    replace BB := Lib.hid (BB.out.trans (hB.mono BB.out.size))
    have HX := Lib.hid (And.intro h0 (And.intro h1 (And.intro hin hB)))
    replace Hdk := Lib.hid hbd
    replace HR := Lib.hid (HR0.out.step hB)
    clear h0 h1 hin hB hbd
    obtain ⟨idk, rdk, ldk, ndk, mdk⟩ := boxAll Hdk.out
    by_cases hlt : x < (es.length : Int)
    ·have d1 : decide (x < (es.length : Int)) = true := decide_eq_true hlt
     have HLT := Lib.hid hlt
     have q2 : IntKind.i64.wrap (x + 1) = x + 1 := by have := HX.out.1; have := HX.out.2.1; have := HD0.out.2.1; rw [IntKind.wrap_i64] <;> omega
     have q1 : wrap64 (x + 1) = x + 1 := wrap_succ HX.out.1 (by have := HX.out.2.1; have := HD0.out.2.1; omega)
     clear hlt
     go_wp2_with fail
     refine Calls.at_ fun W hW => ?_
     have B0 : Below wr.heap.size wr W := by rw [hW]; repeat' (first | with_reducible refine Below.alloc ?_ ?_ _ | with_reducible refine Below.setRow_ ?_ ?_ _ | with_reducible refine Below.setCell ?_ ?_ _ | with_reducible refine Below.drew ?_ | with_reducible refine Below.drewN_ ?_ _ | with_reducible exact Below.refl _ _ | assumption | (simp; done) | (simp; omega) | omega)
     clear hW
     refine (right_calls (some ad) c es m r x W (rd_T54 es x) rfl (HR.out.step B0) HD0.out.1 HD0.out.2.1 HD0.out.2.2.1 (HD0.out.2.2.2 x) ⟨HX.out.1, HLT.out⟩).mono ?_
     rintro e w3 h
     have h' := h
     obtain ⟨rb, rfl, hb, hno⟩ := h'
     have HNO := Lib.hid hno
     have C := B0.trans (hb.mono B0.size)
     have CC := Lib.hid C
     replace BB := Lib.hid (BB.out.trans (C.mono BB.out.size))
     replace HR := Lib.hid (HR.out.step C)
     try clear idk rdk ldk ndk mdk
     replace Hdk := Lib.hid (Hdk.out.step C)
     obtain ⟨idk, rdk, ldk, ndk, mdk⟩ := boxAll Hdk.out
     clear h hb C B0 W hno
     cases rb with
     | false =>
      go_wp2_with fail
      go_ret
      refine ⟨false, rfl, ?_, fun h => by cases h⟩
      try have BB1 := BB.out
      repeat' (first | assumption | exact Below.refl _ _ | with_reducible refine Below.alloc ?_ ?_ _ | with_reducible refine Below.setRow_ ?_ ?_ _ | exact BB.out | exact BB.out.size | omega | (simp; done) | (simp; omega) | (have := BB.out.size; simp; omega))
     | true =>
      go_wp2_with fail
      go_roundw
      case rel => exact ⟨x + 1, by first | rfl | rw [q2], by have := HX.out.1; omega, by have := HLT.out; omega, fun j j0 j1 => (by
        by_cases hj : j < x
        ·exact HX.out.2.2.1 j j0 hj
        ·have : j = x := by omega
         subst this; exact HNO.out (by simp)), HX.out.2.2.2.trans (CC.out.mono HX.out.2.2.2.size), Hdk.out⟩
      case measure => simp [intOf, q1, q2]; have := HX.out.1; have := HLT.out; omega
    ·have d1 : decide (x < (es.length : Int)) = false := decide_eq_false hlt
     have HGE := Lib.hid hlt
     clear hlt
     go_wp2_with fail
     go_ret
     refine ⟨true, rfl, ?_, fun _ => ⟨by have := HZ.out; omega, by rw [HK.out, HKK.out], fun j j0 j1 => HX.out.2.2.1 j j0 (by have := HGE.out; omega)⟩⟩
     try have BB1 := BB.out
     repeat' (first | assumption | exact Below.refl _ _ | with_reducible refine Below.alloc ?_ ?_ _ | with_reducible refine Below.setRow_ ?_ ?_ _ | exact BB.out | exact BB.out.size | omega | (simp; done) | (simp; omega) | (have := BB.out.size; simp; omega))
  ·have kb : (kd == 2) = false := by simpa using kk
   have kn : (kd != 2) = true := by simpa using kk
   clear kk
   have D0 : Below v1.heap.size v1 v1.drew := (Below.refl _ _).drew
   have S0 : (isRow v1.drew bdk = true ∧ row v1.drew bdk = #[.slice (some ad) es.length c, .int .i64 m, .int .i64 r]) ∧ v1.drew.cell? ad = some (.int .i64 kd) := ⟨⟨Hdk.out.isRow, Hdk.out.row⟩, x0⟩
   replace D0 := Lib.hid D0
   refine reg0 27 (fun w' => (isRow w' bdk = true ∧ row w' bdk = #[.slice (some ad) es.length c, .int .i64 m, .int .i64 r]) ∧ w'.cell? ad = some (.int .i64 kd)) (by kernel_rfl) (by kernel_rfl) (by kernel_rfl) ?_ (fun l hg hHeld => ?_)
   ·(try dsimp only); exact S0
   (apply tkT 0 1 hg; (focus rfl); (focus rfl); (focus kernel_rfl); (focus (intro w0 hSw; (try dsimp only at hSw); go_simp; try (with_reducible rfl))); (focus assumption))
   try simp only [zP, zA, zZ, zS]
   (apply tkT 1 3 hg; (focus rfl); (focus rfl); (focus kernel_rfl); (focus (intro w0 hSw; (try dsimp only at hSw); go_simp; try (with_reducible rfl))); (focus assumption))
   try simp only [zP, zA, zZ, zS]
   (apply tkT 2 7 hg; (focus rfl); (focus rfl); (focus kernel_rfl); (focus (intro w0 hSw; (try dsimp only at hSw); go_simp; try (with_reducible rfl))); (focus assumption))
   try simp only [zP, zA, zZ, zS]
   (apply tkT 3 15 hg; (focus rfl); (focus rfl); (focus kernel_rfl); (focus (intro w0 hSw; (try dsimp only at hSw); go_simp; try (with_reducible rfl))); (focus assumption))
   try simp only [zP, zA, zZ, zS]
   (apply tkT 4 31 hg; (focus rfl); (focus rfl); (focus kernel_rfl); (focus (intro w0 hSw; (try dsimp only at hSw); go_simp; try (with_reducible rfl))); (focus assumption))
   try simp only [zP, zA, zZ, zS]
   (first | (apply tkT 5 63 hg; (focus rfl); (focus rfl); (focus kernel_rfl); (focus (intro w0 hSw; (try dsimp only at hSw); go_simp; try (with_reducible rfl))); (focus assumption)) | (apply tkF 5 63 hg; (focus rfl); (focus rfl); (focus kernel_rfl); (focus assumption)))
   try simp only [zP, zA, zZ, zS]
   (first | (apply tkT 6 127 hg; (focus rfl); (focus rfl); (focus kernel_rfl); (focus (intro w0 hSw; (try dsimp only at hSw); go_simp; try (with_reducible rfl))); (focus assumption)) | (apply tkF 6 127 hg; (focus rfl); (focus rfl); (focus kernel_rfl); (focus assumption)))
   try simp only [zP, zA, zZ, zS]
   (first | (apply tkT 7 255 hg; (focus rfl); (focus rfl); (focus kernel_rfl); (focus (intro w0 hSw; (try dsimp only at hSw); go_simp; try (with_reducible rfl))); (focus assumption)) | (apply tkF 7 255 hg; (focus rfl); (focus rfl); (focus kernel_rfl); (focus assumption)))
   try simp only [zP, zA, zZ, zS]
   (first | (apply tkT 8 511 hg; (focus rfl); (focus rfl); (focus kernel_rfl); (focus (intro w0 hSw; (try dsimp only at hSw); go_simp; try (with_reducible rfl))); (focus assumption)) | (apply tkF 8 511 hg; (focus rfl); (focus rfl); (focus kernel_rfl); (focus assumption)))
   try simp only [zP, zA, zZ, zS]
   (first | (apply tkT 9 1023 hg; (focus rfl); (focus rfl); (focus kernel_rfl); (focus (intro w0 hSw; (try dsimp only at hSw); go_simp; try (with_reducible rfl))); (focus assumption)) | (apply tkF 9 1023 hg; (focus rfl); (focus rfl); (focus kernel_rfl); (focus assumption)))
   try simp only [zP, zA, zZ, zS]
   (first | (apply tkT 10 2047 hg; (focus rfl); (focus rfl); (focus kernel_rfl); (focus (intro w0 hSw; (try dsimp only at hSw); go_simp; try (with_reducible rfl))); (focus assumption)) | (apply tkF 10 2047 hg; (focus rfl); (focus rfl); (focus kernel_rfl); (focus assumption)))
   try simp only [zP, zA, zZ, zS]
   (apply tkT 11 4095 hg; (focus rfl); (focus rfl); (focus kernel_rfl); (focus (intro w0 hSw; (try dsimp only at hSw); go_simp; try (with_reducible rfl))); (focus assumption))
   try simp only [zP, zA, zZ, zS]
   (apply tkT 12 8191 hg; (focus rfl); (focus rfl); (focus kernel_rfl); (focus (intro w0 hSw; (try dsimp only at hSw); go_simp; try (with_reducible rfl))); (focus assumption))
   try simp only [zP, zA, zZ, zS]
   (first | (apply tkT 13 16383 hg; (focus rfl); (focus rfl); (focus kernel_rfl); (focus (intro w0 hSw; (try dsimp only at hSw); go_simp; try (with_reducible rfl))); (focus assumption)) | (apply tkF 13 16383 hg; (focus rfl); (focus rfl); (focus kernel_rfl); (focus assumption)))
   try simp only [zP, zA, zZ, zS]
   (first | (apply tkT 15 49151 hg; (focus rfl); (focus rfl); (focus kernel_rfl); (focus (intro w0 hSw; (try dsimp only at hSw); go_simp; try (with_reducible rfl))); (focus assumption)) | (apply tkF 15 49151 hg; (focus rfl); (focus rfl); (focus kernel_rfl); (focus assumption)))
   try simp only [zP, zA, zZ, zS]
   (first | (apply tkT 16 114687 hg; (focus rfl); (focus rfl); (focus kernel_rfl); (focus (intro w0 hSw; (try dsimp only at hSw); go_simp; try (with_reducible rfl))); (focus assumption)) | (apply tkF 16 114687 hg; (focus rfl); (focus rfl); (focus kernel_rfl); (focus assumption)))
   try simp only [zP, zA, zZ, zS]
   (apply act1 14 131071 hg; (focus rfl); (focus rfl); (focus kernel_rfl))
   intro K hK
   go_simp
   refine (flagstoneref06_Bytes.calls 1000 (some ad) c es m r by_ _ (HR.out.step D0.out) HD0.out.1 HBY.out).mono ?_
   rintro e u2_1 h
   obtain ⟨rfl, hb⟩ := h
   have h := hb
   replace D0 := Lib.hid (D0.out.trans (hb.mono D0.out.size))
   replace S0 := keepC hb S0
   clear hb h
   refine hK.out _ _ ?_ (fun hHeld => ?_)
   ·(try dsimp only); exact S0
   clear hK K
   try simp only [zP, zA, zZ, zS]
   (first | (apply tkT 17 262143 hg; (focus rfl); (focus rfl); (focus kernel_rfl); (focus (intro w0 hSw; (try dsimp only at hSw); go_simp; try (with_reducible rfl))); (focus assumption)) | (apply tkF 17 262143 hg; (focus rfl); (focus rfl); (focus kernel_rfl); (focus assumption)))
   try simp only [zP, zA, zZ, zS]
   (apply tkT 18 524287 hg; (focus rfl); (focus rfl); (focus kernel_rfl); (focus (intro w0 hSw; (try dsimp only at hSw); go_simp; try (with_reducible rfl))); (focus assumption))
   try simp only [zP, zA, zZ, zS]
   (apply tkT 19 1048575 hg; (focus rfl); (focus rfl); (focus kernel_rfl); (focus (intro w0 hSw; (try dsimp only at hSw); go_simp; try (with_reducible rfl))); (focus assumption))
   try simp only [zP, zA, zZ, zS]
   (first | (apply tkT 20 2097151 hg; (focus rfl); (focus rfl); (focus kernel_rfl); (focus (intro w0 hSw; (try dsimp only at hSw); go_simp; try (with_reducible rfl))); (focus assumption)) | (apply tkF 20 2097151 hg; (focus rfl); (focus rfl); (focus kernel_rfl); (focus assumption)))
   try simp only [zP, zA, zZ, zS]
   (first | (apply tkT 21 4194303 hg; (focus rfl); (focus rfl); (focus kernel_rfl); (focus (intro w0 hSw; (try dsimp only at hSw); go_simp; try (with_reducible rfl))); (focus assumption)) | (apply tkF 21 4194303 hg; (focus rfl); (focus rfl); (focus kernel_rfl); (focus assumption)))
   try simp only [zP, zA, zZ, zS]
   (first | (apply tkT 22 8388607 hg; (focus rfl); (focus rfl); (focus kernel_rfl); (focus (intro w0 hSw; (try dsimp only at hSw); go_simp; try (with_reducible rfl))); (focus assumption)) | (apply tkF 22 8388607 hg; (focus rfl); (focus rfl); (focus kernel_rfl); (focus assumption)))
   try simp only [zP, zA, zZ, zS]
   (first | (apply tkT 23 16777215 hg; (focus rfl); (focus rfl); (focus kernel_rfl); (focus (intro w0 hSw; (try dsimp only at hSw); go_simp; try (with_reducible rfl))); (focus assumption)) | (apply tkF 23 16777215 hg; (focus rfl); (focus rfl); (focus kernel_rfl); (focus assumption)))
   try simp only [zP, zA, zZ, zS]
   (first | (apply tkT 24 33554431 hg; (focus rfl); (focus rfl); (focus kernel_rfl); (focus (intro w0 hSw; (try dsimp only at hSw); go_simp; try (with_reducible rfl))); (focus assumption)) | (apply tkF 24 33554431 hg; (focus rfl); (focus rfl); (focus kernel_rfl); (focus assumption)))
   try simp only [zP, zA, zZ, zS]
   (first | (apply tkT 25 67108863 hg; (focus rfl); (focus rfl); (focus kernel_rfl); (focus (intro w0 hSw; (try dsimp only at hSw); go_simp; try (with_reducible rfl))); (focus assumption)) | (apply tkF 25 67108863 hg; (focus rfl); (focus rfl); (focus kernel_rfl); (focus assumption)))
   try simp only [zP, zA, zZ, zS]
   (apply tkT 26 134217727 hg; (focus rfl); (focus rfl); (focus kernel_rfl); (focus (intro w0 hSw; (try dsimp only at hSw); go_simp; try (with_reducible rfl))); (focus assumption))
   try simp only [zP, zA, zZ, zS]
   refine actE hg (by kernel_rfl) ?_
   have C := D0.out
   replace BB := Lib.hid (BB.out.trans (C.mono BB.out.size))
   replace Hdk := Lib.hid (Hdk.out.step C)
   replace HR := Lib.hid (HR.out.step C)
   clear C D0 S0
   try clear idk rdk ldk ndk mdk
   obtain ⟨idk, rdk, ldk, ndk, mdk⟩ := boxAll Hdk.out
   go_wp2_with fail
   go_ret
   refine ⟨false, rfl, ?_, fun h => by cases h⟩
   try have BB1 := BB.out
   repeat' (first | assumption | exact Below.refl _ _ | with_reducible refine Below.alloc ?_ ?_ _ | with_reducible refine Below.setRow_ ?_ ?_ _ | exact BB.out | exact BB.out.size | omega | (simp; done) | (simp; omega) | (have := BB.out.size; simp; omega))
theorem Right_calls (A : Option Addr) (c : Nat) (es : List S54) (m r : Int) (w : World) (hr : R54 w A es) (hc : es.length ≤ c) (hl : es.length ≤ 100) (hn : ∀ x, x ∈ es → x.f7.length ≤ 60) (hs : ∀ i j, (rd_T80 (rd_T54 es i).f7 j).f0.size ≤ 1000000000000000) :
  Calls Tryd.prog 19 #[.agg #[.slice A es.length c, .int .i64 m, .int .i64 r]] w (RtR es w) := by
 by_cases z : es.length = 0
 ·exact Right_0 A c es m r w hr hc hl hn hs z
 by_cases k1 : m < (es.length : Int)
 ·exact Right_1 A c es m r w hr hc hl hn hs z k1
 ·exact Right_2 A c es m r w hr hc hl hn hs z k1
end Go.Proofs.YthagmakojbfmaaaDoor.Ext
set_option linter.unusedVariables false
set_option linter.unusedSimpArgs false
namespace Go.Proofs.YthagmakojbfmaaaDoor.Ext
open Go Go.RowKit Go.Proofs.YthagmakojbfmaaaDoor Go.Proofs.YthagmakojbfmaaaDoorW.PrintWords Go.Proofs.YthagmakojbfmaaaDoor.Pright
theorem rd_map54 (ns : List S48) (i : Int) : rd_T54 (ns.map nodeC) i = nodeC (rd_T48 ns i) := by
 unfold rd_T54 rd_T48
 rw [show z54 = nodeC z48 from rfl, List.getD_eq_getElem?_getD, List.getD_eq_getElem?_getD, List.getElem?_map]
 cases ns[i.toNat]? <;> rfl
theorem rd_map80 (l : List S57) (i : Int) : rd_T80 (l.map entC) i = entC (rd_T57 l i) := by
 unfold rd_T80 rd_T57
 rw [show z80 = entC z57 from rfl, List.getD_eq_getElem?_getD, List.getD_eq_getElem?_getD, List.getElem?_map]
 cases l[i.toNat]? <;> rfl
def RightD (ns : List S48) : Prop := Small ns ∧ DiskOk (ns.map nodeC)
def LrR (ns : List S48) (w : World) (e : Ending) (w' : World) : Prop := ∃ b, e = .returned (.bool b) ∧ Below w.heap.size w w' ∧ (b = true → RightD ns)
def SmTo (ns : List S48) (x : Int) : Prop := ∀ i : Int, 0 ≤ i → i < x → (rd_T48 ns i).f7.length ≤ 60 ∧ (rd_T48 ns i).f6.size ≤ 300
theorem SmTo.small {ns : List S48} (h : SmTo ns ns.length) (hl : ns.length ≤ 100) : Small ns := by
 refine ⟨hl, fun n hn => ?_⟩
 obtain ⟨i, hi, rfl⟩ := List.getElem_of_mem hn
 have h1 := h i (by omega) (by omega)
 have e0 : rd_T48 ns i = ns[i] := by unfold rd_T48; simp [List.getD_eq_getElem?_getD, List.getElem?_eq_getElem hi]
 rw [e0] at h1; exact h1
theorem small_names {ns : List S48} (h : Small ns) : ∀ x, x ∈ ns.map nodeC → x.f7.length ≤ 60 := by
 intro x hx
 obtain ⟨n, hn, rfl⟩ := List.mem_map.1 hx
 simpa [nodeC] using (h.2 n hn).1
theorem size_names {ns : List S48} (h : ∀ i j, (rd_T57 (rd_T48 ns i).f7 j).f0.size ≤ 1000000000000000) : ∀ i j, (rd_T80 (rd_T54 (ns.map nodeC) i).f7 j).f0.size ≤ 1000000000000000 := by
 intro i j
 rw [rd_map54]
 show (rd_T80 ((rd_T48 ns i).f7.map entC) j).f0.size ≤ _
 rw [rd_map80]; exact h i j
attribute [local go_sem] isRow_drew row_drew isRow_drewN row_drewN cell_isRow rowSz_isRow isHead_ptr blockOf_ptr row_alloc isRow_alloc rowSz_alloc setRow_alloc isRow_setRow isRow_setCell isRow_frozen setCell_setRow_same setCell_setRow_other cell_setRow_same' cell_setRow_other' frozen_setRow' row_setRow_same row_setRow_other rowSz_setRow_same rowSz_setRow_other setRow_setRow_same' setRow_comm' ne_l2 ne_r2 ne_l3 ne_r3 ne_l4 ne_r4 ne_l5 ne_r5 ne_l6 ne_r6 ne_l7 ne_r7 ne_l8 ne_r8
theorem ldx_24 {ρ : Operand → Value} {dst : Option Tmp} {tt : TypeId} {pos : String} {after : Array Edge} {gd : Option (Nat × Bool)} {x : Operand} {w : World} (h1 : isHead (ρ x) = true) (h2 : rowSz w (blockOf (ρ x)) 3 = true) : (execOp ρ { dst := dst, op := .load 24 x, type := tt, pos := pos, after := after, guard := gd }).run Tryd.prog w = .ok (.value (.agg (row w (blockOf (ρ x))))) w := ld_exec 24 3 Tryd.underlying24 (by kernel_rfl) h1 h2
attribute [local go_sem ↓] ldx_24
attribute [local go_sem ↓] Go.wp_at_zero Go.wp_at_succ
set_option maxRecDepth 100000 in
set_option maxHeartbeats 8000000 in
theorem lright_calls (A : Option Addr) (c : Nat) (ns : List S48) (m r : Int) (w : World) (hd : Dk w A ns) (hc : ns.length ≤ c) (hl : ns.length ≤ 1000000000000000) (hs : ∀ i j, (rd_T57 (rd_T48 ns i).f7 j).f0.size ≤ 1000000000000000)  :
  Calls Tryd.prog 10 #[.agg #[.slice A ns.length c, .int .i64 m, .int .i64 r]] w (LrR ns w) := by
 have HD0 := Lib.hid (And.intro hc (And.intro hl hs))
 have HD := Lib.hid hd
 clear hd hc hl hs
 go_enter Tryd.func10, Tryd.ntmps10
 go_wp2_with fail
 refine Code.at_ fun v1 hW => ?_
 have B0 : Below w.heap.size w v1 := by rw [hW]; repeat' (first | with_reducible refine Below.alloc ?_ ?_ _ | with_reducible refine Below.setRow_ ?_ ?_ _ | with_reducible refine Below.setCell ?_ ?_ _ | with_reducible refine Below.drew ?_ | with_reducible refine Below.drewN_ ?_ _ | with_reducible exact Below.refl _ _ | assumption | (simp; done) | (simp; omega) | omega)
 have Hdk := Lib.hid (show Box v1 (w.heap.size) #[.slice A ns.length c, .int .i64 m, .int .i64 r] from ⟨_, by rw [hW]; (try rw [setRow_alloc, if_pos rfl]); exact blk_new _ (by first | rfl | simp)⟩)
 clear hW
 have C := B0
 have BB := Lib.hid C
 replace HD := Lib.hid (HD.out.step C)
 obtain ⟨bdk, hbdk⟩ : ∃ b, b = w.heap.size := ⟨_, rfl⟩
 rw [← hbdk] at Hdk ⊢
 clear hbdk
 clear C B0
 obtain ⟨idk, rdk, ldk, ndk, mdk⟩ := boxAll Hdk.out
 have HD1 := HD
 go_loopw [3] (fun i_ wr => ∃ x : Int, i_ = .int .i64 x ∧ 0 ≤ x ∧ x ≤ ns.length ∧ x ≤ 110 ∧ SmTo ns x ∧ Below v1.heap.size v1 wr ∧ Box wr bdk #[.slice A ns.length c, .int .i64 m, .int .i64 r]) (fun i_ _ => ns.length - (intOf i_).toNat)
 case atStart => exact ⟨0, rfl, Int.le_refl _, by omega, by omega, fun j h1 h2 => by omega, Below.refl _ _, Hdk.out⟩
 case round =>
  obtain ⟨x, rfl, h0, h1, h110, hsm, hB, hbd⟩ := hrel
  clear idk rdk ldk ndk mdk
  replace BB := Lib.hid (BB.out.trans (hB.mono BB.out.size))
  have HX := Lib.hid (And.intro h0 (And.intro h1 (And.intro h110 (And.intro hsm hB))))
  replace Hdk := Lib.hid hbd
  replace HD := Lib.hid (HD1.out.step hB)
  clear h0 h1 h110 hsm hB hbd
  obtain ⟨idk, rdk, ldk, ndk, mdk⟩ := boxAll Hdk.out
  by_cases hlt : x < (ns.length : Int)
  ·have d1 : decide (x < (ns.length : Int)) = true := decide_eq_true hlt
   by_cases h11 : x < 110
   ·have d_h11 : decide (x < 110) = true := decide_eq_true h11
    have HLT := Lib.hid hlt
    have HL1 := Lib.hid h11
    have q2 : IntKind.i64.wrap (x + 1) = x + 1 := by have := HX.out.1; have := HX.out.2.2.1; rw [IntKind.wrap_i64] <;> omega
    have q1 : wrap64 (x + 1) = x + 1 := wrap_succ HX.out.1 (by have := HX.out.2.2.1; omega)
    have p0 : (0 ≤ x) = True := eq_true HX.out.1
    have p1 : (x < (ns.length : Int)) = True := eq_true hlt
    clear hlt h11
    obtain ⟨ad, A7, c7, eA, -, -, -, -, -, -, x6, x7, -, -⟩ := at_T48 HD.out x HX.out.1 HLT.out
    subst eA
    generalize h6e : (rd_T48 ns x).f6 = p6 at x6
    generalize h7e : (rd_T48 ns x).f7.length = l7 at x7
    have H6L := Lib.hid h6e
    have H7L := Lib.hid h7e
    clear h6e h7e
    by_cases h6 : (300 : Int) < (p6.size : Int)
    ·have d_h6 : decide ((300 : Int) < (p6.size : Int)) = true := decide_eq_true h6
     clear h6
     go_wp2_with fail
     go_ret
     refine ⟨false, rfl, ?_, fun h => by cases h⟩
     try have BB1 := BB.out
     repeat' (first | assumption | exact Below.refl _ _ | with_reducible refine Below.alloc ?_ ?_ _ | with_reducible refine Below.setRow_ ?_ ?_ _ | exact BB.out | exact BB.out.size | omega | (simp; done) | (simp; omega) | (have := BB.out.size; simp; omega))
    ·have d_h6 : decide ((300 : Int) < (p6.size : Int)) = false := decide_eq_false h6
     by_cases h7 : (60 : Int) < (l7 : Int)
     ·have d_h7 : decide ((60 : Int) < (l7 : Int)) = true := decide_eq_true h7
      clear h7
      go_wp2_with fail
      go_ret
      refine ⟨false, rfl, ?_, fun h => by cases h⟩
      try have BB1 := BB.out
      repeat' (first | assumption | exact Below.refl _ _ | with_reducible refine Below.alloc ?_ ?_ _ | with_reducible refine Below.setRow_ ?_ ?_ _ | exact BB.out | exact BB.out.size | omega | (simp; done) | (simp; omega) | (have := BB.out.size; simp; omega))
     ·have d_h7 : decide ((60 : Int) < (l7 : Int)) = false := decide_eq_false h7
      have HSM := Lib.hid (show (rd_T48 ns x).f7.length ≤ 60 ∧ (rd_T48 ns x).f6.size ≤ 300 from ⟨by rw [H7L.out]; omega, by rw [H6L.out]; omega⟩)
      clear h7 h6
      go_wp2_with fail
      go_roundw
      case rel => exact ⟨x + 1, by first | rfl | rw [q2], by have := HX.out.1; omega, by have := HLT.out; omega, by have := HL1.out; omega, fun j j0 j1 => (by
        by_cases hj : j < x
        ·exact HX.out.2.2.2.1 j j0 hj
        ·have : j = x := by omega
         subst this; exact HSM.out), HX.out.2.2.2.2, Hdk.out⟩
      case measure => simp [intOf, q1, q2]; have := HX.out.1; have := HLT.out; omega
   ·have d_h11 : decide (x < 110) = false := decide_eq_false h11
    have d100 : decide ((ns.length : Int) ≤ 100) = false := decide_eq_false (by omega)
    clear h11 hlt
    go_wp2_with fail
    go_ret
    refine ⟨false, rfl, ?_, fun h => by cases h⟩
    try have BB1 := BB.out
    repeat' (first | assumption | exact Below.refl _ _ | with_reducible refine Below.alloc ?_ ?_ _ | with_reducible refine Below.setRow_ ?_ ?_ _ | exact BB.out | exact BB.out.size | omega | (simp; done) | (simp; omega) | (have := BB.out.size; simp; omega))
  ·have d1 : decide (x < (ns.length : Int)) = false := decide_eq_false hlt
   have HGE := Lib.hid hlt
   clear hlt
   by_cases h100 : (ns.length : Int) ≤ 100
   ·have HL100 := Lib.hid (show ns.length ≤ 100 by omega)
    have d_h100 : decide ((ns.length : Int) ≤ 100) = true := decide_eq_true h100
    clear h100
    have hS : Small ns := SmTo.small (by have e : (ns.length : Int) = x := (by have := HX.out.2.1; have := HGE.out; omega); rw [e]; exact HX.out.2.2.2.1) HL100.out
    have HS := Lib.hid hS
    clear hS
    go_wp2_with fail
    refine Calls.at_ fun W hW => ?_
    have B0 : Below wr.heap.size wr W := by rw [hW]; repeat' (first | with_reducible refine Below.alloc ?_ ?_ _ | with_reducible refine Below.setRow_ ?_ ?_ _ | with_reducible refine Below.setCell ?_ ?_ _ | with_reducible refine Below.drew ?_ | with_reducible refine Below.drewN_ ?_ _ | with_reducible exact Below.refl _ _ | assumption | (simp; done) | (simp; omega) | omega)
    clear hW
    refine (Pright.flagstonelaw07_its.calls 1000 A c ns m r _ _ _ W (HD.out.step B0) HD0.out.1 (its_f ns m r HS.out)).mono ?_
    rintro e w2 h
    have h' := h
    obtain ⟨v0, rfl, hv0, hb⟩ := h'
    obtain ⟨es, hes⟩ : ∃ es, es = ns.map nodeC := ⟨_, rfl⟩
    rw [← hes] at hv0
    obtain ⟨A2, c2, rfl, hc2, hC2⟩ := Kd.R_reads (Kd.S_R hv0)
    have HR2 := Lib.hid (And.intro hc2 (show R54 w2 A2 es from hC2))
    have HES := Lib.hid hes
    have C := B0.trans (hb.mono B0.size)
    replace BB := Lib.hid (BB.out.trans (C.mono BB.out.size))
    replace HD := Lib.hid (HD.out.step C)
    try clear idk rdk ldk ndk mdk
    replace Hdk := Lib.hid (Hdk.out.step C)
    obtain ⟨idk, rdk, ldk, ndk, mdk⟩ := boxAll Hdk.out
    clear h hb C B0 W hv0 hc2 hC2 hes
    go_wp2_with fail
    refine Calls.at_ fun W hW => ?_
    have B0 : Below w2.heap.size w2 W := by rw [hW]; repeat' (first | with_reducible refine Below.alloc ?_ ?_ _ | with_reducible refine Below.setRow_ ?_ ?_ _ | with_reducible refine Below.setCell ?_ ?_ _ | with_reducible refine Below.drew ?_ | with_reducible refine Below.drewN_ ?_ _ | with_reducible exact Below.refl _ _ | assumption | (simp; done) | (simp; omega) | omega)
    clear hW
    refine (Right_calls A2 c2 es m r W (HR2.out.2.step B0) HR2.out.1 (by rw [HES.out, List.length_map]; exact HL100.out) (by rw [HES.out]; exact small_names HS.out) (by rw [HES.out]; exact size_names HD0.out.2.2)).mono ?_
    rintro e w3 h
    have h' := h
    obtain ⟨rb, rfl, hb, hok⟩ := (show RtR _ _ _ _ from h')
    have HOK := Lib.hid hok
    have C := B0.trans (hb.mono B0.size)
    replace BB := Lib.hid (BB.out.trans (C.mono BB.out.size))
    replace HD := Lib.hid (HD.out.step C)
    try clear idk rdk ldk ndk mdk
    replace Hdk := Lib.hid (Hdk.out.step C)
    obtain ⟨idk, rdk, ldk, ndk, mdk⟩ := boxAll Hdk.out
    clear h hb C B0 W h' hok
    go_wp2_with fail
    go_ret
    refine ⟨rb, rfl, ?_, fun h => ⟨HS.out, by rw [← HES.out]; exact HOK.out h⟩⟩
    try have BB1 := BB.out
    repeat' (first | assumption | exact Below.refl _ _ | with_reducible refine Below.alloc ?_ ?_ _ | with_reducible refine Below.setRow_ ?_ ?_ _ | exact BB.out | exact BB.out.size | omega | (simp; done) | (simp; omega) | (have := BB.out.size; simp; omega))
   ·have d_h100 : decide ((ns.length : Int) ≤ 100) = false := decide_eq_false h100
    clear h100
    go_wp2_with fail
    go_ret
    refine ⟨false, rfl, ?_, fun h => by cases h⟩
    try have BB1 := BB.out
    repeat' (first | assumption | exact Below.refl _ _ | with_reducible refine Below.alloc ?_ ?_ _ | with_reducible refine Below.setRow_ ?_ ?_ _ | exact BB.out | exact BB.out.size | omega | (simp; done) | (simp; omega) | (have := BB.out.size; simp; omega))
end Go.Proofs.YthagmakojbfmaaaDoor.Ext
