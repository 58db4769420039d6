/- flagstonelaw07.shown: it answers true. -/
import Derived.Test.YthagmakojbfmaaaDoorWy
/- The disk that 'shown' looks at, and what its ways come to. -/
set_option linter.unusedVariables false
set_option linter.unusedSimpArgs false
namespace Go.Proofs.YthagmakojbfmaaaDoor.Ext
open Go Go.RowKit Go.Proofs.YthagmakojbfmaaaDoor Go.Proofs.YthagmakojbfmaaaDoorW.PrintWords
def nsS : List S48 := [⟨2, 63, 0, 1, 0, 0, ⟨#[]⟩, [⟨⟨#[97]⟩, 1⟩, ⟨⟨#[98]⟩, 2⟩]⟩, ⟨2, 63, 0, 1, 0, 0, ⟨#[]⟩, []⟩, ⟨3, 63, 0, 1, 0, 0, ⟨#[97, 47, 46, 46, 47, 98]⟩, []⟩]
theorem sw1 : walkF nsS 1 0 ⟨#[47, 97, 47, 120]⟩ false = (0, ⟨1, ⟨#[120]⟩, -1, false⟩) := by kernel_rfl
theorem sw2 : walkF nsS 1 1 ⟨#[46, 46, 47, 98]⟩ false = (0, ⟨0, ⟨#[98]⟩, 2, false⟩) := by kernel_rfl
theorem sw3 : nodeF nsS 1 0 ⟨#[98]⟩ true = (0, 8) := by kernel_rfl
theorem sw4 : nodeF nsS 1 0 ⟨#[97, 47, 120, 47, 121]⟩ true = (0, 2) := by kernel_rfl
theorem sw5 : nodeF nsS 1 0 ⟨#[97, 47, 46, 47, 46, 46]⟩ true = (0, 0) := by kernel_rfl
theorem rd_nsS (i : Int) : rd_T48 nsS i = ⟨2, 63, 0, 1, 0, 0, ⟨#[]⟩, [⟨⟨#[97]⟩, 1⟩, ⟨⟨#[98]⟩, 2⟩]⟩ ∨ (rd_T48 nsS i).f7 = [] ∧ (rd_T48 nsS i).f6.size ≤ 1000 := by
 unfold rd_T48
 match i.toNat with
 | 0 => exact .inl rfl
 | 1 => exact .inr ⟨rfl, by decide⟩
 | 2 => exact .inr ⟨rfl, by decide⟩
 | _ + 3 => exact .inr ⟨rfl, by show (0 : Nat) ≤ 1000; decide⟩
theorem fitS : Fit nsS := by
 have hz : ∀ i, getL nsS i = rd_T48 nsS i ∨ getL nsS i = z48 := fun i => by unfold getL; split <;> simp
 have h2 : Rising [(⟨⟨#[97]⟩, 1⟩ : S57), ⟨⟨#[98]⟩, 2⟩] := by
  intro j hj
  match j, hj with
  | 0, _ => rfl
 have h0 : Rising ([] : List S57) := fun j hj => by simp at hj
 refine ⟨fun i => ?_, fun i part => ?_, fun i => ?_⟩
 ·rcases hz i with h | h <;> rw [h]
  ·rcases rd_nsS i with h | h
   ·rw [h]; simp
   ·rw [h.1]; simp
  ·simp [z48]
 ·rcases hz i with h | h <;> rw [h]
  ·rcases rd_nsS i with h | h
   ·rw [h]; exact h2.sorted part
   ·rw [h.1]; exact h0.sorted part
  ·exact h0.sorted part
 ·rcases hz i with h | h <;> rw [h]
  ·rcases rd_nsS i with h | h
   ·rw [h]; decide
   ·exact h.2
  ·decide
end Go.Proofs.YthagmakojbfmaaaDoor.Ext
set_option linter.unusedVariables false
set_option linter.unusedSimpArgs false
namespace Go.Proofs.YthagmakojbfmaaaDoor.Ext
open Go Go.RowKit Go.Proofs.YthagmakojbfmaaaDoor Go.Proofs.YthagmakojbfmaaaDoorW.PrintWords
theorem dkS {w : World} {bm bd : Nat} (h1 : Box w bm #[.string ⟨#[97]⟩, .int .i64 1, .string ⟨#[98]⟩, .int .i64 2]) (h2 : Box w bd #[.int .i64 2, .int .i64 63, .int .i64 0, .int .i64 1, .int .i64 0, .int .i64 0, .string ⟨#[]⟩, .slice (some ⟨bm, 0, none⟩) 2 2, .int .i64 2, .int .i64 63, .int .i64 0, .int .i64 1, .int .i64 0, .int .i64 0, .string ⟨#[]⟩, .slice none 0 0, .int .i64 3, .int .i64 63, .int .i64 0, .int .i64 1, .int .i64 0, .int .i64 0, .string ⟨#[97, 47, 46, 46, 47, 98]⟩, .slice none 0 0]) : Dk w (some ⟨bd, 0, none⟩) nsS := by
 obtain ⟨t1, h1⟩ := h1
 obtain ⟨t2, h2⟩ := h2
 have c1 : ∀ i, w.cell? ⟨bm, i, none⟩ = #[.string ⟨#[97]⟩, .int .i64 1, .string ⟨#[98]⟩, .int .i64 2][i]? := fun i => block_cell h1 i
 have c2 : ∀ i, w.cell? ⟨bd, i, none⟩ = #[.int .i64 2, .int .i64 63, .int .i64 0, .int .i64 1, .int .i64 0, .int .i64 0, .string ⟨#[]⟩, .slice (some ⟨bm, 0, none⟩) 2 2, .int .i64 2, .int .i64 63, .int .i64 0, .int .i64 1, .int .i64 0, .int .i64 0, .string ⟨#[]⟩, .slice none 0 0, .int .i64 3, .int .i64 63, .int .i64 0, .int .i64 1, .int .i64 0, .int .i64 0, .string ⟨#[97, 47, 46, 46, 47, 98]⟩, .slice none 0 0][i]? := fun i => block_cell h2 i
 have hA : ∀ b k, (⟨b, 0, none⟩ : Addr).add k = ⟨b, k, none⟩ := fun b k => by unfold Addr.add; split <;> simp_all
 have es : Kd.C k57 w (some ⟨bm, 0, none⟩) 2 [(⟨⟨#[97]⟩, 1⟩ : S57), ⟨⟨#[98]⟩, 2⟩] := by
  refine ⟨rfl, by decide, fun _ => ⟨_, rfl, fun j p hp => ?_⟩⟩
  match j, hp with
  | 0, hp => cases hp; refine ⟨_, ?_, k57_mk w _, fun i u hu => ?_⟩; rfl; rw [hA, c1]; match i, hu with
   | 0, hu => exact hu
   | 1, hu => exact hu
   | _ + 2, hu => cases hu
  | 1, hp => cases hp; refine ⟨_, ?_, k57_mk w _, fun i u hu => ?_⟩; rfl; rw [hA, c1]; match i, hu with
   | 0, hu => exact hu
   | 1, hu => exact hu
   | _ + 2, hu => cases hu
  | _ + 2, hp => cases hp
 have ne : Kd.C k57 w none 0 [] := ⟨rfl, by decide, fun h => absurd h (by decide)⟩
 refine ⟨rfl, by decide, fun _ => ⟨_, rfl, fun j p hp => ?_⟩⟩
 match j, hp with
 | 0, hp => cases hp; refine ⟨_, ?_, k48_mk w _ (show 2 ≤ 2 from Nat.le_refl _) es, fun i u hu => ?_⟩; rfl; rw [hA, c2]; match i, hu with
  | 0, hu | 1, hu | 2, hu | 3, hu | 4, hu | 5, hu | 6, hu | 7, hu => exact hu
  | _ + 8, hu => cases hu
 | 1, hp => cases hp; refine ⟨_, ?_, k48_mk w _ (show 0 ≤ 0 from Nat.le_refl _) ne, fun i u hu => ?_⟩; rfl; rw [hA, c2]; match i, hu with
  | 0, hu | 1, hu | 2, hu | 3, hu | 4, hu | 5, hu | 6, hu | 7, hu => exact hu
  | _ + 8, hu => cases hu
 | 2, hp => cases hp; refine ⟨_, ?_, k48_mk w _ (show 0 ≤ 0 from Nat.le_refl _) ne, fun i u hu => ?_⟩; rfl; rw [hA, c2]; match i, hu with
  | 0, hu | 1, hu | 2, hu | 3, hu | 4, hu | 5, hu | 6, hu | 7, hu => exact hu
  | _ + 8, hu => cases hu
 | _ + 3, hp => cases hp
def ShR (w : World) (e : Ending) (w' : World) : Prop := e = .returned (.bool true) ∧ Below w.heap.size w w'
attribute [local go_sem] isRow_drew row_drew isRow_drewN row_drewN cell_isRow rowSz_isRow isHead_ptr blockOf_ptr row_alloc isRow_alloc rowSz_alloc setRow_alloc isRow_setRow isRow_setCell isRow_frozen setCell_setRow_same setCell_setRow_other cell_setRow_same' cell_setRow_other' frozen_setRow' row_setRow_same row_setRow_other rowSz_setRow_same rowSz_setRow_other setRow_setRow_same' setRow_comm' ne_l2 ne_r2 ne_l3 ne_r3 ne_l4 ne_r4 ne_l5 ne_r5 ne_l6 ne_r6 ne_l7 ne_r7 ne_l8 ne_r8
attribute [local go_sem ↓] ldx_28
attribute [local go_sem ↓] ldx_24
attribute [local go_sem ↓] Go.wp_at_zero Go.wp_at_succ
set_option maxRecDepth 100000 in
set_option maxHeartbeats 8000000 in
theorem shown_calls (w : World) (hg : Eg w) : Calls Tryd.prog 11 #[] w (ShR w) := by
 have HG := Lib.hid hg
 clear hg
 go_enter Tryd.func11, Tryd.ntmps11
 go_wp2_with (first | go_skip | (apply st_row 28 4; (focus rfl); (focus rfl); (focus go_simp); (focus kernel_rfl); (focus rfl); (focus (simp [Value.oneCell']; done))) | (apply st_row 24 3; (focus rfl); (focus rfl); (focus go_simp); (focus kernel_rfl); (focus rfl); (focus (simp [Value.oneCell']; done))))
 refine Calls.at_ fun W hW => ?_
 have B0 : Below w.heap.size w W := by rw [hW]; repeat' (first | with_reducible refine Below.alloc ?_ ?_ _ | with_reducible refine Below.setRow_ ?_ ?_ _ | with_reducible refine Below.setCell ?_ ?_ _ | with_reducible refine Below.drew ?_ | with_reducible refine Below.drewN_ ?_ _ | with_reducible exact Below.refl _ _ | assumption | (simp; done) | (simp; omega) | omega)
 have Ynm : Box W (w.heap.size) #[.string ⟨#[97]⟩, .int .i64 1, .string ⟨#[98]⟩, .int .i64 2] := ⟨_, by rw [hW]; exact blk_old (blk_old (blk_new _ (by first | rfl | simp)) _) _⟩
 have Ynd : Box W (w.heap.size + 1) #[.int .i64 2, .int .i64 63, .int .i64 0, .int .i64 1, .int .i64 0, .int .i64 0, .string ⟨#[]⟩, .slice (some ⟨w.heap.size, 0, none⟩) 2 2, .int .i64 2, .int .i64 63, .int .i64 0, .int .i64 1, .int .i64 0, .int .i64 0, .string ⟨#[]⟩, .slice none 0 0, .int .i64 3, .int .i64 63, .int .i64 0, .int .i64 1, .int .i64 0, .int .i64 0, .string ⟨#[97, 47, 46, 46, 47, 98]⟩, .slice none 0 0] := ⟨_, by rw [hW]; exact blk_old (blk_new _ (by first | rfl | simp)) _⟩
 have Ydk : Box W (w.heap.size + 1 + 1) #[.slice (some ⟨(w.heap.size + 1), 0, none⟩) 3 3, .int .i64 9, .int .i64 9] := ⟨_, by rw [hW]; exact blk_new _ (by first | rfl | simp)⟩
 have HD := Lib.hid (dkS Ynm Ynd)
 clear hW
 refine (walk_calls (some ⟨w.heap.size + 1, 0, none⟩) 3 nsS 9 9 1 0 ⟨#[47, 97, 47, 120]⟩ false W (HD.out) (HG.out.step B0) (Nat.le_refl 3) (by decide) fitS (by decide)).mono ?_
 rintro e w1 h
 obtain ⟨rfl, hb⟩ := (show RetW W (walkF nsS 1 0 ⟨#[47, 97, 47, 120]⟩ false) e w1 from h)
 rw [sw1]
 unfold spotV
 simp only
 have C := B0.trans (hb.mono B0.size)
 have BB := Lib.hid C
 replace HG := Lib.hid (HG.out.step C)
 replace HD := Lib.hid (HD.out.step hb)
 have Hnm := Lib.hid (Ynm.step hb)
 have Hnd := Lib.hid (Ynd.step hb)
 have Hdk := Lib.hid (Ydk.step hb)
 obtain ⟨bdk, hbdk⟩ : ∃ b, b = w.heap.size + 2 := ⟨_, rfl⟩
 obtain ⟨bnd, hbnd⟩ : ∃ b, b = w.heap.size + 1 := ⟨_, rfl⟩
 have Hdk := Lib.hid (show Box w1 (w.heap.size + 2) _ from Hdk.out)
 try simp only [show w.heap.size + 1 + 1 = w.heap.size + 2 from rfl]
 simp only [← hbdk] at Hdk ⊢
 simp only [← hbnd] at Hdk HD ⊢
 clear Ynm Ynd Ydk hbdk hbnd Hnm Hnd
 obtain ⟨idk, rdk, ldk, ndk, mdk⟩ := boxAll Hdk.out
 clear h hb C B0 W
 go_wp2_with (first | go_skip | (apply st_row 28 4; (focus rfl); (focus rfl); (focus go_simp); (focus kernel_rfl); (focus rfl); (focus (simp [Value.oneCell']; done))) | (apply st_row 24 3; (focus rfl); (focus rfl); (focus go_simp); (focus kernel_rfl); (focus rfl); (focus (simp [Value.oneCell']; done))))
 refine Calls.at_ fun W hW => ?_
 have B0 : Below w1.heap.size w1 W := by rw [hW]; repeat' (first | with_reducible refine Below.alloc ?_ ?_ _ | with_reducible refine Below.setRow_ ?_ ?_ _ | with_reducible refine Below.setCell ?_ ?_ _ | with_reducible refine Below.drew ?_ | with_reducible refine Below.drewN_ ?_ _ | with_reducible exact Below.refl _ _ | assumption | (simp; done) | (simp; omega) | omega)
 have Ys : Box W (w1.heap.size) #[.int .i64 1, .string ⟨#[120]⟩, .int .i64 (-1), .bool false] := ⟨_, by rw [hW]; exact blk_new _ (by first | rfl | simp)⟩
 clear hW
 refine (walk_calls (some ⟨bnd, 0, none⟩) 3 nsS 9 9 1 1 ⟨#[46, 46, 47, 98]⟩ false W (HD.out.step B0) (HG.out.step B0) (Nat.le_refl 3) (by decide) fitS (by decide)).mono ?_
 rintro e w2 h
 obtain ⟨rfl, hb⟩ := (show RetW W (walkF nsS 1 1 ⟨#[46, 46, 47, 98]⟩ false) e w2 from h)
 rw [sw2]
 unfold spotV
 simp only
 have C := B0.trans (hb.mono B0.size)
 replace BB := Lib.hid (BB.out.trans (C.mono BB.out.size))
 replace HG := Lib.hid (HG.out.step C)
 replace HD := Lib.hid (HD.out.step C)
 try clear idk rdk ldk ndk mdk
 replace Hdk := Lib.hid (Hdk.out.step C)
 have Hs := Lib.hid (Ys.step hb)
 obtain ⟨bs, hbs⟩ : ∃ b, b = w1.heap.size := ⟨_, rfl⟩
 rw [← hbs] at Hs ⊢
 clear Ys hbs
 obtain ⟨idk, rdk, ldk, ndk, mdk⟩ := boxAll Hdk.out
 obtain ⟨is, rs, ls, ns, ms⟩ := boxAll Hs.out
 clear h hb C B0 W
 go_wp2_with (first | go_skip | (apply st_row 28 4; (focus rfl); (focus rfl); (focus go_simp); (focus kernel_rfl); (focus rfl); (focus (simp [Value.oneCell']; done))) | (apply st_row 24 3; (focus rfl); (focus rfl); (focus go_simp); (focus kernel_rfl); (focus rfl); (focus (simp [Value.oneCell']; done))))
 refine Calls.at_ fun W hW => ?_
 have B0 : Below w2.heap.size w2 W := by rw [hW]; repeat' (first | with_reducible refine Below.alloc ?_ ?_ _ | with_reducible refine Below.setRow_ ?_ ?_ _ | with_reducible refine Below.setCell ?_ ?_ _ | with_reducible refine Below.drew ?_ | with_reducible refine Below.drewN_ ?_ _ | with_reducible exact Below.refl _ _ | assumption | (simp; done) | (simp; omega) | omega)
 have Yt : Box W (w2.heap.size) #[.int .i64 0, .string ⟨#[98]⟩, .int .i64 2, .bool false] := ⟨_, by rw [hW]; exact blk_new _ (by first | rfl | simp)⟩
 clear hW
 refine (node_calls (some ⟨bnd, 0, none⟩) 3 nsS 9 9 1 0 ⟨#[98]⟩ true W (HD.out.step B0) (HG.out.step B0) (Nat.le_refl 3) (by decide) fitS (by decide)).mono ?_
 rintro e w3 h
 obtain ⟨rfl, hb⟩ := (show RetN W (nodeF nsS 1 0 ⟨#[98]⟩ true) e w3 from h)
 rw [sw3]
 simp only
 have C := B0.trans (hb.mono B0.size)
 replace BB := Lib.hid (BB.out.trans (C.mono BB.out.size))
 replace HG := Lib.hid (HG.out.step C)
 replace HD := Lib.hid (HD.out.step C)
 try clear idk rdk ldk ndk mdk
 replace Hdk := Lib.hid (Hdk.out.step C)
 try clear is rs ls ns ms
 replace Hs := Lib.hid (Hs.out.step C)
 have Ht := Lib.hid (Yt.step hb)
 obtain ⟨bt, hbt⟩ : ∃ b, b = w2.heap.size := ⟨_, rfl⟩
 rw [← hbt] at Ht ⊢
 clear Yt hbt
 obtain ⟨idk, rdk, ldk, ndk, mdk⟩ := boxAll Hdk.out
 obtain ⟨is, rs, ls, ns, ms⟩ := boxAll Hs.out
 obtain ⟨it, rt, lt, nt, mt⟩ := boxAll Ht.out
 clear h hb C B0 W
 go_wp2_with (first | go_skip | (apply st_row 28 4; (focus rfl); (focus rfl); (focus go_simp); (focus kernel_rfl); (focus rfl); (focus (simp [Value.oneCell']; done))) | (apply st_row 24 3; (focus rfl); (focus rfl); (focus go_simp); (focus kernel_rfl); (focus rfl); (focus (simp [Value.oneCell']; done))))
 refine Calls.at_ fun W hW => ?_
 have B0 : Below w3.heap.size w3 W := by rw [hW]; repeat' (first | with_reducible refine Below.alloc ?_ ?_ _ | with_reducible refine Below.setRow_ ?_ ?_ _ | with_reducible refine Below.setCell ?_ ?_ _ | with_reducible refine Below.drew ?_ | with_reducible refine Below.drewN_ ?_ _ | with_reducible exact Below.refl _ _ | assumption | (simp; done) | (simp; omega) | omega)
 clear hW
 refine (node_calls (some ⟨bnd, 0, none⟩) 3 nsS 9 9 1 0 ⟨#[97, 47, 120, 47, 121]⟩ true W (HD.out.step B0) (HG.out.step B0) (Nat.le_refl 3) (by decide) fitS (by decide)).mono ?_
 rintro e w4 h
 obtain ⟨rfl, hb⟩ := (show RetN W (nodeF nsS 1 0 ⟨#[97, 47, 120, 47, 121]⟩ true) e w4 from h)
 rw [sw4]
 simp only
 have C := B0.trans (hb.mono B0.size)
 replace BB := Lib.hid (BB.out.trans (C.mono BB.out.size))
 replace HG := Lib.hid (HG.out.step C)
 replace HD := Lib.hid (HD.out.step C)
 try clear idk rdk ldk ndk mdk
 replace Hdk := Lib.hid (Hdk.out.step C)
 try clear is rs ls ns ms
 replace Hs := Lib.hid (Hs.out.step C)
 try clear it rt lt nt mt
 replace Ht := Lib.hid (Ht.out.step C)
 obtain ⟨idk, rdk, ldk, ndk, mdk⟩ := boxAll Hdk.out
 obtain ⟨is, rs, ls, ns, ms⟩ := boxAll Hs.out
 obtain ⟨it, rt, lt, nt, mt⟩ := boxAll Ht.out
 clear h hb C B0 W
 go_wp2_with (first | go_skip | (apply st_row 28 4; (focus rfl); (focus rfl); (focus go_simp); (focus kernel_rfl); (focus rfl); (focus (simp [Value.oneCell']; done))) | (apply st_row 24 3; (focus rfl); (focus rfl); (focus go_simp); (focus kernel_rfl); (focus rfl); (focus (simp [Value.oneCell']; done))))
 refine Calls.at_ fun W hW => ?_
 have B0 : Below w4.heap.size w4 W := by rw [hW]; repeat' (first | with_reducible refine Below.alloc ?_ ?_ _ | with_reducible refine Below.setRow_ ?_ ?_ _ | with_reducible refine Below.setCell ?_ ?_ _ | with_reducible refine Below.drew ?_ | with_reducible refine Below.drewN_ ?_ _ | with_reducible exact Below.refl _ _ | assumption | (simp; done) | (simp; omega) | omega)
 clear hW
 refine (node_calls (some ⟨bnd, 0, none⟩) 3 nsS 9 9 1 0 ⟨#[97, 47, 46, 47, 46, 46]⟩ true W (HD.out.step B0) (HG.out.step B0) (Nat.le_refl 3) (by decide) fitS (by decide)).mono ?_
 rintro e w5 h
 obtain ⟨rfl, hb⟩ := (show RetN W (nodeF nsS 1 0 ⟨#[97, 47, 46, 47, 46, 46]⟩ true) e w5 from h)
 rw [sw5]
 simp only
 have C := B0.trans (hb.mono B0.size)
 replace BB := Lib.hid (BB.out.trans (C.mono BB.out.size))
 replace HG := Lib.hid (HG.out.step C)
 replace HD := Lib.hid (HD.out.step C)
 try clear idk rdk ldk ndk mdk
 replace Hdk := Lib.hid (Hdk.out.step C)
 try clear is rs ls ns ms
 replace Hs := Lib.hid (Hs.out.step C)
 try clear it rt lt nt mt
 replace Ht := Lib.hid (Ht.out.step C)
 obtain ⟨idk, rdk, ldk, ndk, mdk⟩ := boxAll Hdk.out
 obtain ⟨is, rs, ls, ns, ms⟩ := boxAll Hs.out
 obtain ⟨it, rt, lt, nt, mt⟩ := boxAll Ht.out
 clear h hb C B0 W
 go_wp2_with (first | go_skip | (apply st_row 28 4; (focus rfl); (focus rfl); (focus go_simp); (focus kernel_rfl); (focus rfl); (focus (simp [Value.oneCell']; done))) | (apply st_row 24 3; (focus rfl); (focus rfl); (focus go_simp); (focus kernel_rfl); (focus rfl); (focus (simp [Value.oneCell']; done))))
 go_ret
 refine ⟨rfl, ?_⟩
 have BB1 := BB.out
 exact BB1
end Go.Proofs.YthagmakojbfmaaaDoor.Ext
