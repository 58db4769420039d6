import Derived.Test.YthagmakojbfmaaaDoorRf2
import Derived.Test.YthagmakojbfmaaaDoorRf3
-- printed by a program of mine over the kit's print (extprint.py)
namespace Go.Proofs.YthagmakojbfmaaaDoor.Pright
open Go.RowKit Go.Proofs.YthagmakojbfmaaaDoor.Ext Go.Proofs.YthagmakojbfmaaaDoorW.PrintWords Go.Proofs.YthagmakojbfmaaaDoorW.PrintLast Go.Proofs.YthagmakojbfmaaaDoorW.PrintMore
attribute [local go_sem] max2_int min2_int max_two min_two max_three min_three max_four min_four
set_option linter.unusedVariables false
set_option linter.unusedSimpArgs false
mutual
def flagstoneref06_names.l0 : Nat → Int → Int → Int → Int → List (S54) → Int → Int → Option (Int × Int)
 | 0, _, _, _, _, _, _, _ => none
 | k + 1, x1, x6, x7, x8, x143000, x143001, x143002 => if x8 < (x143000.length : Int) then (flagstoneref06_names.l1 k x1 x6 x7 x8 0 x143000 x143001 x143002) else (some (x6, x7))
def flagstoneref06_names.l1 : Nat → Int → Int → Int → Int → Int → List (S54) → Int → Int → Option (Int × Int)
 | 0, _, _, _, _, _, _, _, _ => none
 | k + 1, x1, x6, x7, x8, x9, x143000, x143001, x143002 => if 0 ≤ x8 then (if x8 < (x143000.length : Int) then (if x9 < (((rd_T54 x143000 x8).f7).length : Int) then (if 0 ≤ x9 then (if ((rd_T80 ((rd_T54 x143000 x8).f7) x9).f1) = x1 then (flagstoneref06_names.l1 k x1 (wrap64 (x6 + 1)) x8 x8 (wrap64 (x9 + 1)) x143000 x143001 x143002) else (flagstoneref06_names.l1 k x1 x6 x7 x8 (wrap64 (x9 + 1)) x143000 x143001 x143002)) else (none)) else (flagstoneref06_names.l0 k x1 x6 x7 (wrap64 (x8 + 1)) x143000 x143001 x143002)) else (none)) else (none)
end
def flagstoneref06_names.f (k : Nat) (l0_0 : List (S54)) (a0_1 : Int) (a0_2 : Int) (a1 : Int) : Option (Int × Int) := flagstoneref06_names.l0 k a1 0 (-1) 0 l0_0 a0_1 a0_2
theorem flagstoneref06_names.mono_l : ∀ k, (∀ y0 y1 y2 y3 y4 y5 y6, LeO (flagstoneref06_names.l0 k y0 y1 y2 y3 y4 y5 y6) (flagstoneref06_names.l0 (k + 1) y0 y1 y2 y3 y4 y5 y6)) ∧ (∀ y0 y1 y2 y3 y4 y5 y6 y7, LeO (flagstoneref06_names.l1 k y0 y1 y2 y3 y4 y5 y6 y7) (flagstoneref06_names.l1 (k + 1) y0 y1 y2 y3 y4 y5 y6 y7))
 | 0 => ⟨fun _ _ _ _ _ _ _ r h => by simp [flagstoneref06_names.l0] at h, fun _ _ _ _ _ _ _ _ r h => by simp [flagstoneref06_names.l1] at h⟩
 | k + 1 => by
  obtain ⟨ih0, ih1⟩ := flagstoneref06_names.mono_l k
  refine ⟨?_, ?_⟩
  ·intro y0 y1 y2 y3 y4 y5 y6
   unfold flagstoneref06_names.l0
   repeat' first
   | (with_reducible exact ih0 _ _ _ _ _ _ _)
   | (with_reducible exact ih1 _ _ _ _ _ _ _ _)
   | (with_reducible exact LeO.refl _)
   | (with_reducible exact LeO.none _)
   | (with_reducible refine LeO.ite ?_ ?_)
   | (with_reducible refine LeO.bind ?_ (fun _ => ?_))
   | exact ih0 _ _ _ _ _ _ _
   | exact ih1 _ _ _ _ _ _ _ _
   | exact LeO.none _
   | refine LeO.ite ?_ ?_
   | refine LeO.bind ?_ (fun _ => ?_)
  ·intro y0 y1 y2 y3 y4 y5 y6 y7
   unfold flagstoneref06_names.l1
   repeat' first
   | (with_reducible exact ih0 _ _ _ _ _ _ _)
   | (with_reducible exact ih1 _ _ _ _ _ _ _ _)
   | (with_reducible exact LeO.refl _)
   | (with_reducible exact LeO.none _)
   | (with_reducible refine LeO.ite ?_ ?_)
   | (with_reducible refine LeO.bind ?_ (fun _ => ?_))
   | exact ih0 _ _ _ _ _ _ _
   | exact ih1 _ _ _ _ _ _ _ _
   | exact LeO.none _
   | refine LeO.ite ?_ ?_
   | refine LeO.bind ?_ (fun _ => ?_)
theorem flagstoneref06_names.mono : ∀ a0 a1 a2 a3 k, LeO (flagstoneref06_names.f k a0 a1 a2 a3) (flagstoneref06_names.f (k + 1) a0 a1 a2 a3) := by
 intro a0 a1 a2 a3 k
 obtain ⟨ih0, ih1⟩ := flagstoneref06_names.mono_l k
 unfold flagstoneref06_names.f
 repeat' first
   | (with_reducible exact ih0 _ _ _ _ _ _ _)
   | (with_reducible exact ih1 _ _ _ _ _ _ _ _)
   | (with_reducible exact LeO.refl _)
   | (with_reducible exact LeO.none _)
   | (with_reducible refine LeO.ite ?_ ?_)
   | (with_reducible refine LeO.bind ?_ (fun _ => ?_))
   | exact ih0 _ _ _ _ _ _ _
   | exact ih1 _ _ _ _ _ _ _ _
   | exact LeO.none _
   | refine LeO.ite ?_ ?_
   | refine LeO.bind ?_ (fun _ => ?_)
set_option maxHeartbeats 8000000 in
set_option maxRecDepth 100000 in
theorem flagstoneref06_names.calls (k : Nat) (A0_0 : Option Addr) (c0_0 : Nat) (l0_0 : List (S54)) (a0_1 : Int) (a0_2 : Int) (a1 : Int) (r1 : Int) (r2 : Int) (w : World) (hr0_0 : Kd.C k54 w A0_0 l0_0.length l0_0) (hc0_0 : l0_0.length ≤ c0_0) (h : flagstoneref06_names.f k l0_0 a0_1 a0_2 a1 = some (r1, r2)) :
  Calls Tryd.prog 48 #[.agg #[.slice A0_0 l0_0.length c0_0, .int .i64 a0_1, .int .i64 a0_2], .int .i64 a1] w fun e w' => e = .returned (.tuple #[.int .i64 r1, .int .i64 r2]) ∧ Below w.heap.size w w' := by
 have hu37 := Tryd.underlying37
 have HR0_0 := Aside0.mk hr0_0
 have HC0_0 := Aside0.mk hc0_0
 clear hr0_0 hc0_0
 have HB := Aside0.mk (Below.refl w.heap.size w)
 have H : (flagstoneref06_names.l0 k a1 0 (-1) 0 l0_0 a0_1 a0_2) = some (r1, r2) := h
 clear h
 have H' := Aside0.mk H
 clear H
 go_enter Tryd.func48, Tryd.ntmps48
 go_wp2_with (first | ((with_reducible refine gate_dst (N := 2) rfl ?_); refine box_event ?hg (N := 2) ?hd (cs := #[.slice A0_0 l0_0.length c0_0, .int .i64 a0_1, .int .i64 a0_2]) (t := 37) ?hr ?_; (case hd => rfl); (case hg => rfl); (case hr => first | (go_simp; done) | (go_simp; rfl)); intro gb142 hg w3 hbox hb; have n0_ := Aside0.mk (below_step (by repeat (first | (with_reducible first | exact HB.out | apply below_alloc | apply pw_below_drewN | apply below_drew1) | exact HB.out)) hb); have n1_ := Aside0.mk (hbox); have n2_ := Aside0.mk ((by rw [hg]; exact (below_size (by repeat (first | (with_reducible first | exact HB.out | apply below_alloc | apply pw_below_drewN | apply below_drew1) | exact HB.out))) : w.heap.size ≤ gb142)); have n3_ := Aside0.mk ((by rw [hg]; exact (below_size (by repeat (first | (with_reducible first | exact HB.out | apply below_alloc | apply pw_below_drewN | apply below_drew1) | exact HB.out))) : w.heap.size ≤ gb142)); clear HB; have HB := n0_; have BK142 := n1_; have GW142 := n2_; have GE142 := n3_; clear n0_ n1_ n2_ n3_; clear hb hbox hg))
 go_loopg [6, 7, 8] k (fun kq v6 v7 v8 w' => ∃ (x6_1 : Int) (x7_1 : Int) (x8_1 : Int), v6 = .int .i64 x6_1 ∧ v7 = .int .i64 x7_1 ∧ v8 = .int .i64 x8_1 ∧ Aside0 (flagstoneref06_names.l0 kq a1 x6_1 x7_1 x8_1 l0_0 a0_1 a0_2 = some (r1, r2)) ∧ Aside0 (kq ≤ k) ∧ Aside0 (w'.heap[gb142]? = some (.cells #[(.slice A0_0 l0_0.length c0_0), .int .i64 a0_1, .int .i64 a0_2] 37 (0, 0))) ∧ Aside0 (Below w.heap.size w w'))
 case atStart => exact ⟨(0), ((-1)), (0), (by first | rfl | (simp; done) | (simp [*]; done)), (by first | rfl | (simp; done) | (simp [*]; done)), (by first | rfl | (simp; done) | (simp [*]; done)), H', ⟨Nat.le_refl _⟩, ⟨by (with_reducible repeat (first | refine blk_drewN ?_ _ | refine blk_drew ?_ | refine blk_alloc ?_ _)); exact BK142.out⟩, ⟨by repeat (first | (with_reducible first | exact HB.out | apply below_alloc | apply pw_below_drewN | apply below_drew1 | refine below_set ?_ GE142.out) | exact HB.out)⟩⟩
 case round =>
  clear H'
  try clear p2
  obtain ⟨x6_1, x7_1, x8_1, rfl, rfl, rfl, HA, HK1, BK142, HB⟩ := hrel
  cases gk with
  | zero => exact absurd HA.out (by simp [flagstoneref06_names.l0])
  | succ k1 =>
   have H := HA.out
   clear HA
   simp only [flagstoneref06_names.l0] at H
   by_cases c4 : x8_1 < (l0_0.length : Int)
   ·rw [if_pos c4] at H
    have c4b0 : decide (x8_1 < (l0_0.length : Int)) = true := decide_eq_true c4
    clear c4
    have H' := Aside0.mk H
    clear H
    have hcz5_0 : wr.cell? ⟨gb142, 0, none⟩ = some (.slice A0_0 l0_0.length c0_0) := (blk_cell BK142.out 0).trans rfl
    have hcz5_1 : wr.cell? ⟨gb142, 1, none⟩ = some (.int .i64 a0_1) := (blk_cell BK142.out 1).trans rfl
    have hcz5_2 : wr.cell? ⟨gb142, 2, none⟩ = some (.int .i64 a0_2) := (blk_cell BK142.out 2).trans rfl
    have hfz5_0 := blk_frozen BK142.out 0
    have hfz5_1 := blk_frozen BK142.out 1
    have hfz5_2 := blk_frozen BK142.out 2
    go_wp2
    go_loopg [6, 7, 9] k1 (fun kq v6 v7 v9 w' => ∃ (x6_2 : Int) (x7_2 : Int) (x9_2 : Int), v6 = .int .i64 x6_2 ∧ v7 = .int .i64 x7_2 ∧ v9 = .int .i64 x9_2 ∧ Aside0 (flagstoneref06_names.l1 kq a1 x6_2 x7_2 x8_1 x9_2 l0_0 a0_1 a0_2 = some (r1, r2)) ∧ Aside0 (kq ≤ k1) ∧ Aside0 (w'.heap[gb142]? = some (.cells #[(.slice A0_0 l0_0.length c0_0), .int .i64 a0_1, .int .i64 a0_2] 37 (0, 0))) ∧ Aside0 (Below w.heap.size w w'))
    case atStart => exact ⟨(x6_1), (x7_1), (0), (by first | rfl | (simp; done) | (simp [*]; done)), (by first | rfl | (simp; done) | (simp [*]; done)), (by first | rfl | (simp; done) | (simp [*]; done)), H', ⟨Nat.le_refl _⟩, ⟨by (with_reducible repeat (first | refine blk_drewN ?_ _ | refine blk_drew ?_ | refine blk_alloc ?_ _)); exact BK142.out⟩, ⟨by repeat (first | (with_reducible first | exact HB.out | apply below_alloc | apply pw_below_drewN | apply below_drew1 | refine below_set ?_ GE142.out) | exact HB.out)⟩⟩
    case round =>
     clear H'
     try clear p2
     try clear c4
     try clear c4b0
     try clear hcz5_0
     try clear hcz5_1
     try clear hcz5_2
     try clear hfz5_0
     try clear hfz5_1
     try clear hfz5_2
     try clear p2
     obtain ⟨x6_2, x7_2, x9_2, rfl, rfl, rfl, HA, HK2, BK142, HB⟩ := hrel
     cases gk with
     | zero => exact absurd HA.out (by simp [flagstoneref06_names.l1])
     | succ k2 =>
      have H := HA.out
      clear HA
      simp only [flagstoneref06_names.l1] at H
      by_cases c6 : 0 ≤ x8_1
      ·rw [if_pos c6] at H
       have c6b0 : decide (0 ≤ x8_1) = true := decide_eq_true c6
       clear c6
       by_cases c7 : x8_1 < (l0_0.length : Int)
       ·rw [if_pos c7] at H
        have c7b0 : decide (x8_1 < (l0_0.length : Int)) = true := decide_eq_true c7
        clear c7
        by_cases c8 : x9_2 < (((rd_T54 l0_0 x8_1).f7).length : Int)
        ·rw [if_pos c8] at H
         have c8b0 : decide (x9_2 < (((rd_T54 l0_0 x8_1).f7).length : Int)) = true := decide_eq_true c8
         clear c8
         by_cases c9 : 0 ≤ x9_2
         ·rw [if_pos c9] at H
          have c9b0 : decide (0 ≤ x9_2) = true := decide_eq_true c9
          clear c9
          by_cases c10 : ((rd_T80 ((rd_T54 l0_0 x8_1).f7) x9_2).f1) = a1
          ·rw [if_pos c10] at H
           have c10b0 : (((rd_T80 ((rd_T54 l0_0 x8_1).f7) x9_2).f1) == a1) = true := beq_iff_eq.mpr c10
           have c10b1 : (((rd_T80 ((rd_T54 l0_0 x8_1).f7) x9_2).f1) != a1) = false := bne_eq_false_iff_eq.mpr c10
           clear c10
           have H' := Aside0.mk H
           clear H
           have hcz11_0 : wr.cell? ⟨gb142, 0, none⟩ = some (.slice A0_0 l0_0.length c0_0) := (blk_cell BK142.out 0).trans rfl
           have hcz11_1 : wr.cell? ⟨gb142, 1, none⟩ = some (.int .i64 a0_1) := (blk_cell BK142.out 1).trans rfl
           have hcz11_2 : wr.cell? ⟨gb142, 2, none⟩ = some (.int .i64 a0_2) := (blk_cell BK142.out 2).trans rfl
           have hfz11_0 := blk_frozen BK142.out 0
           have hfz11_1 := blk_frozen BK142.out 1
           have hfz11_2 := blk_frozen BK142.out 2
           have p143 : 0 ≤ (x8_1 : Int) := of_decide_eq_true (by first | (with_reducible assumption) | assumption)
           have q143 : x8_1 < (l0_0.length : Int) := of_decide_eq_true (by first | (with_reducible assumption) | assumption)
           obtain ⟨ad143, A143_7, c143_7, e143, hx143_0, hx143_1, hx143_2, hx143_3, hx143_4, hx143_5, hx143_6, hx143_7, hl143_7, hi143_7⟩ := at_T54 HR0_0.out x8_1 p143 q143
           cases e143
           replace hx143_0 := (HB.out.cell (World.block_lt_of_cell? w _ hx143_0)).trans hx143_0
           replace hx143_1 := (HB.out.cell (World.block_lt_of_cell? w _ hx143_1)).trans hx143_1
           replace hx143_2 := (HB.out.cell (World.block_lt_of_cell? w _ hx143_2)).trans hx143_2
           replace hx143_3 := (HB.out.cell (World.block_lt_of_cell? w _ hx143_3)).trans hx143_3
           replace hx143_4 := (HB.out.cell (World.block_lt_of_cell? w _ hx143_4)).trans hx143_4
           replace hx143_5 := (HB.out.cell (World.block_lt_of_cell? w _ hx143_5)).trans hx143_5
           replace hx143_6 := (HB.out.cell (World.block_lt_of_cell? w _ hx143_6)).trans hx143_6
           replace hx143_7 := (HB.out.cell (World.block_lt_of_cell? w _ hx143_7)).trans hx143_7
           have HR143_7 := Aside0.mk hi143_7
           have HC143_7 := Aside0.mk hl143_7
           clear hi143_7 hl143_7
           replace p143 := eq_true p143
           replace q143 := eq_true q143
           have p144 : 0 ≤ (x8_1 : Int) := of_decide_eq_true (by first | (with_reducible assumption) | assumption)
           have q144 : x8_1 < (l0_0.length : Int) := of_decide_eq_true (by first | (with_reducible assumption) | assumption)
           obtain ⟨ad144, A144_7, c144_7, e144, hx144_0, hx144_1, hx144_2, hx144_3, hx144_4, hx144_5, hx144_6, hx144_7, hl144_7, hi144_7⟩ := at_T54 HR0_0.out x8_1 p144 q144
           obtain rfl : ad143 = ad144 := (by injection e144)
           replace hx144_0 := (HB.out.cell (World.block_lt_of_cell? w _ hx144_0)).trans hx144_0
           replace hx144_1 := (HB.out.cell (World.block_lt_of_cell? w _ hx144_1)).trans hx144_1
           replace hx144_2 := (HB.out.cell (World.block_lt_of_cell? w _ hx144_2)).trans hx144_2
           replace hx144_3 := (HB.out.cell (World.block_lt_of_cell? w _ hx144_3)).trans hx144_3
           replace hx144_4 := (HB.out.cell (World.block_lt_of_cell? w _ hx144_4)).trans hx144_4
           replace hx144_5 := (HB.out.cell (World.block_lt_of_cell? w _ hx144_5)).trans hx144_5
           replace hx144_6 := (HB.out.cell (World.block_lt_of_cell? w _ hx144_6)).trans hx144_6
           replace hx144_7 := (HB.out.cell (World.block_lt_of_cell? w _ hx144_7)).trans hx144_7
           have HR144_7 := Aside0.mk hi144_7
           have HC144_7 := Aside0.mk hl144_7
           clear hi144_7 hl144_7
           replace p144 := eq_true p144
           replace q144 := eq_true q144
           have ea_ := Option.some.inj (hx143_7.symm.trans hx144_7)
           injection ea_ with ea_ en_ ec_
           subst ea_
           subst ec_
           clear en_
           have p145 : 0 ≤ (x9_2 : Int) := of_decide_eq_true (by first | (with_reducible assumption) | assumption)
           have q145 : x9_2 < (((rd_T54 l0_0 x8_1).f7).length : Int) := of_decide_eq_true (by first | (with_reducible assumption) | assumption)
           obtain ⟨ad145, e145, hx145_0, hx145_1⟩ := at_T80 HR144_7.out x9_2 p145 q145
           cases e145
           replace hx145_0 := (HB.out.cell (World.block_lt_of_cell? w _ hx145_0)).trans hx145_0
           replace hx145_1 := (HB.out.cell (World.block_lt_of_cell? w _ hx145_1)).trans hx145_1
           replace p145 := eq_true p145
           replace q145 := eq_true q145
           go_wp2
           go_roundg k2
           case measure => have := HK1.out; have := HK2.out; omega
           case rel => exact ⟨(wrap64 (x6_2 + 1)), (x8_1), (wrap64 (x9_2 + 1)), (by first | rfl | (simp; done) | (simp [*]; done)), (by first | rfl | (simp; done) | (simp [*]; done)), (by first | rfl | (simp; done) | (simp [*]; done)), H', ⟨by have := HK1.out; have := HK2.out; omega⟩, ⟨by (with_reducible repeat (first | refine blk_drewN ?_ _ | refine blk_drew ?_ | refine blk_alloc ?_ _)); exact BK142.out⟩, ⟨by repeat (first | (with_reducible first | exact HB.out | apply below_alloc | apply pw_below_drewN | apply below_drew1 | refine below_set ?_ GE142.out) | exact HB.out)⟩⟩
          ·rw [if_neg c10] at H
           have c10b0 : (((rd_T80 ((rd_T54 l0_0 x8_1).f7) x9_2).f1) == a1) = false := beq_eq_false_iff_ne.mpr c10
           have c10b1 : (((rd_T80 ((rd_T54 l0_0 x8_1).f7) x9_2).f1) != a1) = true := bne_iff_ne.mpr c10
           have H' := Aside0.mk H
           clear H
           have hcz12_0 : wr.cell? ⟨gb142, 0, none⟩ = some (.slice A0_0 l0_0.length c0_0) := (blk_cell BK142.out 0).trans rfl
           have hcz12_1 : wr.cell? ⟨gb142, 1, none⟩ = some (.int .i64 a0_1) := (blk_cell BK142.out 1).trans rfl
           have hcz12_2 : wr.cell? ⟨gb142, 2, none⟩ = some (.int .i64 a0_2) := (blk_cell BK142.out 2).trans rfl
           have hfz12_0 := blk_frozen BK142.out 0
           have hfz12_1 := blk_frozen BK142.out 1
           have hfz12_2 := blk_frozen BK142.out 2
           have p143 : 0 ≤ (x8_1 : Int) := of_decide_eq_true (by first | (with_reducible assumption) | assumption)
           have q143 : x8_1 < (l0_0.length : Int) := of_decide_eq_true (by first | (with_reducible assumption) | assumption)
           obtain ⟨ad143, A143_7, c143_7, e143, hx143_0, hx143_1, hx143_2, hx143_3, hx143_4, hx143_5, hx143_6, hx143_7, hl143_7, hi143_7⟩ := at_T54 HR0_0.out x8_1 p143 q143
           cases e143
           replace hx143_0 := (HB.out.cell (World.block_lt_of_cell? w _ hx143_0)).trans hx143_0
           replace hx143_1 := (HB.out.cell (World.block_lt_of_cell? w _ hx143_1)).trans hx143_1
           replace hx143_2 := (HB.out.cell (World.block_lt_of_cell? w _ hx143_2)).trans hx143_2
           replace hx143_3 := (HB.out.cell (World.block_lt_of_cell? w _ hx143_3)).trans hx143_3
           replace hx143_4 := (HB.out.cell (World.block_lt_of_cell? w _ hx143_4)).trans hx143_4
           replace hx143_5 := (HB.out.cell (World.block_lt_of_cell? w _ hx143_5)).trans hx143_5
           replace hx143_6 := (HB.out.cell (World.block_lt_of_cell? w _ hx143_6)).trans hx143_6
           replace hx143_7 := (HB.out.cell (World.block_lt_of_cell? w _ hx143_7)).trans hx143_7
           have HR143_7 := Aside0.mk hi143_7
           have HC143_7 := Aside0.mk hl143_7
           clear hi143_7 hl143_7
           replace p143 := eq_true p143
           replace q143 := eq_true q143
           have p144 : 0 ≤ (x8_1 : Int) := of_decide_eq_true (by first | (with_reducible assumption) | assumption)
           have q144 : x8_1 < (l0_0.length : Int) := of_decide_eq_true (by first | (with_reducible assumption) | assumption)
           obtain ⟨ad144, A144_7, c144_7, e144, hx144_0, hx144_1, hx144_2, hx144_3, hx144_4, hx144_5, hx144_6, hx144_7, hl144_7, hi144_7⟩ := at_T54 HR0_0.out x8_1 p144 q144
           obtain rfl : ad143 = ad144 := (by injection e144)
           replace hx144_0 := (HB.out.cell (World.block_lt_of_cell? w _ hx144_0)).trans hx144_0
           replace hx144_1 := (HB.out.cell (World.block_lt_of_cell? w _ hx144_1)).trans hx144_1
           replace hx144_2 := (HB.out.cell (World.block_lt_of_cell? w _ hx144_2)).trans hx144_2
           replace hx144_3 := (HB.out.cell (World.block_lt_of_cell? w _ hx144_3)).trans hx144_3
           replace hx144_4 := (HB.out.cell (World.block_lt_of_cell? w _ hx144_4)).trans hx144_4
           replace hx144_5 := (HB.out.cell (World.block_lt_of_cell? w _ hx144_5)).trans hx144_5
           replace hx144_6 := (HB.out.cell (World.block_lt_of_cell? w _ hx144_6)).trans hx144_6
           replace hx144_7 := (HB.out.cell (World.block_lt_of_cell? w _ hx144_7)).trans hx144_7
           have HR144_7 := Aside0.mk hi144_7
           have HC144_7 := Aside0.mk hl144_7
           clear hi144_7 hl144_7
           replace p144 := eq_true p144
           replace q144 := eq_true q144
           have ea_ := Option.some.inj (hx143_7.symm.trans hx144_7)
           injection ea_ with ea_ en_ ec_
           subst ea_
           subst ec_
           clear en_
           have p145 : 0 ≤ (x9_2 : Int) := of_decide_eq_true (by first | (with_reducible assumption) | assumption)
           have q145 : x9_2 < (((rd_T54 l0_0 x8_1).f7).length : Int) := of_decide_eq_true (by first | (with_reducible assumption) | assumption)
           obtain ⟨ad145, e145, hx145_0, hx145_1⟩ := at_T80 HR144_7.out x9_2 p145 q145
           cases e145
           replace hx145_0 := (HB.out.cell (World.block_lt_of_cell? w _ hx145_0)).trans hx145_0
           replace hx145_1 := (HB.out.cell (World.block_lt_of_cell? w _ hx145_1)).trans hx145_1
           replace p145 := eq_true p145
           replace q145 := eq_true q145
           go_wp2
           go_roundg k2
           case measure => have := HK1.out; have := HK2.out; omega
           case rel => exact ⟨(x6_2), (x7_2), (wrap64 (x9_2 + 1)), (by first | rfl | (simp; done) | (simp [*]; done)), (by first | rfl | (simp; done) | (simp [*]; done)), (by first | rfl | (simp; done) | (simp [*]; done)), H', ⟨by have := HK1.out; have := HK2.out; omega⟩, ⟨by (with_reducible repeat (first | refine blk_drewN ?_ _ | refine blk_drew ?_ | refine blk_alloc ?_ _)); exact BK142.out⟩, ⟨by repeat (first | (with_reducible first | exact HB.out | apply below_alloc | apply pw_below_drewN | apply below_drew1 | refine below_set ?_ GE142.out) | exact HB.out)⟩⟩
         ·rw [if_neg c9] at H
          exact absurd H (by simp)
        ·rw [if_neg c8] at H
         have c8b0 : decide (x9_2 < (((rd_T54 l0_0 x8_1).f7).length : Int)) = false := decide_eq_false c8
         clear c8
         have H' := Aside0.mk H
         clear H
         have hcz13_0 : wr.cell? ⟨gb142, 0, none⟩ = some (.slice A0_0 l0_0.length c0_0) := (blk_cell BK142.out 0).trans rfl
         have hcz13_1 : wr.cell? ⟨gb142, 1, none⟩ = some (.int .i64 a0_1) := (blk_cell BK142.out 1).trans rfl
         have hcz13_2 : wr.cell? ⟨gb142, 2, none⟩ = some (.int .i64 a0_2) := (blk_cell BK142.out 2).trans rfl
         have hfz13_0 := blk_frozen BK142.out 0
         have hfz13_1 := blk_frozen BK142.out 1
         have hfz13_2 := blk_frozen BK142.out 2
         have p143 : 0 ≤ (x8_1 : Int) := of_decide_eq_true (by first | (with_reducible assumption) | assumption)
         have q143 : x8_1 < (l0_0.length : Int) := of_decide_eq_true (by first | (with_reducible assumption) | assumption)
         obtain ⟨ad143, A143_7, c143_7, e143, hx143_0, hx143_1, hx143_2, hx143_3, hx143_4, hx143_5, hx143_6, hx143_7, hl143_7, hi143_7⟩ := at_T54 HR0_0.out x8_1 p143 q143
         cases e143
         replace hx143_0 := (HB.out.cell (World.block_lt_of_cell? w _ hx143_0)).trans hx143_0
         replace hx143_1 := (HB.out.cell (World.block_lt_of_cell? w _ hx143_1)).trans hx143_1
         replace hx143_2 := (HB.out.cell (World.block_lt_of_cell? w _ hx143_2)).trans hx143_2
         replace hx143_3 := (HB.out.cell (World.block_lt_of_cell? w _ hx143_3)).trans hx143_3
         replace hx143_4 := (HB.out.cell (World.block_lt_of_cell? w _ hx143_4)).trans hx143_4
         replace hx143_5 := (HB.out.cell (World.block_lt_of_cell? w _ hx143_5)).trans hx143_5
         replace hx143_6 := (HB.out.cell (World.block_lt_of_cell? w _ hx143_6)).trans hx143_6
         replace hx143_7 := (HB.out.cell (World.block_lt_of_cell? w _ hx143_7)).trans hx143_7
         have HR143_7 := Aside0.mk hi143_7
         have HC143_7 := Aside0.mk hl143_7
         clear hi143_7 hl143_7
         replace p143 := eq_true p143
         replace q143 := eq_true q143
         go_wp2
         go_roundg k2
         case measure => have := HK1.out; have := HK2.out; omega
         case rel => exact ⟨(x6_2), (x7_2), (wrap64 (x8_1 + 1)), (by first | rfl | (simp; done) | (simp [*]; done)), (by first | rfl | (simp; done) | (simp [*]; done)), (by first | rfl | (simp; done) | (simp [*]; done)), H', ⟨by have := HK1.out; have := HK2.out; omega⟩, ⟨by (with_reducible repeat (first | refine blk_drewN ?_ _ | refine blk_drew ?_ | refine blk_alloc ?_ _)); exact BK142.out⟩, ⟨by repeat (first | (with_reducible first | exact HB.out | apply below_alloc | apply pw_below_drewN | apply below_drew1 | refine below_set ?_ GE142.out) | exact HB.out)⟩⟩
       ·rw [if_neg c7] at H
        exact absurd H (by simp)
      ·rw [if_neg c6] at H
       exact absurd H (by simp)
   ·rw [if_neg c4] at H
    have c4b0 : decide (x8_1 < (l0_0.length : Int)) = false := decide_eq_false c4
    clear c4
    simp only [Option.some.injEq, Prod.mk.injEq] at H
    obtain ⟨rfl, rfl⟩ := H
    have hcz14_0 : wr.cell? ⟨gb142, 0, none⟩ = some (.slice A0_0 l0_0.length c0_0) := (blk_cell BK142.out 0).trans rfl
    have hcz14_1 : wr.cell? ⟨gb142, 1, none⟩ = some (.int .i64 a0_1) := (blk_cell BK142.out 1).trans rfl
    have hcz14_2 : wr.cell? ⟨gb142, 2, none⟩ = some (.int .i64 a0_2) := (blk_cell BK142.out 2).trans rfl
    have hfz14_0 := blk_frozen BK142.out 0
    have hfz14_1 := blk_frozen BK142.out 1
    have hfz14_2 := blk_frozen BK142.out 2
    go_wp2
    go_ret2
    exact ⟨by first | rfl | (simp [errW_none, errW_some] <;> rfl) | (simp [*, errW_none, errW_some] <;> rfl), by repeat (first | (with_reducible first | exact HB.out | apply below_alloc | apply pw_below_drewN | apply below_drew1 | refine below_set ?_ GE142.out) | exact HB.out)⟩
def flagstoneref06_rooted.l0 : Nat → Int → Int → List (S54) → Int → Int → Option (Bool)
 | 0, _, _, _, _, _ => none
 | k + 1, x1, x5, x147000, x147001, x147002 => if x5 ≤ (x147000.length : Int) then (if x1 = 0 then (some true) else ((flagstoneref06_Get.f x147000 x147001 x147002 x1).bind fun bt147 => (if bt147.2.2.2.2.2.2.2.2 = true then (if bt147.1 = 2 then (flagstoneref06_rooted.l0 k bt147.2.2.2.2.2.1 (wrap64 (x5 + 1)) x147000 x147001 x147002) else (some false)) else (some false)))) else (some false)
def flagstoneref06_rooted.f (k : Nat) (l0_0 : List (S54)) (a0_1 : Int) (a0_2 : Int) (a1 : Int) : Option (Bool) := flagstoneref06_rooted.l0 k a1 0 l0_0 a0_1 a0_2
theorem flagstoneref06_rooted.mono_l : ∀ k, (∀ y0 y1 y2 y3 y4, LeO (flagstoneref06_rooted.l0 k y0 y1 y2 y3 y4) (flagstoneref06_rooted.l0 (k + 1) y0 y1 y2 y3 y4))
 | 0 => fun _ _ _ _ _ r h => by simp [flagstoneref06_rooted.l0] at h
 | k + 1 => by
  have ih0 := flagstoneref06_rooted.mono_l k
  ·intro y0 y1 y2 y3 y4
   unfold flagstoneref06_rooted.l0
   repeat' first
   | (with_reducible exact ih0 _ _ _ _ _)
   | (with_reducible exact LeO.refl _)
   | (with_reducible exact LeO.none _)
   | (with_reducible refine LeO.ite ?_ ?_)
   | (with_reducible refine LeO.bind ?_ (fun _ => ?_))
   | exact ih0 _ _ _ _ _
   | exact LeO.none _
   | refine LeO.ite ?_ ?_
   | refine LeO.bind ?_ (fun _ => ?_)
theorem flagstoneref06_rooted.mono : ∀ a0 a1 a2 a3 k, LeO (flagstoneref06_rooted.f k a0 a1 a2 a3) (flagstoneref06_rooted.f (k + 1) a0 a1 a2 a3) := by
 intro a0 a1 a2 a3 k
 have ih0 := flagstoneref06_rooted.mono_l k
 unfold flagstoneref06_rooted.f
 repeat' first
   | (with_reducible exact ih0 _ _ _ _ _)
   | (with_reducible exact LeO.refl _)
   | (with_reducible exact LeO.none _)
   | (with_reducible refine LeO.ite ?_ ?_)
   | (with_reducible refine LeO.bind ?_ (fun _ => ?_))
   | exact ih0 _ _ _ _ _
   | exact LeO.none _
   | refine LeO.ite ?_ ?_
   | refine LeO.bind ?_ (fun _ => ?_)
set_option maxHeartbeats 8000000 in
set_option maxRecDepth 100000 in
theorem flagstoneref06_rooted.calls (k : Nat) (A0_0 : Option Addr) (c0_0 : Nat) (l0_0 : List (S54)) (a0_1 : Int) (a0_2 : Int) (a1 : Int) (r : Bool) (w : World) (hr0_0 : Kd.C k54 w A0_0 l0_0.length l0_0) (hc0_0 : l0_0.length ≤ c0_0) (h : flagstoneref06_rooted.f k l0_0 a0_1 a0_2 a1 = some r) :
  Calls Tryd.prog 49 #[.agg #[.slice A0_0 l0_0.length c0_0, .int .i64 a0_1, .int .i64 a0_2], .int .i64 a1] w fun e w' => e = .returned (.bool r) ∧ Below w.heap.size w w' := by
 have hu37 := Tryd.underlying37
 have hu54 := Tryd.underlying54
 have HR0_0 := Aside0.mk hr0_0
 have HC0_0 := Aside0.mk hc0_0
 clear hr0_0 hc0_0
 have HB := Aside0.mk (Below.refl w.heap.size w)
 have H : (flagstoneref06_rooted.l0 k a1 0 l0_0 a0_1 a0_2) = some r := h
 clear h
 have H' := Aside0.mk H
 clear H
 go_enter Tryd.func49, Tryd.ntmps49
 go_wp2_with (first | ((with_reducible refine gate_dst (N := 2) rfl ?_); refine box_event ?hg (N := 2) ?hd (cs := #[.slice A0_0 l0_0.length c0_0, .int .i64 a0_1, .int .i64 a0_2]) (t := 37) ?hr ?_; (case hd => rfl); (case hg => rfl); (case hr => first | (go_simp; done) | (go_simp; rfl)); intro gb146 hg w3 hbox hb; have n0_ := Aside0.mk (below_step (by repeat (first | (with_reducible first | exact HB.out | apply below_alloc | apply pw_below_drewN | apply below_drew1) | exact HB.out)) hb); have n1_ := Aside0.mk (hbox); have n2_ := Aside0.mk ((by rw [hg]; exact (below_size (by repeat (first | (with_reducible first | exact HB.out | apply below_alloc | apply pw_below_drewN | apply below_drew1) | exact HB.out))) : w.heap.size ≤ gb146)); have n3_ := Aside0.mk ((by rw [hg]; exact (below_size (by repeat (first | (with_reducible first | exact HB.out | apply below_alloc | apply pw_below_drewN | apply below_drew1) | exact HB.out))) : w.heap.size ≤ gb146)); clear HB; have HB := n0_; have BK146 := n1_; have GW146 := n2_; have GE146 := n3_; clear n0_ n1_ n2_ n3_; clear hb hbox hg))
 go_loopg [1, 5] k (fun kq v1 v5 w' => ∃ (x1_1 : Int) (x5_1 : Int), v1 = .int .i64 x1_1 ∧ v5 = .int .i64 x5_1 ∧ Aside0 (flagstoneref06_rooted.l0 kq x1_1 x5_1 l0_0 a0_1 a0_2 = some r) ∧ Aside0 (kq ≤ k) ∧ Aside0 (w'.heap[gb146]? = some (.cells #[(.slice A0_0 l0_0.length c0_0), .int .i64 a0_1, .int .i64 a0_2] 37 (0, 0))) ∧ Aside0 (Below w.heap.size w w'))
 case atStart => exact ⟨(a1), (0), (by first | rfl | (simp; done) | (simp [*]; done)), (by first | rfl | (simp; done) | (simp [*]; done)), H', ⟨Nat.le_refl _⟩, ⟨by (with_reducible repeat (first | refine blk_drewN ?_ _ | refine blk_drew ?_ | refine blk_alloc ?_ _)); exact BK146.out⟩, ⟨by repeat (first | (with_reducible first | exact HB.out | apply below_alloc | apply pw_below_drewN | apply below_drew1 | refine below_set ?_ GE146.out) | exact HB.out)⟩⟩
 case round =>
  clear H'
  try clear p2
  obtain ⟨x1_1, x5_1, rfl, rfl, HA, HK1, BK146, HB⟩ := hrel
  cases gk with
  | zero => exact absurd HA.out (by simp [flagstoneref06_rooted.l0])
  | succ k1 =>
   have H := HA.out
   clear HA
   simp only [flagstoneref06_rooted.l0] at H
   by_cases c4 : x5_1 ≤ (l0_0.length : Int)
   ·rw [if_pos c4] at H
    have c4b0 : decide (x5_1 ≤ (l0_0.length : Int)) = true := decide_eq_true c4
    clear c4
    by_cases c5 : x1_1 = 0
    ·rw [if_pos c5] at H
     have c5b0 : (x1_1 == 0) = true := beq_iff_eq.mpr c5
     have c5b1 : (x1_1 != 0) = false := bne_eq_false_iff_eq.mpr c5
     clear c5
     obtain rfl := Option.some.inj H
     have hcz6_0 : wr.cell? ⟨gb146, 0, none⟩ = some (.slice A0_0 l0_0.length c0_0) := (blk_cell BK146.out 0).trans rfl
     have hcz6_1 : wr.cell? ⟨gb146, 1, none⟩ = some (.int .i64 a0_1) := (blk_cell BK146.out 1).trans rfl
     have hcz6_2 : wr.cell? ⟨gb146, 2, none⟩ = some (.int .i64 a0_2) := (blk_cell BK146.out 2).trans rfl
     have hfz6_0 := blk_frozen BK146.out 0
     have hfz6_1 := blk_frozen BK146.out 1
     have hfz6_2 := blk_frozen BK146.out 2
     go_wp2
     go_ret
     exact ⟨by first | rfl | (simp [errW_none, errW_some] <;> rfl) | (simp [*, errW_none, errW_some] <;> rfl), by repeat (first | (with_reducible first | exact HB.out | apply below_alloc | apply pw_below_drewN | apply below_drew1 | refine below_set ?_ GE146.out) | exact HB.out)⟩
    ·rw [if_neg c5] at H
     have c5b0 : (x1_1 == 0) = false := beq_eq_false_iff_ne.mpr c5
     have c5b1 : (x1_1 != 0) = true := bne_iff_ne.mpr c5
     replace H := Option.bind_eq_some_iff.mp H
     obtain ⟨⟨t147, t148, t149, t150, t151, t152, t153, t154, t157⟩, A70, H⟩ := H
     replace H : (if t157 = true then (if t147 = 2 then (flagstoneref06_rooted.l0 k1 t152 (wrap64 (x5_1 + 1)) l0_0 a0_1 a0_2) else (some false)) else (some false)) = some r := H
     have A7 := Aside0.mk A70
     clear A70
     by_cases c8 : t157 = true
     ·subst c8
      have H1 : (if t147 = 2 then (flagstoneref06_rooted.l0 k1 t152 (wrap64 (x5_1 + 1)) l0_0 a0_1 a0_2) else (some false)) = some r := by rw [if_pos rfl] at H; exact H
      clear H
      have H := H1
      clear H1
      by_cases c9 : t147 = 2
      ·rw [if_pos c9] at H
       have c9b0 : (t147 == 2) = true := beq_iff_eq.mpr c9
       have c9b1 : (t147 != 2) = false := bne_eq_false_iff_eq.mpr c9
       clear c9
       have H' := Aside0.mk H
       clear H
       have hcz10_0 : wr.cell? ⟨gb146, 0, none⟩ = some (.slice A0_0 l0_0.length c0_0) := (blk_cell BK146.out 0).trans rfl
       have hcz10_1 : wr.cell? ⟨gb146, 1, none⟩ = some (.int .i64 a0_1) := (blk_cell BK146.out 1).trans rfl
       have hcz10_2 : wr.cell? ⟨gb146, 2, none⟩ = some (.int .i64 a0_2) := (blk_cell BK146.out 2).trans rfl
       have hfz10_0 := blk_frozen BK146.out 0
       have hfz10_1 := blk_frozen BK146.out 1
       have hfz10_2 := blk_frozen BK146.out 2
       go_wp2_with (first | ((with_reducible refine gate_callee (f := 28) rfl ?_); refine goesL_ (some 20) rfl rfl Tryd.func28 (by kernel_rfl) rfl #[.agg #[.slice A0_0 l0_0.length c0_0, .int .i64 a0_1, .int .i64 a0_2], .int .i64 x1_1] rfl (by (try simp only [List.map_toArray, List.map_cons, List.map_nil]); first | done | rfl | (simp only [List.length_drop, List.length_take]; rfl)) ?_; (with_reducible refine (flagstoneref06_Get.calls (fun k_ => k_ < w.heap.size) _ _ l0_0 a0_1 a0_2 x1_1 t147 t148 t149 t150 t151 t152 t153 t154 true _ ?side1 A7.out).mono ?_); (case side1 => exact Kd.V_mk HC0_0.out (Kd.F_below (Kd.C_F k54_heap HR0_0.out) (by repeat (first | (with_reducible first | exact HB.out | apply below_alloc | apply pw_below_drewN | apply below_drew1 | refine below_set ?_ GE146.out) | exact HB.out)))); rintro e w11 ⟨v155, rfl, ho0, hb⟩; refine ⟨_, rfl, ?_⟩; have n0_ := Aside0.mk (Kd.V_lower (Kd.V_mono (ok' := fun k_ => k_ ≠ gb146) ho0 (fun k_ hk_ => Or.elim hk_ (fun hs_ => fun e_ => Nat.not_le.2 hs_ (by rw [e_]; exact GW146.out)) (fun hn_ => (Kd.freshB (g := gb146) (o := .cells #[.slice A0_0 l0_0.length c0_0, .int .i64 a0_1, .int .i64 a0_2] 37 (0, 0)) (by (with_reducible repeat (first | refine blk_drewN ?_ _ | refine blk_drew ?_ | refine blk_alloc ?_ _)); exact BK146.out) k_ hn_)))) (below_size (by repeat (first | (with_reducible first | exact HB.out | apply below_alloc | apply pw_below_drewN | apply below_drew1 | refine below_set ?_ GE146.out) | exact HB.out)))); have n1_ := Aside0.mk (blk_below (g := gb146) (o := .cells #[.slice A0_0 l0_0.length c0_0, .int .i64 a0_1, .int .i64 a0_2] 37 (0, 0)) (by (with_reducible repeat (first | refine blk_drewN ?_ _ | refine blk_drew ?_ | refine blk_alloc ?_ _)); exact BK146.out) hb); have n2_ := Aside0.mk (below_step (by repeat (first | (with_reducible first | exact HB.out | apply below_alloc | apply pw_below_drewN | apply below_drew1 | refine below_set ?_ GE146.out) | exact HB.out)) hb); clear BK146; clear HB; have HO156 := n0_; have BK146 := n1_; have HB := n2_; clear n0_ n1_ n2_; (try clear hb); (try clear hb2); (try clear hk); (try clear hi); (try clear ho0)) | ((with_reducible refine gate_dst (N := 6) rfl ?_); refine box_event ?hg (N := 6) ?hd (cs := #[.int .i64 0, .int .i64 0, .int .i64 0, .int .i64 0, .int .i64 0, .int .i64 0, .string (⟨#[]⟩ : ByteArray), .slice none 0 0]) (t := 54) ?hr ?_; (case hd => rfl); (case hg => rfl); (case hr => first | (go_simp; done) | (go_simp; rfl)); intro gb158 hg w12 hbox hb; have n0_ := Aside0.mk (Kd.V_below (Kd.V_elderB (by (with_reducible repeat (first | apply Kd.V_alloc | apply Kd.V_drewN | apply Kd.V_drew)); exact HO156.out) gb158 (Nat.le_of_eq hg.symm)) hb); have n1_ := Aside0.mk (blk_below (g := gb146) (o := .cells #[.slice A0_0 l0_0.length c0_0, .int .i64 a0_1, .int .i64 a0_2] 37 (0, 0)) (by (with_reducible repeat (first | refine blk_drewN ?_ _ | refine blk_drew ?_ | refine blk_alloc ?_ _)); exact BK146.out) hb); have n2_ := Aside0.mk (below_step (by repeat (first | (with_reducible first | exact HB.out | apply below_alloc | apply pw_below_drewN | apply below_drew1 | refine below_set ?_ GE146.out) | exact HB.out)) hb); have n3_ := Aside0.mk (hbox); have n4_ := Aside0.mk ((by rw [hg]; exact (below_size (by repeat (first | (with_reducible first | exact HB.out | apply below_alloc | apply pw_below_drewN | apply below_drew1 | refine below_set ?_ GE146.out) | exact HB.out))) : w.heap.size ≤ gb158)); have n5_ := Aside0.mk ((by rw [hg]; exact (below_size (by repeat (first | (with_reducible first | exact HB.out | apply below_alloc | apply pw_below_drewN | apply below_drew1 | refine below_set ?_ GE146.out) | exact HB.out))) : w.heap.size ≤ gb158)); have n6_ := Aside0.mk ((by rw [hg]; exact Nat.ne_of_lt (blk_lt (g := gb146) (o := .cells #[.slice A0_0 l0_0.length c0_0, .int .i64 a0_1, .int .i64 a0_2] 37 (0, 0)) (by (with_reducible repeat (first | refine blk_drewN ?_ _ | refine blk_drew ?_ | refine blk_alloc ?_ _)); exact BK146.out)) : gb146 ≠ gb158)); have n7_ := Aside0.mk ((by rw [hg]; exact Nat.ne_of_gt (blk_lt (g := gb146) (o := .cells #[.slice A0_0 l0_0.length c0_0, .int .i64 a0_1, .int .i64 a0_2] 37 (0, 0)) (by (with_reducible repeat (first | refine blk_drewN ?_ _ | refine blk_drew ?_ | refine blk_alloc ?_ _)); exact BK146.out)) : gb158 ≠ gb146)); clear HO156; clear BK146; clear HB; have HO156 := n0_; have BK146 := n1_; have HB := n2_; have BK158 := n3_; have GW158 := n4_; have GE158 := n5_; have NB146_158 := n6_; have NB158_146 := n7_; clear n0_ n1_ n2_ n3_ n4_ n5_ n6_ n7_; clear hb hbox hg; have hnb13 := NB158_146.out; have hnc13 := NB146_158.out; have hcz14_0 : w12.cell? ⟨gb158, 0, none⟩ = some (.int .i64 0) := (blk_cell BK158.out 0).trans rfl; have hcz14_1 : w12.cell? ⟨gb158, 1, none⟩ = some (.int .i64 0) := (blk_cell BK158.out 1).trans rfl; have hcz14_2 : w12.cell? ⟨gb158, 2, none⟩ = some (.int .i64 0) := (blk_cell BK158.out 2).trans rfl; have hcz14_3 : w12.cell? ⟨gb158, 3, none⟩ = some (.int .i64 0) := (blk_cell BK158.out 3).trans rfl; have hcz14_4 : w12.cell? ⟨gb158, 4, none⟩ = some (.int .i64 0) := (blk_cell BK158.out 4).trans rfl; have hcz14_5 : w12.cell? ⟨gb158, 5, none⟩ = some (.int .i64 0) := (blk_cell BK158.out 5).trans rfl; have hcz14_6 : w12.cell? ⟨gb158, 6, none⟩ = some (.string (⟨#[]⟩ : ByteArray)) := (blk_cell BK158.out 6).trans rfl; have hcz14_7 : w12.cell? ⟨gb158, 7, none⟩ = some (.slice none 0 0) := (blk_cell BK158.out 7).trans rfl; have hfz14_0 := blk_frozen BK158.out 0; have hfz14_1 := blk_frozen BK158.out 1; have hfz14_2 := blk_frozen BK158.out 2; have hfz14_3 := blk_frozen BK158.out 3; have hfz14_4 := blk_frozen BK158.out 4; have hfz14_5 := blk_frozen BK158.out 5; have hfz14_6 := blk_frozen BK158.out 6; have hfz14_7 := blk_frozen BK158.out 7; obtain ⟨Ao15, co15, eo15⟩ := Kd.V_slice HO156.out; subst eo15))
       go_roundg k1
       case measure => have := HK1.out; omega
       case rel => exact ⟨(t152), (wrap64 (x5_1 + 1)), (by first | rfl | (simp; done) | (simp [*]; done)), (by first | rfl | (simp; done) | (simp [*]; done)), H', ⟨by have := HK1.out; omega⟩, ⟨by (with_reducible repeat (first | refine blk_drewN ?_ _ | refine blk_drew ?_ | refine blk_alloc ?_ _)); refine blk_far ?_ NB146_158.out _; (with_reducible repeat (first | refine blk_drewN ?_ _ | refine blk_drew ?_ | refine blk_alloc ?_ _)); refine blk_far ?_ NB146_158.out _; (with_reducible repeat (first | refine blk_drewN ?_ _ | refine blk_drew ?_ | refine blk_alloc ?_ _)); refine blk_far ?_ NB146_158.out _; (with_reducible repeat (first | refine blk_drewN ?_ _ | refine blk_drew ?_ | refine blk_alloc ?_ _)); refine blk_far ?_ NB146_158.out _; (with_reducible repeat (first | refine blk_drewN ?_ _ | refine blk_drew ?_ | refine blk_alloc ?_ _)); refine blk_far ?_ NB146_158.out _; (with_reducible repeat (first | refine blk_drewN ?_ _ | refine blk_drew ?_ | refine blk_alloc ?_ _)); refine blk_far ?_ NB146_158.out _; (with_reducible repeat (first | refine blk_drewN ?_ _ | refine blk_drew ?_ | refine blk_alloc ?_ _)); refine blk_far ?_ NB146_158.out _; (with_reducible repeat (first | refine blk_drewN ?_ _ | refine blk_drew ?_ | refine blk_alloc ?_ _)); refine blk_far ?_ NB146_158.out _; (with_reducible repeat (first | refine blk_drewN ?_ _ | refine blk_drew ?_ | refine blk_alloc ?_ _)); exact BK146.out⟩, ⟨by repeat (first | (with_reducible first | exact HB.out | apply below_alloc | apply pw_below_drewN | apply below_drew1 | refine below_set ?_ GE146.out | refine below_set ?_ GE158.out) | exact HB.out)⟩⟩
      ·rw [if_neg c9] at H
       have c9b0 : (t147 == 2) = false := beq_eq_false_iff_ne.mpr c9
       have c9b1 : (t147 != 2) = true := bne_iff_ne.mpr c9
       obtain rfl := Option.some.inj H
       have hcz16_0 : wr.cell? ⟨gb146, 0, none⟩ = some (.slice A0_0 l0_0.length c0_0) := (blk_cell BK146.out 0).trans rfl
       have hcz16_1 : wr.cell? ⟨gb146, 1, none⟩ = some (.int .i64 a0_1) := (blk_cell BK146.out 1).trans rfl
       have hcz16_2 : wr.cell? ⟨gb146, 2, none⟩ = some (.int .i64 a0_2) := (blk_cell BK146.out 2).trans rfl
       have hfz16_0 := blk_frozen BK146.out 0
       have hfz16_1 := blk_frozen BK146.out 1
       have hfz16_2 := blk_frozen BK146.out 2
       go_wp2_with (first | ((with_reducible refine gate_callee (f := 28) rfl ?_); refine goesL_ (some 20) rfl rfl Tryd.func28 (by kernel_rfl) rfl #[.agg #[.slice A0_0 l0_0.length c0_0, .int .i64 a0_1, .int .i64 a0_2], .int .i64 x1_1] rfl (by (try simp only [List.map_toArray, List.map_cons, List.map_nil]); first | done | rfl | (simp only [List.length_drop, List.length_take]; rfl)) ?_; (with_reducible refine (flagstoneref06_Get.calls (fun k_ => k_ < w.heap.size) _ _ l0_0 a0_1 a0_2 x1_1 t147 t148 t149 t150 t151 t152 t153 t154 true _ ?side1 A7.out).mono ?_); (case side1 => exact Kd.V_mk HC0_0.out (Kd.F_below (Kd.C_F k54_heap HR0_0.out) (by repeat (first | (with_reducible first | exact HB.out | apply below_alloc | apply pw_below_drewN | apply below_drew1 | refine below_set ?_ GE146.out) | exact HB.out)))); rintro e w17 ⟨v155, rfl, ho0, hb⟩; refine ⟨_, rfl, ?_⟩; have n0_ := Aside0.mk (Kd.V_lower (Kd.V_mono (ok' := fun k_ => k_ ≠ gb146) ho0 (fun k_ hk_ => Or.elim hk_ (fun hs_ => fun e_ => Nat.not_le.2 hs_ (by rw [e_]; exact GW146.out)) (fun hn_ => (Kd.freshB (g := gb146) (o := .cells #[.slice A0_0 l0_0.length c0_0, .int .i64 a0_1, .int .i64 a0_2] 37 (0, 0)) (by (with_reducible repeat (first | refine blk_drewN ?_ _ | refine blk_drew ?_ | refine blk_alloc ?_ _)); exact BK146.out) k_ hn_)))) (below_size (by repeat (first | (with_reducible first | exact HB.out | apply below_alloc | apply pw_below_drewN | apply below_drew1 | refine below_set ?_ GE146.out) | exact HB.out)))); have n1_ := Aside0.mk (blk_below (g := gb146) (o := .cells #[.slice A0_0 l0_0.length c0_0, .int .i64 a0_1, .int .i64 a0_2] 37 (0, 0)) (by (with_reducible repeat (first | refine blk_drewN ?_ _ | refine blk_drew ?_ | refine blk_alloc ?_ _)); exact BK146.out) hb); have n2_ := Aside0.mk (below_step (by repeat (first | (with_reducible first | exact HB.out | apply below_alloc | apply pw_below_drewN | apply below_drew1 | refine below_set ?_ GE146.out) | exact HB.out)) hb); clear BK146; clear HB; have HO156 := n0_; have BK146 := n1_; have HB := n2_; clear n0_ n1_ n2_; (try clear hb); (try clear hb2); (try clear hk); (try clear hi); (try clear ho0)) | ((with_reducible refine gate_dst (N := 6) rfl ?_); refine box_event ?hg (N := 6) ?hd (cs := #[.int .i64 0, .int .i64 0, .int .i64 0, .int .i64 0, .int .i64 0, .int .i64 0, .string (⟨#[]⟩ : ByteArray), .slice none 0 0]) (t := 54) ?hr ?_; (case hd => rfl); (case hg => rfl); (case hr => first | (go_simp; done) | (go_simp; rfl)); intro gb158 hg w18 hbox hb; have n0_ := Aside0.mk (Kd.V_below (Kd.V_elderB (by (with_reducible repeat (first | apply Kd.V_alloc | apply Kd.V_drewN | apply Kd.V_drew)); exact HO156.out) gb158 (Nat.le_of_eq hg.symm)) hb); have n1_ := Aside0.mk (blk_below (g := gb146) (o := .cells #[.slice A0_0 l0_0.length c0_0, .int .i64 a0_1, .int .i64 a0_2] 37 (0, 0)) (by (with_reducible repeat (first | refine blk_drewN ?_ _ | refine blk_drew ?_ | refine blk_alloc ?_ _)); exact BK146.out) hb); have n2_ := Aside0.mk (below_step (by repeat (first | (with_reducible first | exact HB.out | apply below_alloc | apply pw_below_drewN | apply below_drew1 | refine below_set ?_ GE146.out) | exact HB.out)) hb); have n3_ := Aside0.mk (hbox); have n4_ := Aside0.mk ((by rw [hg]; exact (below_size (by repeat (first | (with_reducible first | exact HB.out | apply below_alloc | apply pw_below_drewN | apply below_drew1 | refine below_set ?_ GE146.out) | exact HB.out))) : w.heap.size ≤ gb158)); have n5_ := Aside0.mk ((by rw [hg]; exact (below_size (by repeat (first | (with_reducible first | exact HB.out | apply below_alloc | apply pw_below_drewN | apply below_drew1 | refine below_set ?_ GE146.out) | exact HB.out))) : w.heap.size ≤ gb158)); have n6_ := Aside0.mk ((by rw [hg]; exact Nat.ne_of_lt (blk_lt (g := gb146) (o := .cells #[.slice A0_0 l0_0.length c0_0, .int .i64 a0_1, .int .i64 a0_2] 37 (0, 0)) (by (with_reducible repeat (first | refine blk_drewN ?_ _ | refine blk_drew ?_ | refine blk_alloc ?_ _)); exact BK146.out)) : gb146 ≠ gb158)); have n7_ := Aside0.mk ((by rw [hg]; exact Nat.ne_of_gt (blk_lt (g := gb146) (o := .cells #[.slice A0_0 l0_0.length c0_0, .int .i64 a0_1, .int .i64 a0_2] 37 (0, 0)) (by (with_reducible repeat (first | refine blk_drewN ?_ _ | refine blk_drew ?_ | refine blk_alloc ?_ _)); exact BK146.out)) : gb158 ≠ gb146)); clear HO156; clear BK146; clear HB; have HO156 := n0_; have BK146 := n1_; have HB := n2_; have BK158 := n3_; have GW158 := n4_; have GE158 := n5_; have NB146_158 := n6_; have NB158_146 := n7_; clear n0_ n1_ n2_ n3_ n4_ n5_ n6_ n7_; clear hb hbox hg; have hnb19 := NB158_146.out; have hnc19 := NB146_158.out; have hcz20_0 : w18.cell? ⟨gb158, 0, none⟩ = some (.int .i64 0) := (blk_cell BK158.out 0).trans rfl; have hcz20_1 : w18.cell? ⟨gb158, 1, none⟩ = some (.int .i64 0) := (blk_cell BK158.out 1).trans rfl; have hcz20_2 : w18.cell? ⟨gb158, 2, none⟩ = some (.int .i64 0) := (blk_cell BK158.out 2).trans rfl; have hcz20_3 : w18.cell? ⟨gb158, 3, none⟩ = some (.int .i64 0) := (blk_cell BK158.out 3).trans rfl; have hcz20_4 : w18.cell? ⟨gb158, 4, none⟩ = some (.int .i64 0) := (blk_cell BK158.out 4).trans rfl; have hcz20_5 : w18.cell? ⟨gb158, 5, none⟩ = some (.int .i64 0) := (blk_cell BK158.out 5).trans rfl; have hcz20_6 : w18.cell? ⟨gb158, 6, none⟩ = some (.string (⟨#[]⟩ : ByteArray)) := (blk_cell BK158.out 6).trans rfl; have hcz20_7 : w18.cell? ⟨gb158, 7, none⟩ = some (.slice none 0 0) := (blk_cell BK158.out 7).trans rfl; have hfz20_0 := blk_frozen BK158.out 0; have hfz20_1 := blk_frozen BK158.out 1; have hfz20_2 := blk_frozen BK158.out 2; have hfz20_3 := blk_frozen BK158.out 3; have hfz20_4 := blk_frozen BK158.out 4; have hfz20_5 := blk_frozen BK158.out 5; have hfz20_6 := blk_frozen BK158.out 6; have hfz20_7 := blk_frozen BK158.out 7; obtain ⟨Ao21, co21, eo21⟩ := Kd.V_slice HO156.out; subst eo21))
       go_ret
       exact ⟨by first | rfl | (simp [errW_none, errW_some] <;> rfl) | (simp [*, errW_none, errW_some] <;> rfl), by repeat (first | (with_reducible first | exact HB.out | apply below_alloc | apply pw_below_drewN | apply below_drew1 | refine below_set ?_ GE146.out | refine below_set ?_ GE158.out) | exact HB.out)⟩
     ·replace c8 := Bool.eq_false_iff.mpr c8
      subst c8
      have H1 : (some false) = some r := by rw [if_neg (show ¬ (false = true) by decide)] at H; exact H
      clear H
      have H := H1
      clear H1
      obtain rfl := Option.some.inj H
      have hcz22_0 : wr.cell? ⟨gb146, 0, none⟩ = some (.slice A0_0 l0_0.length c0_0) := (blk_cell BK146.out 0).trans rfl
      have hcz22_1 : wr.cell? ⟨gb146, 1, none⟩ = some (.int .i64 a0_1) := (blk_cell BK146.out 1).trans rfl
      have hcz22_2 : wr.cell? ⟨gb146, 2, none⟩ = some (.int .i64 a0_2) := (blk_cell BK146.out 2).trans rfl
      have hfz22_0 := blk_frozen BK146.out 0
      have hfz22_1 := blk_frozen BK146.out 1
      have hfz22_2 := blk_frozen BK146.out 2
      go_wp2_with (first | ((with_reducible refine gate_callee (f := 28) rfl ?_); refine goesL_ (some 20) rfl rfl Tryd.func28 (by kernel_rfl) rfl #[.agg #[.slice A0_0 l0_0.length c0_0, .int .i64 a0_1, .int .i64 a0_2], .int .i64 x1_1] rfl (by (try simp only [List.map_toArray, List.map_cons, List.map_nil]); first | done | rfl | (simp only [List.length_drop, List.length_take]; rfl)) ?_; (with_reducible refine (flagstoneref06_Get.calls (fun k_ => k_ < w.heap.size) _ _ l0_0 a0_1 a0_2 x1_1 t147 t148 t149 t150 t151 t152 t153 t154 false _ ?side1 A7.out).mono ?_); (case side1 => exact Kd.V_mk HC0_0.out (Kd.F_below (Kd.C_F k54_heap HR0_0.out) (by repeat (first | (with_reducible first | exact HB.out | apply below_alloc | apply pw_below_drewN | apply below_drew1 | refine below_set ?_ GE146.out) | exact HB.out)))); rintro e w23 ⟨v155, rfl, ho0, hb⟩; refine ⟨_, rfl, ?_⟩; have n0_ := Aside0.mk (Kd.V_lower (Kd.V_mono (ok' := fun k_ => k_ ≠ gb146) ho0 (fun k_ hk_ => Or.elim hk_ (fun hs_ => fun e_ => Nat.not_le.2 hs_ (by rw [e_]; exact GW146.out)) (fun hn_ => (Kd.freshB (g := gb146) (o := .cells #[.slice A0_0 l0_0.length c0_0, .int .i64 a0_1, .int .i64 a0_2] 37 (0, 0)) (by (with_reducible repeat (first | refine blk_drewN ?_ _ | refine blk_drew ?_ | refine blk_alloc ?_ _)); exact BK146.out) k_ hn_)))) (below_size (by repeat (first | (with_reducible first | exact HB.out | apply below_alloc | apply pw_below_drewN | apply below_drew1 | refine below_set ?_ GE146.out) | exact HB.out)))); have n1_ := Aside0.mk (blk_below (g := gb146) (o := .cells #[.slice A0_0 l0_0.length c0_0, .int .i64 a0_1, .int .i64 a0_2] 37 (0, 0)) (by (with_reducible repeat (first | refine blk_drewN ?_ _ | refine blk_drew ?_ | refine blk_alloc ?_ _)); exact BK146.out) hb); have n2_ := Aside0.mk (below_step (by repeat (first | (with_reducible first | exact HB.out | apply below_alloc | apply pw_below_drewN | apply below_drew1 | refine below_set ?_ GE146.out) | exact HB.out)) hb); clear BK146; clear HB; have HO156 := n0_; have BK146 := n1_; have HB := n2_; clear n0_ n1_ n2_; (try clear hb); (try clear hb2); (try clear hk); (try clear hi); (try clear ho0)) | ((with_reducible refine gate_dst (N := 6) rfl ?_); refine box_event ?hg (N := 6) ?hd (cs := #[.int .i64 0, .int .i64 0, .int .i64 0, .int .i64 0, .int .i64 0, .int .i64 0, .string (⟨#[]⟩ : ByteArray), .slice none 0 0]) (t := 54) ?hr ?_; (case hd => rfl); (case hg => rfl); (case hr => first | (go_simp; done) | (go_simp; rfl)); intro gb158 hg w24 hbox hb; have n0_ := Aside0.mk (Kd.V_below (Kd.V_elderB (by (with_reducible repeat (first | apply Kd.V_alloc | apply Kd.V_drewN | apply Kd.V_drew)); exact HO156.out) gb158 (Nat.le_of_eq hg.symm)) hb); have n1_ := Aside0.mk (blk_below (g := gb146) (o := .cells #[.slice A0_0 l0_0.length c0_0, .int .i64 a0_1, .int .i64 a0_2] 37 (0, 0)) (by (with_reducible repeat (first | refine blk_drewN ?_ _ | refine blk_drew ?_ | refine blk_alloc ?_ _)); exact BK146.out) hb); have n2_ := Aside0.mk (below_step (by repeat (first | (with_reducible first | exact HB.out | apply below_alloc | apply pw_below_drewN | apply below_drew1 | refine below_set ?_ GE146.out) | exact HB.out)) hb); have n3_ := Aside0.mk (hbox); have n4_ := Aside0.mk ((by rw [hg]; exact (below_size (by repeat (first | (with_reducible first | exact HB.out | apply below_alloc | apply pw_below_drewN | apply below_drew1 | refine below_set ?_ GE146.out) | exact HB.out))) : w.heap.size ≤ gb158)); have n5_ := Aside0.mk ((by rw [hg]; exact (below_size (by repeat (first | (with_reducible first | exact HB.out | apply below_alloc | apply pw_below_drewN | apply below_drew1 | refine below_set ?_ GE146.out) | exact HB.out))) : w.heap.size ≤ gb158)); have n6_ := Aside0.mk ((by rw [hg]; exact Nat.ne_of_lt (blk_lt (g := gb146) (o := .cells #[.slice A0_0 l0_0.length c0_0, .int .i64 a0_1, .int .i64 a0_2] 37 (0, 0)) (by (with_reducible repeat (first | refine blk_drewN ?_ _ | refine blk_drew ?_ | refine blk_alloc ?_ _)); exact BK146.out)) : gb146 ≠ gb158)); have n7_ := Aside0.mk ((by rw [hg]; exact Nat.ne_of_gt (blk_lt (g := gb146) (o := .cells #[.slice A0_0 l0_0.length c0_0, .int .i64 a0_1, .int .i64 a0_2] 37 (0, 0)) (by (with_reducible repeat (first | refine blk_drewN ?_ _ | refine blk_drew ?_ | refine blk_alloc ?_ _)); exact BK146.out)) : gb158 ≠ gb146)); clear HO156; clear BK146; clear HB; have HO156 := n0_; have BK146 := n1_; have HB := n2_; have BK158 := n3_; have GW158 := n4_; have GE158 := n5_; have NB146_158 := n6_; have NB158_146 := n7_; clear n0_ n1_ n2_ n3_ n4_ n5_ n6_ n7_; clear hb hbox hg; have hnb25 := NB158_146.out; have hnc25 := NB146_158.out; have hcz26_0 : w24.cell? ⟨gb158, 0, none⟩ = some (.int .i64 0) := (blk_cell BK158.out 0).trans rfl; have hcz26_1 : w24.cell? ⟨gb158, 1, none⟩ = some (.int .i64 0) := (blk_cell BK158.out 1).trans rfl; have hcz26_2 : w24.cell? ⟨gb158, 2, none⟩ = some (.int .i64 0) := (blk_cell BK158.out 2).trans rfl; have hcz26_3 : w24.cell? ⟨gb158, 3, none⟩ = some (.int .i64 0) := (blk_cell BK158.out 3).trans rfl; have hcz26_4 : w24.cell? ⟨gb158, 4, none⟩ = some (.int .i64 0) := (blk_cell BK158.out 4).trans rfl; have hcz26_5 : w24.cell? ⟨gb158, 5, none⟩ = some (.int .i64 0) := (blk_cell BK158.out 5).trans rfl; have hcz26_6 : w24.cell? ⟨gb158, 6, none⟩ = some (.string (⟨#[]⟩ : ByteArray)) := (blk_cell BK158.out 6).trans rfl; have hcz26_7 : w24.cell? ⟨gb158, 7, none⟩ = some (.slice none 0 0) := (blk_cell BK158.out 7).trans rfl; have hfz26_0 := blk_frozen BK158.out 0; have hfz26_1 := blk_frozen BK158.out 1; have hfz26_2 := blk_frozen BK158.out 2; have hfz26_3 := blk_frozen BK158.out 3; have hfz26_4 := blk_frozen BK158.out 4; have hfz26_5 := blk_frozen BK158.out 5; have hfz26_6 := blk_frozen BK158.out 6; have hfz26_7 := blk_frozen BK158.out 7; obtain ⟨Ao27, co27, eo27⟩ := Kd.V_slice HO156.out; subst eo27))
      go_ret
      exact ⟨by first | rfl | (simp [errW_none, errW_some] <;> rfl) | (simp [*, errW_none, errW_some] <;> rfl), by repeat (first | (with_reducible first | exact HB.out | apply below_alloc | apply pw_below_drewN | apply below_drew1 | refine below_set ?_ GE146.out | refine below_set ?_ GE158.out) | exact HB.out)⟩
   ·rw [if_neg c4] at H
    have c4b0 : decide (x5_1 ≤ (l0_0.length : Int)) = false := decide_eq_false c4
    clear c4
    obtain rfl := Option.some.inj H
    have hcz28_0 : wr.cell? ⟨gb146, 0, none⟩ = some (.slice A0_0 l0_0.length c0_0) := (blk_cell BK146.out 0).trans rfl
    have hcz28_1 : wr.cell? ⟨gb146, 1, none⟩ = some (.int .i64 a0_1) := (blk_cell BK146.out 1).trans rfl
    have hcz28_2 : wr.cell? ⟨gb146, 2, none⟩ = some (.int .i64 a0_2) := (blk_cell BK146.out 2).trans rfl
    have hfz28_0 := blk_frozen BK146.out 0
    have hfz28_1 := blk_frozen BK146.out 1
    have hfz28_2 := blk_frozen BK146.out 2
    go_wp2
    go_ret
    exact ⟨by first | rfl | (simp [errW_none, errW_some] <;> rfl) | (simp [*, errW_none, errW_some] <;> rfl), by repeat (first | (with_reducible first | exact HB.out | apply below_alloc | apply pw_below_drewN | apply below_drew1 | refine below_set ?_ GE146.out) | exact HB.out)⟩
-- NOT PRINTED: function 33 (flagstoneref06_right)
-- NOT PRINTED: function 19 (flagstoneref06_Right)
-- NOT PRINTED: function 10 (flagstonelaw07_right)
end Go.Proofs.YthagmakojbfmaaaDoor.Pright
