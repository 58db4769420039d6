/- The job layer: the functions of package job. -/
import Derived.Test.YtjkjlegloicmcaaDoorProg
import Derived.Test.YtjkjlegloicmcaaDoorJobA
import Derived.Test.YtjkjlegloicmcaaDoorLaws
import Derived.Deep.RegionHeld3
import Derived.WalkKit
import Derived.WalkLawsBesides
import Derived.WalkSpells
import Derived.BigQuiet
import Derived.Deep.QuietTactic
import Derived.StillTailTactics
import Derived.ArgAppend
import Derived.IntWalk
import Derived.Deep.DeepFit
set_option linter.unusedVariables false
set_option linter.unusedSimpArgs false
namespace Go.Proofs.YtjkjlegloicmcaaDoor
open Go.RowKit

theorem infoFrame : Info Tryd.prog 46 3 48 := Info.of (z := .agg #[.int .i64 0, .string ⟨#[]⟩, .slice none 0 0]) (by kernel_rfl) rfl (by omega) (by omega)

theorem rFrame_mk {w : World} {S : Nat → Prop} {f : Frame} {s : Sl} (h : rStr.Is w S s f.names) : rFrame.K w S f [.int .i64 f.fd, .string f.name, .slice s.a f.names.length s.c] := ⟨_, _, rfl, h.1, h.2⟩
set_option maxHeartbeats 400000 in
theorem behind_calls (s : Sl) (l : List Frame) (f : Frame) (fa : Sl) (w : World) (S : Nat → Prop) (hS : Sub S w) (hs : rFrame.Is w S s l) (hf : rStr.Is w S fa f.names) (hl : l.length ≤ 1000) :
    Calls Tryd.prog 32 #[.slice s.a l.length s.c, .agg #[.int .i64 f.fd, .string f.name, .slice fa.a f.names.length fa.c]] w (RetSl rFrame w S (l ++ [f])) := by
  have hc := hs.1
  go_enter Tryd.func32, Tryd.ntmps32
  go_wp2_with fail
  obtain ⟨w1, hw1⟩ : ∃ w1 : World, w.alloc (.cells #[.int .i64 f.fd, .string f.name, .slice fa.a f.names.length fa.c] 46) = w1 := ⟨_, rfl⟩
  have b1 : Below w.heap.size w w1 := by rw [← hw1]; exact (Below.refl _ w).alloc (Nat.le_refl _) _
  have q0 : w1.cell? ⟨w.heap.size, 0, none⟩ = some (.int .i64 f.fd) := by rw [← hw1]; simp [go_sem]
  have q1 : w1.cell? ⟨w.heap.size, 1, none⟩ = some (.string f.name) := by rw [← hw1]; simp [go_sem]
  have q2 : w1.cell? ⟨w.heap.size, 2, none⟩ = some (.slice fa.a f.names.length fa.c) := by rw [← hw1]; simp [go_sem]
  rw [hw1]
  clear hw1
  have H0 := Lib.hid hs
  clear hs
  go_region_held3 (fun w' => w'.cell? ⟨w.heap.size, 0, none⟩ = some (.int .i64 f.fd) ∧ w'.cell? ⟨w.heap.size, 1, none⟩ = some (.string f.name) ∧ w'.cell? ⟨w.heap.size, 2, none⟩ = some (.slice fa.a f.names.length fa.c))
    (first | go_keep | exact ⟨hA.keep q0 (by simp [Value.ownBlock]), hA.keep q1 (by simp [Value.ownBlock]), hA.keep q2 (by simp [Value.ownBlock])⟩)
    ((go_must (refine step_apf (W := w1.drew) (d := rFrame) (S := S) (xs := l) (y := f) (A := s.a) Tryd.underlying23 infoFrame (by rfl) _ _ (by rfl) (by rfl) (by rfl) (H0.out.2.below b1.drew hS) (rFrame_mk (hf.sub hS b1.drew)) (hS.mono b1.drew) (by omega) H0.out.2.none_nil ?_); intro g cap w2 hA))
  go_wp2
  go_ret
  exact ⟨⟨_, cap⟩, by simp, hA.is0 b1.drew, hA.below0 b1.drew b1.drew.size⟩

/-! ### Push -/
attribute [local go_sem] isRow_drew row_drew isRow_drewN row_drewN cell_isRow rowSz_isRow isHead_ptr blockOf_ptr row_alloc isRow_alloc rowSz_alloc setRow_alloc isRow_setRow isRow_setCell isRow_frozen setCell_setRow_same setCell_setRow_other cell_setRow_same' cell_setRow_other' frozen_setRow' row_setRow_same row_setRow_other rowSz_setRow_same rowSz_setRow_other setRow_setRow_same' setRow_comm' ne_l2 ne_r2 ne_l3 ne_r3 ne_l4 ne_r4 ne_l5 ne_r5 ne_l6 ne_r6 ne_l7 ne_r7 ne_l8 ne_r8
set_option maxHeartbeats 400000 in
theorem push_calls (j : Job) (a : JA) (f : Frame) (fa : Sl) (w : World) (S : Nat → Prop) (hS : Sub S w) (hj : j.ok w S a) (hf : rStr.Is w S fa f.names) (hl : j.stack.length ≤ 1000) :
    Calls Tryd.prog 17 #[.agg (j.cells a).toArray, .agg #[.int .i64 f.fd, .string f.name, .slice fa.a f.names.length fa.c]] w (RetJ w S { j with stack := j.stack ++ [f] }) := by
  have HJ := Lib.hid hj
  have HF := Lib.hid hf
  clear hj hf
  unfold Job.cells
  go_enter Tryd.func17, Tryd.ntmps17
  go_wp2_with fail
  refine Calls.at_ fun W hW => ?_
  have B0 : Below w.heap.size w W := by rw [hW]; repeat' (first | with_reducible refine Below.alloc ?_ ?_ _ | with_reducible exact Below.refl _ _ | assumption | (simp; done) | (simp; omega) | omega)
  have hWn : W.heap.size = w.heap.size + 3 := by rw [hW]; simp
  refine (behind_calls a.s j.stack f fa _ S (hS.mono B0) (HJ.out.2.1.sub hS B0) (HF.out.sub hS B0) hl).mono ?_
  rintro e w1 ⟨s, rfl, hs, hb⟩
  have hz1 := hb.size
  have HS := Lib.hid (hs.weak (S' := fun k => Ext w w1 S k ∧ ¬ (k = w.heap.size ∨ k = w.heap.size + 1 + 1)) fun k hk => by
    rcases hk with hk | hk
    · have := hS k hk; exact ⟨.inl hk, by omega⟩
    · exact ⟨.inr ⟨by omega, hk.2⟩, by omega⟩)
  clear hs hz1
  have k0 := blk_call (b := w.heap.size) hb (by rw [hW]; exact blk_old (blk_old (blk_new _ (by first | rfl | simp)) _) _)
  have i0 := isRow_of k0
  have k2 := blk_call (b := w.heap.size + 1 + 1) hb (by rw [hW]; exact blk_new _ (by first | rfl | simp))
  have i2 := isRow_of k2
  have hz := hb.size
  rw [hWn] at hz
  have y0 : ¬ w.heap.size = w1.heap.size := by omega
  have z0 : ¬ w1.heap.size = w.heap.size := by omega
  have y2 : ¬ w.heap.size + 1 + 1 = w1.heap.size := by omega
  have z2 : ¬ w1.heap.size = w.heap.size + 1 + 1 := by omega
  have HB := Lib.hid (B0.trans (hb.mono B0.size))
  rw [rows2 k0 k2]
  clear hb B0 hWn hW k0 k2 W
  go_wp2_with (first | (apply ld_row 27 19; (focus rfl); (focus go_simp); (focus (go_simp; rfl)); (focus (exact Tryd.underlying27)); (focus kernel_rfl)) | (apply st_row 27 19; (focus rfl); (focus rfl); (focus go_simp); (focus kernel_rfl); (focus rfl); (focus (first | (simp [Value.oneCell']; done) | (simp [Value.oneCell', Job.cells]; done)))))
  refine ret_row (n := 19) (cs := (Job.cells { j with stack := j.stack ++ [f] } { a with s := s }).toArray) rfl rfl (by go_simp) (by go_simp; simp [Job.cells]) Tryd.underlying27 (by kernel_rfl) rfl
    (RetJ.off (B := fun k => k = w.heap.size ∨ k = w.heap.size + 1 + 1) HB.out (by repeat' (first | refine Off.setRow ?_ (by simp) _ | exact Off.refl _ _)) (by omega) ⟨?_, HS.out, ?_⟩)
  · exact (HJ.out.old hS HB.out (by omega)).1
  · exact (HJ.out.old hS HB.out (by omega)).2.2

/-! ### Pop, Top -/
set_option maxHeartbeats 400000 in
theorem pop_calls (j : Job) (a : JA) (w : World) (S : Nat → Prop) (hS : Sub S w) (hj : j.ok w S a) (hl : j.stack.length ≤ 1000) :
    Calls Tryd.prog 19 #[.agg (j.cells a).toArray] w (RetJ w S { j with stack := j.stack.take (j.stack.length - 1) }) := by
  have HJ := Lib.hid hj
  have hc := hj.2.1.1
  clear hj
  have hk : ({ j with stack := j.stack.take (j.stack.length - 1) } : Job).ok w S a := ⟨HJ.out.1, ⟨by simp only [List.length_take]; omega, HJ.out.2.1.2.take _⟩, HJ.out.2.2⟩
  have HK := Lib.hid hk
  clear hk
  unfold Job.cells
  by_cases h1 : 1 < j.stack.length
  all_goals
    go_enter Tryd.func19, Tryd.ntmps19
    go_wp2_with (first | (apply ld_row 27 19; (focus rfl); (focus go_simp); (focus (go_simp; rfl)); (focus (exact Tryd.underlying27)); (focus kernel_rfl)) | (apply st_row 27 19; (focus rfl); (focus rfl); (focus go_simp); (focus kernel_rfl); (focus rfl); (focus (first | (simp [Value.oneCell']; done) | (simp [Value.oneCell', Job.cells]; done)))))
    refine ret_row (n := 19) (cs := (Job.cells { j with stack := j.stack.take (j.stack.length - 1) } a).toArray) rfl rfl (by go_simp) (by go_simp; try simp [Job.cells]; try (first | omega | rfl)) Tryd.underlying27 (by kernel_rfl) rfl ?_
    refine RetJ.old hS (by repeat' (first | with_reducible refine Below.alloc ?_ ?_ _ | with_reducible refine Below.setRow_ ?_ ?_ _ | with_reducible refine Below.setCell ?_ ?_ _ | with_reducible refine Below.drew ?_ | with_reducible refine Below.drewN_ ?_ _ | with_reducible exact Below.refl _ _ | assumption | (simp; done) | (simp; omega) | omega)) HK.out

set_option maxHeartbeats 400000 in
theorem top_calls (j : Job) (a : JA) (w : World) (S : Nat → Prop) (hS : Sub S w) (hj : j.ok w S a) (hl : j.stack.length ≤ 1000) (h1 : 0 < j.stack.length) :
    Calls Tryd.prog 18 #[.agg (j.cells a).toArray] w (RetF w S (j.stack[j.stack.length - 1]'(by omega)) true) := by
  obtain ⟨b, off, s, ha, hb, hs, c0, c1, c2⟩ := hj.2.1.2.frame (j.stack.length - 1) (by omega)
  have hc := hj.2.1.1
  have hb0 := block_lt_of_cell c0
  have HS := Lib.hid hs
  clear hj hs
  unfold Job.cells
  generalize j.stack[j.stack.length - 1] = f at *
  obtain ⟨⟨sa, sc⟩, ⟨na, nc⟩, ⟨da, dc⟩⟩ := a
  simp only at ha hc ⊢
  subst ha
  go_enter Tryd.func18, Tryd.ntmps18
  go_wp2_with (first | (apply ld_row 27 19; (focus rfl); (focus go_simp); (focus (go_simp; rfl)); (focus (exact Tryd.underlying27)); (focus kernel_rfl)) | (apply st_row 27 19; (focus rfl); (focus rfl); (focus go_simp); (focus kernel_rfl); (focus rfl); (focus (first | (simp [Value.oneCell']; done) | (simp [Value.oneCell', Job.cells]; done)))))
  refine bodyPost_ret (v := .tuple #[.agg #[.int .i64 f.fd, .string f.name, .slice s.a f.names.length s.c], .bool true]) (by simp [results, Tryd.results18, go_sem]) rfl ?_
  exact RetF.old hS (by repeat' (first | with_reducible refine Below.alloc ?_ ?_ _ | with_reducible refine Below.setRow_ ?_ ?_ _ | with_reducible refine Below.setCell ?_ ?_ _ | with_reducible refine Below.drew ?_ | with_reducible refine Below.drewN_ ?_ _ | with_reducible exact Below.refl _ _ | assumption | (simp; done) | (simp; omega) | omega)) HS.out
set_option maxHeartbeats 400000 in
theorem top_none (j : Job) (a : JA) (w : World) (S : Nat → Prop) (hS : Sub S w) (h1 : j.stack.length = 0) :
    Calls Tryd.prog 18 #[.agg (j.cells a).toArray] w (RetF w S ⟨0, ⟨#[]⟩, []⟩ false) := by
  unfold Job.cells
  rw [h1]
  clear h1
  go_enter Tryd.func18, Tryd.ntmps18
  go_wp2_with (first | (apply ld_row 27 19; (focus rfl); (focus go_simp); (focus (go_simp; rfl)); (focus (exact Tryd.underlying27)); (focus kernel_rfl)) | (apply st_row 27 19; (focus rfl); (focus rfl); (focus go_simp); (focus kernel_rfl); (focus rfl); (focus (first | (simp [Value.oneCell']; done) | (simp [Value.oneCell', Job.cells]; done)))))
  refine bodyPost_ret (v := .tuple #[.agg #[.int .i64 0, .string ⟨#[]⟩, .slice none 0 0], .bool false]) (by simp [results, Tryd.results18, go_sem]) rfl ?_
  exact RetF.old (f := ⟨0, ⟨#[]⟩, []⟩) (s := ⟨none, 0⟩) hS (by repeat' (first | with_reducible refine Below.alloc ?_ ?_ _ | with_reducible refine Below.setRow_ ?_ ?_ _ | with_reducible refine Below.setCell ?_ ?_ _ | with_reducible refine Below.drew ?_ | with_reducible refine Below.drewN_ ?_ _ | with_reducible exact Below.refl _ _ | assumption | (simp; done) | (simp; omega) | omega)) (Rp.Is.nil _ _ _ _)

/-! ### End, New, Again -/
set_option maxHeartbeats 400000 in
theorem end_calls (j : Job) (a : JA) (out : ByteArray) (w : World) (S : Nat → Prop) (hS : Sub S w) (hj : j.ok w S a) :
    Calls Tryd.prog 23 #[.agg (j.cells a).toArray, .string out] w (RetJ w S { j with done := true, exit := 0, out := out }) := by
  have HJ := Lib.hid hj
  clear hj
  unfold Job.cells
  go_enter Tryd.func23, Tryd.ntmps23
  go_wp2_with (first | (apply ld_row 27 19; (focus rfl); (focus go_simp); (focus (go_simp; rfl)); (focus (exact Tryd.underlying27)); (focus kernel_rfl)) | (apply st_row 27 19; (focus rfl); (focus rfl); (focus go_simp); (focus kernel_rfl); (focus rfl); (focus (first | (simp [Value.oneCell']; done) | (simp [Value.oneCell', Job.cells]; done)))))
  refine ret_row (n := 19) (cs := (Job.cells { j with done := true, exit := 0, out := out } a).toArray) rfl rfl (by go_simp) (by go_simp; try simp [Job.cells]; try (first | omega | rfl)) Tryd.underlying27 (by kernel_rfl) rfl ?_
  exact RetJ.old hS (by repeat' (first | with_reducible refine Below.alloc ?_ ?_ _ | with_reducible refine Below.setRow_ ?_ ?_ _ | with_reducible refine Below.setCell ?_ ?_ _ | with_reducible refine Below.drew ?_ | with_reducible refine Below.drewN_ ?_ _ | with_reducible exact Below.refl _ _ | assumption | (simp; done) | (simp; omega) | omega)) HJ.out
set_option maxHeartbeats 400000 in
theorem new_calls (kind p : Int) (d : Sl) (draws : List Int) (w : World) (S : Nat → Prop) (hS : Sub S w) (hd : rInt.Is w S d draws) :
    Calls Tryd.prog 14 #[.int .i64 kind, .int .i64 p, .slice d.a draws.length d.c] w (RetJ w S ⟨kind, p, 0, -1, 0, 0, 0, 0, 0, ⟨#[]⟩, ⟨#[]⟩, ⟨#[]⟩, [], [], draws, false, 0, ⟨#[]⟩, 0⟩) := by
  have HD := Lib.hid hd
  clear hd
  go_enter Tryd.func14, Tryd.ntmps14
  go_wp2_with (first | (apply ld_row 27 19; (focus rfl); (focus go_simp); (focus (go_simp; rfl)); (focus (exact Tryd.underlying27)); (focus kernel_rfl)) | (apply st_row 27 19; (focus rfl); (focus rfl); (focus go_simp); (focus kernel_rfl); (focus rfl); (focus (first | (simp [Value.oneCell']; done) | (simp [Value.oneCell', Job.cells]; done)))))
  refine ret_row (n := 19) (cs := (Job.cells (⟨kind, p, 0, -1, 0, 0, 0, 0, 0, ⟨#[]⟩, ⟨#[]⟩, ⟨#[]⟩, [], [], draws, false, 0, ⟨#[]⟩, 0⟩ : Job) ⟨⟨none, 0⟩, ⟨none, 0⟩, d⟩).toArray) rfl rfl (by go_simp) (by go_simp; try simp [Job.cells]; try (first | omega | rfl)) Tryd.underlying27 (by kernel_rfl) rfl ?_
  exact RetJ.old hS (by repeat' (first | with_reducible refine Below.alloc ?_ ?_ _ | with_reducible refine Below.setRow_ ?_ ?_ _ | with_reducible refine Below.setCell ?_ ?_ _ | with_reducible refine Below.drew ?_ | with_reducible refine Below.drewN_ ?_ _ | with_reducible exact Below.refl _ _ | assumption | (simp; done) | (simp; omega) | omega)) ⟨Rp.Is.nil _ _ _ _, Rp.Is.nil _ _ _ _, HD.out⟩

/-! ### the digits of 2 and of 32; Fail with these; Again -/
def failText (path d : ByteArray) : ByteArray := path ++ ⟨#[58, 32, 101, 114, 114, 111, 114, 32]⟩ ++ d
theorem ret_str {a b : ByteArray} (h : a = b) : Ending.returned (.string a) = .returned (.string b) := by rw [h]
set_option maxRecDepth 100000 in
theorem small_2 (w : World) : Calls Tryd.prog 36 #[.int .i64 2] w fun e w' => e = .returned (.string ⟨#[50]⟩) ∧ w = w' := by
  go_enter Tryd.func36, Tryd.ntmps36
  go_wp2
  go_ret
  exact ⟨ret_str (by decide +kernel), rfl⟩
theorem itoa_2 (w : World) : Calls Tryd.prog 33 #[.int .i64 2] w fun e w' => e = .returned (.string ⟨#[50]⟩) ∧ w = w' := by
  go_enter Tryd.func33, Tryd.ntmps33
  go_wp2_with fail
  refine (show Calls Tryd.prog 34 #[.int .i64 2] w fun e w' => e = .returned (.string ⟨#[50]⟩) ∧ w = w' from ?_).mono ?_
  · go_enter Tryd.func34, Tryd.ntmps34
    go_wp2_with fail
    refine (show Calls Tryd.prog 35 #[.int .i64 2, .int .i64 10] w fun e w' => e = .returned (.string ⟨#[50]⟩) ∧ w = w' from ?_).mono ?_
    · go_enter Tryd.func35, Tryd.ntmps35
      go_wp2_with fail
      refine (small_2 w).mono ?_
      rintro e w' ⟨rfl, rfl⟩
      go_wp2
      go_ret
      exact ⟨rfl, rfl⟩
    · rintro e w' ⟨rfl, rfl⟩
      go_wp2
      go_ret
      exact ⟨rfl, rfl⟩
  · rintro e w' ⟨rfl, rfl⟩
    go_wp2
    go_ret
    exact ⟨rfl, rfl⟩
set_option maxHeartbeats 400000 in
theorem fail_2 (j : Job) (a : JA) (path : ByteArray) (w : World) (S : Nat → Prop) (hS : Sub S w) (hj : j.ok w S a) (hp : path.size ≤ 1000) :
    Calls Tryd.prog 21 #[.agg (j.cells a).toArray, .string path, .int .i64 2] w (RetJ w S { j with done := true, exit := 1, e := 2, out := failText path ⟨#[50]⟩ }) := by
  have HJ := Lib.hid hj
  clear hj
  unfold Job.cells
  go_enter Tryd.func21, Tryd.ntmps21
  go_wp2_with (first | (apply ld_row 27 19; (focus rfl); (focus go_simp); (focus (go_simp; rfl)); (focus (exact Tryd.underlying27)); (focus kernel_rfl)) | (apply st_row 27 19; (focus rfl); (focus rfl); (focus go_simp); (focus kernel_rfl); (focus rfl); (focus (first | (simp [Value.oneCell']; done) | (simp [Value.oneCell', Job.cells]; done)))) | (go_at_call 33; refine (itoa_2 _).mono ?_; rintro e w' ⟨rfl, rfl⟩))
  refine ret_row (n := 19) (cs := (Job.cells { j with done := true, exit := 1, e := 2, out := failText path ⟨#[50]⟩ } a).toArray) rfl rfl (by go_simp) (by go_simp; try simp [Job.cells]; try (first | omega | rfl)) Tryd.underlying27 (by kernel_rfl) rfl ?_
  exact RetJ.old hS (by repeat' (first | with_reducible refine Below.alloc ?_ ?_ _ | with_reducible refine Below.setRow_ ?_ ?_ _ | with_reducible refine Below.setCell ?_ ?_ _ | with_reducible refine Below.drew ?_ | with_reducible refine Below.drewN_ ?_ _ | with_reducible exact Below.refl _ _ | assumption | (simp; done) | (simp; omega) | omega)) HJ.out
set_option maxRecDepth 100000 in
theorem small_32 (w : World) : Calls Tryd.prog 36 #[.int .i64 32] w fun e w' => e = .returned (.string ⟨#[51, 50]⟩) ∧ w = w' := by
  go_enter Tryd.func36, Tryd.ntmps36
  go_wp2
  go_ret
  exact ⟨ret_str (by decide +kernel), rfl⟩
theorem itoa_32 (w : World) : Calls Tryd.prog 33 #[.int .i64 32] w fun e w' => e = .returned (.string ⟨#[51, 50]⟩) ∧ w = w' := by
  go_enter Tryd.func33, Tryd.ntmps33
  go_wp2_with fail
  refine (show Calls Tryd.prog 34 #[.int .i64 32] w fun e w' => e = .returned (.string ⟨#[51, 50]⟩) ∧ w = w' from ?_).mono ?_
  · go_enter Tryd.func34, Tryd.ntmps34
    go_wp2_with fail
    refine (show Calls Tryd.prog 35 #[.int .i64 32, .int .i64 10] w fun e w' => e = .returned (.string ⟨#[51, 50]⟩) ∧ w = w' from ?_).mono ?_
    · go_enter Tryd.func35, Tryd.ntmps35
      go_wp2_with fail
      refine (small_32 w).mono ?_
      rintro e w' ⟨rfl, rfl⟩
      go_wp2
      go_ret
      exact ⟨rfl, rfl⟩
    · rintro e w' ⟨rfl, rfl⟩
      go_wp2
      go_ret
      exact ⟨rfl, rfl⟩
  · rintro e w' ⟨rfl, rfl⟩
    go_wp2
    go_ret
    exact ⟨rfl, rfl⟩
set_option maxHeartbeats 400000 in
theorem fail_32 (j : Job) (a : JA) (path : ByteArray) (w : World) (S : Nat → Prop) (hS : Sub S w) (hj : j.ok w S a) (hp : path.size ≤ 1000) :
    Calls Tryd.prog 21 #[.agg (j.cells a).toArray, .string path, .int .i64 32] w (RetJ w S { j with done := true, exit := 1, e := 32, out := failText path ⟨#[51, 50]⟩ }) := by
  have HJ := Lib.hid hj
  clear hj
  unfold Job.cells
  go_enter Tryd.func21, Tryd.ntmps21
  go_wp2_with (first | (apply ld_row 27 19; (focus rfl); (focus go_simp); (focus (go_simp; rfl)); (focus (exact Tryd.underlying27)); (focus kernel_rfl)) | (apply st_row 27 19; (focus rfl); (focus rfl); (focus go_simp); (focus kernel_rfl); (focus rfl); (focus (first | (simp [Value.oneCell']; done) | (simp [Value.oneCell', Job.cells]; done)))) | (go_at_call 33; refine (itoa_32 _).mono ?_; rintro e w' ⟨rfl, rfl⟩))
  refine ret_row (n := 19) (cs := (Job.cells { j with done := true, exit := 1, e := 32, out := failText path ⟨#[51, 50]⟩ } a).toArray) rfl rfl (by go_simp) (by go_simp; try simp [Job.cells]; try (first | omega | rfl)) Tryd.underlying27 (by kernel_rfl) rfl ?_
  exact RetJ.old hS (by repeat' (first | with_reducible refine Below.alloc ?_ ?_ _ | with_reducible refine Below.setRow_ ?_ ?_ _ | with_reducible refine Below.setCell ?_ ?_ _ | with_reducible refine Below.drew ?_ | with_reducible refine Below.drewN_ ?_ _ | with_reducible exact Below.refl _ _ | assumption | (simp; done) | (simp; omega) | omega)) HJ.out

/-- A job comes back, and a Bool. -/
def RetJB (w : World) (S : Nat → Prop) (j : Job) (b : Bool) (e : Ending) (w' : World) : Prop := ∃ a, e = .returned (.tuple #[.agg (j.cells a).toArray, .bool b]) ∧ j.ok w' (Ext w w' S) a ∧ Below w.heap.size w w'
theorem RetJB.old {w wf : World} {S : Nat → Prop} {j : Job} {b : Bool} {a : JA} (hS : Sub S w) (hb : Below w.heap.size w wf) (h : j.ok w S a) : RetJB w S j b (.returned (.tuple #[.agg (j.cells a).toArray, .bool b])) wf :=
  ⟨a, rfl, (h.sub hS hb).weak fun _ hk => .inl hk, hb⟩
theorem RetJB.off {w w1 wf : World} {S B : Nat → Prop} {j : Job} {b : Bool} {a : JA} (hb : Below w.heap.size w w1) (ho : Off B w1 wf) (hB : ∀ k, B k → w.heap.size ≤ k)
    (h : j.ok w1 (fun k => Ext w w1 S k ∧ ¬ B k) a) : RetJB w S j b (.returned (.tuple #[.agg (j.cells a).toArray, .bool b])) wf := by
  obtain ⟨a', he, h1, h2⟩ := RetJ.off hb ho hB h
  exact ⟨a, rfl, (h.move fun k hk => ho.block k hk.2).weak fun _ hk => hk.1.imp id fun h => by rw [ho.size]; exact h, h2⟩
set_option maxHeartbeats 400000 in
theorem again_more (j : Job) (a : JA) (path : ByteArray) (w : World) (S : Nat → Prop) (hS : Sub S w) (hj : j.ok w S a) (h0 : 0 ≤ j.tries) (h1 : j.tries < 3) :
    Calls Tryd.prog 20 #[.agg (j.cells a).toArray, .string path] w (RetJB w S { j with tries := j.tries + 1 } true) := by
  have HJ := Lib.hid hj
  clear hj
  unfold Job.cells
  go_enter Tryd.func20, Tryd.ntmps20
  go_wp2_with (first | (apply ld_row 27 19; (focus rfl); (focus go_simp); (focus (go_simp; rfl)); (focus (exact Tryd.underlying27)); (focus kernel_rfl)) | (apply st_row 27 19; (focus rfl); (focus rfl); (focus go_simp); (focus kernel_rfl); (focus rfl); (focus (first | (simp [Value.oneCell']; done) | (simp [Value.oneCell', Job.cells]; done)))))
  refine ret_row_tmp (n := 19) (cs := (Job.cells { j with tries := j.tries + 1 } a).toArray) rfl rfl rfl (by go_simp) (by go_simp; try simp [Job.cells]; try (first | omega | rfl)) Tryd.underlying27 (by kernel_rfl) rfl ?_
  exact RetJB.old hS (by repeat' (first | with_reducible refine Below.alloc ?_ ?_ _ | with_reducible refine Below.setRow_ ?_ ?_ _ | with_reducible refine Below.setCell ?_ ?_ _ | with_reducible refine Below.drew ?_ | with_reducible refine Below.drewN_ ?_ _ | with_reducible exact Below.refl _ _ | assumption | (simp; done) | (simp; omega) | omega)) HJ.out
set_option maxHeartbeats 400000 in
theorem again_no (j : Job) (a : JA) (path : ByteArray) (w : World) (S : Nat → Prop) (hS : Sub S w) (hj : j.ok w S a) (hp : path.size ≤ 1000) (h1 : ¬ j.tries < 3) :
    Calls Tryd.prog 20 #[.agg (j.cells a).toArray, .string path] w (RetJB w S { j with done := true, exit := 1, e := 32, out := failText path ⟨#[51, 50]⟩ } false) := by
  have HJ := Lib.hid hj
  clear hj
  unfold Job.cells
  go_enter Tryd.func20, Tryd.ntmps20
  go_wp2_with (first | (apply ld_row 27 19; (focus rfl); (focus go_simp); (focus (go_simp; rfl)); (focus (exact Tryd.underlying27)); (focus kernel_rfl)) | (apply st_row 27 19; (focus rfl); (focus rfl); (focus go_simp); (focus kernel_rfl); (focus rfl); (focus (first | (simp [Value.oneCell']; done) | (simp [Value.oneCell', Job.cells]; done)))) | fail)
  refine Calls.at_ fun W hW => ?_
  have B0 : Below w.heap.size w W := by rw [hW]; repeat' (first | with_reducible refine Below.alloc ?_ ?_ _ | with_reducible exact Below.refl _ _ | assumption | (simp; done) | (simp; omega) | omega)
  have hWn : W.heap.size = w.heap.size + 2 := by rw [hW]; simp
  refine (fail_32 j a path _ S (hS.mono B0) (HJ.out.sub hS B0) hp).mono ?_
  rintro e w1 ⟨a', rfl, ha, hb⟩
  have hz1 := hb.size
  have HA := Lib.hid (ha.weak (S' := fun k => Ext w w1 S k ∧ ¬ (k = w.heap.size + 1)) fun k hk => by
    rcases hk with hk | hk
    · have := hS k hk; exact ⟨.inl hk, by omega⟩
    · exact ⟨.inr ⟨by omega, hk.2⟩, by omega⟩)
  clear ha hz1
  unfold Job.cells
  have k1 := blk_call (b := w.heap.size + 1) hb (by rw [hW]; exact blk_new _ (by first | rfl | simp))
  have i1 := isRow_of k1
  have hz := hb.size
  rw [hWn] at hz
  have y1 : ¬ w.heap.size + 1 = w1.heap.size := by omega
  have z1 : ¬ w1.heap.size = w.heap.size + 1 := by omega
  have HB := Lib.hid (B0.trans (hb.mono B0.size))
  rw [setRow_self' k1]
  clear hb B0 hWn hW k1 W
  go_wp2_with (first | (apply ld_row 27 19; (focus rfl); (focus go_simp); (focus (go_simp; rfl)); (focus (exact Tryd.underlying27)); (focus kernel_rfl)) | (apply st_row 27 19; (focus rfl); (focus rfl); (focus go_simp); (focus kernel_rfl); (focus rfl); (focus (first | (simp [Value.oneCell']; done) | (simp [Value.oneCell', Job.cells]; done)))))
  refine ret_row_tmp (n := 19) (cs := (Job.cells { j with done := true, exit := 1, e := 32, out := failText path ⟨#[51, 50]⟩ } a').toArray) rfl rfl rfl (by go_simp) (by go_simp; try simp [Job.cells]; try (first | omega | rfl)) Tryd.underlying27 (by kernel_rfl) rfl ?_
  exact RetJB.off HB.out (by repeat' (first | refine Off.setRow ?_ (by simp) _ | exact Off.refl _ _)) (by omega) HA.out
end Go.Proofs.YtjkjlegloicmcaaDoor
