/- By Sx: the reference's Link; the law's small functions; shown. -/
import Derived.Test.YtpfbimkpcnnfkaaGreatDoorSyT
import Derived.Test.YtpfbimkpcnnfkaaGreatDoorSyV
set_option maxRecDepth 100000
set_option linter.unusedVariables false
set_option linter.unusedSimpArgs false
namespace Go.Proofs.YtpfbimkpcnnfkaaGreatDoor.Sx
open Go Go.RowKit Go.Proofs.YtpfbimkpcnnfkaaGreatDoor Go.Proofs.YtpfbimkpcnnfkaaGreatDoor.Ext
theorem ok8_of {ns : List Nd} {m r : Int} (h : okF ns m r = true) : Ok8 ns := by
 have h1 := ns_ok h
 unfold okF at h
 simp only [Bool.and_eq_true, decide_eq_true_eq] at h
 obtain ⟨h2, h3, h4⟩ := h
 refine ⟨h1, by omega, fun n hn => ?_⟩
 obtain ⟨i, hi⟩ := List.getElem?_of_mem hn
 have hz := okF.sizes h2 h3 n hn
 refine ⟨?_, by omega⟩
 unfold rightF at h4
 rw [Bool.and_eq_true] at h4
 have h5 := List.all_eq_true.1 h4.2 i (List.mem_range.2 (List.getElem?_eq_some_iff.1 hi).1)
 unfold right1F at h5
 rw [getD_of hi] at h5
 simp only at h5
 split at h5
 ·rw [of_decide_eq_true h5]; exact zNd_r.rise
 split at h5
 ·cases h5
 split at h5
 ·cases h5
 rename_i g
 refine rising_of ?_
 cases hh : sortedF n.f7 with
 | true => rfl
 | false => exact absurd (.inr (.inr hh)) g
variable (A : Option Addr) (c : Nat) (ns : List Nd) (m r : Int) (u : Mem)
def shortB (l : List ByteArray) : Bool := l.all fun x => decide (x.size ≤ 200)
theorem lshort.cv (l : List ByteArray) (hd : StrsAt u A l) (hl : l.length ≤ 1000) :
  CV Tryz.prog 11 [.slice A l.length c] [] u fun v cs _ => cs = [] ∧ v = .bool (shortB l) := by
 refine cv_of names draws (fn := Tryz.f11) (b := bodyOf Tryz.f11) rfl rfl [⟨2, [3], []⟩] (lshort.args ((A, l.length, c), ())) (lshort.giv _) (fun _ => 0) (lshort.run _) (by kernel_rfl) rfl rfl ?_
 unfold lshort.T
 refine hold_count l.length (fun i u' => u.le u' ∧ (l.take i).all (fun x => decide (x.size ≤ 200)) = true) ⟨Mem.le_refl u, rfl⟩ ?_
 rintro i u1 hi ⟨hu1, hI⟩
 refine ⟨fun hlt => ?_, fun hge => ?_⟩
 ·simp only [E.den, cT_lss] at hlt
  have hlt : (i : Int) < (l.length : Int) := hlt
  have hil : i < l.length := by omega
  obtain ⟨x, hx⟩ : ∃ x, l[i]? = some x := ⟨_, List.getElem?_eq_getElem hil⟩
  have rx := (hd i x hx).mono hu1
  have rr : Reads u1 A ((i : Int).toNat * 1) [.string x] := by rw [Int.toNat_natCast, Nat.mul_one]; exact rx
  have b1 : (0 : Int) ≤ (i : Int) ∧ (i : Int) < (l.length : Int) ∧ A.isSome = true := ⟨by omega, hlt, rx.some⟩
  refine ⟨fun _ => b1, fun _ => ⟨(x, ()), rr, fun h => ?_, fun h => ?_⟩, fun h => by cases h⟩
  ·simp only [E.den, cT_gtr] at h
   have h : (200 : Int) < (x.size : Int) := h
   refine ⟨rfl, ?_⟩
   have : shortB l = false := by
    unfold shortB
    rw [List.all_eq_false]
    exact ⟨x, List.mem_of_getElem? hx, by simp; omega⟩
   rw [this]; rfl
  ·simp only [E.den, cF_gtr] at h
   have h : (x.size : Int) ≤ 200 := h
   refine ⟨by simp, ?_⟩
   simp only [if_true]
   obtain ⟨q1, q2⟩ := List.getElem?_eq_some_iff.1 hx
   refine ⟨by rw [← wrap_succ (show i < 4611686018427387904 by omega)]; rfl, rfl, hil, hu1, ?_⟩
   rw [List.take_succ_eq_append_getElem q1, List.all_append, hI, q2]; simp; omega
 ·simp only [E.den, cF_lss] at hge
  have hge : (l.length : Int) ≤ (i : Int) := hge
  obtain rfl : i = l.length := by omega
  rw [List.take_length] at hI
  exact ⟨rfl, by unfold shortB; rw [hI]; rfl⟩
def dk0 : List Nd := [⟨2, 63, 0, 1, 0, 0, ⟨#[]⟩, []⟩]
def dk1 : List Nd := (mkdirF dk0 9 9 1 0 ⟨#[97]⟩ 63).1
def dk2 : List Nd := (makeF dk1 9 9 1 0 ⟨#[97, 47, 102]⟩ 52).1
def dk4 : List Nd := (renF dk2 1 0 1 0 ⟨#[97, 47, 102]⟩ ⟨#[103]⟩).1
def dk5 : List Nd := (rmdF dk4 1 0 ⟨#[97, 47]⟩).1
theorem new.cv : CV Tryz.prog 40 [.int .i64 9, .int .i64 9, .int .i64 63] [] u fun v cs u' => cs = [] ∧ ∃ A' c', v = .agg #[.slice A' dk0.length c', .int .i64 9, .int .i64 9] ∧ DiskAt u' A' dk0 := by
 refine cv_world (R := fun v u' => ∃ A' c', v = .agg #[.slice A' dk0.length c', .int .i64 9, .int .i64 9] ∧ DiskAt u' A' dk0) fun w hs => ?_
 refine (dnew_9 w).mono fun e w' ⟨he, hw⟩ => ⟨_, he, ?_, some ⟨w.heap.size + 1 + 1 + 1 + 1, 0, none⟩, 1, rfl, ?_⟩
 ·rw [hw]
  exact Below.alloc (Below.alloc (Below.alloc (Below.alloc (Below.alloc (Below.refl _ _) (by omega) _) (by simp) _) (by simp; omega) _) (by simp; omega) _) (by simp; omega) _
 ·have hh : w'.heap[w.heap.size + 1 + 1 + 1 + 1]? = some (.cells #[.int .i64 2, .int .i64 63, .int .i64 0, .int .i64 1, .int .i64 0, .int .i64 0, .string { data := #[] }, .slice none 0 0] 53 (0, 0)) := by
   rw [hw]; simp only [World.alloc, Array.getElem?_push, Array.size_push]; exact if_pos trivial
  intro i n hi
  have hi0 : i = 0 := by have := (List.getElem?_eq_some_iff.1 hi).1; simp only [dk0, List.length_cons, List.length_nil] at this; omega
  subst hi0
  cases hi
  refine ⟨none, 0, Nat.le_refl _, ⟨_, 0, rfl, fun j v hj => ?_⟩, fun i e h => by simp at h⟩
  have hj8 : j < 8 := (List.getElem?_eq_some_iff.1 hj).1
  unfold Mem.plus
  rw [if_pos ⟨by omega, _, _, hh⟩]
  unfold World.cell?
  simp only [hh]
  rw [show 0 + 0 * 8 + j = j by omega]
  simpa [Nd.row, Sx.cv, CK.sv, SV.den, E.den] using hj
theorem shown.cv (hg : EgM u) (s : Addr) (hs : EsM s u) : CV Tryz.prog 12 [] [] u fun v cs _ => cs = [] ∧ v = .bool true := by
 refine cv_of names draws (fn := Tryz.f12) (b := bodyOf Tryz.f12) rfl rfl [] lshown8.args lshown8.giv (fun _ => 0) lshown8.run (by kernel_rfl) rfl rfl ?_
 unfold lshown8.T
 have k0 : okF dk0 9 9 = true := by kernel_rfl
 have k1 : okF dk1 9 9 = true := by kernel_rfl
 have k2 : okF dk2 9 9 = true := by kernel_rfl
 have k4 : okF dk4 9 9 = true := by kernel_rfl
 have k5 : okF dk5 9 9 = true := by kernel_rfl
 have e1 : (mkdirF dk0 9 9 1 0 ⟨#[97]⟩ 63).2.2 = 0 := by kernel_rfl
 have e2 : (makeF dk1 9 9 1 0 ⟨#[97, 47, 102]⟩ 52).2 = (2, 0) := by kernel_rfl
 have e3 : (renF dk2 1 0 1 0 ⟨#[97]⟩ ⟨#[97, 47, 98]⟩).2 = 15 := by kernel_rfl
 have e4 : (renF dk2 1 0 1 0 ⟨#[97, 47, 102]⟩ ⟨#[103]⟩).2 = 0 := by kernel_rfl
 have e5 : (rmdF dk4 1 0 ⟨#[97, 47]⟩).2 = 0 := by kernel_rfl
 have e6 : (unlF dk5 1 0 ⟨#[97]⟩).2 = 2 := by kernel_rfl
 have e7 : nodeF dk5 1 0 ⟨#[103]⟩ false = (2, 0) := by kernel_rfl
 have e8 : usedF dk5 = 2 := by kernel_rfl
 intro b1 hb1
 refine hold_call ((new.cv u).mono fun v cs u1 hu1 ⟨hc, A0, c0, hv, hd0⟩ => ⟨((A0, dk0.length, c0), 9, 9, ()), (), hv, hc, fun b2 hb2 => ?_⟩)
 refine hold_call ((mkdir_.cv A0 c0 dk0 9 9 u1 hd0 (ok8_of k0) (hg.mono hu1) s (hs.mono hu1) 1 0 ⟨#[97]⟩ 63 (by decide)).mono fun v cs u2 hu2 ⟨hc, A1, c1, hv, hd1⟩ => ⟨((A1, dk1.length, c1), 9, 9, 0, ()), (), by rw [hv, e1]; rfl, hc, fun b3 hb3 => ?_⟩)
 have hu02 := Mem.le_trans hu1 hu2
 refine hold_call ((make_.cv A1 c1 dk1 9 9 u2 hd1 (ok8_of k1) (hg.mono hu02) s (hs.mono hu02) 1 0 ⟨#[97, 47, 102]⟩ 52 (by decide)).mono fun v cs u3 hu3 ⟨hc, A2, c2, hv, hd2⟩ => ⟨((A2, dk2.length, c2), 9, 9, 2, 0, ()), (), by rw [hv, e2]; rfl, hc, fun b4 hb4 => ?_⟩)
 have hu03 := Mem.le_trans hu02 hu3
 refine hold_call ((ren_.cv A2 c2 dk2 9 9 u3 hd2 (ok8_of k2) (hg.mono hu03) s (hs.mono hu03) 1 0 1 0 ⟨#[97]⟩ ⟨#[97, 47, 98]⟩ (by decide) (by decide)).mono fun v cs u4 hu4 ⟨hc, A3, c3, hv, hd3⟩ => ⟨((A3, (renF dk2 1 0 1 0 ⟨#[97]⟩ ⟨#[97, 47, 98]⟩).1.length, c3), 9, 9, 15, ()), (), by rw [hv, e3]; rfl, hc, fun b5 hb5 => ?_⟩)
 have hu04 := Mem.le_trans hu03 hu4
 refine hold_call ((ren_.cv A2 c2 dk2 9 9 u4 (hd2.mono hu4) (ok8_of k2) (hg.mono hu04) s (hs.mono hu04) 1 0 1 0 ⟨#[97, 47, 102]⟩ ⟨#[103]⟩ (by decide) (by decide)).mono fun v cs u5 hu5 ⟨hc, A4, c4, hv, hd4⟩ => ⟨((A4, dk4.length, c4), 9, 9, 0, ()), (), by rw [hv, e4]; rfl, hc, fun b6 hb6 => ?_⟩)
 have hu05 := Mem.le_trans hu04 hu5
 refine hold_call ((rmd_.cv A4 c4 dk4 9 9 u5 hd4 (ok8_of k4) (hg.mono hu05) s (hs.mono hu05) 1 0 ⟨#[97, 47]⟩ (by decide)).mono fun v cs u6 hu6 ⟨hc, A5, c5, hv, hd5⟩ => ⟨((A5, dk5.length, c5), 9, 9, 0, ()), (), by rw [hv, e5]; rfl, hc, fun b7 hb7 => ?_⟩)
 have hu06 := Mem.le_trans hu05 hu6
 refine hold_call ((unl_.cv A5 c5 dk5 9 9 u6 hd5 (ok8_of k5) (hg.mono hu06) s (hs.mono hu06) 1 0 ⟨#[97]⟩ (by decide)).mono fun v cs u7 hu7 ⟨hc, A6, c6, hv, hd6⟩ => ⟨((A6, (unlF dk5 1 0 ⟨#[97]⟩).1.length, c6), 9, 9, 2, ()), (), by rw [hv, e6]; rfl, hc, fun b8 hb8 => ?_⟩)
 have hu07 := Mem.le_trans hu06 hu7
 refine hold_call ((node.cv A5 c5 dk5 9 9 1 0 ⟨#[103]⟩ false u7 (hd5.mono hu7) (ns_ok k5) (hg.mono hu07) (by decide)).mono fun v cs u8 hu8 ⟨hc, hv⟩ => ⟨(2, 0, ()), (), by rw [hv, e7]; rfl, hc, ?_⟩)
 refine hold_callg (fun xs _ _ => xs.1 = 2) (fun _ => (dused.cv A5 c5 dk5 9 9 u8 ((hd5.mono hu7).mono hu8) (by have := (ok8_of k5).len; omega)).mono fun v cs u9 hu9 ⟨hc, hv⟩ => ⟨(2, ()), (), by rw [hv, e8]; rfl, hc, rfl⟩) (fun h => by (have h : true = false := h; cases h)) ?_
 rintro ⟨x, _⟩ _ u9 hx
 obtain rfl : x = 2 := hx
 exact ⟨rfl, rfl⟩
end Go.Proofs.YtpfbimkpcnnfkaaGreatDoor.Sx
