/- By Sx: the reference's changes. -/
import Derived.Test.YtpfbimkpcnnfkaaGreatDoorSyQ
import Derived.Test.YtpfbimkpcnnfkaaGreatDoorSxTh
/- By Sx: the reference's disks and changes. -/
/- By Sx: the reference's entries and disks: Drop, Put; Set, Used, Add, Settle, Same. -/
set_option maxRecDepth 100000
set_option linter.unusedVariables false
set_option linter.unusedSimpArgs false
namespace Go.Proofs.YtpfbimkpcnnfkaaGreatDoor.Sx
open Go Go.RowKit Go.Proofs.YtpfbimkpcnnfkaaGreatDoor Go.Proofs.YtpfbimkpcnnfkaaGreatDoor.Ext
end Go.Proofs.YtpfbimkpcnnfkaaGreatDoor.Sx
set_option maxRecDepth 100000
set_option linter.unusedVariables false
set_option linter.unusedSimpArgs false
namespace Go.Proofs.YtpfbimkpcnnfkaaGreatDoor.Sx
open Go Go.RowKit Go.Proofs.YtpfbimkpcnnfkaaGreatDoor Go.Proofs.YtpfbimkpcnnfkaaGreatDoor.Ext
abbrev fls (n : Nd) (a : Option Addr) (c : Nat) (b : Bool) : Cells S.ty K2 := (n.f0, n.f1, n.f2, n.f3, n.f4, n.f5, n.f6, (a, n.f7.length, c), b, ())
variable (A : Option Addr) (c : Nat) (ns : List Nd) (m r : Int) (u : Mem)
end Go.Proofs.YtpfbimkpcnnfkaaGreatDoor.Sx
set_option maxRecDepth 100000
set_option linter.unusedVariables false
set_option linter.unusedSimpArgs false
namespace Go.Proofs.YtpfbimkpcnnfkaaGreatDoor.Sx
open Go Go.RowKit Go.Proofs.YtpfbimkpcnnfkaaGreatDoor Go.Proofs.YtpfbimkpcnnfkaaGreatDoor.Ext
variable (A : Option Addr) (c : Nat) (ns : List Nd) (m r : Int) (u : Mem)
theorem rsame.cv (B : Option Addr) (d : Nat) (ms : List Nd) (ha : DiskAt u A ns) (hb : DiskAt u B ms) (hl : ns.length ≤ 1000000) (hs : ∀ n ∈ ns, n.f7.length ≤ 1000000) :
  CV Tryz.prog 17 [.agg #[.slice A ns.length c, .int .i64 m, .int .i64 r], .agg #[.slice B ms.length d, .int .i64 m, .int .i64 r]] [] u fun v cs _ => cs = [] ∧ v = .bool (decide (ns = ms)) := by
 refine cv_of names draws (fn := Tryz.f17) (b := bodyOf Tryz.f17) rfl rfl [⟨4, [5], []⟩] (rsame.args ((A, ns.length, c), m, r, ()) ((B, ms.length, d), m, r, ())) (rsame.giv _ _) (fun _ => 0) (rsame.run _ _) (by kernel_rfl) rfl rfl ?_
 unfold rsame.T
 intro b1 hb1 b2 hb2
 have hcnd : (bif bif cmpI .neq m m then true else cmpI .neq r r then true else cmpI .neq (ns.length : Int) (ms.length : Int)) = decide (¬ ns.length = ms.length) := by
  rw [cD_neq, cD_neq, cD_neq, Bool.eq_iff_iff]; simp [Bool.cond_eq_ite]; omega
 refine ⟨fun h => ?_, fun h => ?_⟩
 ·have h := of_decide_eq_true (hcnd.symm.trans h)
  exact ⟨rfl, by rw [decide_eq_false (fun e => h (by rw [e]))]; rfl⟩
 have h := of_decide_eq_false (hcnd.symm.trans h)
 have hlen : ns.length = ms.length := by omega
 refine hold_count ns.length (fun i u' => u.le u' ∧ ns.take i = ms.take i) ⟨Mem.le_refl u, rfl⟩ ?_
 rintro i u1 hi ⟨hu1, hI⟩
 refine ⟨fun hlt => ?_, fun hge => ?_⟩
 ·simp only [E.den, cT_lss] at hlt
  have hlt : (i : Int) < (ns.length : Int) := hlt
  have hil : i < ns.length := by omega
  obtain ⟨x, hx⟩ : ∃ n, ns[i]? = some n := ⟨_, List.getElem?_eq_getElem hil⟩
  obtain ⟨y, hy⟩ : ∃ n, ms[i]? = some n := ⟨_, List.getElem?_eq_getElem (by omega)⟩
  obtain ⟨a7, c7, k1, k2, k3⟩ := ha i x hx
  obtain ⟨a8, c8, g1, g2, g3⟩ := hb i y hy
  have rx : Reads u1 A ((i : Int).toNat * 8) (Sx.cv K0 (x.row a7 c7)) := by rw [Int.toNat_natCast]; exact k2.mono hu1
  have ry : Reads u1 B ((i : Int).toNat * 8) (Sx.cv K0 (y.row a8 c8)) := by rw [Int.toNat_natCast]; exact g2.mono hu1
  have b1 : (0 : Int) ≤ (i : Int) ∧ (i : Int) < (ns.length : Int) ∧ A.isSome = true := ⟨by omega, hlt, rx.some⟩
  have b2 : (0 : Int) ≤ (i : Int) ∧ (i : Int) < (ms.length : Int) ∧ B.isSome = true := ⟨by omega, by omega, ry.some⟩
  refine ⟨fun _ => b1, fun _ => ⟨x.row a7 c7, rx, fun _ => b2, fun _ => ⟨y.row a8 c8, ry, ?_⟩, fun h => by cases h⟩, fun h => by cases h⟩
  refine hold_call ((ralike.cv x y a7 a8 c7 c8 u1 (k3.mono hu1) (g3.mono hu1) (hs x (List.mem_of_getElem? hx))).mono fun v cs u2 hu2 ⟨hc, hv⟩ => ⟨(decide (x = y), ()), (), hv, hc, fun h => ?_, fun h => ?_⟩)
  ·have h : (!decide (x = y)) = true := h
   have h : ¬ x = y := by simpa using h
   refine ⟨rfl, ?_⟩
   rw [decide_eq_false (fun e => h (by rw [e] at hx; rw [hx] at hy; cases hy; rfl))]; rfl
  ·have h : (!decide (x = y)) = false := h
   have h : x = y := by simpa using h
   refine ⟨by simp, ?_⟩
   simp only [if_true]
   obtain ⟨q1, q2⟩ := List.getElem?_eq_some_iff.1 hx
   obtain ⟨q3, q4⟩ := List.getElem?_eq_some_iff.1 hy
   refine ⟨by rw [← wrap_succ (show i < 4611686018427387904 by omega)]; rfl, rfl, hil, Mem.le_trans hu1 hu2, ?_⟩
   rw [List.take_succ_eq_append_getElem q1, List.take_succ_eq_append_getElem q3, hI, q2, q4, h]
 ·simp only [E.den, cF_lss] at hge
  have hge : (ns.length : Int) ≤ (i : Int) := hge
  obtain rfl : i = ns.length := by omega
  rw [List.take_length, hlen, List.take_length] at hI
  exact ⟨rfl, by rw [decide_eq_true hI]; rfl⟩
section
variable (hd : DiskAt u A ns) (hn : Ok8 ns)
include hd hn
end
end Go.Proofs.YtpfbimkpcnnfkaaGreatDoor.Sx
