/- By Sx: the reference's Link. -/
import Derived.Test.YtpfbimkpcnnfkaaGreatDoorSyT
set_option maxRecDepth 100000
set_option linter.unusedVariables false
set_option linter.unusedSimpArgs false
namespace Go.Proofs.YtpfbimkpcnnfkaaGreatDoor.Sx
open Go Go.RowKit Go.Proofs.YtpfbimkpcnnfkaaGreatDoor Go.Proofs.YtpfbimkpcnnfkaaGreatDoor.Ext
theorem r8link.cv (A : Option Addr) (c : Nat) (ns : List Nd) (m r : Int) (u : Mem) (hd : DiskAt u A ns) (hn : Ok8 ns) (who from_ : Int) (old path : ByteArray) (hp : path.size ≤ 1000000000) (ho : old.size ≤ 1000000000) :
  CV Tryz.prog 34 [.agg #[.slice A ns.length c, .int .i64 m, .int .i64 r], .agg #[.int .i64 who, .int .i64 from_], .string old, .string path] [] u fun v cs u' => cs = [] ∧ ∃ A' c', v = .tuple #[.agg #[.slice A' (rlinkF ns who from_ old path).1.length c', .int .i64 m, .int .i64 r], .int .i64 (rlinkF ns who from_ old path).2] ∧ DiskAt u' A' (rlinkF ns who from_ old path).1 := by
 refine cv_of names draws (fn := Tryz.f34) (b := bodyOf Tryz.f34) rfl rfl [] (r8link.args ((A, ns.length, c), m, r, ()) (who, from_, ()) (old, ()) (path, ())) (r8link.giv _ _ _ _) (fun _ => 0) (r8link.run _ _ _ _) (by kernel_rfl) rfl rfl ?_
 unfold r8link.T rlinkF
 intro b1 hb1 b2 hb2 b3 hb3
 have hl := hn.ok.len
 have ht := rnode.cv A c ns m r who from_ old false u hd hn.ok ho
 generalize nodeF ns who from_ old false = w at ht
 obtain ⟨i, e⟩ := w
 refine hold_call (ht.mono fun v cs u1 hu1 ⟨hc, hv⟩ => ⟨(i, e, ()), (), hv, hc, fun h => ?_, fun h => ?_⟩)
 ·simp only [E.den, cT_neq] at h
  have h : ¬ e = 0 := h
  simp only [if_pos h]; exact ⟨rfl, A, c, rfl, hd.mono hu1⟩
 simp only [E.den, cF_neq] at h
 have h : e = 0 := h
 subst h
 simp only [not_true, if_false]
 unfold linkAt
 simp only
 refine hold_call ((rget.cv A c ns m r i u1 (hd.mono hu1) hl).mono fun v cs u2 hu2 ⟨hc, a7, c7, hv, h7, h8⟩ => ⟨fls (getL ns i) a7 c7 (getB ns i), (), hv, hc, fun b3 hb3 => ⟨fun h => ?_, fun h => ?_⟩⟩)
 ·simp only [E.den, cT_eql] at h
  have h : (getL ns i).f0 = 2 := h
  rw [if_pos h]; exact ⟨rfl, A, c, rfl, (hd.mono hu1).mono hu2⟩
 simp only [E.den, cF_eql] at h
 have h : ¬ (getL ns i).f0 = 2 := h
 rw [if_neg h]
 refine ⟨fun h2 => ?_, fun h2 => ?_⟩
 ·simp only [E.den, cT_geq] at h2
  have h2 : 20 ≤ (getL ns i).f3 := h2
  rw [if_pos h2]; exact ⟨rfl, A, c, rfl, (hd.mono hu1).mono hu2⟩
 simp only [E.den, cF_geq] at h2
 have h2 : (getL ns i).f3 < 20 := h2
 rw [if_neg (by omega)]
 have hu02 := Mem.le_trans hu1 hu2
 have ht := rwalk.cv A c ns m r who from_ path false u2 (hd.mono hu02) hn.ok hp
 generalize walkF ns who from_ path false = w at ht
 obtain ⟨sp, e⟩ := w
 refine hold_call (ht.mono fun v cs u3 hu3 ⟨hc, hv⟩ => ⟨(sp.f0, sp.f1, sp.f2, sp.f3, e, ()), (), hv, hc, fun b5 hb5 => ⟨fun h => ?_, fun h => ?_⟩⟩)
 ·simp only [E.den, cT_eql] at h
  have h : e = 0 := h
  subst h
  simp only [not_true, if_false]
  have hu03 := Mem.le_trans hu02 hu3
  refine hold_call ((r8free.cv A c ns m r u3 who from_ sp (hd.mono hu03) hn.ok).mono fun v cs u4 hu4 ⟨hc, hv⟩ => ⟨(freeE ns who sp, ()), (), hv, hc, fun h => ?_, fun h => ?_⟩)
  ·simp only [E.den, cT_neq] at h
   have h : ¬ freeE ns who sp = 0 := h
   rw [if_pos h]; exact ⟨rfl, A, c, rfl, (hd.mono hu03).mono hu4⟩
  simp only [E.den, cF_neq] at h
  have h : freeE ns who sp = 0 := h
  rw [if_neg (fun h' => h' h)]
  have hu04 := Mem.le_trans hu03 hu4
  refine ⟨fun h5 => ?_, fun h5 => ?_⟩
  ·have h5 : sp.f3 = true := h5
   rw [if_pos h5]; exact ⟨rfl, A, c, rfl, hd.mono hu04⟩
  ·have h5 : sp.f3 = false := h5
   rw [if_neg (by rw [h5]; simp)]
   refine hold_call ((r6set.cv A c ns m r i (nMore (getL ns i)) a7 c7 u4 (hd.mono hu04) (h8.mono (Mem.le_trans hu3 hu4)) h7 hl).mono fun v cs u5 hu5 ⟨hc, A5, c5, hv, hd5⟩ => ⟨((A5, (turnF ns i nMore).length, c5), m, r, ()), (), hv, hc, ?_⟩)
   exact hold_call ((r8named.cv A5 c5 (turnF ns i nMore) m r u5 sp i hd5 (by rw [turn_len]; exact hl) (hn.ris.turn i fun n hn => hn.more)).mono fun v cs u6 hu6 ⟨hc, A6, c6, hv, hd6⟩ => ⟨((A6, (putN (turnF ns i nMore) sp i).length, c6), m, r, ()), (), hv, hc, rfl, A6, c6, rfl, hd6⟩)
 ·simp only [E.den, cF_eql] at h
  have h : ¬ e = 0 := h
  simp only [if_pos h]
  refine ⟨fun _ => ⟨rfl, A, c, rfl, (hd.mono hu02).mono hu3⟩, fun h6 => ?_⟩
  simp only [E.den, cF_neq] at h6
  exact absurd h6 h
end Go.Proofs.YtpfbimkpcnnfkaaGreatDoor.Sx
