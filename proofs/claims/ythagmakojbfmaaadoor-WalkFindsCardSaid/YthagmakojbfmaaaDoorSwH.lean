/- By Sx: the walker goes on until it is over. -/
import Derived.Test.YthagmakojbfmaaaDoorSwG
set_option maxRecDepth 100000
set_option linter.unusedVariables false
set_option linter.unusedSimpArgs false
namespace Go.Proofs.YthagmakojbfmaaaDoor.Sx
open Go Go.RowKit Go.Proofs.YthagmakojbfmaaaDoor Go.Proofs.YthagmakojbfmaaaDoor.Ext
def ErrW (u : Mem) (v : Value) (no : Int) : Prop := (no = 0 ∧ v = .nilIface) ∨ (no ≠ 0 ∧ ∃ p, u p 0 = some (.int .i64 no) ∧ (v = .iface 66 (.pointer (some ⟨p, 0, none⟩)) ∨
  ∃ q, v = .iface 90 (.pointer (some ⟨q, 0, none⟩)) ∧ u q 1 = some (.iface 66 (.pointer (some ⟨p, 0, none⟩)))))
theorem ErrAt.toW {u : Mem} {v : Value} {no : Int} (h : ErrAt u v no) : ErrW u v no := h.imp (fun h => h) fun ⟨h, p, h1, h2⟩ => ⟨h, p, h2, .inl h1⟩
def AllR (A : Option Addr) (n c : Nat) (m r : Int) (res : Sp × Int) (v : Value) (cs : List (List Value)) (u' : Mem) : Prop :=
  ∃ (no : Int) (k : Wk) (p : Option Addr × Nat × Nat), cs = [cv K1 (k.row (A, n, c) m r p)] ∧ ErrW u' v no ∧ (no ≠ 0 → res = (zSp, no)) ∧ (no = 0 → res = (k.spot, 0))
set_option maxHeartbeats 1000000 in
theorem all.cv (A : Option Addr) (c : Nat) (ns : List Nd) (m r : Int) (k : Wk) (ps : List ByteArray) (p : Option Addr × Nat × Nat) (b : Nat) (u : Mem)
    (hd : DiskAt u A ns) (hn : NsOk ns) (hp : PartsAt u p ps) (hl : ps.length ≤ 101) (hh : k.hops = 0) (ho : k.over = false) :
    CV Tryd.prog 23 [.pointer (some ⟨b, 0, none⟩)] [(b, cv K1 (k.row (A, ns.length, c) m r p))] u (AllR A ns.length c m r (goF ns k.who k.at_ ps k.follow k.slash)) := by
  refine cv_of names draws (fn := Tryd.f23) (b := bodyOf Tryd.f23) rfl rfl [⟨5, [], [50]⟩] (all.args (k.row (A, ns.length, c) m r p)) (all.giv _) (fun _ => b) (all.run _) (by kernel_rfl) rfl rfl ?_
  unfold all.T
  refine ⟨fun h0 => ?_, fun h0 => ?_⟩
  all_goals simp only [E.den, cT_eql, cF_eql] at h0
  · have hps : ps = [] := by
      have h0 : (p.2.1 : Int) = 0 := h0
      rw [hp.len] at h0
      exact List.length_eq_zero_iff.1 (by omega)
    simp only [Hold, PubTo, SV.den, E.den, denL, binI, cT_eql, cF_eql, cT_neq, cF_neq, cT_lss, cF_lss, cT_leq, cF_leq, cT_gtr, cF_gtr, cT_geq, cF_geq, tT_eql, tF_eql, tT_neq, tF_neq, rowsD, denLL, Ob.den, den_cells, List.map_nil, List.map_cons, true_implies, forall_const, true_and, and_true, Bool.true_eq_false, Bool.false_eq_true, reduceCtorEq, false_implies, implies_true, Bool.not_not, Bool.not_true, Bool.not_false, Bool.not_eq_true', Bool.not_eq_false', cond_true, cond_false, Nat.add_eq, Nat.mul_eq, Nat.sub_eq, Nat.add_zero, Nat.zero_mul, Nat.zero_add]
    refine (here.cv k ns A c m r p b u hd hn.len).mono fun v cs u1 hu1 ⟨hc, a7, c7, e, hv, hE, h7, h8⟩ => ?_
    refine ⟨((getL ns k.at_).f0, (getL ns k.at_).f1, (getL ns k.at_).f2, (getL ns k.at_).f3, (getL ns k.at_).f4, (getL ns k.at_).f5, (getL ns k.at_).f6, (a7, (getL ns k.at_).f7.length, c7), e, ()), (k.row (A, ns.length, c) m r p, ()), hv, hc, fun b1 hb1 => ?_⟩
    have hend := end_.cv2 k ⟨k.at_, ⟨#[]⟩, k.at_, true⟩ (A, ns.length, c) m r p b u1
    refine CV.mono hend fun v cs u2 hu2 h5 => ?_
    refine ⟨(), ((k.ended ⟨k.at_, ⟨#[]⟩, k.at_, true⟩).row (A, ns.length, c) m r p, ()), h5.1, h5.2, hereB ns k.at_, _, p, rfl, (hE.mono hu2).toW, fun h => ?_, fun h => ?_⟩
    · unfold goF; rw [if_pos hps, if_pos h]
    · unfold goF; rw [if_pos hps, if_neg (by simp [h])]; rfl
  have hps : ps ≠ [] := fun e => h0 (by show (p.2.1 : Int) = 0; rw [hp.len, e]; rfl)
  refine hold_loop (sk := []) (oks := [K1]) (fun _ y u' => u.le u' ∧ ∃ (k' : Wk) (ps' : List ByteArray) (p' : Option Addr × Nat × Nat), y = (k'.row (A, ns.length, c) m r p', ()) ∧ PartsAt u' p' ps' ∧ k'.who = k.who ∧ k'.follow = k.follow ∧ k'.slash = k.slash ∧
      ((k'.over = true ∧ goF ns k.who k.at_ ps k.follow k.slash = (k'.spot, 0)) ∨
        (k'.over = false ∧ ps' ≠ [] ∧ 0 ≤ k'.hops ∧ k'.hops ≤ 8 ∧ ∃ f, goF ns k.who k.at_ ps k.follow k.slash = walkGo ns k.who k.follow k.slash f k'.at_ k'.hops ps' ∧ meas k'.hops ps'.length < f ∧ f ≤ 2000)))
    (fun _ y => if y.1.2.2.2.2.2.2.2.2.2.2.2.2.2.1 = true then 0 else 1 + meas y.1.2.2.2.2.2.2.2.2.1 y.1.2.2.2.2.2.1.2.1) () (k.row (A, ns.length, c) m r p, ()) rfl rfl
    ⟨Mem.le_refl u, k, ps, p, rfl, hp, rfl, rfl, rfl, .inr ⟨ho, hps, by omega, by omega, 2000, by unfold goF; rw [if_neg hps, hh], by simp only [meas]; omega, Nat.le_refl _⟩⟩ ?_
  rintro x y u1 ⟨hu1, k1, ps1, p1, rfl, hp1, w1, w2, w3, hI⟩
  unfold Wk.row
  simp only [Hold, PubTo, SV.den, E.den, denL, binI, cT_eql, cF_eql, cT_neq, cF_neq, cT_lss, cF_lss, cT_leq, cF_leq, cT_gtr, cF_gtr, cT_geq, cF_geq, tT_eql, tF_eql, tT_neq, tF_neq, rowsD, denLL, Ob.den, den_cells, List.map_nil, List.map_cons, true_implies, forall_const, true_and, and_true, Bool.true_eq_false, Bool.false_eq_true, reduceCtorEq, false_implies, implies_true, Bool.not_not, Bool.not_true, Bool.not_false, Bool.not_eq_true', Bool.not_eq_false', cond_true, cond_false, Nat.add_eq, Nat.mul_eq, Nat.sub_eq, Nat.add_zero, Nat.zero_mul, Nat.zero_add]
  refine ⟨fun hov => ?_, fun hov => ?_⟩
  · have hov : k1.over = false := hov
    rcases hI with ⟨h, _⟩ | ⟨_, hps1, hh0, hh8, f, hf, hm, hf2⟩
    · rw [hov] at h; cases h
    obtain ⟨part, rest, rfl⟩ : ∃ part rest, ps1 = part :: rest := by cases ps1 with | nil => exact absurd rfl hps1 | cons x r => exact ⟨x, r, rfl⟩
    obtain ⟨f, rfl⟩ : ∃ f', f = f' + 1 := ⟨f - 1, by omega⟩
    obtain ⟨pa, pn, pc⟩ := p1
    obtain ⟨q1, q2, q3⟩ := id hp1
    simp only [List.length_cons] at q1 q2 q3
    have hx := q3 0 part rfl
    have n0 : (0 : Int) < (pn : Int) := by omega
    refine ⟨⟨Int.le_refl 0, n0, hx.some⟩, (part, ()), hx, ?_⟩
    have hm' : meas k1.hops (rest.length + 1) < f + 1 := hm
    have hrl : rest.length ≤ 1000000 := by have h1 : (8 - k1.hops).toNat * 200 + (rest.length + 1) < f + 1 := hm'; omega
    have hst := step.cv A c ns m r (hop.cv A ns.length c m r) k1 part rest (pa, pn, pc) b u1 (hd.mono hu1) hn.len (fun i => ⟨(hn.get i).names, (hn.get i).sorted part, (hn.get i).data⟩) hrl hp1
    refine CV.mono hst fun v cs u2 hu2 ⟨hE, p2, hcs, hp2⟩ => ?_
    obtain ⟨g1, g2, g3, g4, g5⟩ := step_go hn k1 part rest f hov ⟨hh0, hh8⟩
    rw [w1, w2, w3] at g1 g2
    generalize stepF hopF ns k1 part rest = s at *
    obtain ⟨no, k2, ps2⟩ := s
    simp only at hE hcs hp2 g1 g2 g3 g4 g5
    refine ⟨(v, ()), (k2.row (A, ns.length, c) m r p2, ()), rfl, hcs, ?_, fun hnil => ?_, fun hnil => ?_⟩
    · rcases hE with ⟨_, rfl⟩ | ⟨_, q, rfl, _⟩
      · exact .inl rfl
      · exact .inr ⟨_, _, rfl⟩
    · rcases hE with ⟨_, rfl⟩ | ⟨hno, q, rfl, hq⟩
      · cases hnil
      refine ⟨rfl, fun b2 hb2 u3 hu3 hw => ⟨no, k2, p2, rfl, .inr ⟨hno, q, hu3 _ _ _ hq, .inr ⟨b2, rfl, hw _ (List.mem_singleton.2 rfl) 1 _ rfl⟩⟩, fun _ => ?_, fun h => absurd h hno⟩⟩
      rw [hf]; exact g1 hno
    · obtain ⟨h0, rfl⟩ : no = 0 ∧ v = .nilIface := by
        rcases hE with h | ⟨_, q, rfl, _⟩
        · exact h
        · cases hnil
      refine ⟨by simp, ?_⟩
      have hpn := hp2 h0
      rcases g2 h0 with ⟨e1, e2⟩ | ⟨e1, e2, e3, e4, e5, e6⟩
      · refine ⟨(), (k2.row (A, ns.length, c) m r p2, ()), rfl, rfl, ⟨Mem.le_trans hu1 hu2, k2, ps2, p2, rfl, hpn, g3.trans w1, g4.trans w2, g5.trans w3, .inl ⟨e1, by rw [hf]; exact e2⟩⟩, ?_⟩
        show (if k2.over = true then 0 else _) < (if k1.over = true then 0 else _)
        rw [if_pos e1, if_neg (by rw [hov]; simp)]; omega
      · refine ⟨(), (k2.row (A, ns.length, c) m r p2, ()), rfl, rfl, ⟨Mem.le_trans hu1 hu2, k2, ps2, p2, rfl, hpn, g3.trans w1, g4.trans w2, g5.trans w3, .inr ⟨e1, e4, e5, e6, f, by rw [hf]; exact e2, by omega, by omega⟩⟩, ?_⟩
        show (if k2.over = true then 0 else 1 + meas k2.hops p2.2.1) < (if k1.over = true then 0 else 1 + meas k1.hops pn)
        rw [if_neg (by rw [e1]; simp), if_neg (by rw [hov]; simp), hpn.len, q1]; omega
  · have hov : k1.over = true := hov
    rcases hI with ⟨_, h⟩ | ⟨h, _⟩
    · exact ⟨0, k1, p1, rfl, .inl ⟨rfl, rfl⟩, fun h => absurd rfl h, fun _ => h⟩
    · rw [hov] at h; cases h
end Go.Proofs.YthagmakojbfmaaaDoor.Sx
