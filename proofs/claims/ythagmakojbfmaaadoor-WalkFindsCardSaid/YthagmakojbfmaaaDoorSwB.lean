/- By Sx: the walker's small functions. -/
import Derived.Test.YthagmakojbfmaaaDoorSwA
set_option maxRecDepth 100000
set_option linter.unusedVariables false
set_option linter.unusedSimpArgs false
namespace Go.Proofs.YthagmakojbfmaaaDoor.Sx
open Go Go.RowKit Go.Proofs.YthagmakojbfmaaaDoor
def mayB (m o u want : Int) : Bool := if u = 0 then true else binI .andNot .i64 (binI .and .i64 want 7) (if u = o then shfI .shr .i64 m 3 else m) == 0
theorem may.cv (m o w x : Int) (u : Mem) : CV Tryd.prog 55 [.int .i64 m, .int .i64 o, .int .i64 w, .int .i64 x] [] u fun v cs _ => cs = [] ∧ v = .bool (mayB m o w x) := by
  refine cv_of names draws (fn := Tryd.f55) (b := bodyOf Tryd.f55) rfl rfl [] (may.args (m, ()) (o, ()) (w, ()) (x, ())) (may.giv _ _ _ _) (fun _ => 0) (may.run _ _ _ _) (by kernel_rfl) rfl rfl ?_
  simp only [may.T, Hold, PubTo, E.den, SV.den, cmpI, mayB, List.map_nil, true_and, beq_iff_eq, Bool.not_eq_true, beq_eq_false_iff_ne]
  refine ⟨fun h => by simp [h], fun h => ⟨fun h2 => ?_, fun h2 => ?_⟩⟩
  · rw [if_neg h, if_pos h2]
  · rw [if_neg h, if_neg h2]
def ErrAt (u : Mem) (v : Value) (no : Int) : Prop := (no = 0 ∧ v = .nilIface) ∨ (no ≠ 0 ∧ ∃ p, v = .iface 66 (.pointer (some ⟨p, 0, none⟩)) ∧ u p 0 = some (.int .i64 no))
theorem ErrAt.mono {u u' : Mem} {v : Value} {no : Int} (h : ErrAt u v no) (hu : u.le u') : ErrAt u' v no := by
  rcases h with h | ⟨h, p, h1, h2⟩
  · exact .inl h
  · exact .inr ⟨h, p, h1, hu _ _ _ h2⟩
theorem halted.cv (no : Int) (u : Mem) : CV Tryd.prog 67 [.int .i64 no] [] u fun v cs u' => cs = [] ∧ ErrAt u' v no := by
  refine cv_of names draws (fn := Tryd.f67) (b := bodyOf Tryd.f67) rfl rfl [] (halted.args (no, ())) (halted.giv _) (fun _ => 0) (halted.run _) (by kernel_rfl) rfl rfl ?_
  simp only [halted.T, Hold, PubTo, E.den, SV.den, denL, cmpI, ErrAt, List.map_nil, true_and, beq_iff_eq, beq_eq_false_iff_ne]
  refine ⟨fun h => .inl ⟨h, trivial⟩, fun h b hb u1 hu h1 => .inr ⟨h, b, rfl, ?_⟩⟩
  exact h1 _ (List.mem_singleton.2 rfl) 0 _ rfl
structure Sp where
  f0 : Int
  f1 : ByteArray
  f2 : Int
  f3 : Bool
def zSp : Sp := ⟨0, ⟨#[]⟩, 0, false⟩
def Sp.row (s : Sp) : Cells S.ty K3 := (s.f0, s.f1, s.f2, s.f3, ())
structure Wk where
  who : Int
  at_ : Int
  follow : Bool
  slash : Bool
  hops : Int
  dir : Int
  name : ByteArray
  ino : Int
  slashed : Bool
  over : Bool
def Wk.row (k : Wk) (d : Option Addr × Nat × Nat) (m r : Int) (p : Option Addr × Nat × Nat) : Cells S.ty K1 :=
  (d, m, r, k.who, k.at_, p, k.follow, k.slash, k.hops, k.dir, k.name, k.ino, k.slashed, k.over, ())
def Wk.ended (k : Wk) (s : Sp) : Wk := { k with dir := s.f0, name := s.f1, ino := s.f2, slashed := s.f3, over := true }
def hereB (l : List Nd) (i : Int) : Int := if getB l i = true then (if (getL l i).f0 = 2 then 0 else 4) else 2
theorem end_.cv2 (k : Wk) (s : Sp) (d : Option Addr × Nat × Nat) (m r : Int) (p : Option Addr × Nat × Nat) (b : Nat) (u : Mem) :
    CV Tryd.prog 39 [.pointer (some ⟨b, 0, none⟩), .agg (cv K3 s.row).toArray] [(b, cv K1 (k.row d m r p))] u fun v cs u' => v = .tuple #[] ∧ cs = [cv K1 ((k.ended s).row d m r p)] := by
  refine cv_of names draws (fn := Tryd.f39) (b := bodyOf Tryd.f39) rfl rfl [] (end_.args (k.row d m r p) s.row) (end_.giv _ _) (fun _ => b) (end_.run _ _) (by kernel_rfl) rfl rfl ?_
  simp only [end_.T, Hold, PubTo]
  intro b1 hb
  exact ⟨rfl, rfl⟩
theorem here.cv (k : Wk) (l : List Nd) (A : Option Addr) (c : Nat) (m r : Int) (p : Option Addr × Nat × Nat) (b : Nat) (u : Mem) (hd : DiskAt u A l) (hl : l.length ≤ 1000000) :
    CV Tryd.prog 38 [.pointer (some ⟨b, 0, none⟩)] [(b, cv K1 (k.row (A, l.length, c) m r p))] u fun v cs u' => cs = [cv K1 (k.row (A, l.length, c) m r p)] ∧ ∃ a7 c7 e, v = .tuple #[.agg (cv K0 ((getL l k.at_).row a7 c7)).toArray, e] ∧
      ErrAt u' e (hereB l k.at_) ∧ (getL l k.at_).f7.length ≤ c7 ∧ EntAt u' a7 (getL l k.at_).f7 := by
  refine cv_of names draws (fn := Tryd.f38) (b := bodyOf Tryd.f38) rfl rfl [] (here.args (k.row (A, l.length, c) m r p)) (here.giv _) (fun _ => b) (here.run _) (by kernel_rfl) rfl rfl ?_
  simp only [here.T, Hold, PubTo, SV.den, E.den, denL, binI, cT_eql, cF_eql, cT_neq, cF_neq, cT_lss, cF_lss, cT_leq, cF_leq, cT_gtr, cF_gtr, cT_geq, cF_geq, tT_eql, tF_eql, tT_neq, tF_neq, rowsD, denLL, Ob.den, den_cells, List.map_nil, List.map_cons, true_implies, forall_const, true_and, and_true, Bool.true_eq_false, Bool.false_eq_true, reduceCtorEq, false_implies, implies_true, Bool.not_not, Bool.not_true, Bool.not_false, Bool.not_eq_true', Bool.not_eq_false', cond_true, cond_false, Nat.add_eq, Nat.mul_eq, Nat.sub_eq, Nat.add_zero, Nat.zero_mul, Nat.zero_add]
  intro b1 h1
  refine (get.cv A c l m r k.at_ u hd hl).mono fun v cs u' hu ⟨hc, a7, c7, hv, h7, h8⟩ => ?_
  refine ⟨((getL l k.at_).f0, (getL l k.at_).f1, (getL l k.at_).f2, (getL l k.at_).f3, (getL l k.at_).f4, (getL l k.at_).f5, (getL l k.at_).f6, (a7, (getL l k.at_).f7.length, c7), getB l k.at_, ()), (), hv, hc, fun b2 h2 => ?_⟩
  dsimp only
  unfold hereB
  refine ⟨fun hg b3 h3 u1 hu1 hw => ⟨a7, c7, _, rfl, ?_, h7, h8.mono hu1⟩, fun hg => ⟨fun h0 b3 h3 u1 hu1 hw => ⟨a7, c7, _, rfl, ?_, h7, h8.mono hu1⟩, fun h0 => ⟨a7, c7, _, rfl, ?_, h7, h8⟩⟩⟩
  · rw [if_neg (by rw [hg]; decide)]
    exact .inr ⟨by decide, _, rfl, hw _ (List.mem_singleton.2 rfl) 0 _ rfl⟩
  · rw [if_pos hg, if_neg h0]
    exact .inr ⟨by decide, _, rfl, hw _ (List.mem_singleton.2 rfl) 0 _ rfl⟩
  · rw [if_pos hg, if_pos h0]
    exact .inl ⟨rfl, rfl⟩
end Go.Proofs.YthagmakojbfmaaaDoor.Sx
