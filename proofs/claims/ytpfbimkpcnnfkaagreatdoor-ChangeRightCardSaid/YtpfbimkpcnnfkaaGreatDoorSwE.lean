/- By Sx: the walker's step, as far as it does not hop. -/
import Derived.Test.YtpfbimkpcnnfkaaGreatDoorSxTd
import Derived.Test.YtpfbimkpcnnfkaaGreatDoorSxX
import Derived.Test.YtpfbimkpcnnfkaaGreatDoorShelf
/- By Sx: the walker's step. -/
/- By Sx: entry.Find. -/
/- By Sx: the walker's small functions. -/
/- By Sx: nodes and entries, as they lie in memory; disk.Get, mode.May, small ones. -/
set_option maxRecDepth 100000
set_option linter.unusedVariables false
set_option linter.unusedSimpArgs false
namespace Go.Proofs.YtpfbimkpcnnfkaaGreatDoor.Sx
open Go Go.RowKit Go.Proofs.YtpfbimkpcnnfkaaGreatDoor
structure En where
 f0 : ByteArray
 f1 : Int
deriving DecidableEq
structure Nd where
 f0 : Int
 f1 : Int
 f2 : Int
 f3 : Int
 f4 : Int
 f5 : Int
 f6 : ByteArray
 f7 : List En
deriving DecidableEq
def zNd : Nd := ⟨0, 0, 0, 0, 0, 0, ⟨#[]⟩, []⟩
def Nd.row (n : Nd) (a : Option Addr) (c : Nat) : Cells S.ty K0 := (n.f0, n.f1, n.f2, n.f3, n.f4, n.f5, n.f6, (a, n.f7.length, c), ())
def EntAt (u : Mem) (a : Option Addr) (l : List En) : Prop := ∀ (i : Nat) e, l[i]? = some e → Reads u a (i * 2) [.string e.f0, .int .i64 e.f1]
def DiskAt (u : Mem) (a : Option Addr) (l : List Nd) : Prop := ∀ (i : Nat) n, l[i]? = some n → ∃ a7 c7, n.f7.length ≤ c7 ∧ Reads u a (i * 8) (cv K0 (n.row a7 c7)) ∧ EntAt u a7 n.f7
theorem EntAt.mono {u u' : Mem} {a : Option Addr} {l : List En} (h : EntAt u a l) (hu : u.le u') : EntAt u' a l := fun i e hi => (h i e hi).mono hu
theorem DiskAt.mono {u u' : Mem} {a : Option Addr} {l : List Nd} (h : DiskAt u a l) (hu : u.le u') : DiskAt u' a l := fun i n hi => by
 obtain ⟨a7, c7, h1, h2, h3⟩ := h i n hi
 exact ⟨a7, c7, h1, h2.mono hu, h3.mono hu⟩
def getB (l : List Nd) (i : Int) : Bool := decide (0 ≤ i ∧ i < l.length ∧ (l.getD i.toNat zNd).f0 ≠ 0)
def getL (l : List Nd) (i : Int) : Nd := if getB l i = true then l.getD i.toNat zNd else zNd
theorem betw.cv (i a b : Int) (u : Mem) : CV Tryz.prog 71 [.int .i64 i, .int .i64 a, .int .i64 b] [] u fun v cs _ => cs = [] ∧ v = .bool (decide (a ≤ i ∧ i ≤ b)) := by
 refine cv_of names draws (fn := Tryz.f71) (b := bodyOf Tryz.f71) rfl rfl [] (betw.args (i, ()) (a, ()) (b, ())) (betw.giv (i, ()) (a, ()) (b, ())) (fun _ => 0) (betw.run _ _ _) (by kernel_rfl) rfl rfl ?_
 simp only [betw.T, Hold, PubTo, SV.den, E.den, cmpI, List.map_nil, true_and, Value.bool.injEq]
 by_cases h : a ≤ i <;> by_cases h' : i ≤ b <;> simp [h, h']
theorem get.cv (A : Option Addr) (c : Nat) (l : List Nd) (m r i : Int) (u : Mem) (hd : DiskAt u A l) (hl : l.length ≤ 1000000) :
  CV Tryz.prog 24 [.agg #[.slice A l.length c, .int .i64 m, .int .i64 r], .int .i64 i] [] u fun v cs u' => cs = [] ∧ ∃ a7 c7, v = .tuple #[.agg (cv K0 ((getL l i).row a7 c7)).toArray, .bool (getB l i)] ∧ (getL l i).f7.length ≤ c7 ∧ EntAt u' a7 (getL l i).f7 := by
 refine cv_of names draws (fn := Tryz.f24) (b := bodyOf Tryz.f24) rfl rfl [] (get.args ((A, l.length, c), m, r, ()) (i, ())) (get.giv _ _) (fun _ => 0) (get.run _ _) (by kernel_rfl) rfl rfl ?_
 simp only [get.T, Hold, PubTo, SV.den, E.den, denL, binI, cT_eql, cF_eql, cT_neq, cF_neq, cT_lss, cF_lss, cT_leq, cF_leq, cT_gtr, cF_gtr, cT_geq, cF_geq, tT_eql, tF_eql, tT_neq, tF_neq, rowsD, denLL, Ob.den, den_cells, List.map_nil, List.map_cons, true_implies, forall_const, true_and, and_true, Bool.true_eq_false, Bool.false_eq_true, reduceCtorEq, false_implies, implies_true, Bool.not_not, Bool.not_true, Bool.not_false, Bool.not_eq_true', Bool.not_eq_false', cond_true, cond_false, Nat.add_eq, Nat.mul_eq, Nat.sub_eq, Nat.add_zero, Nat.zero_mul, Nat.zero_add]
 rw [show IntKind.i64.wrap ((l.length : Int) - 1) = (l.length : Int) - 1 by rw [IntKind.wrap_i64] <;> omega]
 intro b1 h1 b2 h2
 refine (betw.cv _ _ _ _).mono fun v cs u' hu ⟨hc, hv⟩ => ⟨(decide (0 ≤ i ∧ i ≤ (l.length : Int) - 1), ()), (), hv, hc, ?_⟩
 by_cases hx : 0 ≤ i ∧ i ≤ (l.length : Int) - 1
 ·have hil : i.toNat < l.length := by omega
  obtain ⟨a7, c7, k1, k2, k3⟩ := hd i.toNat l[i.toNat] (List.getElem?_eq_getElem hil)
  have hg : l.getD i.toNat zNd = l[i.toNat] := by simp [List.getD, hil]
  have hb : getB l i = (l[i.toNat].f0 != 0) := by
   unfold getB; rw [hg, Bool.eq_iff_iff]; simp; omega
  have hi : 0 ≤ i ∧ i < (l.length : Int) ∧ A.isSome = true := ⟨hx.1, by omega, k2.some⟩
  rw [decide_eq_true hx]
  simp only [Hold, PubTo, SV.den, E.den, denL, binI, cT_eql, cF_eql, cT_neq, cF_neq, cT_lss, cF_lss, cT_leq, cF_leq, cT_gtr, cF_gtr, cT_geq, cF_geq, tT_eql, tF_eql, tT_neq, tF_neq, rowsD, denLL, Ob.den, den_cells, List.map_nil, List.map_cons, true_implies, forall_const, true_and, and_true, Bool.true_eq_false, Bool.false_eq_true, reduceCtorEq, false_implies, implies_true, Bool.not_not, Bool.not_true, Bool.not_false, Bool.not_eq_true', Bool.not_eq_false', cond_true, cond_false, Nat.add_eq, Nat.mul_eq, Nat.sub_eq, Nat.add_zero, Nat.zero_mul, Nat.zero_add, hi.2.2, hi]
  refine ⟨(l[i.toNat].f0, ()), ((k2.part 0 1).mono hu), fun h0 => ?_, fun h0 => ⟨_, (k2.mono hu), ⟨a7, c7, ?_, ?_, ?_⟩⟩⟩
  ·have : getB l i = false := by rw [hb]; simpa using h0
   unfold getL
   rw [this]
   exact ⟨none, 0, rfl, Nat.zero_le _, fun i e hi => by simp [zNd] at hi⟩
  all_goals
   have h0 : ¬ l[i.toNat].f0 = 0 := h0
   have : getB l i = true := by rw [hb]; simpa using h0
   unfold getL
   simp only [this, if_true, hg]
  ·exact k1
  ·exact k3.mono hu
 ·have : getB l i = false := by unfold getB; simp; omega
  rw [decide_eq_false hx]
  simp only [Hold, PubTo, SV.den, E.den, denL, binI, cT_eql, cF_eql, cT_neq, cF_neq, cT_lss, cF_lss, cT_leq, cF_leq, cT_gtr, cF_gtr, cT_geq, cF_geq, tT_eql, tF_eql, tT_neq, tF_neq, rowsD, denLL, Ob.den, den_cells, List.map_nil, List.map_cons, true_implies, forall_const, true_and, and_true, Bool.true_eq_false, Bool.false_eq_true, reduceCtorEq, false_implies, implies_true, Bool.not_not, Bool.not_true, Bool.not_false, Bool.not_eq_true', Bool.not_eq_false', cond_true, cond_false, Nat.add_eq, Nat.mul_eq, Nat.sub_eq, Nat.add_zero, Nat.zero_mul, Nat.zero_add, getL, this, if_false]
  exact ⟨none, 0, rfl, Nat.zero_le _, fun i e hi => by simp [zNd] at hi⟩
end Go.Proofs.YtpfbimkpcnnfkaaGreatDoor.Sx
set_option maxRecDepth 100000
set_option linter.unusedVariables false
set_option linter.unusedSimpArgs false
namespace Go.Proofs.YtpfbimkpcnnfkaaGreatDoor.Sx
open Go Go.RowKit Go.Proofs.YtpfbimkpcnnfkaaGreatDoor
def mayB (m o u want : Int) : Bool := if u = 0 then true else binI .andNot .i64 (binI .and .i64 want 7) (if u = o then shfI .shr .i64 m 3 else m) == 0
theorem may.cv (m o w x : Int) (u : Mem) : CV Tryz.prog 94 [.int .i64 m, .int .i64 o, .int .i64 w, .int .i64 x] [] u fun v cs _ => cs = [] ∧ v = .bool (mayB m o w x) := by
 refine cv_of names draws (fn := Tryz.f94) (b := bodyOf Tryz.f94) rfl rfl [] (may.args (m, ()) (o, ()) (w, ()) (x, ())) (may.giv _ _ _ _) (fun _ => 0) (may.run _ _ _ _) (by kernel_rfl) rfl rfl ?_
 simp only [may.T, Hold, PubTo, E.den, SV.den, cmpI, mayB, List.map_nil, true_and, beq_iff_eq, Bool.not_eq_true, beq_eq_false_iff_ne]
 refine ⟨fun h => by simp [h], fun h => ⟨fun h2 => ?_, fun h2 => ?_⟩⟩
 ·rw [if_neg h, if_pos h2]
 ·rw [if_neg h, if_neg h2]
def ErrAt (u : Mem) (v : Value) (no : Int) : Prop := (no = 0 ∧ v = .nilIface) ∨ (no ≠ 0 ∧ ∃ p, v = .iface 164 (.pointer (some ⟨p, 0, none⟩)) ∧ u p 0 = some (.int .i64 no))
theorem ErrAt.mono {u u' : Mem} {v : Value} {no : Int} (h : ErrAt u v no) (hu : u.le u') : ErrAt u' v no := by
 rcases h with h | ⟨h, p, h1, h2⟩
 ·exact .inl h
 ·exact .inr ⟨h, p, h1, hu _ _ _ h2⟩
theorem halted.cv (no : Int) (u : Mem) : CV Tryz.prog 161 [.int .i64 no] [] u fun v cs u' => cs = [] ∧ ErrAt u' v no := by
 refine cv_of names draws (fn := Tryz.f161) (b := bodyOf Tryz.f161) rfl rfl [] (halted.args (no, ())) (halted.giv _) (fun _ => 0) (halted.run _) (by kernel_rfl) rfl rfl ?_
 simp only [halted.T, Hold, PubTo, E.den, SV.den, denL, cmpI, ErrAt, List.map_nil, true_and, beq_iff_eq, beq_eq_false_iff_ne]
 refine ⟨fun h => .inl ⟨h, trivial⟩, fun h b hb u1 hu h1 => .inr ⟨h, b, rfl, ?_⟩⟩
 exact h1 _ (List.mem_singleton.2 rfl) 0 _ rfl
structure Sp where
 f0 : Int
 f1 : ByteArray
 f2 : Int
 f3 : Bool
def zSp : Sp := ⟨0, ⟨#[]⟩, 0, false⟩
def Sp.row (s : Sp) : Cells S.ty K3 := (s.f0, s.f1, s.f2, s.f3, ())
structure Wk where
 who : Int
 at_ : Int
 follow : Bool
 slash : Bool
 hops : Int
 dir : Int
 name : ByteArray
 ino : Int
 slashed : Bool
 over : Bool
def Wk.row (k : Wk) (d : Option Addr × Nat × Nat) (m r : Int) (p : Option Addr × Nat × Nat) : Cells S.ty K1 :=
 (d, m, r, k.who, k.at_, p, k.follow, k.slash, k.hops, k.dir, k.name, k.ino, k.slashed, k.over, ())
def Wk.ended (k : Wk) (s : Sp) : Wk := { k with dir := s.f0, name := s.f1, ino := s.f2, slashed := s.f3, over := true }
def hereB (l : List Nd) (i : Int) : Int := if getB l i = true then (if (getL l i).f0 = 2 then 0 else 4) else 2
theorem end_.cv2 (k : Wk) (s : Sp) (d : Option Addr × Nat × Nat) (m r : Int) (p : Option Addr × Nat × Nat) (b : Nat) (u : Mem) :
  CV Tryz.prog 134 [.pointer (some ⟨b, 0, none⟩), .agg (cv K3 s.row).toArray] [(b, cv K1 (k.row d m r p))] u fun v cs u' => v = .tuple #[] ∧ cs = [cv K1 ((k.ended s).row d m r p)] := by
 refine cv_of names draws (fn := Tryz.f134) (b := bodyOf Tryz.f134) rfl rfl [] (end_.args (k.row d m r p) s.row) (end_.giv _ _) (fun _ => b) (end_.run _ _) (by kernel_rfl) rfl rfl ?_
 simp only [end_.T, Hold, PubTo]
 intro b1 hb
 exact ⟨rfl, rfl⟩
theorem here.cv (k : Wk) (l : List Nd) (A : Option Addr) (c : Nat) (m r : Int) (p : Option Addr × Nat × Nat) (b : Nat) (u : Mem) (hd : DiskAt u A l) (hl : l.length ≤ 1000000) :
  CV Tryz.prog 133 [.pointer (some ⟨b, 0, none⟩)] [(b, cv K1 (k.row (A, l.length, c) m r p))] u fun v cs u' => cs = [cv K1 (k.row (A, l.length, c) m r p)] ∧ ∃ a7 c7 e, v = .tuple #[.agg (cv K0 ((getL l k.at_).row a7 c7)).toArray, e] ∧
   ErrAt u' e (hereB l k.at_) ∧ (getL l k.at_).f7.length ≤ c7 ∧ EntAt u' a7 (getL l k.at_).f7 := by
 refine cv_of names draws (fn := Tryz.f133) (b := bodyOf Tryz.f133) rfl rfl [] (here.args (k.row (A, l.length, c) m r p)) (here.giv _) (fun _ => b) (here.run _) (by kernel_rfl) rfl rfl ?_
 simp only [here.T, Hold, PubTo, SV.den, E.den, denL, binI, cT_eql, cF_eql, cT_neq, cF_neq, cT_lss, cF_lss, cT_leq, cF_leq, cT_gtr, cF_gtr, cT_geq, cF_geq, tT_eql, tF_eql, tT_neq, tF_neq, rowsD, denLL, Ob.den, den_cells, List.map_nil, List.map_cons, true_implies, forall_const, true_and, and_true, Bool.true_eq_false, Bool.false_eq_true, reduceCtorEq, false_implies, implies_true, Bool.not_not, Bool.not_true, Bool.not_false, Bool.not_eq_true', Bool.not_eq_false', cond_true, cond_false, Nat.add_eq, Nat.mul_eq, Nat.sub_eq, Nat.add_zero, Nat.zero_mul, Nat.zero_add]
 intro b1 h1
 refine (get.cv A c l m r k.at_ u hd hl).mono fun v cs u' hu ⟨hc, a7, c7, hv, h7, h8⟩ => ?_
 refine ⟨((getL l k.at_).f0, (getL l k.at_).f1, (getL l k.at_).f2, (getL l k.at_).f3, (getL l k.at_).f4, (getL l k.at_).f5, (getL l k.at_).f6, (a7, (getL l k.at_).f7.length, c7), getB l k.at_, ()), (), hv, hc, fun b2 h2 => ?_⟩
 dsimp only
 unfold hereB
 refine ⟨fun hg b3 h3 u1 hu1 hw => ⟨a7, c7, _, rfl, ?_, h7, h8.mono hu1⟩, fun hg => ⟨fun h0 b3 h3 u1 hu1 hw => ⟨a7, c7, _, rfl, ?_, h7, h8.mono hu1⟩, fun h0 => ⟨a7, c7, _, rfl, ?_, h7, h8⟩⟩⟩
 ·rw [if_neg (by rw [hg]; decide)]
  exact .inr ⟨by decide, _, rfl, hw _ (List.mem_singleton.2 rfl) 0 _ rfl⟩
 ·rw [if_pos hg, if_neg h0]
  exact .inr ⟨by decide, _, rfl, hw _ (List.mem_singleton.2 rfl) 0 _ rfl⟩
 ·rw [if_pos hg, if_pos h0]
  exact .inl ⟨rfl, rfl⟩
end Go.Proofs.YtpfbimkpcnnfkaaGreatDoor.Sx
set_option maxRecDepth 100000
set_option linter.unusedVariables false
set_option linter.unusedSimpArgs false
namespace Go.Proofs.YtpfbimkpcnnfkaaGreatDoor.Sx
open Go Go.RowKit Go.Proofs.YtpfbimkpcnnfkaaGreatDoor
theorem cmp.cv (a b : ByteArray) (u : Mem) : CV Tryz.prog 142 [.string a, .string b] [] u fun v cs _ => cs = [] ∧ v = .int .i64 (Lib.compareBytes a.data.toList b.data.toList) :=
 cv_still fun w => (Tryz.strings_Compare a b w).mono fun e w' ⟨he, hw⟩ => ⟨he, hw ▸ Below.refl _ _⟩
def ord (e : En) (name : ByteArray) : Int := Lib.compareBytes e.f0.data.toList name.data.toList
theorem place1.cv (e : En) (name : ByteArray) (u : Mem) : CV Tryz.prog 141 [.agg #[.string e.f0, .int .i64 e.f1], .string name] [] u fun v cs _ => cs = [] ∧ v = .int .i64 (ord e name) := by
 refine cv_of names draws (fn := Tryz.f141) (b := bodyOf Tryz.f141) rfl rfl [] (place1.args (e.f0, e.f1, ()) (name, ())) (place1.giv _ _) (fun _ => 0) (place1.run _ _) (by kernel_rfl) rfl rfl ?_
 simp only [place1.T, Hold, PubTo, SV.den, E.den, denL, binI, cT_eql, cF_eql, cT_neq, cF_neq, cT_lss, cF_lss, cT_leq, cF_leq, cT_gtr, cF_gtr, cT_geq, cF_geq, tT_eql, tF_eql, tT_neq, tF_neq, rowsD, denLL, Ob.den, den_cells, List.map_nil, List.map_cons, true_implies, forall_const, true_and, and_true, Bool.true_eq_false, Bool.false_eq_true, reduceCtorEq, false_implies, implies_true, Bool.not_not, Bool.not_true, Bool.not_false, Bool.not_eq_true', Bool.not_eq_false', cond_true, cond_false, Nat.add_eq, Nat.mul_eq, Nat.sub_eq, Nat.add_zero, Nat.zero_mul, Nat.zero_add]
 intro b hb
 exact (cmp.cv _ _ _).mono fun v cs u' hu ⟨hc, hv⟩ => ⟨(ord e name, ()), (), hv, hc, rfl⟩
def Upto (l : List En) (name : ByteArray) : Prop := ∀ (a b : Nat) (x y : En), a ≤ b → l[a]? = some x → l[b]? = some y → ord y name < 0 → ord x name < 0
def atB (l : List En) (name : ByteArray) (i : Nat) : Bool := match l[i]? with | some e => ord e name == 0 | none => false
def PlaceIs (l : List En) (name : ByteArray) (i : Nat) : Prop := i ≤ l.length ∧ (∀ (k : Nat) e, k < i → l[k]? = some e → ord e name < 0) ∧ (∀ (k : Nat) e, i ≤ k → l[k]? = some e → 0 ≤ ord e name)
theorem bsf.cv (A : Option Addr) (c : Nat) (l : List En) (name : ByteArray) (u : Mem) (hd : EntAt u A l) (hl : l.length ≤ 1000000) (hs : Upto l name) :
  CV Tryz.prog 140 [.slice A l.length c, .string name, .func (.func 141) #[] #[]] [] u fun v cs _ => cs = [] ∧ ∃ i : Nat, PlaceIs l name i ∧ v = .tuple #[.int .i64 i, .bool (atB l name i)] := by
 refine cv_of names draws (fn := Tryz.f140) (b := bodyOf Tryz.f140) rfl rfl [⟨3, [9, 10], []⟩] (bsf.args ((A, l.length, c), ()) (name, ())) (bsf.giv _ _) (fun _ => 0) (bsf.run _ _) (by kernel_rfl) rfl rfl ?_
 unfold bsf.T
 refine hold_loop (fun x _ u' => u.le u' ∧ ∃ i j : Nat, x = ((i : Int), (j : Int), ()) ∧ i ≤ j ∧ j ≤ l.length ∧ (∀ (k : Nat) e, k < i → l[k]? = some e → ord e name < 0) ∧ (∀ (k : Nat) e, j ≤ k → l[k]? = some e → 0 ≤ ord e name))
  (fun x _ => (x.2.1 - x.1).toNat) (0, (l.length : Int), ()) () rfl rfl ⟨Mem.le_refl _, 0, l.length, rfl, by omega, by omega, fun k e hk => by omega, fun k e hk he => ?_⟩ ?_
 ·have := (List.getElem?_eq_some_iff.1 he).1; omega
 rintro x y u' ⟨hu, i, j, rfl, h1, h2, h3, h4⟩
 have hd' := hd.mono hu
 simp only [Hold, PubTo, SV.den, E.den, denL, binI, cT_eql, cF_eql, cT_neq, cF_neq, cT_lss, cF_lss, cT_leq, cF_leq, cT_gtr, cF_gtr, cT_geq, cF_geq, tT_eql, tF_eql, tT_neq, tF_neq, rowsD, denLL, Ob.den, den_cells, List.map_nil, List.map_cons, true_implies, forall_const, true_and, and_true, Bool.true_eq_false, Bool.false_eq_true, reduceCtorEq, false_implies, implies_true, Bool.not_not, Bool.not_true, Bool.not_false, Bool.not_eq_true', Bool.not_eq_false', cond_true, cond_false, Nat.add_eq, Nat.mul_eq, Nat.sub_eq, Nat.add_zero, Nat.zero_mul, Nat.zero_add]
 have w1 : IntKind.i64.wrap ((i : Int) + (j : Int)) = (i : Int) + (j : Int) := by rw [IntKind.wrap_i64] <;> omega
 have w2 : IntKind.u64.wrap ((i : Int) + (j : Int)) = (i : Int) + (j : Int) := IntWalk.u64_in _ (by omega)
 have w3 : shfI .shr .u64 ((i : Int) + (j : Int)) 1 = (((i + j) / 2 : Nat) : Int) := by
  simp only [shfI]
  rw [Int.fdiv_eq_ediv_of_nonneg _ (by decide)]
  simp [IntKind.bits]
 have w4 : IntKind.i64.wrap (((i + j) / 2 : Nat) : Int) = (((i + j) / 2 : Nat) : Int) := by rw [IntKind.wrap_i64] <;> omega
 have w5 : IntKind.i64.wrap ((((i + j) / 2 : Nat) : Int) + 1) = (((i + j) / 2 + 1 : Nat) : Int) := by rw [IntKind.wrap_i64] <;> omega
 rw [w1, w2, w3, w4, w5]
 obtain ⟨h, hh⟩ : ∃ h, h = (i + j) / 2 := ⟨_, rfl⟩
 rw [← hh]
 refine ⟨fun hij => ?_, fun hij => ?_⟩
 ·have hl' : h < l.length := by omega
  obtain ⟨e, he⟩ : ∃ e, l[h]? = some e := ⟨_, List.getElem?_eq_getElem hl'⟩
  have hx := hd' h e he
  refine ⟨⟨Int.natCast_nonneg h, Int.ofNat_lt.2 hl', hx.some⟩, (e.f0, e.f1, ()), by rw [Int.toNat_natCast]; exact hx, ?_⟩
  refine (place1.cv e name u').mono fun v cs u2 hu2 ⟨hc, hv⟩ => ⟨(ord e name, ()), (), hv, hc, fun hlt => ⟨by simp, ?_⟩, fun hge => ⟨by simp, ?_⟩⟩
  ·refine ⟨(((h + 1 : Nat) : Int), (j : Int), ()), (), rfl, rfl, ⟨Mem.le_trans hu hu2, h + 1, j, rfl, by omega, h2, fun k x hk hx => ?_, h4⟩, by simp only; omega⟩
   exact hs k h x e (by omega) hx he hlt
  ·refine ⟨((i : Int), (h : Int), ()), (), rfl, rfl, ⟨Mem.le_trans hu hu2, i, h, rfl, by omega, by omega, h3, fun k x hk hx => ?_⟩, by simp only; omega⟩
   rcases Int.lt_or_le (ord x name) 0 with h' | h'
   ·have := hs h k e x hk he hx h'
    exact absurd this (Int.not_lt.2 hge)
   ·exact h'
 ·have hij : i = j := by omega
  subst hij
  have hP : PlaceIs l name i := ⟨h2, h3, h4⟩
  by_cases hil : (i : Int) < l.length
  ·have hil' : i < l.length := by omega
   obtain ⟨e, he⟩ : ∃ e, l[i]? = some e := ⟨_, List.getElem?_eq_getElem hil'⟩
   have hx := hd' i e he
   have hn : ¬ (l.length : Int) ≤ i := by omega
   simp only [hil, hn, Hold, PubTo, SV.den, E.den, denL, binI, cT_eql, cF_eql, cT_neq, cF_neq, cT_lss, cF_lss, cT_leq, cF_leq, cT_gtr, cF_gtr, cT_geq, cF_geq, tT_eql, tF_eql, tT_neq, tF_neq, rowsD, denLL, Ob.den, den_cells, List.map_nil, List.map_cons, true_implies, forall_const, true_and, and_true, Bool.true_eq_false, Bool.false_eq_true, reduceCtorEq, false_implies, implies_true, Bool.not_not, Bool.not_true, Bool.not_false, Bool.not_eq_true', Bool.not_eq_false', cond_true, cond_false, Nat.add_eq, Nat.mul_eq, Nat.sub_eq, Nat.add_zero, Nat.zero_mul, Nat.zero_add]
   refine ⟨⟨Int.natCast_nonneg i, hx.some⟩, (e.f0, e.f1, ()), by rw [Int.toNat_natCast]; exact hx, ?_⟩
   refine (place1.cv e name u').mono fun v cs u2 hu2 ⟨hc, hv⟩ => ⟨(ord e name, ()), (), hv, hc, i, hP, ?_⟩
   simp only [atB, he, cmpI, decide_eq_true hil, cond_true]
  ·have hn : (l.length : Int) ≤ i := by omega
   have he : l[i]? = none := List.getElem?_eq_none (by omega)
   simp only [hil, hn, Hold, PubTo, SV.den, E.den, denL, binI, cT_eql, cF_eql, cT_neq, cF_neq, cT_lss, cF_lss, cT_leq, cF_leq, cT_gtr, cF_gtr, cT_geq, cF_geq, tT_eql, tF_eql, tT_neq, tF_neq, rowsD, denLL, Ob.den, den_cells, List.map_nil, List.map_cons, true_implies, forall_const, true_and, and_true, Bool.true_eq_false, Bool.false_eq_true, reduceCtorEq, false_implies, implies_true, Bool.not_not, Bool.not_true, Bool.not_false, Bool.not_eq_true', Bool.not_eq_false', cond_true, cond_false, Nat.add_eq, Nat.mul_eq, Nat.sub_eq, Nat.add_zero, Nat.zero_mul, Nat.zero_add]
   refine ⟨i, hP, ?_⟩
   simp only [atB, he, cmpI, decide_eq_false hil, cond_false]
theorem place.cv (A : Option Addr) (c : Nat) (l : List En) (name : ByteArray) (u : Mem) (hd : EntAt u A l) (hl : l.length ≤ 1000000) (hs : Upto l name) :
  CV Tryz.prog 120 [.slice A l.length c, .string name] [] u fun v cs _ => cs = [] ∧ ∃ i : Nat, PlaceIs l name i ∧ v = .tuple #[.int .i64 i, .bool (atB l name i)] := by
 refine cv_of names draws (fn := Tryz.f120) (b := bodyOf Tryz.f120) rfl rfl [] (place.args ((A, l.length, c), ()) (name, ())) (place.giv _ _) (fun _ => 0) (place.run _ _) (by kernel_rfl) rfl rfl ?_
 simp only [place.T, Hold, PubTo, SV.den, E.den, denL, binI, cT_eql, cF_eql, cT_neq, cF_neq, cT_lss, cF_lss, cT_leq, cF_leq, cT_gtr, cF_gtr, cT_geq, cF_geq, tT_eql, tF_eql, tT_neq, tF_neq, rowsD, denLL, Ob.den, den_cells, List.map_nil, List.map_cons, true_implies, forall_const, true_and, and_true, Bool.true_eq_false, Bool.false_eq_true, reduceCtorEq, false_implies, implies_true, Bool.not_not, Bool.not_true, Bool.not_false, Bool.not_eq_true', Bool.not_eq_false', cond_true, cond_false, Nat.add_eq, Nat.mul_eq, Nat.sub_eq, Nat.add_zero, Nat.zero_mul, Nat.zero_add]
 exact (bsf.cv A c l name u hd hl hs).mono fun v cs u' hu ⟨hc, i, hP, hv⟩ => ⟨((i : Int), atB l name i, ()), (), hv, hc, i, hP, rfl⟩
structure Sorted (l : List En) (name : ByteArray) : Prop where
 lt : Upto l name
 gt : ∀ (a b : Nat) (x y : En), a ≤ b → l[a]? = some x → l[b]? = some y → 0 < ord x name → 0 < ord y name
def findL (l : List En) (name : ByteArray) : Option En := l.find? fun e => ord e name == 0
def inoL (l : List En) (name : ByteArray) : Int := match findL l name with | none => -1 | some e => e.f1
theorem find_at : ∀ {l : List En} {name : ByteArray} {i : Nat} {e : En}, l[i]? = some e → ord e name = 0 → (∀ (k : Nat) x, k < i → l[k]? = some x → ord x name < 0) → findL l name = some e
 | [], name, i, e, h, _, _ => by simp at h
 | x :: l, name, 0, e, h, h0, _ => by
  simp at h; subst h
  simp [findL, h0]
 | x :: l, name, i + 1, e, h, h0, hk => by
  have hx := hk 0 x (by omega) rfl
  have hne : ¬ ord x name = 0 := by omega
  have ih := find_at (l := l) (i := i) (by simpa using h) h0 fun k y hki hy => hk (k + 1) y (by omega) (by simpa using hy)
  unfold findL at ih ⊢
  rw [List.find?_cons_of_neg (by simpa using hne)]
  exact ih
theorem find_none {l : List En} {name : ByteArray} {i : Nat} (hs : Sorted l name) (hP : PlaceIs l name i) (h : atB l name i = false) : findL l name = none := by
 refine List.find?_eq_none.2 fun x hx => ?_
 obtain ⟨k, hk⟩ := List.getElem?_of_mem hx
 have : ¬ ord x name = 0 := by
  rcases Nat.lt_or_ge k i with hki | hki
  ·have := hP.2.1 k x hki hk; omega
  ·have hkl := (List.getElem?_eq_some_iff.1 hk).1
   obtain ⟨e, he⟩ : ∃ e, l[i]? = some e := ⟨_, List.getElem?_eq_getElem (by omega)⟩
   have h1 := hP.2.2 i e (Nat.le_refl _) he
   have h2 : ¬ ord e name = 0 := by unfold atB at h; rw [he] at h; simpa using h
   have := hs.gt i k e x hki he hk (by omega)
   omega
 simpa using this
theorem find.cv (A : Option Addr) (c : Nat) (l : List En) (name : ByteArray) (u : Mem) (hd : EntAt u A l) (hl : l.length ≤ 1000000) (hs : Sorted l name) :
  CV Tryz.prog 160 [.slice A l.length c, .string name] [] u fun v cs _ => cs = [] ∧ v = .tuple #[.int .i64 (inoL l name), .bool (findL l name).isSome] := by
 refine cv_of names draws (fn := Tryz.f160) (b := bodyOf Tryz.f160) rfl rfl [] (find.args ((A, l.length, c), ()) (name, ())) (find.giv _ _) (fun _ => 0) (find.run _ _) (by kernel_rfl) rfl rfl ?_
 simp only [find.T, Hold, PubTo, SV.den, E.den, denL, binI, cT_eql, cF_eql, cT_neq, cF_neq, cT_lss, cF_lss, cT_leq, cF_leq, cT_gtr, cF_gtr, cT_geq, cF_geq, tT_eql, tF_eql, tT_neq, tF_neq, rowsD, denLL, Ob.den, den_cells, List.map_nil, List.map_cons, true_implies, forall_const, true_and, and_true, Bool.true_eq_false, Bool.false_eq_true, reduceCtorEq, false_implies, implies_true, Bool.not_not, Bool.not_true, Bool.not_false, Bool.not_eq_true', Bool.not_eq_false', cond_true, cond_false, Nat.add_eq, Nat.mul_eq, Nat.sub_eq, Nat.add_zero, Nat.zero_mul, Nat.zero_add]
 refine (place.cv A c l name u hd hl hs.lt).mono fun v cs u' hu ⟨hc, i, hP, hv⟩ => ⟨((i : Int), atB l name i, ()), (), hv, hc, fun ht => ?_, fun hf => ?_⟩
 ·have ht : atB l name i = true := ht
  obtain ⟨e, he, h0⟩ : ∃ e, l[i]? = some e ∧ ord e name = 0 := by
   unfold atB at ht
   split at ht
   ·rename_i e he; exact ⟨e, he, by simpa using ht⟩
   ·cases ht
  have hF := find_at he h0 hP.2.1
  have hil := (List.getElem?_eq_some_iff.1 he).1
  have hx := (hd i e he).mono hu
  refine ⟨⟨Int.natCast_nonneg i, Int.ofNat_lt.2 hil, hx.some⟩, hx.some, (e.f1, ()), hx.part 1 1, ?_⟩
  unfold inoL; rw [hF]; rfl
 ·have hF := find_none hs hP hf
  unfold inoL; rw [hF]; rfl
end Go.Proofs.YtpfbimkpcnnfkaaGreatDoor.Sx
set_option maxRecDepth 100000
set_option linter.unusedVariables false
set_option linter.unusedSimpArgs false
namespace Go.Proofs.YtpfbimkpcnnfkaaGreatDoor.Sx
open Go Go.RowKit Go.Proofs.YtpfbimkpcnnfkaaGreatDoor
def namedB (at_ : Int) (n : Nd) (part : ByteArray) : Int := if part.toList = [46] then at_ else if part.toList = [46, 46] then n.f5 else inoL n.f7 part
theorem toList_data (x : ByteArray) : x.toList = x.data.toList := by
 have := Lib.extract_toList x 0 x.size
 rw [ByteArray.extract_zero_size] at this
 rw [this, List.drop_zero, List.take_of_length_le (by simp)]
theorem dot1 : (⟨#[46]⟩ : ByteArray).toList = [46] := by rw [toList_data]
theorem dot2 : (⟨#[46, 46]⟩ : ByteArray).toList = [46, 46] := by rw [toList_data]
theorem named.cv (k : Wk) (n : Nd) (part : ByteArray) (a7 : Option Addr) (c7 : Nat) (d : Option Addr × Nat × Nat) (m r : Int) (p : Option Addr × Nat × Nat) (b : Nat) (u : Mem) (he : EntAt u a7 n.f7) (hl : n.f7.length ≤ 1000000) (hs : Sorted n.f7 part) :
  CV Tryz.prog 149 [.pointer (some ⟨b, 0, none⟩), .agg (cv K0 (n.row a7 c7)).toArray, .string part] [(b, cv K1 (k.row d m r p))] u fun v cs _ => cs = [cv K1 (k.row d m r p)] ∧ v = .int .i64 (namedB k.at_ n part) := by
 refine cv_of names draws (fn := Tryz.f149) (b := bodyOf Tryz.f149) rfl rfl [] (named.args (k.row d m r p) (n.row a7 c7) (part, ())) (named.giv _ _ _) (fun _ => b) (named.run _ _ _) (by kernel_rfl) rfl rfl ?_
 simp only [named.T, Hold, PubTo, SV.den, E.den, denL, binI, cT_eql, cF_eql, cT_neq, cF_neq, cT_lss, cF_lss, cT_leq, cF_leq, cT_gtr, cF_gtr, cT_geq, cF_geq, tT_eql, tF_eql, tT_neq, tF_neq, rowsD, denLL, Ob.den, den_cells, List.map_nil, List.map_cons, true_implies, forall_const, true_and, and_true, Bool.true_eq_false, Bool.false_eq_true, reduceCtorEq, false_implies, implies_true, Bool.not_not, Bool.not_true, Bool.not_false, Bool.not_eq_true', Bool.not_eq_false', cond_true, cond_false, Nat.add_eq, Nat.mul_eq, Nat.sub_eq, Nat.add_zero, Nat.zero_mul, Nat.zero_add, dot1, dot2]
 intro b1 h1
 refine ⟨fun h => ?_, fun h => ⟨fun h2 => ?_, fun h2 => ?_⟩⟩
 ·unfold namedB; rw [if_pos h]; rfl
 ·unfold namedB; rw [if_neg h, if_pos h2]; rfl
 ·refine (find.cv a7 c7 n.f7 part u he hl hs).mono fun v cs u' hu ⟨hc, hv⟩ => ⟨(inoL n.f7 part, (findL n.f7 part).isSome, ()), (), hv, hc, ?_⟩
  unfold namedB; rw [if_neg h, if_neg h2]
end Go.Proofs.YtpfbimkpcnnfkaaGreatDoor.Sx
set_option maxRecDepth 100000
set_option linter.unusedVariables false
set_option linter.unusedSimpArgs false
namespace Go.Proofs.YtpfbimkpcnnfkaaGreatDoor.Sx
open Go Go.RowKit Go.Proofs.YtpfbimkpcnnfkaaGreatDoor
def StrsAt (u : Mem) (a : Option Addr) (l : List ByteArray) : Prop := ∀ (i : Nat) x, l[i]? = some x → Reads u a i [.string x]
theorem StrsAt.mono {u u' : Mem} {a : Option Addr} {l : List ByteArray} (h : StrsAt u a l) (hu : u.le u') : StrsAt u' a l := fun i x hi => (h i x hi).mono hu
structure PartsAt (u : Mem) (p : Option Addr × Nat × Nat) (ps : List ByteArray) : Prop where
 len : p.2.1 = ps.length
 cap : p.2.1 ≤ p.2.2
 at_ : StrsAt u p.1 ps
theorem PartsAt.mono {u u' : Mem} {p : Option Addr × Nat × Nat} {ps : List ByteArray} (h : PartsAt u p ps) (hu : u.le u') : PartsAt u' p ps := ⟨h.len, h.cap, h.at_.mono hu⟩
def rest1 (p : Option Addr × Nat × Nat) : Option Addr × Nat × Nat := (if p.2.2 = 1 then p.1 else p.1.map fun x => x.add 1, p.2.1 - 1, p.2.2 - 1)
theorem PartsAt.rest {u : Mem} {p : Option Addr × Nat × Nat} {x : ByteArray} {ps : List ByteArray} (h : PartsAt u p (x :: ps)) : PartsAt u (rest1 p) ps := by
 obtain ⟨h1, h2, h3⟩ := h
 simp only [List.length_cons] at h1
 refine ⟨by simp only [rest1]; omega, by simp only [rest1]; omega, fun i y hi => ?_⟩
 obtain ⟨b, f, e, hh⟩ := h3 (i + 1) y (by simpa using hi)
 have hlt := (List.getElem?_eq_some_iff.1 hi).1
 simp only [rest1]
 rw [if_neg (by omega), e]
 refine ⟨b, f + 1, by simp [Addr.add], fun j v hj => ?_⟩
 have := hh j v hj
 rwa [show f + 1 + i + j = f + (i + 1) + j by omega]
def StepR (A : Option Addr) (n c : Nat) (m r : Int) (s : Int × Wk × List ByteArray) (v : Value) (cs : List (List Value)) (u' : Mem) : Prop :=
 ErrAt u' v s.1 ∧ ∃ p, cs = [cv K1 (s.2.1.row (A, n, c) m r p)] ∧ (s.1 = 0 → PartsAt u' p s.2.2)
def HopOk (A : Option Addr) (n c : Nat) (m r : Int) (hopF : Wk → ByteArray → List ByteArray → Int × Wk × List ByteArray) : Prop :=
 ∀ (k : Wk) (text : ByteArray) (rest : List ByteArray) (p q : Option Addr × Nat × Nat) (b : Nat) (u : Mem), text.size ≤ 1000 → rest.length ≤ 1000000 → PartsAt u q rest →
  CV Tryz.prog 150 [.pointer (some ⟨b, 0, none⟩), .string text, .slice q.1 q.2.1 q.2.2] [(b, cv K1 (k.row (A, n, c) m r p))] u (StepR A n c m r (hopF k text rest))
def tailF (hopF : Wk → ByteArray → List ByteArray → Int × Wk × List ByteArray) (k : Wk) (part : ByteArray) (rest : List ByteArray) (ino : Int) (n : Nd) : Int × Wk × List ByteArray :=
 if ino = -1 then (if rest = [] then (0, k.ended ⟨k.at_, part, -1, k.slash⟩, [part]) else (2, k, []))
 else if n.f0 = 3 ∧ (¬ rest = [] ∨ k.follow = true ∨ k.slash = true) then hopF k n.f6 rest
 else if rest = [] then (if k.slash = true ∧ ¬ n.f0 = 2 then (4, k, []) else (0, { k.ended ⟨k.at_, part, ino, k.slash⟩ with at_ := ino }, []))
 else (0, { k with at_ := ino }, rest)
def stepF (hopF : Wk → ByteArray → List ByteArray → Int × Wk × List ByteArray) (ns : List Nd) (k : Wk) (part : ByteArray) (rest : List ByteArray) : Int × Wk × List ByteArray :=
 if ¬ hereB ns k.at_ = 0 then (hereB ns k.at_, k, [])
 else if mayB (getL ns k.at_).f1 (getL ns k.at_).f2 k.who 1 = false then (7, k, [])
 else tailF hopF k part rest (namedB k.at_ (getL ns k.at_) part) (getL ns (namedB k.at_ (getL ns k.at_) part))
set_option maxHeartbeats 1000000 in
theorem step.cv {hopF : Wk → ByteArray → List ByteArray → Int × Wk × List ByteArray} (A : Option Addr) (c : Nat) (ns : List Nd) (m r : Int) (hh : HopOk A ns.length c m r hopF) (k : Wk) (part : ByteArray) (rest : List ByteArray) (p : Option Addr × Nat × Nat) (b : Nat) (u : Mem)
  (hd : DiskAt u A ns) (hl : ns.length ≤ 1000000) (he : ∀ i, (getL ns i).f7.length ≤ 1000000 ∧ Sorted (getL ns i).f7 part ∧ (getL ns i).f6.size ≤ 1000) (hr : rest.length ≤ 1000000) (hp : PartsAt u p (part :: rest)) :
  CV Tryz.prog 135 [.pointer (some ⟨b, 0, none⟩)] [(b, cv K1 (k.row (A, ns.length, c) m r p))] u (StepR A ns.length c m r (stepF hopF ns k part rest)) := by
 obtain ⟨pa, pn, pc⟩ := p
 obtain ⟨q1, q2, q3⟩ := id hp
 simp only [List.length_cons] at q1 q2 q3
 refine cv_of names draws (fn := Tryz.f135) (b := bodyOf Tryz.f135) rfl rfl [] (step.args (k.row (A, ns.length, c) m r (pa, pn, pc))) (step.giv _) (fun _ => b) (step.run _) (by kernel_rfl) rfl rfl ?_
 simp only [step.T, Hold, PubTo, SV.den, E.den, denL, binI, cT_eql, cF_eql, cT_neq, cF_neq, cT_lss, cF_lss, cT_leq, cF_leq, cT_gtr, cF_gtr, cT_geq, cF_geq, tT_eql, tF_eql, tT_neq, tF_neq, rowsD, denLL, Ob.den, den_cells, List.map_nil, List.map_cons, true_implies, forall_const, true_and, and_true, Bool.true_eq_false, Bool.false_eq_true, reduceCtorEq, false_implies, implies_true, Bool.not_not, Bool.not_true, Bool.not_false, Bool.not_eq_true', Bool.not_eq_false', cond_true, cond_false, Nat.add_eq, Nat.mul_eq, Nat.sub_eq, Nat.add_zero, Nat.zero_mul, Nat.zero_add]
 refine (here.cv k ns A c m r (pa, pn, pc) b u hd hl).mono fun v cs u1 hu1 ⟨hc, a7, c7, e, hv, hE, h7, h8⟩ => ?_
 refine ⟨((getL ns k.at_).f0, (getL ns k.at_).f1, (getL ns k.at_).f2, (getL ns k.at_).f3, (getL ns k.at_).f4, (getL ns k.at_).f5, (getL ns k.at_).f6, (a7, (getL ns k.at_).f7.length, c7), e, ()), (k.row (A, ns.length, c) m r (pa, pn, pc), ()), hv, hc, fun b1 hb1 => ?_⟩
 unfold Wk.row
 dsimp only
 refine ⟨?_, fun hn => ?_, fun hn => ?_⟩
 ·rcases hE with ⟨_, rfl⟩ | ⟨_, q, rfl, _⟩
  ·exact .inl rfl
  ·exact .inr ⟨_, _, rfl⟩
 ·rcases id hE with ⟨_, rfl⟩ | ⟨h0, _⟩
  ·cases hn
  ·have : stepF hopF ns k part rest = (hereB ns k.at_, k, []) := by unfold stepF; rw [if_pos h0]
   rw [this]
   exact ⟨hE, (pa, pn, pc), rfl, fun h => absurd h h0⟩
 have d7 : (7 : Int) ≠ 0 := by decide
 have d2 : (2 : Int) ≠ 0 := by decide
 have d4 : (4 : Int) ≠ 0 := by decide
 have n0 : (0 : Int) < (pn : Int) := by omega
 have n1 : (1 : Int) ≤ (pn : Int) := by omega
 have n2 : (pn : Int) ≤ (pc : Int) := by omega
 obtain ⟨h0, rfl⟩ : hereB ns k.at_ = 0 ∧ e = .nilIface := by
  rcases hE with h | ⟨_, q, rfl, _⟩
  ·exact h
  ·cases hn
 refine (may.cv (getL ns k.at_).f1 (getL ns k.at_).f2 k.who 1 u1).mono fun v cs u2 hu2 ⟨hc2, hv2⟩ => ⟨(mayB (getL ns k.at_).f1 (getL ns k.at_).f2 k.who 1, ()), (), hv2, hc2, fun hm b3 hb3 u3 hu3 hw => ?_, fun hm => ?_⟩
 ·have : stepF hopF ns k part rest = (7, k, []) := by unfold stepF; rw [if_neg (by simp [h0]), if_pos hm]
  rw [this]
  exact ⟨.inr ⟨d7, _, rfl, hw _ (List.mem_singleton.2 rfl) 0 _ rfl⟩, (pa, pn, pc), rfl, fun h => absurd h d7⟩
 have hu02 := Mem.le_trans hu1 hu2
 have hp0 := (q3 0 part rfl)
 refine ⟨⟨Int.le_refl 0, n0, hp0.some⟩, (part, ()), hp0.mono hu02, ⟨by decide, n1, n2⟩, ?_⟩
 refine (named.cv k (getL ns k.at_) part a7 c7 (A, ns.length, c) m r (pa, pn, pc) b u2 (h8.mono hu2) (he k.at_).1 (he k.at_).2.1).mono fun v cs u3 hu3 ⟨hc3, hv3⟩ => ⟨(namedB k.at_ (getL ns k.at_) part, ()), (k.row (A, ns.length, c) m r (pa, pn, pc), ()), hv3, hc3, ?_⟩
 refine (get.cv A c ns m r (namedB k.at_ (getL ns k.at_) part) u3 (hd.mono (Mem.le_trans hu02 hu3)) hl).mono fun v cs u4 hu4 ⟨hc4, a8, c8, hv4, h9, h10⟩ => ?_
 have hS : stepF hopF ns k part rest = tailF hopF k part rest (namedB k.at_ (getL ns k.at_) part) (getL ns (namedB k.at_ (getL ns k.at_) part)) := by
  have hm : mayB (getL ns k.at_).f1 (getL ns k.at_).f2 k.who 1 = true := hm
  unfold stepF; rw [if_neg (by simp [h0]), if_neg (by rw [hm]; decide)]
 rw [hS]
 clear hS
 have hsz := (he (namedB k.at_ (getL ns k.at_) part)).2.2
 have hp4 := hp.mono (Mem.le_trans (Mem.le_trans hu02 hu3) hu4)
 generalize namedB k.at_ (getL ns k.at_) part = ino at *
 generalize getL ns ino = N at *
 refine ⟨(N.f0, N.f1, N.f2, N.f3, N.f4, N.f5, N.f6, (a8, N.f7.length, c8), getB ns ino, ()), (), hv4, hc4, fun b4 hb4 => ?_⟩
 unfold Wk.row
 dsimp only
 have cr : cmpI .eql (((pn - 1 : Nat)) : Int) 0 = decide (rest = []) := by
  rw [cD_eql, q1]
  cases rest with
  | nil => rfl
  | cons x r => rw [Bool.eq_iff_iff]; simp; omega
 have cF : ∀ x y : Bool, (bif x then y else false) = (x && y) := fun x y => by cases x <;> rfl
 have cT : ∀ x y : Bool, (bif x then true else y) = (x || y) := fun x y => by cases x <;> rfl
 have ci : cmpI .eql ino (-1) = decide (ino = -1) := cD_eql
 have c3 : cmpI .eql N.f0 3 = decide (N.f0 = 3) := cD_eql
 have c2 : cmpI .neq N.f0 2 = decide (¬ N.f0 = 2) := cD_neq
 have pr : PartsAt u4 (rest1 (pa, pn, pc)) rest := hp4.rest
 have hbk : upd (upd (fun x => b) 3 b1) 9 b4 147 = b := rfl
 simp only [cF, cT, ci, cr, c3, c2, hbk]
 refine ⟨fun ht => ?_, fun hf => ⟨fun hi => ?_, fun hi => ⟨fun ht => ?_, fun hf3 => ⟨fun ht => ?_, fun hf4 => ⟨fun hr0 => ?_, fun hr0 => ?_⟩⟩⟩⟩⟩
 ·have ht : ino = -1 ∧ rest = [] := by simpa using ht
  unfold tailF
  rw [if_pos ht.1, if_pos ht.2]
  have hpp : PartsAt u4 (pa, pn, pc) [part] := by rw [← ht.2]; exact hp4
  have hend := end_.cv2 k ⟨k.at_, part, -1, k.slash⟩ (A, ns.length, c) m r (pa, pn, pc) b u4
  refine CV.mono hend fun v cs u5 hu5 h5 => ?_
  refine ⟨(), ((k.ended ⟨k.at_, part, -1, k.slash⟩).row (A, ns.length, c) m r (pa, pn, pc), ()), h5.1, h5.2, ?_⟩
  dsimp only
  exact ⟨.inl ⟨rfl, rfl⟩, (pa, pn, pc), rfl, fun _ => hpp.mono hu5⟩
 ·have hi : ino = -1 := hi
  have hf : ¬ rest = [] := fun h => by
   have : (decide (ino = -1) && decide (rest = [])) = false := hf
   rw [decide_eq_true hi, decide_eq_true h] at this; cases this
  unfold tailF
  rw [if_pos hi, if_neg hf]
  exact fun b5 hb5 u5 hu5 hw => ⟨.inr ⟨d2, _, rfl, hw _ (List.mem_singleton.2 rfl) 0 _ rfl⟩, (pa, pn, pc), rfl, fun h => absurd h d2⟩
 ·have hi : ¬ ino = -1 := hi
  have ht : N.f0 = 3 ∧ (¬ rest = [] ∨ k.follow = true ∨ k.slash = true) := by
   have : (decide (N.f0 = 3) && (!decide (rest = []) || k.follow || k.slash)) = true := ht
   simpa [or_assoc] using this
  unfold tailF
  rw [if_neg hi, if_pos ht]
  exact (hh k N.f6 rest (pa, pn, pc) (rest1 (pa, pn, pc)) b u4 hsz hr pr).mono fun v cs u5 hu5 ⟨hE5, q, hc5, hp5⟩ => ⟨(v, ()), ((hopF k N.f6 rest).2.1.row (A, ns.length, c) m r q, ()), rfl, hc5, hE5, q, rfl, hp5⟩
 all_goals
  have hi : ¬ ino = -1 := hi
  have h3 : ¬ (N.f0 = 3 ∧ (¬ rest = [] ∨ k.follow = true ∨ k.slash = true)) := by
   intro h
   have h' : (decide (N.f0 = 3) && (!decide (rest = []) || k.follow || k.slash)) = false := hf3
   have h'' : (decide (N.f0 = 3) && (!decide (rest = []) || k.follow || k.slash)) = true := by simpa [or_assoc] using h
   rw [h''] at h'; cases h'
  unfold tailF
  rw [if_neg hi, if_neg h3]
 ·have ht : (rest = [] ∧ k.slash = true) ∧ ¬ N.f0 = 2 := by
   have : ((decide (rest = []) && k.slash) && decide (¬ N.f0 = 2)) = true := ht
   simpa using this
  rw [if_pos ht.1.1, if_pos ⟨ht.1.2, ht.2⟩]
  exact fun b5 hb5 u5 hu5 hw => ⟨.inr ⟨d4, _, rfl, hw _ (List.mem_singleton.2 rfl) 0 _ rfl⟩, (pa, pn, pc), rfl, fun h => absurd h d4⟩
 ·have hr0 : rest = [] := by
   have : ((pn - 1 : Nat) : Int) = 0 := hr0
   have : rest.length = 0 := by omega
   exact List.length_eq_zero_iff.1 this
  have hf4 : ¬ (k.slash = true ∧ ¬ N.f0 = 2) := by
   intro h
   have h' : ((decide (rest = []) && k.slash) && decide (¬ N.f0 = 2)) = false := hf4
   have h'' : ((decide (rest = []) && k.slash) && decide (¬ N.f0 = 2)) = true := by simp [hr0, h.1, h.2]
   rw [h''] at h'; cases h'
  rw [if_pos hr0, if_neg hf4]
  have hpp : PartsAt u4 (rest1 (pa, pn, pc)) [] := by rw [← hr0]; exact pr
  have hend := end_.cv2 k ⟨k.at_, part, ino, k.slash⟩ (A, ns.length, c) m r (pa, pn, pc) b u4
  refine CV.mono hend fun v cs u5 hu5 h5 => ?_
  refine ⟨(), ((k.ended ⟨k.at_, part, ino, k.slash⟩).row (A, ns.length, c) m r (pa, pn, pc), ()), h5.1, h5.2, ?_⟩
  dsimp only
  exact ⟨.inl ⟨rfl, rfl⟩, rest1 (pa, pn, pc), rfl, fun _ => hpp.mono hu5⟩
 ·have hr0 : ¬ rest = [] := by
   intro h
   have : ¬ ((pn - 1 : Nat) : Int) = 0 := hr0
   rw [h] at q1
   simp at q1
   omega
  rw [if_neg hr0]
  exact ⟨.inl ⟨rfl, rfl⟩, rest1 (pa, pn, pc), rfl, fun _ => pr⟩
end Go.Proofs.YtpfbimkpcnnfkaaGreatDoor.Sx
