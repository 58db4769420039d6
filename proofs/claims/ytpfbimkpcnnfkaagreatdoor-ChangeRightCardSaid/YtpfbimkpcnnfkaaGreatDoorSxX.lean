/- Sx: slices of one's own that grow: append. Nothing of the program. -/
import Derived.Test.YtpfbimkpcnnfkaaGreatDoorSxS
import Derived.Test.YtpfbimkpcnnfkaaGreatDoorSxK
import Derived.Test.YtpfbimkpcnnfkaaGreatDoorProg
import Derived.ArgAppend
/- Sx: words for contracts' proofs: cells' values, places read, loops by typed cells. Nothing of the program. -/
/- Sx: contracts over worlds, turned into contracts over views. Nothing of the program. -/
/- Sx: this program: no function is named as the scheduler's own. -/
set_option maxRecDepth 100000
namespace Go.Proofs.YtpfbimkpcnnfkaaGreatDoor.Sx
open Go Go.RowKit Go.Proofs.YtpfbimkpcnnfkaaGreatDoor
def namesB (P : Program) : Bool := P.funcs.toList.all fun f => !(f.name == "runtime.NumGoroutine")
theorem names_of {P : Program} (h : namesB P = true) : Names P := fun f fn hf => by
 have := List.all_eq_true.1 h fn (by
  have := Array.mem_of_getElem? hf
  exact Array.mem_toList_iff.2 this)
 simpa using this
theorem names : Names Tryz.prog := names_of (by kernel_rfl)
theorem draws : DrawOk Tryz.prog := draw_ok names (by kernel_rfl)
end Go.Proofs.YtpfbimkpcnnfkaaGreatDoor.Sx
set_option linter.unusedVariables false
set_option linter.unusedSimpArgs false
namespace Go.Proofs.YtpfbimkpcnnfkaaGreatDoor.Sx
open Go Go.RowKit Go.Proofs.YtpfbimkpcnnfkaaGreatDoor
noncomputable def Mem.plus (u : Mem) (n : Nat) (w : World) : Mem := open Classical in fun b o => if n ≤ b ∧ Plain w b then w.cell? ⟨b, o, none⟩ else u b o
theorem Sees.lt {u : Mem} {w : World} (h : Sees u w) {b o : Nat} (hb : u b o ≠ none) : b < w.heap.size := by
 cases hx : u b o with
 | none => exact absurd hx hb
 | some x =>
  have := h b o x hx
  by_cases hlt : b < w.heap.size
  ·exact hlt
  ·have hn : w.heap[b]? = none := Array.getElem?_eq_none (by omega)
   simp [World.cell?, hn] at this
theorem cell_below {w w' : World} (hb : Below w.heap.size w w') {b : Nat} (hlt : b < w.heap.size) (o : Nat) : w'.cell? ⟨b, o, none⟩ = w.cell? ⟨b, o, none⟩ := by
 simp only [World.cell?, hb.block b hlt]
theorem Sees.below {u : Mem} {w w' : World} (h : Sees u w) (hb : Below w.heap.size w w') : Sees u w' := fun b o x hx => by
 rw [cell_below hb (h.lt (by rw [hx]; simp)) o]; exact h b o x hx
theorem Mem.le_plus {u : Mem} {w w' : World} (h : Sees u w) : u.le (u.plus w.heap.size w') := fun b o x hx => by
 have := h.lt (b := b) (o := o) (by rw [hx]; simp)
 unfold Mem.plus
 rw [if_neg (by omega)]; exact hx
theorem cv_world {P : Program} {f : FuncId} {args : List Value} {u : Mem} {R : Value → Mem → Prop}
  (h : ∀ w, Sees u w → Calls P f args.toArray w fun e w' => ∃ v, e = .returned v ∧ Below w.heap.size w w' ∧ R v (u.plus w.heap.size w')) : CV P f args [] u fun v cs u' => cs = [] ∧ R v u' := by
 intro w hs _ _
 refine (h w hs).mono fun e w' ⟨v, he, hb, hr⟩ => ⟨v, [], u.plus w.heap.size w', he, ⟨⟨hb.os, hb.tape, hb.output, hb.size, fun k hk _ => hb.block k hk⟩, rfl, fun j b c hj => by simp at hj, ?_, Mem.le_plus hs, ?_, ?_⟩, rfl, hr⟩
 ·intro b o x hx
  unfold Mem.plus at hx
  split at hx
  ·exact hx
  ·exact hs.below hb b o x hx
 ·intro b o hx
  refine ⟨?_, by simp⟩
  unfold Mem.plus at hx
  split at hx
  ·rename_i hc; exact .inr hc.1
  ·exact .inl hx
 ·intro b o hx
  unfold Mem.plus at hx
  split at hx
  ·rename_i hc; exact .inr hc.2
  ·exact .inl hx
theorem cv_still {P : Program} {f : FuncId} {args : List Value} {u : Mem} {v0 : Value}
  (h : ∀ w, Calls P f args.toArray w fun e w' => e = .returned v0 ∧ Below w.heap.size w w') : CV P f args [] u fun v cs u' => cs = [] ∧ v = v0 :=
 cv_world (R := fun v _ => v = v0) fun w _ => (h w).mono fun e w' ⟨he, hb⟩ => ⟨v0, he, hb, rfl⟩
end Go.Proofs.YtpfbimkpcnnfkaaGreatDoor.Sx
set_option linter.unusedVariables false
set_option linter.unusedSimpArgs false
namespace Go.Proofs.YtpfbimkpcnnfkaaGreatDoor.Sx
open Go Go.RowKit Go.Proofs.YtpfbimkpcnnfkaaGreatDoor
def cv : (ks : List CK) → Cells S.ty ks → List Value
 | [], _ => []
 | k :: r, x => (k.sv x.1).den (fun _ => 0) :: cv r x.2
theorem den_cells (bk : Nat → Nat) : ∀ (ks : List CK) (x : Cells S.ty ks), denL bk (cellsSV ks x) = cv ks x
 | [], _ => rfl
 | k :: r, x => by
  show (k.sv x.1).den bk :: denL bk (cellsSV r x.2) = _
  rw [den_cells bk r x.2]
  cases k <;> rfl
theorem cv_inj : ∀ {ks : List CK} {x y : Cells S.ty ks}, cv ks x = cv ks y → x = y
 | [], _, _, _ => rfl
 | k :: r, x, y, h => by
  simp only [cv, List.cons.injEq] at h
  have h1 : x.1 = y.1 := by
   have := h.1
   cases k with
   | i k => simpa [CK.sv, SV.den, E.den] using this
   | b => simpa [CK.sv, SV.den, E.den] using this
   | t => simpa [CK.sv, SV.den, E.den] using this
   | s => simp only [CK.sv, SV.den, E.den, Value.slice.injEq] at this; exact Prod.ext this.1 (Prod.ext this.2.1 this.2.2)
   | v => simpa [CK.sv, SV.den, E.den] using this
  exact Prod.ext h1 (cv_inj h.2)
def cvL : (l : List (List CK)) → CellsL S.ty l → List (List Value)
 | [], _ => []
 | k :: r, x => cv k x.1 :: cvL r x.2
theorem denLL_cv (bk : Nat → Nat) : ∀ (l : List (List CK)) (x : CellsL S.ty l), denLL bk l x = cvL l x
 | [], _ => rfl
 | k :: r, x => by simp only [denLL, cvL, den_cells, denLL_cv bk r x.2]
theorem cvL_inj : ∀ {l : List (List CK)} {x y : CellsL S.ty l}, cvL l x = cvL l y → x = y
 | [], _, _, _ => rfl
 | k :: r, x, y, h => by
  simp only [cvL, List.cons.injEq] at h
  exact Prod.ext (cv_inj h.1) (cvL_inj h.2)
section
variable {x y : Int}
theorem cT_eql : (cmpI .eql x y = true) = (x = y) := by simp [cmpI]
theorem cF_eql : (cmpI .eql x y = false) = (¬ x = y) := by simp [cmpI]
theorem cT_neq : (cmpI .neq x y = true) = (¬ x = y) := by simp [cmpI]
theorem cF_neq : (cmpI .neq x y = false) = (x = y) := by simp [cmpI]
theorem cT_lss : (cmpI .lss x y = true) = (x < y) := by simp [cmpI]
theorem cF_lss : (cmpI .lss x y = false) = (y ≤ x) := by simp [cmpI]
theorem cT_leq : (cmpI .leq x y = true) = (x ≤ y) := by simp [cmpI]
theorem cF_leq : (cmpI .leq x y = false) = (y < x) := by simp [cmpI]
theorem cT_gtr : (cmpI .gtr x y = true) = (y < x) := by simp [cmpI]
theorem cF_gtr : (cmpI .gtr x y = false) = (x ≤ y) := by simp [cmpI]
theorem cT_geq : (cmpI .geq x y = true) = (y ≤ x) := by simp [cmpI]
theorem cF_geq : (cmpI .geq x y = false) = (x < y) := by simp [cmpI]
end
theorem cD_eql {x y : Int} : cmpI .eql x y = decide (x = y) := by rw [Bool.eq_iff_iff]; simp [cmpI]
theorem cD_neq {x y : Int} : cmpI .neq x y = decide (¬ x = y) := by rw [Bool.eq_iff_iff]; simp [cmpI]
theorem tT_eql {x y : ByteArray} : (cmpT .eql x y = true) = (x.toList = y.toList) := by simp [cmpT]
theorem tF_eql {x y : ByteArray} : (cmpT .eql x y = false) = ¬ (x.toList = y.toList) := by simp [cmpT]
theorem tT_neq {x y : ByteArray} : (cmpT .neq x y = true) = ¬ (x.toList = y.toList) := by simp [cmpT]
theorem tF_neq {x y : ByteArray} : (cmpT .neq x y = false) = (x.toList = y.toList) := by simp [cmpT]
theorem Reads.mono {u u' : Mem} {a : Option Addr} {o : Nat} {vs : List Value} (h : Reads u a o vs) (hu : u.le u') : Reads u' a o vs := by
 obtain ⟨b, f, e, h⟩ := h
 exact ⟨b, f, e, fun j v hj => hu _ _ _ (h j v hj)⟩
theorem Reads.part {u : Mem} {a : Option Addr} {o : Nat} {vs : List Value} (h : Reads u a o vs) (k n : Nat) : Reads u a (o + k) ((vs.drop k).take n) := by
 obtain ⟨b, f, e, h⟩ := h
 refine ⟨b, f, e, fun j v hj => ?_⟩
 rw [List.getElem?_take] at hj
 split at hj
 ·rw [List.getElem?_drop] at hj
  have := h (k + j) v hj
  rwa [show f + o + (k + j) = f + (o + k) + j by omega] at this
 ·cases hj
theorem Reads.some {u : Mem} {a : Option Addr} {o : Nat} {vs : List Value} (h : Reads u a o vs) : Option.isSome a = true := by
 obtain ⟨b, f, rfl, _⟩ := h; rfl
section
open Classical in
theorem hold_loop {P : Program} {u0 : Mem} {R : Value → List (List Value) → Mem → Prop} {n : Nat} {sk : List CK} {oks : List (List CK)} {xs : List (SV S.ty)} {cs : List (List (SV S.ty))} {body : Cells S.ty sk → CellsL S.ty oks → Tree S.ty} {bk : Nat → Nat} {u : Mem}
  {Ag : Nat → List Value → List (List Value) → Mem → Prop} (I : Cells S.ty sk → CellsL S.ty oks → Mem → Prop) (m : Cells S.ty sk → CellsL S.ty oks → Nat) (x0 : Cells S.ty sk) (y0 : CellsL S.ty oks)
  (hx : denL bk xs = cv sk x0) (hy : cs.map (denL bk) = cvL oks y0) (h0 : I x0 y0 u)
  (hb : ∀ x y u', I x y u' → Hold P u0 R (body x y) bk u' fun j => if j = n then fun vs ws u'' => ∃ x' y', vs = cv sk x' ∧ ws = cvL oks y' ∧ I x' y' u'' ∧ m x' y' < m x y else Ag j) : Hold P u0 R (.loop n sk oks xs cs body) bk u Ag := by
 have key : ∀ x y, (if h : ∃ p : Cells S.ty sk × CellsL S.ty oks, cv sk x = cv sk p.1 ∧ cvL oks y = cvL oks p.2 then m (Classical.choose h).1 (Classical.choose h).2 else 0) = m x y := fun x y => by
  have h : ∃ p : Cells S.ty sk × CellsL S.ty oks, cv sk x = cv sk p.1 ∧ cvL oks y = cvL oks p.2 := ⟨(x, y), rfl, rfl⟩
  rw [dif_pos h]
  obtain ⟨e1, e2⟩ := Classical.choose_spec h
  rw [← cv_inj e1, ← cvL_inj e2]
 refine ⟨fun vs ws u => ∃ x y, vs = cv sk x ∧ ws = cvL oks y ∧ I x y u, fun vs ws _ => if h : ∃ p : Cells S.ty sk × CellsL S.ty oks, vs = cv sk p.1 ∧ ws = cvL oks p.2 then m (Classical.choose h).1 (Classical.choose h).2 else 0, ⟨x0, y0, hx, hy, h0⟩, ?_⟩
 intro x y u' ⟨x', y', e1, e2, hI⟩
 rw [den_cells] at e1 ⊢
 rw [denLL_cv] at e2 ⊢
 rw [cv_inj e1, cvL_inj e2]
 dsimp only
 rw [key]
 have := hb x' y' u' hI
 refine cast (congrArg (Hold P u0 R (body x' y') bk u') ?_) this
 funext j vs ws u''
 by_cases hj : j = n
 ·subst hj
  simp only [if_true]
  refine propext ⟨?_, ?_⟩
  ·rintro ⟨x2, y2, f1, f2, f3, f4⟩
   subst f1 f2
   exact ⟨⟨x2, y2, rfl, rfl, f3⟩, by rw [key]; exact f4⟩
  ·rintro ⟨⟨x2, y2, f1, f2, f3⟩, f4⟩
   subst f1 f2
   rw [key] at f4
   exact ⟨x2, y2, rfl, rfl, f3, f4⟩
 ·simp only [if_neg hj]
end
end Go.Proofs.YtpfbimkpcnnfkaaGreatDoor.Sx
set_option linter.unusedVariables false
set_option linter.unusedSimpArgs false
namespace Go.Proofs.YtpfbimkpcnnfkaaGreatDoor.Sx
open Go Go.RowKit Go.Proofs.YtpfbimkpcnnfkaaGreatDoor
structure Grow (v u : Mem) (s : Option Addr × Nat × Nat) (size : Nat) (es : List Value) : Prop where
 le : v.le u
 len : es.length = s.2.1 * size
 cap : s.2.1 ≤ s.2.2
 at_ : (s.1 = none ∧ s.2.2 = 0) ∨ ∃ b sp, s.1 = some ⟨b, 0, none⟩ ∧ (∀ o, v b o = none) ∧ (∀ (j : Nat) x, (es ++ sp)[j]? = some x → u b j = some x) ∧ (es ++ sp).length = s.2.2 * size
theorem Grow.up {v u u' : Mem} {s : Option Addr × Nat × Nat} {size : Nat} {es : List Value} (h : Grow v u s size es) (hu : u.le u') : Grow v u' s size es :=
 ⟨Mem.le_trans h.le hu, h.len, h.cap, h.at_.imp (fun h => h) fun ⟨b, sp, h1, h2, h3, h4⟩ => ⟨b, sp, h1, h2, fun j x hx => hu _ _ _ (h3 j x hx), h4⟩⟩
theorem Grow.down {v v' u : Mem} {s : Option Addr × Nat × Nat} {size : Nat} {es : List Value} (h : Grow v u s size es) (hv : v'.le v) : Grow v' u s size es :=
 ⟨Mem.le_trans hv h.le, h.len, h.cap, h.at_.imp (fun h => h) fun ⟨b, sp, h1, h2, h3, h4⟩ => ⟨b, sp, h1, fun o => (by
  cases hx : v' b o with
  | none => rfl
  | some x => (have := hv _ _ _ hx; rw [h2 o] at this; cases this)), h3, h4⟩⟩
theorem Grow.nil {u : Mem} {size : Nat} : Grow u u (none, 0, 0) size [] := ⟨Mem.le_refl u, by simp, Nat.le_refl _, .inl ⟨rfl, rfl⟩⟩
theorem Grow.reads {v u : Mem} {s : Option Addr × Nat × Nat} {size : Nat} {es : List Value} (h : Grow v u s size es) {i k : Nat} {vs : List Value} (hk : 0 < vs.length) (hv : ∀ (j : Nat) x, vs[j]? = some x → es[i + j]? = some x) : Reads u s.1 i vs := by
 rcases h.at_ with ⟨_, h0⟩ | ⟨b, sp, h1, h2, h3, h4⟩
 ·have h5 := h.cap
  have : es.length = 0 := by rw [h.len]; rw [show s.2.1 = 0 by omega]; simp
  have := (List.getElem?_eq_some_iff.1 (hv 0 vs[0] (List.getElem?_eq_getElem hk))).1
  omega
 ·refine ⟨b, 0, h1, fun j x hx => ?_⟩
  have h5 := hv j x hx
  rw [Nat.zero_add]
  exact h3 _ _ (by rw [List.getElem?_append_left (List.getElem?_eq_some_iff.1 h5).1]; exact h5)
def Mem.with (u : Mem) (b : Nat) (cs : List Value) : Mem := fun k o => if k = b then cs[o]? else u k o
theorem Mem.le_with {u : Mem} {b : Nat} {cs : List Value} (h : ∀ o, u b o = none) : u.le (u.with b cs) := fun k o x hx => by
 have : k ≠ b := fun e => by rw [e, h] at hx; cases hx
 unfold Mem.with; rw [if_neg this]; exact hx
theorem Mem.with_self {u : Mem} {b : Nat} {cs : List Value} (o : Nat) : u.with b cs b o = cs[o]? := by unfold Mem.with; rw [if_pos rfl]
theorem Mem.with_ne {u : Mem} {b k : Nat} {cs : List Value} (o : Nat) (h : k ≠ b) : u.with b cs k o = u k o := by unfold Mem.with; rw [if_neg h]
theorem sees_lt {u : Mem} {w : World} (h : Sees u w) {b o : Nat} (hb : u b o ≠ none) : b < w.heap.size := by
 obtain ⟨v, hv⟩ := Option.ne_none_iff_exists'.1 hb
 exact cell_lt (h b o v hv)
theorem fresh_mem {P : Program} {base : Nat} {u0 v u : Mem} {w w' : World} (hs : Sees u w) (hold : ∀ k o, u k o ≠ none → u0 k o ≠ none ∨ (base ≤ k ∧ Plain w k)) (hb : base ≤ w.heap.size) (hv : u0.le v) (hvu : v.le u)
  (hg : w.grownBy w' none) {g : Nat} {cur : Array Value} {e : TypeId} (hgs : w.heap.size ≤ g) (hc : w'.heap[g]? = some (.cells cur e (0, 0))) {cs : List Value} (hcs : ∀ (j : Nat) x, cs[j]? = some x → cur[j]? = some x) :
  Gro (fun k => base ≤ k ∧ ∃ o, u k o ≠ none) w w' ∧ Sees (v.with g cs) w' ∧ (∀ k o, v.with g cs k o ≠ none → (∃ o', u k o' ≠ none) ∨ w.heap.size ≤ k) ∧ (∀ k o, v.with g cs k o ≠ none → u0 k o ≠ none ∨ (base ≤ k ∧ Plain w' k)) ∧
   u0.le (v.with g cs) ∧ v.le (v.with g cs) ∧ ∀ o, v g o = none := by
 have hvn : ∀ k o, v k o ≠ none → u k o ≠ none := fun k o h => by
  obtain ⟨x, hx⟩ := Option.ne_none_iff_exists'.1 h
  rw [hvu k o x hx]; simp
 have hout : ∀ o, v g o = none := fun o => by
  cases hx : v g o with
  | none => rfl
  | some x => have := sees_lt hs (hvn g o (by rw [hx]; simp)); omega
 have hle := Mem.le_with (cs := cs) hout
 refine ⟨⟨hg.os, hg.tape, hg.output, hg.size, fun k hk _ => hg.block k hk (by simp)⟩, fun k o x hx => ?_, fun k o hn => ?_, fun k o hn => ?_, Mem.le_trans hv hle, hle, hout⟩
 ·by_cases hk : k = g
  ·subst hk
   rw [Mem.with_self] at hx
   simp only [World.cell?, hc]
   simpa using hcs o x hx
  ·rw [Mem.with_ne o hk] at hx
   have hx' := hvu k o x hx
   rw [cell_eq (hg.block k (sees_lt hs (by rw [hx']; simp)) (by simp))]
   exact hs k o x hx'
 ·by_cases hk : k = g
  ·exact .inr (by omega)
  ·rw [Mem.with_ne o hk] at hn; exact .inl ⟨o, hvn k o hn⟩
 ·by_cases hk : k = g
  ·subst hk; exact .inr ⟨by omega, cur, e, hc⟩
  ·rw [Mem.with_ne o hk] at hn
   have hu := hvn k o hn
   exact (hold k o hu).imp (fun h => h) fun h => ⟨h.1, plain_eq (hg.block k (sees_lt hs hu) (by simp)) h.2⟩
theorem bv_append {P : Program} {t ty e : TypeId} {i : TypeInfo} {z : Value} (ht : P.underlying t = some (.slice e)) (hi : P.info? e = some i) (hz : i.zero = some z) (hzs : z.cells.size = i.size) (hsz : 0 < i.size)
  {v u0 u : Mem} {s : Option Addr × Nat × Nat} {es : List Value} {a : Option Addr} {m c : Nat} {ys : List Value} (hv : u0.le v) (hg : Grow v u s i.size es) (hy : ys.length = m * i.size) (hr : m ≠ 0 → Reads u a 0 ys)
  (h1 : ∀ y ∈ ys, y.oneCell' = true) (hm : s.2.1 + m ≤ maxLen) (hb : (s.2.1 + m) * i.bytes ≤ 140737488355328) :
  BV P (.bi .append #[t, t] ty) [.slice s.1 s.2.1 s.2.2, .slice a m c] u0 u fun r u' => ∃ s' : Option Addr × Nat × Nat, r = .slice s'.1 s'.2.1 s'.2.2 ∧ s'.2.1 = s.2.1 + m ∧ Grow v u' s' i.size (es ++ ys) := by
 intro base w hs hold hbase hule
 obtain ⟨sa, n, cp⟩ := s
 have hgl := hg.len
 have hgc := hg.cap
 simp only at hgl hgc hm hb ⊢
 have hbi : ∀ args (v' : Value) (w' : World), (Builtin.append_ #[t, t] ty args).run P w = .ok v' w' → ∀ cs : Array Bool, (builtin .append #[t, t] ty cs args).run P w = .ok (.value v') w' := fun args v' w' h cs => by
  simp only [builtin, Sem.run_bind, h, Result.andThen_ok, Sem.run_pure]
 rcases Nat.eq_zero_or_pos m with h0 | h0
 ·-- nothing is appended
  subst h0
  have hys : ys = [] := List.eq_nil_of_length_eq_zero (by simpa using hy)
  subst hys
  refine ⟨.slice sa n cp, w, u, hbi _ _ _ ?_, Gro.refl _ _, hs, fun k o h => .inl ⟨o, h⟩, hold, hule, (sa, n, cp), rfl, rfl, by simpa using hg⟩
  have hfc : (Builtin.firstCells i.size 0 (.slice a 0 c)).run P w = .ok #[] w := by
   cases a with
   | none => rfl
   | some x => simp only [Builtin.firstCells, Nat.zero_mul]; rfl
  cases sa with
  | none => simp [Builtin.append_, run_underlying ht, sizeOf, typeInfo, hi, Builtin.lenOf, hgc, hfc]
  | some x => simp [Builtin.append_, run_underlying ht, sizeOf, typeInfo, hi, Builtin.lenOf, hgc, hfc, storeCells, Sem.run]
 obtain ⟨b', f', rfl, hcells⟩ := hr (by omega)
 have hnews : ∀ (j : Nat) x, ys[j]? = some x → w.cell? ((⟨b', f', none⟩ : Addr).add j) = some x := fun j x hx => by
  rw [addr_add]
  have := hs _ _ _ (hcells j x hx)
  simpa using this
 rcases Nat.lt_or_ge cp (n + m) with hgr | hfit
 ·-- a new row
  have key : ∃ v' w', (Builtin.append_ #[t, t] ty #[.slice sa n cp, .slice (some ⟨b', f', none⟩) m c]).run P w = .ok v' w' ∧ w'.ownsRow w.heap.size e i.size v' (n + m) (es ++ ys) ∧ w.grownBy w' none := by
   rcases hg.at_ with ⟨q1, q2⟩ | ⟨b, sp, q1, q2, q3, q4⟩
   ·simp only at q1 q2
    subst q1 q2
    obtain rfl : n = 0 := by omega
    obtain rfl : es = [] := List.eq_nil_of_length_eq_zero (by simpa using hgl)
    obtain ⟨v', w', r1, r2, r3, _⟩ := run_append_own (P := P) w w.heap.size t ty e i z i.size i.bytes ht hi hz rfl rfl hzs hsz (.slice none 0 0) 0 [] (World.ownsRow_nil w _ e i.size) ⟨b', f', none⟩ m c ys hy hnews h1 hm hb (Nat.le_refl _)
    exact ⟨v', w', r1, r2, r3⟩
   ·simp only at q1 q4
    subst q1
    exact run_append_arg_grows (P := P) w t ty e i z i.size i.bytes ht hi hz rfl rfl hzs hsz ⟨b, 0, none⟩ n cp es hgl (fun j x hx => by
     rw [addr_add]
     have := hs _ _ _ (q3 j x (by rw [List.getElem?_append_left (List.getElem?_eq_some_iff.1 hx).1]; exact hx))
     simpa using this) ⟨b', f', none⟩ m c ys hy hnews hgr hm hb
  obtain ⟨v', w', r1, r2, r3⟩ := key
  obtain ⟨l1, l2⟩ := r2
  rcases l2 with ⟨_, l2⟩ | ⟨g, cap, cur, rfl, l3, l4, l5, l6, l7, l8⟩
  ·omega
  have hcur : ∃ sp, cur.toList = (es ++ ys) ++ sp := ⟨cur.toList.drop ((n + m) * i.size), by rw [← l8, List.take_append_drop]⟩
  obtain ⟨sp, hsp⟩ := hcur
  obtain ⟨k1, k2, k3, k4, k5, k6, k7⟩ := fresh_mem (P := P) hs hold hbase hv hg.le r3 l3 l4 (cs := es ++ ys ++ sp) (fun j x hx => by rw [← hsp] at hx; simpa using hx)
  refine ⟨_, w', v.with g (es ++ ys ++ sp), hbi _ _ _ r1, k1, k2, k3, k4, k5, (some ⟨g, 0, none⟩, n + m, cap), rfl, rfl, k6, l1, l5, .inr ⟨g, sp, rfl, k7, fun j x hx => by rw [Mem.with_self]; exact hx, ?_⟩⟩
  rw [← hsp]; simpa using l7
 ·-- there is room
  rcases hg.at_ with ⟨_, q2⟩ | ⟨b, sp, q1, q2, q3, q4⟩
  ·simp only at q2; omega
  simp only at q1 q4
  subst q1
  have hlen : n * i.size + ys.length ≤ (es ++ sp).length := by
   rw [q4, hy, ← Nat.add_mul]; exact Nat.mul_le_mul_right _ hfit
  have hsome : ∀ j, j < (es ++ sp).length → ∃ x, u b j = some x := fun j hj => ⟨_, q3 j _ (List.getElem?_eq_getElem hj)⟩
  have hpl : base ≤ b ∧ Plain w b := by
   have hlt : 0 < (es ++ sp).length := by
    have : 0 < ys.length := by rw [hy]; exact Nat.mul_pos h0 hsz
    omega
   obtain ⟨x, hx⟩ := hsome 0 hlt
   rcases hold b 0 (by rw [hx]; simp) with h2 | h2
   ·obtain ⟨y, hy⟩ := Option.ne_none_iff_exists'.1 h2
    have := hv _ _ _ hy
    rw [q2] at this; cases this
   ·exact h2
  have hcell : ∀ j, j < ys.length → (w.cell? ⟨b, 0 + n * i.size + j, none⟩).isSome = true := fun j hj => by
   obtain ⟨x, hx⟩ := hsome (n * i.size + j) (by omega)
   rw [Nat.zero_add, hs _ _ _ hx]; rfl
  have hrun := run_append_room_cells (P := P) w t ty e i ht hi b 0 n cp ⟨b', f', none⟩ m c ys hy hnews h1 hfit hcell fun j _ => hpl.2.frozen _
  have hg' := gro_setCells b (0 + n * i.size) ys w
  have hc' := setCells_cell b ys (0 + n * i.size) w (by simpa using hcell)
  have hvn : ∀ k o, v k o ≠ none → u k o ≠ none := fun k o h => by
   obtain ⟨x, hx⟩ := Option.ne_none_iff_exists'.1 h
   rw [hg.le k o x hx]; simp
  refine ⟨_, _, v.with b (es ++ ys ++ sp.drop ys.length), hbi _ _ _ hrun, ⟨hg'.os, hg'.tape, hg'.output, hg'.size, fun k hk hB => hg'.block k hk fun e => hB (e ▸ ⟨hpl.1, ?_⟩)⟩, fun k o x hx => ?_, fun k o hn => ?_, fun k o hn => ?_,
   Mem.le_trans hv (Mem.le_with q2), (some ⟨b, 0, none⟩, n + m, cp), rfl, rfl, Mem.le_with q2, ?_, hfit, .inr ⟨b, sp.drop ys.length, rfl, q2, fun j x hx => by rw [Mem.with_self]; exact hx, ?_⟩⟩
  ·have hlt : 0 < (es ++ sp).length := by
    have : 0 < ys.length := by rw [hy]; exact Nat.mul_pos h0 hsz
    omega
   obtain ⟨x, hx⟩ := hsome 0 hlt
   exact ⟨0, by rw [hx]; simp⟩
  ·by_cases hk : k = b
   ·subst hk
    rw [Mem.with_self] at hx
    rw [hc']
    rw [List.append_assoc] at hx
    split
    ·rename_i hin
     rw [List.getElem?_append_right (by omega), List.getElem?_append_left (by omega), hgl] at hx
     rw [Nat.zero_add]; exact hx
    ·rename_i hin
     refine hs _ _ _ (q3 o x ?_)
     rcases Nat.lt_or_ge o es.length with h2 | h2
     ·rw [List.getElem?_append_left h2] at hx ⊢; exact hx
     ·rw [List.getElem?_append_right h2, List.getElem?_append_right (by omega), List.getElem?_drop] at hx
      rw [List.getElem?_append_right h2]
      rwa [show ys.length + (o - es.length - ys.length) = o - es.length by omega] at hx
   ·rw [Mem.with_ne o hk] at hx
    rw [cell_eq (setCells_other b _ _ _ _ hk)]
    exact hs _ _ _ (hg.le _ _ _ hx)
  ·by_cases hk : k = b
   ·subst hk
    have hlt : 0 < (es ++ sp).length := by
     have : 0 < ys.length := by rw [hy]; exact Nat.mul_pos h0 hsz
     omega
    obtain ⟨x, hx⟩ := hsome 0 hlt
    exact .inl ⟨0, by rw [hx]; simp⟩
   ·rw [Mem.with_ne o hk] at hn; exact .inl ⟨o, hvn k o hn⟩
  ·by_cases hk : k = b
   ·subst hk; exact .inr ⟨hpl.1, plain_setCells _ _ _ _ _ hpl.2⟩
   ·rw [Mem.with_ne o hk] at hn
    exact (hold k o (hvn k o hn)).imp (fun h => h) fun h => ⟨h.1, plain_setCells _ _ _ _ _ h.2⟩
  ·rw [List.length_append, hgl, hy, Nat.add_mul]
  ·simp only [List.length_append, List.length_drop] at q4 hlen ⊢; omega
theorem bv_app {P : Program} {t ty e : TypeId} {z : Value} {size bytes : Nat} (ht : P.underlying t = some (.slice e)) (hi : (P.info? e).map (fun i => (i.zero, i.size, i.bytes)) = some (some z, size, bytes)) (hzs : z.cells.size = size) (hsz : 0 < size)
  {v u0 u : Mem} {s : Option Addr × Nat × Nat} {es : List Value} {a : Option Addr} {m c : Nat} {ys : List Value} (hv : u0.le v) (hg : Grow v u s size es) (hy : ys.length = m * size) (hr : m ≠ 0 → Reads u a 0 ys)
  (h1 : ∀ y ∈ ys, y.oneCell' = true) (hm : s.2.1 + m ≤ 9223372036854775807) (hb : (s.2.1 + m) * bytes ≤ 140737488355328) :
  BV P (.bi .append #[t, t] ty) [.slice s.1 s.2.1 s.2.2, .slice a m c] u0 u fun r u' => ∃ s' : Option Addr × Nat × Nat, r = .slice s'.1 s'.2.1 s'.2.2 ∧ s'.2.1 = s.2.1 + m ∧ Grow v u' s' size (es ++ ys) := by
 cases h : P.info? e with
 | none => rw [h] at hi; cases hi
 | some i =>
  rw [h] at hi
  simp only [Option.map_some, Option.some.injEq, Prod.mk.injEq] at hi
  obtain ⟨h1', h2, h3⟩ := hi
  subst h2 h3
  exact bv_append ht h h1' hzs hsz hv hg hy hr h1 hm hb
theorem bv_one {P : Program} {t ty e : TypeId} {z : Value} {size bytes : Nat} (ht : P.underlying t = some (.slice e)) (hi : (P.info? e).map (fun i => (i.zero, i.size, i.bytes)) = some (some z, size, bytes)) (hzs : z.cells.size = size) (hsz : 0 < size)
  {v u0 u u1 : Mem} {s : Option Addr × Nat × Nat} {es : List Value} {b : Nat} {ys : List Value} (hv : u0.le v) (hg : Grow v u s size es) (hle : u.le u1) (hb1 : ∀ (j : Nat) x, ys[j]? = some x → u1 b j = some x) (hy : ys.length = size)
  (h1 : ∀ y ∈ ys, y.oneCell' = true) (hb : (s.2.1 + 1) * bytes ≤ 140737488355328) (hm : s.2.1 < 9223372036854775807) :
  BV P (.bi .append #[t, t] ty) [.slice s.1 s.2.1 s.2.2, .slice (some ⟨b, 0, none⟩) 1 1] u0 u1 fun r u' => ∃ s' : Option Addr × Nat × Nat, r = .slice s'.1 s'.2.1 s'.2.2 ∧ s'.2.1 = s.2.1 + 1 ∧ Grow v u' s' size (es ++ ys) :=
 bv_app ht hi hzs hsz hv (hg.up hle) (by rw [hy, Nat.one_mul]) (fun _ => ⟨b, 0, rfl, fun j x hx => by rw [show 0 + 0 + j = j by omega]; exact hb1 j x hx⟩) h1 (by omega) hb
theorem bv_emp {P : Program} {t e : TypeId} {n : Nat} (ht : P.underlying t = some (.slice e)) (hn : sizeB P e = some n) {u0 u : Mem} (size : Nat) :
  BV P (.emp t) [] u0 u fun r u' => ∃ s : Option Addr × Nat × Nat, r = .slice s.1 s.2.1 s.2.2 ∧ s.2.1 = 0 ∧ Grow u u' s size [] := by
 intro base w hs hold hbase hule
 have hun : ∀ o, u w.heap.size o = none := fun o => by
  cases hu : u w.heap.size o with
  | none => rfl
  | some v => exact absurd (cell_lt (hs _ _ _ hu)) (Nat.lt_irrefl _)
 have hrun : (Instr.buildSlice t 0 #[]).run P w = .ok (.slice (some ⟨w.heap.size, 0, none⟩) 0 0) (w.alloc (.cells #[] e (0, 0))) := by
  have e0 : ((Array.range 0).map fun _ => (default : Value)) = #[] := by simp
  simp [Instr.buildSlice, run_underlying ht, run_sizeB hn, Instr.fill, run_newRow, e0]
 have hg : Gro (fun k => base ≤ k ∧ ∃ o, u k o ≠ none) w (w.alloc (.cells #[] e (0, 0))) := (Gro.refl _ w).alloc _
 have hbl : ∀ k o, u k o ≠ none → (w.alloc (.cells #[] e (0, 0))).heap[k]? = w.heap[k]? := fun k o h => Below.heap_alloc w _ k (sees_lt hs h)
 refine ⟨_, _, u, hrun, hg, fun k o x hx => ?_, fun k o h => .inl ⟨o, h⟩, fun k o h => (hold k o h).imp (fun h => h) fun h' => ⟨h'.1, plain_eq (hbl k o h) h'.2⟩, hule, (some ⟨w.heap.size, 0, none⟩, 0, 0), rfl, rfl, Mem.le_refl u, by simp, Nat.le_refl _, .inr ⟨w.heap.size, [], rfl, hun, fun j x hx => by simp at hx, by simp⟩⟩
 rw [cell_eq (hbl k o (by rw [hx]; simp))]; exact hs k o x hx
theorem Hold.ag {P : Program} {u0 : Mem} {R : Value → List (List Value) → Mem → Prop} : ∀ {T : Tree S.ty} {bk : Nat → Nat} {u : Mem} {Ag Ag' : Nat → List Value → List (List Value) → Mem → Prop}, (∀ j vs ws u, Ag j vs ws u → Ag' j vs ws u) → Hold P u0 R T bk u Ag → Hold P u0 R T bk u Ag'
 | .bad, _, _, _, _, _, h => h
 | .ret _ _ _, _, _, _, _, _, h => h
 | .test _ x y, _, _, _, _, ha, h => ⟨fun g => Hold.ag ha (h.1 g), fun g => Hold.ag ha (h.2 g)⟩
 | .ob _ _ x, _, _, _, _, ha, h => ⟨h.1, Hold.ag ha h.2⟩
 | .new _ x, _, _, _, _, ha, h => fun b hb => Hold.ag ha (h b hb)
 | .uld _ _ _ _ k, _, _, _, _, ha, h => ⟨fun g => (h.1 g).imp fun x hx => ⟨hx.1, Hold.ag ha hx.2⟩, fun g => Hold.ag ha (h.2 g)⟩
 | .ust _ _ _ x, _, _, _, _, ha, h => by obtain ⟨b, f, h1, h2, h3, h4⟩ := h; exact ⟨b, f, h1, h2, h3, Hold.ag ha h4⟩
 | .call _ _ _ _ _ _ _ _ k, _, _, _, _, ha, h => ⟨fun g => (h.1 g).mono fun u1 hc => hc.mono fun v cs u' ⟨xs, ys, e1, e2, e3⟩ => ⟨xs, ys, e1, e2, Hold.ag ha e3⟩, fun g => Hold.ag ha (h.2 g)⟩
 | .bi _ _ _ _ _ k, _, _, _, _, ha, h => ⟨fun g => (h.1 g).mono fun u1 hc => hc.mono fun v u' ⟨xs, e1, e3⟩ => ⟨xs, e1, Hold.ag ha e3⟩, fun g => Hold.ag ha (h.2 g)⟩
 | .loop n _ _ _ _ body, _, _, _, _, ha, h => by
  obtain ⟨I, m, h1, h2⟩ := h
  refine ⟨I, m, h1, fun x y u' hi => Hold.ag (fun j vs ws u h => ?_) (h2 x y u' hi)⟩
  by_cases hj : j = n
  ·simp only [if_pos hj] at h ⊢; exact h
  ·simp only [if_neg hj] at h ⊢; exact ha j vs ws u h
 | .again _ _ _ _, _, _, _, _, ha, h => ⟨h.1, ha _ _ _ _ h.2⟩
section
variable {P : Program} {u0 : Mem} {R : Value → List (List Value) → Mem → Prop} {bk : Nat → Nat} {u : Mem} {Ag : Nat → List Value → List (List Value) → Mem → Prop} {q : Bool} {f : FuncId} {args : List (SV S.ty)} {rs : List RT} {kss : List (List CK)}
theorem hold_call {k : Cells S.ty (RT.ks rs) → CellsL S.ty kss → Tree S.ty} (h : CC P f (denL bk args) q [] u0 u fun v cs u2 => ∃ xs ys, v = (resSV rs (cellsSV (RT.ks rs) xs)).den bk ∧ cs = denLL bk kss ys ∧ Hold P u0 R (k xs ys) bk u2 Ag) :
  Hold P u0 R (.call (.b true) q f args [] [] rs kss k) bk u Ag := ⟨fun _ => h, fun h => by cases h⟩
theorem hold_callg {g : E S.ty .B} {k : Cells S.ty (RT.ks rs) → CellsL S.ty kss → Tree S.ty} (Q : Cells S.ty (RT.ks rs) → CellsL S.ty kss → Mem → Prop) (h1 : g.den = true → CC P f (denL bk args) q [] u0 u fun v cs u2 => ∃ xs ys, v = (resSV rs (cellsSV (RT.ks rs) xs)).den bk ∧ cs = denLL bk kss ys ∧ Q xs ys u2)
  (h2 : g.den = false → Q (dflt _) (dfltL _) u) (hk : ∀ xs ys u2, Q xs ys u2 → Hold P u0 R (k xs ys) bk u2 Ag) :
  Hold P u0 R (.call g q f args [] [] rs kss k) bk u Ag := ⟨fun hg => (h1 hg).mono fun v cs u2 ⟨xs, ys, e1, e2, e3⟩ => ⟨xs, ys, e1, e2, hk _ _ _ e3⟩, fun hg => hk _ _ _ (h2 hg)⟩
theorem hold_uldg {g : E S.ty .B} {a : E S.ty .A} {o : E S.ty .N} {ks : List CK} {k : Cells S.ty ks → Tree S.ty} (Q : Cells S.ty ks → Prop) (h1 : g.den = true → ∃ x : Cells S.ty ks, Reads u a.den o.den (denL bk (cellsSV ks x)) ∧ Q x) (h2 : g.den = false → Q (dflt _)) (hk : ∀ x, Q x → Hold P u0 R (k x) bk u Ag) :
  Hold P u0 R (.uld g a o ks k) bk u Ag := ⟨fun hg => (h1 hg).imp fun x hx => ⟨hx.1, hk x hx.2⟩, fun hg => hk _ (h2 hg)⟩
theorem hold_bi {p : Prim} {k : Cells S.ty (RT.ks rs) → Tree S.ty} (h : BV P p (denL bk args) u0 u fun v u2 => ∃ xs, v = (resSV rs (cellsSV (RT.ks rs) xs)).den bk ∧ Hold P u0 R (k xs) bk u2 Ag) :
  Hold P u0 R (.bi (.b true) p args [] rs k) bk u Ag := ⟨fun _ => h, fun h => by cases h⟩
end
theorem hold_count {P : Program} {u0 : Mem} {R : Value → List (List Value) → Mem → Prop} {n : Nat} {bk : Nat → Nat} {u : Mem} {Ag : Nat → List Value → List (List Value) → Mem → Prop} {body : Cells S.ty [.i .i64] → CellsL S.ty [] → Tree S.ty} (N : Nat) (I : Nat → Mem → Prop) (h0 : I 0 u)
  (hb : ∀ (i : Nat) u', i ≤ N → I i u' → Hold P u0 R (body ((i : Int), ()) ()) bk u' fun j => if j = n then fun vs ws u'' => vs = [.int .i64 ((i + 1 : Nat) : Int)] ∧ ws = [] ∧ i < N ∧ I (i + 1) u'' else Ag j) :
  Hold P u0 R (.loop n [.i .i64] [] [.i .i64 (.i 0)] [] body) bk u Ag := by
 refine hold_loop (sk := [.i .i64]) (oks := []) (fun x _ u' => ∃ i : Nat, x = ((i : Int), ()) ∧ i ≤ N ∧ I i u') (fun x _ => ((N : Int) - x.1).toNat) (0, ()) () rfl rfl ⟨0, rfl, by omega, h0⟩ ?_
 rintro x y u' ⟨i, rfl, hi, hI⟩
 refine Hold.ag (fun j vs ws u'' h => ?_) (hb i u' hi hI)
 by_cases hj : j = n
 ·simp only [if_pos hj] at h ⊢
  obtain ⟨rfl, rfl, h3, h4⟩ := h
  exact ⟨(((i + 1 : Nat) : Int), ()), (), rfl, rfl, ⟨i + 1, rfl, by omega, h4⟩, by simp only; omega⟩
 ·simp only [if_neg hj] at h ⊢; exact h
theorem wrap_succ {i : Nat} (h : i < 4611686018427387904) : IntKind.i64.wrap ((i : Int) + 1) = ((i + 1 : Nat) : Int) := by rw [IntKind.wrap_i64] <;> omega
end Go.Proofs.YtpfbimkpcnnfkaaGreatDoor.Sx
