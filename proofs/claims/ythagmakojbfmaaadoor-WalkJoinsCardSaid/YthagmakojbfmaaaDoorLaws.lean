/- Laws of append in my own words (Rp, Own): for the walk's lists and for the steps of regions. -/
import Derived.Test.YthagmakojbfmaaaDoorBase
import Derived.ArgAppend
import Derived.Deep.AppendLies
import Derived.Deep.RegionLawGrows
import Derived.Laws.MakeOwn
import Derived.Laws.Tables
set_option linter.unusedSimpArgs false
set_option linter.unusedVariables false
namespace Go.Proofs.YthagmakojbfmaaaDoor
open Go.RowKit
def Info (P : Program) (e sz bytes : Nat) : Prop := ∃ i z, P.info? e = some i ∧ i.zero = some z ∧ i.size = sz ∧ i.bytes = bytes ∧ z.cells.size = sz ∧ 0 < sz ∧ 0 < bytes
theorem Info.of {P : Program} {e sz bytes : Nat} {z : Value} (h : (P.info? e).map (fun i => (i.zero, i.size, i.bytes)) = some (some z, sz, bytes)) (hz : z.cells.size = sz) (h0 : 0 < sz) (h1 : 0 < bytes) : Info P e sz bytes := by
 obtain ⟨i0, hi, hzz⟩ := Option.map_eq_some_iff.1 h
 simp only [Prod.mk.injEq] at hzz
 exact ⟨i0, z, hi, hzz.1, hzz.2.1, hzz.2.2, hz, h0, h1⟩
section
variable {P : Program} {α : Type} {d : Rp α} {W : World} {e base : Nat} {S : Nat → Prop} {v : Value} {xs : List α} {y : α} {ys : List Value}
def Apd (d : Rp α) (e base : Nat) (S : Nat → Prop) (W : World) (v : Value) (zs : List α) (g cap : Nat) (w1 : World) : Prop :=
 d.Own e w1 base S (.slice (some ⟨g, 0, none⟩) zs.length cap) zs ∧ W.grownBy w1 v.ownBlock ∧ (v.ownBlock = some g ∨ W.heap.size ≤ g) ∧ zs.length ≤ cap
theorem Apd.below {zs : List α} {g cap n : Nat} {w0 w1 : World} (h : Apd d e base S W v zs g cap w1) (hb : Below n w0 W) (hn : n ≤ W.heap.size) (hv : ∀ k, v.ownBlock = some k → n ≤ k) : Below n w0 w1 := hb.grown h.2.1 hn hv
theorem Apd.is {zs : List α} {g cap : Nat} {w1 : World} (h : Apd d e base S W v zs g cap w1) : d.Is w1 (fun k => S k ∨ (k = g ∧ k < w1.heap.size)) ⟨some ⟨g, 0, none⟩, cap⟩ zs := by
 obtain ⟨ho, hg, hat, hc⟩ := h
 refine ⟨hc, ?_⟩
 have hlt : g < w1.heap.size := by
  obtain ⟨_, cs, h, _⟩ := ho
  exact (h.lt g rfl).2
 obtain ⟨A, c, he, hr⟩ := ho.reads0
 injection he with h1 _ _
 subst h1
 refine hr.weak fun k hk => ?_
 rcases hk with hk | hk
 ·exact .inl hk
 ·have : g = k := by simpa [Value.ownBlock] using hk
  subst this
  exact .inr ⟨rfl, hlt⟩
section
variable {ops : Array Oper} {rest : List Oper} {o : Oper} {a : Act} {Q : Exit → Act → World → Prop}
end
end
theorem ld_row {P : Program} {ops : Array Oper} {rest : List Oper} {a : Act} {w : World} {Q : Exit → Act → World → Prop} {dst : Option Tmp} {tt : TypeId} {pos : String} {after : Array Edge} (ty n : Nat) {x : Operand} {g : Nat} {fs : Array Field} {cs : Array Value}
  (hx : a.eval x = .pointer (some ⟨g, 0, none⟩)) (hg : rowSz w g n = true) (hr : row w g = cs) (hu : P.underlying ty = some (.struct fs)) (hi : (P.info? ty).map (·.size) = some n)
  (h : wpList P ops Q rest (a.put dst (.agg cs)) w) : wpList P ops Q ({ dst := dst, op := .load ty x, type := tt, pos := pos, after := after, guard := none } :: rest) a w := by
 subst hr
 obtain ⟨t, h1, h2⟩ := heap_of_row hg
 exact wpList_load_row rfl ty x rfl g hx t _ (0, 0) _ h1 hu rfl (by rw [h2]; exact hi) h
theorem st_row {P : Program} {ops : Array Oper} {rest : List Oper} {a : Act} {w : World} {Q : Exit → Act → World → Prop} {dst : Option Tmp} {tt : TypeId} {pos : String} {after : Array Edge} (ty n : Nat) {x y : Operand} {g : Nat} {cells : Array Value}
  (hx : a.eval x = .pointer (some ⟨g, 0, none⟩)) (hy : a.eval y = .agg cells) (hg : rowSz w g n = true) (hi : (P.info? ty).map (·.size) = some n) (hold : cells.size = n) (h1 : cells.all (·.oneCell') = true)
  (h : wpList P ops Q rest (a.put dst undef) (w.setRow g cells)) : wpList P ops Q ({ dst := dst, op := .store ty x y, type := tt, pos := pos, after := after, guard := none } :: rest) a w := by
 obtain ⟨t, h2, h3⟩ := heap_of_row hg
 exact wpList_store_row rfl ty x y rfl g cells hx hy t _ h2 (by rw [hold]; exact hi) (by rw [h3, hold]) h1 h
theorem wp_st_row {P : Program} {a : Act} {w : World} {K : Act → World → Prop} {Q : Exit → Act → World → Prop} {dst : Option Tmp} {tt : TypeId} {pos : String} {after : Array Edge} {gd : Option (Nat × Bool)} (ty n : Nat) {x y : Operand} {g : Nat} {cells : Array Value}
  (hx : a.eval x = .pointer (some ⟨g, 0, none⟩)) (hy : a.eval y = .agg cells) (hg : rowSz w g n = true) (hi : (P.info? ty).map (·.size) = some n) (hold : cells.size = n) (h1 : cells.all (·.oneCell') = true)
  (h : K (a.put dst undef) (w.setRow g cells)) : Oper.wp P { dst := dst, op := .store ty x y, type := tt, pos := pos, after := after, guard := gd } a w K Q := by
 obtain ⟨t, h2, h3⟩ := heap_of_row hg
 exact wp_store_row ty x y rfl g cells hx hy t _ h2 (by rw [hold]; exact hi) (by rw [h3, hold]) h1 h
theorem ld_exec {P : Program} (ty n : Nat) {fs : Array Field} (hu : P.underlying ty = some (.struct fs)) (hi : (P.info? ty).map (·.size) = some n) {ρ : Operand → Value} {dst : Option Tmp} {tt : TypeId} {pos : String} {after : Array Edge} {gd : Option (Nat × Bool)} {x : Operand} {w : World}
  (h1 : isHead (ρ x) = true) (h2 : rowSz w (blockOf (ρ x)) n = true) : (execOp ρ { dst := dst, op := .load ty x, type := tt, pos := pos, after := after, guard := gd }).run P w = .ok (.value (.agg (row w (blockOf (ρ x))))) w := by
 have hx : ρ x = .pointer (some ⟨blockOf (ρ x), 0, none⟩) := by
  generalize ρ x = v at *
  unfold isHead at h1
  split at h1
  ·rename_i b o s
   simp only [Bool.and_eq_true, beq_iff_eq] at h1
   obtain ⟨rfl, rfl⟩ := h1
   rfl
  ·cases h1
 obtain ⟨t, h3, h4⟩ := heap_of_row h2
 generalize blockOf (ρ x) = g at *
 unfold execOp
 simp only [hx, Instr.loadAt, Instr.sureAddr, Sem.run_bind, Sem.run_pure, Result.andThen_ok, run_loadVar_row w g t ty _ (0, 0) _ h3 hu rfl (by rw [h4]; exact hi)]
theorem ret_row_tmp {P : Program} {fn : Func} {R : Ending → World → Prop} {a : Act} {w : World} {p q : Tmp} {ty g n : Nat} {cs : Array Value} {v : Value} {fs : Array Field} (h : fn.results = #[.cell p ty, .tmp q]) (hp : a.tmps.getD p undef = .pointer (some ⟨g, 0, none⟩)) (hq : a.tmps.getD q undef = v) (hg : rowSz w g n = true) (hr : row w g = cs)
  (hu : P.underlying ty = some (.struct fs)) (hi : (P.info? ty).map (·.size) = some n) (hd : a.defers = []) (hR : R (.returned (.tuple #[.agg cs, v])) w) : bodyPost P fn R .ret a w := by
 subst hr hq
 obtain ⟨t, h1, h2⟩ := heap_of_row hg
 have hl := run_loadVar_row (P := P) w g t ty _ (0, 0) _ h1 hu rfl (by rw [h2]; exact hi)
 have hp' : a.tmps[p]?.getD undef = .pointer (some ⟨g, 0, none⟩) := by simpa using hp
 exact bodyPost_ret (by simp [results, h, hp', asAddr, hl]) hd hR
end Go.Proofs.YthagmakojbfmaaaDoor
