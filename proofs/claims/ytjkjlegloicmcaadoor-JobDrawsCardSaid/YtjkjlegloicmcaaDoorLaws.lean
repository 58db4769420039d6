/- Laws of append in my own words (Rp, Own): for the walk's lists and for the steps of regions. -/
import Derived.Test.YtjkjlegloicmcaaDoorBase
import Derived.ArgAppend
import Derived.Deep.AppendLies
import Derived.Deep.RegionLawGrows
import Derived.Laws.MakeOwn
import Derived.Laws.Tables
set_option linter.unusedSimpArgs false
set_option linter.unusedVariables false
namespace Go.Proofs.YtjkjlegloicmcaaDoor
open Go.RowKit

theorem own_lt' {w : World} {base n : Nat} {e size : Nat} {v : Value} {xs : List Value} (h : w.ownsRow base e size v n xs) (k : Nat) (hk : v.ownBlock = some k) : base ≤ k ∧ k < w.heap.size := h.lt k hk

/-- What an element type's row of the table says. -/
def Info (P : Program) (e sz bytes : Nat) : Prop := ∃ i z, P.info? e = some i ∧ i.zero = some z ∧ i.size = sz ∧ i.bytes = bytes ∧ z.cells.size = sz ∧ 0 < sz ∧ 0 < bytes
theorem Info.of {P : Program} {e sz bytes : Nat} {z : Value} (h : (P.info? e).map (fun i => (i.zero, i.size, i.bytes)) = some (some z, sz, bytes)) (hz : z.cells.size = sz) (h0 : 0 < sz) (h1 : 0 < bytes) : Info P e sz bytes := by
  obtain ⟨i0, hi, hzz⟩ := Option.map_eq_some_iff.1 h
  simp only [Prod.mk.injEq] at hzz
  exact ⟨i0, z, hi, hzz.1, hzz.2.1, hzz.2.2, hz, h0, h1⟩

section
variable {P : Program} {α : Type} {d : Rp α} {W : World} {e base : Nat} {S : Nat → Prop} {v : Value} {xs : List α} {y : α} {ys : List Value}
theorem own_form {w : World} {n size : Nat} {cs : List Value} (h : w.ownsRow base e size v n cs) (hn : 0 < n) : ∃ g cap, v = .slice (some ⟨g, 0, none⟩) n cap ∧ n ≤ cap := by
  obtain ⟨_, ⟨_, h0⟩ | ⟨g, cap, cur, rfl, _, _, hc, _⟩⟩ := h
  · omega
  · exact ⟨g, cap, rfl, hc⟩

/-- What stands behind append(v, y). -/
def Apd (d : Rp α) (e base : Nat) (S : Nat → Prop) (W : World) (v : Value) (zs : List α) (g cap : Nat) (w1 : World) : Prop :=
  d.Own e w1 base S (.slice (some ⟨g, 0, none⟩) zs.length cap) zs ∧ W.grownBy w1 v.ownBlock ∧ (v.ownBlock = some g ∨ W.heap.size ≤ g) ∧ zs.length ≤ cap

theorem Apd.keep {zs : List α} {g cap : Nat} {w1 : World} (h : Apd d e base S W v zs g cap w1) {a : Addr} {u : Value} (hc : W.cell? a = some u) (hne : v.ownBlock ≠ some a.block) : w1.cell? a = some u :=
  h.2.1.cell hc (fun e => hne e.symm)
theorem Apd.below {zs : List α} {g cap n : Nat} {w0 w1 : World} (h : Apd d e base S W v zs g cap w1) (hb : Below n w0 W) (hn : n ≤ W.heap.size) (hv : ∀ k, v.ownBlock = some k → n ≤ k) : Below n w0 w1 := hb.grown h.2.1 hn hv
theorem Apd.below0 {zs : List α} {g cap n : Nat} {w0 w1 : World} (h : Apd d e base S W (.slice none 0 0) zs g cap w1) (hb : Below n w0 W) (hn : n ≤ W.heap.size) : Below n w0 w1 := h.below hb hn (by simp [Value.ownBlock])

theorem Apd.is {zs : List α} {g cap : Nat} {w1 : World} (h : Apd d e base S W v zs g cap w1) : d.Is w1 (fun k => S k ∨ (k = g ∧ k < w1.heap.size)) ⟨some ⟨g, 0, none⟩, cap⟩ zs := by
  obtain ⟨ho, hg, hat, hc⟩ := h
  refine ⟨hc, ?_⟩
  have hlt : g < w1.heap.size := by
    obtain ⟨_, cs, h, _⟩ := ho
    exact (h.lt g rfl).2
  obtain ⟨A, c, he, hr⟩ := ho.reads0
  injection he with h1 _ _
  subst h1
  refine hr.weak fun k hk => ?_
  rcases hk with hk | hk
  · exact .inl hk
  · have : g = k := by simpa [Value.ownBlock] using hk
    subst this
    exact .inr ⟨rfl, hlt⟩
theorem Apd.is0 {zs : List α} {g cap n : Nat} {w0 w1 : World} (h : Apd d e base S W (.slice none 0 0) zs g cap w1) (hb : Below n w0 W) : d.Is w1 (Ext w0 w1 S) ⟨some ⟨g, 0, none⟩, cap⟩ zs :=
  h.is.weak fun k hk => by
    rcases hk with hk | ⟨rfl, hk⟩
    · exact .inl hk
    · rcases h.2.2.1 with h1 | h1
      · simp [Value.ownBlock] at h1
      · exact .inr ⟨Nat.le_trans hb.size h1, hk⟩

theorem run_ap1 {t ty bytes : Nat} (ht : P.underlying t = some (.slice e)) (hi : Info P e d.sz bytes) (HO : d.Own e W base S v xs) (hK : d.K W S y ys) (hS : ∀ k, S k → k < W.heap.size)
    (hbase : base ≤ W.heap.size) (hl : (xs.length + 1) * bytes ≤ 140737488355328) :
    ∃ g cap w1, (Builtin.append_ #[t, t] ty #[v, .slice (some ⟨W.heap.size, 0, none⟩) 1 1]).run P (W.alloc (.cells ys.toArray e)) = .ok (.slice (some ⟨g, 0, none⟩) (xs.length + 1) cap) w1 ∧
      Apd d e base S W v (xs ++ [y]) g cap w1 := by
  obtain ⟨i, z, hi0, hz, hsz, hby, hzc, h0, hb0⟩ := hi
  obtain ⟨hne, cs, ho, hc⟩ := HO
  have hlen : xs.length + 1 ≤ 140737488355328 := Nat.le_trans (Nat.le_mul_of_pos_right _ hb0) hl
  obtain ⟨v', w', hrun, hown, hg, _, hat⟩ := run_append_own_at (P := P) (W.alloc (.cells ys.toArray e)) base t ty e i z d.sz bytes ht hi0 hz hsz hby hzc h0 v xs.length cs (ho.alloc _) ⟨W.heap.size, 0, none⟩ 1 1 ys
    (by rw [d.len hK]; simp) (by simpa using World.news_of_block (cs := ys.toArray) (t := e) (fr := (0, 0)) (heap_alloc_new W (.cells ys.toArray e))) (d.one hK) (by simp only [maxLen]; omega) hl (by simp; omega)
  obtain ⟨g, cap, rfl, hcap⟩ := own_form hown (by omega)
  have hgW : W.grownBy w' v.ownBlock := World.grownBy.trans (World.grownBy_alloc W _ _) hg
  have hg' : v.ownBlock = some g ∨ W.heap.size ≤ g := by
    rcases hat with hat | hat
    · exact .inl (by rw [← hat]; rfl)
    · have : g = (W.alloc (.cells ys.toArray e)).heap.size := by simpa [Value.ownBlock] using hat
      exact .inr (by rw [this]; simp)
  refine ⟨g, cap, w', hrun, ⟨fun k hk h => ?_, cs ++ ys, by simpa using hown, ?_⟩, hgW, hg', by simpa using hcap⟩
  · have : g = k := by simpa [Value.ownBlock] using h
    subst this
    rcases hg' with h1 | h1
    · exact hne _ hk h1
    · have := hS _ hk; omega
  · have hm : ∀ k, S k → w'.heap[k]? = W.heap[k]? := fun k hk => hgW.block k (hS k hk) (fun e => hne k hk e.symm)
    exact (hc.move hm).snoc (d.move hm hK)

section
variable {ops : Array Oper} {rest : List Oper} {o : Oper} {a : Act} {Q : Exit → Act → World → Prop}
/-- append(v, y), v a row of the call's own: for a list of operations, behind 'at_builtin'. -/
theorem wpList_ap1 {t bytes : Nat} (ht : P.underlying t = some (.slice e)) (hi : Info P e d.sz bytes) (hgd : o.guard = none) (s x : Operand)
    (ho : o.op = .call { callee := .builtin .append, args := #[s, x], argTypes := #[t, t] }) (hs : a.eval s = v) (hx : a.eval x = .slice (some ⟨W.heap.size, 0, none⟩) 1 1)
    (HO : d.Own e W base S v xs) (hK : d.K W S y ys) (hS : ∀ k, S k → k < W.heap.size) (hbase : base ≤ W.heap.size) (hl : (xs.length + 1) * bytes ≤ 140737488355328)
    (h : ∀ g cap w1, Apd d e base S W v (xs ++ [y]) g cap w1 → wpList P ops Q rest (a.put o.dst (.slice (some ⟨g, 0, none⟩) (xs.length + 1) cap)) w1) :
    wpList P ops Q (o :: rest) a (W.alloc (.cells ys.toArray e)) :=
  wpList_plain hgd fun K hK' => by
    obtain ⟨g, cap, w1, hrun, hA⟩ := run_ap1 (P := P) (ty := o.type) ht hi HO hK hS hbase hl
    unfold Oper.wp execOp
    simp only [ho, resolve, invoke, builtin, Sem.run_bind, Sem.run_pure, Result.andThen_ok, List.map_toArray, List.map_cons, List.map_nil, hs, hx, hrun]
    exact hK' _ _ (h g cap w1 hA)
/-- The same as one step of a region that draws its order. -/
theorem step_ap1 {t bytes : Nat} {K : Act → World → Prop} {E : Prop} (ht : P.underlying t = some (.slice e)) (hi : Info P e d.sz bytes) (hgd : o.guard = none) (s x : Operand)
    (ho : o.op = .call { callee := .builtin .append, args := #[s, x], argTypes := #[t, t] }) (hs : a.eval s = v) (hx : a.eval x = .slice (some ⟨W.heap.size, 0, none⟩) 1 1)
    (HO : d.Own e W base S v xs) (hK : d.K W S y ys) (hS : ∀ k, S k → k < W.heap.size) (hbase : base ≤ W.heap.size) (hl : (xs.length + 1) * bytes ≤ 140737488355328)
    (h : ∀ g cap w1, Apd d e base S W v (xs ++ [y]) g cap w1 → K (a.put o.dst (.slice (some ⟨g, 0, none⟩) (xs.length + 1) cap)) w1) :
    if Region.wanted o (yielded ops a.tmps) = true then Oper.wp P o a (W.alloc (.cells ys.toArray e)) K Q else E := by
  rw [if_pos (by simp [Region.wanted, hgd])]
  obtain ⟨g, cap, w1, hrun, hA⟩ := run_ap1 (P := P) (ty := o.type) ht hi HO hK hS hbase hl
  unfold Oper.wp execOp
  simp only [ho, resolve, invoke, builtin, Sem.run_bind, Sem.run_pure, Result.andThen_ok, List.map_toArray, List.map_cons, List.map_nil, hs, hx, hrun]
  exact h g cap w1 hA
end

/-- append(xs[:n:n], y): what is read is copied. -/
theorem run_apf {t ty bytes : Nat} {A : Option Addr} (ht : P.underlying t = some (.slice e)) (hi : Info P e d.sz bytes) (HR : d.Row W S A xs) (hK : d.K W S y ys) (hS : ∀ k, S k → k < W.heap.size)
    (hl : (xs.length + 1) * bytes ≤ 140737488355328) (hA : A = none → xs = []) :
    ∃ g cap w1, (Builtin.append_ #[t, t] ty #[.slice A xs.length xs.length, .slice (some ⟨W.heap.size, 0, none⟩) 1 1]).run P (W.alloc (.cells ys.toArray e)) = .ok (.slice (some ⟨g, 0, none⟩) (xs.length + 1) cap) w1 ∧
      Apd d e W.heap.size S W (.slice none 0 0) (xs ++ [y]) g cap w1 := by
  cases A with
  | none =>
    obtain rfl := hA rfl
    exact run_ap1 ht hi (Rp.Own.nil d e W W.heap.size S) hK hS (Nat.le_refl _) hl
  | some b =>
    obtain ⟨i, z, hi0, hz, hsz, hby, hzc, h0, hb0⟩ := hi
    obtain ⟨cs, hc, hone, hcell⟩ := HR.raw
    have hlen : xs.length + 1 ≤ 140737488355328 := Nat.le_trans (Nat.le_mul_of_pos_right _ hb0) hl
    have hbl : ∀ j u, cs[j]? = some u → (W.alloc (.cells ys.toArray e)).cell? (b.add j) = some u := by
      intro j u hu
      have := hcell b rfl j u hu
      rw [World.cell?_alloc_lt]
      · exact this
      · exact World.block_lt_of_cell? W _ this
    obtain ⟨v', w', hrun, hown, hg⟩ := run_append_arg_grows (P := P) (W.alloc (.cells ys.toArray e)) t ty e i z d.sz bytes ht hi0 hz hsz hby hzc h0 b xs.length xs.length cs hc.1 hbl ⟨W.heap.size, 0, none⟩ 1 1 ys
      (by rw [d.len hK]; simp) (by simpa using World.news_of_block (cs := ys.toArray) (t := e) (fr := (0, 0)) (heap_alloc_new W (.cells ys.toArray e))) (by omega) (by simp only [maxLen]; omega) hl
    obtain ⟨g, cap, rfl, hcap⟩ := own_form hown (by omega)
    have hgW : W.grownBy w' none := World.grownBy.trans (World.grownBy_alloc W _ _) hg
    have hgl : W.heap.size ≤ g := by have := (hown.lt g rfl).1; simp at this; omega
    refine ⟨g, cap, w', hrun, ⟨fun k hk h => ?_, cs ++ ys, ⟨by simpa using hown.1, ?_⟩, ?_⟩, hgW, .inr hgl, by simpa using hcap⟩
    · have : g = k := by simpa [Value.ownBlock] using h
      subst this
      have := hS _ hk; omega
    · rcases hown.2 with ⟨h, _⟩ | ⟨g', cap', cur, he, hle, r⟩
      · exact .inl ⟨by simp at h, by simp at h⟩
      · exact .inr ⟨g', cap', cur, by simpa using he, by simp at hle; omega, by simpa using r⟩
    · have hm : ∀ k, S k → w'.heap[k]? = W.heap[k]? := fun k hk => hgW.block k (hS k hk) (by simp)
      exact (hc.move hm).snoc (d.move hm hK)
theorem step_apf {ops : Array Oper} {o : Oper} {a : Act} {Q : Exit → Act → World → Prop} {t bytes : Nat} {A : Option Addr} {K : Act → World → Prop} {E : Prop} (ht : P.underlying t = some (.slice e)) (hi : Info P e d.sz bytes) (hgd : o.guard = none) (s x : Operand)
    (ho : o.op = .call { callee := .builtin .append, args := #[s, x], argTypes := #[t, t] }) (hs : a.eval s = .slice A xs.length xs.length) (hx : a.eval x = .slice (some ⟨W.heap.size, 0, none⟩) 1 1)
    (HR : d.Row W S A xs) (hK : d.K W S y ys) (hS : ∀ k, S k → k < W.heap.size) (hl : (xs.length + 1) * bytes ≤ 140737488355328) (hA : A = none → xs = [])
    (h : ∀ g cap w1, Apd d e W.heap.size S W (.slice none 0 0) (xs ++ [y]) g cap w1 → K (a.put o.dst (.slice (some ⟨g, 0, none⟩) (xs.length + 1) cap)) w1) :
    if Region.wanted o (yielded ops a.tmps) = true then Oper.wp P o a (W.alloc (.cells ys.toArray e)) K Q else E := by
  rw [if_pos (by simp [Region.wanted, hgd])]
  obtain ⟨g, cap, w1, hrun, hA⟩ := run_apf (P := P) (ty := o.type) ht hi HR hK hS hl hA
  unfold Oper.wp execOp
  simp only [ho, resolve, invoke, builtin, Sem.run_bind, Sem.run_pure, Result.andThen_ok, List.map_toArray, List.map_cons, List.map_nil, hs, hx, hrun]
  exact h g cap w1 hA
end
/-- A whole variable is read; written: its block's cells at once. -/
theorem ld_row {P : Program} {ops : Array Oper} {rest : List Oper} {a : Act} {w : World} {Q : Exit → Act → World → Prop} {dst : Option Tmp} {tt : TypeId} {pos : String} {after : Array Edge} (ty n : Nat) {x : Operand} {g : Nat} {fs : Array Field} {cs : Array Value}
    (hx : a.eval x = .pointer (some ⟨g, 0, none⟩)) (hg : rowSz w g n = true) (hr : row w g = cs) (hu : P.underlying ty = some (.struct fs)) (hi : (P.info? ty).map (·.size) = some n)
    (h : wpList P ops Q rest (a.put dst (.agg cs)) w) : wpList P ops Q ({ dst := dst, op := .load ty x, type := tt, pos := pos, after := after, guard := none } :: rest) a w := by
  subst hr
  obtain ⟨t, h1, h2⟩ := heap_of_row hg
  exact wpList_load_row rfl ty x rfl g hx t _ (0, 0) _ h1 hu rfl (by rw [h2]; exact hi) h
theorem st_row {P : Program} {ops : Array Oper} {rest : List Oper} {a : Act} {w : World} {Q : Exit → Act → World → Prop} {dst : Option Tmp} {tt : TypeId} {pos : String} {after : Array Edge} (ty n : Nat) {x y : Operand} {g : Nat} {cells : Array Value}
    (hx : a.eval x = .pointer (some ⟨g, 0, none⟩)) (hy : a.eval y = .agg cells) (hg : rowSz w g n = true) (hi : (P.info? ty).map (·.size) = some n) (hold : cells.size = n) (h1 : cells.all (·.oneCell') = true)
    (h : wpList P ops Q rest (a.put dst undef) (w.setRow g cells)) : wpList P ops Q ({ dst := dst, op := .store ty x y, type := tt, pos := pos, after := after, guard := none } :: rest) a w := by
  obtain ⟨t, h2, h3⟩ := heap_of_row hg
  exact wpList_store_row rfl ty x y rfl g cells hx hy t _ h2 (by rw [hold]; exact hi) (by rw [h3, hold]) h1 h
/-- At a step of a region that draws. -/
theorem wp_st_row {P : Program} {a : Act} {w : World} {K : Act → World → Prop} {Q : Exit → Act → World → Prop} {dst : Option Tmp} {tt : TypeId} {pos : String} {after : Array Edge} {gd : Option (Nat × Bool)} (ty n : Nat) {x y : Operand} {g : Nat} {cells : Array Value}
    (hx : a.eval x = .pointer (some ⟨g, 0, none⟩)) (hy : a.eval y = .agg cells) (hg : rowSz w g n = true) (hi : (P.info? ty).map (·.size) = some n) (hold : cells.size = n) (h1 : cells.all (·.oneCell') = true)
    (h : K (a.put dst undef) (w.setRow g cells)) : Oper.wp P { dst := dst, op := .store ty x y, type := tt, pos := pos, after := after, guard := gd } a w K Q := by
  obtain ⟨t, h2, h3⟩ := heap_of_row hg
  exact wp_store_row ty x y rfl g cells hx hy t _ h2 (by rw [hold]; exact hi) (by rw [h3, hold]) h1 h
/-- The same in any world, as one equation: for regions that draw. -/
theorem ld_exec {P : Program} (ty n : Nat) {fs : Array Field} (hu : P.underlying ty = some (.struct fs)) (hi : (P.info? ty).map (·.size) = some n) {ρ : Operand → Value} {dst : Option Tmp} {tt : TypeId} {pos : String} {after : Array Edge} {gd : Option (Nat × Bool)} {x : Operand} {w : World}
    (h1 : isHead (ρ x) = true) (h2 : rowSz w (blockOf (ρ x)) n = true) : (execOp ρ { dst := dst, op := .load ty x, type := tt, pos := pos, after := after, guard := gd }).run P w = .ok (.value (.agg (row w (blockOf (ρ x))))) w := by
  have hx : ρ x = .pointer (some ⟨blockOf (ρ x), 0, none⟩) := by
    generalize ρ x = v at *
    unfold isHead at h1
    split at h1
    · rename_i b o s
      simp only [Bool.and_eq_true, beq_iff_eq] at h1
      obtain ⟨rfl, rfl⟩ := h1
      rfl
    · cases h1
  obtain ⟨t, h3, h4⟩ := heap_of_row h2
  generalize blockOf (ρ x) = g at *
  unfold execOp
  simp only [hx, Instr.loadAt, Instr.sureAddr, Sem.run_bind, Sem.run_pure, Result.andThen_ok, run_loadVar_row w g t ty _ (0, 0) _ h3 hu rfl (by rw [h4]; exact hi)]
/-- The result lies in a box. -/
theorem ret_row {P : Program} {fn : Func} {R : Ending → World → Prop} {a : Act} {w : World} {p : Tmp} {ty g n : Nat} {cs : Array Value} {fs : Array Field} (h : fn.results = #[.cell p ty]) (hp : a.tmps.getD p undef = .pointer (some ⟨g, 0, none⟩)) (hg : rowSz w g n = true) (hr : row w g = cs)
    (hu : P.underlying ty = some (.struct fs)) (hi : (P.info? ty).map (·.size) = some n) (hd : a.defers = []) (hR : R (.returned (.agg cs)) w) : bodyPost P fn R .ret a w := by
  subst hr
  obtain ⟨t, h1, h2⟩ := heap_of_row hg
  exact bodyPost_ret (results_cell_row h _ w g t _ (0, 0) _ hp h1 hu rfl (by rw [h2]; exact hi)) hd hR
theorem ret_row_tmp {P : Program} {fn : Func} {R : Ending → World → Prop} {a : Act} {w : World} {p q : Tmp} {ty g n : Nat} {cs : Array Value} {v : Value} {fs : Array Field} (h : fn.results = #[.cell p ty, .tmp q]) (hp : a.tmps.getD p undef = .pointer (some ⟨g, 0, none⟩)) (hq : a.tmps.getD q undef = v) (hg : rowSz w g n = true) (hr : row w g = cs)
    (hu : P.underlying ty = some (.struct fs)) (hi : (P.info? ty).map (·.size) = some n) (hd : a.defers = []) (hR : R (.returned (.tuple #[.agg cs, v])) w) : bodyPost P fn R .ret a w := by
  subst hr hq
  obtain ⟨t, h1, h2⟩ := heap_of_row hg
  have hl := run_loadVar_row (P := P) w g t ty _ (0, 0) _ h1 hu rfl (by rw [h2]; exact hi)
  have hp' : a.tmps[p]?.getD undef = .pointer (some ⟨g, 0, none⟩) := by simpa using hp
  exact bodyPost_ret (by simp [results, h, hp', asAddr, hl]) hd hR
theorem ret_tmp_row {P : Program} {fn : Func} {R : Ending → World → Prop} {a : Act} {w : World} {p q : Tmp} {ty g n : Nat} {cs : Array Value} {v : Value} {fs : Array Field} (h : fn.results = #[.tmp q, .cell p ty]) (hp : a.tmps.getD p undef = .pointer (some ⟨g, 0, none⟩)) (hq : a.tmps.getD q undef = v) (hg : rowSz w g n = true) (hr : row w g = cs)
    (hu : P.underlying ty = some (.struct fs)) (hi : (P.info? ty).map (·.size) = some n) (hd : a.defers = []) (hR : R (.returned (.tuple #[v, .agg cs])) w) : bodyPost P fn R .ret a w := by
  subst hr hq
  obtain ⟨t, h1, h2⟩ := heap_of_row hg
  have hl := run_loadVar_row (P := P) w g t ty _ (0, 0) _ h1 hu rfl (by rw [h2]; exact hi)
  have hp' : a.tmps[p]?.getD undef = .pointer (some ⟨g, 0, none⟩) := by simpa using hp
  exact bodyPost_ret (by simp [results, h, hp', asAddr, hl]) hd hR
/-- The walk stands still ahead of such an operation. -/
theorem stop_ld {P : Program} {ops : Array Oper} {rest : List Oper} {a : Act} {w : World} {Q : Exit → Act → World → Prop} {dst : Option Tmp} {tt : TypeId} {pos : String} {after : Array Edge} (ty : TypeId) {x : Operand}
    (h : Hid (wpList P ops Q ({ dst := dst, op := .load ty x, type := tt, pos := pos, after := after, guard := none } :: rest) a w)) : wpList P ops Q ({ dst := dst, op := .load ty x, type := tt, pos := pos, after := after, guard := none } :: rest) a w := h
theorem stop_st {P : Program} {ops : Array Oper} {rest : List Oper} {a : Act} {w : World} {Q : Exit → Act → World → Prop} {dst : Option Tmp} {tt : TypeId} {pos : String} {after : Array Edge} (ty : TypeId) {x y : Operand}
    (h : Hid (wpList P ops Q ({ dst := dst, op := .store ty x y, type := tt, pos := pos, after := after, guard := none } :: rest) a w)) : wpList P ops Q ({ dst := dst, op := .store ty x y, type := tt, pos := pos, after := after, guard := none } :: rest) a w := h
end Go.Proofs.YtjkjlegloicmcaaDoor
