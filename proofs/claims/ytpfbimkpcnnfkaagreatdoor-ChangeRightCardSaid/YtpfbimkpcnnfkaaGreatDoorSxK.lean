/- Sx: regions that draw: a temporary that an operation does not look at may be written ahead of it. Nothing of the program. -/
import Derived.Test.YtpfbimkpcnnfkaaGreatDoorSxH
/- Sx: regions that draw: what an operation hangs on. Nothing of the program. -/
/- Sx: contracts of functions by their trees. Nothing of the program. -/
set_option linter.unusedVariables false
set_option linter.unusedSimpArgs false
namespace Go.Proofs.YtpfbimkpcnnfkaaGreatDoor.Sx
open Go Go.RowKit Go.Proofs.YtpfbimkpcnnfkaaGreatDoor
def entryOk (n : Nat) (args : List (SV S.ty)) (giv : List (Nat × Own S.ty)) : Bool :=
 decide (args.length ≤ n) && nodupB (giv.map (·.1)) && giv.all (fun g => decide (g.1 < n + 8)) && (idsL args).all (fun i => (giv.map (·.1)).contains i) &&
  giv.all fun g => match g.2.cs with | some cs => (idsL cs).all fun i => (giv.map (·.1)).contains i | none => false
section
variable {P : Program}
theorem entry_blk : ∀ (giv : List (Nat × Own S.ty)) (l : List (Option (Own S.ty))), (giv.map (·.1)).Nodup → (∀ g ∈ giv, g.1 < l.length) →
  (giv.foldl (fun o g => o.set g.1 (some { g.2 with giv := true })) l).length = l.length ∧
  (∀ i, i ∉ giv.map (·.1) → (giv.foldl (fun o g => o.set g.1 (some { g.2 with giv := true })) l)[i]? = l[i]?) ∧
  ∀ g ∈ giv, (giv.foldl (fun o g => o.set g.1 (some { g.2 with giv := true })) l)[g.1]? = some (some { g.2 with giv := true })
 | [], l, _, _ => ⟨rfl, fun i _ => rfl, fun g hg => by cases hg⟩
 | g0 :: r, l, hn, hl => by
  rw [List.map_cons, List.nodup_cons] at hn
  obtain ⟨a1, a2, a3⟩ := entry_blk r (l.set g0.1 (some { g0.2 with giv := true })) hn.2 (fun g hg => by rw [List.length_set]; exact hl g (List.mem_cons_of_mem _ hg))
  refine ⟨by rw [List.foldl_cons, a1, List.length_set], fun i hi => ?_, fun g hg => ?_⟩
  ·simp only [List.map_cons, List.mem_cons, not_or] at hi
   rw [List.foldl_cons, a2 i hi.2, List.getElem?_set_ne (fun e => hi.1 e.symm)]
  ·rw [List.foldl_cons]
   rcases List.mem_cons.1 hg with rfl | hg
   ·rw [a2 _ hn.1, List.getElem?_set_self (hl g List.mem_cons_self)]
   ·exact a3 g hg
theorem cg_of (hN : Names P) (hD : DrawOk P) {f : FuncId} {fn : Func} {b : Code} (hf : P.funcs[f]? = some fn) (hb : fn.body = some b) (ann : List Ann) (args : List (SV S.ty)) (giv : List (Nat × Own S.ty)) (bk : Nat → Nat) {u0 u : Mem}
  {R : Value → List (List Value) → Mem → Prop} {T : Tree S.ty} (hT : runFn P fn b ann args giv = T) (hok : entryOk fn.ntmps args giv = true) {as : List Value} {O : List (Nat × List Value)} (hA : as = denL bk args)
  (hO : O = giv.map fun g => (bk g.1, denL bk (g.2.cs.getD []))) (h : Hold P u0 R T bk u (fun _ _ _ _ => False)) : CG P f as O u0 u R := by
 subst hA hO
 intro base w hs hu hbase hule hOw hnd
 simp only [entryOk, Bool.and_eq_true, decide_eq_true_eq] at hok
 obtain ⟨⟨⟨⟨k1, k2⟩, k3⟩, k4⟩, k5⟩ := hok
 have kn := nodupB_nodup k2
 have kl : ∀ g ∈ giv, g.1 < fn.ntmps + 8 := fun g hg => by simpa using List.all_eq_true.1 k3 g hg
 have kc : ∀ g ∈ giv, ∃ cs, g.2.cs = some cs ∧ ∀ i ∈ idsL cs, i ∈ giv.map (·.1) := fun g hg => by
  have := List.all_eq_true.1 k5 g hg
  split at this
  ·rename_i cs hcs
   exact ⟨cs, hcs, fun i hi => by simpa using List.all_eq_true.1 this i hi⟩
  ·cases this
 have hfst : (giv.map fun g => (bk g.1, denL bk (g.2.cs.getD []))).map (·.1) = giv.map fun g => bk g.1 := by simp
 obtain ⟨e1, e2, e3⟩ := entry_blk giv (List.replicate (fn.ntmps + 8) none) kn (fun g hg => by rw [List.length_replicate]; exact kl g hg)
 let st : St S.ty := entry fn.ntmps (fn.ntmps + 8) args giv
 have hblk : ∀ g ∈ giv, st.blk g.1 = some { g.2 with giv := true } := fun g hg => by
  show (st.own[g.1]?).bind (fun x => x) = _
  have : st.own[g.1]? = some (some { g.2 with giv := true }) := e3 g hg
  rw [this]; rfl
 have hblk' : ∀ i o, st.blk i = some o → ∃ g ∈ giv, g.1 = i ∧ o = { g.2 with giv := true } := fun i o ho => by
  by_cases hi : i ∈ giv.map (·.1)
  ·obtain ⟨g, hg, rfl⟩ := List.mem_map.1 hi
   rw [hblk g hg] at ho
   cases ho
   exact ⟨g, hg, rfl, rfl⟩
  ·have h1 : st.own[i]? = (List.replicate (fn.ntmps + 8) (none : Option (Own S.ty)))[i]? := e2 i hi
   unfold St.blk at ho
   rw [h1, List.getElem?_replicate] at ho
   split at ho <;> cases ho
 have hlive : ∀ i ∈ giv.map (·.1), live st i := fun i hi => by
  obtain ⟨g, hg, rfl⟩ := List.mem_map.1 hi
  unfold live; rw [hblk g hg]; rfl
 have hinj : ∀ g ∈ giv, ∀ g' ∈ giv, bk g.1 = bk g'.1 → g.1 = g'.1 := by
  rw [hfst] at hnd
  have key : ∀ l : List (Nat × Own S.ty), (l.map fun g => bk g.1).Nodup → ∀ g ∈ l, ∀ g' ∈ l, bk g.1 = bk g'.1 → g.1 = g'.1 := by
   intro l
   induction l with
   | nil => intro _ g hg; cases hg
   | cons x r ih =>
    intro hn g hg g' hg' e
    rw [List.map_cons, List.nodup_cons] at hn
    rcases List.mem_cons.1 hg with h1 | h1 <;> rcases List.mem_cons.1 hg' with h2 | h2
    ·rw [h1, h2]
    ·subst h1; exact absurd (List.mem_map.2 ⟨g', h2, e.symm⟩) hn.1
    ·subst h2; exact absurd (List.mem_map.2 ⟨g, h1, e⟩) hn.1
    ·exact ih hn.2 g h1 g' h2 e
  exact key giv hnd
 let a : Act := { tmps := (denL bk args).toArray ++ Array.replicate (fn.ntmps - (denL bk args).toArray.size) undef, defers := [] }
 let c : Ctx := { w0 := w, u0 := u0, base := base, wr := fun k => ∃ o, u k o ≠ none, giv := giv.map fun g => bk g.1, fx := fun _ => False, fv := fun _ => undef, fb := fun i => i ∈ giv.map (·.1), fbv := bk, n := a.tmps.size }
 have hsz : a.tmps.size = st.tmps.length := by
  show ((denL bk args).toArray ++ Array.replicate (fn.ntmps - (denL bk args).toArray.size) undef).size = ((args.map fun x => some (⟨[], .b true, x⟩ : Ent S.ty)) ++ List.replicate (fn.ntmps - args.length) none).length
  simp [denL_len]
 have hrep : Rep c (fun _ => True) st bk a w u := by
  refine ⟨rfl, hsz, fun t e he => ?_, fun id o cs ho hc => ?_, fun i j x y hx hy hij e => ?_, hs, fun b o hb => ⟨hu b o hb, .inl ⟨o, hb⟩⟩, fun b o hb hm => ?_, ⟨rfl, rfl, rfl, Nat.le_refl _, fun _ _ _ => rfl⟩, hule, ⟨hbase, fun b hb => ?_⟩, fun t ht => ht.elim, fun i hi => ⟨rfl, hlive i hi⟩, rfl⟩
  ·have h1 : ((args.map fun x => some (⟨[], .b true, x⟩ : Ent S.ty)) ++ List.replicate (fn.ntmps - args.length) none)[t]?.bind id = some e := he
   rcases Nat.lt_or_ge t args.length with ht | ht
   ·rw [List.getElem?_append_left (by simpa using ht), List.getElem?_map] at h1
    have hx : args[t]? = some args[t] := List.getElem?_eq_getElem ht
    rw [hx] at h1
    simp at h1
    subst h1
    have hv : a.tmps.getD t undef = (args[t]).den bk := by
     show ((denL bk args).toArray ++ Array.replicate (fn.ntmps - (denL bk args).toArray.size) undef).getD t undef = _
     rw [Array.getD_eq_getD_getElem?, Array.getElem?_append_left (by simpa [denL_len] using ht)]
     simp [denL_eq, hx]
    refine ⟨by simp [E.den], fun _ => hv, fun e => by simp [E.den] at e, fun _ i hi => hlive i ?_, by simp⟩
    have : i ∈ idsL args := mem_idsL.2 ⟨args[t], List.getElem_mem ht, hi⟩
    simpa using List.all_eq_true.1 k4 i this
   ·rw [List.getElem?_append_right (by simpa using ht), List.getElem?_replicate] at h1
    split at h1 <;> cases h1
  ·obtain ⟨g, hg, rfl, rfl⟩ := hblk' id o ho
   obtain ⟨cs', q1, q2⟩ := kc g hg
   have e : cs' = cs := by simp only at hc; rw [q1] at hc; exact Option.some.inj hc
   subst e
   have := hOw (bk g.1, denL bk (g.2.cs.getD [])) (List.mem_map.2 ⟨g, hg, rfl⟩)
   rw [q1] at this
   exact ⟨this.1, this.2, .inl ⟨rfl, List.mem_map.2 ⟨g, hg, rfl⟩⟩, fun i hi => hlive i (q2 i hi)⟩
  ·obtain ⟨o1, r1, _⟩ := cells_own hx
   obtain ⟨o2, r2, _⟩ := cells_own hy
   obtain ⟨g, hg, rfl, _⟩ := hblk' i o1 r1
   obtain ⟨g', hg', rfl, _⟩ := hblk' j o2 r2
   exact hij (hinj g hg g' hg' e)
  ·obtain ⟨g, hg, rfl⟩ := List.mem_map.1 hm
   exact hb ((hOw (bk g.1, denL bk (g.2.cs.getD [])) (List.mem_map.2 ⟨g, hg, rfl⟩)).2 o)
  ·obtain ⟨g, hg, rfl⟩ := List.mem_map.1 hb
   exact has_lt (hOw (bk g.1, denL bk (g.2.cs.getD [])) (List.mem_map.2 ⟨g, hg, rfl⟩)).1
 have hh : Hold P c.u0 R (run ⟨P, fn, giv.map (·.1), ann⟩ 1000 0 [.code b] st) bk u (fun _ _ _ _ => False) := by
  have e : runFn P fn b ann args giv = run ⟨P, fn, giv.map (·.1), ann⟩ 1000 0 [.code b] st := rfl
  rw [← e, hT]; exact h
 have hrun := run_sound ⟨P, fn, giv.map (·.1), ann⟩ hN hD (giv.map fun g => (bk g.1, denL bk (g.2.cs.getD []))) bk 1000 0 [.code b] c st bk u (fun _ _ _ _ => False) (fun _ _ _ => False) a w hfst.symm (by simp [c]) (fun m sl ow sk ok dr hd hm => by simp at hm) hh hrep
  ⟨fun t ht => ht, fun i hi => ⟨hi, rfl⟩⟩
 simp only [EX] at hrun
 exact calls_of_wp hf hb hrun
theorem cv_of (hN : Names P) (hD : DrawOk P) {f : FuncId} {fn : Func} {b : Code} (hf : P.funcs[f]? = some fn) (hb : fn.body = some b) (ann : List Ann) (args : List (SV S.ty)) (giv : List (Nat × Own S.ty)) (bk : Nat → Nat) {u : Mem}
  {R : Value → List (List Value) → Mem → Prop} {T : Tree S.ty} (hT : runFn P fn b ann args giv = T) (hok : entryOk fn.ntmps args giv = true) {as : List Value} {O : List (Nat × List Value)} (hA : as = denL bk args)
  (hO : O = giv.map fun g => (bk g.1, denL bk (g.2.cs.getD []))) (h : Hold P u R T bk u (fun _ _ _ _ => False)) : CV P f as O u R :=
 (cg_of hN hD hf hb ann args giv bk hT hok hA hO h).toCV
end
end Go.Proofs.YtpfbimkpcnnfkaaGreatDoor.Sx
set_option linter.unusedVariables false
set_option linter.unusedSimpArgs false
namespace Go.Proofs.YtpfbimkpcnnfkaaGreatDoor.Sx
open Go Go.RowKit Go.Proofs.YtpfbimkpcnnfkaaGreatDoor
section
variable {P : Program} {c : Ctx} {st st' : St S.ty} {bk : Nat → Nat} {a : Act} {w : World} {u u0 : Mem} {lab : List (Nat × Bool)} {K K' : St S.ty → (Nat → Nat) → Mem → Prop} {ops : List Oper} {o : Oper}
def Agr (ops : List Oper) (o : Oper) (st st' : St S.ty) : Prop := ∀ t ∈ o.looksAt ops.toArray, st.get t = st'.get t
theorem Agr.ev (h : Agr ops o st st') {x : Operand} (hx : x ∈ o.op.operands.toList) (lab : List (Nat × Bool)) : st.ev lab x = st'.ev lab x := by
 cases x with
 | tmp t =>
  have : t ∈ o.looksAt ops.toArray := by
   unfold Oper.looksAt
   exact List.mem_append_left _ (List.mem_filterMap.2 ⟨.tmp t, hx, rfl⟩)
  simp only [St.ev, h t this]
 | _ => rfl
theorem Agr.evs (h : Agr ops o st st') (lab : List (Nat × Bool)) : ∀ {xs : List Operand}, (∀ x ∈ xs, x ∈ o.op.operands.toList) → st.evs lab xs = st'.evs lab xs
 | [], _ => rfl
 | x :: r, hx => by simp only [St.evs, h.ev (hx x (by simp)) lab, Agr.evs h lab (xs := r) fun y hy => hx y (by simp [hy])]
theorem Agr.parts (h : Agr ops o st st') (lab : List (Nat × Bool)) : ∀ {xs : List (Nat × Operand)}, (∀ x ∈ xs, x.2 ∈ o.op.operands.toList) → st.parts lab xs = st'.parts lab xs
 | [], _ => rfl
 | (i, x) :: r, hx => by simp only [St.parts, h.ev (hx (i, x) (by simp)) lab, Agr.parts h lab (xs := r) fun y hy => hx y (by simp [hy])]
theorem Agr.guard (h : Agr ops o st st') : guardOf ops st o = guardOf ops st' o := by
 unfold guardOf
 cases hg : o.guard with
 | none => rfl
 | some gb =>
  obtain ⟨g, b⟩ := gb
  simp only
  cases ht : (ops[g]?).bind (·.dst) with
  | none => rfl
  | some t =>
   have : t ∈ o.looksAt ops.toArray := by
    unfold Oper.looksAt
    refine List.mem_append_right _ ?_
    rw [hg]
    simp only [List.getElem?_toArray, ht]
    simp
   simp only [h t this]
def noMem (o : Oper) : Bool := match o.op with | .load _ _ => false | .store _ _ _ => false | _ => true
set_option maxHeartbeats 1000000 in
theorem Agr.res (h : Agr ops o st st') (hm : noMem o = true ∨ ∀ i, st.cells i = st'.cells i) (lab : List (Nat × Bool)) : res P st lab o = res P st' lab o := by
 obtain ⟨dst, op, ty, pos, after, guard⟩ := o
 have hE := fun (x : Operand) (hx : x ∈ op.operands.toList) (lab : List (Nat × Bool)) => h.ev (o := ⟨dst, op, ty, pos, after, guard⟩) hx lab
 have hS := fun (xs : List Operand) (hx : ∀ x ∈ xs, x ∈ op.operands.toList) => h.evs (o := ⟨dst, op, ty, pos, after, guard⟩) lab hx
 have hP := fun (xs : List (Nat × Operand)) (hx : ∀ x ∈ xs, x.2 ∈ op.operands.toList) => h.parts (o := ⟨dst, op, ty, pos, after, guard⟩) lab hx
 unfold Sx.res
 cases op <;> simp only
 case move x => rw [hE x (by simp [Op.operands])]
 case assign x => rw [hE x (by simp [Op.operands])]
 case pick x y z =>
  cases x <;> simp only
  rename_i t
  rw [hE (.tmp t) (by simp [Op.operands]), hE y (by simp [Op.operands]), hE z (by simp [Op.operands])]
 case box t x => rw [hE x (by simp [Op.operands])]
 case build t ps => rw [hP ps.toList (fun x hx => by simp only [Op.operands, List.mem_map]; exact ⟨x, hx, rfl⟩)]
 case buildSlice t n ps => rw [hP ps.toList (fun x hx => by simp only [Op.operands, List.mem_map]; exact ⟨x, hx, rfl⟩)]
 case load t x =>
  have hc : ∀ i, st.cells i = st'.cells i := hm.resolve_left (by simp [noMem])
  rw [hE x (by simp [Op.operands])]
  simp only [hc]
 case store t x y =>
  have hc : ∀ i, st.cells i = st'.cells i := hm.resolve_left (by simp [noMem])
  rw [hE x (by simp [Op.operands]), hE y (by simp [Op.operands])]
  simp only [hc]
 case nilCheck x => rw [hE x (by simp [Op.operands])]
 case binOp b t x y t' => rw [hE x (by simp [Op.operands]), hE y (by simp [Op.operands])]
 case unOp b t x => rw [hE x (by simp [Op.operands])]
 case convert s d x => rw [hE x (by simp [Op.operands])]
 case makeInterface t x => rw [hE x (by simp [Op.operands])]
 case makeSlice t x y => rw [hE x (by simp [Op.operands]), hE y (by simp [Op.operands])]
 case makeFunc f l r => rw [hS l.toList (fun x hx => by simp [Op.operands]; exact .inl (by simpa using hx)), hS r.toList (fun x hx => by simp [Op.operands]; exact .inr (by simpa using hx))]
 case slice t x lo hi mx =>
  cases mx <;> simp only
  have hx := hE x (by simp [Op.operands])
  rcases lo with _ | lo <;> rcases hi with _ | hi <;> simp only [Option.map_some, Option.map_none, hx]
  ·rw [hE hi (by simp [Op.operands])]
  ·rw [hE lo (by simp [Op.operands])]
  ·rw [hE lo (by simp [Op.operands]), hE hi (by simp [Op.operands])]
 case fieldAddr s x f => rw [hE x (by simp [Op.operands])]
 case field s x f => rw [hE x (by simp [Op.operands])]
 case indexAddr t x i => rw [hE x (by simp [Op.operands]), hE i (by simp [Op.operands])]
 case index t x i => rw [hE x (by simp [Op.operands]), hE i (by simp [Op.operands])]
 case extract x i => rw [hE x (by simp [Op.operands])]
 case call cl =>
  rw [hS cl.args.toList (fun x hx => by simp [Op.operands, Call.operands]; exact .inr (by simpa using hx))]
  have hf : ∀ f, cl.callee = .value f → st.ev lab f = st'.ev lab f := fun f hf => hE f (by simp [Op.operands, Call.operands, hf]) lab
  split
  ·rfl
  ·split
   ·rfl
   ·rename_i f hcf; rw [hf f hcf]
   ·rfl
end
end Go.Proofs.YtpfbimkpcnnfkaaGreatDoor.Sx
set_option linter.unusedVariables false
set_option linter.unusedSimpArgs false
namespace Go.Proofs.YtpfbimkpcnnfkaaGreatDoor.Sx
open Go Go.RowKit Go.Proofs.YtpfbimkpcnnfkaaGreatDoor
section
variable {P : Program} {c : Ctx} {st st' : St S.ty} {bk : Nat → Nat} {a : Act} {w : World} {u u0 : Mem} {lab : List (Nat × Bool)} {K K' : St S.ty → (Nat → Nat) → Mem → Prop} {ops : List Oper} {o : Oper} {fl : Flag}
theorem put_put {d : Nat} {e : Ent S.ty} {dx : Option Tmp} {ex : Ent S.ty} (h : dx ≠ some d) : (st.put (some d) e).put dx ex = (st.put dx ex).put (some d) e := by
 cases dx with
 | none => rfl
 | some x =>
  have hne : x ≠ d := fun e => h (by rw [e])
  simp only [St.put]
  rw [List.set_comm _ _ hne.symm]
theorem setOwn_put {d : Option Tmp} {e : Ent S.ty} {i : Nat} {x : Option (Own S.ty)} : (st.put d e).setOwn i x = (st.setOwn i x).put d e := by cases d <;> rfl
theorem fresh_put {d : Option Tmp} {e : Ent S.ty} : ∀ (l : List Nat) (ms : List (List CK)) (x : CellsL S.ty ms) (st : St S.ty), (st.put d e).fresh l ms x = (st.fresh l ms x).put d e
 | [], ms, x, st => by cases ms <;> rfl
 | i :: l, [], x, st => rfl
 | i :: l, k :: ms, x, st => by
  simp only [St.fresh]
  rw [setOwn_put, blk_put, fresh_put l ms]
theorem shut_put {d : Option Tmp} {e : Ent S.ty} : ∀ (l : List Nat) (st : St S.ty), (st.put d e).shut l = (st.shut l).put d e
 | [], st => rfl
 | i :: l, st => by
  simp only [St.shut]
  rw [blk_put]
  cases st.blk i with
  | none => exact shut_put l st
  | some x => simp only []; rw [setOwn_put, shut_put l]
theorem close_congr (h : ∀ i, st.cells i = st'.cells i) : ∀ (n : Nat) (l acc : List Nat), st.close n l acc = st'.close n l acc
 | 0, _, _ => rfl
 | n + 1, [], _ => rfl
 | n + 1, i :: r, acc => by
  simp only [St.close, h i]
  split
  ·exact close_congr h n r acc
  ·split
   ·exact close_congr h n _ _
   ·exact close_congr h n r acc
theorem rows_put {d : Option Tmp} {e : Ent S.ty} (l : List Nat) : (st.put d e).rows l = st.rows l := by cases d <;> rfl
theorem kss_put {d : Option Tmp} {e : Ent S.ty} (l : List Nat) : (st.put d e).kss l = st.kss l := by cases d <;> rfl
theorem mineB_put {d : Option Tmp} {e : Ent S.ty} (l : List Nat) : (st.put d e).mineB l = st.mineB l := by cases d <;> rfl
theorem Agr.put {d : Nat} {e : Ent S.ty} (hl : d ∉ o.looksAt ops.toArray) : Agr ops o (st.put (some d) e) st := fun t ht => by
 have hne : ¬ (t = d ∧ d < st.tmps.length) := fun hh => hl (hh.1 ▸ ht)
 rw [get_put, if_neg hne]
theorem out_put {d : Option Tmp} {e : Ent S.ty} : Out (st.put d e) bk u ↔ Out st bk u := by cases d <;> exact Iff.rfl
theorem EV_frame (h : EV P u0 ops fl o st bk u K) : EV P u0 ops fl o st bk u fun st' bk' u' => K st' bk' u' ∧ (∀ t, o.dst ≠ some t → st'.get t = st.get t) ∧ st'.own.length = st.own.length ∧ ∀ i, live st i → live st' i := by
 have hp : ∀ (s : St S.ty) (e : Ent S.ty), (∀ t, s.get t = st.get t) → s.own.length = st.own.length → (∀ i, live st i → live s i) → (∀ t, o.dst ≠ some t → (s.put o.dst e).get t = st.get t) ∧ (s.put o.dst e).own.length = st.own.length ∧ ∀ i, live st i → live (s.put o.dst e) i := by
  intro s e h1 h2 h3
  refine ⟨fun t ht => ?_, ?_, fun i hi => (live_put _ _ _ _).2 (h3 i hi)⟩
  ·cases hd : o.dst with
   | none => exact h1 t
   | some d => rw [get_put, if_neg (fun hh => ht (by rw [hd, hh.1]))]; exact h1 t
  ·cases hd : o.dst <;> exact h2
 have hso : ∀ (s : St S.ty) (i : Nat) (x : Own S.ty), (∀ j, live st j → live s j) → ∀ j, live st j → live (s.setOwn i (some x)) j := fun s i x hs j hj => live_setOwn (hs j hj)
 have hfr : ∀ (l : List Nat) (ms : List (List CK)) (y : CellsL S.ty ms) (s : St S.ty), s.own.length = st.own.length → (∀ j, live st j → live s j) → (s.fresh l ms y).own.length = st.own.length ∧ ∀ j, live st j → live (s.fresh l ms y) j := by
  intro l
  induction l with
  | nil => intro ms y s h1 h2; cases ms <;> exact ⟨h1, h2⟩
  | cons i l ih =>
   intro ms y s h1 h2
   cases ms with
   | nil => exact ⟨h1, h2⟩
   | cons k ms =>
    simp only [St.fresh]
    exact ih ms y.2 _ (by simp [St.setOwn, h1]) (hso s i _ h2)
 have hsh : ∀ (l : List Nat) (s : St S.ty), s.own.length = st.own.length → (∀ j, live st j → live s j) → (s.shut l).own.length = st.own.length ∧ ∀ j, live st j → live (s.shut l) j := by
  intro l
  induction l with
  | nil => intro s h1 h2; exact ⟨h1, h2⟩
  | cons i l ih =>
   intro s h1 h2
   simp only [St.shut]
   cases s.blk i with
   | none => exact ih s h1 h2
   | some x => exact ih _ (by simp [St.setOwn, h1]) (hso s i _ h2)
 unfold EV at h ⊢
 rcases hg : guardOf ops st o with _ | ⟨lab, g⟩
 ·simp only [hg] at h
 simp only [hg] at h ⊢
 generalize hr : res P st lab o = r at h ⊢
 rcases r with _ | ⟨obs, x⟩ | ⟨obs, id, off, xs⟩ | ⟨obs, ow, x⟩ | ⟨A, k, ag, ks⟩ | ⟨obs, A, k, xs⟩ | ⟨f, args, rs⟩ | ⟨p, args, rs⟩ <;> dsimp only at h ⊢
 ·exact ⟨h.1, h.2.1, h.2.2, hp st _ (fun _ => rfl) rfl fun _ h => h⟩
 ·split at h
  ·exact ⟨h.1, h.2.1, h.2.2, fun t _ => rfl, by simp [St.setOwn], fun i hi => live_setOwn hi⟩
  ·exact h.elim
 ·split at h
  ·rename_i dx hdx
   refine ⟨h.1, h.2.1, h.2.2.1, fun hg b hb => ⟨h.2.2.2.1 hg b hb, ?_⟩, fun hg => (h.2.2.2.2 hg).imp fun y hy => ⟨hy.1, hy.2, by rw [← hdx]; exact hp st _ (fun _ => rfl) rfl fun _ h => h⟩⟩
   rw [← hdx]
   exact hp (st.setOwn dx (some ow)) _ (fun _ => rfl) (by simp [St.setOwn]) fun i hi => live_setOwn hi
  ·exact h.elim
 ·exact ⟨fun hg => (h.1 hg).imp fun x ⟨h1, y, h2, h3⟩ => ⟨h1, y, h2, h3, hp st _ (fun _ => rfl) rfl fun _ h => h⟩, fun hg => (h.2 hg).imp fun y ⟨h2, h3⟩ => ⟨h2, h3, hp st _ (fun _ => rfl) rfl fun _ h => h⟩⟩
 ·split at h
  ·obtain ⟨hl, h0, b, f, h1, h2, h3, h4⟩ := h; exact ⟨hl, h0, b, f, h1, h2, h3, h4, by simp⟩
  ·exact h.elim
 ·obtain ⟨h1, h2, h3, h4, h5, h7, h8⟩ := h
  have hk : ∀ (ms ps : List Nat) (ys : CellsL S.ty (st.kss ms)) (e : Ent S.ty), _ := fun ms ps ys e =>
   hp ((st.fresh ms (st.kss ms) ys).shut ps) e (fun t => ((get_shut ps _ t).1.trans (get_fresh ms _ ys st t).1)) (hsh ps _ (hfr ms _ ys st rfl fun _ h => h).1 (hfr ms _ ys st rfl fun _ h => h).2).1 (hsh ps _ (hfr ms _ ys st rfl fun _ h => h).1 (hfr ms _ ys st rfl fun _ h => h).2).2
  exact ⟨h1, h2, h3, h4, h5, fun hg => (h7 hg).mono fun u1 hc => hc.mono fun v cs u' ⟨xs, ys, e1, e2, e3⟩ => ⟨xs, ys, e1, e2, fun ho => ⟨e3 ho, hk _ _ ys _⟩⟩, fun hg => (h8 hg).imp fun x hx => ⟨hx.1, hx.2, hp st _ (fun _ => rfl) rfl fun _ h => h⟩⟩
 ·obtain ⟨h1, h2, h3, hx, h7, h8⟩ := h
  have hk : ∀ (ps : List Nat) (e : Ent S.ty), _ := fun ps e => hp (st.shut ps) e (fun t => (get_shut ps _ t).1) (hsh ps st rfl fun _ h => h).1 (hsh ps st rfl fun _ h => h).2
  exact ⟨h1, h2, h3, hx, fun hg => (h7 hg).mono fun u1 hc => hc.mono fun v u' ⟨xs, e1, e3⟩ => ⟨xs, e1, fun ho => ⟨e3 ho, hk _ _⟩⟩, fun hg => ⟨h8 hg, hk _ _⟩⟩
end
end Go.Proofs.YtpfbimkpcnnfkaaGreatDoor.Sx
