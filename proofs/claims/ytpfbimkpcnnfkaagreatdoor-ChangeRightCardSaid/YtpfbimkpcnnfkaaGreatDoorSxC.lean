/- Sx: one operation: calls. Nothing of the program. -/
import Derived.Test.YtpfbimkpcnnfkaaGreatDoorSxB
set_option linter.unusedVariables false
set_option linter.unusedSimpArgs false
namespace Go.Proofs.YtpfbimkpcnnfkaaGreatDoor.Sx
open Go Go.RowKit Go.Proofs.YtpfbimkpcnnfkaaGreatDoor
def Names (P : Program) : Prop := ∀ (f : FuncId) (fn : Func), P.funcs[f]? = some fn → (fn.name == "runtime.NumGoroutine") = false
section
variable {P : Program} {c : Ctx} {F : Nat → Prop} {st : St S.ty} {bk : Nat → Nat} {a : Act} {w : World} {u : Mem} {lab : List (Nat × Bool)} {K : St S.ty → (Nat → Nat) → Mem → Prop} {Q : Exit → Act → World → Prop} {ops : List Oper} {o : Oper}
theorem res_call {f : FuncId} {args : List (SV S.ty)} {rs : List RT} (hN : Names P) (h : Rep c F st bk a w u) (hl : Labs a lab) (hr : res P st lab o = .call f args rs) :
  (execOp a.eval o).run P w = .ok (.enter f (denL bk args).toArray) w ∧ ∀ i ∈ idsL args, live st i := by
 obtain ⟨dst, op, ty, pos, after, guard⟩ := o
 unfold res at hr
 simp only at hr ⊢
 split at hr
 case h_11 =>
  split at hr
  ·rename_i x y _ _
   rcases binRes_or (P := P) _ _ _ x y with h' | ⟨_, _, h'⟩ <;> (rw [h'] at hr; cases hr)
  ·cases hr
 case h_23 cl =>
  split at hr
  ·cases hr
  ·rename_i as has
   have hx := evs_ok h hl has
   have e1 : cl.args.map a.eval = (denL bk as).toArray := by rw [← hx.1, ← Array.toList_map, Array.toArray_toList]
   split at hr
   ·split at hr <;> cases hr
   ·rename_i v hv
    split at hr
    ·rename_i f' l r hf
     split at hr
     ·rename_i fn hfn
      split at hr
      case isFalse => split at hr <;> cases hr
      rename_i hbody
      cases hr
      have h1 := ev_ok h hl hf
      refine ⟨?_, fun i hi => ?_⟩
      ·have hb : fn.body.isNone = false := by cases hh : fn.body <;> simp_all
       have hnm := hN f fn hfn
       simp only [execOp, resolve, hv, e1, h1.1, SV.den, Deferred.ofValue, Sem.run_bind, Sem.run_pure, Result.andThen_ok, invoke, callFunc, program, Sem.run, hfn, hnm, hb, Bool.false_eq_true, if_false]
       simp [denL_app]
      ·rw [idsL_app, idsL_app, List.mem_append, List.mem_append] at hi
       rcases hi with (hi | hi) | hi
       ·exact h1.2 i (by simp [SV.ids, hi])
       ·exact hx.2 i hi
       ·exact h1.2 i (by simp [SV.ids, hi])
     ·cases hr
    ·cases hr
   ·cases hr
 all_goals (exfalso; revert hr; (repeat' split) <;> simp)
theorem res_bi {p : Prim} {args : List (SV S.ty)} {rs : List RT} (hN : Names P) (h : Rep c F st bk a w u) (hl : Labs a lab) (hr : res P st lab o = .bi p args rs) {v : Value} {w' : World}
  (hv : p.Run P (denL bk args) w v w') :
  (execOp a.eval o).run P w = .ok (.value v) w' ∧ ∀ i ∈ idsL args, live st i := by
 obtain ⟨dst, op, ty', pos, after, guard⟩ := o
 unfold res at hr
 simp only at hr ⊢
 split at hr
 case h_11 =>
  split at hr
  ·rename_i x y _ _
   rcases binRes_or (P := P) _ _ _ x y with h' | ⟨_, _, h'⟩ <;> (rw [h'] at hr; cases hr)
  ·cases hr
 case h_7 =>
  split at hr
  ·rename_i h0
   split at hr
   ·rename_i hp
    cases hr
    simp only [Prim.Run] at hv
    subst h0
    have e : ∀ (f : Nat × Operand → Nat × Value) (ps : Array (Nat × Operand)), ps.isEmpty = true → ps.map f = #[] := fun f ps h => by
     have : ps = #[] := by simpa using h
     rw [this]; simp
    refine ⟨?_, fun i hi => by simp [idsL] at hi⟩
    simp only [execOp]
    rw [e _ _ hp]
    simp only [Sem.run_bind, hv, Result.andThen_ok, Sem.run_pure]
   ·cases hr
  ·exfalso; revert hr; (repeat' split) <;> simp
 case h_14 =>
  split at hr
  ·rename_i x y hx hy
   cases hr
   have h1 := ev_ok h hl hx
   have h2 := ev_ok h hl hy
   simp only [Prim.Run, denL] at hv
   refine ⟨by simp only [execOp, Sem.run_bind, h1.1, h2.1, hv, Result.andThen_ok, Sem.run_pure], fun i hi => ?_⟩
   simp only [idsL, List.append_nil, List.mem_append] at hi
   exact hi.elim (h1.2 i) (h2.2 i)
  ·cases hr
 case h_23 cl =>
  split at hr
  ·cases hr
  ·rename_i as has
   have hx := evs_ok h hl has
   have e1 : cl.args.map a.eval = (denL bk as).toArray := by rw [← hx.1, ← Array.toList_map, Array.toArray_toList]
   split at hr
   ·rename_i b' hb
    have key : ∀ b'' rs', cl.callee = .builtin b'' → (Res.bi (.bi b'' cl.argTypes ty') as rs' = Res.bi p args rs) → (execOp a.eval ⟨dst, .call cl, ty', pos, after, guard⟩).run P w = .ok (.value v) w' ∧ ∀ i ∈ idsL args, live st i := by
     intro b'' rs' hb'' e
     cases e
     refine ⟨?_, hx.2⟩
     simp only [Prim.Run] at hv
     simp only [execOp, resolve, hb'', e1, Sem.run_bind, Sem.run_pure, Result.andThen_ok, invoke, hv]
    split at hr
    all_goals first | (cases hr; done) | exact key _ _ hb hr
   ·rename_i v0 hv0
    split at hr
    ·rename_i f' l r hf
     split at hr
     ·rename_i fn hfn
      split at hr
      ·cases hr
      ·split at hr
       ·cases hr
        have h1 := ev_ok h hl hf
        simp only [Prim.Run] at hv
        refine ⟨?_, fun i hi => ?_⟩
        ·simp only [execOp, resolve, hv0, e1, h1.1, SV.den, Deferred.ofValue, Sem.run_bind, Sem.run_pure, Result.andThen_ok, invoke]
         simpa [denL_app] using hv
        ·rw [idsL_app, idsL_app, List.mem_append, List.mem_append] at hi
         rcases hi with (hi | hi) | hi
         ·exact h1.2 i (by simp [SV.ids, hi])
         ·exact hx.2 i hi
         ·exact h1.2 i (by simp [SV.ids, hi])
       ·cases hr
     ·cases hr
    ·cases hr
   ·cases hr
 all_goals (exfalso; revert hr; (repeat' split) <;> simp)
theorem close_cells : ∀ (n : Nat) (l acc : List Nat), (∀ i ∈ acc, (st.cells i).isSome = true) → ∀ i ∈ st.close n l acc, (st.cells i).isSome = true
 | 0, _, acc, h => h
 | n + 1, [], acc, h => h
 | n + 1, id :: r, acc, h => by
  simp only [St.close]
  split
  ·exact close_cells n r acc h
  ·split
   ·rename_i cs hcs
    refine close_cells n _ _ fun i hi => ?_
    rcases List.mem_append.1 hi with hi | hi
    ·exact h i hi
    ·rw [List.mem_singleton.1 hi, hcs]; rfl
   ·exact close_cells n r acc h
theorem rows_map : ∀ {l : List Nat}, (∀ i ∈ l, (st.cells i).isSome = true) → st.rows l = l.map fun i => (i, (st.cells i).getD [])
 | [], _ => rfl
 | i :: r, h => by
  obtain ⟨cs, hcs⟩ := Option.isSome_iff_exists.1 (h i (by simp))
  have ih := rows_map (l := r) fun j hj => h j (by simp [hj])
  unfold St.rows at *
  simp [hcs, ih]
theorem nodupB_nodup : ∀ {l : List Nat}, nodupB l = true → l.Nodup
 | [], _ => List.nodup_nil
 | x :: r, h => by
  simp only [nodupB, Bool.and_eq_true, Bool.not_eq_true'] at h
  refine List.nodup_cons.2 ⟨fun hx => ?_, nodupB_nodup h.2⟩
  have : r.contains x = true := by simpa using hx
  rw [this] at h; cases h.1
theorem disjB_not {l r : List Nat} (h : disjB l r = true) {x : Nat} (h1 : x ∈ l) : x ∉ r := by
 have := List.all_eq_true.1 h x h1
 simpa using this
theorem bk_nodup (h : Rep c F st bk a w u) : ∀ {l : List Nat}, l.Nodup → (∀ i ∈ l, (st.cells i).isSome = true) → (l.map bk).Nodup
 | [], _, _ => List.nodup_nil
 | i :: r, hn, hc => by
  obtain ⟨h1, h2⟩ := List.nodup_cons.1 hn
  rw [List.map_cons, List.nodup_cons]
  refine ⟨fun hm => ?_, bk_nodup h h2 fun j hj => hc j (by simp [hj])⟩
  obtain ⟨j, hj, e⟩ := List.mem_map.1 hm
  obtain ⟨x, hx⟩ := Option.isSome_iff_exists.1 (hc i (by simp))
  obtain ⟨y, hy⟩ := Option.isSome_iff_exists.1 (hc j (by simp [hj]))
  exact h.apart j i y x hy hx (fun e' => h1 (e' ▸ hj)) e
theorem cells_own {id : Nat} {cs : List (SV S.ty)} (h : st.cells id = some cs) : ∃ ow, st.blk id = some ow ∧ ow.cs = some cs := by
 obtain ⟨ow, h1, h2⟩ := Option.bind_eq_some_iff.1 h
 exact ⟨ow, h1, h2⟩
def pubMem (bk : Nat → Nat) (rows : List (Nat × List (SV S.ty))) (u : Mem) : Mem := fun b o => match u b o with
 | some v => some v
 | none => rows.findSome? fun r => if bk r.1 = b then (denL bk r.2)[o]? else none
theorem pub_le (rows : List (Nat × List (SV S.ty))) : u.le (pubMem bk rows u) := fun b o x h => by unfold pubMem; rw [h]
theorem pub_some {rows : List (Nat × List (SV S.ty))} {b o : Nat} {v : Value} (h : pubMem bk rows u b o = some v) : u b o = some v ∨ ∃ r ∈ rows, bk r.1 = b ∧ (denL bk r.2)[o]? = some v := by
 unfold pubMem at h
 cases hu : u b o with
 | some x => rw [hu] at h; exact .inl h
 | none =>
  rw [hu] at h
  obtain ⟨r, hr, e⟩ := List.exists_of_findSome?_eq_some h
  split at e
  ·exact .inr ⟨r, hr, by assumption, e⟩
  ·cases e
theorem pub_at {rows : List (Nat × List (SV S.ty))} (hn : (rows.map fun r => bk r.1).Nodup) (hu : ∀ r ∈ rows, ∀ o, u (bk r.1) o = none) {r : Nat × List (SV S.ty)} (hr : r ∈ rows) (o : Nat) {v : Value} (hv : (denL bk r.2)[o]? = some v) :
  pubMem bk rows u (bk r.1) o = some v := by
 unfold pubMem
 rw [hu r hr o]
 simp only
 induction rows with
 | nil => cases hr
 | cons q rows ih =>
  rw [List.map_cons, List.nodup_cons] at hn
  rw [List.findSome?_cons]
  rcases List.mem_cons.1 hr with rfl | hr'
  ·rw [if_pos rfl, hv]
  ·have hne : bk q.1 ≠ bk r.1 := fun e => hn.1 (e ▸ List.mem_map_of_mem (f := fun r => bk r.1) hr')
   rw [if_neg hne]
   exact ih hn.2 (fun r hr => hu r (List.mem_cons_of_mem _ hr)) hr'
theorem pubTo_at {rows : List (Nat × List (SV S.ty))} {Kk : Mem → Prop} (h : PubTo bk rows u Kk) (hn : (rows.map fun r => bk r.1).Nodup) (hu : ∀ r ∈ rows, ∀ o, u (bk r.1) o = none) : Kk (pubMem bk rows u) := by
 cases rows with
 | nil =>
  have e : pubMem bk [] u = u := by funext b o; unfold pubMem; cases u b o <;> rfl
  rw [e]; exact h
 | cons p r => exact h _ (pub_le _) fun q hq j v hv => pub_at hn hu hq j hv
theorem blk_shut : ∀ (l : List Nat) (st : St S.ty) (i : Nat), (st.shut l).blk i = if i ∈ l then (st.blk i).map (fun o => { o with cs := none }) else st.blk i
 | [], st, i => by simp [St.shut]
 | id :: r, st, i => by
  simp only [St.shut]
  rw [blk_shut r]
  cases hb : st.blk id with
  | none =>
   simp only []
   by_cases h : i = id
   ·subst h; simp [hb]
   ·simp [h]
  | some ow =>
   simp only []
   have hlt := blk_lt hb
   rw [blk_setOwn]
   by_cases h : i = id
   ·subst h; simp [hlt, hb]
   ·simp [h]
theorem get_shut : ∀ (l : List Nat) (st : St S.ty) (t : Nat), (st.shut l).get t = st.get t ∧ (st.shut l).tmps.length = st.tmps.length
 | [], st, t => ⟨rfl, rfl⟩
 | id :: r, st, t => by
  simp only [St.shut]
  cases hb : st.blk id with
  | none => exact get_shut r st t
  | some o => exact ⟨(get_shut r (st.setOwn id (some { o with cs := none })) t).1, (get_shut r (st.setOwn id (some { o with cs := none })) t).2⟩
theorem get_fresh : ∀ (l : List Nat) (ms : List (List CK)) (x : CellsL S.ty ms) (st : St S.ty) (t : Nat), (st.fresh l ms x).get t = st.get t ∧ (st.fresh l ms x).tmps.length = st.tmps.length
 | [], ms, x, st, t => by cases ms <;> exact ⟨rfl, rfl⟩
 | id :: l, [], x, st, t => ⟨rfl, rfl⟩
 | id :: l, k :: ms, x, st, t => by
  have := get_fresh l ms x.2 (st.setOwn id (some ⟨((st.blk id).map (·.giv)).getD false, k, some (cellsSV k x.1)⟩)) t
  exact ⟨this.1, this.2⟩
theorem cellsSV_ids : ∀ (l : List CK) (x : Cells S.ty l), idsL (cellsSV l x) = []
 | [], _ => rfl
 | k :: r, x => by
  simp only [cellsSV, idsL, cellsSV_ids r x.2, List.append_nil]
  cases k <;> rfl
theorem blk_fresh (bk : Nat → Nat) : ∀ (l : List Nat) (ms : List (List CK)) (x : CellsL S.ty ms) (st : St S.ty), l.Nodup → ms.length = l.length → (∀ i ∈ l, ∃ o, st.blk i = some o) →
  (∀ i, i ∉ l → (st.fresh l ms x).blk i = st.blk i) ∧ ∀ (j : Nat) i, l[j]? = some i → ∃ g k cs, (st.fresh l ms x).blk i = some ⟨g, k, some cs⟩ ∧ (denLL bk ms x)[j]? = some (denL bk cs) ∧ idsL cs = [] ∧ ∀ o, st.blk i = some o → g = o.giv
 | [], ms, x, st, _, _, _ => ⟨fun i _ => by cases ms <;> rfl, fun j i h => by simp at h⟩
 | id :: l, [], x, st, _, h, _ => by simp at h
 | id :: l, k :: ms, x, st, hn, hlen, hb => by
  obtain ⟨h1, h2⟩ := List.nodup_cons.1 hn
  obtain ⟨o0, ho0⟩ := hb id (by simp)
  have hlt := blk_lt ho0
  have hbo : ∀ i, i ≠ id → (st.setOwn id (some ⟨((st.blk id).map (·.giv)).getD false, k, some (cellsSV k x.1)⟩)).blk i = st.blk i := fun i hi => by rw [blk_setOwn, if_neg (fun h => hi h.1)]
  obtain ⟨a1, a2⟩ := blk_fresh bk l ms x.2 (st.setOwn id (some ⟨((st.blk id).map (·.giv)).getD false, k, some (cellsSV k x.1)⟩)) h2 (by simpa using hlen)
   (fun i hi => by rw [hbo i (fun e => h1 (e ▸ hi))]; exact hb i (by simp [hi]))
  refine ⟨fun i hi => ?_, fun j i hj => ?_⟩
  ·simp only [List.mem_cons, not_or] at hi
   simp only [St.fresh]
   rw [a1 i hi.2, hbo i hi.1]
  ·cases j with
   | zero =>
    simp at hj; subst hj
    refine ⟨((st.blk id).map (·.giv)).getD false, k, cellsSV k x.1, ?_, rfl, cellsSV_ids _ _, fun o ho => ?_⟩
    ·simp only [St.fresh]
     rw [a1 id h1, blk_setOwn, if_pos ⟨rfl, hlt⟩]
    ·rw [ho]; rfl
   | succ j =>
    have hj' : l[j]? = some i := by simpa using hj
    have hi : i ≠ id := fun e => h1 (e ▸ List.mem_of_getElem? hj')
    obtain ⟨g, k', cs, b1, b2, b3, b4⟩ := a2 j i hj'
    exact ⟨g, k', cs, b1, b2, b3, fun o ho => b4 o (by rw [hbo i hi]; exact ho)⟩
end
end Go.Proofs.YtpfbimkpcnnfkaaGreatDoor.Sx
