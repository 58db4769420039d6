/- Sx: one operation: new blocks, loads and stores elsewhere. Nothing of the program. -/
import Derived.Test.YtpfbimkpcnnfkaaGreatDoorSx9
/- Sx: one operation: stores, new blocks, loads from elsewhere. Nothing of the program. -/
set_option linter.unusedVariables false
set_option linter.unusedSimpArgs false
namespace Go.Proofs.YtpfbimkpcnnfkaaGreatDoor.Sx
open Go Go.RowKit Go.Proofs.YtpfbimkpcnnfkaaGreatDoor
section
variable {P : Program} {c : Ctx} {F : Nat → Prop} {st : St S.ty} {bk : Nat → Nat} {a : Act} {w : World} {u : Mem} {lab : List (Nat × Bool)} {K : St S.ty → (Nat → Nat) → Mem → Prop} {Q : Exit → Act → World → Prop} {ops : List Oper} {o : Oper}
theorem live_setOwn {i : Nat} {x : Own S.ty} {j : Nat} (h : live st j) : live (st.setOwn i (some x)) j := by
 unfold live at *
 rw [blk_setOwn]
 split
 ·rfl
 ·exact h
theorem cells_setOwn (st : St S.ty) (i : Nat) (x : Own S.ty) (j : Nat) (hi : i < st.own.length) : (st.setOwn i (some x)).cells j = if j = i then x.cs else st.cells j := by
 unfold St.cells
 rw [blk_setOwn]
 by_cases h : j = i
 ·rw [if_pos ⟨h, hi⟩, if_pos h]; rfl
 ·rw [if_neg (fun hh => h hh.1), if_neg h]
theorem EntOk.setOwn {t i : Nat} {e : Ent S.ty} {x : Own S.ty} (h : EntOk F st bk a t e) : EntOk F (st.setOwn i (some x)) bk a t e := ⟨h.lab, h.yes, h.no, fun hw j hj => live_setOwn (h.live hw j hj), h.far⟩
theorem Rep.setCells {w' : World} {id : Nat} {ow : Own S.ty} {cs cs' : List (SV S.ty)} (h : Rep c F st bk a w u) (hb : st.blk id = some ow) (hc : ow.cs = some cs) (hg : Gro (· = bk id) w w') (hs : w'.heap.size = w.heap.size)
  (hh : Has w' (bk id) (denL bk cs')) (hl : ∀ i ∈ idsL cs', live st i) (x : Own S.ty) (hx : x.cs = some cs') (hxg : x.giv = ow.giv) : Rep c F (st.setOwn id (some x)) bk a w' u := by
 have hok := h.own id ow cs hb hc
 have hi := blk_lt hb
 have hcs : st.cells id = some cs := by simp [St.cells, hb, hc]
 have hu : ∀ b o, u b o ≠ none → b ≠ bk id := fun b o hu e => hu (by rw [e]; exact hok.out o)
 have hbl : ∀ b o, u b o ≠ none → w'.heap[b]? = w.heap[b]? := fun b o hn => by
  obtain ⟨v, hv⟩ := Option.ne_none_iff_exists'.1 hn
  exact hg.block b (cell_lt (h.sees b o v hv)) (hu b o hn)
 refine ⟨h.defers, h.size, fun t e he => (h.ent t e he).setOwn, fun j y ys hy hys => ?_, fun i j x' y' hx' hy' hij => ?_, fun b o v hv => ?_, fun b o hn => ?_, h.ngiv, ?_, h.le, h.lt, h.fix, fun i hi => ⟨(h.fixb i hi).1, live_setOwn (h.fixb i hi).2⟩, h.sz⟩
 ·rw [blk_setOwn] at hy
  split at hy
  ·rename_i hj
   cases hy
   rw [hx] at hys; cases hys
   obtain ⟨rfl, _⟩ := hj
   exact ⟨hh, hok.out, by rw [hxg]; exact hok.giv, fun i hi' => live_setOwn (hl i hi')⟩
  ·rename_i hj
   have hj' : j ≠ id := fun e => hj ⟨e, hi⟩
   have hok' := h.own j y ys hy hys
   have hne : bk j ≠ bk id := h.apart j id ys cs (by simp [St.cells, hy, hys]) hcs hj'
   exact ⟨hok'.has.block (hg.block _ (has_lt hok'.has) hne), hok'.out, hok'.giv, fun i hi' => live_setOwn (hok'.live i hi')⟩
 ·rw [cells_setOwn _ _ _ _ hi] at hx' hy'
  have hf : ∀ k z, (if k = id then x.cs else st.cells k) = some z → ∃ z', st.cells k = some z' := fun k z hz => by
   split at hz
   ·rename_i hk; exact ⟨cs, by rw [hk]; exact hcs⟩
   ·exact ⟨z, hz⟩
  obtain ⟨_, h1⟩ := hf i x' hx'
  obtain ⟨_, h2⟩ := hf j y' hy'
  exact h.apart i j _ _ h1 h2 hij
 ·rw [cell_eq (hbl b o (by rw [hv]; simp))]; exact h.sees b o v hv
 ·exact ⟨(h.old b o hn).1.imp (fun h => h) fun h4 => ⟨h4.1, plain_eq (hbl b o hn) h4.2⟩, (h.old b o hn).2⟩
 ·refine ⟨hg.os.trans h.gro.os, hg.tape.trans h.gro.tape, hg.output.trans h.gro.output, Nat.le_trans h.gro.size hg.size, fun k hk hB => ?_⟩
  by_cases hkb : k = bk id
  ·subst hkb
   rcases hok.giv with ⟨_, hgv⟩ | ⟨_, hgv, _⟩
   ·exact absurd (.inl hgv) hB
   ·omega
  ·exact (hg.block k (Nat.lt_of_lt_of_le hk h.gro.size) hkb).trans (h.gro.block k hk hB)
theorem gro_setCells (b o : Nat) (vs : List Value) (w : World) : Gro (· = b) w (w.setCells b o vs) :=
 ⟨(setCells_env b vs o w).1, (setCells_env b vs o w).2.1, (setCells_env b vs o w).2.2, by rw [setCells_size]; exact Nat.le_refl _, fun k _ hk => setCells_other b vs o w k hk⟩
theorem binRes_or (t : TypeId) (b : BinOp) (cst : Bool) (x y : SV S.ty) : binRes P t b cst x y = .bad ∨ ∃ obs z, binRes P t b cst x y = .put obs z := by
 unfold binRes
 (repeat' split) <;> first | exact .inl rfl | exact .inr ⟨_, _, rfl⟩
theorem res_sto {obs : List (Ob S.ty)} {id off : Nat} {xs : List (SV S.ty)} (h : Rep c F st bk a w u) (hl : Labs a lab) (hr : res P st lab o = .sto obs id off xs) (ho : ∀ p ∈ obs, p.den) :
  o.dst = none ∧ (∀ i ∈ idsL xs, live st i) ∧ ∃ cs, st.cells id = some cs ∧ off + xs.length ≤ cs.length ∧ (execOp a.eval o).run P w = .ok .skip (w.setCells (bk id) off (denL bk xs)) := by
 obtain ⟨dst, op, ty, pos, after, guard⟩ := o
 unfold res at hr
 simp only at hr ⊢
 split at hr
 case h_9 t y x' =>
  split at hr
  ·rename_i id' off' x n hy hx hn
   split at hr
   ·rename_i cs hcs
    split at hr
    ·rename_i obs' hob
     split at hr <;> cases hr
     rename_i hlen
     have h1 := ev_ok h hl hy
     have h2 := ev_ok h hl hx
     obtain ⟨ow, how, hocs⟩ := Option.bind_eq_some_iff.1 hcs
     have hok := h.own id ow cs how hocs
     refine ⟨rfl, fun i hi => h2.2 i (by rwa [cells_ids] at hi), cs, hcs, by omega, ?_⟩
     have hone := oneObs_ok bk hob ho
     have hcells : (x.den bk).cells = (denL bk x.cells).toArray := by
      cases x <;> simp_all [SV.den, SV.cells, Value.cells, denL, oneObs, Value.oneCell']
      ·rename_i e; cases hv : E.den e <;> simp_all [Value.oneCell', Value.cells]
      ·rename_i v; cases v <;> simp_all [Value.oneCell', Value.cells]
     have := run_storeB (P := P) (t := t) (b := bk id) (off := off) (w := w) (vs := denL bk x.cells) (by rw [denL_len, hlen.1]; exact hn) hcells
      (fun j hj => by rw [has_cell hok.has]; simp [denL_len] at hj ⊢; omega) (fun j _ => has_frozen hok.has _) hone
     simp [execOp, h1.1, h2.1, SV.den, Sem.run_bind, this]
    ·cases hr
   ·cases hr
  ·split at hr
   ·split at hr <;> cases hr
   ·cases hr
  ·cases hr
 case h_11 => 
  split at hr
  ·rename_i x y _ _
   rcases binRes_or (P := P) _ _ _ x y with h' | ⟨_, _, h'⟩ <;> (rw [h'] at hr; cases hr)
  ·cases hr
 all_goals (exfalso; revert hr; (repeat' split) <;> simp)
end
end Go.Proofs.YtpfbimkpcnnfkaaGreatDoor.Sx
set_option linter.unusedVariables false
set_option linter.unusedSimpArgs false
namespace Go.Proofs.YtpfbimkpcnnfkaaGreatDoor.Sx
open Go Go.RowKit Go.Proofs.YtpfbimkpcnnfkaaGreatDoor
section
variable {P : Program} {c : Ctx} {F : Nat → Prop} {st : St S.ty} {bk : Nat → Nat} {a : Act} {w : World} {u : Mem} {lab : List (Nat × Bool)} {K : St S.ty → (Nat → Nat) → Mem → Prop} {Q : Exit → Act → World → Prop} {ops : List Oper} {o : Oper}
theorem range_rep (z : Array Value) (n : Nat) (hn : z.size = n) : ∀ len : Nat, ((List.range (len * n)).map fun i => z[i % z.size]!) = (List.replicate len z.toList).flatten
 | 0 => by simp
 | len + 1 => by
  rw [Nat.succ_mul, List.range_add, List.map_append, range_rep z n hn len, List.replicate_succ', List.flatten_append]
  congr 1
  simp only [List.map_map, List.flatten_cons, List.flatten_nil, List.append_nil]
  apply List.ext_getElem
  ·simp [hn]
  ·intro i h1 h2
   simp at h1 h2
   simp only [List.getElem_map, List.getElem_range, Function.comp_apply]
   have h3 : (len * n + i) % z.size = i := by rw [hn, Nat.mul_comm, Nat.mul_add_mod, Nat.mod_eq_of_lt h1]
   rw [h3]
   simp [h2]
theorem fillRow_ok (bk : Nat → Nat) {n : Nat} : ∀ (ps : List (Nat × SV S.ty)) (cs rs : List (SV S.ty)) (obs : List (Ob S.ty)), fillRow n cs ps = some rs → boxesObs ps = some obs → (∀ p ∈ obs, p.den) →
   Instr.fill (fun i => some (i * n, n)) (denL bk cs).toArray (ps.map fun p => (p.1, p.2.den bk)) = some (denL bk rs).toArray ∧ rs.length = cs.length ∧ ∀ i ∈ idsL rs, i ∈ idsL cs ∨ ∃ p ∈ ps, i ∈ p.2.ids
 | [], cs, rs, obs, h, _, _ => by simp only [fillRow, Option.some.injEq] at h; subst h; exact ⟨rfl, rfl, fun i hi => .inl hi⟩
 | (i, x) :: r, cs, rs, obs, h, hb, ho => by
  simp only [fillRow] at h
  split at h
  ·rename_i h3
   simp only [boxesObs] at hb
   split at hb
   ·rename_i l l' b1 b2
    cases hb
    have hx := boxObs_ok bk b1 (fun p hp => ho p (by simp [hp]))
    obtain ⟨e1, e2, e3⟩ := fillRow_ok bk r _ _ _ h b2 (fun p hp => ho p (by simp [hp]))
    refine ⟨?_, ?_, ?_⟩
    ·simp only [List.map_cons, Instr.fill, hx]
     rw [if_neg (by simp [denL_len]; omega)]
     rw [fillCells (f := fun _ => none) (n := n) (by rw [denL_len]; exact h3.1) (by rw [denL_len]; exact h3.2)]
     rw [← e1]
     simp only [denL_app, denL_take, denL_drop]
    ·rw [e2]; simp; omega
    ·intro k hk
     rcases e3 k hk with hk | ⟨p, hp, hk⟩
     ·rw [idsL_app, idsL_app, List.mem_append, List.mem_append] at hk
      rcases hk with (hk | hk) | hk
      ·exact .inl (by obtain ⟨y, hy, hz⟩ := mem_idsL.1 hk; exact mem_idsL.2 ⟨y, List.mem_of_mem_take hy, hz⟩)
      ·exact .inr ⟨_, List.mem_cons_self, by rwa [cells_ids] at hk⟩
      ·exact .inl (by obtain ⟨y, hy, hz⟩ := mem_idsL.1 hk; exact mem_idsL.2 ⟨y, List.mem_of_mem_drop hy, hz⟩)
     ·exact .inr ⟨p, List.mem_cons_of_mem _ hp, hk⟩
   ·cases hb
  ·cases h
theorem denL_flat (bk : Nat → Nat) (l : List (SV S.ty)) : ∀ n : Nat, denL bk (List.replicate n l).flatten = (List.replicate n (denL bk l)).flatten
 | 0 => rfl
 | n + 1 => by simp only [List.replicate_succ, List.flatten_cons, denL_app, denL_flat bk l n]
theorem run_newRow (t : TypeId) (cs : Array Value) (w : World) : (newRow t cs).run P w = .ok ⟨w.heap.size, 0, none⟩ (w.alloc (.cells cs t (0, 0))) := rfl
theorem cellsSV_len : ∀ (l : List CK) (x : Cells S.ty l), (cellsSV l x).length = l.length
 | [], _ => rfl
 | k :: r, x => by simp only [cellsSV, List.length_cons, cellsSV_len r x.2]
def NewIs (P : Program) (o : Oper) (a : Act) (w : World) (st : St S.ty) (bk : Nat → Nat) (ow : Own S.ty) (x : SV S.ty) : Prop :=
 ∃ d cs t, o.dst = some d ∧ ow.cs = some cs ∧ ow.giv = false ∧ (∀ i ∈ idsL cs, live st i) ∧ x.ids = [d] ∧
  (execOp a.eval o).run P w = .ok (.value (x.den (upd bk d w.heap.size))) (w.alloc (.cells (denL bk cs).toArray t (0, 0)))
set_option maxHeartbeats 1000000 in
theorem res_new {obs : List (Ob S.ty)} {ow : Own S.ty} {x : SV S.ty} (h : Rep c F st bk a w u) (hl : Labs a lab) (hr : res P st lab o = .new obs ow x) (ho : ∀ p ∈ obs, p.den) : NewIs P o a w st bk ow x := by
 obtain ⟨dst, op, ty, pos, after, guard⟩ := o
 unfold res at hr
 unfold NewIs
 simp only at hr ⊢
 split at hr
 case h_4 t =>
  split at hr
  ·rename_i z d hz
   split at hr <;> cases hr
   refine ⟨d, _, t, rfl, rfl, rfl, ?_, rfl, ?_⟩
   ·rw [cells_ids, (ofVal_den bk z).2]; simp
   ·simp only [execOp, Instr.alloc, Sem.run_bind, run_zeroB hz, Result.andThen_ok, newVar, run_newRow, SV.den, upd, if_true, ofVal_cells]
    simp
  ·cases hr
 case h_5 t y =>
  split at hr
  ·rename_i y' d hy
   split at hr
   ·rename_i obs' hob
    split at hr <;> cases hr
    have h1 := ev_ok h hl hy
    refine ⟨d, _, t, rfl, rfl, rfl, fun i hi => h1.2 i (by rwa [cells_ids] at hi), rfl, ?_⟩
    simp only [execOp, h1.1, Instr.box, Sem.run_bind, Result.andThen_ok, newVar, run_newRow, SV.den, upd, if_true, boxObs_ok bk hob ho]
    simp
   ·cases hr
  ·cases hr
 case h_7 t len ps =>
  split at hr
  ·split at hr <;> cases hr
  split at hr
  ·rename_i e xs d hu hps
   split at hr
   ·rename_i z n hz hn
    split at hr
    ·rename_i hc
     split at hr <;> cases hr
     rename_i cs hf hob
     have hpo := parts_ok h hl hps
     have hfill := fillRow_ok bk xs _ _ _ hf hob ho
     have hid : ∀ (m : Nat), idsL (List.replicate m (ofVal z : SV S.ty).cells).flatten = [] := fun m => by
      induction m with
      | zero => rfl
      | succ m ih => rw [List.replicate_succ, List.flatten_cons, idsL_app, ih, cells_ids, (ofVal_den bk z).2]; rfl
     refine ⟨d, cs, e, rfl, rfl, rfl, fun i hi => ?_, rfl, ?_⟩
     ·rcases hfill.2.2 i hi with hi | ⟨p, hp', hi⟩
      ·rw [hid] at hi; cases hi
      ·exact hpo.2 p hp' i hi
     ·have e1 : (ps.map fun x => match x with | (i, x) => (i, a.eval x)).toList = xs.map (fun p => (p.1, p.2.den bk)) := by rw [← hpo.1]; simp
      have hzs : z.cells.size = n := by
       have := congrArg List.length (ofVal_cells bk z)
       rw [denL_len] at this
       simp at this; omega
      have e2 : ((Array.range (len * n)).map fun i => z.cells[i % z.cells.size]!) = (denL bk (List.replicate len (ofVal z : SV S.ty).cells).flatten).toArray := by
       rw [denL_flat, ofVal_cells, ← range_rep z.cells n hzs len]
       apply Array.ext'
       simp
      have hlt : ¬ len * n > 2 ^ 24 := by have := hc.2.2.2; omega
      simp only [execOp, Instr.buildSlice, Sem.run_bind, run_underlying hu, Result.andThen_ok, run_sizeB hn, if_neg hlt, e1]
      by_cases h0 : len * n = 0
      ·have e3 : ((Array.range (len * n)).map fun i => (#[] : Array Value)[i % (#[] : Array Value).size]!) = (denL bk (List.replicate len (ofVal z : SV S.ty).cells).flatten).toArray := by rw [← e2, h0]; simp
       simp only [if_pos h0, Sem.run_bind, Result.andThen_ok, Sem.run_pure, e3, hfill.1, run_newRow, SV.den, upd, if_true]
      simp only [if_neg h0, Sem.run_bind, run_zeroB hz, Result.andThen_ok, Sem.run_pure, e2, hfill.1, run_newRow, SV.den, upd, if_true]
    ·cases hr
   ·cases hr
  ·cases hr
 case h_11 =>
  split at hr
  ·rename_i x y _ _
   rcases binRes_or (P := P) _ _ _ x y with h' | ⟨_, _, h'⟩ <;> (rw [h'] at hr; cases hr)
  ·cases hr
 all_goals (exfalso; revert hr; (repeat' split) <;> simp)
theorem res_uld {A : E S.ty .A} {k : E S.ty .N} {ag : Bool} {ks : List CK} (h : Rep c F st bk a w u) (hl : Labs a lab) (hr : res P st lab o = .uld A k ag ks) {x : Cells S.ty ks} {y : SV S.ty}
  (hx : Reads u A.den k.den (denL bk (cellsSV ks x))) (hy : pack ag (cellsSV ks x) = some y) : (execOp a.eval o).run P w = .ok (.value (y.den bk)) w := by
 obtain ⟨dst, op, ty, pos, after, guard⟩ := o
 unfold res at hr
 simp only at hr ⊢
 split at hr
 case h_8 t z =>
  split at hr
  ·split at hr
   ·split at hr <;> cases hr
   ·cases hr
  ·rename_i A' k' n hz hn
   split at hr <;> cases hr
   rename_i hk
   have h1 := ev_ok h hl hz
   obtain ⟨b, f, hA, hc⟩ := hx
   have hlen : (cellsSV (kinds P t) x).length = n := by
    rw [← hk.1, cellsSV_len]
   have hrun := run_loadV (P := P) (t := t) (b := b) (o := f + k.den) (w := w) (vs := denL bk (cellsSV (kinds P t) x)) (by rw [denL_len, hlen]; exact hn) (fun j v hv => h.sees _ _ _ (hc j v hv))
   simp only [execOp, h1.1, SV.den, hA, Option.map_some, addr_add, Instr.loadAt, Instr.sureAddr, Sem.run_bind, Sem.run_pure, Result.andThen_ok]
   rcases pack_ok (bk := bk) hy with ⟨ha, rfl⟩ | ⟨ha, hr3⟩
   ·rw [hrun.1 ha]; simp [SV.den]
   ·rw [hrun.2 ha (y.den bk) (by rw [hr3]; rfl)]; simp
  ·cases hr
 case h_11 =>
  split at hr
  ·rename_i x y _ _
   rcases binRes_or (P := P) _ _ _ x y with h' | ⟨_, _, h'⟩ <;> (rw [h'] at hr; cases hr)
  ·cases hr
 all_goals (exfalso; revert hr; (repeat' split) <;> simp)
theorem res_ust {obs : List (Ob S.ty)} {A : E S.ty .A} {k : E S.ty .N} {xs : List (SV S.ty)} (h : Rep c F st bk a w u) (hl : Labs a lab) (hr : res P st lab o = .ust obs A k xs) (ho : ∀ p ∈ obs, p.den)
  {b f : Nat} (hA : A.den = some ⟨b, f, none⟩) (hc : ∀ j, j < xs.length → (w.cell? ⟨b, f + k.den + j, none⟩).isSome = true) (hf : ∀ j, j < xs.length → w.frozen? ⟨b, f + k.den + j, none⟩ = false) :
  o.dst = none ∧ (execOp a.eval o).run P w = .ok .skip (w.setCells b (f + k.den) (denL bk xs)) := by
 obtain ⟨dst, op, ty, pos, after, guard⟩ := o
 unfold res at hr
 simp only at hr ⊢
 split at hr
 case h_9 t y x' =>
  split at hr
  ·split at hr
   ·split at hr
    ·split at hr <;> cases hr
    ·cases hr
   ·cases hr
  ·rename_i A' k' x n hy hx hn
   split at hr
   ·rename_i obs' hob
    split at hr <;> cases hr
    rename_i hlen
    have h1 := ev_ok h hl hy
    have h2 := ev_ok h hl hx
    refine ⟨rfl, ?_⟩
    have hone := oneObs_ok bk hob ho
    have hcells : (x.den bk).cells = (denL bk x.cells).toArray := by
     cases x <;> simp_all [SV.den, SV.cells, Value.cells, denL, oneObs, Value.oneCell']
     ·rename_i e; cases hv : E.den e <;> simp_all [Value.oneCell', Value.cells]
     ·rename_i v; cases v <;> simp_all [Value.oneCell', Value.cells]
    have := run_storeB (P := P) (t := t) (b := b) (off := f + k.den) (w := w) (vs := denL bk x.cells) (by rw [denL_len, hlen]; exact hn) hcells
     (fun j hj => hc j (by simpa [denL_len] using hj)) (fun j hj => hf j (by simpa [denL_len] using hj)) hone
    simp [execOp, h1.1, h2.1, SV.den, hA, addr_add, Sem.run_bind, this]
   ·cases hr
  ·cases hr
 case h_11 =>
  split at hr
  ·rename_i x y _ _
   rcases binRes_or (P := P) _ _ _ x y with h' | ⟨_, _, h'⟩ <;> (rw [h'] at hr; cases hr)
  ·cases hr
 all_goals (exfalso; revert hr; (repeat' split) <;> simp)
end
end Go.Proofs.YtpfbimkpcnnfkaaGreatDoor.Sx
