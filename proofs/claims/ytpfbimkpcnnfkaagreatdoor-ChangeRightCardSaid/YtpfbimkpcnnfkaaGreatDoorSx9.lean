/- Sx: one operation: the laws of stores, new blocks, loads from elsewhere, calls. Nothing of the program. -/
import Derived.Test.YtpfbimkpcnnfkaaGreatDoorSx6
import Derived.Laws.IdiomCopy
import Derived.Laws.CopyRow
/- Sx: one operation, whatever it does: it comes to a state that the symbolic one tells of. Nothing of the program. -/
/- Sx: every operation that only gives a value: the law. Nothing of the program. -/
set_option linter.unusedVariables false
set_option linter.unusedSimpArgs false
namespace Go.Proofs.YtpfbimkpcnnfkaaGreatDoor.Sx
open Go Go.Proofs.YtpfbimkpcnnfkaaGreatDoor
section
variable {P : Program} {c : Ctx} {F : Nat → Prop} {st : St S.ty} {bk : Nat → Nat} {a : Act} {w : World} {u : Mem} {lab : List (Nat × Bool)}
theorem bound_of (h : Rep c F st bk a w u) (hl : Labs a lab) {lo : Option Operand} {x : SV S.ty} {k : IntKind} {e : E S.ty .I} (he : (match lo with | some a => st.ev lab a | none => some (.i .i64 (.i 0))) = some x) (hx : x = .i k e) :
  BoundIs (lo.map a.eval) e.den 0 := by
 cases lo with
 | none => simp at he; subst he; cases hx; exact .inl ⟨rfl, rfl⟩
 | some v =>
  have := ev_ok h hl he
  subst hx
  exact .inr ⟨k, by simp [this.1, SV.den]⟩
set_option maxHeartbeats 1000000 in
theorem res_put {o : Oper} {obs : List (Ob S.ty)} {x : SV S.ty} (h : Rep c F st bk a w u) (hl : Labs a lab) (hr : res P st lab o = .put obs x) (ho : ∀ p ∈ obs, p.den) : Val P o a w st bk x := by
 obtain ⟨dst, op, ty, pos, after, guard⟩ := o
 unfold res at hr
 unfold Val
 simp only at hr ⊢
 split at hr
 ·-- move
  rename_i x'
  split at hr <;> cases hr
  rename_i he
  have := ev_ok h hl he
  exact ⟨by simp [execOp, this.1], this.2⟩
 ·-- assign
  rename_i x'
  split at hr <;> cases hr
  rename_i he
  have := ev_ok h hl he
  exact ⟨by simp [execOp, this.1], this.2⟩
 ·-- pick
  rename_i cn x' y'
  split at hr <;> cases hr
  rename_i e ex ey h1 h2 h3
  have hc := ev_ok h hl h1
  simp only [SV.den] at hc
  have hcl : ∀ b : Bool, e.den = b → Labs a ((cn, b) :: lab) := fun b hb l hl' => by
   rcases List.mem_cons.1 hl' with rfl | hl'
   ·exact hc.1.trans (by rw [hb])
   ·exact hl l hl'
  refine ⟨?_, by simp [SV.ids]⟩
  simp only [execOp, hc.1, asBool, Sem.run_bind, Sem.run_pure, Result.andThen_ok, SV.den, E.den]
  cases hb : e.den
  ·have := (ev_ok h (hcl false hb) h3).1
   simp only [SV.den] at this
   simp [this]
  ·have := (ev_ok h (hcl true hb) h2).1
   simp only [SV.den] at this
   simp [this]
 ·-- alloc
  split at hr
  ·split at hr <;> cases hr
  ·cases hr
 ·split at hr
  ·split at hr
   ·split at hr <;> cases hr
   ·cases hr
  ·cases hr
 ·-- build
  rename_i t ps
  split at hr
  ·rename_i fs z xs hu hz hp
   split at hr
   ·cases hr
   ·rename_i hall
    split at hr <;> cases hr
    rename_i cs hf hb
    have hpo := parts_ok h hl hp
    have hall' : ∀ f ∈ fs.toList, ∃ n, sizeB P f.type = some n := by
     intro f hf
     have : (fs.toList.all fun f => (sizeB P f.type).isSome) = true := by cases hh : (fs.toList.all fun f => (sizeB P f.type).isSome) <;> simp_all
     have := List.all_eq_true.1 this f hf
     exact Option.isSome_iff_exists.1 this
    let g : Field → Nat × Nat := fun f => (f.offset, (sizeB P f.type).getD 0)
    have hm : ∀ w : World, (fs.mapM fun f => do pure (f.offset, ← sizeOf f.type) : Sem (Array (Nat × Nat))).run P w = .ok (fs.map g) w := fun w => run_mapM _ g w fs fun f hf => by
     obtain ⟨n, hn⟩ := hall' f (by simpa using hf)
     simp [Sem.run_bind, run_sizeB hn, g, hn]
    have hfill := fill_ok (P := P) bk (f := fun i => (fs.map g)[i]?) (t := t) (by
     intro i off ft n h1 h2
     obtain ⟨fs', x, e1, e2, e3, e4⟩ := fieldB_spec h1
     rw [hu] at e1; cases e1
     simp [e2, g, e3, e4, h2]) xs _ _ _ hf hb ho
    rw [ofVal_cells] at hfill
    have hid : idsL (ofVal z : SV S.ty).cells = [] := by rw [cells_ids, (ofVal_den bk z).2]
    refine ⟨?_, fun i hi => ?_⟩
    ·have e0 : (ps.map fun p => (p.1, a.eval p.2)).toList = xs.map (fun p => (p.1, p.2.den bk)) := by rw [← hpo.1]; simp
     have e1 : (ps.map fun x => match x with | (i, x) => (i, a.eval x)).toList = xs.map (fun p => (p.1, p.2.den bk)) := e0
     simp only [execOp, Instr.build, Sem.run_bind, run_zeroB hz, Result.andThen_ok, run_underlying hu, hm, e1]
     have := hfill.1
     simp only [Array.toArray_toList] at this
     rw [this]
     simp [SV.den]
    ·simp only [SV.ids] at hi
     rcases hfill.2.2 i hi with hi | ⟨p, hp', hi⟩
     ·rw [hid] at hi; cases hi
     ·exact hpo.2 p hp' i hi
  ·cases hr
 ·-- buildSlice
  split at hr
  ·split at hr <;> cases hr
  split at hr
  ·split at hr
   ·split at hr
    ·split at hr <;> cases hr
    ·cases hr
   ·cases hr
  ·cases hr
 ·-- load
  rename_i t x'
  split at hr
  ·rename_i id off n he hn
   split at hr
   ·rename_i cs hcs
    split at hr <;> cases hr
    rename_i y hy
    obtain ⟨r, hcut, hpk⟩ := Option.bind_eq_some_iff.1 hy
    have hx := ev_ok h hl he
    obtain ⟨ow, how, hocs⟩ := Option.bind_eq_some_iff.1 hcs
    have hok := h.own id ow cs how hocs
    obtain ⟨hr1, hr2⟩ := cut_ok hcut
    have hlen : (denL bk r).length = n := by rw [denL_len, hr1]; simp; omega
    have hcell : ∀ j v, (denL bk r)[j]? = some v → w.cell? ⟨bk id, off + j, none⟩ = some v := by
     intro j v hv
     rw [has_cell hok.has]
     rw [hr1, denL_take, denL_drop, List.getElem?_take] at hv
     split at hv
     ·rwa [List.getElem?_drop] at hv
     ·cases hv
    have hrun := run_loadV (P := P) (t := t) (vs := denL bk r) (by rw [hlen]; exact hn) hcell
    refine ⟨?_, fun i hi => hok.live i (idsL_sub i (hr1 ▸ pack_ids hpk i hi))⟩
    simp only [execOp, hx.1, SV.den, Instr.loadAt, Instr.sureAddr, Sem.run_bind, Sem.run_pure, Result.andThen_ok]
    rcases pack_ok (bk := bk) hpk with ⟨ha, rfl⟩ | ⟨ha, hr3⟩
    ·rw [hrun.1 ha]; simp [SV.den]
    ·rw [hrun.2 ha (x.den bk) (by rw [hr3]; rfl)]; simp
   ·cases hr
  ·split at hr <;> cases hr
  ·cases hr
 ·-- store
  split at hr
  ·split at hr
   ·split at hr
    ·split at hr <;> cases hr
    ·cases hr
   ·cases hr
  ·split at hr
   ·split at hr <;> cases hr
   ·cases hr
  ·cases hr
 ·-- nilCheck
  rename_i x'
  split at hr <;> cases hr
  ·rename_i id off he
   have hx := ev_ok h hl he
   refine ⟨?_, hx.2⟩
   simp [execOp, hx.1, SV.den]
  ·rename_i A k he
   have hx := ev_ok h hl he
   have := ho (.here A) (by simp)
   simp only [Ob.den] at this
   obtain ⟨p, hp⟩ := Option.isSome_iff_exists.1 this
   refine ⟨?_, by simp [SV.ids]⟩
   simp [execOp, hx.1, SV.den, hp]
  ·rename_i f l r he
   have hx := ev_ok h hl he
   refine ⟨?_, hx.2⟩
   simp [execOp, hx.1, SV.den]
  ·rename_i e he
   have hx := ev_ok h hl he
   have := ho (.here (.ptr e)) (by simp)
   simp only [Ob.den, E.den] at this
   obtain ⟨p, hp⟩ := Option.isSome_iff_exists.1 this
   have hpe : e.den = .pointer (some p) := by
    unfold ptrOf at hp
    split at hp
    ·rename_i a ha; rw [ha, hp]
    ·cases hp
   refine ⟨?_, by simp [SV.ids]⟩
   simp [execOp, hx.1, SV.den, E.den, hpe, ptrOf, Addr.add]
 ·-- binOp
  rename_i b t x' y' _
  split at hr
  ·rename_i l r h1 h2
   have hx := ev_ok h hl h1
   have hy := ev_ok h hl h2
   have := binRes_ok (P := P) (bk := bk) (w := w) hr ho
   refine ⟨?_, by rw [this.2]; simp⟩
   simp only [execOp, hx.1, hy.1, Sem.run_bind, this.1.1, this.1.2, Result.andThen_ok]
   simp
  ·cases hr
 ·-- unOp
  rename_i un _ x'
  split at hr <;> cases hr
  ·rename_i e he
   have hx := ev_ok h hl he
   refine ⟨?_, by simp [SV.ids]⟩
   simp [execOp, hx.1, SV.den, Op.unary, E.den]
  ·rename_i k e he
   have hx := ev_ok h hl he
   refine ⟨?_, by simp [SV.ids]⟩
   simp [execOp, hx.1, SV.den, Op.unary, E.den, Op.intArith, binI]
 ·-- convert
  rename_i s d x'
  split at hr <;> cases hr
  ·rename_i k0 k1 k e hs hd he
   have hx := ev_ok h hl he
   refine ⟨?_, by simp [SV.ids]⟩
   simp [execOp, hx.1, SV.den, Sem.run_bind, conv_int hs hd, E.den]
  ·rename_i e hs hd he
   have hx := ev_ok h hl he
   refine ⟨?_, by simp [SV.ids]⟩
   simp [execOp, hx.1, SV.den, Sem.run_bind, conv_str hs hd]
 ·-- makeSlice
  split at hr <;> cases hr
 ·-- makeInterface
  rename_i t x'
  split at hr <;> cases hr
  rename_i d y hni hu he
  have hx := ev_ok h hl he
  refine ⟨?_, by simpa [SV.ids] using hx.2⟩
  simp only [execOp, hx.1, Instr.makeInterface, Sem.run_bind, run_underlying hu, Result.andThen_ok, SV.den]
  cases d <;> first | rfl | exact absurd rfl (hni _ ·)
 ·-- makeFunc
  rename_i f xs ys
  split at hr <;> cases hr
  rename_i l r h1 h2
  have hx := evs_ok h hl h1
  have hy := evs_ok h hl h2
  refine ⟨?_, fun i hi => ?_⟩
  ·have e1 : xs.map a.eval = (denL bk l).toArray := by rw [← hx.1, ← Array.toList_map, Array.toArray_toList]
   have e2 : ys.map a.eval = (denL bk r).toArray := by rw [← hy.1, ← Array.toList_map, Array.toArray_toList]
   simp only [execOp, Instr.makeFunc, e1, e2, SV.den]
   simp
  ·simp only [SV.ids, List.mem_append] at hi
   exact hi.elim (hx.2 i) (hy.2 i)
 ·-- slice
  rename_i t x' lo hi
  split at hr
  ·rename_i e k l h1 h2 h3 h4
   cases hr
   have hx := ev_ok h hl h2
   have hb := bound_of h hl h3 rfl
   have := ho (.bnds l (.len e) (.len e)) (by simp)
   simp only [Ob.den, E.den] at this
   have hhi : hi = none := by cases hi <;> simp_all
   subst hhi
   refine ⟨?_, by simp [SV.ids]⟩
   have hs := slice_str (hi := none) h1 hb (.inl ⟨rfl, rfl⟩) this.1 this.2.1 this.2.2 w
   simp only [execOp, hx.1, SV.den, Option.map_none, Sem.run_bind, hs, Result.andThen_ok, E.den, mkNat_den]
   simp
  ·rename_i e k l kk hh h1 h2 h3 h4
   cases hr
   have hx := ev_ok h hl h2
   have hb := bound_of h hl h3 rfl
   have := ho (.bnds l hh (.len e)) (by simp)
   simp only [Ob.den, E.den] at this
   obtain ⟨v, rfl, hv⟩ : ∃ v, hi = some v ∧ st.ev lab v = some (.i kk hh) := by cases hi <;> simp_all
   have hvv := ev_ok h hl hv
   refine ⟨?_, by simp [SV.ids]⟩
   have hs := slice_str (hi := some (a.eval v)) h1 hb (.inr ⟨kk, by rw [hvv.1]; rfl⟩) this.1 this.2.1 this.2.2 w
   simp only [execOp, hx.1, SV.den, Option.map_none, Option.map_some, Sem.run_bind, hs, Result.andThen_ok, E.den, mkNat_den]
   simp
  ·rename_i el A n cp k l h1 h2 h3 h4
   split at hr <;> cases hr
   rename_i sz hsz
   have hx := ev_ok h hl h2
   have hb := bound_of h hl h3 rfl
   have := ho (.bnds l (.ofN n) (.ofN cp)) (by simp)
   simp only [Ob.den, E.den] at this
   have hhi : hi = none := by cases hi <;> simp_all
   subst hhi
   refine ⟨?_, by simp [SV.ids]⟩
   have hs := slice_sl (A := A.den) (hi := none) h1 hsz hb (.inl ⟨rfl, rfl⟩) this.1 this.2.1 this.2.2 w
   simp only [execOp, hx.1, SV.den, Option.map_none, Sem.run_bind, hs, Result.andThen_ok, E.den, mkNat_den]
   simp
  ·rename_i el A n cp k l kk hh h1 h2 h3 h4
   split at hr <;> cases hr
   rename_i sz hsz
   have hx := ev_ok h hl h2
   have hb := bound_of h hl h3 rfl
   have := ho (.bnds l hh (.ofN cp)) (by simp)
   simp only [Ob.den, E.den] at this
   obtain ⟨v, rfl, hv⟩ : ∃ v, hi = some v ∧ st.ev lab v = some (.i kk hh) := by cases hi <;> simp_all
   have hvv := ev_ok h hl hv
   refine ⟨?_, by simp [SV.ids]⟩
   have hs := slice_sl (A := A.den) (n := n.den) (hi := some (a.eval v)) h1 hsz hb (.inr ⟨kk, by rw [hvv.1]; rfl⟩) this.1 this.2.1 this.2.2 w
   simp only [execOp, hx.1, SV.den, Option.map_none, Option.map_some, Sem.run_bind, hs, Result.andThen_ok, E.den, mkNat_den]
   simp
  ·cases hr
 ·-- fieldAddr
  rename_i s x' f
  split at hr
  ·rename_i off ft id k hf he
   split at hr <;> cases hr
   rename_i n hn
   have hx := ev_ok h hl he
   obtain ⟨fs, y, h1, h2, rfl, rfl⟩ := fieldB_spec hf
   refine ⟨?_, hx.2⟩
   simp only [execOp, hx.1, SV.den, Instr.fieldAt, Sem.run_bind, run_underlying h1, Result.andThen_ok, h2, Instr.sureAddr, Sem.run_pure, run_fieldPlace hn, addr_add]
  ·rename_i off ft A k hf he
   split at hr <;> cases hr
   rename_i n hn
   have hx := ev_ok h hl he
   obtain ⟨fs, y, h1, h2, rfl, rfl⟩ := fieldB_spec hf
   have := ho (.here A) (by simp)
   simp only [Ob.den] at this
   obtain ⟨p, hp⟩ := Option.isSome_iff_exists.1 this
   refine ⟨?_, by simp [SV.ids]⟩
   simp only [execOp, hx.1, SV.den, Instr.fieldAt, Sem.run_bind, run_underlying h1, Result.andThen_ok, h2, hp, Option.map_some, Instr.sureAddr, Sem.run_pure, run_fieldPlace hn, add_add, E.den, Nat.add_eq]
  ·cases hr
 ·-- field
  rename_i t x' f
  split at hr
  ·rename_i off ft l hf he
   split at hr
   ·rename_i n hn
    split at hr <;> cases hr
    rename_i y hy
    obtain ⟨r, hcut, hpk⟩ := Option.bind_eq_some_iff.1 hy
    obtain ⟨hr1, hr2⟩ := cut_ok hcut
    have hx := ev_ok h hl he
    obtain ⟨fs, z, h1, h2, rfl, rfl⟩ := fieldB_spec hf
    have hlive : ∀ i ∈ x.ids, live st i := fun i hi => hx.2 i (by simpa [SV.ids] using idsL_sub i (hr1 ▸ pack_ids hpk i hi))
    refine ⟨?_, hlive⟩
    simp only [execOp, hx.1, SV.den, Instr.field, Sem.run_bind, run_underlying h1, Result.andThen_ok, h2, asAgg, Sem.run_pure, part, run_aggB hn]
    rcases pack_ok (bk := bk) hpk with ⟨ha, rfl⟩ | ⟨ha, hr3⟩
    ·simp only [ha, if_true, Sem.run_bind, run_sizeB hn, Result.andThen_ok, Sem.run_pure, SV.den, hr1, denL_take, denL_drop]
     simp
    ·have hg : (denL bk l)[z.offset]? = some (x.den bk) := by
      have e : (denL bk r)[0]? = some (x.den bk) := by rw [hr3]; rfl
      rw [hr1, denL_take, denL_drop, List.getElem?_take] at e
      split at e
      ·rw [List.getElem?_drop] at e; simpa using e
      ·cases e
     simp [ha, hg]
   ·cases hr
  ·cases hr
 ·-- indexAddr
  rename_i t x' i'
  split at hr
  ·rename_i el A n cp k e h1 h2 h3
   split at hr <;> cases hr
   rename_i sz hsz
   have hx := ev_ok h hl h2
   have hi := ev_ok h hl h3
   have := ho (.idx e n A) (by simp)
   simp only [Ob.den] at this
   obtain ⟨p, hp⟩ := Option.isSome_iff_exists.1 this.2.2
   refine ⟨?_, by simp [SV.ids]⟩
   simp only [execOp, hx.1, hi.1, SV.den, hp, Sem.run_bind, run_indexAt h1 hsz this.1 this.2.1, Result.andThen_ok, Option.map_some, E.den, mkNat_den, Nat.mul_eq]
   simp
  ·rename_i el id off len cp k j h1 h2 h3
   split at hr
   ·rename_i sz hsz
    split at hr <;> cases hr
    rename_i hj
    have hx := ev_ok h hl h2
    have hi := ev_ok h hl h3
    refine ⟨?_, by simpa [SV.ids] using hx.2⟩
    simp only [execOp, hx.1, hi.1, SV.den, E.den, Sem.run_bind, run_indexAt h1 hsz hj.1 hj.2, Result.andThen_ok, addr_add]
    simp
   ·cases hr
  ·cases hr
 ·-- index
  rename_i t x' i'
  split at hr <;> cases hr
  rename_i e k j h1 h2 h3
  have hx := ev_ok h hl h2
  have hi := ev_ok h hl h3
  have := ho (.byte j e) (by simp)
  simp only [Ob.den] at this
  refine ⟨?_, by simp [SV.ids]⟩
  simp only [execOp, hx.1, hi.1, SV.den, Sem.run_bind, run_index h1 this.1 this.2, Result.andThen_ok, E.den]
  simp
 ·-- extract
  rename_i x' i'
  split at hr
  ·rename_i l he
   split at hr <;> cases hr
   rename_i hi
   have hx := ev_ok h hl he
   have e : (denL bk l)[i']? = some (x.den bk) := by rw [denL_eq, List.getElem?_map, hi]; rfl
   refine ⟨?_, fun i hi' => hx.2 i (by simp only [SV.ids]; exact mem_idsL.2 ⟨x, mem_head hi, hi'⟩)⟩
   simp [execOp, hx.1, SV.den, Instr.extract, e]
  ·cases hr
 ·-- call
  rename_i cl
  split at hr
  ·cases hr
  ·rename_i args hargs
   have hx := evs_ok h hl hargs
   have e1 : cl.args.map a.eval = (denL bk args).toArray := by rw [← hx.1, ← Array.toList_map, Array.toArray_toList]
   split at hr
   ·rename_i b hcb
    split at hr <;> cases hr
    ·rename_i e hu
     refine ⟨?_, by simp [SV.ids]⟩
     simp only [execOp, resolve, hcb, e1, Sem.run_bind, Sem.run_pure, Result.andThen_ok, invoke, builtin, denL, SV.den, len_str hu, E.den]
    ·rename_i el A n cp hu
     refine ⟨?_, by simp [SV.ids]⟩
     simp only [execOp, resolve, hcb, e1, Sem.run_bind, Sem.run_pure, Result.andThen_ok, invoke, builtin, denL, SV.den, len_sl hu, E.den]
    ·rename_i el id off n cp hu
     refine ⟨?_, by simp [SV.ids]⟩
     simp only [execOp, resolve, hcb, e1, Sem.run_bind, Sem.run_pure, Result.andThen_ok, invoke, builtin, denL, SV.den, len_sl hu, E.den]
    ·rename_i el A n cp hu
     refine ⟨?_, by simp [SV.ids]⟩
     simp only [execOp, resolve, hcb, e1, Sem.run_bind, Sem.run_pure, Result.andThen_ok, invoke, builtin, denL, SV.den, cap_sl hu, E.den]
   ·split at hr
    ·split at hr
     ·split at hr
      ·cases hr
      ·split at hr <;> cases hr
     ·cases hr
    ·cases hr
   ·cases hr
 ·cases hr
end
end Go.Proofs.YtpfbimkpcnnfkaaGreatDoor.Sx
set_option linter.unusedVariables false
set_option linter.unusedSimpArgs false
namespace Go.Proofs.YtpfbimkpcnnfkaaGreatDoor.Sx
open Go Go.Proofs.YtpfbimkpcnnfkaaGreatDoor
section
variable {P : Program} {c : Ctx} {F : Nat → Prop} {st : St S.ty} {bk : Nat → Nat} {a : Act} {w : World} {u : Mem} {lab : List (Nat × Bool)}
theorem mkAnd_den (x y : E S.ty .B) : (mkAnd x y).den = (x.den && y.den) := by
 unfold mkAnd
 split
 ·simp [E.den]
 ·simp only [E.den]; cases E.den x <;> cases E.den y <;> rfl
theorem mkLit_den (e : E S.ty .B) (b : Bool) : (mkLit e b).den = true ↔ e.den = b := by
 unfold mkLit
 cases b
 ·simp only [Bool.false_eq_true, if_false, E.den]; cases E.den e <;> simp
 ·simp
theorem guard_spec {ops : List Oper} {o : Oper} {g : E S.ty .B} (h : Rep c F st bk a w u) (hg : guardOf ops st o = some (lab, g))
  (hd : ∀ e ∈ o.after, Region.binds .any e = true → ∀ t, (ops[e.on]?).bind (·.dst) = some t → ¬ F t) :
  (g.den = true ↔ Labs a lab) ∧ Region.wanted o (yielded ops.toArray a.tmps) = g.den ∧ (∀ l ∈ lab, ¬ F l.1) := by
 unfold guardOf at hg
 split at hg
 ·rename_i hn
  cases hg
  exact ⟨by simp [E.den, Labs], by simp [Region.wanted, hn, E.den], by simp⟩
 ·rename_i j b hn
  split at hg
  ·rename_i t ht
   split at hg
   ·rename_i he
    split at hg
    ·rename_i lab' wv e hst
     cases hg
     have ho := h.ent t _ hst
     have hF : ¬ F t := by
      obtain ⟨x, hx, hb⟩ := Array.any_eq_true'.1 he
      rw [Bool.and_eq_true, beq_iff_eq] at hb
      exact hd x hx hb.1 t (by rw [hb.2]; exact ht)
     have hyes := ho.yes
     simp only [SV.den] at hyes
     have hlab : (mkAnd wv (mkLit e b)).den = true ↔ Labs a ((t, b) :: lab') := by
      rw [mkAnd_den, Bool.and_eq_true, mkLit_den]
      constructor
      ·rintro ⟨h1, h2⟩ l hl
       rcases List.mem_cons.1 hl with rfl | hl
       ·rw [hyes h1, h2]
       ·exact (ho.lab.1 h1) l hl
      ·intro hl
       have h1 : wv.den = true := ho.lab.2 fun l hl' => hl l (List.mem_cons_of_mem _ hl')
       have h2 := hl (t, b) List.mem_cons_self
       rw [hyes h1] at h2
       exact ⟨h1, by simpa using h2⟩
     refine ⟨hlab, ?_, ?_⟩
     ·have hy : Region.wanted o (yielded ops.toArray a.tmps) = true ↔ a.tmps.getD t undef = .bool b := by
       simp only [Region.wanted, hn, yielded, List.getElem?_toArray, ht, Option.bind_some, beq_iff_eq, Array.getD_eq_getD_getElem?]
       cases hx : a.tmps[t]? with
       | none => simp [undef]
       | some v => cases v <;> simp
      rw [Bool.eq_iff_iff, hy, hlab]
      constructor
      ·intro hb
       have h1 : wv.den = true := by
        cases hw : wv.den with
        | true => rfl
        | false => rw [ho.no hw] at hb; simp [undef] at hb
       intro l hl
       rcases List.mem_cons.1 hl with rfl | hl
       ·exact hb
       ·exact ho.lab.1 h1 l hl
      ·intro hl; exact hl (t, b) List.mem_cons_self
     ·intro l hl
      rcases List.mem_cons.1 hl with rfl | hl
      ·exact hF
      ·exact ho.far l hl
    ·cases hg
   ·cases hg
  ·cases hg
def Nxt (c : Ctx) (F : Nat → Prop) (K : St S.ty → (Nat → Nat) → Mem → Prop) (a : Act) (w : World) : Prop := ∃ st bk u, Rep c F st bk a w u ∧ K st bk u
def Op1 (P : Program) (ops : List Oper) (o : Oper) (K : Act → World → Prop) (Q : Exit → Act → World → Prop) (a : Act) (w : World) : Prop :=
 if Region.wanted o (yielded ops.toArray a.tmps) then o.wp P a w K Q else K (a.put o.dst undef) w
theorem Rep.putE {d : Option Tmp} {g : E S.ty .B} {x : SV S.ty} {v : Value} (h : Rep c F st bk a w u) (hF : ∀ t, d = some t → F t) (hfx : ∀ t, d = some t → ¬ c.fx t) (hlab : g.den = true ↔ Labs a lab) (hfar : ∀ l ∈ lab, ¬ F l.1)
  (hy : g.den = true → v = x.den bk) (hn : g.den = false → v = undef) (hl : g.den = true → ∀ i ∈ x.ids, live st i) : Rep c (fun t => F t ∧ d ≠ some t) (st.put d ⟨lab, g, x⟩) bk (a.put d v) w u :=
 h.put hF hfx hlab (fun l hl' t ht e => hfar l hl' (e ▸ hF t ht)) (fun l hl' t ht hd e => hfar l hl' (e ▸ ht)) hy hn hl
theorem blk_setOwn (st : St S.ty) (i : Nat) (o : Option (Own S.ty)) (j : Nat) : (st.setOwn i o).blk j = if j = i ∧ i < st.own.length then o else st.blk j := by
 simp only [St.blk, St.setOwn, List.getElem?_set]
 by_cases h : i = j
 ·subst h
  by_cases h1 : i < st.own.length
  ·simp [h1]
  ·simp [h1, List.getElem?_eq_none (Nat.le_of_not_lt h1)]
 ·have : ¬ j = i := fun e => h e.symm
  simp [h, this]
theorem blk_lt {st : St S.ty} {i : Nat} {o : Own S.ty} (h : st.blk i = some o) : i < st.own.length := by
 unfold St.blk at h
 rcases Nat.lt_or_ge i st.own.length with h1 | h1
 ·exact h1
 ·rw [List.getElem?_eq_none h1] at h; cases h
theorem has_lt {b : Nat} {cs : List Value} (h : Has w b cs) : b < w.heap.size := by
 obtain ⟨t, h⟩ := h
 rcases Nat.lt_or_ge b w.heap.size with h1 | h1
 ·exact h1
 ·rw [Array.getElem?_eq_none h1] at h; cases h
theorem Has.block {w w' : World} {b : Nat} {cs : List Value} (h : Has w b cs) (e : w'.heap[b]? = w.heap[b]?) : Has w' b cs := by
 obtain ⟨t, h⟩ := h; exact ⟨t, e.trans h⟩
theorem cell_lt {b o : Nat} {v : Value} (h : w.cell? ⟨b, o, none⟩ = some v) : b < w.heap.size := by
 unfold World.cell? at h
 rcases Nat.lt_or_ge b w.heap.size with h1 | h1
 ·exact h1
 ·simp [Array.getElem?_eq_none h1] at h
theorem cell_eq {w w' : World} {b o : Nat} (e : w'.heap[b]? = w.heap[b]?) : w'.cell? ⟨b, o, none⟩ = w.cell? ⟨b, o, none⟩ := by
 unfold World.cell?; simp only [e]
theorem plain_eq {w w' : World} {b : Nat} (e : w'.heap[b]? = w.heap[b]?) (h : Plain w b) : Plain w' b := by
 obtain ⟨c, t, h⟩ := h; exact ⟨c, t, e.trans h⟩
theorem Rep.world {w' : World} {B : Nat → Prop} (h : Rep c F st bk a w u) (hg : Gro B w w') (h1 : ∀ b, B b → c.w0.heap.size ≤ b) (h2 : ∀ b o, u b o ≠ none → ¬ B b) (h3 : ∀ id cs, st.cells id = some cs → ¬ B (bk id)) : Rep c F st bk a w' u := by
 have hb : ∀ b o, u b o ≠ none → w'.heap[b]? = w.heap[b]? := fun b o hu => by
  obtain ⟨v, hv⟩ := Option.ne_none_iff_exists'.1 hu
  exact hg.block b (cell_lt (h.sees b o v hv)) (h2 b o hu)
 refine ⟨h.defers, h.size, h.ent, fun id o cs ho hc => ?_, h.apart, fun b o v hv => ?_, fun b o hu => ?_, h.ngiv, ?_, h.le, h.lt, h.fix, h.fixb, h.sz⟩
 ·have hok := h.own id o cs ho hc
  refine ⟨hok.has.block (hg.block _ (has_lt hok.has) (h3 id cs (by simp [St.cells, ho, hc]))), hok.out, hok.giv, hok.live⟩
 ·rw [cell_eq (hb b o (by rw [hv]; simp))]; exact h.sees b o v hv
 ·exact ⟨(h.old b o hu).1.imp (fun h => h) fun h4 => ⟨h4.1, plain_eq (hb b o hu) h4.2⟩, (h.old b o hu).2⟩
 ·exact ⟨hg.os.trans h.gro.os, hg.tape.trans h.gro.tape, hg.output.trans h.gro.output, Nat.le_trans h.gro.size hg.size, fun k hk hB => (hg.block k (Nat.lt_of_lt_of_le hk h.gro.size) (fun hb' => by have := h1 k hb'; omega)).trans (h.gro.block k hk hB)⟩
theorem Rep.drew (h : Rep c F st bk a w u) : Rep c F st bk a w.drew u := h.world (B := fun _ => False) ((Gro.refl _ w).drew) (fun _ h => h.elim) (fun _ _ _ h => h) (fun _ _ _ h => h)
end
end Go.Proofs.YtpfbimkpcnnfkaaGreatDoor.Sx
set_option linter.unusedVariables false
set_option linter.unusedSimpArgs false
namespace Go.Proofs.YtpfbimkpcnnfkaaGreatDoor.Sx
open Go Go.RowKit Go.Proofs.YtpfbimkpcnnfkaaGreatDoor
section
variable {P : Program} {c : Ctx} {F : Nat → Prop} {st : St S.ty} {bk : Nat → Nat} {a : Act} {w : World} {u : Mem} {lab : List (Nat × Bool)} {K : St S.ty → (Nat → Nat) → Mem → Prop} {Q : Exit → Act → World → Prop} {ops : List Oper} {o : Oper}
theorem oneObs_ok (bk : Nat → Nat) : ∀ {l : List (SV S.ty)} {obs : List (Ob S.ty)}, oneObs l = some obs → (∀ p ∈ obs, p.den) → ∀ v ∈ denL bk l, v.oneCell' = true
 | [], _, _, _ => by simp [denL]
 | x :: r, obs, h, ho => by
  simp only [oneObs] at h
  split at h
  ·cases h
  ·rename_i l hl
   intro v hv
   simp only [denL, List.mem_cons] at hv
   have hrec : ∀ l' : List (Ob S.ty), (∀ p ∈ l, p ∈ l') → (∀ p ∈ l', p.den) → ∀ v ∈ denL bk r, v.oneCell' = true := fun l' h1 h2 => oneObs_ok bk hl fun p hp => h2 p (h1 p hp)
   cases x <;> simp only [Option.some.injEq, reduceCtorEq] at h
   case v e =>
    subst h
    rcases hv with rfl | hv
    ·have := ho (.one e) (by simp); simpa [Ob.den, SV.den] using this
    ·exact hrec _ (fun p hp => List.mem_cons_of_mem _ hp) ho v hv
   case lit z =>
    split at h <;> cases h
    rename_i hz
    rcases hv with rfl | hv
    ·simpa [SV.den] using hz
    ·exact hrec _ (fun p hp => hp) ho v hv
   all_goals
    subst h
    rcases hv with rfl | hv
    ·simp [SV.den, Value.oneCell']
    ·exact hrec _ (fun p hp => hp) ho v hv
theorem run_storeB {t : TypeId} {b off : Nat} {v : Value} {vs : List Value} (hn : sizeB P t = some vs.length) (hv : v.cells = vs.toArray) (hc : ∀ j, j < vs.length → (w.cell? ⟨b, off + j, none⟩).isSome = true) (hf : ∀ j, j < vs.length → w.frozen? ⟨b, off + j, none⟩ = false)
  (h1 : ∀ v ∈ vs, v.oneCell' = true) : (Instr.storeAt t (.pointer (some ⟨b, off, none⟩)) v).run P w = .ok () (w.setCells b off vs) := by
 have hs := run_storeCells_cells (P := P) b off vs 0 w (by simpa using hc) (by simpa using hf) h1
 simp only [Nat.add_zero] at hs
 simp [Instr.storeAt, Instr.sureAddr, storeVar, Sem.run_bind, run_sizeB hn, hv, hs]
theorem setCells_other (b : Nat) : ∀ (vs : List Value) (o : Nat) (w : World) (k : Nat), k ≠ b → (w.setCells b o vs).heap[k]? = w.heap[k]?
 | [], _, _, _, _ => rfl
 | v :: r, o, w, k, hk => by
  simp only [World.setCells]
  rw [setCells_other b r (o + 1) _ k hk]
  exact Below.heap_setCell w ⟨b, o, none⟩ v k hk
theorem setCells_size (b : Nat) : ∀ (vs : List Value) (o : Nat) (w : World), (w.setCells b o vs).heap.size = w.heap.size
 | [], _, _ => rfl
 | v :: r, o, w => by simp only [World.setCells]; rw [setCells_size b r]; simp [World.setCell]
theorem setCells_env (b : Nat) : ∀ (vs : List Value) (o : Nat) (w : World), (w.setCells b o vs).os = w.os ∧ (w.setCells b o vs).tape = w.tape ∧ (w.setCells b o vs).output = w.output
 | [], _, _ => ⟨rfl, rfl, rfl⟩
 | v :: r, o, w => by simp only [World.setCells]; exact setCells_env b r (o + 1) _
theorem setCells_has (b : Nat) : ∀ (vs : List Value) (o : Nat) (w : World) (cs : List Value), Has w b cs → o + vs.length ≤ cs.length → Has (w.setCells b o vs) b (cs.take o ++ vs ++ cs.drop (o + vs.length))
 | [], o, w, cs, h, _ => by simpa [World.setCells] using h
 | v :: r, o, w, cs, h, hl => by
  simp only [List.length_cons] at hl
  have h1 : Has (w.setCell ⟨b, o, none⟩ v) b (cs.set o v) := by
   obtain ⟨t, h⟩ := h
   exact ⟨t, by rw [blk_set h]; simp⟩
  have := setCells_has b r (o + 1) _ _ h1 (by simp; omega)
  simp only [World.setCells]
  have e : (cs.set o v).take (o + 1) ++ r ++ (cs.set o v).drop (o + 1 + r.length) = cs.take o ++ (v :: r) ++ cs.drop (o + (v :: r).length) := by
   rw [List.take_set, List.drop_set_of_lt (by omega), List.take_succ_eq_append_getElem (by omega)]
   have e : ((List.take o cs ++ [cs[o]]).set o v) = List.take o cs ++ [v] := by
    rw [List.set_append_right _ _ (by simp; omega)]
    simp [Nat.min_eq_left (show o ≤ cs.length by omega)]
   rw [e]
   simp [show o + 1 + r.length = o + (r.length + 1) by omega]
  rwa [e] at this
theorem setCells_cell (b : Nat) : ∀ (vs : List Value) (o : Nat) (w : World), (∀ j, j < vs.length → (w.cell? ⟨b, o + j, none⟩).isSome = true) → ∀ i, (w.setCells b o vs).cell? ⟨b, i, none⟩ = if o ≤ i ∧ i < o + vs.length then vs[i - o]? else w.cell? ⟨b, i, none⟩
 | [], o, w, _, i => by simp only [World.setCells, List.length_nil, Nat.add_zero]; rw [if_neg (by omega)]
 | v :: r, o, w, h, i => by
  simp only [World.setCells]
  obtain ⟨x, hx⟩ := Option.isSome_iff_exists.1 (h 0 (by simp))
  simp only [Nat.add_zero] at hx
  have h' : ∀ j, j < r.length → ((w.setCell ⟨b, o, none⟩ v).cell? ⟨b, o + 1 + j, none⟩).isSome = true := fun j hj => by
   rw [World.cell?_setCell_other _ _ _ _ (by simp; omega)]
   have := h (j + 1) (by simp; omega)
   rwa [show o + (j + 1) = o + 1 + j by omega] at this
  rw [setCells_cell b r (o + 1) _ h' i]
  simp only [List.length_cons]
  by_cases h1 : i = o
  ·subst h1
   rw [if_neg (by omega), if_pos (by omega)]
   rw [World.cell?_setCell_same _ _ _ hx]
   simp
  ·rw [World.cell?_setCell_other _ _ _ _ (by simp; omega)]
   by_cases h2 : o ≤ i ∧ i < o + (r.length + 1)
   ·rw [if_pos (by omega), if_pos h2, show i - o = (i - (o + 1)) + 1 by omega]
    simp
   ·rw [if_neg (by omega), if_neg h2]
theorem plain_setCells (b : Nat) : ∀ (vs : List Value) (o : Nat) (w : World) (p : Nat), Plain w p → Plain (w.setCells b o vs) p
 | [], o, w, p, h => h
 | v :: r, o, w, p, h => by
  simp only [World.setCells]
  refine plain_setCells b r _ _ p ?_
  obtain ⟨c, t, e⟩ := h
  by_cases hp : p = b
  ·subst hp
   exact ⟨c.setIfInBounds o v, t, by simp [World.setCell, Array.getElem?_modify, e]⟩
  ·exact ⟨c, t, by simp [World.setCell, Array.getElem?_modify, e, Ne.symm hp]⟩
end
end Go.Proofs.YtpfbimkpcnnfkaaGreatDoor.Sx
