/- Sx: regions that draw: the laws of one operation beside another one. Nothing of the program. -/
import Derived.Test.YtpfbimkpcnnfkaaGreatDoorSxK
/- Sx: regions that draw: a block may be made ahead of an operation. Nothing of the program. -/
/- Sx: regions that draw: which blocks an operation's values name. Nothing of the program. -/
set_option linter.unusedVariables false
set_option linter.unusedSimpArgs false
namespace Go.Proofs.YtpfbimkpcnnfkaaGreatDoor.Sx
open Go Go.RowKit Go.Proofs.YtpfbimkpcnnfkaaGreatDoor
section
variable {P : Program} {c : Ctx} {st st' : St S.ty} {bk : Nat → Nat} {a : Act} {w : World} {u u0 : Mem} {lab : List (Nat × Bool)} {K K' : St S.ty → (Nat → Nat) → Mem → Prop} {ops : List Oper} {o : Oper} {fl : Flag} {N : Nat → Prop}
structure Nam (N : Nat → Prop) (st : St S.ty) : Prop where
 ent : ∀ t e, st.get t = some e → ∀ i ∈ e.x.ids, N i
 own : ∀ i cs, st.cells i = some cs → ∀ k ∈ idsL cs, N k
theorem Nam.ev (h : Nam N st) {lab : List (Nat × Bool)} {x : Operand} {y : SV S.ty} (he : st.ev lab x = some y) : ∀ i ∈ y.ids, N i := by
 cases x with
 | tmp t =>
  simp only [St.ev] at he
  split at he
  ·rename_i e hg
   split at he <;> cases he
   exact h.ent t e hg
  ·cases he
 | const v => simp only [St.ev, Option.some.injEq] at he; subst he; rw [(ofVal_den (fun _ => 0) v).2]; simp
 | func f => simp only [St.ev, Option.some.injEq] at he; subst he; simp [SV.ids, idsL]
 | global g => simp only [St.ev, Option.some.injEq] at he; subst he; simp [SV.ids]
theorem Nam.evs (h : Nam N st) {lab : List (Nat × Bool)} : ∀ {xs : List Operand} {ys : List (SV S.ty)}, st.evs lab xs = some ys → ∀ i ∈ idsL ys, N i
 | [], ys, he => by simp only [St.evs, Option.some.injEq] at he; subst he; simp [idsL]
 | x :: r, ys, he => by
  simp only [St.evs] at he
  split at he
  ·rename_i y ys' h1 h2
   cases he
   intro i hi
   simp only [idsL, List.mem_append] at hi
   exact hi.elim (h.ev h1 i) (Nam.evs h h2 i)
  ·cases he
theorem Nam.parts (h : Nam N st) {lab : List (Nat × Bool)} : ∀ {xs : List (Nat × Operand)} {ys : List (Nat × SV S.ty)}, st.parts lab xs = some ys → ∀ p ∈ ys, ∀ i ∈ p.2.ids, N i
 | [], ys, he => by simp only [St.parts, Option.some.injEq] at he; subst he; simp
 | (k, x) :: r, ys, he => by
  simp only [St.parts] at he
  split at he
  ·rename_i y ys' h1 h2
   cases he
   intro p hp
   rcases List.mem_cons.1 hp with rfl | hp
   ·exact h.ev h1
   ·exact Nam.parts h h2 p hp
  ·cases he
theorem fill_ids {t : TypeId} : ∀ {ps : List (Nat × SV S.ty)} {cs rs : List (SV S.ty)}, fillSV P t cs ps = some rs → (∀ i ∈ idsL cs, N i) → (∀ p ∈ ps, ∀ i ∈ p.2.ids, N i) → ∀ i ∈ idsL rs, N i
 | [], cs, rs, h, h1, _ => by simp only [fillSV, Option.some.injEq] at h; subst h; exact h1
 | (k, x) :: r, cs, rs, h, h1, h2 => by
  simp only [fillSV] at h
  split at h
  ·split at h
   ·split at h
    ·refine fill_ids h (fun i hi => ?_) fun p hp => h2 p (by simp [hp])
     rw [idsL_app, idsL_app, List.mem_append, List.mem_append] at hi
     rcases hi with (hi | hi) | hi
     ·obtain ⟨y, hy, hz⟩ := mem_idsL.1 hi; exact h1 i (mem_idsL.2 ⟨y, List.mem_of_mem_take hy, hz⟩)
     ·rw [cells_ids] at hi; exact h2 (k, x) (by simp) i hi
     ·obtain ⟨y, hy, hz⟩ := mem_idsL.1 hi; exact h1 i (mem_idsL.2 ⟨y, List.mem_of_mem_drop hy, hz⟩)
    ·cases h
   ·cases h
  ·cases h
theorem fillRow_ids {n : Nat} : ∀ {ps : List (Nat × SV S.ty)} {cs rs : List (SV S.ty)}, fillRow n cs ps = some rs → (∀ i ∈ idsL cs, N i) → (∀ p ∈ ps, ∀ i ∈ p.2.ids, N i) → ∀ i ∈ idsL rs, N i
 | [], cs, rs, h, h1, _ => by simp only [fillRow, Option.some.injEq] at h; subst h; exact h1
 | (k, x) :: r, cs, rs, h, h1, h2 => by
  simp only [fillRow] at h
  split at h
  ·refine fillRow_ids h (fun i hi => ?_) fun p hp => h2 p (by simp [hp])
   rw [idsL_app, idsL_app, List.mem_append, List.mem_append] at hi
   rcases hi with (hi | hi) | hi
   ·obtain ⟨y, hy, hz⟩ := mem_idsL.1 hi; exact h1 i (mem_idsL.2 ⟨y, List.mem_of_mem_take hy, hz⟩)
   ·rw [cells_ids] at hi; exact h2 (k, x) (by simp) i hi
   ·obtain ⟨y, hy, hz⟩ := mem_idsL.1 hi; exact h1 i (mem_idsL.2 ⟨y, List.mem_of_mem_drop hy, hz⟩)
  ·cases h
theorem binRes_ids {t : TypeId} {b : BinOp} {cst : Bool} {x y z : SV S.ty} {obs : List (Ob S.ty)} (h : binRes P t b cst x y = .put obs z) : z.ids = [] := by
 unfold binRes at h
 revert h
 (repeat' split) <;> simp only [reduceCtorEq, Res.put.injEq, false_imp_iff] <;> (rintro ⟨_, rfl⟩; rfl)
def ResNam (N : Nat → Prop) (o : Oper) : Res S.ty → Prop
 | .put _ x => ∀ i ∈ x.ids, N i
 | .sto _ _ _ xs => ∀ i ∈ idsL xs, N i
 | .new _ ow x => (∀ cs, ow.cs = some cs → ∀ i ∈ idsL cs, N i) ∧ ow.cs.isSome = true ∧ ∀ i ∈ x.ids, o.dst = some i
 | .ust _ _ _ xs => ∀ i ∈ idsL xs, N i
 | .call _ args _ => ∀ i ∈ idsL args, N i
 | .bi _ args _ => ∀ i ∈ idsL args, N i
 | _ => True
set_option maxHeartbeats 2000000 in
theorem Nam.res (h : Nam N st) (lab : List (Nat × Bool)) : ResNam N o (res P st lab o) := by
 obtain ⟨dst, op, ty, pos, after, guard⟩ := o
 have hz : ∀ z : Value, ∀ i ∈ idsL (ofVal z : SV S.ty).cells, N i := fun z => by rw [cells_ids, (ofVal_den (fun _ => 0) z).2]; simp
 unfold Sx.res
 simp only
 split
 ·split
  ·rename_i he; exact h.ev he
  ·trivial
 ·split
  ·rename_i he; exact h.ev he
  ·trivial
 ·split
  ·intro i hi; simp [SV.ids] at hi
  ·trivial
 ·-- alloc
  split
  ·rename_i z d _
   split
   ·exact ⟨fun cs hc => by cases hc; exact hz z, rfl, fun i hi => by simp [SV.ids] at hi; subst hi; rfl⟩
   ·trivial
  ·trivial
 ·-- box
  split
  ·rename_i x d he
   split
   ·split
    ·exact ⟨fun cs hc => by cases hc; rw [cells_ids]; exact h.ev he, rfl, fun i hi => by simp [SV.ids] at hi; subst hi; rfl⟩
    ·trivial
   ·trivial
  ·trivial
 ·-- build
  split
  ·rename_i fs z ps _ _ hp
   split
   ·trivial
   ·split
    ·rename_i cs obs hf _
     exact fun i hi => fill_ids hf (hz z) (h.parts hp) i (by simpa [SV.ids] using hi)
    ·trivial
  ·trivial
 ·-- buildSlice
  split
  ·split
   ·intro i hi; simp [idsL] at hi
   ·trivial
  split
  ·rename_i e ps d _ hp
   split
   ·rename_i z n _ _
    split
    ·split
     ·rename_i cs obs hf _
      refine ⟨fun cs' hc => ?_, rfl, fun i hi => by simp [SV.ids] at hi; subst hi; rfl⟩
      cases hc
      refine fillRow_ids hf (fun i hi => ?_) (h.parts hp)
      obtain ⟨y, hy, hq⟩ := mem_idsL.1 hi
      rw [List.mem_flatten] at hy
      obtain ⟨l, hl, hy⟩ := hy
      rw [(List.mem_replicate.1 hl).2] at hy
      exact hz z i (mem_idsL.2 ⟨y, hy, hq⟩)
     ·trivial
    ·trivial
   ·trivial
  ·trivial
 ·-- load
  split
  ·split
   ·rename_i cs hcs
    split
    ·rename_i y hy
     obtain ⟨r, hcut, hpk⟩ := Option.bind_eq_some_iff.1 hy
     obtain ⟨hr1, _⟩ := cut_ok hcut
     exact fun i hi => h.own _ cs hcs i (idsL_sub i (hr1 ▸ pack_ids hpk i hi))
    ·trivial
   ·trivial
  ·split <;> trivial
  ·trivial
 ·-- store
  split
  ·rename_i x n _ he _
   split
   ·split
    ·split
     ·exact fun i hi => h.ev he i (by rwa [cells_ids] at hi)
     ·trivial
    ·trivial
   ·trivial
  ·rename_i x n _ he _
   split
   ·split
    ·exact fun i hi => h.ev he i (by rwa [cells_ids] at hi)
    ·trivial
   ·trivial
  ·trivial
 ·-- nilCheck
  split
  ·rename_i he; exact h.ev he
  ·intro i hi; simp [SV.ids] at hi
  ·rename_i he; exact h.ev he
  ·intro i hi; simp [SV.ids] at hi
  ·trivial
 ·-- binOp
  split
  ·rename_i x y _ _
   rcases binRes_or (P := P) _ _ _ x y with h' | ⟨_, _, h'⟩
   ·rw [h']; trivial
   ·rw [h']; intro i hi; rw [binRes_ids h'] at hi; cases hi
  ·trivial
 ·split
  ·intro i hi; simp [SV.ids] at hi
  ·intro i hi; simp [SV.ids] at hi
  ·trivial
 ·split
  ·intro i hi; simp [SV.ids] at hi
  ·intro i hi; simp [SV.ids] at hi
  ·trivial
 ·-- makeSlice
  split
  ·rename_i h1 h2
   intro i hi
   simp only [idsL, List.append_nil, List.mem_append] at hi
   exact hi.elim (h.ev h1 i) (h.ev h2 i)
  ·trivial
 ·split
  ·trivial
  ·rename_i he; exact fun i hi => h.ev he i (by simpa [SV.ids] using hi)
  ·trivial
 ·split
  ·rename_i h1 h2
   intro i hi
   simp only [SV.ids, List.mem_append] at hi
   exact hi.elim (h.evs h1 i) (h.evs h2 i)
  ·trivial
 ·split
  ·intro i hi; simp [SV.ids] at hi
  ·intro i hi; simp [SV.ids] at hi
  ·split
   ·intro i hi; simp [SV.ids] at hi
   ·trivial
  ·split
   ·intro i hi; simp [SV.ids] at hi
   ·trivial
  ·trivial
 ·-- fieldAddr
  split
  ·rename_i he
   split
   ·exact fun i hi => h.ev he i (by simpa [SV.ids] using hi)
   ·trivial
  ·split
   ·intro i hi; simp [SV.ids] at hi
   ·trivial
  ·trivial
 ·-- field
  split
  ·rename_i l _ he
   split
   ·split
    ·rename_i y hy
     obtain ⟨r, hcut, hpk⟩ := Option.bind_eq_some_iff.1 hy
     obtain ⟨hr1, _⟩ := cut_ok hcut
     exact fun i hi => h.ev he i (by simpa [SV.ids] using idsL_sub i (hr1 ▸ pack_ids hpk i hi))
    ·trivial
   ·trivial
  ·trivial
 ·-- indexAddr
  split
  ·split
   ·intro i hi; simp [SV.ids] at hi
   ·trivial
  ·rename_i he _
   split
   ·split
    ·exact fun i hi => h.ev he i (by simpa [SV.ids] using hi)
    ·trivial
   ·trivial
  ·trivial
 ·split
  ·intro i hi; simp [SV.ids] at hi
  ·trivial
 ·-- extract
  split
  ·rename_i l he
   split
   ·rename_i y hy
    exact fun i hi => h.ev he i (by simp only [SV.ids]; exact mem_idsL.2 ⟨y, mem_head hy, hi⟩)
   ·trivial
  ·trivial
 ·-- call
  split
  ·trivial
  ·rename_i args hargs
   split
   ·split
    ·intro i hi; simp [SV.ids] at hi
    ·intro i hi; simp [SV.ids] at hi
    ·intro i hi; simp [SV.ids] at hi
    ·intro i hi; simp [SV.ids] at hi
    ·exact h.evs hargs
    ·exact h.evs hargs
    ·exact h.evs hargs
    ·exact h.evs hargs
    ·exact h.evs hargs
    ·trivial
   ·split
    ·rename_i l r hf
     split
     ·split
      ·intro i hi
       rw [idsL_app, idsL_app, List.mem_append, List.mem_append] at hi
       rcases hi with (hi | hi) | hi
       ·exact h.ev hf i (by simp [SV.ids, hi])
       ·exact h.evs hargs i hi
       ·exact h.ev hf i (by simp [SV.ids, hi])
      ·split
       ·intro i hi
        rw [idsL_app, idsL_app, List.mem_append, List.mem_append] at hi
        rcases hi with (hi | hi) | hi
        ·exact h.ev hf i (by simp [SV.ids, hi])
        ·exact h.evs hargs i hi
        ·exact h.ev hf i (by simp [SV.ids, hi])
       ·trivial
     ·trivial
    ·trivial
   ·trivial
 ·trivial
end
end Go.Proofs.YtpfbimkpcnnfkaaGreatDoor.Sx
set_option linter.unusedVariables false
set_option linter.unusedSimpArgs false
namespace Go.Proofs.YtpfbimkpcnnfkaaGreatDoor.Sx
open Go Go.RowKit Go.Proofs.YtpfbimkpcnnfkaaGreatDoor
section
variable {P : Program} {c : Ctx} {st st' : St S.ty} {bk : Nat → Nat} {a : Act} {w : World} {u u0 : Mem} {lab : List (Nat × Bool)} {K K' : St S.ty → (Nat → Nat) → Mem → Prop} {ops : List Oper} {o : Oper} {fl : Flag} {N : Nat → Prop}
def ResKind (o : Oper) : Res S.ty → Prop
 | .put _ _ => cls o = 0
 | .sto _ _ _ _ => isStore o = true
 | .new _ _ _ => cls o = 2
 | .uld _ _ _ _ => isLoad o = true
 | .ust _ _ _ _ => isStore o = true
 | .call _ _ _ => isCallV o = true
 | .bi p _ _ => cls o = 1 ∧ isStore o = false ∧ (isCallV o = true → p.isExt = true)
 | .bad => True
set_option maxHeartbeats 2000000 in
theorem res_kind (lab : List (Nat × Bool)) : ResKind o (res P st lab o) := by
 obtain ⟨dst, op, ty, pos, after, guard⟩ := o
 unfold res
 cases op
 case binOp b t x y t' =>
  simp only
  split
  ·rename_i x y _ _
   rcases binRes_or (P := P) _ _ _ x y with h' | ⟨_, _, h'⟩
   ·rw [h']; trivial
   ·rw [h']; rfl
  ·trivial
 case buildSlice t len ps =>
  simp only
  split
  ·split
   ·rename_i h0 _; subst h0; exact ⟨rfl, rfl, fun h => by cases h⟩
   ·trivial
  ·rename_i h0
   obtain ⟨n, rfl⟩ : ∃ n, len = n + 1 := ⟨len - 1, by omega⟩
   (repeat' split) <;> first | trivial | rfl
 case call cl =>
  obtain ⟨cal, cargs, cts⟩ := cl
  simp only
  split
  ·trivial
  ·split
   ·
    split
    ·rfl
    ·rfl
    ·rfl
    ·rfl
    ·exact ⟨rfl, rfl, fun h => by cases h⟩
    ·exact ⟨rfl, rfl, fun h => by cases h⟩
    ·exact ⟨rfl, rfl, fun h => by cases h⟩
    ·exact ⟨rfl, rfl, fun h => by cases h⟩
    ·exact ⟨rfl, rfl, fun h => by cases h⟩
    ·trivial
   ·
    split
    ·split
     ·split
      ·rfl
      ·split
       ·exact ⟨rfl, rfl, fun _ => rfl⟩
       ·trivial
     ·trivial
    ·trivial
   ·trivial
 all_goals (simp only; (repeat' split) <;> first | trivial | rfl | exact ⟨rfl, rfl, fun h => by cases h⟩)
theorem idsL_ne {d : Nat} {l : List (SV S.ty)} (bk : Nat → Nat) (b : Nat) (h : ∀ i ∈ idsL l, i ≠ d) : denL (upd bk d b) l = denL bk l := denL_congr l fun i hi => by unfold upd; rw [if_neg (h i hi)]
theorem seen_ids (q : Bool) (x : SV S.ty) : ∀ i ∈ x.seen q, i ∈ x.ids := by
 cases q <;> cases x <;> simp [SV.seen, SV.ids]
theorem direct_ids (q : Bool) (x : SV S.ty) : ∀ i ∈ x.direct q, i ∈ x.ids := by
 cases q <;> cases x <;> simp [SV.direct, SV.ids]
theorem flat_ids {f : SV S.ty → List Nat} (hf : ∀ x, ∀ i ∈ f x, i ∈ x.ids) (l : List (SV S.ty)) : ∀ i ∈ (l.map f).flatten, i ∈ idsL l := by
 intro i hi
 rw [List.mem_flatten] at hi
 obtain ⟨m, hm, hi⟩ := hi
 obtain ⟨x, hx, rfl⟩ := List.mem_map.1 hm
 exact mem_idsL.2 ⟨x, hx, hf x i hi⟩
theorem close_ne {d : Nat} (hn : Nam (· ≠ d) st) (hc : ∀ i, i ≠ d → st'.cells i = st.cells i) : ∀ (n : Nat) (l acc : List Nat), (∀ i ∈ l, i ≠ d) → (∀ i ∈ acc, i ≠ d) → st'.close n l acc = st.close n l acc ∧ ∀ i ∈ st.close n l acc, i ≠ d
 | 0, _, _, _, h => ⟨rfl, h⟩
 | n + 1, [], _, _, h => ⟨rfl, h⟩
 | n + 1, i :: r, acc, hl, ha => by
  have hr : ∀ j ∈ r, j ≠ d := fun j hj => hl j (by simp [hj])
  simp only [St.close, hc i (hl i (by simp))]
  by_cases hm : acc.contains i = true
  ·simp only [hm, if_true]; exact close_ne hn hc n r acc hr ha
  ·have hm' : acc.contains i = false := by cases h : acc.contains i <;> simp_all
   simp only [hm', Bool.false_eq_true, if_false]
   cases hcs : st.cells i with
   | none => exact close_ne hn hc n r acc hr ha
   | some cs =>
    refine close_ne hn hc n _ _ (fun j hj => ?_) fun j hj => ?_
    ·rcases List.mem_append.1 hj with hj | hj
     ·exact hn.own i cs hcs j hj
     ·exact hr j hj
    ·rcases List.mem_append.1 hj with hj | hj
     ·exact ha j hj
     ·rw [List.mem_singleton.1 hj]; exact hl i (by simp)
theorem okLd_get {l : List Nat} {t : Tmp} (h : st'.get t = st.get t) : st'.okLd l t = st.okLd l t := by unfold St.okLd; rw [h]
theorem okLds_congr {l : List Nat} {M : List Tmp} (h : ∀ t ∈ M, st'.get t = st.get t) : M.all (st'.okLd l) = M.all (st.okLd l) := by
 induction M with
 | nil => rfl
 | cons t r ih => simp only [List.all_cons]; rw [okLd_get (h t (by simp)), ih fun x hx => h x (by simp [hx])]
theorem cls_call (h : isCallV o = true) : cls o = 1 := by
 unfold isCallV at h; unfold cls
 split at h
 ·rename_i h'; simp [h']
 ·cases h
theorem cls_store (h : isStore o = true) : cls o = 1 := by
 unfold isStore at h; unfold cls
 split at h
 ·rename_i h'; simp [h']
 ·cases h
theorem okP_get {l : List Nat} {t : Tmp} (h : st'.get t = st.get t) : st'.okP l t = st.okP l t := by unfold St.okP; rw [h]
theorem okPs_congr {l : List Nat} {M : List Tmp} (h : ∀ t ∈ M, st'.get t = st.get t) : M.all (st'.okP l) = M.all (st.okP l) := by
 induction M with
 | nil => rfl
 | cons t r ih => simp only [List.all_cons]; rw [okP_get (h t (by simp)), ih fun x hx => h x (by simp [hx])]
theorem okP_ld {l : List Nat} {t : Tmp} (h : st.okP l t = true) : st.okLd l t = true := by
 unfold St.okP at h; unfold St.okLd
 split at h
 ·rename_i h'; rw [h']; exact h
 ·cases h
theorem okLds_sub {f : Tmp → Bool} {M L : List Tmp} (h : ∀ t ∈ M, t ∈ L) (ha : L.all f = true) : M.all f = true := List.all_eq_true.2 fun t ht => List.all_eq_true.1 ha t (h t ht)
theorem nil_of_sub {M L : List Tmp} (h : ∀ t ∈ M, t ∈ L) (hl : L = []) : M = [] := List.eq_nil_iff_forall_not_mem.2 fun t ht => by have := h t ht; rw [hl] at this; cases this
def St.mk_ (st : St S.ty) (d : Nat) (ow : Own S.ty) (e : Ent S.ty) : St S.ty := (st.setOwn d (some ow)).put (some d) e
theorem mk_get {d : Nat} {ow : Own S.ty} {e : Ent S.ty} {t : Nat} (h : t ≠ d) : (st.mk_ d ow e).get t = st.get t := by
 unfold St.mk_; rw [get_put, if_neg (fun hh => h hh.1)]; rfl
theorem mk_blk {d : Nat} {ow : Own S.ty} {e : Ent S.ty} {i : Nat} (h : i ≠ d) : (st.mk_ d ow e).blk i = st.blk i := by
 unfold St.mk_; rw [blk_put, blk_setOwn, if_neg (fun hh => h hh.1)]
theorem mk_cells {d : Nat} {ow : Own S.ty} {e : Ent S.ty} {i : Nat} (h : i ≠ d) : (st.mk_ d ow e).cells i = st.cells i := by
 unfold St.cells; rw [mk_blk h]
theorem mk_put {d : Nat} {ow : Own S.ty} {e : Ent S.ty} {dx : Option Tmp} {ex : Ent S.ty} (h : dx ≠ some d) : (st.mk_ d ow e).put dx ex = (st.put dx ex).mk_ d ow e := by
 unfold St.mk_; rw [put_put h, setOwn_put]
theorem setOwn_comm {i j : Nat} {x y : Option (Own S.ty)} (h : i ≠ j) : (st.setOwn i x).setOwn j y = (st.setOwn j y).setOwn i x := by
 simp only [St.setOwn]; rw [List.set_comm _ _ h]
theorem mk_setOwn {d i : Nat} {ow : Own S.ty} {e : Ent S.ty} {x : Option (Own S.ty)} (h : i ≠ d) : (st.mk_ d ow e).setOwn i x = (st.setOwn i x).mk_ d ow e := by
 unfold St.mk_; rw [setOwn_put, setOwn_comm h.symm]
theorem mk_fresh {d : Nat} {ow : Own S.ty} {e : Ent S.ty} : ∀ (l : List Nat) (ms : List (List CK)) (x : CellsL S.ty ms) (st : St S.ty), (∀ i ∈ l, i ≠ d) → (st.mk_ d ow e).fresh l ms x = (st.fresh l ms x).mk_ d ow e
 | [], ms, x, st, _ => by cases ms <;> rfl
 | i :: l, [], x, st, _ => rfl
 | i :: l, k :: ms, x, st, h => by
  simp only [St.fresh]
  rw [mk_setOwn (h i (by simp)), mk_blk (h i (by simp)), mk_fresh l ms _ _ fun j hj => h j (by simp [hj])]
theorem mk_shut {d : Nat} {ow : Own S.ty} {e : Ent S.ty} : ∀ (l : List Nat) (st : St S.ty), (∀ i ∈ l, i ≠ d) → (st.mk_ d ow e).shut l = (st.shut l).mk_ d ow e
 | [], st, _ => rfl
 | i :: l, st, h => by
  simp only [St.shut]
  rw [mk_blk (h i (by simp))]
  cases st.blk i with
  | none => exact mk_shut l st fun j hj => h j (by simp [hj])
  | some x => simp only []; rw [mk_setOwn (h i (by simp)), mk_shut l _ fun j hj => h j (by simp [hj])]
theorem upd_comm {d d' b b' : Nat} (h : d ≠ d') : upd (upd bk d b) d' b' = upd (upd bk d' b') d b := by
 funext i
 unfold upd
 by_cases h1 : i = d'
 ·subst h1
  have h2 : ¬ i = d := fun e => h e.symm
  simp [h2]
 ·by_cases h2 : i = d
  ·subst h2; simp [h1]
  ·simp [h1, h2]
end
end Go.Proofs.YtpfbimkpcnnfkaaGreatDoor.Sx
set_option linter.unusedVariables false
set_option linter.unusedSimpArgs false
namespace Go.Proofs.YtpfbimkpcnnfkaaGreatDoor.Sx
open Go Go.RowKit Go.Proofs.YtpfbimkpcnnfkaaGreatDoor
section
variable {P : Program} {c : Ctx} {st st' : St S.ty} {bk : Nat → Nat} {a : Act} {w : World} {u u0 : Mem} {lab : List (Nat × Bool)} {K K' : St S.ty → (Nat → Nat) → Mem → Prop} {ops : List Oper} {o : Oper} {fl : Flag} {N : Nat → Prop}
theorem Nam.put {d : Nat} {dx : Option Tmp} {e : Ent S.ty} (h : Nam N st) (he : ∀ i ∈ e.x.ids, N i) : Nam N (st.put dx e) := by
 refine ⟨fun t e' he' => ?_, fun i cs hc => h.own i cs (by rwa [cells_put] at hc)⟩
 cases dx with
 | none => exact h.ent t e' he'
 | some x =>
  rw [get_put] at he'
  split at he'
  ·cases he'; exact he
  ·exact h.ent t e' he'
theorem Nam.setOwn {i : Nat} {x : Own S.ty} (h : Nam N st) (hx : ∀ cs, x.cs = some cs → ∀ k ∈ idsL cs, N k) : Nam N (st.setOwn i (some x)) := by
 refine ⟨fun t e' he' => h.ent t e' he', fun j cs hc => ?_⟩
 unfold St.cells at hc
 rw [blk_setOwn] at hc
 split at hc
 ·exact hx cs hc
 ·exact h.own j cs hc
theorem Nam.fresh : ∀ {l : List Nat} {ms : List (List CK)} {y : CellsL S.ty ms} {st : St S.ty}, Nam N st → Nam N (st.fresh l ms y)
 | [], ms, y, st, h => by cases ms <;> exact h
 | i :: l, [], y, st, h => h
 | i :: l, k :: ms, y, st, h => by
  simp only [St.fresh]
  exact Nam.fresh (h.setOwn fun cs hc => by cases hc; rw [cellsSV_ids]; simp)
theorem Nam.shut : ∀ {l : List Nat} {st : St S.ty}, Nam N st → Nam N (st.shut l)
 | [], st, h => h
 | i :: l, st, h => by
  simp only [St.shut]
  cases st.blk i with
  | none => exact Nam.shut h
  | some x => exact Nam.shut (h.setOwn fun cs hc => by cases hc)
theorem EV_nam {d : Nat} (hn : Nam (· ≠ d) st) (hb : st.blk d = none) (hd : o.dst ≠ some d) (h : EV P u0 ops fl o st bk u K) : EV P u0 ops fl o st bk u fun st' bk' u' => K st' bk' u' ∧ Nam (· ≠ d) st' ∧ st'.blk d = none := by
 have hcd : st.cells d = none := by unfold St.cells; rw [hb]; rfl
 have hlt : ∀ i x, i ≠ d → ∀ s : St S.ty, s.blk d = none → (s.setOwn i x).blk d = none := fun i x hi s hs => by rw [blk_setOwn, if_neg (fun hh => hi hh.1.symm)]; exact hs
 have hfr : ∀ (l : List Nat) (ms : List (List CK)) (y : CellsL S.ty ms) (s : St S.ty), (∀ i ∈ l, i ≠ d) → s.blk d = none → (s.fresh l ms y).blk d = none := by
  intro l
  induction l with
  | nil => intro ms y s _ h; cases ms <;> exact h
  | cons i l ih =>
   intro ms y s h1 h2
   cases ms with
   | nil => exact h2
   | cons k ms => simp only [St.fresh]; exact ih ms y.2 _ (fun j hj => h1 j (by simp [hj])) (hlt i _ (h1 i (by simp)) s h2)
 have hsh : ∀ (l : List Nat) (s : St S.ty), s.blk d = none → (s.shut l).blk d = none := fun l s h => by rw [blk_shut, h]; split <;> rfl
 have hclose : ∀ (n : Nat) (l : List Nat), ∀ i ∈ st.close n l [], i ≠ d := fun n l i hi e => by
  have := close_cells (st := st) n l [] (by simp) i hi
  rw [e, hcd] at this; cases this
 unfold EV at h ⊢
 rcases hg : guardOf ops st o with _ | ⟨lab, g⟩
 ·simp only [hg] at h
 simp only [hg] at h ⊢
 have hnam := hn.res (P := P) (o := o) lab
 generalize res P st lab o = r at h hnam ⊢
 rcases r with _ | ⟨obs, x⟩ | ⟨obs, id, off, xs⟩ | ⟨obs, ow, x⟩ | ⟨A, k, ag, ks⟩ | ⟨obs, A, k, xs⟩ | ⟨f, args, rs⟩ | ⟨p, args, rs⟩ <;> dsimp only [ResNam] at h hnam ⊢
 ·exact ⟨h.1, h.2.1, h.2.2, hn.put (d := d) hnam, by rw [blk_put]; exact hb⟩
 ·split at h
  ·rename_i gv ks cs hbl
   have hi : id ≠ d := fun e => by rw [e, hb] at hbl; cases hbl
   refine ⟨h.1, h.2.1, h.2.2, hn.setOwn (fun cs' hc k hk => ?_), hlt id _ hi st hb⟩
   cases hc
   rw [idsL_app, idsL_app, List.mem_append, List.mem_append] at hk
   have hcs : st.cells id = some cs := by unfold St.cells; rw [hbl]; rfl
   rcases hk with (hk | hk) | hk
   ·obtain ⟨y, hy, hz⟩ := mem_idsL.1 hk; exact hn.own id cs hcs k (mem_idsL.2 ⟨y, List.mem_of_mem_take hy, hz⟩)
   ·exact hnam k hk
   ·obtain ⟨y, hy, hz⟩ := mem_idsL.1 hk; exact hn.own id cs hcs k (mem_idsL.2 ⟨y, List.mem_of_mem_drop hy, hz⟩)
  ·exact h.elim
 ·split at h
  ·rename_i dx hdx
   have hi : dx ≠ d := fun e => hd (by rw [hdx, e])
   refine ⟨h.1, h.2.1, h.2.2.1, fun hg b hb' => ⟨h.2.2.2.1 hg b hb', (hn.setOwn hnam.1).put (d := d) (fun i hi' => ?_), by rw [blk_put]; exact hlt dx _ hi st hb⟩, fun hg => (h.2.2.2.2 hg).imp fun y hy => ⟨hy.1, hy.2, hn.put (d := d) (by rw [hy.1]; simp), by rw [blk_put]; exact hb⟩⟩
   have := hnam.2.2 i hi'
   rw [hdx] at this; cases this; exact hi
  ·exact h.elim
 ·have hids : ∀ (x : Cells S.ty ks) y, pack ag (cellsSV ks x) = some y → ∀ i ∈ y.ids, i ≠ d := fun x y hy i hi => by
   have := pack_ids hy i hi
   rw [cellsSV_ids] at this; cases this
  exact ⟨fun hg => (h.1 hg).imp fun x ⟨h1, y, h2, h3⟩ => ⟨h1, y, h2, h3, hn.put (d := d) (hids x y h2), by rw [blk_put]; exact hb⟩, fun hg => (h.2 hg).imp fun y ⟨h2, h3⟩ => ⟨h2, h3, hn.put (d := d) (hids _ y h2), by rw [blk_put]; exact hb⟩⟩
 ·split at h
  ·obtain ⟨hl, h0, b, f, h1, h2, h3, h4⟩ := h; exact ⟨hl, h0, b, f, h1, h2, h3, h4, hn, hb⟩
  ·exact h.elim
 ·obtain ⟨h1, h2, h3, h4, h5, h7, h8⟩ := h
  have hk : ∀ (ys : CellsL S.ty (st.kss (st.close 40 ((args.map (SV.direct (isAs P f))).flatten) []))) (xs : Cells S.ty (RT.ks rs)), _ := fun ys xs =>
   And.intro (((hn.fresh (l := st.close 40 ((args.map (SV.direct (isAs P f))).flatten) []) (y := ys)).shut (l := st.close 40 ((args.map (SV.seen (isAs P f))).flatten) [])).put (d := d) (dx := o.dst) (e := ⟨lab, g, resSV rs (cellsSV (RT.ks rs) xs)⟩) (by rw [resSV_ids]; simp))
    (show ((((st.fresh (st.close 40 ((args.map (SV.direct (isAs P f))).flatten) []) _ ys).shut (st.close 40 ((args.map (SV.seen (isAs P f))).flatten) [])).put o.dst ⟨lab, g, resSV rs (cellsSV (RT.ks rs) xs)⟩)).blk d = none by rw [blk_put]; exact hsh _ _ (hfr _ _ ys st (hclose 40 _) hb))
  exact ⟨h1, h2, h3, h4, h5, fun hg => (h7 hg).mono fun u1 hc => hc.mono fun v cs u' ⟨xs, ys, e1, e2, e3⟩ => ⟨xs, ys, e1, e2, fun ho => ⟨e3 ho, hk ys xs⟩⟩, fun hg => (h8 hg).imp fun x hx => ⟨hx.1, hx.2, hn.put (d := d) (by rw [hx.1.ids]; simp), by rw [blk_put]; exact hb⟩⟩
 ·obtain ⟨h1, h2, h3, hx, h7, h8⟩ := h
  have hk : ∀ (xs : Cells S.ty (RT.ks rs)), _ := fun xs =>
   And.intro ((hn.shut (l := st.close 40 ((args.map (SV.seen false)).flatten) [])).put (d := d) (dx := o.dst) (e := ⟨lab, g, resSV rs (cellsSV (RT.ks rs) xs)⟩) (by rw [resSV_ids]; simp))
    (show (((st.shut (st.close 40 ((args.map (SV.seen false)).flatten) [])).put o.dst ⟨lab, g, resSV rs (cellsSV (RT.ks rs) xs)⟩)).blk d = none by rw [blk_put]; exact hsh _ _ hb)
  exact ⟨h1, h2, h3, hx, fun hg => (h7 hg).mono fun u1 hc => hc.mono fun v u' ⟨xs, e1, e3⟩ => ⟨xs, e1, fun ho => ⟨e3 ho, hk xs⟩⟩, fun hg => ⟨h8 hg, hk _⟩⟩
theorem EV_new {d b : Nat} {ow : Own S.ty} {e : Ent S.ty} (hn : Nam (· ≠ d) st) (hbd : st.blk d = none) (hdl : d < st.own.length) (hd : o.dst ≠ some d) (hl : d ∉ o.looksAt ops.toArray) (hk : cls o = 0 ∨ isBi o = true ∨ cls o = 2) (hM : cls o = 1 → d ∉ fl.lds) (how : ow.cs.isSome = true)
  (h : EV P u0 ops fl o st bk u fun st' bk' u' => (∀ o, u' b o = none) → K (st'.mk_ d ow e) (upd bk' d b) u') (hub : ∀ o, u b o = none) : EV P u0 ops fl o (st.mk_ d ow e) (upd bk d b) u K := by
 have ha : Agr ops o (st.mk_ d ow e) st := fun t ht => mk_get (fun e => hl (e ▸ ht))
 have hcl : ∀ (l : List Nat), (∀ i ∈ l, i ≠ d) → (st.mk_ d ow e).close 40 l [] = st.close 40 l [] ∧ ∀ i ∈ st.close 40 l [], i ≠ d := fun l hl' => close_ne hn (fun i hi => mk_cells hi) 40 l [] hl' (by simp)
 unfold EV at h ⊢
 rw [ha.guard]
 rcases hg : guardOf ops st o with _ | ⟨lab, g⟩
 ·simp only [hg] at h
 simp only [hg] at h ⊢
 have hnam := hn.res (P := P) (o := o) lab
 have hkind := res_kind (P := P) (st := st) (o := o) lab
 have hres : res P (st.mk_ d ow e) lab o = res P st lab o := by
  by_cases hm : noMem o = true
  ·exact ha.res (.inl hm) lab
  ·have hop : (∃ t x, o.op = .load t x) ∨ (∃ t x y, o.op = .store t x y) := by
    unfold noMem at hm
    split at hm
    ·rename_i t x h; exact .inl ⟨t, x, h⟩
    ·rename_i t x y h; exact .inr ⟨t, x, y, h⟩
    ·exact absurd rfl hm
   rcases hop with ⟨t, x, hop⟩ | ⟨t, x, y, hop⟩
   ·have hE : (st.mk_ d ow e).ev lab x = st.ev lab x := ha.ev (by simp [hop, Op.operands]) lab
    unfold res
    simp only [hop, hE]
    cases hx : st.ev lab x with
    | none => rfl
    | some y =>
     cases hs : sizeB P t with
     | none => cases y <;> rfl
     | some n =>
      cases y
      case p i off =>
       have hi : i ≠ d := hn.ev hx i (by simp [SV.ids])
       simp only [mk_cells hi]
      all_goals rfl
   ·simp [cls, isBi, hop] at hk
 rw [hres]
 generalize res P st lab o = r at h hnam hkind ⊢
 rcases r with _ | ⟨obs, x⟩ | ⟨obs, id, off, xs⟩ | ⟨obs, ow', x⟩ | ⟨A, k, ag, ks⟩ | ⟨obs, A, k, xs⟩ | ⟨f, args, rs⟩ | ⟨p, args, rs⟩ <;> dsimp only [ResNam, ResKind] at h hnam hkind ⊢
 ·rw [mk_put hd]; exact ⟨h.1, h.2.1, h.2.2 hub⟩
 ·exfalso
  unfold isStore at hkind
  unfold cls isBi at hk
  split at hkind
  ·rename_i hop; simp [hop] at hk
  ·cases hkind
 ·split at h
  ·rename_i dx hdx
   have hi : dx ≠ d := fun e' => hd (by rw [hdx, e'])
   have hd' : some dx ≠ some d := by rw [← hdx]; exact hd
   refine ⟨by rw [mk_blk hi]; exact h.1, by unfold St.mk_ St.put St.setOwn; simpa using h.2.1, h.2.2.1, fun hg b1 hb1 => ?_, fun hg => (h.2.2.2.2 hg).imp fun y hy => ⟨hy.1, by rw [mk_put hd']; exact hy.2 hub⟩⟩
   rw [mk_setOwn hi, mk_put hd', upd_comm hi.symm]
   exact h.2.2.2.1 hg b1 hb1 hub
  ·exact h.elim
 ·have hden : ∀ x : Cells S.ty ks, denL (upd bk d b) (cellsSV ks x) = denL bk (cellsSV ks x) := fun x => idsL_ne bk b (by rw [cellsSV_ids]; simp)
  exact ⟨fun hg => (h.1 hg).imp fun x ⟨h1, y, h2, h3⟩ => ⟨by rw [hden]; exact h1, y, h2, by rw [mk_put hd]; exact h3 hub⟩, fun hg => (h.2 hg).imp fun y ⟨h2, h3⟩ => ⟨h2, by rw [mk_put hd]; exact h3 hub⟩⟩
 ·exfalso
  unfold isStore at hkind
  unfold cls isBi at hk
  split at hkind
  ·rename_i hop; simp [hop] at hk
  ·cases hkind
 ·obtain ⟨c1, c1'⟩ := hcl ((args.map (SV.direct (isAs P f))).flatten) fun i hi => hnam i (flat_ids (direct_ids (isAs P f)) args i hi)
  obtain ⟨c2, c2'⟩ := hcl ((args.map (SV.seen (isAs P f))).flatten) fun i hi => hnam i (flat_ids (seen_ids (isAs P f)) args i hi)
  rw [c1, c2]
  generalize hms : st.close 40 ((args.map (SV.direct (isAs P f))).flatten) [] = ms at *
  generalize hps : st.close 40 ((args.map (SV.seen (isAs P f))).flatten) [] = ps at *
  have hmc : ∀ i ∈ ms, (st.cells i).isSome = true := by rw [← hms]; exact close_cells 40 _ [] (by simp)
  have hpc : ∀ i ∈ ps, (st.cells i).isSome = true := by rw [← hps]; exact close_cells 40 _ [] (by simp)
  have hrw : ∀ l : List Nat, (∀ i ∈ l, i ≠ d) → (st.mk_ d ow e).rows l = st.rows l ∧ (st.mk_ d ow e).kss l = st.kss l ∧ (st.mk_ d ow e).mineB l = st.mineB l := fun l hl' => by
   induction l with
   | nil => exact ⟨rfl, rfl, rfl⟩
   | cons i r ih =>
    obtain ⟨i1, i2, i3⟩ := ih fun j hj => hl' j (by simp [hj])
    have e1 := mk_cells (st := st) (ow := ow) (e := e) (hl' i (by simp))
    have e2 := mk_blk (st := st) (ow := ow) (e := e) (hl' i (by simp))
    unfold St.rows St.kss St.mineB at *
    simp only [List.filterMap_cons, List.all_cons, e1, e2, i1, i2, i3, and_self]
  obtain ⟨r1, r2, _⟩ := hrw ms c1'
  obtain ⟨r3, _, r4⟩ := hrw ps c2'
  generalize (st.mk_ d ow e).kss ms = kk at r2 ⊢
  subst r2
  simp only [r1, r3, r4]
  have hrd : ∀ l : List Nat, (∀ i ∈ l, i ≠ d) → (∀ i ∈ l, (st.cells i).isSome = true) → ∀ q ∈ st.rows l, upd bk d b q.1 = bk q.1 ∧ denL (upd bk d b) q.2 = denL bk q.2 := fun l h1 h2 q hq => by
   rw [rows_map h2] at hq
   obtain ⟨i, hi, rfl⟩ := List.mem_map.1 hq
   obtain ⟨cs, hcs⟩ := Option.isSome_iff_exists.1 (h2 i hi)
   exact ⟨by unfold upd; rw [if_neg (h1 i hi)], by rw [hcs]; exact idsL_ne bk b (hn.own i cs hcs)⟩
  have hrows : rowsD (upd bk d b) (st.rows ms) = rowsD bk (st.rows ms) := by
   unfold rowsD
   exact List.map_congr_left fun q hq => by rw [(hrd ms c1' hmc q hq).1, (hrd ms c1' hmc q hq).2]
  have hargs : denL (upd bk d b) args = denL bk args := idsL_ne bk b hnam
  have hpub : ∀ Kk : Mem → Prop, PubTo bk (st.rows ps) u Kk → PubTo (upd bk d b) (st.rows ps) u Kk := fun Kk hp => by
   have hrd' := hrd ps c2' hpc
   generalize st.rows ps = l at hp hrd' ⊢
   cases l with
   | nil => exact hp
   | cons q l =>
    refine fun u1 h1 h2 => hp u1 h1 fun q' hq' j v hv => ?_
    have := h2 q' hq' j v (by rw [(hrd' q' hq').2]; exact hv)
    rwa [(hrd' q' hq').1] at this
  have hmkf : ∀ ys : CellsL S.ty (st.kss ms), ∀ dx ex, dx ≠ some d → (((st.mk_ d ow e).fresh ms (st.kss ms) ys).shut ps).put dx ex = (((st.fresh ms (st.kss ms) ys).shut ps).put dx ex).mk_ d ow e := fun ys dx ex hdx => by
   rw [mk_fresh ms _ ys st c1', mk_shut ps _ c2', mk_put hdx]
  obtain ⟨h1, h2, h3, h4, h5, h7, h8⟩ := h
  have h5' : fl.lds.all ((st.mk_ d ow e).okLd (ms ++ ps)) = true := by rw [okLds_congr (st := st) fun t ht => mk_get (fun he => hM (cls_call hkind) (by rw [← he]; exact ht))]; exact h5
  refine ⟨h1, h2, h3, h4, h5', fun hg => hpub _ ((h7 hg).mono fun u1 hc => ?_), fun hg => (h8 hg).imp fun x hx => ⟨hx.1, by rw [mk_put hd]; exact hx.2 hub⟩⟩
  rw [hargs, hrows]
  refine hc.mono fun v cs u' ⟨xs, ys, e1, e2, e3⟩ => ⟨xs, ys, ?_, ?_, fun ho => ?_⟩
  ·rw [e1]; exact (den_congr _ fun i hi => by rw [resSV_ids] at hi; cases hi).symm
  ·rw [e2]
   have key : ∀ (l : List (List CK)) (y : CellsL S.ty l), denLL bk l y = denLL (upd bk d b) l y := by
    intro l
    induction l with
    | nil => intro y; rfl
    | cons k r ih => intro y; simp only [denLL, ih y.2]; rw [idsL_ne bk b (by rw [cellsSV_ids]; simp)]
   exact key _ ys
  ·rw [hmkf _ _ _ hd]
   have hmk2 : ((st.mk_ d ow e).fresh ms (st.kss ms) ys).shut ps = ((st.fresh ms (st.kss ms) ys).shut ps).mk_ d ow e := by rw [mk_fresh ms _ ys st c1', mk_shut ps _ c2']
   rw [hmk2] at ho
   have hfl : ∀ (l : List Nat) (m : List (List CK)) (y : CellsL S.ty m) (s : St S.ty), (s.fresh l m y).own.length = s.own.length := by
    intro l
    induction l with
    | nil => intro m y s; cases m <;> rfl
    | cons i l ih => intro m y s; cases m with
     | nil => rfl
     | cons k m => simp only [St.fresh]; rw [ih]; simp [St.setOwn]
   have hsl : ∀ (l : List Nat) (s : St S.ty), (s.shut l).own.length = s.own.length := by
    intro l
    induction l with
    | nil => intro s; rfl
    | cons i l ih => intro s; simp only [St.shut]; cases s.blk i with
     | none => exact ih s
     | some x => simp only []; rw [ih]; simp [St.setOwn]
   have hlen : d < ((st.fresh ms (st.kss ms) ys).shut ps).own.length := by rw [hsl, hfl]; exact hdl
   have hbd' : ((st.fresh ms (st.kss ms) ys).shut ps).blk d = none := by
    have hfr : ∀ (l : List Nat) (m : List (List CK)) (y : CellsL S.ty m) (s : St S.ty), (∀ i ∈ l, i ≠ d) → s.blk d = none → (s.fresh l m y).blk d = none := by
     intro l
     induction l with
     | nil => intro m y s _ h; cases m <;> exact h
     | cons i l ih => intro m y s h1 h2; cases m with
      | nil => exact h2
      | cons k m =>
       simp only [St.fresh]
       refine ih m y.2 _ (fun j hj => h1 j (by simp [hj])) ?_
       rw [blk_setOwn, if_neg (fun hh => h1 i (by simp) hh.1.symm)]; exact h2
    rw [blk_shut, hfr ms _ ys st c1' hbd]; split <;> rfl
   refine e3 (fun i cs hcs o' => ?_) fun o' => ?_
   ·by_cases hi : i = d
    ·rw [hi] at hcs; unfold St.cells at hcs; rw [hbd'] at hcs; cases hcs
    ·have := ho i cs (by rw [mk_cells hi]; exact hcs) o'
     unfold upd at this
     rwa [if_neg hi] at this
   ·obtain ⟨cs, hcs⟩ := Option.isSome_iff_exists.1 how
    have hc' : (((st.fresh ms (st.kss ms) ys).shut ps).mk_ d ow e).cells d = some cs := by
     unfold St.mk_ St.cells
     rw [blk_put, blk_setOwn, if_pos ⟨rfl, hlen⟩]
     exact hcs
    have := ho d cs hc' o'
    unfold upd at this
    rwa [if_pos rfl] at this
 ·obtain ⟨c2, c2'⟩ := hcl ((args.map (SV.seen false)).flatten) fun i hi => hnam i (flat_ids (seen_ids false) args i hi)
  rw [c2]
  generalize hps : st.close 40 ((args.map (SV.seen false)).flatten) [] = ps at *
  have hpc : ∀ i ∈ ps, (st.cells i).isSome = true := by rw [← hps]; exact close_cells 40 _ [] (by simp)
  have hrw : ∀ l : List Nat, (∀ i ∈ l, i ≠ d) → (st.mk_ d ow e).rows l = st.rows l ∧ (st.mk_ d ow e).mineB l = st.mineB l := fun l hl' => by
   induction l with
   | nil => exact ⟨rfl, rfl⟩
   | cons i r ih =>
    obtain ⟨i1, i3⟩ := ih fun j hj => hl' j (by simp [hj])
    have e1 := mk_cells (st := st) (ow := ow) (e := e) (hl' i (by simp))
    have e2 := mk_blk (st := st) (ow := ow) (e := e) (hl' i (by simp))
    unfold St.rows St.mineB at *
    simp only [List.filterMap_cons, List.all_cons, e1, e2, i1, i3, and_self]
  obtain ⟨r3, r4⟩ := hrw ps c2'
  simp only [r3, r4]
  have hargs : denL (upd bk d b) args = denL bk args := idsL_ne bk b hnam
  have hpub : ∀ Kk : Mem → Prop, PubTo bk (st.rows ps) u Kk → PubTo (upd bk d b) (st.rows ps) u Kk := fun Kk hp => by
   have hrd' : ∀ q ∈ st.rows ps, upd bk d b q.1 = bk q.1 ∧ denL (upd bk d b) q.2 = denL bk q.2 := fun q hq => by
    rw [rows_map hpc] at hq
    obtain ⟨i, hi, rfl⟩ := List.mem_map.1 hq
    obtain ⟨cs, hcs⟩ := Option.isSome_iff_exists.1 (hpc i hi)
    exact ⟨by unfold upd; rw [if_neg (c2' i hi)], by rw [hcs]; exact idsL_ne bk b (hn.own i cs hcs)⟩
   generalize st.rows ps = l at hp hrd' ⊢
   cases l with
   | nil => exact hp
   | cons q l =>
    refine fun u1 h1 h2 => hp u1 h1 fun q' hq' j v hv => ?_
    have := h2 q' hq' j v (by rw [(hrd' q' hq').2]; exact hv)
    rwa [(hrd' q' hq').1] at this
  have hmkf : ∀ dx ex, dx ≠ some d → ((st.mk_ d ow e).shut ps).put dx ex = ((st.shut ps).put dx ex).mk_ d ow e := fun dx ex hdx => by
   rw [mk_shut ps _ c2', mk_put hdx]
  obtain ⟨h1, h2, h3, hx, h7, h8⟩ := h
  have hx' : fl.lds.all ((st.mk_ d ow e).okP ps) = true := by rw [okPs_congr (st := st) fun t ht => mk_get (fun he => hM hkind.1 (by rw [← he]; exact ht))]; exact hx
  refine ⟨h1, h2, h3, hx', fun hg => hpub _ ((h7 hg).mono fun u1 hc => ?_), fun hg => by rw [hmkf _ _ hd]; exact h8 hg hub⟩
  rw [hargs]
  refine hc.mono fun v u' ⟨xs, e1, e3⟩ => ⟨xs, ?_, fun ho => ?_⟩
  ·rw [e1]; exact (den_congr _ fun i hi => by rw [resSV_ids] at hi; cases hi).symm
  ·rw [hmkf _ _ hd]
   have hmk2 : (st.mk_ d ow e).shut ps = (st.shut ps).mk_ d ow e := by rw [mk_shut ps _ c2']
   rw [hmk2] at ho
   have hsl : ∀ (l : List Nat) (s : St S.ty), (s.shut l).own.length = s.own.length := by
    intro l
    induction l with
    | nil => intro s; rfl
    | cons i l ih => intro s; simp only [St.shut]; cases s.blk i with
     | none => exact ih s
     | some x => simp only []; rw [ih]; simp [St.setOwn]
   have hlen : d < (st.shut ps).own.length := by rw [hsl]; exact hdl
   have hbd' : (st.shut ps).blk d = none := by rw [blk_shut, hbd]; split <;> rfl
   refine e3 (fun i cs hcs o' => ?_) fun o' => ?_
   ·by_cases hi : i = d
    ·rw [hi] at hcs; unfold St.cells at hcs; rw [hbd'] at hcs; cases hcs
    ·have := ho i cs (by rw [mk_cells hi]; exact hcs) o'
     unfold upd at this
     rwa [if_neg hi] at this
   ·obtain ⟨cs, hcs⟩ := Option.isSome_iff_exists.1 how
    have hc' : ((st.shut ps).mk_ d ow e).cells d = some cs := by
     unfold St.mk_ St.cells
     rw [blk_put, blk_setOwn, if_pos ⟨rfl, hlen⟩]
     exact hcs
    have := ho d cs hc' o'
    unfold upd at this
    rwa [if_pos rfl] at this
end
end Go.Proofs.YtpfbimkpcnnfkaaGreatDoor.Sx
