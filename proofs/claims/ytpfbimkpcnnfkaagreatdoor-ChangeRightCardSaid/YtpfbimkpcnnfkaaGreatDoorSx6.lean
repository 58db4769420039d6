/- Sx: every operation that only gives a value. Nothing of the program. -/
import Derived.Test.YtpfbimkpcnnfkaaGreatDoorSxEq
/- Sx: operations that only give a value: the model's operation gives what the symbolic one says. Nothing of the program. -/
set_option linter.unusedVariables false
set_option linter.unusedSimpArgs false
namespace Go.Proofs.YtpfbimkpcnnfkaaGreatDoor.Sx
open Go Go.Proofs.YtpfbimkpcnnfkaaGreatDoor
section
variable {P : Program} {c : Ctx} {F : Nat → Prop} {st : St S.ty} {bk : Nat → Nat} {a : Act} {w : World} {u : Mem} {lab : List (Nat × Bool)}
def Val (P : Program) (o : Oper) (a : Act) (w : World) (st : St S.ty) (bk : Nat → Nat) (x : SV S.ty) : Prop :=
 (execOp a.eval o).run P w = .ok (.value (x.den bk)) w ∧ ∀ i ∈ x.ids, live st i
theorem fillCells {f : Nat → Option (Nat × Nat)} {l r : List Value} {n off : Nat} (hn : r.length = n) (ho : off + n ≤ l.length) :
  (r.toArray.zipIdx.foldl (fun cs (c, j) => cs.setIfInBounds (off + j) c) l.toArray) = (l.take off ++ r ++ l.drop (off + n)).toArray := by
 subst hn
 rw [← Array.foldl_toList]
 simp only [Array.toList_zipIdx]
 have key : ∀ (r : List Value) (k : Nat) (l : List Value), off + k + r.length ≤ l.length →
   (r.zipIdx k).foldl (fun cs (c, j) => cs.setIfInBounds (off + j) c) l.toArray = (l.take (off + k) ++ r ++ l.drop (off + k + r.length)).toArray := by
  intro r
  induction r with
  | nil => intro k l _; simp
  | cons x r ih =>
   intro k l hl
   simp only [List.zipIdx_cons, List.foldl_cons]
   simp only [List.length_cons] at hl
   rw [List.setIfInBounds_toArray, ih (k + 1) (l.set (off + k) x) (by simp; omega)]
   congr 1
   rw [show off + (k + 1) = off + k + 1 by omega, List.take_set, List.drop_set_of_lt (by omega), List.take_succ_eq_append_getElem (by omega)]
   have e : ((List.take (off + k) l ++ [l[off + k]]).set (off + k) x) = List.take (off + k) l ++ [x] := by
    rw [List.set_append_right _ _ (by simp; omega)]
    simp [Nat.min_eq_left (show off + k ≤ l.length by omega)]
   rw [e]
   simp [show off + k + 1 + r.length = off + k + (r.length + 1) by omega]
 simpa using key r 0 l (by omega)
theorem fill_ok (bk : Nat → Nat) {f : Nat → Option (Nat × Nat)} {t : TypeId} (hf : ∀ i off ft n, fieldB P t i = some (off, ft) → sizeB P ft = some n → f i = some (off, n)) :
  ∀ (ps : List (Nat × SV S.ty)) (cs rs : List (SV S.ty)) (obs : List (Ob S.ty)), fillSV P t cs ps = some rs → boxesObs ps = some obs → (∀ p ∈ obs, p.den) →
   Instr.fill f (denL bk cs).toArray (ps.map fun p => (p.1, p.2.den bk)) = some (denL bk rs).toArray ∧ rs.length = cs.length ∧ ∀ i ∈ idsL rs, i ∈ idsL cs ∨ ∃ p ∈ ps, i ∈ p.2.ids
 | [], cs, rs, obs, h, _, _ => by simp only [fillSV, Option.some.injEq] at h; subst h; exact ⟨rfl, rfl, fun i hi => .inl hi⟩
 | (i, x) :: r, cs, rs, obs, h, hb, ho => by
  simp only [fillSV] at h
  split at h
  ·rename_i off ft h1
   split at h
   ·rename_i n h2
    split at h
    ·rename_i h3
     simp only [boxesObs] at hb
     split at hb
     ·rename_i l l' b1 b2
      cases hb
      have hx := boxObs_ok bk b1 (fun p hp => ho p (by simp [hp]))
      obtain ⟨e1, e2, e3⟩ := fill_ok bk hf r _ _ _ h b2 (fun p hp => ho p (by simp [hp]))
      refine ⟨?_, ?_, ?_⟩
      ·simp only [List.map_cons, Instr.fill, hf i off ft n h1 h2, hx]
       rw [if_neg (by simp [denL_len]; omega)]
       rw [fillCells (f := f) (n := n) (by rw [denL_len]; exact h3.1) (by rw [denL_len]; exact h3.2)]
       rw [← e1]
       simp only [denL_app, denL_take, denL_drop]
      ·rw [e2]; simp; omega
      ·intro k hk
       rcases e3 k hk with hk | ⟨p, hp, hk⟩
       ·rw [idsL_app, idsL_app, List.mem_append, List.mem_append] at hk
        rcases hk with (hk | hk) | hk
        ·exact .inl (by obtain ⟨y, hy, hz⟩ := mem_idsL.1 hk; exact mem_idsL.2 ⟨y, List.mem_of_mem_take hy, hz⟩)
        ·exact .inr ⟨_, List.mem_cons_self, by rwa [cells_ids] at hk⟩
        ·exact .inl (by obtain ⟨y, hy, hz⟩ := mem_idsL.1 hk; exact mem_idsL.2 ⟨y, List.mem_of_mem_drop hy, hz⟩)
       ·exact .inr ⟨p, List.mem_cons_of_mem _ hp, hk⟩
     ·cases hb
    ·cases h
   ·cases h
  ·cases h
theorem binI_ok {o : BinOp} {t : TypeId} {k : IntKind} {x y : Int} {w : World} : (match o with | .add | .sub | .mul | .and | .or | .xor | .andNot => True | .quo | .rem => ¬ y = 0 | _ => False) →
  (binOp o t (.int k x) (.int k y)).run P w = .ok (.int k (binI o k x y)) w := by
 intro h
 cases o <;> simp_all [binOp, Op.intArith, Op.intBits, Op.intDiv, binI, Sem.run]
theorem cmpI_ok {o : BinOp} {t : TypeId} {k : IntKind} {x y : Int} {w : World} : (match o with | .eql | .neq | .lss | .leq | .gtr | .geq => True | _ => False) →
  (binOp o t (.int k x) (.int k y)).run P w = .ok (.bool (cmpI o x y)) w := by
 intro h
 cases o <;> simp_all [binOp, Op.intCmp, cmpI, Sem.run]
theorem cmpT_ok {o : BinOp} {t : TypeId} {x y : ByteArray} {w : World} : (match o with | .eql | .neq | .lss | .leq | .gtr | .geq => True | _ => False) →
  (binOp o t (.string x) (.string y)).run P w = .ok (.bool (cmpT o x y)) w := by
 intro h
 cases o <;> simp_all [binOp, Op.stringOp, cmpT, Sem.run]
theorem guard_ok {o : BinOp} {t : TypeId} {x y : Operand} {v v' : Value} (w : World) (h : (∀ l, v ≠ .agg l)) (h' : v = .nilIface → v' = .nilIface → (∃ z, x = .const z) ∨ (∃ z, y = .const z)) : (eqGuard o t x y v v').run P w = .ok () w := by
 unfold eqGuard
 split
 case h_3 => simp [Sem.run]
 all_goals
  simp only [Bool.not_true, Bool.false_eq_true, if_false]
  split
  ·have := h' rfl rfl
   rcases this with ⟨z, rfl⟩ | ⟨z, rfl⟩ <;> simp [Sem.run]
  ·exact absurd rfl (h _)
  ·rfl
theorem equalB {t : TypeId} (h : isBoolT P t = true) (x y : Bool) : (Op.equal t (.bool x) (.bool y)).run P w = .ok (x == y) w := by
 unfold isBoolT at h
 split at h
 ·rename_i hu
  have key : ∀ d, (Op.equalIn (d + 1) t (.bool x) (.bool y)).run P w = .ok (x == y) w := fun d => by simp [Op.equalIn, Sem.run_bind, run_underlying hu]
  exact key 9999
 ·cases h
theorem equalI {t : TypeId} (h : isIfcT P t = true) (x : Value) (hx : x = .nilIface ∨ ∃ t v, x = .iface t v) : (Op.equal t x .nilIface).run P w = .ok (nilB x) w := by
 unfold isIfcT at h
 split at h
 ·rename_i hu
  have key : ∀ d, (Op.equalIn (d + 1) t x .nilIface).run P w = .ok (nilB x) w := fun d => by rcases hx with rfl | ⟨t', v, rfl⟩ <;> simp [Op.equalIn, Sem.run_bind, run_underlying hu, nilB]
  exact key 9999
 ·cases h
theorem equalS {t : TypeId} (h : isSliceT P t = true) (a : Option Addr) (l c : Nat) : (Op.equal t (.slice a l c) (.slice none 0 0)).run P w = .ok a.isNone w := by
 unfold isSliceT at h
 split at h
 ·rename_i hu
  have key : ∀ d, (Op.equalIn (d + 1) t (.slice a l c) (.slice none 0 0)).run P w = .ok a.isNone w := fun d => by cases a <;> simp [Op.equalIn, run_underlying hu]
  exact key 9999
 ·cases h
theorem binRes_ok {o : BinOp} {t : TypeId} {cx cy : Operand} {x y z : SV S.ty} {obs : List (Ob S.ty)} (h : binRes P t o (isConst cx || isConst cy) x y = .put obs z) (ho : ∀ p ∈ obs, p.den) :
  ((eqGuard o t cx cy (x.den bk) (y.den bk)).run P w = .ok () w ∧ (binOp o t (x.den bk) (y.den bk)).run P w = .ok (z.den bk) w) ∧ z.ids = [] := by
 have hc : (isConst cx || isConst cy) = true → (∃ z, cx = .const z) ∨ ∃ z, cy = .const z := by
  intro h
  rw [Bool.or_eq_true] at h
  rcases h with h | h
  ·left; cases cx <;> simp_all [isConst]
  ·right; cases cy <;> simp_all [isConst]
 unfold binRes at h
 split at h
 ·split at h
  ·rename_i k x k' y hs
   split at h
   ·split at h
    ·rename_i n hn
     cases h
     refine ⟨⟨guard_ok w (by simp [SV.den]) (by simp [SV.den]), ?_⟩, rfl⟩
     have hn' : ¬ n < 0 := by omega
     rcases hs with rfl | rfl
     ·simp only [SV.den, E.den, shfI, binOp_shl, Op.shift, if_neg hn']; rfl
     ·simp only [SV.den, E.den, shfI, binOp_shr, Op.shift, if_neg hn']; rfl
    ·cases h
   ·cases h
  split at h
  ·rename_i k x k' y hs hk
   subst hk
   refine ⟨⟨guard_ok w (by simp [SV.den]) (by simp [SV.den]), ?_⟩, ?_⟩
   ·simp only [SV.den]
    cases o <;> simp only [Res.put.injEq, reduceCtorEq] at h <;> obtain ⟨rfl, rfl⟩ := h <;> simp only [SV.den, E.den] <;>
     first | exact binI_ok (by trivial) | exact cmpI_ok (by trivial) | (refine binI_ok ?_; have := ho (.nz y) (by simp); exact this)
   ·cases o <;> simp only [Res.put.injEq, reduceCtorEq] at h <;> obtain ⟨rfl, rfl⟩ := h <;> rfl
  ·cases h
 ·rename_i x y
  refine ⟨⟨guard_ok w (by simp [SV.den]) (by simp [SV.den]), ?_⟩, ?_⟩
  ·simp only [SV.den]
   cases o <;> simp only [Res.put.injEq, reduceCtorEq] at h <;> obtain ⟨rfl, rfl⟩ := h <;> simp only [SV.den, E.den] <;> first | exact cmpT_ok (by trivial) | skip
   have := ho (.cat x y) (by simp)
   simp only [Ob.den] at this
   simp only [binOp, Op.stringOp]
   have hm : IntKind.i64.max = 9223372036854775807 := by decide
   rw [if_neg (by rw [hm]; omega)]
   rfl
  ·cases o <;> simp only [Res.put.injEq, reduceCtorEq] at h <;> obtain ⟨rfl, rfl⟩ := h <;> rfl
 ·split at h
  ·rename_i x y ht
   refine ⟨⟨guard_ok w (by simp [SV.den]) (by simp [SV.den]), ?_⟩, ?_⟩
   ·simp only [SV.den]
    cases o <;> simp only [Res.put.injEq, reduceCtorEq] at h <;> obtain ⟨rfl, rfl⟩ := h <;> simp [binOp, SV.den, E.den, Sem.run_bind, equalB ht]
   ·cases o <;> simp only [Res.put.injEq, reduceCtorEq] at h <;> obtain ⟨rfl, rfl⟩ := h <;> rfl
  ·cases h
 ·split at h
  ·rename_i x ht
   rw [Bool.and_eq_true] at ht
   cases o <;> simp only [Res.put.injEq, reduceCtorEq] at h <;> obtain ⟨rfl, rfl⟩ := h <;>
   ·have h1 := ho (.ifc x) (by simp)
    simp only [Ob.den] at h1
    refine ⟨⟨guard_ok w ?_ (fun _ _ => hc ht.2), ?_⟩, rfl⟩
    ·intro l; simp only [SV.den]; rcases h1 with h1 | ⟨t', v, h1⟩ <;> rw [h1] <;> simp
    ·simp only [SV.den, E.den]
     generalize E.den x = v at h1 ⊢
     have := equalI (w := w) ht.1 v h1
     rcases h1 with rfl | ⟨t', v, rfl⟩ <;> simp [binOp, Sem.run_bind, this]
  ·cases h
 ·split at h
  ·rename_i k x ht
   cases o <;> simp only [Res.put.injEq, reduceCtorEq] at h <;> obtain ⟨rfl, rfl⟩ := h <;>
   ·refine ⟨⟨guard_ok w (by simp [SV.den]) (by simp [SV.den]), ?_⟩, rfl⟩
    have := equalI (w := w) ht (.iface k (x.den bk)) (.inr ⟨_, _, rfl⟩)
    simp [binOp, SV.den, E.den, Sem.run_bind, this, nilB]
  ·cases h
 ·split at h
  ·rename_i ht
   rw [Bool.and_eq_true] at ht
   cases o <;> simp only [Res.put.injEq, reduceCtorEq] at h <;> obtain ⟨rfl, rfl⟩ := h <;>
   ·refine ⟨⟨guard_ok w (by simp [SV.den]) (fun _ _ => hc ht.2), ?_⟩, rfl⟩
    have := equalI (w := w) ht.1 .nilIface (.inl rfl)
    simp [binOp, SV.den, E.den, Sem.run_bind, this, nilB]
  ·cases h
 ·split at h
  ·rename_i a n c ht
   cases o <;> simp only [Res.put.injEq, reduceCtorEq] at h <;> obtain ⟨rfl, rfl⟩ := h <;>
   ·refine ⟨⟨guard_ok w (by simp [SV.den]) (by simp [SV.den]), ?_⟩, rfl⟩
    have := equalS (w := w) ht (E.den a) (E.den n) (E.den c)
    simp [binOp, SV.den, E.den, Sem.run_bind, this]
  ·cases h
 ·split at h
  ·rename_i e he
   obtain ⟨q1, q2⟩ := structE_run (w := w) (bk := bk) he
   cases o <;> simp only [Res.put.injEq, reduceCtorEq] at h <;> obtain ⟨rfl, rfl⟩ := h <;>
   ·refine ⟨⟨q1 _ _ _, ?_⟩, rfl⟩
    simp [binOp, SV.den, E.den, Sem.run_bind, q2]
  ·cases h
 ·cases h
end
end Go.Proofs.YtpfbimkpcnnfkaaGreatDoor.Sx
set_option linter.unusedVariables false
set_option linter.unusedSimpArgs false
namespace Go.Proofs.YtpfbimkpcnnfkaaGreatDoor.Sx
open Go Go.Proofs.YtpfbimkpcnnfkaaGreatDoor
section
variable {P : Program} {c : Ctx} {F : Nat → Prop} {st : St S.ty} {bk : Nat → Nat} {a : Act} {w : World} {u : Mem} {lab : List (Nat × Bool)}
theorem asIntOf_int (k : IntKind) (n : Int) (w : World) : (asIntOf (.int k n)).run P w = .ok (k, n) w := rfl
theorem mkNat_den (e : E S.ty .I) : (mkNat e).den = Int.toNat e.den := by
 unfold mkNat
 split
 ·rfl
 ·simp only [E.den, Int.toNat_natCast]
 ·rfl
theorem fieldB_spec {t : TypeId} {f off : Nat} {ft : TypeId} (h : fieldB P t f = some (off, ft)) : ∃ fs x, P.underlying t = some (.struct fs) ∧ fs[f]? = some x ∧ x.offset = off ∧ x.type = ft := by
 unfold fieldB at h
 split at h
 ·rename_i fs hu
  cases hx : fs[f]? with
  | none => rw [hx] at h; cases h
  | some x => rw [hx] at h; simp at h; exact ⟨fs, x, hu, hx, h.1, h.2⟩
 ·cases h
theorem run_fieldPlace {x : Field} {n : Nat} (h : sizeB P x.type = some (n + 1)) (p : Addr) (w : World) : (fieldPlace p x).run P w = .ok (p.add x.offset) w := by
 simp [fieldPlace, Sem.run_bind, run_sizeB h]
theorem add_add (p : Addr) (m n : Nat) : (p.add m).add n = p.add (m + n) := by
 unfold Addr.add
 by_cases h : m = 0
 ·subst h; simp
 ·by_cases h' : n = 0
  ·subst h'; simp [h]
  ·simp [h, h', Nat.add_assoc]
theorem mem_head {V : S → Type} {x : SV V} {l : List (SV V)} {i : Nat} (h : l[i]? = some x) : x ∈ l := List.mem_of_getElem? h
theorem run_mapM_list {α β : Type} (f : α → Sem β) (g : α → β) (w : World) : ∀ l : List α, (∀ x ∈ l, (f x).run P w = .ok (g x) w) → (l.mapM f).run P w = .ok (l.map g) w
 | [], _ => rfl
 | x :: r, h => by
  rw [List.mapM_cons]
  simp only [Sem.run_bind, h x (by simp), Result.andThen_ok, run_mapM_list f g w r (fun y hy => h y (by simp [hy])), Sem.run_pure, List.map_cons]
theorem run_mapM {α β : Type} (f : α → Sem β) (g : α → β) (w : World) (l : Array α) (h : ∀ x ∈ l, (f x).run P w = .ok (g x) w) : (l.mapM f).run P w = .ok (l.map g) w := by
 have := run_mapM_list (P := P) f g w l.toList (fun x hx => h x (by simpa using hx))
 rw [Array.mapM_eq_mapM_toList]
 simp only [Sem.run_bind, Sem.run_map, this, Result.andThen_ok]
 rw [← Array.toList_map, Array.toArray_toList]
theorem len_str {ts : Array TypeId} {ty : TypeId} {x : ByteArray} {w : World} (h : (ts[0]?).bind P.underlying = some .string) : (Builtin.len_ ts ty #[.string x]).run P w = .ok (.int .i64 x.size) w := by
 cases h0 : ts[0]? with
 | none => rw [h0] at h; cases h
 | some t => rw [h0] at h; simp at h; simp [Builtin.len_, h0, Sem.run_bind, run_underlying h, goInt]
theorem len_sl {ts : Array TypeId} {ty e : TypeId} {x : Option Addr} {n c : Nat} {w : World} (h : (ts[0]?).bind P.underlying = some (.slice e)) : (Builtin.len_ ts ty #[.slice x n c]).run P w = .ok (.int .i64 n) w := by
 cases h0 : ts[0]? with
 | none => rw [h0] at h; cases h
 | some t => rw [h0] at h; simp at h; simp [Builtin.len_, h0, Sem.run_bind, run_underlying h, goInt]
theorem cap_sl {ts : Array TypeId} {ty e : TypeId} {x : Option Addr} {n c : Nat} {w : World} (h : (ts[0]?).bind P.underlying = some (.slice e)) : (Builtin.cap_ ts ty #[.slice x n c]).run P w = .ok (.int .i64 c) w := by
 cases h0 : ts[0]? with
 | none => rw [h0] at h; cases h
 | some t => rw [h0] at h; simp at h; simp [Builtin.cap_, h0, Sem.run_bind, run_underlying h, goInt]
theorem conv_int {s d : TypeId} {k0 k1 k : IntKind} {n : Int} {w : World} (hs : P.underlying s = some (.int k0)) (hd : P.underlying d = some (.int k1)) : (convert s d (.int k n)).run P w = .ok (.int k1 (k1.wrap n)) w := by
 simp [convert, Sem.run_bind, run_underlying hs, run_underlying hd, Conv.intToInt]
theorem conv_str {s d : TypeId} {x : ByteArray} {w : World} (hs : P.underlying s = some .string) (hd : P.underlying d = some .string) : (convert s d (.string x)).run P w = .ok (.string x) w := by
 simp [convert, Sem.run_bind, run_underlying hs, run_underlying hd]
def BoundIs (v : Option Value) (x : Int) (d : Int) : Prop := (v = none ∧ x = d) ∨ ∃ k, v = some (.int k x)
theorem run_sliceBounds {isS : Bool} {len cap : Nat} {lo hi : Option Value} {l h : Int} (hl : BoundIs lo l 0) (hh : BoundIs hi h len) (h0 : 0 ≤ l) (h1 : l ≤ h) (h2 : h ≤ cap) (w : World) :
  (Instr.sliceBounds isS len cap lo hi none).run P w = .ok (l.toNat, h.toNat, cap) w := by
 have hp : (match hi, (none : Option Value) with
   | some v, some _ => Instr.sliceBound v cap .slice3B
   | some v, none => Instr.sliceBound v cap (if isS then .sliceAcap else .sliceAlen)
   | none, none => pure len
   | none, some _ => stuck "Slice: max without high").run P w = .ok h.toNat w := by
  rcases hh with ⟨rfl, rfl⟩ | ⟨k, rfl⟩
  ·simp
  ·simp only [Instr.sliceBound, Sem.run_bind, asIntOf_int, Result.andThen_ok]
   rw [if_pos ⟨by omega, h2⟩]; rfl
 unfold Instr.sliceBounds
 simp only [Sem.run_bind, Sem.run_pure, Result.andThen_ok]
 rcases hh with ⟨rfl, rfl⟩ | ⟨k, rfl⟩
 ·rcases hl with ⟨rfl, rfl⟩ | ⟨k', rfl⟩
  ·simp
  ·simp only [Sem.run_pure, Result.andThen_ok, Instr.sliceBound, Sem.run_bind, asIntOf_int]
   rw [if_pos ⟨h0, h1⟩]; simp
 ·rcases hl with ⟨rfl, rfl⟩ | ⟨k', rfl⟩
  ·simp only [Sem.run_pure, Result.andThen_ok, Instr.sliceBound, Sem.run_bind, asIntOf_int]
   rw [if_pos ⟨by omega, h2⟩]; simp
  ·simp only [Sem.run_pure, Result.andThen_ok, Instr.sliceBound, Sem.run_bind, asIntOf_int]
   rw [if_pos ⟨by omega, h2⟩]
   simp only [Sem.run_pure, Result.andThen_ok, Instr.sliceBound, Sem.run_bind, asIntOf_int]
   rw [if_pos ⟨h0, by omega⟩]; simp
theorem slice_str {t : TypeId} {x : ByteArray} {lo hi : Option Value} {l h : Int} (hu : P.underlying t = some .string) (hl : BoundIs lo l 0) (hh : BoundIs hi h x.size) (h0 : 0 ≤ l) (h1 : l ≤ h) (h2 : h ≤ x.size) (w : World) :
  (Instr.sliceAt t (.string x) lo hi none).run P w = .ok (.string (x.extract l.toNat h.toNat)) w := by
 have := run_sliceBounds (P := P) (isS := false) hl hh h0 h1 h2 w
 simp [Instr.sliceAt, Instr.slice, Sem.run_bind, run_underlying hu, this]
theorem slice_sl {t e : TypeId} {A : Option Addr} {n cp k : Nat} {lo hi : Option Value} {l h : Int} (hu : P.underlying t = some (.slice e)) (hk : sizeB P e = some k) (hl : BoundIs lo l 0) (hh : BoundIs hi h n) (h0 : 0 ≤ l) (h1 : l ≤ h) (h2 : h ≤ cp) (w : World) :
  (Instr.sliceAt t (.slice A n cp) lo hi none).run P w = .ok (.slice (if cp = l.toNat then A else A.map (·.add (l.toNat * k))) (h.toNat - l.toNat) (cp - l.toNat)) w := by
 have := run_sliceBounds (P := P) (isS := true) hl hh h0 h1 h2 w
 simp [Instr.sliceAt, Instr.slice, Sem.run_bind, run_underlying hu, this, run_sizeB hk]
theorem run_indexAt {t e : TypeId} {b : Addr} {n cp k : Nat} {ik : IntKind} {i : Int} (hu : P.underlying t = some (.slice e)) (hk : sizeB P e = some k) (h0 : 0 ≤ i) (h1 : i < n) (w : World) :
  (Instr.indexAt t (.slice (some b) n cp) (.int ik i)).run P w = .ok (.pointer (some (b.add (i.toNat * k)))) w := by
 simp [Instr.indexAt, Sem.run_bind, asIntOf_int, run_underlying hu, h0, h1, run_sizeB hk]
theorem run_index {t : TypeId} {x : ByteArray} {ik : IntKind} {i : Int} (hu : P.underlying t = some .string) (h0 : 0 ≤ i) (h1 : i < x.size) (w : World) :
  (Instr.index t (.string x) (.int ik i)).run P w = .ok (.int .u8 (byteAt x i)) w := by
 have hi : i.toNat < x.size := by omega
 simp [Instr.index, Sem.run_bind, asIntOf_int, run_underlying hu, h0, byteAt, getElem?_pos x i.toNat hi]
end
end Go.Proofs.YtpfbimkpcnnfkaaGreatDoor.Sx
