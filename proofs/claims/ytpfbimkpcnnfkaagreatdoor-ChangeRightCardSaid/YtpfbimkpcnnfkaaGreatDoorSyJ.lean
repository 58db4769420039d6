/- errors.Is, of joined refusals against a pointer's error. -/
import Derived.Test.YtpfbimkpcnnfkaaGreatDoorExtS
import Derived.WalkKit
import Derived.LaidEql
import Derived.Stop.Asserts
import Derived.RowKitTokens
/- errors.Is, of refusals against a pointer's error. -/
/- errors.As, for joined refusals. -/
/- errors.As, for a refusal: what is found there. -/
set_option linter.unusedVariables false
set_option linter.unusedSimpArgs false
namespace Go.Proofs.YtpfbimkpcnnfkaaGreatDoor.Ext
open Go Go.RowKit Go.Proofs.YtpfbimkpcnnfkaaGreatDoor Go.Proofs.YtpfbimkpcnnfkaaGreatDoorW.PrintWords Go.Extern.Stop Go.Stop Go.Extern
theorem asr_valueOf27 (t : Addr) (w : World) : (ReflectliteValue.unpack (.iface 174 (.pointer (some t)))).run Tryz.prog w
  = .ok (.agg #[.pointer (some ⟨5, 174, none⟩), .pointer (some ⟨w.heap.size, 0, none⟩), .int .u64 150]) (w.alloc (.cells #[.pointer (some t)] 174)) := by kernel_rfl
theorem asr_type27 (a : Addr) (w : World) : (ReflectliteValue.methodAny (ReflectliteValue.valueError "reflectlite.Value.Type" 0) (fun t _ _ _ => ReflectliteType.toType t) #[.agg #[.pointer (some ⟨5, 174, none⟩), .pointer (some a), .int .u64 150]]).run Tryz.prog w
  = .ok (.iface 201 (.agg #[.pointer (some ⟨5, 174, none⟩)])) w := by kernel_rfl
theorem asr_methodKind (h : Value) (w : World) : (Go.method 374 201 (.agg #[h]) "Kind").run Tryz.prog w = .ok (188, h) w := by kernel_rfl
theorem asr_kind27 (w : World) : ((ReflectliteType.abiMethod fun t => (fun a : Nat => Value.int IntKind.u8 (a : Int)) <$> Rtype.kind t) #[.pointer (some ⟨5, 174, none⟩)]).run Tryz.prog w = .ok (.int .u8 22) w := by kernel_rfl
theorem asr_kind25 (w : World) : ((ReflectliteType.abiMethod fun t => (fun a : Nat => Value.int IntKind.u8 (a : Int)) <$> Rtype.kind t) #[.pointer (some ⟨5, 92, none⟩)]).run Tryz.prog w = .ok (.int .u8 2) w := by kernel_rfl
theorem rrm (z : Sem Value) (f : TypeId → Addr → Nat → Nat → Sem Value) (v : Value) :
  ReflectliteValue.method z f #[v] = (do match ← ReflectliteValue.parts v with | none => z | some (t, a, fl) => f t a fl (fl % 32)) := rfl
theorem asr_parts27 (a : Addr) (w : World) : (ReflectliteValue.parts (.agg #[.pointer (some ⟨5, 174, none⟩), .pointer (some a), .int .u64 150])).run Tryz.prog w = .ok (some (174, a, 150)) w := by kernel_rfl
theorem asr_isNil27 (a p : Addr) (W : World) (ha : W.cell? a = some (.pointer (some p))) :
  (ReflectliteValue.method (ReflectliteValue.valueError "reflectlite.Value.IsNil" 0) ReflectliteValue.isNil #[.agg #[.pointer (some ⟨5, 174, none⟩), .pointer (some a), .int .u64 150]]).run Tryz.prog W = .ok (.bool false) W := by
 rw [rrm]
 simp only [Sem.run_bind, asr_parts27, Result.andThen]
 simp [ReflectliteValue.isNil, loadVar, isAgg, underlying, Tryz.underlying174, ha, Result.andThen]
theorem asr_methodElem (h : Value) (w : World) : (Go.method 374 201 (.agg #[h]) "Elem").run Tryz.prog w = .ok (204, .agg #[h]) w := by kernel_rfl
theorem asr_methodImplements (h : Value) (w : World) : (Go.method 374 201 (.agg #[h]) "Implements").run Tryz.prog w = .ok (205, .agg #[h]) w := by kernel_rfl
theorem asr_methodAssignableTo (h : Value) (w : World) : (Go.method 374 201 (.agg #[h]) "AssignableTo").run Tryz.prog w = .ok (202, .agg #[h]) w := by kernel_rfl
theorem asr_elem27 (w : World) : (ReflectliteType.method ReflectliteType.elem #[.agg #[.pointer (some ⟨5, 174, none⟩)]]).run Tryz.prog w = .ok (.iface 201 (.agg #[.pointer (some ⟨5, 92, none⟩)])) w := by kernel_rfl
theorem asr_implements25 (w : World) : (ReflectliteType.relation "Implements" ReflectliteType.implements_ #[.agg #[.pointer (some ⟨5, 92, none⟩)], .iface 201 (.agg #[.pointer (some ⟨5, 85, none⟩)])]).run Tryz.prog w = .ok (.bool true) w := by kernel_rfl
theorem asr_typeOf25 (v : Value) (w : World) : (ReflectliteType.typeOf #[.iface 92 v]).run Tryz.prog w = .ok (.iface 201 (.agg #[.pointer (some ⟨5, 92, none⟩)])) w := by kernel_rfl
theorem asr_assignable25 (w : World) : (ReflectliteType.relation "AssignableTo" ReflectliteType.assignableTo #[.agg #[.pointer (some ⟨5, 92, none⟩)], .iface 201 (.agg #[.pointer (some ⟨5, 92, none⟩)])]).run Tryz.prog w = .ok (.bool true) w := by kernel_rfl
theorem asr_valueOf25 (e : Int) (w : World) : (ReflectliteValue.unpack (.iface 92 (.int .i64 e))).run Tryz.prog w
  = .ok (.agg #[.pointer (some ⟨5, 92, none⟩), .pointer (some ⟨w.heap.size, 0, none⟩), .int .u64 130]) (w.alloc (.cells #[.int .i64 e] 92)) := by kernel_rfl
theorem asr_elemOf27 (w : World) : (Rtype.elem? 174).run Tryz.prog w = .ok (some 92) w := by kernel_rfl
theorem asr_mk25 (p : Addr) (w : World) : (ReflectliteValue.mk 92 p ReflectliteValue.flagAddr).run Tryz.prog w = .ok (.agg #[.pointer (some ⟨5, 92, none⟩), .pointer (some p), .int .u64 386]) w := by kernel_rfl
theorem asr_elemV27 (a p : Addr) (W : World) (ha : W.cell? a = some (.pointer (some p))) :
  (ReflectliteValue.method (ReflectliteValue.valueError "reflectlite.Value.Elem" 0) ReflectliteValue.elem #[.agg #[.pointer (some ⟨5, 174, none⟩), .pointer (some a), .int .u64 150]]).run Tryz.prog W
   = .ok (.agg #[.pointer (some ⟨5, 92, none⟩), .pointer (some p), .int .u64 386]) W := by
 rw [rrm]
 simp only [Sem.run_bind, asr_parts27, Result.andThen]
 simp [ReflectliteValue.elem, loadVar, isAgg, underlying, Tryz.underlying174, ha, Result.andThen, asr_elemOf27, asr_mk25]
theorem rrs (v x : Value) : ReflectliteValue.set #[v, x] = (do
  let (some (dst, a, fl), some (src, b, _)) := (← ReflectliteValue.parts v, ← ReflectliteValue.parts x)
   | unsupported (.noEntry "extern/(internal/reflectlite.Value).Set.zeroValue")
  if fl / ReflectliteValue.flagAddr % 2 == 0 then unsupported (.noEntry "extern/(internal/reflectlite.Value).Set.unaddressable")
  let val ← loadVar src b
  if ← Rtype.directlyAssignable dst src then storeVar dst a val
  else if ← Rtype.implements dst src then
   if (← Rtype.kind src) == 20 then
    match val with
    | .nilIface => unsupported (.noEntry "extern/reflectlite: a nil value of one interface type handed on as a value of another")
    | _ => storeVar dst a val
   else storeVar dst a (.iface src val)
  else panicString ("reflectlite.Set: value of type " ++ (← Rtype.spelt src) ++ " is not assignable to type " ++ (← Rtype.spelt dst))
  pure (.tuple #[])) := rfl
theorem asr_parts25a (a : Addr) (w : World) : (ReflectliteValue.parts (.agg #[.pointer (some ⟨5, 92, none⟩), .pointer (some a), .int .u64 386])).run Tryz.prog w = .ok (some (92, a, 386)) w := by kernel_rfl
theorem asr_parts25 (a : Addr) (w : World) : (ReflectliteValue.parts (.agg #[.pointer (some ⟨5, 92, none⟩), .pointer (some a), .int .u64 130])).run Tryz.prog w = .ok (some (92, a, 130)) w := by kernel_rfl
theorem asr_direct25 (w : World) : (Rtype.directlyAssignable 92 92).run Tryz.prog w = .ok true w := by kernel_rfl
theorem asr_set25 (ta b : Addr) (e : Int) (old : Value) (W : World) (hb : W.cell? b = some (.int .i64 e)) (ht : W.cell? ta = some old) (hf : W.frozen? ta = false) :
  (ReflectliteValue.set #[.agg #[.pointer (some ⟨5, 92, none⟩), .pointer (some ta), .int .u64 386], .agg #[.pointer (some ⟨5, 92, none⟩), .pointer (some b), .int .u64 130]]).run Tryz.prog W
   = .ok (.tuple #[]) (W.setCell ta (.int .i64 e)) := by
 rw [rrs]
 simp only [Sem.run_bind, asr_parts25a, asr_parts25, Result.andThen]
 simp [ReflectliteValue.flagAddr, loadVar, isAgg, underlying, Tryz.underlying92, hb, Result.andThen, asr_direct25, storeVar, Value.cells, storeCells, Addr.add]
 rw [run_store Tryz.prog W ta _ _ (by rfl)]
 simp [ht, hf]
set_option maxHeartbeats 4000000 in
theorem asr_hit (e : Int) (t : Addr) (old : Value) (w : World) (hg : w.cell? ⟨1, 0, none⟩ = some (.iface 201 (.agg #[.pointer (some ⟨5, 85, none⟩)]))) (ht0 : w.cell? t = some old) (hf0 : w.frozen? t = false) :
  Calls Tryz.prog 117 #[.iface 92 (.int .i64 e), .iface 174 (.pointer (some t))] w fun ev w' => ev = .returned (.bool true) ∧ w' = ((((w.alloc (.cells #[.pointer (some t)] 174)).alloc (.cells #[.pointer (some ⟨5, 174, none⟩), .pointer (some ⟨w.heap.size, 0, none⟩), .int .u64 150] 193)).alloc (.cells #[.pointer (some ⟨5, 174, none⟩), .pointer (some ⟨w.heap.size, 0, none⟩), .int .u64 150] 193)).alloc (.cells #[.int .i64 e] 92)).setCell t (.int .i64 e) := by
 have h6 := @run_callFunc_extern Tryz.prog 136 _ (fun args => ReflectliteValue.unpack (args.getD 0 (.tuple #[]))) Tryz.func136 (by kernel_rfl) (by kernel_rfl) (by kernel_rfl) (by kernel_rfl)
 have h7 := @run_callFunc_extern Tryz.prog 137 _ (ReflectliteValue.methodAny (ReflectliteValue.valueError "reflectlite.Value.Type" 0) (fun t _ _ _ => ReflectliteType.toType t)) Tryz.func137 (by kernel_rfl) (by kernel_rfl) (by kernel_rfl) (by kernel_rfl)
 have h8 := @run_callFunc_extern Tryz.prog 138 _ (ReflectliteValue.method (ReflectliteValue.valueError "reflectlite.Value.IsNil" 0) ReflectliteValue.isNil) Tryz.func138 (by kernel_rfl) (by kernel_rfl) (by kernel_rfl) (by kernel_rfl)
 have h27 := @run_callFunc_extern Tryz.prog 188 _ (ReflectliteType.abiMethod fun t => do pure (.int .u8 (← Rtype.kind t))) Tryz.func188 (by kernel_rfl) (by kernel_rfl) (by kernel_rfl) (by kernel_rfl)
 have h37 := @run_callFunc_extern Tryz.prog 204 _ (ReflectliteType.method ReflectliteType.elem) Tryz.func204 (by kernel_rfl) (by kernel_rfl) (by kernel_rfl) (by kernel_rfl)
 have h38 := @run_callFunc_extern Tryz.prog 205 _ (ReflectliteType.relation "Implements" ReflectliteType.implements_) Tryz.func205 (by kernel_rfl) (by kernel_rfl) (by kernel_rfl) (by kernel_rfl)
 have h10 := @run_callFunc_extern Tryz.prog 118 _ ReflectliteType.typeOf Tryz.func118 (by kernel_rfl) (by kernel_rfl) (by kernel_rfl) (by kernel_rfl)
 have h35 := @run_callFunc_extern Tryz.prog 202 _ (ReflectliteType.relation "AssignableTo" ReflectliteType.assignableTo) Tryz.func202 (by kernel_rfl) (by kernel_rfl) (by kernel_rfl) (by kernel_rfl)
 have h11 := @run_callFunc_extern Tryz.prog 151 _ (ReflectliteValue.method (ReflectliteValue.valueError "reflectlite.Value.Elem" 0) ReflectliteValue.elem) Tryz.func151 (by kernel_rfl) (by kernel_rfl) (by kernel_rfl) (by kernel_rfl)
 have h12 := @run_callFunc_extern Tryz.prog 152 _ ReflectliteValue.set Tryz.func152 (by kernel_rfl) (by kernel_rfl) (by kernel_rfl) (by kernel_rfl)
 have tO := asr_typeOf25
 have mA := asr_methodAssignableTo
 have a25 := asr_assignable25
 have v25 := asr_valueOf25
 have f6 := asr_valueOf27
 have f7 := asr_type27
 have mK := asr_methodKind
 have mE := asr_methodElem
 have mI := asr_methodImplements
 have k27 := asr_kind27
 have k25 := asr_kind25
 have e27 := asr_elem27
 have i25 := asr_implements25
 have n8 := asr_isNil27 ⟨w.heap.size, 0, none⟩ t ((w.alloc (.cells #[.pointer (some t)] 174)).alloc (.cells #[.pointer (some ⟨5, 174, none⟩), .pointer (some ⟨w.heap.size, 0, none⟩), .int .u64 150] 193)) (by simp)
 have hlt : 1 < w.heap.size := by
  rcases Nat.lt_or_ge 1 w.heap.size with h | h
  ·exact h
  ·simp [World.cell?, Array.getElem?_eq_none h] at hg
 have hg2 : ((w.alloc (.cells #[.pointer (some t)] 174)).alloc (.cells #[.pointer (some ⟨5, 174, none⟩), .pointer (some ⟨w.heap.size, 0, none⟩), .int .u64 150] 193)).cell? ⟨1, 0, none⟩ = some (.iface 201 (.agg #[.pointer (some ⟨5, 85, none⟩)])) := by
  rw [World.cell?_alloc_lt _ _ ⟨1, 0, none⟩ (by first | (simp; done) | (simp; omega)), World.cell?_alloc_lt _ _ ⟨1, 0, none⟩ hlt]; exact hg
 have htl : t.block < w.heap.size := by
  rcases Nat.lt_or_ge t.block w.heap.size with h | h
  ·exact h
  ·simp [World.cell?, Array.getElem?_eq_none h] at ht0
 have el := asr_elemV27 ⟨w.heap.size, 0, none⟩ t (((w.alloc (.cells #[.pointer (some t)] 174)).alloc (.cells #[.pointer (some ⟨5, 174, none⟩), .pointer (some ⟨w.heap.size, 0, none⟩), .int .u64 150] 193)).alloc (.cells #[.pointer (some ⟨5, 174, none⟩), .pointer (some ⟨w.heap.size, 0, none⟩), .int .u64 150] 193)) (by rw [World.cell?_alloc_lt _ _ ⟨w.heap.size, 0, none⟩ (by simp; omega)]; simp)
 have st := asr_set25 t ⟨w.heap.size + 1 + 1 + 1, 0, none⟩ e old ((((w.alloc (.cells #[.pointer (some t)] 174)).alloc (.cells #[.pointer (some ⟨5, 174, none⟩), .pointer (some ⟨w.heap.size, 0, none⟩), .int .u64 150] 193)).alloc (.cells #[.pointer (some ⟨5, 174, none⟩), .pointer (some ⟨w.heap.size, 0, none⟩), .int .u64 150] 193)).alloc (.cells #[.int .i64 e] 92))
  (by rw [World.cell?_alloc_at _ _ _ _ (by simp)]; rfl)
  (by rw [World.cell?_alloc_lt _ _ t (by simp; omega), World.cell?_alloc_lt _ _ t (by simp; omega), World.cell?_alloc_lt _ _ t (by simp; omega), World.cell?_alloc_lt _ _ t htl]; exact ht0)
  (by rw [World.frozen?_alloc_old _ _ t (by simp; omega), World.frozen?_alloc_old _ _ t (by simp; omega), World.frozen?_alloc_old _ _ t (by simp; omega), World.frozen?_alloc_old _ _ t (Nat.ne_of_lt htl)]; exact hf0)
 go_enter Tryz.func117, Tryz.ntmps117
 go_wp2
 refine wp_loop_rounds 1 ?_
 rw [rounds_succ]
 go_wp2
 go_ret
 exact ⟨rfl, rfl⟩
end Go.Proofs.YtpfbimkpcnnfkaaGreatDoor.Ext
set_option linter.unusedVariables false
set_option linter.unusedSimpArgs false
namespace Go.Proofs.YtpfbimkpcnnfkaaGreatDoor.Ext
open Go Go.RowKit Go.Proofs.YtpfbimkpcnnfkaaGreatDoor Go.Proofs.YtpfbimkpcnnfkaaGreatDoorW.PrintWords Go.Extern.Stop Go.Stop Go.Extern
theorem asj_typeOf (v : Value) (w : World) : (ReflectliteType.typeOf #[.iface 142 v]).run Tryz.prog w = .ok (.iface 201 (.agg #[.pointer (some ⟨5, 142, none⟩)])) w := by kernel_rfl
theorem asj_assignable (w : World) : (ReflectliteType.relation "AssignableTo" ReflectliteType.assignableTo #[.agg #[.pointer (some ⟨5, 142, none⟩)], .iface 201 (.agg #[.pointer (some ⟨5, 92, none⟩)])]).run Tryz.prog w = .ok (.bool false) w := by kernel_rfl
theorem asj_noAs (v : Value) (xT : TypeId) (w : World) : (Instr.typeAssert (.iface 142 v) xT 221 true).run Tryz.prog w = .ok (.tuple #[.nilIface, .bool false]) w := run_typeAssert_lacksB Tryz.underlying221 (by kernel_rfl) (by kernel_rfl) v xT w
theorem asj_noUnwrap (v : Value) (xT : TypeId) (w : World) : (Instr.typeAssert (.iface 142 v) xT 206 true).run Tryz.prog w = .ok (.tuple #[.nilIface, .bool false]) w := run_typeAssert_lacksB Tryz.underlying206 (by kernel_rfl) (by kernel_rfl) v xT w
theorem asj_hasUnwrap (v : Value) (xT : TypeId) (w : World) : (Instr.typeAssert (.iface 142 v) xT 207 true).run Tryz.prog w = .ok (.tuple #[.iface 142 v, .bool true]) w := run_typeAssert_hasB Tryz.underlying207 (by kernel_rfl) v xT w
theorem asj_methodUnwrap (h : Addr) (w : World) : (Go.method 374 142 (.pointer (some h)) "Unwrap").run Tryz.prog w = .ok (194, .pointer (some h)) w := by kernel_rfl
theorem cell_alloc' {w : World} {a : Addr} {x : Value} (h : w.cell? a = some x) (o : Obj) : (w.alloc o).cell? a = some x := by
 have hl : a.block < w.heap.size := by
  rcases Nat.lt_or_ge a.block w.heap.size with h2 | h2
  ·exact h2
  ·simp [World.cell?, Array.getElem?_eq_none h2] at h
 rw [World.cell?_alloc_lt _ _ a hl]; exact h
set_option maxRecDepth 100000 in
set_option maxHeartbeats 8000000 in
theorem asj_hit (q : Nat) (e : Int) (t a : Addr) (n c : Nat) (old : Value) (w : World) (hg : w.cell? ⟨1, 0, none⟩ = some (.iface 201 (.agg #[.pointer (some ⟨5, 85, none⟩)]))) (ht0 : w.cell? t = some old) (hf0 : w.frozen? t = false) (hq : w.cell? ⟨q, 0, none⟩ = some (.slice (some a) n c)) (hn : 0 < n) (ha : w.cell? a = some (.iface 92 (.int .i64 e))) :
  Calls Tryz.prog 117 #[.iface 142 (.pointer (some ⟨q, 0, none⟩)), .iface 174 (.pointer (some t))] w fun ev w' => ev = .returned (.bool true) ∧ w' = ((((((w.alloc (.cells #[.pointer (some t)] 174)).alloc (.cells #[.pointer (some ⟨5, 174, none⟩), .pointer (some ⟨w.heap.size, 0, none⟩), .int .u64 150] 193)).alloc (.cells #[.pointer (some ⟨5, 174, none⟩), .pointer (some ⟨w.heap.size, 0, none⟩), .int .u64 150] 193)).alloc (.cells #[.pointer (some ⟨5, 174, none⟩), .pointer (some ⟨w.heap.size, 0, none⟩), .int .u64 150] 193))).alloc (.cells #[.int .i64 e] 92)).setCell t (.int .i64 e) := by
 have h6 := @run_callFunc_extern Tryz.prog 136 _ (fun args => ReflectliteValue.unpack (args.getD 0 (.tuple #[]))) Tryz.func136 (by kernel_rfl) (by kernel_rfl) (by kernel_rfl) (by kernel_rfl)
 have h7 := @run_callFunc_extern Tryz.prog 137 _ (ReflectliteValue.methodAny (ReflectliteValue.valueError "reflectlite.Value.Type" 0) (fun t _ _ _ => ReflectliteType.toType t)) Tryz.func137 (by kernel_rfl) (by kernel_rfl) (by kernel_rfl) (by kernel_rfl)
 have h8 := @run_callFunc_extern Tryz.prog 138 _ (ReflectliteValue.method (ReflectliteValue.valueError "reflectlite.Value.IsNil" 0) ReflectliteValue.isNil) Tryz.func138 (by kernel_rfl) (by kernel_rfl) (by kernel_rfl) (by kernel_rfl)
 have h27 := @run_callFunc_extern Tryz.prog 188 _ (ReflectliteType.abiMethod fun t => do pure (.int .u8 (← Rtype.kind t))) Tryz.func188 (by kernel_rfl) (by kernel_rfl) (by kernel_rfl) (by kernel_rfl)
 have h37 := @run_callFunc_extern Tryz.prog 204 _ (ReflectliteType.method ReflectliteType.elem) Tryz.func204 (by kernel_rfl) (by kernel_rfl) (by kernel_rfl) (by kernel_rfl)
 have h38 := @run_callFunc_extern Tryz.prog 205 _ (ReflectliteType.relation "Implements" ReflectliteType.implements_) Tryz.func205 (by kernel_rfl) (by kernel_rfl) (by kernel_rfl) (by kernel_rfl)
 have h10 := @run_callFunc_extern Tryz.prog 118 _ ReflectliteType.typeOf Tryz.func118 (by kernel_rfl) (by kernel_rfl) (by kernel_rfl) (by kernel_rfl)
 have h35 := @run_callFunc_extern Tryz.prog 202 _ (ReflectliteType.relation "AssignableTo" ReflectliteType.assignableTo) Tryz.func202 (by kernel_rfl) (by kernel_rfl) (by kernel_rfl) (by kernel_rfl)
 have h11 := @run_callFunc_extern Tryz.prog 151 _ (ReflectliteValue.method (ReflectliteValue.valueError "reflectlite.Value.Elem" 0) ReflectliteValue.elem) Tryz.func151 (by kernel_rfl) (by kernel_rfl) (by kernel_rfl) (by kernel_rfl)
 have h12 := @run_callFunc_extern Tryz.prog 152 _ ReflectliteValue.set Tryz.func152 (by kernel_rfl) (by kernel_rfl) (by kernel_rfl) (by kernel_rfl)
 have tO := asr_typeOf25
 have mA := asr_methodAssignableTo
 have a25 := asr_assignable25
 have v25 := asr_valueOf25
 have f6 := asr_valueOf27
 have f7 := asr_type27
 have mK := asr_methodKind
 have mE := asr_methodElem
 have mI := asr_methodImplements
 have k27 := asr_kind27
 have k25 := asr_kind25
 have e27 := asr_elem27
 have i25 := asr_implements25
 have n8 := asr_isNil27 ⟨w.heap.size, 0, none⟩ t ((w.alloc (.cells #[.pointer (some t)] 174)).alloc (.cells #[.pointer (some ⟨5, 174, none⟩), .pointer (some ⟨w.heap.size, 0, none⟩), .int .u64 150] 193)) (by simp)
 have hlt : 1 < w.heap.size := by
  rcases Nat.lt_or_ge 1 w.heap.size with h | h
  ·exact h
  ·simp [World.cell?, Array.getElem?_eq_none h] at hg
 have hg2 : ((w.alloc (.cells #[.pointer (some t)] 174)).alloc (.cells #[.pointer (some ⟨5, 174, none⟩), .pointer (some ⟨w.heap.size, 0, none⟩), .int .u64 150] 193)).cell? ⟨1, 0, none⟩ = some (.iface 201 (.agg #[.pointer (some ⟨5, 85, none⟩)])) := by
  rw [World.cell?_alloc_lt _ _ ⟨1, 0, none⟩ (by first | (simp; done) | (simp; omega)), World.cell?_alloc_lt _ _ ⟨1, 0, none⟩ hlt]; exact hg
 have htl : t.block < w.heap.size := by
  rcases Nat.lt_or_ge t.block w.heap.size with h | h
  ·exact h
  ·simp [World.cell?, Array.getElem?_eq_none h] at ht0
 have htl4 : ((((((w.alloc (.cells #[.pointer (some t)] 174)).alloc (.cells #[.pointer (some ⟨5, 174, none⟩), .pointer (some ⟨w.heap.size, 0, none⟩), .int .u64 150] 193)).alloc (.cells #[.pointer (some ⟨5, 174, none⟩), .pointer (some ⟨w.heap.size, 0, none⟩), .int .u64 150] 193)).alloc (.cells #[.pointer (some ⟨5, 174, none⟩), .pointer (some ⟨w.heap.size, 0, none⟩), .int .u64 150] 193))).cell? t) = some old := cell_alloc' (cell_alloc' (cell_alloc' (cell_alloc' ht0 _) _) _) _
 have el := asr_elemV27 ⟨w.heap.size, 0, none⟩ t (((((w.alloc (.cells #[.pointer (some t)] 174)).alloc (.cells #[.pointer (some ⟨5, 174, none⟩), .pointer (some ⟨w.heap.size, 0, none⟩), .int .u64 150] 193)).alloc (.cells #[.pointer (some ⟨5, 174, none⟩), .pointer (some ⟨w.heap.size, 0, none⟩), .int .u64 150] 193)).alloc (.cells #[.pointer (some ⟨5, 174, none⟩), .pointer (some ⟨w.heap.size, 0, none⟩), .int .u64 150] 193))) (by
  refine cell_alloc' (cell_alloc' (cell_alloc' ?_ _) _) _
  rw [World.cell?_alloc_at _ _ _ _ rfl]; rfl)
 have st := asr_set25 t ⟨w.heap.size + 1 + 1 + 1 + 1, 0, none⟩ e old ((((((w.alloc (.cells #[.pointer (some t)] 174)).alloc (.cells #[.pointer (some ⟨5, 174, none⟩), .pointer (some ⟨w.heap.size, 0, none⟩), .int .u64 150] 193)).alloc (.cells #[.pointer (some ⟨5, 174, none⟩), .pointer (some ⟨w.heap.size, 0, none⟩), .int .u64 150] 193)).alloc (.cells #[.pointer (some ⟨5, 174, none⟩), .pointer (some ⟨w.heap.size, 0, none⟩), .int .u64 150] 193))).alloc (.cells #[.int .i64 e] 92))
  (by rw [World.cell?_alloc_at _ _ _ _ (by simp)]; rfl)
  (cell_alloc' htl4 _)
  (by rw [World.frozen?_alloc_old _ _ t (by simp; omega), World.frozen?_alloc_old _ _ t (by simp; omega), World.frozen?_alloc_old _ _ t (by simp; omega), World.frozen?_alloc_old _ _ t (by simp; omega), World.frozen?_alloc_old _ _ t (Nat.ne_of_lt htl)]; exact hf0)
 have jT := asj_typeOf
 have jA := asj_assignable
 have jN := asj_noAs
 have jU := asj_noUnwrap
 have jH := asj_hasUnwrap
 have jM := asj_methodUnwrap
 have hq3 : ((((w.alloc (.cells #[.pointer (some t)] 174)).alloc (.cells #[.pointer (some ⟨5, 174, none⟩), .pointer (some ⟨w.heap.size, 0, none⟩), .int .u64 150] 193)).alloc (.cells #[.pointer (some ⟨5, 174, none⟩), .pointer (some ⟨w.heap.size, 0, none⟩), .int .u64 150] 193))).cell? ⟨q, 0, none⟩ = some (.slice (some a) n c) := cell_alloc' (cell_alloc' (cell_alloc' hq _) _) _
 have ha3 : ((((w.alloc (.cells #[.pointer (some t)] 174)).alloc (.cells #[.pointer (some ⟨5, 174, none⟩), .pointer (some ⟨w.heap.size, 0, none⟩), .int .u64 150] 193)).alloc (.cells #[.pointer (some ⟨5, 174, none⟩), .pointer (some ⟨w.heap.size, 0, none⟩), .int .u64 150] 193))).cell? a = some (.iface 92 (.int .i64 e)) := cell_alloc' (cell_alloc' (cell_alloc' ha _) _) _
 have hn' : (0 : Int) < (n : Int) := by omega
 go_enter Tryz.func117, Tryz.ntmps117
 go_wp2
 refine wp_loop_rounds 1 ?_
 rw [rounds_succ]
 go_wp2
 refine wp_loop_rounds 1 ?_
 rw [rounds_succ]
 go_wp2
 refine wp_loop_rounds 1 ?_
 rw [rounds_succ]
 go_wp2
 go_ret
 exact ⟨rfl, rfl⟩
end Go.Proofs.YtpfbimkpcnnfkaaGreatDoor.Ext
set_option linter.unusedVariables false
set_option linter.unusedSimpArgs false
namespace Go.Proofs.YtpfbimkpcnnfkaaGreatDoor.Ext
open Go Go.RowKit Go.Proofs.YtpfbimkpcnnfkaaGreatDoor Go.Proofs.YtpfbimkpcnnfkaaGreatDoorW.PrintWords Go.Extern.Stop Go.Stop Go.Extern
theorem isx_typeOf (v : Value) (w : World) : (ReflectliteType.typeOf #[.iface 241 v]).run Tryz.prog w = .ok (.iface 201 (.agg #[.pointer (some ⟨5, 241, none⟩)])) w := by kernel_rfl
theorem isx_methodComparable (h : Value) (w : World) : (Go.method 374 201 (.agg #[h]) "Comparable").run Tryz.prog w = .ok (203, .agg #[h]) w := by kernel_rfl
theorem isx_comparable (w : World) : (ReflectliteType.method (fun t => do Rtype.noPackHeld "Comparable" t; (fun a : TypeInfo => Value.bool a.comparable) <$> typeInfo t) #[.agg #[.pointer (some ⟨5, 241, none⟩)]]).run Tryz.prog w = .ok (.bool true) w := by kernel_rfl
theorem isx_noIs (v : Value) (xT : TypeId) (w : World) : (Instr.typeAssert (.iface 92 v) xT 203 true).run Tryz.prog w = .ok (.tuple #[.nilIface, .bool false]) w := run_typeAssert_lacksB Tryz.underlying203 (by kernel_rfl) (by kernel_rfl) v xT w
theorem isx_noUn (v : Value) (xT : TypeId) (w : World) : (Instr.typeAssert (.iface 92 v) xT 206 true).run Tryz.prog w = .ok (.tuple #[.nilIface, .bool false]) w := run_typeAssert_lacksB Tryz.underlying206 (by kernel_rfl) (by kernel_rfl) v xT w
theorem isx_noUns (v : Value) (xT : TypeId) (w : World) : (Instr.typeAssert (.iface 92 v) xT 207 true).run Tryz.prog w = .ok (.tuple #[.nilIface, .bool false]) w := run_typeAssert_lacksB Tryz.underlying207 (by kernel_rfl) (by kernel_rfl) v xT w
theorem isx_ne (x y : Value) (w : World) : (binOp .eql 85 (.iface 92 x) (.iface 241 y)).run Tryz.prog w = .ok (.bool false) w := by kernel_rfl
set_option maxRecDepth 100000 in
set_option maxHeartbeats 8000000 in
theorem isr_no (e : Int) (s : Addr) (w : World) : Calls Tryz.prog 92 #[.iface 92 (.int .i64 e), .iface 241 (.pointer (some s))] w fun ev w' => ev = .returned (.bool false) ∧ w' = w := by
 have h10 := @run_callFunc_extern Tryz.prog 118 _ ReflectliteType.typeOf Tryz.func118 (by kernel_rfl) (by kernel_rfl) (by kernel_rfl) (by kernel_rfl)
 have hC := @run_callFunc_extern Tryz.prog 203 _ (ReflectliteType.method fun t => do Rtype.noPackHeld "Comparable" t; pure (.bool (← typeInfo t).comparable)) Tryz.func203 (by kernel_rfl) (by kernel_rfl) (by kernel_rfl) (by kernel_rfl)
 have tO := isx_typeOf
 have mC := isx_methodComparable
 have cC := isx_comparable
 have n1 := isx_noIs
 have n2 := isx_noUn
 have n3 := isx_noUns
 have nE := isx_ne
 go_enter Tryz.func92, Tryz.ntmps92
 go_wp2
 refine wp_loop_rounds 1 ?_
 rw [rounds_succ]
 go_wp2
 go_ret
 exact ⟨rfl, rfl⟩
theorem isx_eq (a : Addr) (w : World) : (binOp .eql 85 (.iface 241 (.pointer (some a))) (.iface 241 (.pointer (some a)))).run Tryz.prog w = .ok (.bool true) w := by
 have h1 : (Tryz.prog.info? 241).map (·.comparable) = some true := by kernel_rfl
 have h2 : (Tryz.prog.info? 262).isSome = true := by kernel_rfl
 obtain ⟨i, hi, hc⟩ := Option.map_eq_some_iff.1 h1
 obtain ⟨j, hj⟩ := Option.isSome_iff_exists.1 h2
 exact run_eql_iface_ptr_same w a Tryz.underlying85 Tryz.underlying241 hi hc hj
set_option maxRecDepth 100000 in
set_option maxHeartbeats 8000000 in
theorem isr_same (a : Addr) (w : World) : Calls Tryz.prog 92 #[.iface 241 (.pointer (some a)), .iface 241 (.pointer (some a))] w fun ev w' => ev = .returned (.bool true) ∧ w' = w := by
 have h10 := @run_callFunc_extern Tryz.prog 118 _ ReflectliteType.typeOf Tryz.func118 (by kernel_rfl) (by kernel_rfl) (by kernel_rfl) (by kernel_rfl)
 have hC := @run_callFunc_extern Tryz.prog 203 _ (ReflectliteType.method fun t => do Rtype.noPackHeld "Comparable" t; pure (.bool (← typeInfo t).comparable)) Tryz.func203 (by kernel_rfl) (by kernel_rfl) (by kernel_rfl) (by kernel_rfl)
 have tO := isx_typeOf
 have mC := isx_methodComparable
 have cC := isx_comparable
 have n1 := isx_noIs
 have n2 := isx_noUn
 have n3 := isx_noUns
 have nE := isx_eq
 go_enter Tryz.func92, Tryz.ntmps92
 go_wp2
 refine wp_loop_rounds 1 ?_
 rw [rounds_succ]
 go_wp2
 go_ret
 exact ⟨rfl, rfl⟩
end Go.Proofs.YtpfbimkpcnnfkaaGreatDoor.Ext
set_option linter.unusedVariables false
set_option linter.unusedSimpArgs false
namespace Go.Proofs.YtpfbimkpcnnfkaaGreatDoor.Ext
open Go Go.RowKit Go.Proofs.YtpfbimkpcnnfkaaGreatDoor Go.Proofs.YtpfbimkpcnnfkaaGreatDoorW.PrintWords Go.Extern.Stop Go.Stop Go.Extern
theorem isj_noIs (v : Value) (xT : TypeId) (w : World) : (Instr.typeAssert (.iface 142 v) xT 203 true).run Tryz.prog w = .ok (.tuple #[.nilIface, .bool false]) w := run_typeAssert_lacksB Tryz.underlying203 (by kernel_rfl) (by kernel_rfl) v xT w
theorem isj_ne (x y : Value) (w : World) : (binOp .eql 85 (.iface 142 x) (.iface 241 y)).run Tryz.prog w = .ok (.bool false) w := by kernel_rfl
set_option maxRecDepth 100000 in
set_option maxHeartbeats 8000000 in
theorem isj_no1 (q : Nat) (e : Int) (s a : Addr) (c : Nat) (w : World) (hq : w.cell? ⟨q, 0, none⟩ = some (.slice (some a) 1 c)) (ha : w.cell? a = some (.iface 92 (.int .i64 e))) : Calls Tryz.prog 92 #[.iface 142 (.pointer (some ⟨q, 0, none⟩)), .iface 241 (.pointer (some s))] w fun ev w' => ev = .returned (.bool false) ∧ w' = w := by
 have h10 := @run_callFunc_extern Tryz.prog 118 _ ReflectliteType.typeOf Tryz.func118 (by kernel_rfl) (by kernel_rfl) (by kernel_rfl) (by kernel_rfl)
 have hC := @run_callFunc_extern Tryz.prog 203 _ (ReflectliteType.method fun t => do Rtype.noPackHeld "Comparable" t; pure (.bool (← typeInfo t).comparable)) Tryz.func203 (by kernel_rfl) (by kernel_rfl) (by kernel_rfl) (by kernel_rfl)
 have tO := isx_typeOf
 have mC := isx_methodComparable
 have cC := isx_comparable
 have n1 := isx_noIs
 have n2 := isx_noUn
 have n3 := isx_noUns
 have nE := isx_ne
 have jE := isj_ne
 have jI := isj_noIs
 have jU := asj_noUnwrap
 have jH := asj_hasUnwrap
 have jM := asj_methodUnwrap
 go_enter Tryz.func92, Tryz.ntmps92
 go_wp2
 refine wp_loop_rounds 1 ?_
 rw [rounds_succ]
 go_wp2
 refine wp_loop_rounds 2 ?_
 rw [rounds_succ]
 go_wp2
 refine wp_loop_rounds 1 ?_
 rw [rounds_succ]
 go_wp2
 rw [rounds_succ]
 go_wp2
 go_ret
 exact ⟨rfl, rfl⟩
set_option maxRecDepth 100000 in
set_option maxHeartbeats 8000000 in
theorem isj_no2 (q : Nat) (e : Int) (s : Addr) (ab ao c : Nat) (w : World) (hq : w.cell? ⟨q, 0, none⟩ = some (.slice (some ⟨ab, ao, none⟩) 2 c)) (ha : w.cell? ⟨ab, ao, none⟩ = some (.iface 92 (.int .i64 e))) (ha1 : w.cell? ⟨ab, ao + 1, none⟩ = some (.iface 92 (.int .i64 e))) : Calls Tryz.prog 92 #[.iface 142 (.pointer (some ⟨q, 0, none⟩)), .iface 241 (.pointer (some s))] w fun ev w' => ev = .returned (.bool false) ∧ w' = w := by
 have h10 := @run_callFunc_extern Tryz.prog 118 _ ReflectliteType.typeOf Tryz.func118 (by kernel_rfl) (by kernel_rfl) (by kernel_rfl) (by kernel_rfl)
 have hC := @run_callFunc_extern Tryz.prog 203 _ (ReflectliteType.method fun t => do Rtype.noPackHeld "Comparable" t; pure (.bool (← typeInfo t).comparable)) Tryz.func203 (by kernel_rfl) (by kernel_rfl) (by kernel_rfl) (by kernel_rfl)
 have tO := isx_typeOf
 have mC := isx_methodComparable
 have cC := isx_comparable
 have n1 := isx_noIs
 have n2 := isx_noUn
 have n3 := isx_noUns
 have nE := isx_ne
 have jE := isj_ne
 have jI := isj_noIs
 have jU := asj_noUnwrap
 have jH := asj_hasUnwrap
 have jM := asj_methodUnwrap
 go_enter Tryz.func92, Tryz.ntmps92
 go_wp2
 refine wp_loop_rounds 1 ?_
 rw [rounds_succ]
 go_wp2
 refine wp_loop_rounds 3 ?_
 rw [rounds_succ]
 go_wp2
 refine wp_loop_rounds 1 ?_
 rw [rounds_succ]
 go_wp2
 rw [rounds_succ]
 go_wp2
 refine wp_loop_rounds 1 ?_
 rw [rounds_succ]
 go_wp2
 rw [rounds_succ]
 go_wp2
 go_ret
 exact ⟨rfl, rfl⟩
end Go.Proofs.YtpfbimkpcnnfkaaGreatDoor.Ext
