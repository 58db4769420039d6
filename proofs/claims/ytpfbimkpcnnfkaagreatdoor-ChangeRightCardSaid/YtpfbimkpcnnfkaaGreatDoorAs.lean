/- errors.As, for a way's error: what is found there. -/
import Derived.Test.YtpfbimkpcnnfkaaGreatDoorExtS
import Derived.WalkKit
import Derived.LaidEql
import Derived.Stop.Asserts
import Derived.RowKitTokens
set_option linter.unusedVariables false
set_option linter.unusedSimpArgs false
namespace Go.Proofs.YtpfbimkpcnnfkaaGreatDoor.Ext
open Go Go.RowKit Go.Proofs.YtpfbimkpcnnfkaaGreatDoor Go.Proofs.YtpfbimkpcnnfkaaGreatDoorW.PrintWords Go.Extern.Stop Go.Stop Go.Extern
theorem as_nil (t : Value) (w : World) : Calls Tryz.prog 117 #[.nilIface, t] w fun e w' => e = .returned (.bool false) ∧ w' = w := by
 go_enter Tryz.func117, Tryz.ntmps117
 go_wp2
 go_ret
 exact ⟨rfl, rfl⟩
theorem asx_valueOf27 (t : Addr) (w : World) : (ReflectliteValue.unpack (.iface 167 (.pointer (some t)))).run Tryz.prog w
  = .ok (.agg #[.pointer (some ⟨5, 167, none⟩), .pointer (some ⟨w.heap.size, 0, none⟩), .int .u64 150]) (w.alloc (.cells #[.pointer (some t)] 167)) := by kernel_rfl
theorem asx_type27 (a : Addr) (w : World) : (ReflectliteValue.methodAny (ReflectliteValue.valueError "reflectlite.Value.Type" 0) (fun t _ _ _ => ReflectliteType.toType t) #[.agg #[.pointer (some ⟨5, 167, none⟩), .pointer (some a), .int .u64 150]]).run Tryz.prog w
  = .ok (.iface 201 (.agg #[.pointer (some ⟨5, 167, none⟩)])) w := by kernel_rfl
theorem asx_methodKind (h : Value) (w : World) : (Go.method 374 201 (.agg #[h]) "Kind").run Tryz.prog w = .ok (188, h) w := by kernel_rfl
theorem asx_kind27 (w : World) : ((ReflectliteType.abiMethod fun t => (fun a : Nat => Value.int IntKind.u8 (a : Int)) <$> Rtype.kind t) #[.pointer (some ⟨5, 167, none⟩)]).run Tryz.prog w = .ok (.int .u8 22) w := by kernel_rfl
theorem asx_kind25 (w : World) : ((ReflectliteType.abiMethod fun t => (fun a : Nat => Value.int IntKind.u8 (a : Int)) <$> Rtype.kind t) #[.pointer (some ⟨5, 164, none⟩)]).run Tryz.prog w = .ok (.int .u8 22) w := by kernel_rfl
theorem rlm (z : Sem Value) (f : TypeId → Addr → Nat → Nat → Sem Value) (v : Value) :
  ReflectliteValue.method z f #[v] = (do match ← ReflectliteValue.parts v with | none => z | some (t, a, fl) => f t a fl (fl % 32)) := rfl
theorem asx_parts27 (a : Addr) (w : World) : (ReflectliteValue.parts (.agg #[.pointer (some ⟨5, 167, none⟩), .pointer (some a), .int .u64 150])).run Tryz.prog w = .ok (some (167, a, 150)) w := by kernel_rfl
theorem asx_isNil27 (a p : Addr) (W : World) (ha : W.cell? a = some (.pointer (some p))) :
  (ReflectliteValue.method (ReflectliteValue.valueError "reflectlite.Value.IsNil" 0) ReflectliteValue.isNil #[.agg #[.pointer (some ⟨5, 167, none⟩), .pointer (some a), .int .u64 150]]).run Tryz.prog W = .ok (.bool false) W := by
 rw [rlm]
 simp only [Sem.run_bind, asx_parts27, Result.andThen]
 simp [ReflectliteValue.isNil, loadVar, isAgg, underlying, Tryz.underlying167, ha, Result.andThen]
theorem asx_methodElem (h : Value) (w : World) : (Go.method 374 201 (.agg #[h]) "Elem").run Tryz.prog w = .ok (204, .agg #[h]) w := by kernel_rfl
theorem asx_methodImplements (h : Value) (w : World) : (Go.method 374 201 (.agg #[h]) "Implements").run Tryz.prog w = .ok (205, .agg #[h]) w := by kernel_rfl
theorem asx_methodAssignableTo (h : Value) (w : World) : (Go.method 374 201 (.agg #[h]) "AssignableTo").run Tryz.prog w = .ok (202, .agg #[h]) w := by kernel_rfl
theorem asx_elem27 (w : World) : (ReflectliteType.method ReflectliteType.elem #[.agg #[.pointer (some ⟨5, 167, none⟩)]]).run Tryz.prog w = .ok (.iface 201 (.agg #[.pointer (some ⟨5, 164, none⟩)])) w := by kernel_rfl
theorem asx_implements25 (w : World) : (ReflectliteType.relation "Implements" ReflectliteType.implements_ #[.agg #[.pointer (some ⟨5, 164, none⟩)], .iface 201 (.agg #[.pointer (some ⟨5, 85, none⟩)])]).run Tryz.prog w = .ok (.bool true) w := by kernel_rfl
theorem asx_typeOf25 (v : Value) (w : World) : (ReflectliteType.typeOf #[.iface 164 v]).run Tryz.prog w = .ok (.iface 201 (.agg #[.pointer (some ⟨5, 164, none⟩)])) w := by kernel_rfl
theorem asx_assignable25 (w : World) : (ReflectliteType.relation "AssignableTo" ReflectliteType.assignableTo #[.agg #[.pointer (some ⟨5, 164, none⟩)], .iface 201 (.agg #[.pointer (some ⟨5, 164, none⟩)])]).run Tryz.prog w = .ok (.bool true) w := by kernel_rfl
theorem asx_valueOf25 (e : Addr) (w : World) : (ReflectliteValue.unpack (.iface 164 (.pointer (some e)))).run Tryz.prog w
  = .ok (.agg #[.pointer (some ⟨5, 164, none⟩), .pointer (some ⟨w.heap.size, 0, none⟩), .int .u64 150]) (w.alloc (.cells #[.pointer (some e)] 164)) := by kernel_rfl
theorem asx_elemOf27 (w : World) : (Rtype.elem? 167).run Tryz.prog w = .ok (some 164) w := by kernel_rfl
theorem asx_mk25 (p : Addr) (w : World) : (ReflectliteValue.mk 164 p ReflectliteValue.flagAddr).run Tryz.prog w = .ok (.agg #[.pointer (some ⟨5, 164, none⟩), .pointer (some p), .int .u64 406]) w := by kernel_rfl
theorem asx_elemV27 (a p : Addr) (W : World) (ha : W.cell? a = some (.pointer (some p))) :
  (ReflectliteValue.method (ReflectliteValue.valueError "reflectlite.Value.Elem" 0) ReflectliteValue.elem #[.agg #[.pointer (some ⟨5, 167, none⟩), .pointer (some a), .int .u64 150]]).run Tryz.prog W
   = .ok (.agg #[.pointer (some ⟨5, 164, none⟩), .pointer (some p), .int .u64 406]) W := by
 rw [rlm]
 simp only [Sem.run_bind, asx_parts27, Result.andThen]
 simp [ReflectliteValue.elem, loadVar, isAgg, underlying, Tryz.underlying167, ha, Result.andThen, asx_elemOf27, asx_mk25]
theorem rls (v x : Value) : ReflectliteValue.set #[v, x] = (do
  let (some (dst, a, fl), some (src, b, _)) := (← ReflectliteValue.parts v, ← ReflectliteValue.parts x)
   | unsupported (.noEntry "extern/(internal/reflectlite.Value).Set.zeroValue")
  if fl / ReflectliteValue.flagAddr % 2 == 0 then unsupported (.noEntry "extern/(internal/reflectlite.Value).Set.unaddressable")
  let val ← loadVar src b
  if ← Rtype.directlyAssignable dst src then storeVar dst a val
  else if ← Rtype.implements dst src then
   if (← Rtype.kind src) == 20 then
    match val with
    | .nilIface => unsupported (.noEntry "extern/reflectlite: a nil value of one interface type handed on as a value of another")
    | _ => storeVar dst a val
   else storeVar dst a (.iface src val)
  else panicString ("reflectlite.Set: value of type " ++ (← Rtype.spelt src) ++ " is not assignable to type " ++ (← Rtype.spelt dst))
  pure (.tuple #[])) := rfl
theorem asx_parts25a (a : Addr) (w : World) : (ReflectliteValue.parts (.agg #[.pointer (some ⟨5, 164, none⟩), .pointer (some a), .int .u64 406])).run Tryz.prog w = .ok (some (164, a, 406)) w := by kernel_rfl
theorem asx_parts25 (a : Addr) (w : World) : (ReflectliteValue.parts (.agg #[.pointer (some ⟨5, 164, none⟩), .pointer (some a), .int .u64 150])).run Tryz.prog w = .ok (some (164, a, 150)) w := by kernel_rfl
theorem asx_direct25 (w : World) : (Rtype.directlyAssignable 164 164).run Tryz.prog w = .ok true w := by kernel_rfl
theorem asx_set25 (ta b e : Addr) (old : Value) (W : World) (hb : W.cell? b = some (.pointer (some e))) (ht : W.cell? ta = some old) (hf : W.frozen? ta = false) :
  (ReflectliteValue.set #[.agg #[.pointer (some ⟨5, 164, none⟩), .pointer (some ta), .int .u64 406], .agg #[.pointer (some ⟨5, 164, none⟩), .pointer (some b), .int .u64 150]]).run Tryz.prog W
   = .ok (.tuple #[]) (W.setCell ta (.pointer (some e))) := by
 rw [rls]
 simp only [Sem.run_bind, asx_parts25a, asx_parts25, Result.andThen]
 simp [ReflectliteValue.flagAddr, loadVar, isAgg, underlying, Tryz.underlying164, hb, Result.andThen, asx_direct25, storeVar, Value.cells, storeCells, Addr.add]
 rw [run_store Tryz.prog W ta _ _ (by rfl)]
 simp [ht, hf]
set_option maxHeartbeats 4000000 in
theorem as_hit (e t : Addr) (old : Value) (w : World) (hg : w.cell? ⟨1, 0, none⟩ = some (.iface 201 (.agg #[.pointer (some ⟨5, 85, none⟩)]))) (ht0 : w.cell? t = some old) (hf0 : w.frozen? t = false) :
  Calls Tryz.prog 117 #[.iface 164 (.pointer (some e)), .iface 167 (.pointer (some t))] w fun ev w' => ev = .returned (.bool true) ∧ w' = ((((w.alloc (.cells #[.pointer (some t)] 167)).alloc (.cells #[.pointer (some ⟨5, 167, none⟩), .pointer (some ⟨w.heap.size, 0, none⟩), .int .u64 150] 193)).alloc (.cells #[.pointer (some ⟨5, 167, none⟩), .pointer (some ⟨w.heap.size, 0, none⟩), .int .u64 150] 193)).alloc (.cells #[.pointer (some e)] 164)).setCell t (.pointer (some e)) := by
 have h6 := @run_callFunc_extern Tryz.prog 136 _ (fun args => ReflectliteValue.unpack (args.getD 0 (.tuple #[]))) Tryz.func136 (by kernel_rfl) (by kernel_rfl) (by kernel_rfl) (by kernel_rfl)
 have h7 := @run_callFunc_extern Tryz.prog 137 _ (ReflectliteValue.methodAny (ReflectliteValue.valueError "reflectlite.Value.Type" 0) (fun t _ _ _ => ReflectliteType.toType t)) Tryz.func137 (by kernel_rfl) (by kernel_rfl) (by kernel_rfl) (by kernel_rfl)
 have h8 := @run_callFunc_extern Tryz.prog 138 _ (ReflectliteValue.method (ReflectliteValue.valueError "reflectlite.Value.IsNil" 0) ReflectliteValue.isNil) Tryz.func138 (by kernel_rfl) (by kernel_rfl) (by kernel_rfl) (by kernel_rfl)
 have h27 := @run_callFunc_extern Tryz.prog 188 _ (ReflectliteType.abiMethod fun t => do pure (.int .u8 (← Rtype.kind t))) Tryz.func188 (by kernel_rfl) (by kernel_rfl) (by kernel_rfl) (by kernel_rfl)
 have h37 := @run_callFunc_extern Tryz.prog 204 _ (ReflectliteType.method ReflectliteType.elem) Tryz.func204 (by kernel_rfl) (by kernel_rfl) (by kernel_rfl) (by kernel_rfl)
 have h38 := @run_callFunc_extern Tryz.prog 205 _ (ReflectliteType.relation "Implements" ReflectliteType.implements_) Tryz.func205 (by kernel_rfl) (by kernel_rfl) (by kernel_rfl) (by kernel_rfl)
 have h10 := @run_callFunc_extern Tryz.prog 118 _ ReflectliteType.typeOf Tryz.func118 (by kernel_rfl) (by kernel_rfl) (by kernel_rfl) (by kernel_rfl)
 have h35 := @run_callFunc_extern Tryz.prog 202 _ (ReflectliteType.relation "AssignableTo" ReflectliteType.assignableTo) Tryz.func202 (by kernel_rfl) (by kernel_rfl) (by kernel_rfl) (by kernel_rfl)
 have h11 := @run_callFunc_extern Tryz.prog 151 _ (ReflectliteValue.method (ReflectliteValue.valueError "reflectlite.Value.Elem" 0) ReflectliteValue.elem) Tryz.func151 (by kernel_rfl) (by kernel_rfl) (by kernel_rfl) (by kernel_rfl)
 have h12 := @run_callFunc_extern Tryz.prog 152 _ ReflectliteValue.set Tryz.func152 (by kernel_rfl) (by kernel_rfl) (by kernel_rfl) (by kernel_rfl)
 have tO := asx_typeOf25
 have mA := asx_methodAssignableTo
 have a25 := asx_assignable25
 have v25 := asx_valueOf25
 have f6 := asx_valueOf27
 have f7 := asx_type27
 have mK := asx_methodKind
 have mE := asx_methodElem
 have mI := asx_methodImplements
 have k27 := asx_kind27
 have k25 := asx_kind25
 have e27 := asx_elem27
 have i25 := asx_implements25
 have n8 := asx_isNil27 ⟨w.heap.size, 0, none⟩ t ((w.alloc (.cells #[.pointer (some t)] 167)).alloc (.cells #[.pointer (some ⟨5, 167, none⟩), .pointer (some ⟨w.heap.size, 0, none⟩), .int .u64 150] 193)) (by simp)
 have hlt : 1 < w.heap.size := by
  rcases Nat.lt_or_ge 1 w.heap.size with h | h
  ·exact h
  ·simp [World.cell?, Array.getElem?_eq_none h] at hg
 have hg2 : ((w.alloc (.cells #[.pointer (some t)] 167)).alloc (.cells #[.pointer (some ⟨5, 167, none⟩), .pointer (some ⟨w.heap.size, 0, none⟩), .int .u64 150] 193)).cell? ⟨1, 0, none⟩ = some (.iface 201 (.agg #[.pointer (some ⟨5, 85, none⟩)])) := by
  rw [World.cell?_alloc_lt _ _ ⟨1, 0, none⟩ (by first | (simp; done) | (simp; omega)), World.cell?_alloc_lt _ _ ⟨1, 0, none⟩ hlt]; exact hg
 have htl : t.block < w.heap.size := by
  rcases Nat.lt_or_ge t.block w.heap.size with h | h
  ·exact h
  ·simp [World.cell?, Array.getElem?_eq_none h] at ht0
 have el := asx_elemV27 ⟨w.heap.size, 0, none⟩ t (((w.alloc (.cells #[.pointer (some t)] 167)).alloc (.cells #[.pointer (some ⟨5, 167, none⟩), .pointer (some ⟨w.heap.size, 0, none⟩), .int .u64 150] 193)).alloc (.cells #[.pointer (some ⟨5, 167, none⟩), .pointer (some ⟨w.heap.size, 0, none⟩), .int .u64 150] 193)) (by rw [World.cell?_alloc_lt _ _ ⟨w.heap.size, 0, none⟩ (by simp; omega)]; simp)
 have st := asx_set25 t ⟨w.heap.size + 1 + 1 + 1, 0, none⟩ e old ((((w.alloc (.cells #[.pointer (some t)] 167)).alloc (.cells #[.pointer (some ⟨5, 167, none⟩), .pointer (some ⟨w.heap.size, 0, none⟩), .int .u64 150] 193)).alloc (.cells #[.pointer (some ⟨5, 167, none⟩), .pointer (some ⟨w.heap.size, 0, none⟩), .int .u64 150] 193)).alloc (.cells #[.pointer (some e)] 164))
  (by rw [World.cell?_alloc_at _ _ _ _ (by simp)]; rfl)
  (by rw [World.cell?_alloc_lt _ _ t (by simp; omega), World.cell?_alloc_lt _ _ t (by simp; omega), World.cell?_alloc_lt _ _ t (by simp; omega), World.cell?_alloc_lt _ _ t htl]; exact ht0)
  (by rw [World.frozen?_alloc_old _ _ t (by simp; omega), World.frozen?_alloc_old _ _ t (by simp; omega), World.frozen?_alloc_old _ _ t (by simp; omega), World.frozen?_alloc_old _ _ t (Nat.ne_of_lt htl)]; exact hf0)
 go_enter Tryz.func117, Tryz.ntmps117
 go_wp2
 refine wp_loop_rounds 1 ?_
 rw [rounds_succ]
 go_wp2
 go_ret
 exact ⟨rfl, rfl⟩
theorem asx_typeOf90 (v : Value) (w : World) : (ReflectliteType.typeOf #[.iface 187 v]).run Tryz.prog w = .ok (.iface 201 (.agg #[.pointer (some ⟨5, 187, none⟩)])) w := by kernel_rfl
theorem asx_assignable90 (w : World) : (ReflectliteType.relation "AssignableTo" ReflectliteType.assignableTo #[.agg #[.pointer (some ⟨5, 187, none⟩)], .iface 201 (.agg #[.pointer (some ⟨5, 164, none⟩)])]).run Tryz.prog w = .ok (.bool false) w := by kernel_rfl
theorem asx_noAs (v : Value) (xT : TypeId) (w : World) : (Instr.typeAssert (.iface 187 v) xT 221 true).run Tryz.prog w = .ok (.tuple #[.nilIface, .bool false]) w := run_typeAssert_lacksB Tryz.underlying221 (by kernel_rfl) (by kernel_rfl) v xT w
theorem asx_hasUnwrap (v : Value) (xT : TypeId) (w : World) : (Instr.typeAssert (.iface 187 v) xT 206 true).run Tryz.prog w = .ok (.tuple #[.iface 187 v, .bool true]) w := run_typeAssert_hasB Tryz.underlying206 (by kernel_rfl) v xT w
theorem asx_methodUnwrap (h : Addr) (w : World) : (Go.method 374 187 (.pointer (some h)) "Unwrap").run Tryz.prog w = .ok (197, .pointer (some h)) w := by kernel_rfl
set_option maxHeartbeats 4000000 in
theorem as_chain (q : Nat) (e t : Addr) (old : Value) (w : World) (hg : w.cell? ⟨1, 0, none⟩ = some (.iface 201 (.agg #[.pointer (some ⟨5, 85, none⟩)]))) (ht0 : w.cell? t = some old) (hf0 : w.frozen? t = false) (hq : w.cell? ⟨q, 1, none⟩ = some (.iface 164 (.pointer (some e)))) :
  Calls Tryz.prog 117 #[.iface 187 (.pointer (some ⟨q, 0, none⟩)), .iface 167 (.pointer (some t))] w fun ev w' => ev = .returned (.bool true) ∧ w' = ((((w.alloc (.cells #[.pointer (some t)] 167)).alloc (.cells #[.pointer (some ⟨5, 167, none⟩), .pointer (some ⟨w.heap.size, 0, none⟩), .int .u64 150] 193)).alloc (.cells #[.pointer (some ⟨5, 167, none⟩), .pointer (some ⟨w.heap.size, 0, none⟩), .int .u64 150] 193)).alloc (.cells #[.pointer (some e)] 164)).setCell t (.pointer (some e)) := by
 have h6 := @run_callFunc_extern Tryz.prog 136 _ (fun args => ReflectliteValue.unpack (args.getD 0 (.tuple #[]))) Tryz.func136 (by kernel_rfl) (by kernel_rfl) (by kernel_rfl) (by kernel_rfl)
 have h7 := @run_callFunc_extern Tryz.prog 137 _ (ReflectliteValue.methodAny (ReflectliteValue.valueError "reflectlite.Value.Type" 0) (fun t _ _ _ => ReflectliteType.toType t)) Tryz.func137 (by kernel_rfl) (by kernel_rfl) (by kernel_rfl) (by kernel_rfl)
 have h8 := @run_callFunc_extern Tryz.prog 138 _ (ReflectliteValue.method (ReflectliteValue.valueError "reflectlite.Value.IsNil" 0) ReflectliteValue.isNil) Tryz.func138 (by kernel_rfl) (by kernel_rfl) (by kernel_rfl) (by kernel_rfl)
 have h27 := @run_callFunc_extern Tryz.prog 188 _ (ReflectliteType.abiMethod fun t => do pure (.int .u8 (← Rtype.kind t))) Tryz.func188 (by kernel_rfl) (by kernel_rfl) (by kernel_rfl) (by kernel_rfl)
 have h37 := @run_callFunc_extern Tryz.prog 204 _ (ReflectliteType.method ReflectliteType.elem) Tryz.func204 (by kernel_rfl) (by kernel_rfl) (by kernel_rfl) (by kernel_rfl)
 have h38 := @run_callFunc_extern Tryz.prog 205 _ (ReflectliteType.relation "Implements" ReflectliteType.implements_) Tryz.func205 (by kernel_rfl) (by kernel_rfl) (by kernel_rfl) (by kernel_rfl)
 have h10 := @run_callFunc_extern Tryz.prog 118 _ ReflectliteType.typeOf Tryz.func118 (by kernel_rfl) (by kernel_rfl) (by kernel_rfl) (by kernel_rfl)
 have h35 := @run_callFunc_extern Tryz.prog 202 _ (ReflectliteType.relation "AssignableTo" ReflectliteType.assignableTo) Tryz.func202 (by kernel_rfl) (by kernel_rfl) (by kernel_rfl) (by kernel_rfl)
 have h11 := @run_callFunc_extern Tryz.prog 151 _ (ReflectliteValue.method (ReflectliteValue.valueError "reflectlite.Value.Elem" 0) ReflectliteValue.elem) Tryz.func151 (by kernel_rfl) (by kernel_rfl) (by kernel_rfl) (by kernel_rfl)
 have h12 := @run_callFunc_extern Tryz.prog 152 _ ReflectliteValue.set Tryz.func152 (by kernel_rfl) (by kernel_rfl) (by kernel_rfl) (by kernel_rfl)
 have tO := asx_typeOf25
 have mA := asx_methodAssignableTo
 have a25 := asx_assignable25
 have v25 := asx_valueOf25
 have f6 := asx_valueOf27
 have f7 := asx_type27
 have mK := asx_methodKind
 have mE := asx_methodElem
 have mI := asx_methodImplements
 have k27 := asx_kind27
 have k25 := asx_kind25
 have e27 := asx_elem27
 have i25 := asx_implements25
 have n8 := asx_isNil27 ⟨w.heap.size, 0, none⟩ t ((w.alloc (.cells #[.pointer (some t)] 167)).alloc (.cells #[.pointer (some ⟨5, 167, none⟩), .pointer (some ⟨w.heap.size, 0, none⟩), .int .u64 150] 193)) (by simp)
 have hlt : 1 < w.heap.size := by
  rcases Nat.lt_or_ge 1 w.heap.size with h | h
  ·exact h
  ·simp [World.cell?, Array.getElem?_eq_none h] at hg
 have hg2 : ((w.alloc (.cells #[.pointer (some t)] 167)).alloc (.cells #[.pointer (some ⟨5, 167, none⟩), .pointer (some ⟨w.heap.size, 0, none⟩), .int .u64 150] 193)).cell? ⟨1, 0, none⟩ = some (.iface 201 (.agg #[.pointer (some ⟨5, 85, none⟩)])) := by
  rw [World.cell?_alloc_lt _ _ ⟨1, 0, none⟩ (by first | (simp; done) | (simp; omega)), World.cell?_alloc_lt _ _ ⟨1, 0, none⟩ hlt]; exact hg
 have htl : t.block < w.heap.size := by
  rcases Nat.lt_or_ge t.block w.heap.size with h | h
  ·exact h
  ·simp [World.cell?, Array.getElem?_eq_none h] at ht0
 have el := asx_elemV27 ⟨w.heap.size, 0, none⟩ t (((w.alloc (.cells #[.pointer (some t)] 167)).alloc (.cells #[.pointer (some ⟨5, 167, none⟩), .pointer (some ⟨w.heap.size, 0, none⟩), .int .u64 150] 193)).alloc (.cells #[.pointer (some ⟨5, 167, none⟩), .pointer (some ⟨w.heap.size, 0, none⟩), .int .u64 150] 193)) (by rw [World.cell?_alloc_lt _ _ ⟨w.heap.size, 0, none⟩ (by simp; omega)]; simp)
 have st := asx_set25 t ⟨w.heap.size + 1 + 1 + 1, 0, none⟩ e old ((((w.alloc (.cells #[.pointer (some t)] 167)).alloc (.cells #[.pointer (some ⟨5, 167, none⟩), .pointer (some ⟨w.heap.size, 0, none⟩), .int .u64 150] 193)).alloc (.cells #[.pointer (some ⟨5, 167, none⟩), .pointer (some ⟨w.heap.size, 0, none⟩), .int .u64 150] 193)).alloc (.cells #[.pointer (some e)] 164))
  (by rw [World.cell?_alloc_at _ _ _ _ (by simp)]; rfl)
  (by rw [World.cell?_alloc_lt _ _ t (by simp; omega), World.cell?_alloc_lt _ _ t (by simp; omega), World.cell?_alloc_lt _ _ t (by simp; omega), World.cell?_alloc_lt _ _ t htl]; exact ht0)
  (by rw [World.frozen?_alloc_old _ _ t (by simp; omega), World.frozen?_alloc_old _ _ t (by simp; omega), World.frozen?_alloc_old _ _ t (by simp; omega), World.frozen?_alloc_old _ _ t (Nat.ne_of_lt htl)]; exact hf0)
 have tO2 := asx_typeOf90
 have a90 := asx_assignable90
 have nA := asx_noAs
 have hU := asx_hasUnwrap
 have mU := asx_methodUnwrap
 have hql : q < w.heap.size := by
  rcases Nat.lt_or_ge q w.heap.size with h | h
  ·exact h
  ·simp [World.cell?, Array.getElem?_eq_none h] at hq
 have hq3 : (((w.alloc (.cells #[.pointer (some t)] 167)).alloc (.cells #[.pointer (some ⟨5, 167, none⟩), .pointer (some ⟨w.heap.size, 0, none⟩), .int .u64 150] 193)).alloc (.cells #[.pointer (some ⟨5, 167, none⟩), .pointer (some ⟨w.heap.size, 0, none⟩), .int .u64 150] 193)).cell? ⟨q, 1, none⟩ = some (.iface 164 (.pointer (some e))) := by
  rw [World.cell?_alloc_lt _ _ ⟨q, 1, none⟩ (by simp; omega), World.cell?_alloc_lt _ _ ⟨q, 1, none⟩ (by simp; omega), World.cell?_alloc_lt _ _ ⟨q, 1, none⟩ hql]; exact hq
 go_enter Tryz.func117, Tryz.ntmps117
 go_wp2
 refine wp_loop_rounds 2 ?_
 rw [rounds_succ]
 go_wp2
 rw [rounds_succ]
 go_wp2
 go_ret
 exact ⟨rfl, rfl⟩
end Go.Proofs.YtpfbimkpcnnfkaaGreatDoor.Ext
