/- ChangeRight: the row, and the tied card. -/
import Derived.Test.YtpfbimkpcnnfkaaGreatDoorRows
import Derived.Test.YtpfbimkpcnnfkaaGreatDoorSyX
import Derived.Test.YtpfbimkpcnnfkaaGreatDoorLwRight
import Derived.WalkKit
import Derived.ProofKit
import Derived.OpenShut
import Derived.ShutString
import Derived.ChangeOld
import Derived.Below
import Derived.SizedLaws
import Derived.LaidMore
import Derived.LaidLaws
import Derived.LaidHandle
import Derived.Lay
import Derived.SevenTiedAt
import Derived.Stop.Joined
import Derived.Test.YtpfbimkpcnnfkaaGreatDoorTie
import Derived.Test.YtpfbimkpcnnfkaaGreatDoorCards
namespace Go.Proofs.YtpfbimkpcnnfkaaGreatDoor.changeRight
open Go.ChangeShapes Go.WideShapes Go.ChangeAt Go.RowKit Go.Proofs.YtpfbimkpcnnfkaaGreatDoor.Sx
open Go.ChangeMaps (open_string shut_string)
set_option linter.unusedVariables false
theorem own : ownKnob Tryz.prog.godebug = none := by kernel_rfl
theorem laidOut : laidOutB Tryz.prog = true := by kernel_rfl
theorem et : Tryz.prog.globalNamed "errors.errorType" = some 1 := by kernel_rfl
theorem gs : Tryz.prog.globalNamed "flagstone/change.errSame" = some 0 := by kernel_rfl
theorem gsType : (Tryz.prog.globals[0]?).map (·.type) = some 85 := by kernel_rfl
theorem star : "*" ++ "errors.errorString" = "*errors.errorString" := by decide
theorem rowPE : ∀ u, Tryz.prog.typeName? 3 u = some "*errors.errorString" → u = 241 := fun u h => typeName_ptr_named (nm := "errors.errorString") (by rw [star]; kernel_rfl) (by kernel_rfl) (by decide) u (by rw [star]; exact h)
theorem rt : (Tryz.prog.cutTypes.find? (·.1 == "internal/reflectlite.rtype")).map (·.2) = some 201 := by kernel_rfl
theorem oneRow : ((List.range 274).filter fun t => Tryz.prog.rowNamed t [101, 114, 114, 111, 114]) = [85] := by kernel_rfl
theorem tsize : Tryz.prog.types.size = 274 := by kernel_rfl
theorem eg_of_laid {W : World} (h : laidMetH Tryz.prog Rows.changeRightRow.laid W) : EgM (memOf W) := by
 have h' : laidMet Tryz.prog (Rows.changeRightRow.laid.filter fun x => x.2.handleName?.isNone) W ∧ handlesMet Tryz.prog (Rows.changeRightRow.laid.filter fun x => x.2.handleName?.isSome) W := h
 obtain ⟨name, u, ty, e1, e2, e3, e4, e5⟩ := h'.2 ("errors.errorType", .iface "internal/reflectlite.rtype" (.agg [.ptr (.lit (.string [101, 114, 114, 111, 114]))])) (List.mem_singleton.2 rfl)
 have en : name = [101, 114, 114, 111, 114] := (Option.some.inj e1).symm
 subst en
 obtain rfl := Option.some.inj (rt.symm.trans e2)
 have hm : ty ∈ (List.range 274).filter fun t => Tryz.prog.rowNamed t [101, 114, 114, 111, 114] := List.mem_filter.2 ⟨List.mem_range.2 (by rw [← tsize]; exact e3), e4⟩
 rw [oneRow] at hm
 obtain rfl := List.mem_singleton.1 hm
 have hh : typeHandle Tryz.prog 85 = .pointer (some ⟨5, 85, none⟩) := by kernel_rfl
 rw [hh] at e5
 have := World.var?_cell et e5 0
 unfold EgM memOf
 simpa using this
set_option maxRecDepth 100000 in
theorem es_of_laid {W : World} (h : laidMetH Tryz.prog Rows.changeRightRow.laid W) : ∃ a, EsM a (memOf W) := by
 have h' : laidMet Tryz.prog (Rows.changeRightRow.laid.filter fun x => x.2.handleName?.isNone) W ∧ handlesMet Tryz.prog (Rows.changeRightRow.laid.filter fun x => x.2.handleName?.isSome) W := h
 obtain ⟨ps, ⟨g0, t0, cs0, f0, p0, q0, hg0, ht0, hv0, hd0, ⟨g1, t1, cs1, f1, p1, q1, hg1, ht1, hv1, hd1, hL1, e1⟩, e0⟩, hnd, hrows⟩ := h'.1
 obtain rfl := Option.some.inj (gs.symm.trans hg1)
 obtain rfl := Option.some.inj (gsType.symm.trans ht1)
 subst e1
 subst e0
 obtain ⟨l1⟩ := cs1
 have ok1 : ∀ u v, l1 = [.iface u v] → Value.okWide Tryz.prog W .any 0 u v := fun u v e => by
  subst e
  exact (hrows 0 0 (List.mem_append_right _ (List.mem_append_left _ (List.mem_append_left _ (by simp [MemPlace.row]))))).2 u v (by simpa using World.var?_cell hg1 hv1 0)
 obtain ⟨a1, s1, rfl, hc1, hs1, hz1, rfl⟩ := errorString_of_trod Tryz.underlying85 rowPE Tryz.underlying241 Tryz.underlying262 rfl rfl Tryz.underlying9 (by kernel_rfl) (by kernel_rfl) hd1 ok1
 refine ⟨a1, ?_⟩
 have := World.var?_cell gs hv1 0
 unfold EsM memOf sameV
 simpa using this
noncomputable def laidW (os : Os) : World :=
 let w0 := World.laidAll Tryz.prog os (Rows.changeRightRow.laid.filter fun x => x.2.handleName?.isNone)
 { w0 with heap := w0.heap.modify 1 fun
   | .cells _ t frozen => .cells #[.iface 201 (.agg #[.pointer (some ⟨5, 85, none⟩)])] t frozen
   | o => o }
set_option maxRecDepth 100000 in
theorem laidW_met (os : Os) (args : Array Value) : laidMetH Tryz.prog Rows.changeRightRow.laid ((laidW os).forCall (fun _ _ => 0) ⟨#[], args, []⟩).memory :=
 laidMetH_of_parts (laidMet_of_run' 8 (by kernel_rfl) (by kernel_rfl)) (by kernel_rfl)
set_option maxRecDepth 100000 in
theorem lifted (os : Os) (started : os.Started) (H : Type) (enc : TypeId × Value → H) :
  ReturnsInHanded {} Tryz.checked os 9 .any (fun w args => (Rows.changeRightSpec.pre enc Tryz.prog Tryz.f9 Rows.changeRightRow.domain false w args ∧ laidMetH Tryz.prog Rows.changeRightRow.laid w) ∧ sizedMet enc Tryz.prog Tryz.f9 (OpenSpec.ofChange Rows.changeRightSpec) false w args) (Rows.changeRightSpec.post enc Tryz.prog Tryz.f9 false true false false) := by
 refine returnsInHanded_of_change_and (C := Tryz.checked) (X := fun w _ => laidMetH Tryz.prog Rows.changeRightRow.laid w) (fun _ _ _ hh h => h.of_heap hh) own started (by kernel_rfl) Tryz.func9
  (ChangeSpec.witness_shaped (enc := enc) (C := Tryz.checked) (os := os) (X := fun w _ => laidMetH Tryz.prog Rows.changeRightRow.laid w) false (laidW os) #[.agg #[.slice none 0 0, .int .i64 0, .int .i64 0], .agg #[.int .i64 0, .int .i64 0], .agg #[.int .i64 0, .int .i64 0], .string ByteArray.empty, .string ByteArray.empty, .int .i64 0] 8 (World.laidAll_os _ _ _)
   (World.shaped_of_ZipB (by kernel_rfl) (by kernel_rfl)) (by kernel_rfl) (by kernel_rfl) (by kernel_rfl)
   (laidW_met os _)) ?_
 intro W base args ds gs before hval0 hW hcnd hsz0 hL_ _
 have hEg := eg_of_laid hL_
 obtain ⟨sA, hEs⟩ := es_of_laid hL_
 clear hL_
 have hval : ∀ (j : Nat) t v, Tryz.f9.params[j]? = some t → args[j]? = some v → Value.okWide Tryz.prog W .any base t v := hval0
 have hW' := hW
 obtain ⟨p, q, hA0, hV, rfl, hfz, hnd⟩ := hW
 have hA : DataW.TrodAll enc Tryz.prog W 0 (fun _ => true) true Tryz.f9.params.toList args.toList ds p := hA0
 rw [Tryz.params9] at hA hval hsz0
 obtain ⟨v0, vs0, d0, ds0, p0, q0, hargs, rfl, rfl, h0, r0⟩ := trodAll_cons hA
 obtain ⟨v1, vs1, d1, ds1, p1, q1, rfl, rfl, rfl, h1, r1⟩ := trodAll_cons r0
 obtain ⟨v2, vs2, d2, ds2, p2, q2, rfl, rfl, rfl, h2, r2⟩ := trodAll_cons r1
 obtain ⟨v3, vs3, d3, ds3, p3, q3, rfl, rfl, rfl, h3, r3⟩ := trodAll_cons r2
 obtain ⟨v4, vs4, d4, ds4, p4, q4, rfl, rfl, rfl, h4, r4⟩ := trodAll_cons r3
 obtain ⟨v5, vs5, d5, ds5, p5, q5, rfl, rfl, rfl, h5, r5⟩ := trodAll_cons r4
 obtain ⟨rfl, rfl, rfl⟩ := trodAll_nil r5
 obtain rfl : args = #[v0, v1, v2, v3, v4, v5] := by cases args; simp_all
 obtain ⟨rfl, rfl⟩ := trodVars_none hV
 have k0 := h0
 have lt0 : ∀ x ∈ p0, x.block < W.heap.size := by obtain ⟨m, hm⟩ := k0; exact DataW.trod_lt m _ _ _ hm
 have hwt0 : Wt Tryz.prog 24 d0 := fun n hn => by have := List.all_eq_true.1 hsz0 _ (DataW.weights_mem_each (j := 0) (by simp) rfl n hn); simpa using this
 obtain ⟨dA, dc, dns, dm, dr, rfl, yd, yc, yl, ys⟩ := open_disk (hval 0 24 v0 rfl rfl) h0 hwt0
 have k1 := h1
 have lt1 : ∀ x ∈ p1, x.block < W.heap.size := by obtain ⟨m, hm⟩ := k1; exact DataW.trod_lt m _ _ _ hm
 obtain ⟨j1a, j1b, rfl⟩ := open_as (hval 1 26 v1 rfl rfl) h1
 have k2 := h2
 have lt2 : ∀ x ∈ p2, x.block < W.heap.size := by obtain ⟨m, hm⟩ := k2; exact DataW.trod_lt m _ _ _ hm
 obtain ⟨j2a, j2b, rfl⟩ := open_as (hval 2 26 v2 rfl rfl) h2
 have k3 := h3
 have lt3 : ∀ x ∈ p3, x.block < W.heap.size := by obtain ⟨m, hm⟩ := k3; exact DataW.trod_lt m _ _ _ hm
 obtain ⟨j3, rfl, rfl, rfl, y3⟩ := open_string Tryz.underlying9 (hval 3 9 v3 rfl rfl) h3
 have k4 := h4
 have lt4 : ∀ x ∈ p4, x.block < W.heap.size := by obtain ⟨m, hm⟩ := k4; exact DataW.trod_lt m _ _ _ hm
 obtain ⟨j4, rfl, rfl, rfl, y4⟩ := open_string Tryz.underlying9 (hval 4 9 v4 rfl rfl) h4
 have k5 := h5
 have lt5 : ∀ x ∈ p5, x.block < W.heap.size := by obtain ⟨m, hm⟩ := k5; exact DataW.trod_lt m _ _ _ hm
 obtain ⟨j5, rfl, rfl, rfl, y5⟩ := open_int Tryz.underlying3 (hval 5 3 v5 rfl rfl) h5
 clear hA0 hval0 hsz0
 refine (law_calls (ChangeRight.cv dA dc dns dm dr j1a j1b j2a j2b j3 j4 j5 (memOf W) yd ys hEg sA hEs) (sees_memOf W)).mono fun e W' ⟨he, bel⟩ => ?_
 subst he
 exact ⟨_, rfl, _, _, _, [], _, [], hW', trodAll_mk1 (shut_bool Tryz.underlying4 _), (trodAll_cons_mk (Below.trod laidOut (by kernel_rfl) (of_decide_eq_true (by kernel_rfl)) k0 bel lt0) (trodAll_cons_mk (Below.trod laidOut (by kernel_rfl) (of_decide_eq_true (by kernel_rfl)) k1 bel lt1) (trodAll_cons_mk (Below.trod laidOut (by kernel_rfl) (of_decide_eq_true (by kernel_rfl)) k2 bel lt2) (trodAll_cons_mk (Below.trod laidOut (by kernel_rfl) (of_decide_eq_true (by kernel_rfl)) k3 bel lt3) (trodAll_cons_mk (Below.trod laidOut (by kernel_rfl) (of_decide_eq_true (by kernel_rfl)) k4 bel lt4) (trodAll_cons_mk (Below.trod laidOut (by kernel_rfl) (of_decide_eq_true (by kernel_rfl)) k5 bel lt5) trodAll_mk0)))))), rfl, bel.frame _, fun h => by cases h⟩
theorem over : Rows.changeRightRow.holds Tryz.pinned (OpenSpec.ofChange Rows.changeRightSpec) :=
 OpenClaim.holds_of_wide 9 Tryz.f9 rfl rfl rfl rfl rfl rfl rfl ⟨rfl, rfl, rfl, rfl, rfl⟩ rfl rfl rfl rfl rfl (by kernel_rfl) Tryz.func9 (by kernel_rfl)
  (of_decide_eq_true (by kernel_rfl)) (by unfold Func.isWrapper; first | (rw [if_pos (by decide +kernel)]; kernel_rfl) | (rw [if_neg (by decide +kernel)]; exact ⟨rfl, rfl⟩))
  (fun os started H enc _ => lifted os started H enc)
theorem proved : Rows.ChangeRightSaid := over
#print axioms proved
end Go.Proofs.YtpfbimkpcnnfkaaGreatDoor.changeRight
namespace Go.Proofs.YtpfbimkpcnnfkaaGreatDoor
theorem changeRight_holds : Rows.ChangeRightSaid := changeRight.proved
theorem changeRight_card_holds : Rows.ChangeRightCardSaid :=
 Claim7.holds_tied_plain_at .later [] [.data, .handle, .sentinel, .pinned] true (true, "897ce41d144c35a31dab68c8899a528625e0e6303708f2f5003eb8a1880bffb8") true changeRight_holds (fun _ h => by cases h) (by kernel_rfl) (fun _ h => by cases h) changeRight_row_tie rfl ⟨rfl, rfl⟩ (by kernel_rfl) rfl
  (fun f fn hf hfn => by
   obtain rfl : f = 9 := Option.some.inj ((show Tryz.prog.funcNamed "flagstone/flagstonelaw08.ChangeRight" = some 9 by kernel_rfl).symm.trans hf) |>.symm
   obtain rfl : fn = Tryz.f9 := (Option.some.inj (Tryz.func9.symm.trans hfn)).symm
   exact ⟨by kernel_rfl, fun j t ht => by
    rw [Tryz.params9] at ht
    have hm : t ∈ [3, 9, 24, 26] := by have h_ := Array.mem_of_getElem? ht; simp at h_; first | (rcases h_ with h_ | h_ | h_ | h_ | h_ | h_ <;> simp [h_]; done) | (rcases h_ with h_ | h_ | h_ | h_ | h_ <;> simp [h_]; done) | (rcases h_ with h_ | h_ | h_ | h_ <;> simp [h_]; done) | (rcases h_ with h_ | h_ | h_ <;> simp [h_]; done) | (rcases h_ with h_ | h_ <;> simp [h_]; done) | (simp [h_]; done)
    have hall : ([3, 9, 24, 26].all fun u => !Tryz.prog.wantsStandIn u) = true := by kernel_rfl
    exact (show Tryz.prog.wantsStandIn t = false by simpa using List.all_eq_true.1 hall t hm)⟩)
  (by kernel_rfl)
end Go.Proofs.YtpfbimkpcnnfkaaGreatDoor
