/- The job layer: whether two jobs are the same. -/
import Derived.Test.YtjkjlegloicmcaaDoorJobA
import Derived.Test.YtjkjlegloicmcaaDoorLaws
import Derived.Test.YtjkjlegloicmcaaDoorEqLoops
import Derived.Deep.RegionHeld3
import Derived.WalkSpells
import Derived.Deep.DeepFit
set_option linter.unusedVariables false
set_option linter.unusedSimpArgs false
namespace Go.Proofs.YtjkjlegloicmcaaDoor
open Go.RowKit
attribute [local go_sem] isRow_drew row_drew isRow_drewN row_drewN cell_isRow rowSz_isRow isHead_ptr blockOf_ptr row_alloc isRow_alloc rowSz_alloc setRow_alloc isRow_setRow isRow_setCell isRow_frozen setCell_setRow_same setCell_setRow_other cell_setRow_same' cell_setRow_other' frozen_setRow' row_setRow_same row_setRow_other rowSz_setRow_same rowSz_setRow_other setRow_setRow_same' setRow_comm' ne_l2 ne_r2 ne_l3 ne_r3 ne_l4 ne_r4 ne_l5 ne_r5 ne_l6 ne_r6 ne_l7 ne_r7 ne_l8 ne_r8

def Frame.v (f : Frame) (s : Sl) : Value := .agg #[.int .i64 f.fd, .string f.name, .slice s.a f.names.length s.c]
theorem frame_ne {f g : Frame} (h : f.fd ≠ g.fd ∨ f.name.toList ≠ g.name.toList ∨ f.names ≠ g.names) : f ≠ g := by
  rintro rfl
  rcases h with h | h | h <;> exact h rfl
theorem frame_eq {f g : Frame} (h1 : f.fd = g.fd) (h2 : f.name.toList = g.name.toList) : decide (f = g) = decide (f.names = g.names) := by
  cases f; cases g
  simp only at h1 h2
  have h2 := str_inj h2
  subst h1 h2
  simp

set_option maxHeartbeats 400000 in
theorem same2_calls (f g : Frame) (s t : Sl) (w : World) (S : Nat → Prop) (hS : Sub S w) (hf : rStr.Is w S s f.names) (hg : rStr.Is w S t g.names) (hl : f.names.length ≤ 100000) :
    Calls Tryd.prog 28 #[f.v s, g.v t] w (RetB w (decide (f = g))) := by
  have HF := Lib.hid hf
  have HG := Lib.hid hg
  clear hf hg
  unfold Frame.v
  by_cases h1 : f.fd = g.fd
  · have d1 : (f.fd == g.fd) = true := by simp [h1]
    have H1 := Lib.hid h1; clear h1
    by_cases h2 : f.name.toList = g.name.toList
    · have d2 : (f.name.toList == g.name.toList) = true := by simp [h2]
      have H2 := Lib.hid h2; clear h2
      go_enter Tryd.func28, Tryd.ntmps28
      go_wp2_with fail
      refine Calls.at_ fun W hW => ?_
      have B0 : Below w.heap.size w W := by rw [hW]; repeat' (first | with_reducible refine Below.alloc ?_ ?_ _ | with_reducible refine Below.setRow_ ?_ ?_ _ | with_reducible refine Below.setCell ?_ ?_ _ | with_reducible refine Below.drew ?_ | with_reducible refine Below.drewN_ ?_ _ | with_reducible exact Below.refl _ _ | assumption | (simp; done) | (simp; omega) | omega)
      refine ((equalS_calls s t f.names g.names W S (HF.out.sub hS B0) (HG.out.sub hS B0) hl).mono fun _ _ h => h.ret).mono ?_
      rintro e w1 ⟨rfl, hb⟩
      have HB := Lib.hid (B0.trans (hb.mono B0.size))
      clear hb B0 hW W
      go_wp2
      go_ret
      exact ⟨ret_bool (by rw [frame_eq H1.out H2.out]), HB.out⟩
    · have d2 : (f.name.toList == g.name.toList) = false := by simp [h2]
      have hn := frame_ne (f := f) (g := g) (.inr (.inl h2))
      have HN := Lib.hid hn
      clear h2 hn
      go_enter Tryd.func28, Tryd.ntmps28
      go_wp2
      go_ret
      exact ⟨ret_bool (by simp [HN.out]), by repeat' (first | with_reducible refine Below.alloc ?_ ?_ _ | with_reducible refine Below.setRow_ ?_ ?_ _ | with_reducible refine Below.setCell ?_ ?_ _ | with_reducible refine Below.drew ?_ | with_reducible refine Below.drewN_ ?_ _ | with_reducible exact Below.refl _ _ | assumption | (simp; done) | (simp; omega) | omega)⟩
  · have d1 : (f.fd == g.fd) = false := by simp [h1]
    have hn := frame_ne (f := f) (g := g) (.inl h1)
    have HN := Lib.hid hn
    clear h1 hn
    go_enter Tryd.func28, Tryd.ntmps28
    go_wp2
    go_ret
    exact ⟨ret_bool (by simp [HN.out]), by repeat' (first | with_reducible refine Below.alloc ?_ ?_ _ | with_reducible refine Below.setRow_ ?_ ?_ _ | with_reducible refine Below.setCell ?_ ?_ _ | with_reducible refine Below.drew ?_ | with_reducible refine Below.drewN_ ?_ _ | with_reducible exact Below.refl _ _ | assumption | (simp; done) | (simp; omega) | omega)⟩

set_option maxHeartbeats 1000000 in
theorem equalFunc_calls (s t : Sl) (xs ys : List Frame) (w : World) (S : Nat → Prop) (hS : Sub S w) (ha : rFrame.Is w S s xs) (hb : rFrame.Is w S t ys) (hl : xs.length ≤ 1000) (hn : ∀ f ∈ xs, f.names.length ≤ 100000) :
    Calls Tryd.prog 31 #[.slice s.a xs.length s.c, .slice t.a ys.length t.c, .func (.func 28) #[] #[]] w (RetB w (decide (xs = ys))) := by
  obtain ⟨_, ha⟩ := ha
  obtain ⟨_, hb⟩ := hb
  obtain ⟨sa, sc⟩ := s
  obtain ⟨ta, tc⟩ := t
  simp only at ha hb ⊢
  have HA := Lib.hid ha
  have HB := Lib.hid hb
  have HNm := Lib.hid hn
  clear ha hb hn
  by_cases hl2 : xs.length = ys.length
  · have hb1 : ((xs.length : Int) != (ys.length : Int)) = false := by simp [hl2]
    generalize hm : ys.length = m at *
    have hm0 : m ≤ 1000 := by omega
    have HL := Lib.hid hl2; clear hl2
    have HM := Lib.hid hm; clear hm
    go_enter Tryd.func31, Tryd.ntmps31
    go_wp2
    go_loopw [17] (fun i wr => ∃ k : Nat, k ≤ m ∧ i = .int .i64 k ∧ (∀ j, j < k → xs[j]? = ys[j]?) ∧ Below w.heap.size w wr) (fun i _ => m - (intOf i).toNat)
    case atStart => exact ⟨0, by omega, rfl, by omega, Below.refl _ _⟩
    case round =>
      obtain ⟨k, hk, rfl, hj, hbw⟩ := hrel
      have HJ := Lib.hid hj
      have HW := Lib.hid hbw
      clear hj hbw
      by_cases hlt : k < m
      · have hx1 : k < xs.length := by rw [HL.out]; exact hlt
        have hy1 : k < ys.length := by rw [HM.out]; exact hlt
        obtain ⟨b1, o1, s1, rfl, hb1S, hs1, c10, c11, c12⟩ := (HA.out.below HW.out hS).frame k hx1
        obtain ⟨b2, o2, s2, rfl, hb2S, hs2, c20, c21, c22⟩ := (HB.out.below HW.out hS).frame k hy1
        have hfn := HNm.out _ (List.getElem_mem hx1)
        generalize hx : xs[k]'hx1 = f at *
        generalize hy : ys[k]'hy1 = g at *
        have HX := Lib.hid hx; clear hx
        have HY := Lib.hid hy; clear hy
        have HS1 := Lib.hid hs1; clear hs1
        have HS2 := Lib.hid hs2; clear hs2
        have hlt1 := block_lt_of_cell c10
        have hlt2 := block_lt_of_cell c20
        by_cases hfg : f = g
        · have hd : decide (f = g) = true := by simp [hfg]
          have HFG := Lib.hid hfg; clear hfg
          go_wp2_with fail
          refine Calls.at_ fun W hW => ?_
          have B1 : Below w.heap.size w W := HW.out.trans (by rw [hW]; have := HW.out.size; repeat' (first | with_reducible refine Below.alloc ?_ ?_ _ | with_reducible refine Below.setRow_ ?_ ?_ _ | with_reducible refine Below.setCell ?_ ?_ _ | with_reducible refine Below.drew ?_ | with_reducible refine Below.drewN_ ?_ _ | with_reducible exact Below.refl _ _ | assumption | (simp; done) | (simp; omega) | omega))
          refine (same2_calls f g s1 s2 W S (hS.mono B1) (HS1.out.move fun k hk => by rw [hW]; have := HW.out.size; have := hS k hk; rw [Below.heap_alloc _ _ _ (by simp; omega), Below.heap_alloc _ _ _ (by omega)]) (HS2.out.move fun k hk => by rw [hW]; have := HW.out.size; have := hS k hk; rw [Below.heap_alloc _ _ _ (by simp; omega), Below.heap_alloc _ _ _ (by omega)]) hfn).mono ?_
          rintro e w2 ⟨rfl, hb2⟩
          have HB2 := Lib.hid (B1.trans (hb2.mono B1.size))
          clear hb2 B1 hW W
          go_wp2
          go_roundw
          case rel =>
            refine ⟨k + 1, by omega, by go_num, fun j hj => ?_, HB2.out⟩
            rcases Nat.lt_or_ge j k with h1 | h1
            · exact HJ.out j h1
            · obtain rfl : j = k := by omega
              rw [List.getElem?_eq_getElem hx1, List.getElem?_eq_getElem hy1, HX.out, HY.out, HFG.out]
          case measure => simp [intOf]; omega
        · have hd : decide (f = g) = false := by simp [hfg]
          have hne : xs ≠ ys := by
            rintro rfl
            exact hfg (HX.out.symm.trans HY.out)
          have HN := Lib.hid hne; clear hfg hne
          go_wp2_with fail
          refine Calls.at_ fun W hW => ?_
          have B1 : Below w.heap.size w W := HW.out.trans (by rw [hW]; have := HW.out.size; repeat' (first | with_reducible refine Below.alloc ?_ ?_ _ | with_reducible refine Below.setRow_ ?_ ?_ _ | with_reducible refine Below.setCell ?_ ?_ _ | with_reducible refine Below.drew ?_ | with_reducible refine Below.drewN_ ?_ _ | with_reducible exact Below.refl _ _ | assumption | (simp; done) | (simp; omega) | omega))
          refine (same2_calls f g s1 s2 W S (hS.mono B1) (HS1.out.move fun k hk => by rw [hW]; have := HW.out.size; have := hS k hk; rw [Below.heap_alloc _ _ _ (by simp; omega), Below.heap_alloc _ _ _ (by omega)]) (HS2.out.move fun k hk => by rw [hW]; have := HW.out.size; have := hS k hk; rw [Below.heap_alloc _ _ _ (by simp; omega), Below.heap_alloc _ _ _ (by omega)]) hfn).mono ?_
          rintro e w2 ⟨rfl, hb2⟩
          have HB2 := Lib.hid (B1.trans (hb2.mono B1.size))
          clear hb2 B1 hW W
          go_wp2
          go_ret
          exact ⟨ret_bool (by simp [HN.out]), HB2.out⟩
      · have hkm : k = m := by omega
        have hd : decide (k < m) = false := by simp; omega
        have hd2 : decide (k < xs.length) = false := by rw [HL.out]; exact hd
        have HK := Lib.hid hkm; clear hkm
        go_wp2
        go_ret
        exact ⟨ret_bool (by simp [lists_eq (HL.out.trans HM.out.symm) (fun j hj => HJ.out j (by rw [HK.out, ← HM.out]; exact hj))]), HW.out⟩
  · have hb1 : ((xs.length : Int) != (ys.length : Int)) = true := by simp; omega
    have hne : xs ≠ ys := by rintro rfl; exact hl2 rfl
    have HN := Lib.hid hne; clear hne
    go_enter Tryd.func31, Tryd.ntmps31
    go_wp2
    go_ret
    exact ⟨ret_bool (by simp [HN.out]), Below.refl _ _⟩

theorem ldx_27 {ρ : Operand → Value} {dst : Option Tmp} {tt : TypeId} {pos : String} {after : Array Edge} {gd : Option (Nat × Bool)} {x : Operand} {w : World} (h1 : isHead (ρ x) = true) (h2 : rowSz w (blockOf (ρ x)) 19 = true) : (execOp ρ { dst := dst, op := .load 27 x, type := tt, pos := pos, after := after, guard := gd }).run Tryd.prog w = .ok (.value (.agg (row w (blockOf (ρ x))))) w := ld_exec 27 19 Tryd.underlying27 (by kernel_rfl) h1 h2
attribute [local go_sem ↓] ldx_27
def Job.nums (j : Job) : List Int := [j.kind, j.p, j.phase, j.fd, j.n, j.mode, j.tries, j.at_, j.flags, j.exit]
def RetN (w : World) (l : List Int) (e : Ending) (w' : World) : Prop := e = .returned (.agg (l.map (Value.int .i64)).toArray) ∧ Below w.heap.size w w'
set_option maxHeartbeats 400000 in
theorem same1_calls (j : Job) (a : JA) (w : World) :
    Calls Tryd.prog 27 #[.agg (j.cells a).toArray] w (RetN w j.nums) := by
  unfold Job.cells
  go_enter Tryd.func27, Tryd.ntmps27
  go_wp2_with (first | (apply ld_row 27 19; (focus rfl); (focus go_simp); (focus (go_simp; rfl)); (focus (exact Tryd.underlying27)); (focus kernel_rfl)) | (apply st_row 27 19; (focus rfl); (focus rfl); (focus go_simp); (focus kernel_rfl); (focus rfl); (focus (first | (simp [Value.oneCell']; done) | (simp [Value.oneCell', Job.cells]; done)))))
  refine bodyPost_ret (v := .agg (j.nums.map (Value.int .i64)).toArray) (by simp [results, Tryd.results27, go_sem, Job.nums]) rfl ⟨rfl, by repeat' (first | with_reducible refine Below.alloc ?_ ?_ _ | with_reducible refine Below.setRow_ ?_ ?_ _ | with_reducible refine Below.setCell ?_ ?_ _ | with_reducible refine Below.drew ?_ | with_reducible refine Below.drewN_ ?_ _ | with_reducible exact Below.refl _ _ | assumption | (simp; done) | (simp; omega) | omega)⟩

theorem forIn_all {P : Program} {w : World} {l : List Nat} {f : Nat → Option Bool × Unit → Sem (ForInStep (Option Bool × Unit))} (c : Nat → Bool)
    (hf : ∀ i, i ∈ l → ∀ s, (f i s).run P w = .ok (if c i = true then ForInStep.yield (none, ()) else ForInStep.done (some false, ())) w) :
    (forIn l (none, ()) f).run P w = .ok (if l.all c = true then (none, ()) else (some false, ())) w := by
  induction l with
  | nil => simp
  | cons x l ih =>
    rw [List.forIn_cons, Sem.run_bind, hf x List.mem_cons_self]
    by_cases h : c x = true
    · simp only [h, if_true, Result.andThen_ok, List.all_cons, Bool.true_and]
      exact ih fun i hi => hf i (List.mem_cons_of_mem _ hi)
    · simp [h]
theorem eqArr {w : World} (xs ys : List Int) (hx : xs.length = 10) (hy : ys.length = 10) : (binOp .eql 60 (.agg (xs.map (Value.int .i64)).toArray) (.agg (ys.map (Value.int .i64)).toArray)).run Tryd.prog w = .ok (.bool (decide (xs = ys))) w := by
  have h : ∀ d, (Op.equalIn (d + 2) 60 (.agg (xs.map (Value.int .i64)).toArray) (.agg (ys.map (Value.int .i64)).toArray)).run Tryd.prog w = .ok (decide (xs = ys)) w := by
    intro d
    have hu := Tryd.underlying60
    have he := Tryd.underlying3
    have hi : (Tryd.prog.info? 3).map (·.size) = some 1 := by kernel_rfl
    obtain ⟨i, hi, hs⟩ := Option.map_eq_some_iff.1 hi
    have hag : (isAgg 3).run Tryd.prog w = .ok false w := by unfold isAgg; rw [Sem.run_bind, run_underlying he w]; rfl
    rw [Op.equalIn]
    simp only [Sem.run_bind, run_underlying hu, Result.andThen_ok, sizeOf, typeInfo, run_program, hi, hs, Sem.run_pure]
    have hp : ∀ (zs : List Int) (i : Nat) (hi : i < zs.length), (part 3 (zs.map (Value.int .i64)).toArray (i * 1)).run Tryd.prog w = .ok (.int .i64 (zs[i]'hi)) w := fun zs i hz => by
      unfold part
      rw [Sem.run_bind, hag]
      simp [hz]
    rw [Std.Legacy.Range.forIn_eq_forIn_range']
    rw [forIn_all (fun i => xs.getD i 0 == ys.getD i 0)]
    · simp only [Result.andThen_ok]
      by_cases hxy : xs = ys
      · subst hxy
        simp
      · generalize hb : List.all _ _ = bb
        cases bb with
        | true =>
          exfalso
          refine hxy (lists_eq (hx.trans hy.symm) fun j hj => ?_)
          rw [List.all_eq_true] at hb
          have h1 := hb j (by simp [Std.Legacy.Range.size]; omega)
          simp only [List.getD_eq_getElem?_getD, beq_iff_eq] at h1
          rw [List.getElem?_eq_getElem (by omega), List.getElem?_eq_getElem hj] at h1 ⊢
          simpa using h1
        | false => simp [hxy]
    · intro i hi s
      have hi : i < 10 := by simpa [Std.Legacy.Range.size] using hi
      simp only [Sem.run_bind, hp xs i (by omega), hp ys i (by omega), Result.andThen_ok, run_equalIn_int w d _ .i64 _ _ _ he]
      rw [List.getD_eq_getElem?_getD, List.getD_eq_getElem?_getD, List.getElem?_eq_getElem (by omega), List.getElem?_eq_getElem (by omega)]
      simp only [Option.getD_some]
      by_cases h : (xs[i]'(by omega) == ys[i]'(by omega)) = true
      · simp [h]
      · simp [h]
  simp only [binOp]
  simp [Op.equal, Op.maxDepth, h 9998]
attribute [local go_sem] Job.cells
def Job.rest (j k : Job) : Bool := j.path.toList == k.path.toList && j.path2.toList == k.path2.toList && j.text.toList == k.text.toList && j.out.toList == k.out.toList && j.done == k.done && j.e == k.e
theorem job_eq (j k : Job) : decide (j = k) = (decide (j.nums = k.nums) && (j.rest k && (decide (j.names = k.names) && (decide (j.draws = k.draws) && decide (j.stack = k.stack))))) := by
  cases j; cases k
  rw [Bool.eq_iff_iff]
  simp only [Job.nums, Job.rest, Job.mk.injEq, List.cons.injEq, Bool.and_eq_true, decide_eq_true_eq, beq_iff_eq, and_true]
  constructor
  · rintro ⟨h1, h2, h3, h4, h5, h6, h7, h8, h9, h10, h11, h12, h13, h14, h15, h16, h17, h18, h19⟩
    subst_vars
    simp
  · rintro ⟨⟨h1, h2, h3, h4, h5, h6, h7, h8, h9, h10⟩, ⟨⟨⟨⟨⟨p1, p2⟩, p3⟩, p4⟩, p5⟩, p6⟩, n1, n2, n3⟩
    have p1 := str_inj p1
    have p2 := str_inj p2
    have p3 := str_inj p3
    have p4 := str_inj p4
    subst_vars
    simp

end Go.Proofs.YtjkjlegloicmcaaDoor
