/- The job layer: what a job draws. -/
import Derived.Test.YtjkjlegloicmcaaDoorJobB
import Derived.Test.YtjkjlegloicmcaaDoorReg
import Derived.Laws.MakeOwn
import Derived.Laws.CopyRow
set_option linter.unusedSimpArgs false
set_option linter.unusedVariables false
namespace Go.Proofs.YtjkjlegloicmcaaDoor
open Go.RowKit
attribute [local go_sem] isRow_drew row_drew isRow_drewN row_drewN cell_isRow rowSz_isRow isHead_ptr blockOf_ptr row_alloc isRow_alloc rowSz_alloc setRow_alloc isRow_setRow isRow_setCell isRow_frozen setCell_setRow_same setCell_setRow_other cell_setRow_same' cell_setRow_other' frozen_setRow' row_setRow_same row_setRow_other rowSz_setRow_same rowSz_setRow_other setRow_setRow_same' setRow_comm' ne_l2 ne_r2 ne_l3 ne_r3 ne_l4 ne_r4 ne_l5 ne_r5 ne_l6 ne_r6 ne_l7 ne_r7 ne_l8 ne_r8
theorem ldx_27 {ρ : Operand → Value} {dst : Option Tmp} {tt : TypeId} {pos : String} {after : Array Edge} {gd : Option (Nat × Bool)} {x : Operand} {w : World} (h1 : isHead (ρ x) = true) (h2 : rowSz w (blockOf (ρ x)) 19 = true) : (execOp ρ { dst := dst, op := .load 27 x, type := tt, pos := pos, after := after, guard := gd }).run Tryd.prog w = .ok (.value (.agg (row w (blockOf (ρ x))))) w := ld_exec 27 19 Tryd.underlying27 (by kernel_rfl) h1 h2
attribute [local go_sem ↓] ldx_27
/-- What is drawn. -/
def drawL (l : List Int) (at_ n : Int) : List Int := (List.range n.toNat).map fun i => l.getD (at_.toNat + i) 0
def RetD (w : World) (S : Nat → Prop) (l : List Int) (j : Job) (e : Ending) (w' : World) : Prop :=
  ∃ (s : Sl) (a : JA), e = .returned (.tuple #[.slice s.a l.length s.c, .agg (j.cells a).toArray]) ∧ rInt.Is w' (Ext w w' S) s l ∧ j.ok w' (Ext w w' S) a ∧ Below w.heap.size w w'
def ints (l : List Int) : Array Value := (l.map (Value.int .i64)).toArray
theorem upon_ex {P : Program} {α : Type} {o : Oper} {a : Act} {K : Act → World → Prop} {Q : Exit → Act → World → Prop} {x : Sem Value} {W W' : World} {g : α → Value} {f : Value → World → Result Next} (h : ∃ z, x.run P W = .ok (g z) W')
    (hk : ∀ z, Oper.upon P o a K Q ((Result.ok (g z) W').andThen f)) : Oper.upon P o a K Q ((x.run P W).andThen f) := by
  obtain ⟨z, hz⟩ := h
  rw [hz]; exact hk z
theorem make_ints (n m : Int) (hm : m = max n 0) (h3 : n ≤ 1000) (w : World) : (Instr.makeSlice 24 (Value.int .i64 m) (Value.int .i64 m)).run Tryd.prog w = .ok (.slice (some ⟨w.heap.size, 0, none⟩) n.toNat n.toNat) (w.alloc (.cells (ints (List.replicate n.toNat 0)) 3)) := by
  obtain ⟨i, hi, hz⟩ := Option.map_eq_some_iff.1 (show (Tryd.prog.info? 3).map (fun i => (i.zero, i.size, i.bytes)) = some (some (.int .i64 0), 1, 8) by kernel_rfl)
  simp only [Prod.mk.injEq] at hz
  have h := run_make (P := Tryd.prog) w 24 3 i (.int .i64 0) Tryd.underlying24 hi hz.1 .i64 .i64 m m (by omega) (by omega) (by rw [hz.2.2]; omega) (by omega)
  rw [h, hz.2.1, show m.toNat = n.toNat by omega, Nat.mul_one]
  congr 4
  unfold madeCells ints
  apply Array.ext
  · simp
  · intro k h1 h2; simp [Value.cells, Nat.mod_one]
theorem copy_ints (g m b off k n c : Nat) (l : List Int) (W : World) (hg : W.heap[g]? = some (.cells (ints (List.replicate m 0)) 3 (0, 0))) (hk : n = l.length) (hs : ∀ i, (h : i < l.length) → W.cell? ⟨b, off + i, none⟩ = some (.int .i64 l[i])) :
    ∃ z, (Builtin.copy_ #[24, 24] 3 #[.slice (some ⟨g, 0, none⟩) m m, .slice (some ⟨b, off, none⟩) n c]).run Tryd.prog W = .ok (goInt z) (W.setRow g (ints (l.take m ++ List.replicate (m - l.length) 0))) := by
  obtain ⟨i, hi, hz⟩ := Option.map_eq_some_iff.1 (show (Tryd.prog.info? 3).map (fun i => (i.zero, i.size, i.bytes)) = some (some (.int .i64 0), 1, 8) by kernel_rfl)
  simp only [Prod.mk.injEq] at hz
  have h := run_copy_row (P := Tryd.prog) W 24 24 3 3 g 0 m m ⟨b, off, none⟩ n c (ints (List.replicate m 0)) 3 ((l.take m).map (Value.int .i64)) Tryd.underlying24 (by rw [hi]; simp [hz.2.1]) hg
    (by rw [List.length_map, List.length_take, hk]; exact Nat.min_comm _ _) (fun j v hv => by
      rw [List.getElem?_map, Option.map_eq_some_iff] at hv
      obtain ⟨x, hx, rfl⟩ := hv
      have hj : j < l.length := by have := (List.getElem?_eq_some_iff.1 hx).1; simp at this; omega
      have h1 := hs j hj
      have h2 : l[j] = x := by rw [List.getElem?_take] at hx; split at hx; · rw [List.getElem?_eq_getElem hj] at hx; exact Option.some.inj hx
                               · cases hx
      rw [h2] at h1
      unfold Addr.add
      split
      · rename_i h0; subst h0; exact h1
      · exact h1)
    (by simp [ints]; omega) (fun v hv => by obtain ⟨x, _, rfl⟩ := List.mem_map.1 hv; rfl)
  refine ⟨((l.take m).map (Value.int .i64)).length, h.trans ?_⟩
  have e : (ints (List.replicate m 0)).toList = List.replicate m (Value.int .i64 0) := by simp [ints]
  rw [e]
  congr 2
  simp only [ints, List.take_zero, List.nil_append, Nat.zero_add, List.length_map, List.length_take, List.drop_replicate, List.map_append, List.map_replicate]
  rw [show m - min m l.length = m - l.length by omega]
theorem draw_eq (l : List Int) (at_ n : Int) (h0 : 0 ≤ at_) (h : at_ < l.length) : (l.drop at_.toNat).take n.toNat ++ List.replicate (n.toNat - (l.drop at_.toNat).length) 0 = drawL l at_ n := by
  unfold drawL
  apply List.ext_getElem
  · simp; omega
  · intro i h1 h2
    simp at h1 h2
    rw [List.getElem_map, List.getElem_range, List.getElem_append]
    split
    · rename_i h3
      simp at h3
      rw [List.getElem_take, List.getElem_drop, List.getD_eq_getElem?_getD, List.getElem?_eq_getElem (by omega)]; rfl
    · rename_i h3
      simp at h3
      rw [List.getElem_replicate, List.getD_eq_getElem?_getD, List.getElem?_eq_none (by omega)]; rfl
theorem draw_none (l : List Int) (at_ n : Int) (h0 : 0 ≤ at_) (h : ¬ at_ < l.length) : List.replicate n.toNat 0 = drawL l at_ n := by
  unfold drawL
  apply List.ext_getElem
  · simp
  · intro i h1 h2
    rw [List.getElem_map, List.getElem_range, List.getElem_replicate, List.getD_eq_getElem?_getD, List.getElem?_eq_none (by omega)]; rfl
theorem is_ints {w : World} {g : Nat} {l : List Int} {t c : Nat} {S : Nat → Prop} (h : w.heap[g]? = some (.cells (ints l) t (0, 0))) (hS : S g) (hc : l.length ≤ c) (hm : l.length ≤ maxLen) : rInt.Is w S ⟨some ⟨g, 0, none⟩, c⟩ l := by
  refine ⟨hc, hm, fun k hk => ⟨g, 0, [.int .i64 l[k]], rfl, hS, rfl, fun i u hu => ?_⟩⟩
  rcases i with _ | i
  · simp at hu; subst hu
    rw [cell_of_row w g _ _ t (0, 0) h]
    simp [ints, rInt, Rp.scalar, hk]
  · simp at hu
theorem max_ints (n m : Int) (hm : m = max n 0) (w : World) : (Builtin.max_ #[3, 3] 3 #[.int .i64 n, .int .i64 0]).run Tryd.prog w = .ok (.int .i64 m) w := by
  rcases Int.lt_or_le n 0 with h | h
  · rw [show m = 0 by omega]; go_simp; done
  · rw [show m = n by omega]; go_simp; intro h1; omega
theorem draw_end (j : Job) (a : JA) (n : Int) (w : World) (S : Nat → Prop) (hS : Sub S w) (hj : j.ok w S a) (W w1 : World) (l : List Int) (hl : l = drawL j.draws j.at_ n) (hn : n ≤ 1000)
    (hW : Below w.heap.size w W) (hg : W.heap[w.heap.size + 1 + 1]? = some (.cells (ints l) 3 (0, 0))) (h1 : Gro (fun k => k = w.heap.size + 1) W w1) :
    RetD w S (drawL j.draws j.at_ n) { j with at_ := j.at_ + n } (.returned (.tuple #[.slice (some ⟨w.heap.size + 1 + 1, 0, none⟩) n.toNat n.toNat, .agg (Job.cells { j with at_ := j.at_ + n } a).toArray])) w1 := by
  subst hl
  have hl2 : (drawL j.draws j.at_ n).length = n.toNat := by simp [drawL]
  have hlt : w.heap.size + 1 + 1 < W.heap.size := (Array.getElem?_eq_some_iff.1 hg).1
  have hb := Below.gro hW h1 (by omega) hW.size
  refine ⟨⟨some ⟨w.heap.size + 1 + 1, 0, none⟩, n.toNat⟩, a, by rw [hl2], ?_, ?_, hb⟩
  · exact is_ints ((h1.block _ hlt (by omega)).trans hg) (.inr ⟨by omega, Nat.lt_of_lt_of_le hlt h1.size⟩) (by omega) (by rw [hl2]; simp [maxLen]; omega)
  · exact (hj.sub hS hb).weak fun k hk => .inl hk
attribute [local go_sem] Job.cells
attribute [local go_sem ↓] Go.wp_at_zero Go.wp_at_succ
set_option maxHeartbeats 1000000 in
theorem draw_calls (j : Job) (a : JA) (n : Int) (w : World) (S : Nat → Prop) (hS : Sub S w) (hj : j.ok w S a) (h0 : 0 ≤ j.at_) (h1 : j.at_ ≤ 1000000) (h2 : -1000 ≤ n) (h3 : n ≤ 1000) :
    Calls Tryd.prog 9 #[.agg (j.cells a).toArray, .int .i64 n] w (RetD w S (drawL j.draws j.at_ n) { j with at_ := j.at_ + n }) := by
  have HJ := Lib.hid hj
  clear hj
  have hw : wrap64 (j.at_ + n) = j.at_ + n := by unfold wrap64; omega
  obtain ⟨m, hm⟩ : ∃ m, m = max n 0 := ⟨_, rfl⟩
  have hmk := make_ints n m hm h3
  have hmx := max_ints n m hm
  clear hm
  by_cases hc : j.at_ < (j.draws.length : Int)
  · obtain ⟨b, off, hA, hSb, _⟩ := HJ.out.2.2.2.int j.at_.toNat (by omega)
    have hcap := HJ.out.2.2.1
    have hne : ¬ a.d.c = j.at_.toNat := by omega
    have HR := Lib.hid HJ.out.2.2.2
    rw [hA] at HR
    unfold Job.cells
    go_enter Tryd.func9, Tryd.ntmps9
    go_wp2_with (first | (apply ld_row 27 19; (focus rfl); (focus go_simp); (focus (go_simp; rfl)); (focus (exact Tryd.underlying27)); (focus kernel_rfl)) | (apply st_row 27 19; (focus rfl); (focus rfl); (focus go_simp); (focus kernel_rfl); (focus rfl); (focus (first | (simp [Value.oneCell']; done) | (simp [Value.oneCell', Job.cells]; done)))) | fail)
    refine upon_ex (copy_ints (w.heap.size + 1 + 1) n.toNat b (off + j.at_.toNat) 0 _ _ (j.draws.drop j.at_.toNat) _ (blk_new _ (by simp)) (by simp) (fun i hi => ?_)) (fun z => ?_)
    · rw [List.getElem_drop]
      simp at hi
      obtain ⟨b', off', h4, h5, h6⟩ := HR.out.int (j.at_.toNat + i) (by omega)
      cases h4
      have hlt : b < w.heap.size := hS b h5
      rw [World.cell?_alloc_lt _ _ _ (by simp; omega), World.cell?_alloc_lt _ _ _ (by simp; omega), World.cell?_alloc_lt _ _ _ hlt, Nat.add_assoc]
      exact h6
    go_wp2_with (first | (apply ld_row 27 19; (focus rfl); (focus go_simp); (focus (go_simp; rfl)); (focus (exact Tryd.underlying27)); (focus kernel_rfl)) | (apply st_row 27 19; (focus rfl); (focus rfl); (focus go_simp); (focus kernel_rfl); (focus rfl); (focus (first | (simp [Value.oneCell']; done) | (simp [Value.oneCell', Job.cells]; done)))) | fail)
    refine Code.at_ fun W hW => ?_
    have B0 : Below w.heap.size w W := by rw [hW]; repeat' (first | with_reducible refine Below.alloc ?_ ?_ _ | with_reducible refine Below.setRow_ ?_ ?_ _ | with_reducible refine Below.setCell ?_ ?_ _ | with_reducible refine Below.drew ?_ | with_reducible refine Below.drewN_ ?_ _ | with_reducible exact Below.refl _ _ | assumption | (simp; done) | (simp; omega) | omega)
    have k0 : isRow W w.heap.size = true := by rw [hW]; go_simp
    have k1 : rowSz W (w.heap.size + 1) 19 = true := by rw [hW]; go_simp
    have m1 : isRow W (w.heap.size + 1) = true := by rw [hW]; go_simp
    have r0 : row W w.heap.size = (Job.cells { j with at_ := j.at_ + n } a).toArray := by rw [hW]; go_simp; try simp [Job.cells]; try exact hA.symm
    have g2 : W.heap[w.heap.size + 1 + 1]? = some (.cells (ints ((j.draws.drop j.at_.toNat).take n.toNat ++ List.replicate (n.toNat - (j.draws.length - j.at_.toNat)) 0)) 3 (0, 0)) := by rw [hW]; exact blk_new _ (by simp)
    clear hW
    refine reg0 4 (fun w' => (isRow w' w.heap.size = true ∧ rowSz w' (w.heap.size + 1) 19 = true ∧ isRow w' (w.heap.size + 1) = true) ∧ row w' w.heap.size = (Job.cells { j with at_ := j.at_ + n } a).toArray) (by kernel_rfl) (by kernel_rfl) (by kernel_rfl) ?_ (fun l hg hHeld => ?_)
    · (try dsimp only); (first | exact ⟨⟨k0, k1, m1⟩, r0⟩ | go_simp)
    (apply tkT 0 1 hg; (focus rfl); (focus rfl); (focus kernel_rfl); (focus (intro w0 hSw; (try dsimp only at hSw); go_simp; try (with_reducible rfl))); (focus assumption))
    try simp only [Act.put, List.setIfInBounds_toArray, List.set_cons_zero, List.set_cons_succ]
    (apply tkT 1 3 hg; (focus rfl); (focus rfl); (focus kernel_rfl); (focus (intro w0 hSw; (try dsimp only at hSw); go_simp; try (with_reducible rfl))); (focus assumption))
    try simp only [Act.put, List.setIfInBounds_toArray, List.set_cons_zero, List.set_cons_succ]
    (apply tkT 2 7 hg; (focus rfl); (focus rfl); (focus kernel_rfl); (focus (intro w0 hSw; (try dsimp only at hSw); go_simp; try (with_reducible rfl))); (focus assumption))
    try simp only [Act.put, List.setIfInBounds_toArray, List.set_cons_zero, List.set_cons_succ]
    (apply act1 3 15 hg; (focus rfl); (focus rfl); (focus kernel_rfl))
    intro K hK
    (apply wp_st_row 27 19; (focus rfl); (focus rfl); (focus go_simp); (focus kernel_rfl); (focus rfl); (focus (first | (simp [Value.oneCell']; done) | (simp [Value.oneCell', Job.cells]; done))))
    refine hK.out _ _ ?_ (fun hHeld => ?_)
    · (try dsimp only); (first | exact ⟨⟨k0, k1, m1⟩, r0⟩ | go_simp)
    clear hK K
    try simp only [Act.put, List.setIfInBounds_toArray, List.set_cons_zero, List.set_cons_succ]
    refine actE hg (by kernel_rfl) ?_
    go_wp2
    refine ret_tmp_row (n := 19) (cs := (Job.cells { j with at_ := j.at_ + n } a).toArray) rfl rfl rfl (by go_simp) (by go_simp; try simp [Job.cells]; try exact hA.symm) Tryd.underlying27 (by kernel_rfl) rfl ?_
    exact draw_end j a n w S hS HJ.out W _ _ (by have h := draw_eq j.draws j.at_ n h0 hc; rw [List.length_drop] at h; exact h) h3 B0 g2 (by repeat' (first | with_reducible refine Gro.setRow ?_ (by simp) _ | with_reducible refine Gro.drew ?_ | with_reducible exact Gro.refl _ _))
  · have HC := Lib.hid hc
    have hc' : decide (j.at_ < (j.draws.length : Int)) = false := by simpa using hc
    clear hc
    unfold Job.cells
    go_enter Tryd.func9, Tryd.ntmps9
    go_wp2_with (first | (apply ld_row 27 19; (focus rfl); (focus go_simp); (focus (go_simp; rfl)); (focus (exact Tryd.underlying27)); (focus kernel_rfl)) | (apply st_row 27 19; (focus rfl); (focus rfl); (focus go_simp); (focus kernel_rfl); (focus rfl); (focus (first | (simp [Value.oneCell']; done) | (simp [Value.oneCell', Job.cells]; done)))) | fail)
    refine Code.at_ fun W hW => ?_
    have B0 : Below w.heap.size w W := by rw [hW]; repeat' (first | with_reducible refine Below.alloc ?_ ?_ _ | with_reducible refine Below.setRow_ ?_ ?_ _ | with_reducible refine Below.setCell ?_ ?_ _ | with_reducible refine Below.drew ?_ | with_reducible refine Below.drewN_ ?_ _ | with_reducible exact Below.refl _ _ | assumption | (simp; done) | (simp; omega) | omega)
    have k0 : isRow W w.heap.size = true := by rw [hW]; go_simp
    have k1 : rowSz W (w.heap.size + 1) 19 = true := by rw [hW]; go_simp
    have m1 : isRow W (w.heap.size + 1) = true := by rw [hW]; go_simp
    have r0 : row W w.heap.size = (Job.cells { j with at_ := j.at_ + n } a).toArray := by rw [hW]; go_simp; try simp [Job.cells]; try exact hA.symm
    have g2 : W.heap[w.heap.size + 1 + 1]? = some (.cells (ints (List.replicate n.toNat 0)) 3 (0, 0)) := by rw [hW]; exact blk_new _ (by simp)
    clear hW
    refine reg0 4 (fun w' => (isRow w' w.heap.size = true ∧ rowSz w' (w.heap.size + 1) 19 = true ∧ isRow w' (w.heap.size + 1) = true) ∧ row w' w.heap.size = (Job.cells { j with at_ := j.at_ + n } a).toArray) (by kernel_rfl) (by kernel_rfl) (by kernel_rfl) ?_ (fun l hg hHeld => ?_)
    · (try dsimp only); (first | exact ⟨⟨k0, k1, m1⟩, r0⟩ | go_simp)
    (apply tkT 0 1 hg; (focus rfl); (focus rfl); (focus kernel_rfl); (focus (intro w0 hSw; (try dsimp only at hSw); go_simp; try (with_reducible rfl))); (focus assumption))
    try simp only [Act.put, List.setIfInBounds_toArray, List.set_cons_zero, List.set_cons_succ]
    (apply tkT 1 3 hg; (focus rfl); (focus rfl); (focus kernel_rfl); (focus (intro w0 hSw; (try dsimp only at hSw); go_simp; try (with_reducible rfl))); (focus assumption))
    try simp only [Act.put, List.setIfInBounds_toArray, List.set_cons_zero, List.set_cons_succ]
    (apply tkT 2 7 hg; (focus rfl); (focus rfl); (focus kernel_rfl); (focus (intro w0 hSw; (try dsimp only at hSw); go_simp; try (with_reducible rfl))); (focus assumption))
    try simp only [Act.put, List.setIfInBounds_toArray, List.set_cons_zero, List.set_cons_succ]
    (apply act1 3 15 hg; (focus rfl); (focus rfl); (focus kernel_rfl))
    intro K hK
    (apply wp_st_row 27 19; (focus rfl); (focus rfl); (focus go_simp); (focus kernel_rfl); (focus rfl); (focus (first | (simp [Value.oneCell']; done) | (simp [Value.oneCell', Job.cells]; done))))
    refine hK.out _ _ ?_ (fun hHeld => ?_)
    · (try dsimp only); (first | exact ⟨⟨k0, k1, m1⟩, r0⟩ | go_simp)
    clear hK K
    try simp only [Act.put, List.setIfInBounds_toArray, List.set_cons_zero, List.set_cons_succ]
    refine actE hg (by kernel_rfl) ?_
    go_wp2
    refine ret_tmp_row (n := 19) (cs := (Job.cells { j with at_ := j.at_ + n } a).toArray) rfl rfl rfl (by go_simp) (by go_simp; try simp [Job.cells]; try exact hA.symm) Tryd.underlying27 (by kernel_rfl) rfl ?_
    exact draw_end j a n w S hS HJ.out W _ _ (draw_none j.draws j.at_ n h0 (by have := HC.out; omega)) h3 B0 g2 (by repeat' (first | with_reducible refine Gro.setRow ?_ (by simp) _ | with_reducible refine Gro.drew ?_ | with_reducible exact Gro.refl _ _))
end Go.Proofs.YtjkjlegloicmcaaDoor
