/- The laws' 'work': a job is read as the reference's. -/
import Derived.Test.YtjkjlegloicmcaaDoorJobI
set_option linter.unusedVariables false
set_option linter.unusedSimpArgs false
namespace Go.Proofs.YtjkjlegloicmcaaDoor
open Go.RowKit
def Job.cut (j : Job) (k : Nat) : Job := { j with stack := j.stack.take k }
theorem infoFrame57 : Info Tryd.prog 57 3 48 := Info.of (z := .agg #[.int .i64 0, .string ⟨#[]⟩, .slice none 0 0]) (by kernel_rfl) rfl (by omega) (by omega)
section
variable {P : Program} {α : Type} {d : Rp α} {W : World} {e base : Nat} {S : Nat → Prop} {v : Value} {xs : List α} {y : α} {ys : List Value}
/-- append(v, y), v a row of the call's own: as an act of a region that draws. -/
theorem wp_ap1 {o : Oper} {a : Act} {Q : Exit → Act → World → Prop} {t bytes : Nat} {K : Act → World → Prop} (ht : P.underlying t = some (.slice e)) (hi : Info P e d.sz bytes) (s x : Operand)
    (ho : o.op = .call { callee := .builtin .append, args := #[s, x], argTypes := #[t, t] }) (hs : a.eval s = v) (hx : a.eval x = .slice (some ⟨W.heap.size, 0, none⟩) 1 1)
    (HO : d.Own e W base S v xs) (hK : d.K W S y ys) (hS : ∀ k, S k → k < W.heap.size) (hbase : base ≤ W.heap.size) (hl : (xs.length + 1) * bytes ≤ 140737488355328)
    (h : ∀ g cap w1, Apd d e base S W v (xs ++ [y]) g cap w1 → K (a.put o.dst (.slice (some ⟨g, 0, none⟩) (xs.length + 1) cap)) w1) :
    Oper.wp P o a (W.alloc (.cells ys.toArray e)) K Q := by
  obtain ⟨g, cap, w1, hrun, hA⟩ := run_ap1 (P := P) (ty := o.type) ht hi HO hK hS hbase hl
  unfold Oper.wp execOp
  simp only [ho, resolve, invoke, builtin, Sem.run_bind, Sem.run_pure, Result.andThen_ok, List.map_toArray, List.map_cons, List.map_nil, hs, hx, hrun]
  exact h g cap w1 hA
theorem Apd.heap {zs : List α} {g cap : Nat} {w1 : World} (h : Apd d e base S W v zs g cap w1) {b : Nat} (hb : b < W.heap.size) (hne : v.ownBlock ≠ some b) : w1.heap[b]? = W.heap[b]? := h.2.1.block b hb (fun he => hne he.symm)
end
theorem Box.grown {α : Type} {d : Rp α} {W w1 : World} {e base : Nat} {S : Nat → Prop} {v : Value} {zs : List α} {g cap b : Nat} {cs : Array Value} (hb : Box W b cs) (h : Apd d e base S W v zs g cap w1) (hne : v.ownBlock ≠ some b) : Box w1 b cs := by
  obtain ⟨t, hb⟩ := hb
  exact ⟨t, by rw [h.heap (Array.getElem?_eq_some_iff.1 hb).1 hne]; exact hb⟩
theorem Box.far {w : World} {b : Nat} {cs : Array Value} (h : Box w b cs) {p : Addr} (hne : b ≠ p.block) (u : Value) : Box (w.setCell p u) b cs := by
  obtain ⟨t, h⟩ := h
  exact ⟨t, blk_far hne h⟩
theorem keepW {W w1 : World} (hb : Below W.heap.size W w1) {bj bo b o1 o2 o3 : Nat} {cs : Array Value} {x y z : Value}
    (h : (isRow W bj = true ∧ row W bj = cs ∧ isRow W bo = true) ∧ W.cell? ⟨b, o1, none⟩ = some x ∧ W.cell? ⟨b, o2, none⟩ = some y ∧ W.cell? ⟨b, o3, none⟩ = some z) :
    (isRow w1 bj = true ∧ row w1 bj = cs ∧ isRow w1 bo = true) ∧ w1.cell? ⟨b, o1, none⟩ = some x ∧ w1.cell? ⟨b, o2, none⟩ = some y ∧ w1.cell? ⟨b, o3, none⟩ = some z := by
  obtain ⟨⟨h1, h2, h3⟩, h4, h5, h6⟩ := h
  have hp := block_lt_of_cell h4
  exact ⟨⟨isRow_call hb h1, row_call hb h1 h2, isRow_call hb h3⟩, ((bcell hb).1 b _ hp).trans h4, ((bcell hb).1 b _ hp).trans h5, ((bcell hb).1 b _ hp).trans h6⟩
attribute [local go_sem] isRow_drew row_drew isRow_drewN row_drewN cell_isRow rowSz_isRow isHead_ptr blockOf_ptr row_alloc isRow_alloc rowSz_alloc setRow_alloc isRow_setRow isRow_setCell isRow_frozen setCell_setRow_same setCell_setRow_other cell_setRow_same' cell_setRow_other' frozen_setRow' row_setRow_same row_setRow_other rowSz_setRow_same rowSz_setRow_other setRow_setRow_same' setRow_comm' ne_l2 ne_r2 ne_l3 ne_r3 ne_l4 ne_r4 ne_l5 ne_r5 ne_l6 ne_r6 ne_l7 ne_r7 ne_l8 ne_r8 cells_len
attribute [local go_sem ↓] ldx_27
theorem ldx_35 {ρ : Operand → Value} {dst : Option Tmp} {tt : TypeId} {pos : String} {after : Array Edge} {gd : Option (Nat × Bool)} {x : Operand} {w : World} (h1 : isHead (ρ x) = true) (h2 : rowSz w (blockOf (ρ x)) 19 = true) : (execOp ρ { dst := dst, op := .load 35 x, type := tt, pos := pos, after := after, guard := gd }).run Tryd.prog w = .ok (.value (.agg (row w (blockOf (ρ x))))) w := ld_exec 35 19 Tryd.underlying35 (by kernel_rfl) h1 h2
attribute [local go_sem ↓] ldx_35
attribute [local go_sem ↓] Go.wp_at_zero Go.wp_at_succ
set_option maxRecDepth 100000 in
set_option maxHeartbeats 4000000 in
theorem work_some (j : Job) (a : JA) (w : World) (S : Nat → Prop) (hS : Sub S w) (hj : j.ok w S a) (hl : j.stack.length ≤ 1000) (b off : Nat) (hA : a.s.a = some ⟨b, off, none⟩) :
    Calls Tryd.prog 11 #[.agg (j.cells a).toArray] w (RetJ w S j) := by
  have HJ := Lib.hid hj
  clear hj
  have hc := cells_eq
  go_enter Tryd.func11, Tryd.ntmps11
  go_wp2_with (first | (apply ld_row 27 19; (focus rfl); (focus go_simp); (focus (go_simp; rfl)); (focus (exact Tryd.underlying27)); (focus kernel_rfl)) | (apply st_row 27 19; (focus rfl); (focus rfl); (focus go_simp); (focus kernel_rfl); (focus rfl); (focus (first | (simp [Value.oneCell']; done) | (simp [Value.oneCell', Job.cells]; done)))) | (apply ld_row 35 19; (focus rfl); (focus go_simp); (focus (go_simp; rfl)); (focus (exact Tryd.underlying35)); (focus kernel_rfl)) | (apply st_row 35 19; (focus rfl); (focus rfl); (focus go_simp); (focus kernel_rfl); (focus rfl); (focus (first | (simp [Value.oneCell']; done) | (simp [Value.oneCell', Job.cells]; done)))) | fail)
  refine Code.at_ fun W hW => ?_
  have B0 : Below w.heap.size w W := by rw [hW]; repeat' (first | with_reducible refine Below.alloc ?_ ?_ _ | with_reducible refine Below.setRow_ ?_ ?_ _ | with_reducible refine Below.setCell ?_ ?_ _ | with_reducible refine Below.drew ?_ | with_reducible refine Below.drewN_ ?_ _ | with_reducible exact Below.refl _ _ | assumption | (simp; done) | (simp; omega) | omega)
  have hz : W.heap.size = w.heap.size + 1 + 1 + 1 := by rw [hW]; simp
  have k0 : Box W w.heap.size (j.cells a).toArray := ⟨_, by rw [hW]; simp only [cells_eq, hA]; exact blk_old (blk_old (blk_new _ rfl) _) _⟩
  have k1 : rowSz W (w.heap.size + 1) 19 = true := by rw [hW]; go_simp
  have k2 : Box W (w.heap.size + 1 + 1) ((j.cut 0).cells { a with s := ⟨none, 0⟩ }).toArray := ⟨_, by rw [hW]; exact blk_new _ (by simp)⟩
  clear hW
  obtain ⟨bo, hbo⟩ : ∃ b, b = w.heap.size + 1 + 1 := ⟨_, rfl⟩
  obtain ⟨br, hbr⟩ : ∃ b, b = w.heap.size + 1 := ⟨_, rfl⟩
  obtain ⟨bj, hbj⟩ : ∃ b, b = w.heap.size := ⟨_, rfl⟩
  rw [← hbo] at k2 ⊢
  rw [← hbr] at k1 ⊢
  rw [← hbj] at k0 ⊢
  have hrow : ∃ rs, rs.size = 19 ∧ Box W br rs := by obtain ⟨t, h1, h2⟩ := heap_of_row k1; exact ⟨_, h2, t, h1⟩
  obtain ⟨rs, hrs, k1'⟩ := hrow
  have HB := Lib.hid (And.intro hbo (And.intro hbr (And.intro hbj hrs)))
  have HS := Lib.hid (And.intro B0 (And.intro k0 (And.intro k1' (And.intro k2 (And.intro (show w.heap.size + 1 + 1 + 1 ≤ W.heap.size by omega) (Rp.Own.nil rFrame 57 W (w.heap.size + 1 + 1 + 1) S))))))
  have hjr : ¬ bj = br := by omega
  have hjo : ¬ bj = bo := by omega
  have hro : ¬ br = bo := by omega
  clear B0 hz k0 k1 k1' k2 hbo hbr hbj
  go_loopw [4] (fun i wr => ∃ (k : Nat) (s : Sl), i = .int .i64 k ∧ k ≤ j.stack.length ∧ Below w.heap.size w wr ∧ Box wr bj (j.cells a).toArray ∧ Box wr br rs ∧ Box wr bo ((j.cut k).cells { a with s := s }).toArray ∧ w.heap.size + 1 + 1 + 1 ≤ wr.heap.size ∧ rFrame.Own 57 wr (w.heap.size + 1 + 1 + 1) S (.slice s.a k s.c) (j.stack.take k)) (fun i _ => j.stack.length - (intOf i).toNat)
  case atStart => exact ⟨0, ⟨none, 0⟩, rfl, Nat.zero_le _, HS.out⟩
  case round =>
    obtain ⟨k, s, rfl, hk, h1, h2, h3, h4, h5, h6⟩ := hrel
    have i1 := h2.isRow; have r1 := h2.row
    have i2 := h3.isRow; have r2 := h3.row
    have i3 := h4.isRow; have r3 := h4.row
    have hmin : min k j.stack.length = k := Nat.min_eq_left hk
    have HX := Lib.hid (And.intro h1 (And.intro h2 (And.intro h3 (And.intro h4 (And.intro h5 h6)))))
    have l1 : ¬ bj = wr.heap.size := Nat.ne_of_lt h2.lt
    have l3 : ¬ bo = wr.heap.size := Nat.ne_of_lt h4.lt
    have m1 : ¬ wr.heap.size = bj := fun h => l1 h.symm
    have m3 : ¬ wr.heap.size = bo := fun h => l3 h.symm
    clear h1 h2 h3 h4 h5 h6 HS
    have hcut : ((j.cut k).stack.length : Nat) = k := by unfold Job.cut; simp [hmin]
    by_cases hlt : k < j.stack.length
    · obtain ⟨b', off', s2, hA', hSb, hs2, c0, c1, c2⟩ := (HJ.out.2.1.2.below HX.out.1 hS).frame k hlt
      rw [hA] at hA'
      cases hA'
      generalize hf : j.stack[k]'hlt = f at *
      have HF := Lib.hid (And.intro hf (And.intro hs2 hSb))
      clear hf hs2 hSb
      go_wp2_with (first | (apply ld_row 27 19; (focus rfl); (focus go_simp); (focus (go_simp; rfl)); (focus (exact Tryd.underlying27)); (focus kernel_rfl)) | (apply st_row 27 19; (focus rfl); (focus rfl); (focus go_simp); (focus kernel_rfl); (focus rfl); (focus (first | (simp [Value.oneCell']; done) | (simp [Value.oneCell', Job.cells]; done)))) | (apply ld_row 35 19; (focus rfl); (focus go_simp); (focus (go_simp; rfl)); (focus (exact Tryd.underlying35)); (focus kernel_rfl)) | (apply st_row 35 19; (focus rfl); (focus rfl); (focus go_simp); (focus kernel_rfl); (focus rfl); (focus (first | (simp [Value.oneCell']; done) | (simp [Value.oneCell', Job.cells]; done)))) | fail)
      have S0 := And.intro (And.intro i1 (And.intro r1 i3)) (And.intro c0 (And.intro c1 c2))
      refine reg0 11 (fun w' => (isRow w' bj = true ∧ row w' bj = (j.cells a).toArray ∧ isRow w' bo = true) ∧ w'.cell? ⟨b, off + k * 3, none⟩ = some (.int .i64 f.fd) ∧ w'.cell? ⟨b, off + k * 3 + 1, none⟩ = some (.string f.name) ∧ w'.cell? ⟨b, off + k * 3 + 2, none⟩ = some (.slice s2.a f.names.length s2.c)) (by kernel_rfl) (by kernel_rfl) (by kernel_rfl) ?_ (fun l hg hHeld => ?_)
      · (try dsimp only); (first | exact S4 _ | exact S3 | exact S0 | exact keepW ((Below.refl _ _).drew) S0 | exact keepW (((Below.refl _ _).drew).alloc (Nat.le_refl _) _) S0 | exact keepW ((Below.refl _ _).alloc (Nat.le_refl _) _) S0)
      (apply tkT 0 1 hg; (focus rfl); (focus rfl); (focus kernel_rfl); (focus (intro w0 hSw; (try dsimp only at hSw); go_simp; try (with_reducible rfl))); (focus assumption))
      try simp only [Act.put, List.setIfInBounds_toArray, List.set_cons_zero, List.set_cons_succ]
      (apply tkT 2 5 hg; (focus rfl); (focus rfl); (focus kernel_rfl); (focus (intro w0 hSw; (try dsimp only at hSw); go_simp; try (with_reducible rfl))); (focus assumption))
      try simp only [Act.put, List.setIfInBounds_toArray, List.set_cons_zero, List.set_cons_succ]
      (apply tkT 3 13 hg; (focus rfl); (focus rfl); (focus kernel_rfl); (focus (intro w0 hSw; (try dsimp only at hSw); go_simp; try (with_reducible rfl))); (focus assumption))
      try simp only [Act.put, List.setIfInBounds_toArray, List.set_cons_zero, List.set_cons_succ]
      (apply tkT 4 29 hg; (focus rfl); (focus rfl); (focus kernel_rfl); (focus (intro w0 hSw; (try dsimp only at hSw); go_simp; try (with_reducible rfl))); (focus assumption))
      try simp only [Act.put, List.setIfInBounds_toArray, List.set_cons_zero, List.set_cons_succ]
      (apply tkT 5 61 hg; (focus rfl); (focus rfl); (focus kernel_rfl); (focus (intro w0 hSw; (try dsimp only at hSw); go_simp; try (with_reducible rfl))); (focus assumption))
      try simp only [Act.put, List.setIfInBounds_toArray, List.set_cons_zero, List.set_cons_succ]
      (apply tkT 6 125 hg; (focus rfl); (focus rfl); (focus kernel_rfl); (focus (intro w0 hSw; (try dsimp only at hSw); go_simp; try (with_reducible rfl))); (focus assumption))
      try simp only [Act.put, List.setIfInBounds_toArray, List.set_cons_zero, List.set_cons_succ]
      refine act2 1 7 127 253 hg rfl rfl (by rfl) (by rfl) (by kernel_rfl) ?_ ?_
      · intro K hK
        go_simp
        refine hK.out _ _ ?_ (fun hHeld => ?_)
        · (try dsimp only); (first | exact S4 _ | exact S3 | exact S0 | exact keepW ((Below.refl _ _).drew) S0 | exact keepW (((Below.refl _ _).drew).alloc (Nat.le_refl _) _) S0 | exact keepW ((Below.refl _ _).alloc (Nat.le_refl _) _) S0)
        clear hK K
        try simp only [Act.put, List.setIfInBounds_toArray, List.set_cons_zero, List.set_cons_succ]
        (apply act1 7 255 hg; (focus rfl); (focus rfl); (focus kernel_rfl))
        intro K hK
        go_simp
        refine hK.out _ _ ?_ (fun hHeld => ?_)
        · (try dsimp only); (first | exact S4 _ | exact S3 | exact S0 | exact keepW ((Below.refl _ _).drew) S0 | exact keepW (((Below.refl _ _).drew).alloc (Nat.le_refl _) _) S0 | exact keepW ((Below.refl _ _).alloc (Nat.le_refl _) _) S0)
        clear hK K
        try simp only [Act.put, List.setIfInBounds_toArray, List.set_cons_zero, List.set_cons_succ]
        (apply act1 8 511 hg; (focus rfl); (focus rfl); (focus kernel_rfl))
        intro K hK
        refine wp_ap1 (W := wr.drew) (d := rFrame) (S := S) (xs := j.stack.take k) (y := f) Tryd.underlying33 infoFrame57 _ _ rfl rfl rfl (HX.out.2.2.2.2.2.move (fun _ _ => rfl) (fun _ _ => rfl)) (rFrame_mk (HF.out.2.1.move fun _ _ => rfl)) (fun k hk => Nat.lt_of_lt_of_le (hS k hk) HX.out.1.size) HX.out.2.2.2.2.1 (by simp only [List.length_take]; omega) ?_
        intro g cap w1 hA
        have no : ∀ x, (Value.slice s.a k s.c).ownBlock = some x → w.heap.size + 1 + 1 + 1 ≤ x := fun x hx => by obtain ⟨_, cs, h, _⟩ := HX.out.2.2.2.2.2; exact (own_lt' h x hx).1
        have nj : (Value.slice s.a k s.c).ownBlock ≠ some bj := fun h => by have := no _ h; have := HB.out; omega
        have nr : (Value.slice s.a k s.c).ownBlock ≠ some br := fun h => by have := no _ h; have := HB.out; omega
        have nO : (Value.slice s.a k s.c).ownBlock ≠ some bo := fun h => by have := no _ h; have := HB.out; omega
        have nb : (Value.slice s.a k s.c).ownBlock ≠ some b := fun h => by have := no _ h; have := hS b HF.out.2.2; omega
        have g1 : Box w1 bj (j.cells a).toArray := Box.grown (show Box wr.drew bj _ from HX.out.2.1) hA nj
        have g2 : Box w1 br rs := Box.grown (show Box wr.drew br _ from HX.out.2.2.1) hA nr
        have g3 : Box w1 bo ((j.cut k).cells { a with s := s }).toArray := Box.grown (show Box wr.drew bo _ from HX.out.2.2.2.1) hA nO
        have S3 := And.intro (And.intro g1.isRow (And.intro g1.row g3.isRow)) (And.intro (hA.keep (W := wr.drew) c0 nb) (And.intro (hA.keep (W := wr.drew) c1 nb) (hA.keep (W := wr.drew) c2 nb)))
        have hbo' : b ≠ bo := by have := hS b HF.out.2.2; have := HB.out; omega
        have S4 : ∀ u, (isRow (w1.setCell ⟨bo, 13, none⟩ u) bj = true ∧ row (w1.setCell ⟨bo, 13, none⟩ u) bj = (j.cells a).toArray ∧ isRow (w1.setCell ⟨bo, 13, none⟩ u) bo = true) ∧ (w1.setCell ⟨bo, 13, none⟩ u).cell? ⟨b, off + k * 3, none⟩ = some (.int .i64 f.fd) ∧ (w1.setCell ⟨bo, 13, none⟩ u).cell? ⟨b, off + k * 3 + 1, none⟩ = some (.string f.name) ∧ (w1.setCell ⟨bo, 13, none⟩ u).cell? ⟨b, off + k * 3 + 2, none⟩ = some (.slice s2.a f.names.length s2.c) := fun u =>
          ⟨⟨(g1.far hjo u).isRow, (g1.far hjo u).row, by rw [isRow_setCell]; exact g3.isRow⟩, by rw [World.cell?_setCell_other _ _ _ _ (by intro h; injection h with h1; first | exact hbo' h1 | exact hbo' h1.symm)]; exact S3.2.1, by rw [World.cell?_setCell_other _ _ _ _ (by intro h; injection h with h1; first | exact hbo' h1 | exact hbo' h1.symm)]; exact S3.2.2.1, by rw [World.cell?_setCell_other _ _ _ _ (by intro h; injection h with h1; first | exact hbo' h1 | exact hbo' h1.symm)]; exact S3.2.2.2⟩
        have i4 := g3.isRow; have r4 := g3.row
        refine hK.out _ _ ?_ (fun hHeld => ?_)
        · (try dsimp only); (first | exact S4 _ | exact S3 | exact S0 | exact keepW ((Below.refl _ _).drew) S0 | exact keepW (((Below.refl _ _).drew).alloc (Nat.le_refl _) _) S0 | exact keepW ((Below.refl _ _).alloc (Nat.le_refl _) _) S0)
        clear hK K
        try simp only [Act.put, List.setIfInBounds_toArray, List.set_cons_zero, List.set_cons_succ]
        (apply tkT 9 1023 hg; (focus rfl); (focus rfl); (focus kernel_rfl); (focus (intro w0 hSw; (try dsimp only at hSw); go_simp; try (with_reducible rfl))); (focus assumption))
        try simp only [Act.put, List.setIfInBounds_toArray, List.set_cons_zero, List.set_cons_succ]
        (apply act1 10 2047 hg; (focus rfl); (focus rfl); (focus kernel_rfl))
        intro K hK
        go_simp
        refine hK.out _ _ ?_ (fun hHeld => ?_)
        · (try dsimp only); (first | exact S4 _ | exact S3 | exact S0 | exact keepW ((Below.refl _ _).drew) S0 | exact keepW (((Below.refl _ _).drew).alloc (Nat.le_refl _) _) S0 | exact keepW ((Below.refl _ _).alloc (Nat.le_refl _) _) S0)
        clear hK K
        try simp only [Act.put, List.setIfInBounds_toArray, List.set_cons_zero, List.set_cons_succ]
        refine actE hg (by kernel_rfl) ?_
        go_wp2_with (first | (apply ld_row 27 19; (focus rfl); (focus go_simp); (focus (go_simp; rfl)); (focus (exact Tryd.underlying27)); (focus kernel_rfl)) | (apply st_row 27 19; (focus rfl); (focus rfl); (focus go_simp); (focus kernel_rfl); (focus rfl); (focus (first | (simp [Value.oneCell']; done) | (simp [Value.oneCell', Job.cells]; done)))) | (apply ld_row 35 19; (focus rfl); (focus go_simp); (focus (go_simp; rfl)); (focus (exact Tryd.underlying35)); (focus kernel_rfl)) | (apply st_row 35 19; (focus rfl); (focus rfl); (focus go_simp); (focus kernel_rfl); (focus rfl); (focus (first | (simp [Value.oneCell']; done) | (simp [Value.oneCell', Job.cells]; done)))) | fail)
        go_roundw
        case rel =>
          have hg : w.heap.size + 1 + 1 + 1 ≤ g ∧ g < w1.heap.size := by obtain ⟨_, cs, h, _⟩ := hA.1; exact own_lt' h g rfl
          refine ⟨k + 1, ⟨some ⟨g, 0, none⟩, cap⟩, by go_num, by omega, (hA.below (HX.out.1.drew) HX.out.1.size (fun x hx => by have := no x hx; omega)).setCell (by have := HB.out; simp only; omega) _, g1.far hjo _, g2.far hro _, ?_, by simp [World.setCell]; omega, ?_⟩
          · obtain ⟨t, h⟩ := g3
            refine ⟨t, ?_⟩
            rw [blk_set h]
            simp [Job.cells, Job.cut]
            omega
          · have h7 := hA.1
            have e1 : j.stack.take (k + 1) = j.stack.take k ++ [f] := by rw [List.take_succ_eq_append_getElem hlt, HF.out.1]
            have e2 : (j.stack.take k ++ [f]).length = k + 1 := by simp; omega
            rw [e2] at h7
            rw [e1]
            exact h7.move (fun x hx => Below.heap_setCell _ _ _ x (by have := hS x hx; have := HB.out; simp only; omega)) (fun x hx => Below.heap_setCell _ _ _ x (by simp [Value.ownBlock] at hx; have := HB.out; simp only; omega))
        case measure => simp [intOf]; omega
      · intro K hK
        go_simp
        refine hK.out _ _ ?_ (fun hHeld => ?_)
        · (try dsimp only); (first | exact S4 _ | exact S3 | exact S0 | exact keepW ((Below.refl _ _).drew) S0 | exact keepW (((Below.refl _ _).drew).alloc (Nat.le_refl _) _) S0 | exact keepW ((Below.refl _ _).alloc (Nat.le_refl _) _) S0)
        clear hK K
        try simp only [Act.put, List.setIfInBounds_toArray, List.set_cons_zero, List.set_cons_succ]
        (apply act1 1 255 hg; (focus rfl); (focus rfl); (focus kernel_rfl))
        intro K hK
        go_simp
        refine hK.out _ _ ?_ (fun hHeld => ?_)
        · (try dsimp only); (first | exact S4 _ | exact S3 | exact S0 | exact keepW ((Below.refl _ _).drew) S0 | exact keepW (((Below.refl _ _).drew).alloc (Nat.le_refl _) _) S0 | exact keepW ((Below.refl _ _).alloc (Nat.le_refl _) _) S0)
        clear hK K
        try simp only [Act.put, List.setIfInBounds_toArray, List.set_cons_zero, List.set_cons_succ]
        (apply act1 8 511 hg; (focus rfl); (focus rfl); (focus kernel_rfl))
        intro K hK
        refine wp_ap1 (W := wr.drew) (d := rFrame) (S := S) (xs := j.stack.take k) (y := f) Tryd.underlying33 infoFrame57 _ _ rfl rfl rfl (HX.out.2.2.2.2.2.move (fun _ _ => rfl) (fun _ _ => rfl)) (rFrame_mk (HF.out.2.1.move fun _ _ => rfl)) (fun k hk => Nat.lt_of_lt_of_le (hS k hk) HX.out.1.size) HX.out.2.2.2.2.1 (by simp only [List.length_take]; omega) ?_
        intro g cap w1 hA
        have no : ∀ x, (Value.slice s.a k s.c).ownBlock = some x → w.heap.size + 1 + 1 + 1 ≤ x := fun x hx => by obtain ⟨_, cs, h, _⟩ := HX.out.2.2.2.2.2; exact (own_lt' h x hx).1
        have nj : (Value.slice s.a k s.c).ownBlock ≠ some bj := fun h => by have := no _ h; have := HB.out; omega
        have nr : (Value.slice s.a k s.c).ownBlock ≠ some br := fun h => by have := no _ h; have := HB.out; omega
        have nO : (Value.slice s.a k s.c).ownBlock ≠ some bo := fun h => by have := no _ h; have := HB.out; omega
        have nb : (Value.slice s.a k s.c).ownBlock ≠ some b := fun h => by have := no _ h; have := hS b HF.out.2.2; omega
        have g1 : Box w1 bj (j.cells a).toArray := Box.grown (show Box wr.drew bj _ from HX.out.2.1) hA nj
        have g2 : Box w1 br rs := Box.grown (show Box wr.drew br _ from HX.out.2.2.1) hA nr
        have g3 : Box w1 bo ((j.cut k).cells { a with s := s }).toArray := Box.grown (show Box wr.drew bo _ from HX.out.2.2.2.1) hA nO
        have S3 := And.intro (And.intro g1.isRow (And.intro g1.row g3.isRow)) (And.intro (hA.keep (W := wr.drew) c0 nb) (And.intro (hA.keep (W := wr.drew) c1 nb) (hA.keep (W := wr.drew) c2 nb)))
        have hbo' : b ≠ bo := by have := hS b HF.out.2.2; have := HB.out; omega
        have S4 : ∀ u, (isRow (w1.setCell ⟨bo, 13, none⟩ u) bj = true ∧ row (w1.setCell ⟨bo, 13, none⟩ u) bj = (j.cells a).toArray ∧ isRow (w1.setCell ⟨bo, 13, none⟩ u) bo = true) ∧ (w1.setCell ⟨bo, 13, none⟩ u).cell? ⟨b, off + k * 3, none⟩ = some (.int .i64 f.fd) ∧ (w1.setCell ⟨bo, 13, none⟩ u).cell? ⟨b, off + k * 3 + 1, none⟩ = some (.string f.name) ∧ (w1.setCell ⟨bo, 13, none⟩ u).cell? ⟨b, off + k * 3 + 2, none⟩ = some (.slice s2.a f.names.length s2.c) := fun u =>
          ⟨⟨(g1.far hjo u).isRow, (g1.far hjo u).row, by rw [isRow_setCell]; exact g3.isRow⟩, by rw [World.cell?_setCell_other _ _ _ _ (by intro h; injection h with h1; first | exact hbo' h1 | exact hbo' h1.symm)]; exact S3.2.1, by rw [World.cell?_setCell_other _ _ _ _ (by intro h; injection h with h1; first | exact hbo' h1 | exact hbo' h1.symm)]; exact S3.2.2.1, by rw [World.cell?_setCell_other _ _ _ _ (by intro h; injection h with h1; first | exact hbo' h1 | exact hbo' h1.symm)]; exact S3.2.2.2⟩
        have i4 := g3.isRow; have r4 := g3.row
        refine hK.out _ _ ?_ (fun hHeld => ?_)
        · (try dsimp only); (first | exact S4 _ | exact S3 | exact S0 | exact keepW ((Below.refl _ _).drew) S0 | exact keepW (((Below.refl _ _).drew).alloc (Nat.le_refl _) _) S0 | exact keepW ((Below.refl _ _).alloc (Nat.le_refl _) _) S0)
        clear hK K
        try simp only [Act.put, List.setIfInBounds_toArray, List.set_cons_zero, List.set_cons_succ]
        (apply tkT 9 1023 hg; (focus rfl); (focus rfl); (focus kernel_rfl); (focus (intro w0 hSw; (try dsimp only at hSw); go_simp; try (with_reducible rfl))); (focus assumption))
        try simp only [Act.put, List.setIfInBounds_toArray, List.set_cons_zero, List.set_cons_succ]
        (apply act1 10 2047 hg; (focus rfl); (focus rfl); (focus kernel_rfl))
        intro K hK
        go_simp
        refine hK.out _ _ ?_ (fun hHeld => ?_)
        · (try dsimp only); (first | exact S4 _ | exact S3 | exact S0 | exact keepW ((Below.refl _ _).drew) S0 | exact keepW (((Below.refl _ _).drew).alloc (Nat.le_refl _) _) S0 | exact keepW ((Below.refl _ _).alloc (Nat.le_refl _) _) S0)
        clear hK K
        try simp only [Act.put, List.setIfInBounds_toArray, List.set_cons_zero, List.set_cons_succ]
        refine actE hg (by kernel_rfl) ?_
        go_wp2_with (first | (apply ld_row 27 19; (focus rfl); (focus go_simp); (focus (go_simp; rfl)); (focus (exact Tryd.underlying27)); (focus kernel_rfl)) | (apply st_row 27 19; (focus rfl); (focus rfl); (focus go_simp); (focus kernel_rfl); (focus rfl); (focus (first | (simp [Value.oneCell']; done) | (simp [Value.oneCell', Job.cells]; done)))) | (apply ld_row 35 19; (focus rfl); (focus go_simp); (focus (go_simp; rfl)); (focus (exact Tryd.underlying35)); (focus kernel_rfl)) | (apply st_row 35 19; (focus rfl); (focus rfl); (focus go_simp); (focus kernel_rfl); (focus rfl); (focus (first | (simp [Value.oneCell']; done) | (simp [Value.oneCell', Job.cells]; done)))) | fail)
        go_roundw
        case rel =>
          have hg : w.heap.size + 1 + 1 + 1 ≤ g ∧ g < w1.heap.size := by obtain ⟨_, cs, h, _⟩ := hA.1; exact own_lt' h g rfl
          refine ⟨k + 1, ⟨some ⟨g, 0, none⟩, cap⟩, by go_num, by omega, (hA.below (HX.out.1.drew) HX.out.1.size (fun x hx => by have := no x hx; omega)).setCell (by have := HB.out; simp only; omega) _, g1.far hjo _, g2.far hro _, ?_, by simp [World.setCell]; omega, ?_⟩
          · obtain ⟨t, h⟩ := g3
            refine ⟨t, ?_⟩
            rw [blk_set h]
            simp [Job.cells, Job.cut]
            omega
          · have h7 := hA.1
            have e1 : j.stack.take (k + 1) = j.stack.take k ++ [f] := by rw [List.take_succ_eq_append_getElem hlt, HF.out.1]
            have e2 : (j.stack.take k ++ [f]).length = k + 1 := by simp; omega
            rw [e2] at h7
            rw [e1]
            exact h7.move (fun x hx => Below.heap_setCell _ _ _ x (by have := hS x hx; have := HB.out; simp only; omega)) (fun x hx => Below.heap_setCell _ _ _ x (by simp [Value.ownBlock] at hx; have := HB.out; simp only; omega))
        case measure => simp [intOf]; omega
    · have hkm : k = j.stack.length := by omega
      have HK := Lib.hid hkm
      have hd : decide ((k : Int) < (j.stack.length : Int)) = false := by simp; omega
      have ec : j.cut k = j := by unfold Job.cut; rw [hkm, List.take_length]
      rw [ec] at r3
      have hown := HX.out.2.2.2.2.2
      rw [hkm, List.take_length, ← hkm] at hown
      have HO := Lib.hid hown
      have l2 : ¬ br = wr.heap.size := Nat.ne_of_lt HX.out.2.2.1.lt
      clear hkm ec hown hcut
      go_wp2_with (first | (apply ld_row 27 19; (focus rfl); (focus go_simp); (focus (go_simp; rfl)); (focus (exact Tryd.underlying27)); (focus kernel_rfl)) | (apply st_row 27 19; (focus rfl); (focus rfl); (focus go_simp); (focus kernel_rfl); (focus rfl); (focus (first | (simp [Value.oneCell']; done) | (simp [Value.oneCell', Job.cells]; done)))) | (apply ld_row 35 19; (focus rfl); (focus go_simp); (focus (go_simp; rfl)); (focus (exact Tryd.underlying35)); (focus kernel_rfl)) | (apply st_row 35 19; (focus rfl); (focus rfl); (focus go_simp); (focus kernel_rfl); (focus rfl); (focus (first | (simp [Value.oneCell']; done) | (simp [Value.oneCell', Job.cells]; done)))) | fail)
      refine ret_row (n := 19) (cs := (j.cells { a with s := s }).toArray) rfl rfl (by go_simp) (by go_simp; try simp [Job.cells]; try (first | omega | exact HK.out)) Tryd.underlying35 (by kernel_rfl) rfl ?_
      have hO2 : rFrame.Own 57 (wr.setRow br (j.cells { a with s := s }).toArray) (w.heap.size + 1 + 1 + 1) S (.slice s.a j.stack.length s.c) j.stack := by
        have h7 := HO.out
        rw [HK.out] at h7
        exact h7.move (fun x hx => setRow_other _ _ x _ (by have := hS x hx; have := HB.out; omega)) (fun x hx => setRow_other _ _ x _ (by obtain ⟨_, cs, h, _⟩ := h7; have := (own_lt' h x hx).1; have := HB.out; omega))
      have hb : Below w.heap.size w (wr.setRow br (j.cells { a with s := s }).toArray) := Below.setRow_ HX.out.1 (by have := HB.out; omega) _
      have hsz : wr.heap.size = (wr.setRow br (j.cells { a with s := s }).toArray).heap.size := by simp
      refine ⟨{ a with s := s }, rfl, ⟨?_, ?_, ?_⟩, hb⟩
      · exact (HJ.out.1.sub hS hb).weak fun x hx => .inl hx
      · obtain ⟨A, c, he, hr⟩ := hO2.reads0
        injection he with e1 e2 e3
        subst e1 e3
        obtain ⟨_, cs, ho, _⟩ := hO2
        refine ⟨?_, hr.weak fun x hx => hx.elim .inl fun hx => .inr ⟨by have := (own_lt' ho x hx).1; omega, (own_lt' ho x hx).2⟩⟩
        rcases Nat.eq_zero_or_pos j.stack.length with h0 | h0
        · rw [h0]; exact Nat.zero_le _
        · obtain ⟨g, cap, he2, hle⟩ := own_form ho h0
          injection he2 with _ _ e4
          rw [e4]; exact hle
      · exact (HJ.out.2.2.sub hS hb).weak fun x hx => .inl hx
set_option maxRecDepth 100000 in
set_option maxHeartbeats 4000000 in
theorem work_none (j : Job) (a : JA) (w : World) (S : Nat → Prop) (hS : Sub S w) (hj : j.ok w S a) (h0 : j.stack = []) :
    Calls Tryd.prog 11 #[.agg (j.cells a).toArray] w (RetJ w S j) := by
  have HJ := Lib.hid hj
  clear hj
  have HZ := Lib.hid h0
  have hz : j.stack.length = 0 := by rw [h0]; rfl
  clear h0
  have hc := cells_eq
  go_enter Tryd.func11, Tryd.ntmps11
  go_wp2_with (first | (apply ld_row 27 19; (focus rfl); (focus go_simp); (focus (go_simp; rfl)); (focus (exact Tryd.underlying27)); (focus kernel_rfl)) | (apply st_row 27 19; (focus rfl); (focus rfl); (focus go_simp); (focus kernel_rfl); (focus rfl); (focus (first | (simp [Value.oneCell']; done) | (simp [Value.oneCell', Job.cells]; done)))) | (apply ld_row 35 19; (focus rfl); (focus go_simp); (focus (go_simp; rfl)); (focus (exact Tryd.underlying35)); (focus kernel_rfl)) | (apply st_row 35 19; (focus rfl); (focus rfl); (focus go_simp); (focus kernel_rfl); (focus rfl); (focus (first | (simp [Value.oneCell']; done) | (simp [Value.oneCell', Job.cells]; done)))) | fail)
  refine wp_loop_rounds 1 ?_
  rw [rounds_succ]
  go_wp2_with (first | (apply ld_row 27 19; (focus rfl); (focus go_simp); (focus (go_simp; rfl)); (focus (exact Tryd.underlying27)); (focus kernel_rfl)) | (apply st_row 27 19; (focus rfl); (focus rfl); (focus go_simp); (focus kernel_rfl); (focus rfl); (focus (first | (simp [Value.oneCell']; done) | (simp [Value.oneCell', Job.cells]; done)))) | (apply ld_row 35 19; (focus rfl); (focus go_simp); (focus (go_simp; rfl)); (focus (exact Tryd.underlying35)); (focus kernel_rfl)) | (apply st_row 35 19; (focus rfl); (focus rfl); (focus go_simp); (focus kernel_rfl); (focus rfl); (focus (first | (simp [Value.oneCell']; done) | (simp [Value.oneCell', Job.cells]; done)))) | fail)
  refine ret_row (n := 19) (cs := (j.cells { a with s := ⟨none, 0⟩ }).toArray) rfl rfl (by go_simp) (by go_simp; try simp [Job.cells]; try (first | omega | exact hz)) Tryd.underlying35 (by kernel_rfl) rfl ?_
  refine RetJ.old hS (by repeat' (first | with_reducible refine Below.alloc ?_ ?_ _ | with_reducible refine Below.setRow_ ?_ ?_ _ | with_reducible refine Below.setCell ?_ ?_ _ | with_reducible refine Below.drew ?_ | with_reducible refine Below.drewN_ ?_ _ | with_reducible exact Below.refl _ _ | assumption | (simp; done) | (simp; omega) | omega)) ⟨HJ.out.1, ?_, HJ.out.2.2⟩
  rw [HZ.out]
  exact Rp.Is.nil _ _ _ _
theorem work_calls (j : Job) (a : JA) (w : World) (S : Nat → Prop) (hS : Sub S w) (hj : j.ok w S a) (hl : j.stack.length ≤ 1000) :
    Calls Tryd.prog 11 #[.agg (j.cells a).toArray] w (RetJ w S j) := by
  by_cases h0 : j.stack = []
  · exact work_none j a w S hS hj h0
  · obtain ⟨b, off, cs, e, _⟩ := hj.2.1.2.2 0 (List.length_pos_iff.2 h0)
    exact work_some j a w S hS hj hl b off e
end Go.Proofs.YtjkjlegloicmcaaDoor
