/- The functions of package stencil, given by hand to the print: fourth part: a Builder's writers at this dump (whose copyCheck has a refused statement where it never comes), Make. -/
import Derived.Test.YtoojgfhhmdohaaaDoorExtC
import Derived.Shelf.Strings.BuilderK
import Derived.Shelf.Strings.BuilderRune
namespace Go.Proofs.YtoojgfhhmdohaaaDoor.Ext
open Go.RowKit
set_option linter.unusedVariables false
set_option linter.unusedSimpArgs false

theorem info44 : (Tryd.prog.info? 44).map (·.size) = some 2 := by kernel_rfl
theorem lies44 : liesAt Tryd.prog Tryd.prog.depth 44 (2 / Tryd.prog.cellsOf 44) 0 44 1 = true := by kernel_rfl
theorem infoByte : (Tryd.prog.info? 5).map (fun i => (i.zero, i.size, i.bytes)) = some (some (.int .u8 0), 1, 1) := by kernel_rfl

set_option maxHeartbeats 1000000 in
set_option maxRecDepth 100000 in
theorem copyCheck_used (b : Nat) (w : World) (h0 : w.cell? ⟨b, 0, none⟩ = some (.pointer (some ⟨b, 0, none⟩))) :
    Calls Tryd.prog 30 #[.pointer (some ⟨b, 0, none⟩)] w fun e w' => e = .returned (.tuple #[]) ∧ w' = w := by
  obtain ⟨j, hj, _⟩ := Option.map_eq_some_iff.1 info44
  go_enter Tryd.func30, Tryd.ntmps30
  go_wp2
  rw [Lib.run_neq_ptr_same w _ Tryd.underlying41 hj]
  go_wp2
  go_end0
  exact ⟨rfl, rfl⟩
set_option maxHeartbeats 1000000 in
set_option maxRecDepth 100000 in
theorem copyCheck_fresh (b : Nat) (w : World) (h0 : w.cell? ⟨b, 0, none⟩ = some (.pointer none)) (hsh : w.shape? b = some (44, 2)) (hfz : w.frozen? ⟨b, 0, none⟩ = false) :
    Calls Tryd.prog 30 #[.pointer (some ⟨b, 0, none⟩)] w fun e w' => e = .returned (.tuple #[]) ∧ w' = w.setCell ⟨b, 0, none⟩ (.pointer (some ⟨b, 0, none⟩)) := by
  obtain ⟨j, hj, hjs⟩ := Option.map_eq_some_iff.1 info44
  go_enter Tryd.func30, Tryd.ntmps30
  go_wp2
  rw [Lib.run_to_unsafe w ⟨b, 0, none⟩ Tryd.underlying41 Tryd.underlying67 hj (by rw [hjs]; decide) hsh (Nat.zero_lt_succ 1)]
  simp only [Result.andThen]
  rw [Oper.upon_value]
  go_wp2
  rw [run_callFunc_extern Tryd.func41 (by kernel_rfl) (by kernel_rfl) (by kernel_rfl) (e := Extern.AbiNoEscape.same) (by kernel_rfl)]
  rw [Lib.run_noEscape]
  simp only [Result.andThen]
  rw [Oper.upon_value]
  go_wp2
  rw [Lib.run_from_unsafe w ⟨b, 0, none⟩ Tryd.underlying67 Tryd.underlying41 hj hsh lies44]
  simp only [Result.andThen]
  rw [Oper.upon_value]
  go_wp2
  go_end0
  exact ⟨rfl, rfl⟩
theorem copyCheck_k (B b : Nat) (bs : List Value) (w : World) (h : Lib.IsBuilderF 44 5 B b bs w) :
    Calls Tryd.prog 30 #[.pointer (some ⟨b, 0, none⟩)] w fun e w' => e = .returned (.tuple #[]) ∧ (Lib.BuilderAtF 44 5 B b (.pointer (some ⟨b, 0, none⟩)) bs w' ∧ Below B w w' ∧ Lib.OthersKept 5 (some b) w w') := by
  rcases h with h | h
  · refine (copyCheck_fresh b w h.cell0 h.shape h.frozen0).mono ?_
    rintro e w' ⟨rfl, rfl⟩
    exact ⟨rfl, h.used _, (Below.refl B w).setCell (p := ⟨b, 0, none⟩) h.1 _, (Lib.OthersKept.refl _ _ w).setCell ⟨b, 0, none⟩ rfl _⟩
  · refine (copyCheck_used b w h.cell0).mono ?_
    rintro e w' ⟨rfl, rfl⟩
    exact ⟨rfl, h, Below.refl B _, Lib.OthersKept.refl _ _ _⟩
set_option maxHeartbeats 2000000 in
set_option maxRecDepth 100000 in
theorem writeString_k (B b : Nat) (bs : List Value) (s : ByteArray) (w : World) (h : Lib.IsBuilderF 44 5 B b bs w) (hlen : bs.length + s.size ≤ 140737488355328) (hBw : B ≤ w.heap.size) :
    Calls Tryd.prog 24 #[.pointer (some ⟨b, 0, none⟩), .string s] w fun e w' => e = .returned (.tuple #[.int .i64 s.size, .nilIface]) ∧ (Lib.BuilderAtF 44 5 B b (.pointer (some ⟨b, 0, none⟩)) (bs ++ Lib.strCells s) w' ∧ Below B w w' ∧ Lib.OthersKept 5 (some b) w w') := by
  obtain ⟨i0, hi, hz0, hz1, hz2⟩ := info_parts infoByte
  go_enter Tryd.func24, Tryd.ntmps24
  go_wp2_with (go_at_call 30; refine (copyCheck_k B b bs _ h).mono ?_)
  rintro e w1 ⟨rfl, h1, hb1, hk1⟩
  obtain ⟨hB, v, hbk, hown, hne⟩ := h1
  have c0 : w1.cell? ⟨b, 0, none⟩ = some (.pointer (some ⟨b, 0, none⟩)) := by rw [Lib.cell_of_heap hbk]; rfl
  have c1 : w1.cell? ⟨b, 1, none⟩ = some v := by rw [Lib.cell_of_heap hbk]; rfl
  go_wp2_with (at_builtin; refine Lib.wpList_append_own_stringF _ rfl _ _ 42 9 rfl B 5 i0 Tryd.underlying42 Tryd.underlying9 hi hz0 hz1 hz2 _ _ _ rfl hown s rfl ?c3 ?c4 ?c5 ?_)
  case c3 => unfold maxLen; omega
  case c4 => omega
  case c5 => have := hb1.size; omega
  intro v' w2 hown' hgrow _
  have hlt : b < w1.heap.size := by
    rcases Nat.lt_or_ge b w1.heap.size with h' | h'
    · exact h'
    · simp [Array.getElem?_eq_none h'] at hbk
  have hb2 : w2.heap[b]? = some (.cells #[.pointer (some ⟨b, 0, none⟩), v] 44 (0, 0)) := by
    rw [hgrow.block b hlt (fun e => hne e.symm)]
    exact hbk
  have d0 : w2.cell? ⟨b, 0, none⟩ = some (.pointer (some ⟨b, 0, none⟩)) := by rw [Lib.cell_of_heap hb2]; rfl
  have d1 : w2.cell? ⟨b, 1, none⟩ = some v := by rw [Lib.cell_of_heap hb2]; rfl
  have f1 : w2.frozen? ⟨b, 1, none⟩ = false := Lib.frozen_of_heap hb2 1
  obtain ⟨ao, n', cap, rfl⟩ : ∃ ao n' cap, v' = .slice ao n' cap := by
    rcases hown'.2 with ⟨hv, _⟩ | ⟨g, cap, cur, fz, hv, _⟩
    · exact ⟨_, _, _, hv⟩
    · exact ⟨_, _, _, hv⟩
  go_wp2
  go_ret2
  refine ⟨rfl, ?_, ?_, (hk1.grown hgrow (Lib.ownsRowF_kind hown)).setCell ⟨b, 1, none⟩ rfl _⟩
  · exact Lib.BuilderAtF.put (T := 44) (e := 5) hB hb2 (bs' := bs ++ Lib.strCells s) (by simpa [Lib.strCells_length] using hown') (by decide)
  · exact (hb1.grown hgrow (by have := hb1.size; omega) (fun k hk => (hown.lt k hk).1)).setCell (p := ⟨b, 1, none⟩) hB _
set_option maxHeartbeats 4000000 in
set_option maxRecDepth 100000 in
theorem writeRune_k (B b : Nat) (bs : List Value) (r : Int) (hr0 : -2147483648 ≤ r) (hr1 : r ≤ 2147483647) (w : World) (h : Lib.IsBuilderF 44 5 B b bs w) (hlen : bs.length + 4 ≤ 140737488355328) (hBw : B ≤ w.heap.size) :
    Calls Tryd.prog 25 #[.pointer (some ⟨b, 0, none⟩), .int .i32 r] w fun e w' => e = .returned (.tuple #[.int .i64 (Lib.runeCells r).length, .nilIface]) ∧ (Lib.BuilderAtF 44 5 B b (.pointer (some ⟨b, 0, none⟩)) (bs ++ Lib.runeCells r) w' ∧ Below B w w' ∧ Lib.OthersKept 5 (some b) w w') := by
  have hk4 := Lib.runeCells_le r
  go_enter Tryd.func25, Tryd.ntmps25
  go_wp2_with (go_at_call 30; refine (copyCheck_k B b bs _ h).mono ?_)
  rintro e w1 ⟨rfl, h1, hb1, hk1⟩
  obtain ⟨hB, v, hbk, hown, hne⟩ := h1
  obtain ⟨ao, cap, rfl⟩ : ∃ ao cap, v = .slice ao bs.length cap := by
    rcases hown.2 with ⟨hv, h0⟩ | ⟨g, cap, cur, fz, hv, _⟩
    · exact ⟨none, 0, by rw [hv, h0]⟩
    · exact ⟨_, _, hv⟩
  have c0 : w1.cell? ⟨b, 0, none⟩ = some (.pointer (some ⟨b, 0, none⟩)) := by rw [Lib.cell_of_heap hbk]; rfl
  have c1 : w1.cell? ⟨b, 1, none⟩ = some (.slice ao bs.length cap) := by rw [Lib.cell_of_heap hbk]; rfl
  go_wp2_with (go_at_call 31; refine (Tryd.utf8_AppendRune_row B _ bs.length bs r hr0 hr1 _ hown hlen (by have := hb1.size; omega)).mono ?_)
  rintro e w2 ⟨v', rfl, hown', o, hgrow⟩
  have hlt : b < w1.heap.size := by
    rcases Nat.lt_or_ge b w1.heap.size with h' | h'
    · exact h'
    · simp [Array.getElem?_eq_none h'] at hbk
  have hb2 : w2.heap[b]? = some (.cells #[.pointer (some ⟨b, 0, none⟩), .slice ao bs.length cap] 44 (0, 0)) := by
    rw [hgrow.block b (by simp; omega) (fun e => hne e.symm), Lib.alloc_old w1 _ b hlt]
    exact hbk
  have d0 : w2.cell? ⟨b, 0, none⟩ = some (.pointer (some ⟨b, 0, none⟩)) := by rw [Lib.cell_of_heap hb2]; rfl
  have d1 : w2.cell? ⟨b, 1, none⟩ = some (.slice ao bs.length cap) := by rw [Lib.cell_of_heap hb2]; rfl
  have f1 : w2.frozen? ⟨b, 1, none⟩ = false := Lib.frozen_of_heap hb2 1
  obtain ⟨g, cap', rfl⟩ : ∃ g cap', v' = .slice (some ⟨g, 0, none⟩) (bs.length + (Lib.runeCells r).length) cap' := by
    rcases hown'.2 with ⟨_, h0⟩ | ⟨g, cap', cur, fz, hv, _⟩
    · omega
    · exact ⟨g, cap', hv⟩
  go_wp2
  go_ret2
  refine ⟨?_, ?_, ?_, ((hk1.alloc _).grown hgrow (Lib.ownsRowF_kind (hown.alloc _))).setCell ⟨b, 1, none⟩ rfl _⟩
  · have e : ((bs.length : Int) + ((Lib.runeCells r).length : Int) - (bs.length : Int)) = ((Lib.runeCells r).length : Int) := by omega
    simp [e]
  · exact Lib.BuilderAtF.put (T := 44) (e := 5) hB hb2 (bs' := bs ++ Lib.runeCells r) (by simpa using hown') (by decide)
  · exact ((hb1.alloc (by have := hb1.size; omega) _).grown hgrow (by have := hb1.size; simp; omega) (fun k hk => (hown.lt k hk).1)).setCell (p := ⟨b, 1, none⟩) hB _

/-! ### Make -/
def madeL (ds : List Int) (k : Nat) : List UInt8 := (List.range k).map fun i => let1 (ds.getD i 0)
def makeL (t : List UInt8) (ds : List Int) : List UInt8 := stemL t ++ madeL ds (blanks t)
theorem madeL_succ (ds : List Int) (k : Nat) : madeL ds (k + 1) = madeL ds k ++ [let1 (ds.getD k 0)] := by
  unfold madeL; rw [List.range_succ, List.map_append]; rfl
theorem madeL_len (ds : List Int) (k : Nat) : (madeL ds k).length = k := by simp [madeL]
theorem runeCells_let (n : Int) : Lib.runeCells ((let1 n).toNat : Int) = Lib.byteCells [let1 n] := by
  have := let1_ascii n
  unfold Lib.runeCells
  rw [Lib.encodeRuneZ_one (by omega) (by omega)]
  rfl
theorem strCells_mk (l : List UInt8) : Lib.strCells ⟨l.toArray⟩ = Lib.byteCells l := by
  simp [Lib.strCells, Lib.byteCells]
theorem tail_get (t : ByteArray) (pos : Nat) (h : pos < (t.extract (stemL t.data.toList).length t.size).size) : ((t.extract (stemL t.data.toList).length t.size)[pos]'h) = 88 := by
  have hl := stemL_len t.data.toList
  have hz : t.data.toList.length = t.size := by simp
  have h' : pos < blanks t.data.toList := by
    rw [ByteArray.size_extract] at h; omega
  have e1 : ((t.extract (stemL t.data.toList).length t.size)[pos]'h) = t.data.toList[(stemL t.data.toList).length + pos]'(by omega) := by
    rw [ByteArray.getElem_extract]; rfl
  rw [e1]
  clear e1
  unfold blanks at h' hl
  have hr : (t.data.toList.reverse.takeWhile (· == 88))[t.data.toList.length - 1 - ((stemL t.data.toList).length + pos)]? = some (t.data.toList[(stemL t.data.toList).length + pos]'(by omega)) := by
    have hlt : t.data.toList.length - 1 - ((stemL t.data.toList).length + pos) < (t.data.toList.reverse.takeWhile (· == 88)).length := by omega
    have hp := (List.takeWhile_prefix (l := t.data.toList.reverse) (· == 88)).getElem hlt
    rw [List.getElem?_eq_getElem hlt, hp, List.getElem_reverse]
    congr 1
    congr 1
    omega
  have hm := List.mem_of_getElem? hr
  have := List.all_takeWhile (p := (· == (88 : UInt8))) (l := t.data.toList.reverse)
  have := List.all_eq_true.mp this _ hm
  simpa using this

theorem heap_lt {w : World} {b : Nat} {o : Obj} (h : w.heap[b]? = some o) : b < w.heap.size := (Array.getElem?_eq_some_iff.1 h).1
theorem builderAtF_below {T e : TypeId} {B b : Nat} {p : Value} {bs : List Value} {w w' : World} (h : Lib.BuilderAtF T e B b p bs w) (hb : Below w.heap.size w w') : Lib.BuilderAtF T e B b p bs w' := by
  obtain ⟨h1, v, h2, h3, h4⟩ := h
  refine ⟨h1, v, by rw [hb.block b (heap_lt h2)]; exact h2, ⟨h3.1, ?_⟩, h4⟩
  rcases h3.2 with h | ⟨g, cap, cur, fz, e1, e2, e3, e4⟩
  · exact .inl h
  · exact .inr ⟨g, cap, cur, fz, e1, e2, by rw [hb.block g (heap_lt e3)]; exact e3, e4⟩
theorem builderF_below {T e : TypeId} {B b : Nat} {bs : List Value} {w w' : World} (h : Lib.IsBuilderF T e B b bs w) (hb : Below w.heap.size w w') : Lib.IsBuilderF T e B b bs w' :=
  h.imp (builderAtF_below · hb) (builderAtF_below · hb)

/-- What a slice of whole numbers reads as, cell by cell. -/
def Reads (w : World) (A : Option Addr) (l : List Int) : Prop := ∀ i, i < l.length → ∃ b off, A = some ⟨b, off, none⟩ ∧ b < w.heap.size ∧ w.cell? ⟨b, off + i, none⟩ = some (.int .i64 (l.getD i 0))

set_option maxHeartbeats 4000000 in
set_option maxRecDepth 100000 in
theorem make_calls (t : ByteArray) (A : Option Addr) (c : Nat) (l : List Int) (w : World) (ht : t.size ≤ 35184372088832) (hl : l.length ≤ 9223372036854775807) (hr : Reads w A l) :
    Calls Tryd.prog 18 #[.string t, .slice A l.length c] w fun e w' => e = .returned (.string ⟨(makeL t.data.toList l).toArray⟩) ∧ Below w.heap.size w w' := by
  have hst := stemL_len t.data.toList
  have hz : t.data.toList.length = t.size := by simp
  have hst1 : (stemL t.data.toList).length ≤ t.size := by omega
  have hst2 : ((stemL t.data.toList).length : Int) ≤ t.size := by omega
  have HT := Lib.hid (And.intro hst hz)
  have HR := Lib.hid hr
  clear hst hz hr
  have hI0 := (Lib.IsBuilderF.of (Lib.fresh_isBuilder 44 5 w))
  go_enter Tryd.func18, Tryd.ntmps18
  go_wp2_with fail
  obtain ⟨w0, hw0⟩ : ∃ w0 : World, w.alloc (.cells #[.pointer none, .slice none 0 0] 44) = w0 := ⟨_, rfl⟩
  have b0 : Below w.heap.size w w0 := by rw [← hw0]; exact (Below.refl _ w).alloc (Nat.le_refl _) _
  rw [hw0] at hI0
  rw [hw0]
  have hs0 := b0.size
  clear hw0
  go_wp2_with (first | (go_at_call 20; refine (stem_calls t _ (by omega)).mono ?_; rintro e w' ⟨rfl, rfl⟩) | (go_at_call 24; refine (writeString_k w.heap.size w.heap.size [] _ _ hI0 (by show 0 + _ ≤ _; show 0 + (stemL t.data.toList).toArray.size ≤ _; rw [List.size_toArray]; omega) hs0).mono ?_; rintro e w1 ⟨rfl, h1, b1, k1⟩; try clear hI0))
  have hs1 := b1.size
  obtain ⟨hst, hz⟩ := HT.out
  clear HT
  generalize hq : t.extract (stemL t.data.toList).length t.size = q
  have hqn : q.size = blanks t.data.toList := by rw [← hq, ByteArray.size_extract]; omega
  have hqx : ∀ pos (h : pos < q.size), q[pos]'h = 88 := by subst hq; exact tail_get t
  have h2 : Lib.IsBuilderF 44 5 w.heap.size w.heap.size (Lib.byteCells (stemL t.data.toList ++ madeL l 0)) w1 := by
    refine .inr ?_
    have e : ([] : List Value) ++ Lib.strCells ⟨(stemL t.data.toList).toArray⟩ = Lib.byteCells (stemL t.data.toList ++ madeL l 0) := by
      rw [strCells_mk]; simp [madeL]
    rw [← e]; exact h1
  have hgt : w.heap.size < w1.heap.size := by
    rcases h1 with ⟨_, v, hv, _⟩
    exact heap_lt hv
  have hit0 := World.iter_heap w1 q 0
  have b2 : Below w.heap.size w (w1.iter q 0) := (b0.trans b1).alloc (Nat.le_of_lt hgt) _
  have h3 : Lib.IsBuilderF 44 5 w.heap.size w.heap.size (Lib.byteCells (stemL t.data.toList ++ madeL l 0)) (w1.iter q 0) := h2.alloc _
  clear hq h1 h2 k1
  obtain ⟨W, hW⟩ : ∃ W : World, w1.iter q 0 = W := ⟨_, rfl⟩
  rw [hW] at hit0 b2 h3 ⊢
  obtain ⟨g, hg⟩ : ∃ g : Nat, w1.heap.size = g := ⟨_, rfl⟩
  rw [hg] at hit0 hgt ⊢
  clear hg hW b1 hs1
  generalize hstem : stemL t.data.toList = st at *
  have HS := Lib.hid hstem
  have HN := Lib.hid hqn
  have HM := Lib.hid hst
  clear hstem hst
  go_loopw [] (fun wr => ∃ pos : Nat, pos ≤ q.size ∧ Lib.IsBuilderF 44 5 w.heap.size w.heap.size (Lib.byteCells (st ++ madeL l pos)) wr ∧ wr.heap[g]? = some (.stringIter q pos) ∧ Below w.heap.size w wr) (fun wr => q.size - wr.iterPos g)
  case atStart => exact ⟨0, Nat.zero_le _, h3, hit0, b2⟩
  case round =>
    clear h3 hit0 b2 b0 hs0
    obtain ⟨pos, hpk, hI, hit, hbw⟩ := hrel
    have hgl := heap_lt hit
    have hlen : (Lib.byteCells (st ++ madeL l pos)).length ≤ t.size := by
      rw [Lib.byteCells_length, List.length_append, madeL_len]
      have := HM.out; have := HN.out; omega
    clear hqn
    by_cases hp : pos < q.size
    · have hx := hqx pos hp
      have ha : (q[pos]'hp).toNat < 128 := by rw [hx]; decide
      have hnx : ∀ ty, (Instr.next (.pointer (some ⟨g, 0, none⟩)) true ty).run Tryd.prog wr = _ := fun ty => Lib.run_next_ascii_at wr g q pos ty hit hp ha
      rw [hx] at hnx
      have hit2 := Lib.iterAt_heap wr g q pos (pos + 1) hit
      have hbw2 := Lib.below_iterAt hbw (k := g) (by omega) q (pos + 1)
      have hI2 := hI.iterAt hit (pos + 1)
      have hsz2 : (wr.iterAt g q (pos + 1)).heap.size = wr.heap.size := Lib.iterAt_size _ _ _ _
      have HI := Lib.hid hit
      have HI2 := Lib.hid hit2
      have HX := Lib.hid hx
      clear hit hit2 hx ha hqx
      obtain ⟨W2, hW2⟩ : ∃ W2 : World, wr.iterAt g q (pos + 1) = W2 := ⟨_, rfl⟩
      rw [hW2] at hnx hbw2 hI2 hsz2 HI2
      have hgl2 : g < W2.heap.size := by omega
      clear hW2 hsz2 hI hbw
      by_cases hd : pos < l.length
      · obtain ⟨bb, off, hA, hbb, hc⟩ := HR.out pos hd
        subst hA
        obtain ⟨x, hxv⟩ : ∃ x, l.getD pos 0 = x := ⟨_, rfl⟩
        rw [hxv] at hc
        have HV := Lib.hid hxv
        have hc2 : W2.cell? ⟨bb, off + pos, none⟩ = some (.int .i64 x) := by rw [hbw2.cell (p := ⟨bb, off + pos, none⟩) hbb]; exact hc
        have hd2 : (pos : Int) < (l.length : Int) := by omega
        clear hc hxv
        go_wp2_with (first | (go_at_call 21; refine (letter_calls _ _).mono ?_; rintro e w3 ⟨rfl, hb3⟩) | (go_at_call 25; refine (writeRune_k w.heap.size w.heap.size _ _ (by omega) (by have := let1_ascii x; omega) _ (builderF_below hI2 hb3) (by omega) (Nat.le_trans hbw2.size hb3.size)).mono ?_))
        rintro e W4 ⟨rfl, h4, b4, k4⟩
        go_wp2
        have hw3 : w3.heap[g]? = some (.stringIter q (pos + 1)) := by rw [hb3.block g hgl2]; exact HI2.out
        have hw4 : W4.heap[g]? = some (.stringIter q (pos + 1)) := k4.iter hw3 (by omega)
        go_roundw
        case rel =>
          refine ⟨pos + 1, by omega, .inr ?_, hw4, (hbw2.trans (hb3.mono hbw2.size)).trans b4⟩
          rw [madeL_succ, ← List.append_assoc, Lib.byteCells_append, HV.out, ← runeCells_let]
          exact h4
        case measure => simp only [World.iterPos, HI.out, hw4]; omega
      · have hd2 : ¬ ((pos : Int) < (l.length : Int)) := by omega
        have hxv : l.getD pos 0 = 0 := by rw [List.getD_eq_getElem?_getD, List.getElem?_eq_none (by omega)]; rfl
        have HV := Lib.hid hxv
        clear hxv
        go_wp2_with (first | (go_at_call 21; refine (letter_calls _ _).mono ?_; rintro e w3 ⟨rfl, hb3⟩) | (go_at_call 25; refine (writeRune_k w.heap.size w.heap.size _ _ (by omega) (by have := let1_ascii 0; omega) _ (builderF_below hI2 hb3) (by omega) (Nat.le_trans hbw2.size hb3.size)).mono ?_))
        rintro e W4 ⟨rfl, h4, b4, k4⟩
        go_wp2
        have hw3 : w3.heap[g]? = some (.stringIter q (pos + 1)) := by rw [hb3.block g hgl2]; exact HI2.out
        have hw4 : W4.heap[g]? = some (.stringIter q (pos + 1)) := k4.iter hw3 (by omega)
        go_roundw
        case rel =>
          refine ⟨pos + 1, by omega, .inr ?_, hw4, (hbw2.trans (hb3.mono hbw2.size)).trans b4⟩
          rw [madeL_succ, ← List.append_assoc, Lib.byteCells_append, HV.out, ← runeCells_let]
          exact h4
        case measure => simp only [World.iterPos, HI.out, hw4]; omega
    · have hnx : ∀ ty, (Instr.next (.pointer (some ⟨g, 0, none⟩)) true ty).run Tryd.prog wr = _ := fun ty => Lib.run_next_end_at wr g q pos ty hit hp
      obtain rfl : pos = q.size := by omega
      clear hit
      have hsz : w.heap.size ≤ wr.heap.size := hbw.size
      go_wp2_with (go_at_call 26; refine (Tryd.Builder_String_any_k w.heap.size w.heap.size _ _ hI hsz).mono ?_)
      rintro e W1 ⟨rfl, _, b3, _⟩
      go_wp2
      go_ret
      refine ⟨?_, hbw.trans b3⟩
      show Ending.returned (.string ⟨(st ++ madeL l q.size).toArray⟩) = Ending.returned (.string ⟨(makeL t.data.toList l).toArray⟩)
      unfold makeL
      rw [HS.out, HN.out]
end Go.Proofs.YtoojgfhhmdohaaaDoor.Ext
