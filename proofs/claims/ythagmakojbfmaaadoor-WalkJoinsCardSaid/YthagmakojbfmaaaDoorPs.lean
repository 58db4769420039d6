/- The walker: the parts that are ahead. -/
import Derived.Test.YthagmakojbfmaaaDoorEn
import Derived.Test.YthagmakojbfmaaaDoorExtR
set_option linter.unusedVariables false
set_option linter.unusedSimpArgs false
namespace Go.Proofs.YthagmakojbfmaaaDoor.Ext
open Go Go.RowKit Go.Proofs.YthagmakojbfmaaaDoor Go.Proofs.YthagmakojbfmaaaDoorW.PrintWords
def But (w : World) (bk : Nat) : Nat → Prop := fun x => x < w.heap.size ∧ x ≠ bk
def Ps (w : World) (bk : Nat) (v : Value) (ps : List ByteArray) : Prop := ∃ s : Sl, v = .slice s.a ps.length s.c ∧ rStr.Is w (But w bk) s ps
theorem Ps.gro {w w1 : World} {bk : Nat} {v : Value} {ps : List ByteArray} (h : Ps w bk v ps) (hg : Gro (fun x => x = bk) w w1) : Ps w1 bk v ps := by
 obtain ⟨s, rfl, h⟩ := h
 exact ⟨s, rfl, (h.move fun k hk => hg.block k hk.1 hk.2).weak fun k hk => ⟨Nat.lt_of_lt_of_le hk.1 hg.size, hk.2⟩⟩
theorem Gro.of_below {w w1 : World} {B : Nat → Prop} (h : Below w.heap.size w w1) : Gro B w w1 := (Gro.refl B w).below h (Nat.le_refl _)
theorem Gro.trans {a b c : World} {B : Nat → Prop} (h : Gro B a b) (h2 : Gro B b c) : Gro B a c :=
 ⟨h2.os.trans h.os, h2.tape.trans h.tape, h2.output.trans h.output, Nat.le_trans h.size h2.size, fun k hk hB => (h2.block k (Nat.lt_of_lt_of_le hk h.size) hB).trans (h.block k hk hB)⟩
theorem Wb.set {w : World} {b : Nat} {k k' : Wk} {A : Option Addr} {c n : Nat} {m r : Int} (h : Wb w b k A c n m r) (j : Nat) (v : Value) (he : (k.cells A c n m r).setIfInBounds j v = k'.cells A c n m r) : Wb (w.setCell ⟨b, j, none⟩ v) b k' A c n m r := by
 unfold Wb
 rw [← he]
 exact blk_set h
theorem Wb.lt {w : World} {b : Nat} {k : Wk} {A : Option Addr} {c n : Nat} {m r : Int} (h : Wb w b k A c n m r) : b < w.heap.size := (Array.getElem?_eq_some_iff.1 h).1
theorem Ps.of_own {w : World} {bk base : Nat} {v : Value} {ps : List ByteArray} (h : w.ownsRow base 9 1 v ps.length (ps.map Value.string)) (hb : bk < base) : Ps w bk v ps := by
 obtain ⟨_, ⟨rfl, h0⟩ | ⟨g, cap, cur, rfl, hg, hh, hn, hm, hcs, ht⟩⟩ := h
 ·have : ps = [] := List.eq_nil_of_length_eq_zero h0
  subst this
  exact ⟨⟨none, 0⟩, rfl, Rp.Is.nil _ _ _ _⟩
 ·have hlt : g < w.heap.size := (Array.getElem?_eq_some_iff.1 hh).1
  refine ⟨⟨some ⟨g, 0, none⟩, cap⟩, rfl, hn, Nat.le_trans hn hm, fun k hk => ⟨g, 0, [.string ps[k]], rfl, ⟨hlt, by omega⟩, rfl, fun i u hu => ?_⟩⟩
  rcases i with _ | i
  ·simp at hu; subst hu
   rw [cell_of_row w g _ _ 9 (0, 0) hh]
   have h1 : (cur.toList.take (ps.length * 1))[k]? = some (.string ps[k]) := by rw [ht]; simp [hk]
   rw [List.getElem?_take_of_lt (by omega)] at h1
   simpa [rStr, Rp.scalar] using h1
  ·simp at hu
theorem strings_info : ∃ i, Tryd.prog.info? 9 = some i ∧ i.zero = some (.string ⟨#[]⟩) ∧ i.size = 1 ∧ i.bytes = 16 := by
 obtain ⟨i, hi, hz⟩ := Option.map_eq_some_iff.1 (show (Tryd.prog.info? 9).map (fun i => (i.zero, i.size, i.bytes)) = some (some (.string ⟨#[]⟩), 1, 16) by kernel_rfl)
 simp only [Prod.mk.injEq] at hz
 exact ⟨i, hi, hz.1, hz.2.1, hz.2.2⟩
theorem wpList_hopapp {w : World} {ops : Array Oper} {rest' : List Oper} {o : Oper} {act : Act} {Q : Exit → Act → World → Prop} {S : Nat → Prop} (hgd : o.guard = none) (s x : Operand)
  (ho : o.op = .call { callee := .builtin .append, args := #[s, x], argTypes := #[60, 60] }) (base : Nat) (names rest ps : List ByteArray) (v : Value) (a : Addr) (cr : Nat) (hps : ps = names ++ rest)
  (hs : act.eval s = v) (hx : act.eval x = .slice (some a) rest.length cr) (hown : w.ownsRow base 9 1 v names.length (names.map Value.string)) (hrest : rStr.Is w S ⟨some a, cr⟩ rest) (hbase : base ≤ w.heap.size) (hl1 : names.length ≤ 100000) (hl2 : rest.length ≤ 100000)
  (h : ∀ A' c' w', w'.ownsRow base 9 1 (.slice A' ps.length c') ps.length (ps.map Value.string) → w.grownBy w' v.ownBlock → wpList Tryd.prog ops Q rest' (act.put o.dst (.slice A' ps.length c')) w') : wpList Tryd.prog ops Q (o :: rest') act w := by
 obtain ⟨i, hi, hz, hsz, hby⟩ := strings_info
 have hraw : ∀ (k : Nat) u, (rest.map Value.string)[k]? = some u → w.cell? (a.add k) = some u := by
  intro k u hu
  rw [List.getElem?_map, Option.map_eq_some_iff] at hu
  obtain ⟨y, hy, rfl⟩ := hu
  obtain ⟨hk, rfl⟩ := List.getElem?_eq_some_iff.1 hy
  obtain ⟨b, off, e, _, hc⟩ := hrest.2.str k hk
  have e' : a = ⟨b, off, none⟩ := Option.some.inj e
  subst e'
  unfold Addr.add
  split
  ·rename_i h0; subst h0; simpa using hc
  ·exact hc
 obtain ⟨v', w', hrun, hown', hg, _, hat⟩ := run_append_own_at (P := Tryd.prog) (w := w) base 60 o.type 9 i (.string ⟨#[]⟩) 1 16 Tryd.underlying60 hi hz hsz hby rfl (by decide) v names.length (names.map Value.string) hown a rest.length cr (rest.map Value.string) (by simp) hraw (fun u hu => by obtain ⟨y, _, rfl⟩ := List.mem_map.1 hu; rfl) (by simp only [maxLen]; omega) (by omega) hbase
 rw [← List.map_append, ← List.length_append, ← hps] at hown'
 have hv' : ∃ A' c', v' = .slice A' ps.length c' := by
  obtain ⟨_, ⟨h1, h0⟩ | ⟨g, cap, cur, h1, _⟩⟩ := hown'
  ·exact ⟨none, 0, by rw [h1, h0]⟩
  ·exact ⟨_, _, h1⟩
 obtain ⟨A', c', rfl⟩ := hv'
 refine wpList_plain hgd fun _ hK => ?_
 unfold Oper.wp execOp
 simp only [ho, resolve, invoke, builtin, Sem.run_bind, Sem.run_pure, Result.andThen_ok, List.map_toArray, List.map_cons, List.map_nil, hs, hx, hrun]
 exact hK _ _ (h _ _ _ hown' hg)
theorem owns_move {w w1 : World} {base : Nat} {v : Value} {n : Nat} {xs : List Value} (h : w.ownsRow base 9 1 v n xs) (hm : ∀ k, v.ownBlock = some k → w1.heap[k]? = w.heap[k]?) : w1.ownsRow base 9 1 v n xs := by
 obtain ⟨h1, h2⟩ := h
 refine ⟨h1, ?_⟩
 rcases h2 with h2 | ⟨g, cap, cur, rfl, hg, hh, r⟩
 ·exact .inl h2
 ·exact .inr ⟨g, cap, cur, rfl, hg, (hm g (by simp [Value.ownBlock])).trans hh, r⟩
theorem names_own {w : World} {base : Nat} {v : Value} {p : ByteArray} (h : w.ownsRow base 9 1 v (partsL p).length (strs (partsL p))) : w.ownsRow base 9 1 v (namesL p).length ((namesL p).map Value.string) := by
 have e : (namesL p).map Value.string = strs (partsL p) := by unfold namesL strs; rw [List.map_map]; rfl
 have e2 : (namesL p).length = (partsL p).length := by unfold namesL; simp
 rw [e, e2]; exact h
end Go.Proofs.YthagmakojbfmaaaDoor.Ext
