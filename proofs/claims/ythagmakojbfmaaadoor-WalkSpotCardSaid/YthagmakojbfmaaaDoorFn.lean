/- The document's Find, on names as they lie in a directory. -/
import Derived.Test.YthagmakojbfmaaaDoorRfN
import Derived.Test.YthagmakojbfmaaaDoorLq
set_option linter.unusedVariables false
set_option linter.unusedSimpArgs false
namespace Go.Proofs.YthagmakojbfmaaaDoor.Ext
open Go Go.RowKit Go.Proofs.YthagmakojbfmaaaDoor Go.Proofs.YthagmakojbfmaaaDoorW.PrintWords Go.Proofs.YthagmakojbfmaaaDoor.Pright
def CellIs (w : World) (a : Addr) (v : Value) : Prop := w.cell? a = some v
theorem CellIs.step {w w1 : World} {a : Addr} {v : Value} (h : CellIs w a v) (hb : Below w.heap.size w w1) : CellIs w1 a v := cell_call hb h
theorem field37 (c0 c1 c2 : Value) (w : World) : (Instr.field 37 (.agg #[c0, c1, c2]) 0).run Tryd.prog w = .ok c0 w := by kernel_rfl
theorem find_loop (l : List S57) (name : ByteArray) (hl : l.length ≤ 60) : ∀ (j k i : Nat), i + j = l.length → j < k →
  flagstoneref05_Find.l0 k (l.map entC) name i = some (inoL (l.drop i) name, (findL (l.drop i) name).isSome) := by
 intro j
 induction j with
 | zero =>
  intro k i hi hk
  obtain ⟨k, rfl⟩ : ∃ q, k = q + 1 := ⟨k - 1, by omega⟩
  unfold flagstoneref05_Find.l0
  rw [if_neg (by rw [List.length_map]; omega), List.drop_eq_nil_of_le (by omega)]; rfl
 | succ j ih =>
  intro k i hi hk
  obtain ⟨k, rfl⟩ : ∃ q, k = q + 1 := ⟨k - 1, by omega⟩
  have hil : i < l.length := by omega
  unfold flagstoneref05_Find.l0
  rw [if_pos (by rw [List.length_map]; omega), if_pos (by omega), rd_map80, rd_T57_nat l i hil, List.drop_eq_getElem_cons hil]
  have e : (ord l[i] name == 0) = decide ((entC l[i]).f0.toList = name.toList) := by
   rw [Bool.eq_iff_iff, beq_iff_eq, decide_eq_true_iff, toList_data, toList_data]
   exact cmp_zero _ _
  by_cases h : (entC l[i]).f0.toList = name.toList
  ·have hf : findL (l[i] :: l.drop (i + 1)) name = some l[i] := by unfold findL; rw [List.find?_cons, e, decide_eq_true h]
   rw [if_pos h]
   unfold inoL; rw [hf]; rfl
  ·have hf : findL (l[i] :: l.drop (i + 1)) name = findL (l.drop (i + 1)) name := by unfold findL; rw [List.find?_cons, e, decide_eq_false h]
   rw [if_neg h, wrap_succ (by omega) (by omega), show ((i : Int) + 1) = ((i + 1 : Nat) : Int) by omega, ih k (i + 1) (by omega) (by omega)]
   unfold inoL; rw [hf]
theorem refFind (l : List S57) (name : ByteArray) (hl : l.length ≤ 60) : flagstoneref05_Find.f 1000 (l.map entC) name = some (inoL l name, (findL l name).isSome) :=
 find_loop l name hl l.length 1000 0 (by omega) (by omega)
end Go.Proofs.YthagmakojbfmaaaDoor.Ext
