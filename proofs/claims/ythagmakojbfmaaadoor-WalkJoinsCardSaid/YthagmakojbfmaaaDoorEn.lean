/- The walker: the end of the way. -/
import Derived.Test.YthagmakojbfmaaaDoorHr
set_option linter.unusedVariables false
set_option linter.unusedSimpArgs false
namespace Go.Proofs.YthagmakojbfmaaaDoor.Ext
open Go Go.RowKit Go.Proofs.YthagmakojbfmaaaDoor Go.Proofs.YthagmakojbfmaaaDoorW.PrintWords
def Wk.ended (k : Wk) (s : S28) : Wk := { k with dir := s.f0, name := s.f1, ino := s.f2, slashed := s.f3, over := true }
def Wb (w : World) (b : Nat) (k : Wk) (A : Option Addr) (c n : Nat) (m r : Int) : Prop := w.heap[b]? = some (.cells (k.cells A c n m r) 62 (0, 0))
theorem Wb.box {w : World} {b : Nat} {k : Wk} {A : Option Addr} {c n : Nat} {m r : Int} (h : Wb w b k A c n m r) : Box w b (k.cells A c n m r) := ⟨_, h⟩
theorem Wb.step {w w1 : World} {b : Nat} {k : Wk} {A : Option Addr} {c n : Nat} {m r : Int} (h : Wb w b k A c n m r) (hb : Below w.heap.size w w1) : Wb w1 b k A c n m r := blk_call hb h
theorem end2_calls (k : Wk) (A : Option Addr) (c n : Nat) (m r : Int) (bk : Nat) (s : S28) (w : World) (hk : Wb w bk k A c n m r) :
  Calls Tryd.prog 39 #[.pointer (some ⟨bk, 0, none⟩), .agg #[.int .i64 s.f0, .string s.f1, .int .i64 s.f2, .bool s.f3]] w fun e w' => e = .returned (.tuple #[]) ∧ Wb w' bk (k.ended s) A c n m r ∧ Gro (fun x => x = bk) w w' := by
 refine (end_calls k A c n m r bk s w hk).mono ?_
 rintro e w' ⟨he, h1, h2, h3, h4, h5, h6⟩
 exact ⟨he, h1, h3, h4, h5, by omega, h6⟩
end Go.Proofs.YthagmakojbfmaaaDoor.Ext
