/- disk.New(9, 9, 63). -/
import Derived.Test.YtpfbimkpcnnfkaaGreatDoorSyJ
set_option linter.unusedVariables false
set_option linter.unusedSimpArgs false
namespace Go.Proofs.YtpfbimkpcnnfkaaGreatDoor.Ext
open Go Go.RowKit Go.Proofs.YtpfbimkpcnnfkaaGreatDoor Go.Proofs.YtpfbimkpcnnfkaaGreatDoorW.PrintWords Go.Extern.Stop Go.Stop Go.Extern
set_option maxRecDepth 100000 in
set_option maxHeartbeats 8000000 in
theorem dnew_9 (w : World) : Calls Tryz.prog 40 #[.int .i64 9, .int .i64 9, .int .i64 63] w fun e w' => e = .returned (.agg #[.slice (some ⟨w.heap.size + 1 + 1 + 1 + 1, 0, none⟩) 1 1, .int .i64 9, .int .i64 9]) ∧
  w' = ((((w.alloc (.cells #[.slice (some ⟨w.heap.size + 1 + 1 + 1 + 1, 0, none⟩) 1 1, .int .i64 9, .int .i64 9] 24)).alloc (.cells #[.int .i64 9, .int .i64 1, .int .i64 100] 133)).alloc (.cells #[.int .i64 9, .int .i64 0, .int .i64 1000] 133)).alloc (.cells #[.int .i64 63, .int .i64 0, .int .i64 63] 133)).alloc
   (.cells #[.int .i64 2, .int .i64 63, .int .i64 0, .int .i64 1, .int .i64 0, .int .i64 0, .string { data := #[] }, .slice none 0 0] 53) := by
 have i0 : ∀ w, (Instr.index 134 (.agg #[.int .i64 9, .int .i64 1, .int .i64 100, .int .i64 9, .int .i64 0, .int .i64 1000, .int .i64 63, .int .i64 0, .int .i64 63]) (.int .i64 0)).run Tryz.prog w = .ok (.agg #[.int .i64 9, .int .i64 1, .int .i64 100]) w := fun w => by kernel_rfl
 have i1 : ∀ w, (Instr.index 134 (.agg #[.int .i64 9, .int .i64 1, .int .i64 100, .int .i64 9, .int .i64 0, .int .i64 1000, .int .i64 63, .int .i64 0, .int .i64 63]) (.int .i64 1)).run Tryz.prog w = .ok (.agg #[.int .i64 9, .int .i64 0, .int .i64 1000]) w := fun w => by kernel_rfl
 have i2 : ∀ w, (Instr.index 134 (.agg #[.int .i64 9, .int .i64 1, .int .i64 100, .int .i64 9, .int .i64 0, .int .i64 1000, .int .i64 63, .int .i64 0, .int .i64 63]) (.int .i64 2)).run Tryz.prog w = .ok (.agg #[.int .i64 63, .int .i64 0, .int .i64 63]) w := fun w => by kernel_rfl
 go_enter Tryz.func40, Tryz.ntmps40
 go_wp2
 refine wp_loop_rounds 4 ?_
 rw [rounds_succ]
 go_wp2
 rw [rounds_succ]
 go_wp2
 rw [rounds_succ]
 go_wp2
 rw [rounds_succ]
 go_wp2
 refine bodyPost_ret_by (results_cell_row (cs := #[.slice (some ⟨w.heap.size + 1 + 1 + 1 + 1, 0, none⟩) 1 1, .int .i64 9, .int .i64 9]) (t := 24) (fr := (0, 0)) rfl _ _ w.heap.size _ rfl ?_ Tryz.underlying24 rfl (by kernel_rfl)) rfl ⟨rfl, rfl⟩
 simp only [World.alloc, Array.getElem?_push, Array.size_push]
 rw [if_neg (by omega), if_neg (by omega), if_neg (by omega), if_neg (by omega)]
 exact if_pos trivial
end Go.Proofs.YtpfbimkpcnnfkaaGreatDoor.Ext
