/- flagstoneref06.right: it comes to an end; what is so where it says yes. -/
import Derived.Test.YthagmakojbfmaaaDoorSrt
set_option linter.unusedVariables false
set_option linter.unusedSimpArgs false
namespace Go.Proofs.YthagmakojbfmaaaDoor.Ext
open Go Go.RowKit Go.Proofs.YthagmakojbfmaaaDoor Go.Proofs.YthagmakojbfmaaaDoorW.PrintWords Go.Proofs.YthagmakojbfmaaaDoor.Pright
def R54 (w : World) (A : Option Addr) (es : List S54) : Prop := Kd.C k54 w A es.length es
theorem R54.step {w w1 : World} {A : Option Addr} {es : List S54} (h : R54 w A es) (hb : Below w.heap.size w w1) : R54 w1 A es := Kd.C_below h hb
def R80 (w : World) (A : Option Addr) (es : List S80) : Prop := Kd.C k80 w A es.length es
theorem R80.step {w w1 : World} {A : Option Addr} {es : List S80} (h : R80 w A es) (hb : Below w.heap.size w w1) : R80 w1 A es := Kd.C_below h hb
def node54 (n : S54) (A7 : Option Addr) (c7 : Nat) : Value := .agg #[.int .i64 n.f0, .int .i64 n.f1, .int .i64 n.f2, .int .i64 n.f3, .int .i64 n.f4, .int .i64 n.f5, .string n.f6, .slice A7 n.f7.length c7]
def isB (es : List S54) (i : Int) : Bool := decide (0 ≤ i ∧ i < es.length ∧ (rd_T54 es i).f0 ≠ 0)
theorem rget_calls (A : Option Addr) (c : Nat) (es : List S54) (m r i : Int) (w : World) (hr : R54 w A es) (hc : es.length ≤ c) :
  Calls Tryd.prog 28 #[.agg #[.slice A es.length c, .int .i64 m, .int .i64 r], .int .i64 i] w fun e w' => ∃ n A7 c7, e = .returned (.tuple #[node54 n A7 c7, .bool (isB es i)]) ∧ Below w.heap.size w w' := by
 obtain ⟨⟨y0, y1, y2, y3, y4, y5, y6, y7, y8⟩, hy, h1, _⟩ := get_f m r i es
 have hV : Kd.V k54 54 w w.heap.size (fun k => k < w.heap.size) (.slice A es.length c) es := ⟨A, c, rfl, hc, Kd.C_F k54_heap hr⟩
 refine (flagstoneref06_Get.calls _ A c es m r i _ _ _ _ _ _ _ _ _ w hV hy).mono ?_
 rintro e w' ⟨v, rfl, hv, hb⟩
 obtain ⟨A7, c7, rfl, _⟩ := hv
 refine ⟨⟨y0, y1, y2, y3, y4, y5, y6, y7⟩, A7, c7, ?_, hb⟩
 have e8 : y8 = isB es i := by
  rw [Bool.eq_iff_iff]
  unfold isB
  simp only [decide_eq_true_eq]
  exact h1
 rw [e8]; rfl
def InosTo (es : List S54) (ns : List S80) (x : Int) : Prop := ∀ j : Int, 0 ≤ j → j < x → isB es (rd_T80 ns j).f1 = true
def NodeOk (es : List S54) (nd : S54) : Prop := nd.f0 ≠ 0 → Adj nd.f7 nd.f7.length ∧ InosTo es nd.f7 nd.f7.length ∧ (nd.f0 = 2 → 0 ≤ nd.f5 ∧ nd.f5 < es.length)
def RgtR (es : List S54) (nd : S54) (w : World) (e : Ending) (w' : World) : Prop := ∃ b, e = .returned (.bool b) ∧ Below w.heap.size w w' ∧ (b = true → NodeOk es nd)
def Snc (w v : World) : Prop := Below w.heap.size w v
theorem Snc.refl (w : World) : Snc w w := Below.refl _ _
theorem Snc.step {w v u : World} (h : Snc w v) (hb : Below v.heap.size v u) : Snc w u := Below.trans h (hb.mono (Below.size h))
theorem lift1 {w : World} {a : Addr} {v : Value} (o : Obj) (h : w.cell? a = some v) : (w.alloc o).cell? a = some v := by rw [World.cell?_alloc_some w a _ (by rw [h]; rfl)]; exact h
theorem cell_call {W w1 : World} (hb : Below W.heap.size W w1) {a : Addr} {v : Value} (h : W.cell? a = some v) : w1.cell? a = some v := by
 have hh := hb.block a.block (World.block_lt_of_cell? W a h)
 unfold World.cell? at h ⊢
 rw [hh]; exact h
theorem keepX {W w1 : World} (hb : Below W.heap.size W w1) {b1 b2 : Nat} {c1 c2 : Array Value} {a : Addr} {v : Value} (h : ((isRow W b1 = true ∧ isRow W b2 = true) ∧ row W b1 = c1 ∧ row W b2 = c2) ∧ W.cell? a = some v) : ((isRow w1 b1 = true ∧ isRow w1 b2 = true) ∧ row w1 b1 = c1 ∧ row w1 b2 = c2) ∧ w1.cell? a = some v := by
 obtain ⟨⟨⟨i1, i2⟩, r1, r2⟩, h⟩ := h
 exact ⟨⟨⟨isRow_call hb i1, isRow_call hb i2⟩, row_call hb i1 r1, row_call hb i2 r2⟩, cell_call hb h⟩
attribute [local go_sem] isRow_drew row_drew isRow_drewN row_drewN cell_isRow rowSz_isRow isHead_ptr blockOf_ptr row_alloc isRow_alloc rowSz_alloc setRow_alloc isRow_setRow isRow_setCell isRow_frozen setCell_setRow_same setCell_setRow_other cell_setRow_same' cell_setRow_other' frozen_setRow' row_setRow_same row_setRow_other rowSz_setRow_same rowSz_setRow_other setRow_setRow_same' setRow_comm' ne_l2 ne_r2 ne_l3 ne_r3 ne_l4 ne_r4 ne_l5 ne_r5 ne_l6 ne_r6 ne_l7 ne_r7 ne_l8 ne_r8
theorem ldx_54 {ρ : Operand → Value} {dst : Option Tmp} {tt : TypeId} {pos : String} {after : Array Edge} {gd : Option (Nat × Bool)} {x : Operand} {w : World} (h1 : isHead (ρ x) = true) (h2 : rowSz w (blockOf (ρ x)) 8 = true) : (execOp ρ { dst := dst, op := .load 54 x, type := tt, pos := pos, after := after, guard := gd }).run Tryd.prog w = .ok (.value (.agg (row w (blockOf (ρ x))))) w := ld_exec 54 8 Tryd.underlying54 (by kernel_rfl) h1 h2
attribute [local go_sem ↓] ldx_54
theorem ldx_37 {ρ : Operand → Value} {dst : Option Tmp} {tt : TypeId} {pos : String} {after : Array Edge} {gd : Option (Nat × Bool)} {x : Operand} {w : World} (h1 : isHead (ρ x) = true) (h2 : rowSz w (blockOf (ρ x)) 3 = true) : (execOp ρ { dst := dst, op := .load 37 x, type := tt, pos := pos, after := after, guard := gd }).run Tryd.prog w = .ok (.value (.agg (row w (blockOf (ρ x))))) w := ld_exec 37 3 Tryd.underlying37 (by kernel_rfl) h1 h2
attribute [local go_sem ↓] ldx_37
attribute [local go_sem ↓] Go.wp_at_zero Go.wp_at_succ
set_option maxRecDepth 100000 in
set_option maxHeartbeats 8000000 in
theorem right_0 (A : Option Addr) (c : Nat) (es : List S54) (m r i : Int) (w : World) (nd : S54) (hnd : rd_T54 es i = nd) (hr : R54 w A es) (hc : es.length ≤ c) (hl : es.length ≤ 100) (hn : ∀ x, x ∈ es → x.f7.length ≤ 60) (hs : ∀ j, (rd_T80 nd.f7 j).f0.size ≤ 1000000000000000) (hi : 0 ≤ i ∧ i < es.length) (k0 : nd.f0 = 0) (yy : Bool) (hY : (flagstoneref06_Alike.f 1000 nd.f0 nd.f1 nd.f2 nd.f3 nd.f4 nd.f5 nd.f6 nd.f7 0 0 0 0 0 0 ⟨#[]⟩ [] = some yy)) :
  Calls Tryd.prog 33 #[.agg #[.slice A es.length c, .int .i64 m, .int .i64 r], .int .i64 i] w (RgtR es nd w) := by
 have HK0 := Lib.hid k0
 have HY := Lib.hid hY
 clear k0 hY
 have HD0 := Lib.hid (And.intro hnd (And.intro hc (And.intro hl (And.intro hn (And.intro hs hi)))))
 have HR := Lib.hid hr
 clear hnd hr hc hl hn hs
 have hi0 : (0 ≤ i) = True := eq_true hi.1
 have hi1 : (i < (es.length : Int)) = True := eq_true hi.2
 clear hi
 have f0 : (nd.f0 == 0) = true := by simpa using HK0.out
 obtain ⟨ad, A7, c7, eA, x0, x1, x2, x3, x4, x5, x6, x7, hc7, hC⟩ := at_T54 HR.out i HD0.out.2.2.2.2.2.1 HD0.out.2.2.2.2.2.2
 rw [HD0.out.1] at x0 x1 x2 x3 x4 x5 x6 x7 hc7 hC
 cases eA
 have HE := Lib.hid (show R80 _ A7 nd.f7 from hC)
 have HC7 := Lib.hid hc7
 clear hC hc7
 replace x0 := lift1 (.cells #[.slice (some ad) es.length c, .int .i64 m, .int .i64 r] 37) x0
 replace x1 := lift1 (.cells #[.slice (some ad) es.length c, .int .i64 m, .int .i64 r] 37) x1
 replace x2 := lift1 (.cells #[.slice (some ad) es.length c, .int .i64 m, .int .i64 r] 37) x2
 replace x3 := lift1 (.cells #[.slice (some ad) es.length c, .int .i64 m, .int .i64 r] 37) x3
 replace x4 := lift1 (.cells #[.slice (some ad) es.length c, .int .i64 m, .int .i64 r] 37) x4
 replace x5 := lift1 (.cells #[.slice (some ad) es.length c, .int .i64 m, .int .i64 r] 37) x5
 replace x6 := lift1 (.cells #[.slice (some ad) es.length c, .int .i64 m, .int .i64 r] 37) x6
 replace x7 := lift1 (.cells #[.slice (some ad) es.length c, .int .i64 m, .int .i64 r] 37) x7
 go_enter Tryd.func33, Tryd.ntmps33
 go_wp2_with (first | go_skip | (apply st_row 54 8; (focus rfl); (focus rfl); (focus go_simp); (focus kernel_rfl); (focus rfl); (focus (simp [Value.oneCell']; done))))
 refine Calls.at_ fun W hW => ?_
 have B0 : Below w.heap.size w W := by rw [hW]; repeat' (first | with_reducible refine Below.alloc ?_ ?_ _ | with_reducible refine Below.setRow_ ?_ ?_ _ | with_reducible refine Below.setCell ?_ ?_ _ | with_reducible refine Below.drew ?_ | with_reducible refine Below.drewN_ ?_ _ | with_reducible exact Below.refl _ _ | assumption | (simp; done) | (simp; omega) | omega)
 have Ydk : Box W (w.heap.size) #[.slice (some ad) es.length c, .int .i64 m, .int .i64 r] := ⟨_, by rw [hW]; exact blk_old (blk_new _ (by first | rfl | simp)) _⟩
 have Ynx : Box W (w.heap.size + 1) #[.int .i64 nd.f0, .int .i64 nd.f1, .int .i64 nd.f2, .int .i64 nd.f3, .int .i64 nd.f4, .int .i64 nd.f5, .string nd.f6, .slice A7 nd.f7.length c7] := ⟨_, by rw [hW]; exact blk_new _ (by first | rfl | simp)⟩
 clear hW
 refine (flagstoneref06_Alike.calls 1000 _ _ _ _ _ _ _ A7 c7 nd.f7 0 0 0 0 0 0 ⟨#[]⟩ none 0 [] yy W (HE.out.step B0) HC7.out (Kd.C_nil _ _) (Nat.le_refl _) HY.out).mono ?_
 rintro e w1 h
 have h' := h
 obtain ⟨rfl, hb⟩ := h'
 have C := B0.trans (hb.mono B0.size)
 have BB := Lib.hid C
 replace HR := Lib.hid (HR.out.step C)
 replace HE := Lib.hid (HE.out.step C)
 have Hdk := Lib.hid (Ydk.step hb)
 have Hnx := Lib.hid (Ynx.step hb)
 obtain ⟨bnx, hbnx⟩ : ∃ b, b = w.heap.size + 1 := ⟨_, rfl⟩
 rw [← hbnx] at Hnx ⊢
 obtain ⟨bdk, hbdk⟩ : ∃ b, b = w.heap.size := ⟨_, rfl⟩
 rw [← hbdk] at Hdk ⊢
 clear Ydk hbdk Ynx hbnx
 obtain ⟨idk, rdk, ldk, ndk, mdk⟩ := boxAll Hdk.out
 obtain ⟨inx, rnx, lnx, nnx, mnx⟩ := boxAll Hnx.out
 clear h hb C B0 W
 go_wp2_with (first | go_skip | (apply st_row 54 8; (focus rfl); (focus rfl); (focus go_simp); (focus kernel_rfl); (focus rfl); (focus (simp [Value.oneCell']; done))))
 go_ret
 refine ⟨yy, rfl, ?_, fun _ h => absurd HK0.out h⟩
 try have BB1 := BB.out
 repeat' (first | assumption | exact Below.refl _ _ | with_reducible refine Below.alloc ?_ ?_ _ | with_reducible refine Below.setRow_ ?_ ?_ _ | exact BB.out | exact BB.out.size | omega | (simp; done) | (simp; omega) | (have := BB.out.size; simp; omega))
set_option maxRecDepth 100000 in
set_option maxHeartbeats 8000000 in
theorem right_1 (A : Option Addr) (c : Nat) (es : List S54) (m r i : Int) (w : World) (nd : S54) (hnd : rd_T54 es i = nd) (hr : R54 w A es) (hc : es.length ≤ c) (hl : es.length ≤ 100) (hn : ∀ x, x ∈ es → x.f7.length ≤ 60) (hs : ∀ j, (rd_T80 nd.f7 j).f0.size ≤ 1000000000000000) (hi : 0 ≤ i ∧ i < es.length) (k0 : ¬ nd.f0 = 0)  (a1 : nd.f0 < 1) :
  Calls Tryd.prog 33 #[.agg #[.slice A es.length c, .int .i64 m, .int .i64 r], .int .i64 i] w (RgtR es nd w) := by
 have HD0 := Lib.hid (And.intro hnd (And.intro hc (And.intro hl (And.intro hn (And.intro hs hi)))))
 have HR := Lib.hid hr
 clear hnd hr hc hl hn hs
 have hi0 : (0 ≤ i) = True := eq_true hi.1
 have hi1 : (i < (es.length : Int)) = True := eq_true hi.2
 clear hi
 have f0 : (nd.f0 == 0) = false := by simpa using k0
 have a1d : decide (nd.f0 < 1) = true := decide_eq_true a1
 clear k0 a1
 obtain ⟨ad, A7, c7, eA, x0, x1, x2, x3, x4, x5, x6, x7, hc7, hC⟩ := at_T54 HR.out i HD0.out.2.2.2.2.2.1 HD0.out.2.2.2.2.2.2
 rw [HD0.out.1] at x0 x1 x2 x3 x4 x5 x6 x7 hc7 hC
 cases eA
 have HE := Lib.hid (show R80 _ A7 nd.f7 from hC)
 have HC7 := Lib.hid hc7
 clear hC hc7
 replace x0 := lift1 (.cells #[.slice (some ad) es.length c, .int .i64 m, .int .i64 r] 37) x0
 replace x1 := lift1 (.cells #[.slice (some ad) es.length c, .int .i64 m, .int .i64 r] 37) x1
 replace x2 := lift1 (.cells #[.slice (some ad) es.length c, .int .i64 m, .int .i64 r] 37) x2
 replace x3 := lift1 (.cells #[.slice (some ad) es.length c, .int .i64 m, .int .i64 r] 37) x3
 replace x4 := lift1 (.cells #[.slice (some ad) es.length c, .int .i64 m, .int .i64 r] 37) x4
 replace x5 := lift1 (.cells #[.slice (some ad) es.length c, .int .i64 m, .int .i64 r] 37) x5
 replace x6 := lift1 (.cells #[.slice (some ad) es.length c, .int .i64 m, .int .i64 r] 37) x6
 replace x7 := lift1 (.cells #[.slice (some ad) es.length c, .int .i64 m, .int .i64 r] 37) x7
 go_enter Tryd.func33, Tryd.ntmps33
 go_wp2_with (first | go_skip | (apply st_row 54 8; (focus rfl); (focus rfl); (focus go_simp); (focus kernel_rfl); (focus rfl); (focus (simp [Value.oneCell']; done))))
 go_ret
 refine ⟨false, rfl, ?_, fun h => by cases h⟩
 try have BB1 := BB.out
 repeat' (first | assumption | exact Below.refl _ _ | with_reducible refine Below.alloc ?_ ?_ _ | with_reducible refine Below.setRow_ ?_ ?_ _ | exact BB.out | exact BB.out.size | omega | (simp; done) | (simp; omega) | (have := BB.out.size; simp; omega))
set_option maxRecDepth 100000 in
set_option maxHeartbeats 8000000 in
theorem right_2 (A : Option Addr) (c : Nat) (es : List S54) (m r i : Int) (w : World) (nd : S54) (hnd : rd_T54 es i = nd) (hr : R54 w A es) (hc : es.length ≤ c) (hl : es.length ≤ 100) (hn : ∀ x, x ∈ es → x.f7.length ≤ 60) (hs : ∀ j, (rd_T80 nd.f7 j).f0.size ≤ 1000000000000000) (hi : 0 ≤ i ∧ i < es.length) (k0 : ¬ nd.f0 = 0) (a1 : ¬ nd.f0 < 1) (a2 : 3 < nd.f0) :
  Calls Tryd.prog 33 #[.agg #[.slice A es.length c, .int .i64 m, .int .i64 r], .int .i64 i] w (RgtR es nd w) := by
 have HD0 := Lib.hid (And.intro hnd (And.intro hc (And.intro hl (And.intro hn (And.intro hs hi)))))
 have HR := Lib.hid hr
 clear hnd hr hc hl hn hs
 have hi0 : (0 ≤ i) = True := eq_true hi.1
 have hi1 : (i < (es.length : Int)) = True := eq_true hi.2
 clear hi
 have f0 : (nd.f0 == 0) = false := by simpa using k0
 have a1d : decide (nd.f0 < 1) = false := decide_eq_false a1
 have a2d : decide (3 < nd.f0) = true := decide_eq_true a2
 clear k0 a1 a2
 obtain ⟨ad, A7, c7, eA, x0, x1, x2, x3, x4, x5, x6, x7, hc7, hC⟩ := at_T54 HR.out i HD0.out.2.2.2.2.2.1 HD0.out.2.2.2.2.2.2
 rw [HD0.out.1] at x0 x1 x2 x3 x4 x5 x6 x7 hc7 hC
 cases eA
 have HE := Lib.hid (show R80 _ A7 nd.f7 from hC)
 have HC7 := Lib.hid hc7
 clear hC hc7
 replace x0 := lift1 (.cells #[.slice (some ad) es.length c, .int .i64 m, .int .i64 r] 37) x0
 replace x1 := lift1 (.cells #[.slice (some ad) es.length c, .int .i64 m, .int .i64 r] 37) x1
 replace x2 := lift1 (.cells #[.slice (some ad) es.length c, .int .i64 m, .int .i64 r] 37) x2
 replace x3 := lift1 (.cells #[.slice (some ad) es.length c, .int .i64 m, .int .i64 r] 37) x3
 replace x4 := lift1 (.cells #[.slice (some ad) es.length c, .int .i64 m, .int .i64 r] 37) x4
 replace x5 := lift1 (.cells #[.slice (some ad) es.length c, .int .i64 m, .int .i64 r] 37) x5
 replace x6 := lift1 (.cells #[.slice (some ad) es.length c, .int .i64 m, .int .i64 r] 37) x6
 replace x7 := lift1 (.cells #[.slice (some ad) es.length c, .int .i64 m, .int .i64 r] 37) x7
 go_enter Tryd.func33, Tryd.ntmps33
 go_wp2_with (first | go_skip | (apply st_row 54 8; (focus rfl); (focus rfl); (focus go_simp); (focus kernel_rfl); (focus rfl); (focus (simp [Value.oneCell']; done))))
 go_ret
 refine ⟨false, rfl, ?_, fun h => by cases h⟩
 try have BB1 := BB.out
 repeat' (first | assumption | exact Below.refl _ _ | with_reducible refine Below.alloc ?_ ?_ _ | with_reducible refine Below.setRow_ ?_ ?_ _ | exact BB.out | exact BB.out.size | omega | (simp; done) | (simp; omega) | (have := BB.out.size; simp; omega))
set_option maxRecDepth 100000 in
set_option maxHeartbeats 8000000 in
theorem right_3 (A : Option Addr) (c : Nat) (es : List S54) (m r i : Int) (w : World) (nd : S54) (hnd : rd_T54 es i = nd) (hr : R54 w A es) (hc : es.length ≤ c) (hl : es.length ≤ 100) (hn : ∀ x, x ∈ es → x.f7.length ≤ 60) (hs : ∀ j, (rd_T80 nd.f7 j).f0.size ≤ 1000000000000000) (hi : 0 ≤ i ∧ i < es.length) (k0 : ¬ nd.f0 = 0) (a1 : ¬ nd.f0 < 1) (a2 : ¬ 3 < nd.f0) (a3 : nd.f1 < 0) :
  Calls Tryd.prog 33 #[.agg #[.slice A es.length c, .int .i64 m, .int .i64 r], .int .i64 i] w (RgtR es nd w) := by
 have HD0 := Lib.hid (And.intro hnd (And.intro hc (And.intro hl (And.intro hn (And.intro hs hi)))))
 have HR := Lib.hid hr
 clear hnd hr hc hl hn hs
 have hi0 : (0 ≤ i) = True := eq_true hi.1
 have hi1 : (i < (es.length : Int)) = True := eq_true hi.2
 clear hi
 have f0 : (nd.f0 == 0) = false := by simpa using k0
 have a1d : decide (nd.f0 < 1) = false := decide_eq_false a1
 have a2d : decide (3 < nd.f0) = false := decide_eq_false a2
 have a3d : decide (nd.f1 < 0) = true := decide_eq_true a3
 clear k0 a1 a2 a3
 obtain ⟨ad, A7, c7, eA, x0, x1, x2, x3, x4, x5, x6, x7, hc7, hC⟩ := at_T54 HR.out i HD0.out.2.2.2.2.2.1 HD0.out.2.2.2.2.2.2
 rw [HD0.out.1] at x0 x1 x2 x3 x4 x5 x6 x7 hc7 hC
 cases eA
 have HE := Lib.hid (show R80 _ A7 nd.f7 from hC)
 have HC7 := Lib.hid hc7
 clear hC hc7
 replace x0 := lift1 (.cells #[.slice (some ad) es.length c, .int .i64 m, .int .i64 r] 37) x0
 replace x1 := lift1 (.cells #[.slice (some ad) es.length c, .int .i64 m, .int .i64 r] 37) x1
 replace x2 := lift1 (.cells #[.slice (some ad) es.length c, .int .i64 m, .int .i64 r] 37) x2
 replace x3 := lift1 (.cells #[.slice (some ad) es.length c, .int .i64 m, .int .i64 r] 37) x3
 replace x4 := lift1 (.cells #[.slice (some ad) es.length c, .int .i64 m, .int .i64 r] 37) x4
 replace x5 := lift1 (.cells #[.slice (some ad) es.length c, .int .i64 m, .int .i64 r] 37) x5
 replace x6 := lift1 (.cells #[.slice (some ad) es.length c, .int .i64 m, .int .i64 r] 37) x6
 replace x7 := lift1 (.cells #[.slice (some ad) es.length c, .int .i64 m, .int .i64 r] 37) x7
 go_enter Tryd.func33, Tryd.ntmps33
 go_wp2_with (first | go_skip | (apply st_row 54 8; (focus rfl); (focus rfl); (focus go_simp); (focus kernel_rfl); (focus rfl); (focus (simp [Value.oneCell']; done))))
 go_ret
 refine ⟨false, rfl, ?_, fun h => by cases h⟩
 try have BB1 := BB.out
 repeat' (first | assumption | exact Below.refl _ _ | with_reducible refine Below.alloc ?_ ?_ _ | with_reducible refine Below.setRow_ ?_ ?_ _ | exact BB.out | exact BB.out.size | omega | (simp; done) | (simp; omega) | (have := BB.out.size; simp; omega))
set_option maxRecDepth 100000 in
set_option maxHeartbeats 8000000 in
theorem right_4 (A : Option Addr) (c : Nat) (es : List S54) (m r i : Int) (w : World) (nd : S54) (hnd : rd_T54 es i = nd) (hr : R54 w A es) (hc : es.length ≤ c) (hl : es.length ≤ 100) (hn : ∀ x, x ∈ es → x.f7.length ≤ 60) (hs : ∀ j, (rd_T80 nd.f7 j).f0.size ≤ 1000000000000000) (hi : 0 ≤ i ∧ i < es.length) (k0 : ¬ nd.f0 = 0) (a1 : ¬ nd.f0 < 1) (a2 : ¬ 3 < nd.f0) (a3 : ¬ nd.f1 < 0) (a4 : 63 < nd.f1) :
  Calls Tryd.prog 33 #[.agg #[.slice A es.length c, .int .i64 m, .int .i64 r], .int .i64 i] w (RgtR es nd w) := by
 have HD0 := Lib.hid (And.intro hnd (And.intro hc (And.intro hl (And.intro hn (And.intro hs hi)))))
 have HR := Lib.hid hr
 clear hnd hr hc hl hn hs
 have hi0 : (0 ≤ i) = True := eq_true hi.1
 have hi1 : (i < (es.length : Int)) = True := eq_true hi.2
 clear hi
 have f0 : (nd.f0 == 0) = false := by simpa using k0
 have a1d : decide (nd.f0 < 1) = false := decide_eq_false a1
 have a2d : decide (3 < nd.f0) = false := decide_eq_false a2
 have a3d : decide (nd.f1 < 0) = false := decide_eq_false a3
 have a4d : decide (63 < nd.f1) = true := decide_eq_true a4
 clear k0 a1 a2 a3 a4
 obtain ⟨ad, A7, c7, eA, x0, x1, x2, x3, x4, x5, x6, x7, hc7, hC⟩ := at_T54 HR.out i HD0.out.2.2.2.2.2.1 HD0.out.2.2.2.2.2.2
 rw [HD0.out.1] at x0 x1 x2 x3 x4 x5 x6 x7 hc7 hC
 cases eA
 have HE := Lib.hid (show R80 _ A7 nd.f7 from hC)
 have HC7 := Lib.hid hc7
 clear hC hc7
 replace x0 := lift1 (.cells #[.slice (some ad) es.length c, .int .i64 m, .int .i64 r] 37) x0
 replace x1 := lift1 (.cells #[.slice (some ad) es.length c, .int .i64 m, .int .i64 r] 37) x1
 replace x2 := lift1 (.cells #[.slice (some ad) es.length c, .int .i64 m, .int .i64 r] 37) x2
 replace x3 := lift1 (.cells #[.slice (some ad) es.length c, .int .i64 m, .int .i64 r] 37) x3
 replace x4 := lift1 (.cells #[.slice (some ad) es.length c, .int .i64 m, .int .i64 r] 37) x4
 replace x5 := lift1 (.cells #[.slice (some ad) es.length c, .int .i64 m, .int .i64 r] 37) x5
 replace x6 := lift1 (.cells #[.slice (some ad) es.length c, .int .i64 m, .int .i64 r] 37) x6
 replace x7 := lift1 (.cells #[.slice (some ad) es.length c, .int .i64 m, .int .i64 r] 37) x7
 go_enter Tryd.func33, Tryd.ntmps33
 go_wp2_with (first | go_skip | (apply st_row 54 8; (focus rfl); (focus rfl); (focus go_simp); (focus kernel_rfl); (focus rfl); (focus (simp [Value.oneCell']; done))))
 go_ret
 refine ⟨false, rfl, ?_, fun h => by cases h⟩
 try have BB1 := BB.out
 repeat' (first | assumption | exact Below.refl _ _ | with_reducible refine Below.alloc ?_ ?_ _ | with_reducible refine Below.setRow_ ?_ ?_ _ | exact BB.out | exact BB.out.size | omega | (simp; done) | (simp; omega) | (have := BB.out.size; simp; omega))
set_option maxRecDepth 100000 in
set_option maxHeartbeats 8000000 in
theorem right_5 (A : Option Addr) (c : Nat) (es : List S54) (m r i : Int) (w : World) (nd : S54) (hnd : rd_T54 es i = nd) (hr : R54 w A es) (hc : es.length ≤ c) (hl : es.length ≤ 100) (hn : ∀ x, x ∈ es → x.f7.length ≤ 60) (hs : ∀ j, (rd_T80 nd.f7 j).f0.size ≤ 1000000000000000) (hi : 0 ≤ i ∧ i < es.length) (k0 : ¬ nd.f0 = 0) (a1 : ¬ nd.f0 < 1) (a2 : ¬ 3 < nd.f0) (a3 : ¬ nd.f1 < 0) (a4 : ¬ 63 < nd.f1) (a5 : nd.f4 < 0) :
  Calls Tryd.prog 33 #[.agg #[.slice A es.length c, .int .i64 m, .int .i64 r], .int .i64 i] w (RgtR es nd w) := by
 have HD0 := Lib.hid (And.intro hnd (And.intro hc (And.intro hl (And.intro hn (And.intro hs hi)))))
 have HR := Lib.hid hr
 clear hnd hr hc hl hn hs
 have hi0 : (0 ≤ i) = True := eq_true hi.1
 have hi1 : (i < (es.length : Int)) = True := eq_true hi.2
 clear hi
 have f0 : (nd.f0 == 0) = false := by simpa using k0
 have a1d : decide (nd.f0 < 1) = false := decide_eq_false a1
 have a2d : decide (3 < nd.f0) = false := decide_eq_false a2
 have a3d : decide (nd.f1 < 0) = false := decide_eq_false a3
 have a4d : decide (63 < nd.f1) = false := decide_eq_false a4
 have a5d : decide (nd.f4 < 0) = true := decide_eq_true a5
 clear k0 a1 a2 a3 a4 a5
 obtain ⟨ad, A7, c7, eA, x0, x1, x2, x3, x4, x5, x6, x7, hc7, hC⟩ := at_T54 HR.out i HD0.out.2.2.2.2.2.1 HD0.out.2.2.2.2.2.2
 rw [HD0.out.1] at x0 x1 x2 x3 x4 x5 x6 x7 hc7 hC
 cases eA
 have HE := Lib.hid (show R80 _ A7 nd.f7 from hC)
 have HC7 := Lib.hid hc7
 clear hC hc7
 replace x0 := lift1 (.cells #[.slice (some ad) es.length c, .int .i64 m, .int .i64 r] 37) x0
 replace x1 := lift1 (.cells #[.slice (some ad) es.length c, .int .i64 m, .int .i64 r] 37) x1
 replace x2 := lift1 (.cells #[.slice (some ad) es.length c, .int .i64 m, .int .i64 r] 37) x2
 replace x3 := lift1 (.cells #[.slice (some ad) es.length c, .int .i64 m, .int .i64 r] 37) x3
 replace x4 := lift1 (.cells #[.slice (some ad) es.length c, .int .i64 m, .int .i64 r] 37) x4
 replace x5 := lift1 (.cells #[.slice (some ad) es.length c, .int .i64 m, .int .i64 r] 37) x5
 replace x6 := lift1 (.cells #[.slice (some ad) es.length c, .int .i64 m, .int .i64 r] 37) x6
 replace x7 := lift1 (.cells #[.slice (some ad) es.length c, .int .i64 m, .int .i64 r] 37) x7
 go_enter Tryd.func33, Tryd.ntmps33
 go_wp2_with (first | go_skip | (apply st_row 54 8; (focus rfl); (focus rfl); (focus go_simp); (focus kernel_rfl); (focus rfl); (focus (simp [Value.oneCell']; done))))
 go_ret
 refine ⟨false, rfl, ?_, fun h => by cases h⟩
 try have BB1 := BB.out
 repeat' (first | assumption | exact Below.refl _ _ | with_reducible refine Below.alloc ?_ ?_ _ | with_reducible refine Below.setRow_ ?_ ?_ _ | exact BB.out | exact BB.out.size | omega | (simp; done) | (simp; omega) | (have := BB.out.size; simp; omega))
end Go.Proofs.YthagmakojbfmaaaDoor.Ext
