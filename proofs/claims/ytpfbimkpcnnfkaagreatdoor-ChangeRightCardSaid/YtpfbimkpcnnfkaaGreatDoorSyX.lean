/- By Sx: the rows: who acts, as it comes in. -/
import Derived.Test.YtpfbimkpcnnfkaaGreatDoorSwS
import Derived.Lib.SmallJoins
import Derived.Deep.Slices
import Derived.Deep.Fields
import Derived.ChangeSame
import Derived.OpenShut
import Derived.SizedLaws
/- By Sx: the rows: what comes in as a disk reads as one. -/
set_option linter.unusedVariables false
set_option linter.unusedSimpArgs false
namespace Go.Proofs.YtpfbimkpcnnfkaaGreatDoor.Sx
open Go Go.Joins Go.ChangeShapes Go.WideShapes Go.RowKit Go.Deep Go.Proofs.YtpfbimkpcnnfkaaGreatDoor
def memOf (W : World) : Mem := fun b o => W.cell? ⟨b, o, none⟩
theorem sees_memOf (W : World) : Sees (memOf W) W := fun b o v h => h
theorem cell_spot {W : World} {a : Addr} {v : Value} (h : W.cell? a = some v) : a.spot = none := by
 unfold World.cell? at h
 split at h
 ·split at h
  ·cases h
  ·rename_i hs; simpa using hs
 ·cases h
def Wt {H : Type} (P : Program) (t : TypeId) (d : DataW H) : Prop := ∀ n ∈ d.weights P t, n ≤ reachBytes
section
variable {H : Type} {enc : TypeId × Value → H} {P : Program} {W : World} {spare : Nat → Bool} {held : Bool}
theorem weight_all {e : TypeId} : ∀ {l : List (DataW H)} {d : DataW H}, d ∈ l → ∀ n ∈ d.weights P e, n ∈ DataW.weightsAll P e l
 | a :: r, d, h, n, hn => by
  simp only [DataW.weightsAll, List.mem_append]
  rcases List.mem_cons.1 h with rfl | h
  ·exact .inl hn
  ·exact .inr (weight_all h n hn)
theorem Wt.string {t : TypeId} {s : ByteArray} (h : Wt P t (.lit (.string s.data.toList) : DataW H)) : s.size ≤ reachBytes := by
 have := h s.data.toList.length (by simp [DataW.weights])
 rwa [show s.data.toList.length = s.size by simp] at this
theorem Wt.field {t : TypeId} {fs : Array Field} (ht : P.underlying t = some (.struct fs)) {ps : List (DataW H)} (h : Wt P t (.agg ps)) {i : Nat} {f : Field} {d : DataW H} (hf : fs[i]? = some f) (hd : ps[i]? = some d) : Wt P f.type d := by
 intro n hn
 refine h n ?_
 simp only [DataW.weights, ht]
 exact DataW.weights_mem_each (j := i) (by simp [hf]) hd n hn
theorem list_of {α : Type} (n : Nat) (Q : Nat → α → Prop) (h : ∀ i, i < n → ∃ y, Q i y) : ∃ ys : List α, ys.length = n ∧ ∀ i, (hi : i < ys.length) → Q i (ys[i]'hi) := by
 induction n with
 | zero => exact ⟨[], rfl, fun i hi => by simp at hi⟩
 | succ n ih =>
  obtain ⟨ys, hl, hq⟩ := ih fun i hi => h i (by omega)
  obtain ⟨y, hy⟩ := h n (by omega)
  refine ⟨ys ++ [y], by simp [hl], fun i hi => ?_⟩
  rcases Nat.lt_or_ge i ys.length with h1 | h1
  ·rw [List.getElem_append_left h1]; exact hq i h1
  ·have : i = ys.length := by simp at hi; omega
   subst this
   simp only [List.getElem_append_right (Nat.le_refl _), Nat.sub_self, List.getElem_cons_zero]
   rw [hl]; exact hy
theorem reads_of {W : World} {a : Addr} {i : Nat} {cs : List Value} (hs : a.spot = none) (h : ∀ (j : Nat) u, cs[j]? = some u → W.cell? (a.add (i + j)) = some u) : Reads (memOf W) (some a) i cs := by
 obtain ⟨b, o, s⟩ := a
 have hs : s = none := hs
 subst hs
 refine ⟨b, o, rfl, fun j v hj => ?_⟩
 have := h j v hj
 rw [addr_add] at this
 rw [Nat.add_assoc]; exact this
theorem open_row {α : Type} {R : α → List Value → Prop} {G : α → Prop} {sz : Nat} {t e fuel : Nat} {cs : List Value} {x : DataW H × List MemPlace} (ht : P.underlying t = some (.slice e)) (hC : P.cellsOf e = sz) (hz : 0 < sz) (hB : 0 < P.bytesOf e)
  (he : ∀ n cs x, DataW.trod enc P W 0 spare held n e cs = some x → Wt P e x.1 → ∃ y, cs.length = sz ∧ R y cs ∧ G y) (h : DataW.trod enc P W 0 spare held fuel t cs = some x) (hw : Wt P t x.1) :
  ∃ (A : Option Addr) (xs : List α) (c : Nat), cs = [.slice A xs.length c] ∧ xs.length ≤ c ∧ xs.length ≤ reachBytes ∧ (∀ (i : Nat) y, xs[i]? = some y → ∃ cs', R y cs' ∧ Reads (memOf W) A (i * sz) cs') ∧ ∀ y ∈ xs, G y := by
 rcases open_slice ht h with ⟨rfl, _⟩ | ⟨a, len, cap, m, n, D, Pl, rfl, hb, hl, hm, hmm, hx, hi⟩
 ·exact ⟨none, [], 0, rfl, Nat.le_refl _, by simp, fun i y hy => by simp at hy, fun y hy => by cases hy⟩
 have hle : len ≤ m := by rw [hmm]; split <;> omega
 subst hx
 have hlen : len ≤ reachBytes := by
  have h1 := hw _ (by simp only [DataW.weights, ht]; exact List.mem_cons_self)
  simp only [List.length_map, List.length_range] at h1
  have h2 : len * 1 ≤ (len + (m - len)) * P.bytesOf e := Nat.mul_le_mul (by omega) hB
  omega
 obtain ⟨xs, hl2, hx⟩ := list_of len (fun i y => G y ∧ ∃ cs' : List Value, cs'.length = sz ∧ R y cs' ∧ ∀ (j : Nat) u, cs'[j]? = some u → W.cell? (a.add (i * sz + j)) = some u) (fun i hil => by
  obtain ⟨cs', hc, ht'⟩ := hi i (by omega)
  rw [hC] at hc
  obtain ⟨_, hcl, hat⟩ := World.cells?_some hc
  obtain ⟨y, h1, hy, hg⟩ := he _ _ _ ht' (fun n hn => hw n (by
   simp only [DataW.weights, ht, List.mem_cons, List.mem_append]
   refine .inr (.inl (weight_all (d := D i) ?_ n hn))
   exact List.mem_map.2 ⟨i, by simpa using hil, rfl⟩))
  refine ⟨y, hg, cs', h1, hy, fun j u hu => ?_⟩
  have hj : j < sz := by rw [← h1]; exact (List.getElem?_eq_some_iff.1 hu).1
  rw [← add_add, hat j hj, hu])
 subst hl2
 refine ⟨some a, xs, cap, rfl, hl, hlen, fun i y hy => ?_, fun y hy => ?_⟩
 ·obtain ⟨hj, rfl⟩ := List.getElem?_eq_some_iff.1 hy
  obtain ⟨_, cs', h1, h2, h3⟩ := hx i hj
  obtain ⟨_, cs0, g1, g2, g3⟩ := hx 0 (by omega)
  have g4 := g3 0 _ (List.getElem?_eq_getElem (by omega))
  rw [show 0 * sz + 0 = 0 by omega] at g4
  have g5 := cell_spot g4
  exact ⟨cs', h2, reads_of (by simpa [Addr.add] using g5) h3⟩
 ·obtain ⟨j, hj, rfl⟩ := List.getElem_of_mem hy
  exact (hx j hj).1
end
section
variable {H : Type} {enc : TypeId × Value → H} {W : World} {spare : Nat → Bool} {held : Bool}
def REn (e : En) (cs : List Value) : Prop := cs = [.string e.f0, .int .i64 e.f1]
def RNd (W : World) (n : Nd) (cs : List Value) : Prop := ∃ a7 c7, cs = cv K0 (n.row a7 c7) ∧ n.f7.length ≤ c7 ∧ EntAt (memOf W) a7 n.f7
def GE (e : En) : Prop := e.f0.size ≤ reachBytes
set_option maxRecDepth 100000 in
theorem entry_K (fuel : Nat) (cs : List Value) (x : DataW H × List MemPlace) (h : DataW.trod enc Tryz.prog W 0 spare held fuel 125 cs = some x) (hw : Wt Tryz.prog 125 x.1) : ∃ y : En, cs.length = 2 ∧ REn y cs ∧ GE y := by
 obtain ⟨xs, n, _, hx, hcl, hxl, hg⟩ := DataW.trod_struct Tryz.underlying125 h
 have hC : Tryz.prog.cellsOf 125 = 2 := by kernel_rfl
 rw [hC] at hcl
 have k_int : Tryz.prog.cellsOf 3 = 1 := by kernel_rfl
 have k_str : Tryz.prog.cellsOf 9 = 1 := by kernel_rfl
 match cs, hcl with
 | [c0, c1], _ =>
  have q0 := hg 0 _ rfl
  try simp only [k_int, k_str, List.drop_zero, List.drop_succ_cons, List.take_succ_cons, List.take_zero] at q0
  obtain ⟨y0, hy0⟩ : ∃ y, xs[0]? = some y := ⟨_, List.getElem?_eq_getElem (by rw [hxl]; decide)⟩
  rw [hy0] at q0
  obtain ⟨v0, e0, f0, _⟩ := DataW.trod_string Tryz.underlying9 q0
  cases e0; clear q0
  have w0 : Wt Tryz.prog 9 y0.1 := Wt.field (i := 0) Tryz.underlying125 (by rw [hx] at hw; exact hw) rfl (by rw [List.getElem?_map, hy0]; rfl)
  rw [f0] at w0
  have q1 := hg 1 _ rfl
  try simp only [k_int, k_str, List.drop_zero, List.drop_succ_cons, List.take_succ_cons, List.take_zero] at q1
  obtain ⟨y1, hy1⟩ : ∃ y, xs[1]? = some y := ⟨_, List.getElem?_eq_getElem (by rw [hxl]; decide)⟩
  rw [hy1] at q1
  obtain ⟨v1, e1, _⟩ := DataW.trod_int Tryz.underlying3 q1
  cases e1; clear q1
  exact ⟨⟨v0, v1⟩, rfl, rfl, w0.string⟩
def GN (n : Nd) : Prop := ∀ e ∈ n.f7, GE e
set_option maxRecDepth 100000 in
theorem node_K (fuel : Nat) (cs : List Value) (x : DataW H × List MemPlace) (h : DataW.trod enc Tryz.prog W 0 spare held fuel 53 cs = some x) (hw : Wt Tryz.prog 53 x.1) : ∃ y : Nd, cs.length = 8 ∧ RNd W y cs ∧ GN y := by
 obtain ⟨xs, n, _, hx, hcl, hxl, hg⟩ := DataW.trod_struct Tryz.underlying53 h
 have hC : Tryz.prog.cellsOf 53 = 8 := by kernel_rfl
 rw [hC] at hcl
 have k_int : Tryz.prog.cellsOf 3 = 1 := by kernel_rfl
 have k_row : Tryz.prog.cellsOf 51 = 1 := by kernel_rfl
 have k_str : Tryz.prog.cellsOf 9 = 1 := by kernel_rfl
 match cs, hcl with
 | [c0, c1, c2, c3, c4, c5, c6, c7], _ =>
  have q0 := hg 0 _ rfl
  try simp only [k_int, k_row, k_str, List.drop_zero, List.drop_succ_cons, List.take_succ_cons, List.take_zero] at q0
  obtain ⟨y0, hy0⟩ : ∃ y, xs[0]? = some y := ⟨_, List.getElem?_eq_getElem (by rw [hxl]; decide)⟩
  rw [hy0] at q0
  obtain ⟨v0, e0, _⟩ := DataW.trod_int Tryz.underlying3 q0
  cases e0; clear q0
  have q1 := hg 1 _ rfl
  try simp only [k_int, k_row, k_str, List.drop_zero, List.drop_succ_cons, List.take_succ_cons, List.take_zero] at q1
  obtain ⟨y1, hy1⟩ : ∃ y, xs[1]? = some y := ⟨_, List.getElem?_eq_getElem (by rw [hxl]; decide)⟩
  rw [hy1] at q1
  obtain ⟨v1, e1, _⟩ := DataW.trod_int Tryz.underlying3 q1
  cases e1; clear q1
  have q2 := hg 2 _ rfl
  try simp only [k_int, k_row, k_str, List.drop_zero, List.drop_succ_cons, List.take_succ_cons, List.take_zero] at q2
  obtain ⟨y2, hy2⟩ : ∃ y, xs[2]? = some y := ⟨_, List.getElem?_eq_getElem (by rw [hxl]; decide)⟩
  rw [hy2] at q2
  obtain ⟨v2, e2, _⟩ := DataW.trod_int Tryz.underlying3 q2
  cases e2; clear q2
  have q3 := hg 3 _ rfl
  try simp only [k_int, k_row, k_str, List.drop_zero, List.drop_succ_cons, List.take_succ_cons, List.take_zero] at q3
  obtain ⟨y3, hy3⟩ : ∃ y, xs[3]? = some y := ⟨_, List.getElem?_eq_getElem (by rw [hxl]; decide)⟩
  rw [hy3] at q3
  obtain ⟨v3, e3, _⟩ := DataW.trod_int Tryz.underlying3 q3
  cases e3; clear q3
  have q4 := hg 4 _ rfl
  try simp only [k_int, k_row, k_str, List.drop_zero, List.drop_succ_cons, List.take_succ_cons, List.take_zero] at q4
  obtain ⟨y4, hy4⟩ : ∃ y, xs[4]? = some y := ⟨_, List.getElem?_eq_getElem (by rw [hxl]; decide)⟩
  rw [hy4] at q4
  obtain ⟨v4, e4, _⟩ := DataW.trod_int Tryz.underlying3 q4
  cases e4; clear q4
  have q5 := hg 5 _ rfl
  try simp only [k_int, k_row, k_str, List.drop_zero, List.drop_succ_cons, List.take_succ_cons, List.take_zero] at q5
  obtain ⟨y5, hy5⟩ : ∃ y, xs[5]? = some y := ⟨_, List.getElem?_eq_getElem (by rw [hxl]; decide)⟩
  rw [hy5] at q5
  obtain ⟨v5, e5, _⟩ := DataW.trod_int Tryz.underlying3 q5
  cases e5; clear q5
  have q6 := hg 6 _ rfl
  try simp only [k_int, k_row, k_str, List.drop_zero, List.drop_succ_cons, List.take_succ_cons, List.take_zero] at q6
  obtain ⟨y6, hy6⟩ : ∃ y, xs[6]? = some y := ⟨_, List.getElem?_eq_getElem (by rw [hxl]; decide)⟩
  rw [hy6] at q6
  obtain ⟨v6, e6, f6, _⟩ := DataW.trod_string Tryz.underlying9 q6
  cases e6; clear q6
  have w6 : Wt Tryz.prog 9 y6.1 := Wt.field (i := 6) Tryz.underlying53 (by rw [hx] at hw; exact hw) rfl (by rw [List.getElem?_map, hy6]; rfl)
  rw [f6] at w6
  have q7 := hg 7 _ rfl
  try simp only [k_int, k_row, k_str, List.drop_zero, List.drop_succ_cons, List.take_succ_cons, List.take_zero] at q7
  obtain ⟨y7, hy7⟩ : ∃ y, xs[7]? = some y := ⟨_, List.getElem?_eq_getElem (by rw [hxl]; decide)⟩
  rw [hy7] at q7
  have w7 : Wt Tryz.prog 51 y7.1 := Wt.field (i := 7) Tryz.underlying53 (by rw [hx] at hw; exact hw) rfl (by rw [List.getElem?_map, hy7]; rfl)
  obtain ⟨A7, v7, a7, e7, l7, b7, r7, g7⟩ := open_row Tryz.underlying51 (by kernel_rfl) (by decide) (of_decide_eq_true (by kernel_rfl)) entry_K q7 w7
  cases e7; clear q7
  exact ⟨⟨v0, v1, v2, v3, v4, v5, v6, v7⟩, rfl, ⟨A7, a7, rfl, l7, fun i e hi => by obtain ⟨cs', rfl, h⟩ := r7 i e hi; exact h⟩, g7⟩
set_option maxRecDepth 100000 in
theorem open_disk {base : Nat} {v : Value} {d : DataW H} {p : List MemPlace} (hv : Value.okWide Tryz.prog W .any base 24 v) (h : DataW.Trod enc Tryz.prog W 0 spare held 24 v d p) (hw : Wt Tryz.prog 24 d) :
  ∃ (A : Option Addr) (c : Nat) (ns : List Nd) (m r : Int), v = .agg #[.slice A ns.length c, .int .i64 m, .int .i64 r] ∧ DiskAt (memOf W) A ns ∧ ns.length ≤ c ∧ ns.length ≤ 1000000000000000 ∧ ∀ n ∈ ns, ∀ e ∈ n.f7, e.f0.size ≤ 1000000000000000 := by
 obtain ⟨cs0, rfl, hsz⟩ := okWide_struct Tryz.underlying24 hv
 obtain ⟨fuel, hf⟩ := h
 obtain ⟨cs⟩ := cs0
 replace h : DataW.trod enc Tryz.prog W 0 spare held fuel 24 cs = some (d, p) := hf
 obtain ⟨xs, n, _, hx, hcl, hxl, hg⟩ := DataW.trod_struct Tryz.underlying24 h
 have hC : Tryz.prog.cellsOf 24 = 3 := by kernel_rfl
 rw [hC] at hcl
 have k_int : Tryz.prog.cellsOf 3 = 1 := by kernel_rfl
 have k_row : Tryz.prog.cellsOf 22 = 1 := by kernel_rfl
 match cs, hcl with
 | [c0, c1, c2], _ =>
  have q0 := hg 0 _ rfl
  try simp only [k_int, k_row, List.drop_zero, List.drop_succ_cons, List.take_succ_cons, List.take_zero] at q0
  obtain ⟨y0, hy0⟩ : ∃ y, xs[0]? = some y := ⟨_, List.getElem?_eq_getElem (by rw [hxl]; decide)⟩
  rw [hy0] at q0
  have w0 : Wt Tryz.prog 22 y0.1 := Wt.field (i := 0) Tryz.underlying24 (by have hx1 := congrArg Prod.fst hx; simp only at hx1; rw [hx1] at hw; exact hw) rfl (by rw [List.getElem?_map, hy0]; rfl)
  obtain ⟨A0, v0, a0, e0, l0, b0, r0, g0⟩ := open_row Tryz.underlying22 (by kernel_rfl) (by decide) (of_decide_eq_true (by kernel_rfl)) node_K q0 w0
  cases e0; clear q0
  have q1 := hg 1 _ rfl
  try simp only [k_int, k_row, List.drop_zero, List.drop_succ_cons, List.take_succ_cons, List.take_zero] at q1
  obtain ⟨y1, hy1⟩ : ∃ y, xs[1]? = some y := ⟨_, List.getElem?_eq_getElem (by rw [hxl]; decide)⟩
  rw [hy1] at q1
  obtain ⟨v1, e1, _⟩ := DataW.trod_int Tryz.underlying3 q1
  cases e1; clear q1
  have q2 := hg 2 _ rfl
  try simp only [k_int, k_row, List.drop_zero, List.drop_succ_cons, List.take_succ_cons, List.take_zero] at q2
  obtain ⟨y2, hy2⟩ : ∃ y, xs[2]? = some y := ⟨_, List.getElem?_eq_getElem (by rw [hxl]; decide)⟩
  rw [hy2] at q2
  obtain ⟨v2, e2, _⟩ := DataW.trod_int Tryz.underlying3 q2
  cases e2; clear q2
  have hrb : reachBytes ≤ 1000000000000000 := by decide
  refine ⟨A0, a0, v0, v1, v2, rfl, fun i n hi => ?_, l0, by omega, fun n hn e he => Nat.le_trans (g0 n hn e he) hrb⟩
  obtain ⟨cs', ⟨a7, c7, rfl, h1, h2⟩, h3⟩ := r0 i n hi
  exact ⟨a7, c7, h1, h3, h2⟩
end
theorem law_calls {f : FuncId} {args : List Value} {u : Mem} {v0 : Value} {w : World} (h : CV Tryz.prog f args [] u fun v cs _ => cs = [] ∧ v = v0) (hs : Sees u w) : Calls Tryz.prog f args.toArray w fun e w' => e = .returned v0 ∧ Below w.heap.size w w' :=
 (h w hs (fun x hx => by cases hx) List.nodup_nil).mono fun e w' ⟨v, cs, u', he, hp, _, hv⟩ => by
  subst hv
  exact ⟨he, hp.gro.os, hp.gro.tape, hp.gro.output, hp.gro.size, fun k hk => hp.gro.block k hk (by simp)⟩
end Go.Proofs.YtpfbimkpcnnfkaaGreatDoor.Sx
set_option linter.unusedVariables false
set_option linter.unusedSimpArgs false
namespace Go.Proofs.YtpfbimkpcnnfkaaGreatDoor.Sx
open Go Go.Joins Go.ChangeShapes Go.WideShapes Go.RowKit Go.Deep Go.Proofs.YtpfbimkpcnnfkaaGreatDoor
section
variable {H : Type} {enc : TypeId × Value → H} {W : World} {spare : Nat → Bool} {held : Bool}
set_option maxRecDepth 100000 in
theorem open_as {base : Nat} {v : Value} {d : DataW H} {p : List MemPlace} (hv : Value.okWide Tryz.prog W .any base 26 v) (h : DataW.Trod enc Tryz.prog W 0 spare held 26 v d p) : ∃ a b : Int, v = .agg #[.int .i64 a, .int .i64 b] := by
 obtain ⟨cs0, rfl, hsz⟩ := okWide_struct Tryz.underlying26 hv
 obtain ⟨fuel, hf⟩ := h
 obtain ⟨cs⟩ := cs0
 replace h : DataW.trod enc Tryz.prog W 0 spare held fuel 26 cs = some (d, p) := hf
 obtain ⟨xs, n, _, hx, hcl, hxl, hg⟩ := DataW.trod_struct Tryz.underlying26 h
 have hC : Tryz.prog.cellsOf 26 = 2 := by kernel_rfl
 rw [hC] at hcl
 have k_int : Tryz.prog.cellsOf 3 = 1 := by kernel_rfl
 match cs, hcl with
 | [c0, c1], _ =>
  have q0 := hg 0 _ rfl
  try simp only [k_int, List.drop_zero, List.drop_succ_cons, List.take_succ_cons, List.take_zero] at q0
  obtain ⟨y0, hy0⟩ : ∃ y, xs[0]? = some y := ⟨_, List.getElem?_eq_getElem (by rw [hxl]; decide)⟩
  rw [hy0] at q0
  obtain ⟨v0, e0, _⟩ := DataW.trod_int Tryz.underlying3 q0
  cases e0; clear q0
  have q1 := hg 1 _ rfl
  try simp only [k_int, List.drop_zero, List.drop_succ_cons, List.take_succ_cons, List.take_zero] at q1
  obtain ⟨y1, hy1⟩ : ∃ y, xs[1]? = some y := ⟨_, List.getElem?_eq_getElem (by rw [hxl]; decide)⟩
  rw [hy1] at q1
  obtain ⟨v1, e1, _⟩ := DataW.trod_int Tryz.underlying3 q1
  cases e1; clear q1
  exact ⟨v0, v1, rfl⟩
end
end Go.Proofs.YtpfbimkpcnnfkaaGreatDoor.Sx
