/- The rows: what comes in as a job, or as a frame, reads as one. -/
import Derived.Test.YtjkjlegloicmcaaDoorJobI
import Derived.Lib.SmallJoins
import Derived.Deep.Slices
import Derived.Deep.Fields
import Derived.ChangeSame
import Derived.OpenShut
set_option linter.unusedVariables false
set_option linter.unusedSimpArgs false
namespace Go.Proofs.YtjkjlegloicmcaaDoor
open Go.Joins Go.ChangeShapes Go.WideShapes Go.RowKit Go.Deep
theorem spot_none {w : World} {a : Addr} {v : Value} (h : w.cell? a = some v) : a = ⟨a.block, a.off, none⟩ := by
  obtain ⟨b, o, s⟩ := a
  cases s with
  | none => rfl
  | some s =>
    exfalso
    unfold World.cell? at h
    split at h <;> simp at h
theorem list_of {α : Type} (n : Nat) (Q : Nat → α → Prop) (h : ∀ i, i < n → ∃ y, Q i y) : ∃ ys : List α, ys.length = n ∧ ∀ i, (hi : i < ys.length) → Q i (ys[i]'hi) := by
  induction n with
  | zero => exact ⟨[], rfl, fun i hi => by simp at hi⟩
  | succ n ih =>
    obtain ⟨ys, hl, hq⟩ := ih fun i hi => h i (by omega)
    obtain ⟨y, hy⟩ := h n (by omega)
    refine ⟨ys ++ [y], by simp [hl], fun i hi => ?_⟩
    rcases Nat.lt_or_ge i ys.length with h1 | h1
    · rw [List.getElem_append_left h1]; exact hq i h1
    · have : i = ys.length := by simp at hi; omega
      subst this
      simp only [List.getElem_append_right (Nat.le_refl _), Nat.sub_self, List.getElem_cons_zero]
      rw [hl]; exact hy
theorem add_at (b off k i : Nat) : ((⟨b, off, none⟩ : Addr).add k).add i = ⟨b, off + (k + i), none⟩ := by
  unfold Addr.add
  split <;> split <;> simp_all [Nat.add_assoc]
section
variable {H : Type} {enc : TypeId × Value → H} {P : Program} {W : World} {spare : Nat → Bool} {held : Bool} {α : Type} {d : Rp α}
theorem open_row {t e fuel : Nat} {cs : List Value} {x : DataW H × List MemPlace} (ht : P.underlying t = some (.slice e)) (hC : P.cellsOf e = d.sz) (hsz : 0 < d.sz) (hsp : ∀ b, spare b = true)
    (he : ∀ n cs x, DataW.trod enc P W 0 spare held n e cs = some x → ∃ y, d.K W (Now W) y cs) (h : DataW.trod enc P W 0 spare held fuel t cs = some x) :
    ∃ (s : Sl) (xs : List α), cs = [.slice s.a xs.length s.c] ∧ d.Is W (Now W) s xs := by
  rcases open_slice ht h with ⟨rfl, _⟩ | ⟨a, len, cap, m, n, D, Pl, rfl, hb, hl, hm, hmm, _, hi⟩
  · exact ⟨⟨none, 0⟩, [], rfl, Rp.Is.nil _ _ _ _⟩
  rw [hsp, if_pos rfl] at hmm
  subst hmm
  obtain ⟨xs, hlen, hx⟩ := list_of len (fun i y => ∃ cs', d.K W (Now W) y cs' ∧ ∀ j, j < d.sz → W.cell? ((a.add (i * d.sz)).add j) = cs'[j]?) (fun i hil => by
    obtain ⟨cs', hc, ht'⟩ := hi i (by omega)
    rw [hC] at hc
    obtain ⟨_, hcl, hat⟩ := World.cells?_some hc
    obtain ⟨y, hy⟩ := he _ _ _ ht'
    exact ⟨y, cs', hy, hat⟩)
  subst hlen
  refine ⟨⟨some a, m⟩, xs, rfl, hl, by omega, fun k hk => ?_⟩
  have hA : a = ⟨a.block, a.off, none⟩ ∧ a.block < W.heap.size := by
    obtain ⟨cs0, h0, h1⟩ := hx 0 (by omega)
    have h2 := h1 0 hsz
    have h3 : (cs0)[0]? = some (cs0[0]'(by rw [d.len h0]; exact hsz)) := List.getElem?_eq_getElem _
    rw [h3] at h2
    have h4 : (a.add (0 * d.sz)).add 0 = a := by simp [Addr.add]
    rw [h4] at h2
    exact ⟨spot_none h2, World.block_lt_of_cell? W a h2⟩
  obtain ⟨hA, hlt⟩ := hA
  obtain ⟨cs', hK, hat⟩ := hx k hk
  refine ⟨a.block, a.off, cs', by rw [← hA], hlt, hK, fun i u hu => ?_⟩
  have hi' : i < d.sz := by rw [← d.len hK]; exact (List.getElem?_eq_some_iff.1 hu).1
  have h5 := hat i hi'
  rw [hA, add_at] at h5
  rw [h5, hu]
theorem open_strs {t e fuel : Nat} {cs : List Value} {x : DataW H × List MemPlace} (ht : P.underlying t = some (.slice e)) (he : P.underlying e = some .string) (hC : P.cellsOf e = 1) (hsp : ∀ b, spare b = true) (h : DataW.trod enc P W 0 spare held fuel t cs = some x) :
    ∃ (s : Sl) (xs : List ByteArray), cs = [.slice s.a xs.length s.c] ∧ rStr.Is W (Now W) s xs :=
  open_row (d := rStr) ht hC (by decide) hsp (fun n cs x hx => by obtain ⟨y, rfl, _⟩ := DataW.trod_string he hx; exact ⟨y, rfl⟩) h
theorem open_ints' {t e fuel : Nat} {cs : List Value} {x : DataW H × List MemPlace} (ht : P.underlying t = some (.slice e)) (he : P.underlying e = some (.int .i64)) (hC : P.cellsOf e = 1) (hsp : ∀ b, spare b = true) (h : DataW.trod enc P W 0 spare held fuel t cs = some x) :
    ∃ (s : Sl) (xs : List Int), cs = [.slice s.a xs.length s.c] ∧ rInt.Is W (Now W) s xs :=
  open_row (d := rInt) ht hC (by decide) hsp (fun n cs x hx => by obtain ⟨y, rfl, _⟩ := DataW.trod_int he hx; exact ⟨y, rfl⟩) h
end
section
variable {H : Type} {enc : TypeId × Value → H} {W : World} {spare : Nat → Bool} {held : Bool}
theorem frame_K {fuel : Nat} {cs : List Value} {x : DataW H × List MemPlace} (hsp : ∀ b, spare b = true) (h : DataW.trod enc Tryd.prog W 0 spare held fuel 46 cs = some x) : ∃ (f : Frame) (s : Sl), cs = [.int .i64 f.fd, .string f.name, .slice s.a f.names.length s.c] ∧ rStr.Is W (Now W) s f.names := by
  obtain ⟨xs, n, _, _, hcl, hxl, hg⟩ := DataW.trod_struct Tryd.underlying46 h
  have hC : Tryd.prog.cellsOf 46 = 3 := by kernel_rfl
  rw [hC] at hcl
  match cs, hcl with
  | [c0, c1, c2], _ =>
    match xs, hxl with
    | [y0, y1, y2], _ =>
      have q0 := hg 0 _ rfl
      have q1 := hg 1 _ rfl
      have q2 := hg 2 _ rfl
      simp only [show Tryd.prog.cellsOf 3 = 1 by kernel_rfl, show Tryd.prog.cellsOf 9 = 1 by kernel_rfl, show Tryd.prog.cellsOf 22 = 1 by kernel_rfl, List.drop_zero, List.drop_succ_cons, List.take_succ_cons, List.take_zero, List.getElem?_cons_zero, List.getElem?_cons_succ] at q0 q1 q2
      obtain ⟨fd, e0, _⟩ := DataW.trod_int Tryd.underlying3 q0
      obtain ⟨nm, e1, _⟩ := DataW.trod_string Tryd.underlying9 q1
      obtain ⟨s, ns, e2, hs⟩ := open_strs Tryd.underlying22 Tryd.underlying9 (by kernel_rfl) hsp q2
      cases e0; cases e1; cases e2
      exact ⟨⟨fd, nm, ns⟩, s, rfl, hs⟩
theorem open_frame {base : Nat} {v : Value} {d : DataW H} {p : List MemPlace} (hsp : ∀ b, spare b = true) (hv : Value.okWide Tryd.prog W .any base 46 v) (h : DataW.Trod enc Tryd.prog W 0 spare held 46 v d p) :
    ∃ (f : Frame) (s : Sl), v = .agg #[.int .i64 f.fd, .string f.name, .slice s.a f.names.length s.c] ∧ rStr.Is W (Now W) s f.names := by
  obtain ⟨cs, rfl, _⟩ := okWide_struct Tryd.underlying46 hv
  obtain ⟨fuel, hf⟩ := h
  obtain ⟨f, s, he, hs⟩ := frame_K hsp hf
  refine ⟨f, s, ?_, hs⟩
  have he' : cs.toList = _ := he
  rw [← Array.toArray_toList (xs := cs), he']
theorem open_job {base : Nat} {v : Value} {d : DataW H} {p : List MemPlace} (hsp : ∀ b, spare b = true) (hv : Value.okWide Tryd.prog W .any base 27 v) (h : DataW.Trod enc Tryd.prog W 0 spare held 27 v d p) :
    ∃ (j : Job) (a : JA), v = .agg (j.cells a).toArray ∧ j.now W a := by
  obtain ⟨cs, rfl, hsz⟩ := okWide_struct Tryd.underlying27 hv
  obtain ⟨fuel, hf⟩ := h
  obtain ⟨l⟩ := cs
  have hf' : DataW.trod enc Tryd.prog W 0 spare held fuel 27 l = some (d, p) := hf
  obtain ⟨xs, n, _, _, hcl, hxl, hg⟩ := DataW.trod_struct Tryd.underlying27 hf'
  have hC : Tryd.prog.cellsOf 27 = 19 := by kernel_rfl
  rw [hC] at hcl
  have k3 : Tryd.prog.cellsOf 3 = 1 := by kernel_rfl
  have k9 : Tryd.prog.cellsOf 9 = 1 := by kernel_rfl
  have k4 : Tryd.prog.cellsOf 4 = 1 := by kernel_rfl
  have k25 : Tryd.prog.cellsOf 25 = 1 := by kernel_rfl
  have k22 : Tryd.prog.cellsOf 22 = 1 := by kernel_rfl
  have k23 : Tryd.prog.cellsOf 23 = 1 := by kernel_rfl
  have k24 : Tryd.prog.cellsOf 24 = 1 := by kernel_rfl
  match l, hcl with
  | [c0, c1, c2, c3, c4, c5, c6, c7, c8, c9, c10, c11, c12, c13, c14, c15, c16, c17, c18], _ =>
    have q0 := hg 0 _ rfl
    try simp only [k3, k9, k4, k25, k22, k23, k24, List.drop_zero, List.drop_succ_cons, List.take_succ_cons, List.take_zero] at q0
    obtain ⟨y0, hy0⟩ : ∃ y, xs[0]? = some y := ⟨_, List.getElem?_eq_getElem (by rw [hxl]; decide)⟩
    rw [hy0] at q0
    obtain ⟨v0, e0, _⟩ := DataW.trod_int Tryd.underlying3 q0
    cases e0; clear q0 hy0
    have q1 := hg 1 _ rfl
    try simp only [k3, k9, k4, k25, k22, k23, k24, List.drop_zero, List.drop_succ_cons, List.take_succ_cons, List.take_zero] at q1
    obtain ⟨y1, hy1⟩ : ∃ y, xs[1]? = some y := ⟨_, List.getElem?_eq_getElem (by rw [hxl]; decide)⟩
    rw [hy1] at q1
    obtain ⟨v1, e1, _⟩ := DataW.trod_int Tryd.underlying3 q1
    cases e1; clear q1 hy1
    have q2 := hg 2 _ rfl
    try simp only [k3, k9, k4, k25, k22, k23, k24, List.drop_zero, List.drop_succ_cons, List.take_succ_cons, List.take_zero] at q2
    obtain ⟨y2, hy2⟩ : ∃ y, xs[2]? = some y := ⟨_, List.getElem?_eq_getElem (by rw [hxl]; decide)⟩
    rw [hy2] at q2
    obtain ⟨v2, e2, _⟩ := DataW.trod_int Tryd.underlying3 q2
    cases e2; clear q2 hy2
    have q3 := hg 3 _ rfl
    try simp only [k3, k9, k4, k25, k22, k23, k24, List.drop_zero, List.drop_succ_cons, List.take_succ_cons, List.take_zero] at q3
    obtain ⟨y3, hy3⟩ : ∃ y, xs[3]? = some y := ⟨_, List.getElem?_eq_getElem (by rw [hxl]; decide)⟩
    rw [hy3] at q3
    obtain ⟨v3, e3, _⟩ := DataW.trod_int Tryd.underlying3 q3
    cases e3; clear q3 hy3
    have q4 := hg 4 _ rfl
    try simp only [k3, k9, k4, k25, k22, k23, k24, List.drop_zero, List.drop_succ_cons, List.take_succ_cons, List.take_zero] at q4
    obtain ⟨y4, hy4⟩ : ∃ y, xs[4]? = some y := ⟨_, List.getElem?_eq_getElem (by rw [hxl]; decide)⟩
    rw [hy4] at q4
    obtain ⟨v4, e4, _⟩ := DataW.trod_int Tryd.underlying3 q4
    cases e4; clear q4 hy4
    have q5 := hg 5 _ rfl
    try simp only [k3, k9, k4, k25, k22, k23, k24, List.drop_zero, List.drop_succ_cons, List.take_succ_cons, List.take_zero] at q5
    obtain ⟨y5, hy5⟩ : ∃ y, xs[5]? = some y := ⟨_, List.getElem?_eq_getElem (by rw [hxl]; decide)⟩
    rw [hy5] at q5
    obtain ⟨v5, e5, _⟩ := DataW.trod_int Tryd.underlying3 q5
    cases e5; clear q5 hy5
    have q6 := hg 6 _ rfl
    try simp only [k3, k9, k4, k25, k22, k23, k24, List.drop_zero, List.drop_succ_cons, List.take_succ_cons, List.take_zero] at q6
    obtain ⟨y6, hy6⟩ : ∃ y, xs[6]? = some y := ⟨_, List.getElem?_eq_getElem (by rw [hxl]; decide)⟩
    rw [hy6] at q6
    obtain ⟨v6, e6, _⟩ := DataW.trod_int Tryd.underlying3 q6
    cases e6; clear q6 hy6
    have q7 := hg 7 _ rfl
    try simp only [k3, k9, k4, k25, k22, k23, k24, List.drop_zero, List.drop_succ_cons, List.take_succ_cons, List.take_zero] at q7
    obtain ⟨y7, hy7⟩ : ∃ y, xs[7]? = some y := ⟨_, List.getElem?_eq_getElem (by rw [hxl]; decide)⟩
    rw [hy7] at q7
    obtain ⟨v7, e7, _⟩ := DataW.trod_int Tryd.underlying3 q7
    cases e7; clear q7 hy7
    have q8 := hg 8 _ rfl
    try simp only [k3, k9, k4, k25, k22, k23, k24, List.drop_zero, List.drop_succ_cons, List.take_succ_cons, List.take_zero] at q8
    obtain ⟨y8, hy8⟩ : ∃ y, xs[8]? = some y := ⟨_, List.getElem?_eq_getElem (by rw [hxl]; decide)⟩
    rw [hy8] at q8
    obtain ⟨v8, e8, _⟩ := DataW.trod_int Tryd.underlying3 q8
    cases e8; clear q8 hy8
    have q9 := hg 9 _ rfl
    try simp only [k3, k9, k4, k25, k22, k23, k24, List.drop_zero, List.drop_succ_cons, List.take_succ_cons, List.take_zero] at q9
    obtain ⟨y9, hy9⟩ : ∃ y, xs[9]? = some y := ⟨_, List.getElem?_eq_getElem (by rw [hxl]; decide)⟩
    rw [hy9] at q9
    obtain ⟨v9, e9, _⟩ := DataW.trod_string Tryd.underlying9 q9
    cases e9; clear q9 hy9
    have q10 := hg 10 _ rfl
    try simp only [k3, k9, k4, k25, k22, k23, k24, List.drop_zero, List.drop_succ_cons, List.take_succ_cons, List.take_zero] at q10
    obtain ⟨y10, hy10⟩ : ∃ y, xs[10]? = some y := ⟨_, List.getElem?_eq_getElem (by rw [hxl]; decide)⟩
    rw [hy10] at q10
    obtain ⟨v10, e10, _⟩ := DataW.trod_string Tryd.underlying9 q10
    cases e10; clear q10 hy10
    have q11 := hg 11 _ rfl
    try simp only [k3, k9, k4, k25, k22, k23, k24, List.drop_zero, List.drop_succ_cons, List.take_succ_cons, List.take_zero] at q11
    obtain ⟨y11, hy11⟩ : ∃ y, xs[11]? = some y := ⟨_, List.getElem?_eq_getElem (by rw [hxl]; decide)⟩
    rw [hy11] at q11
    obtain ⟨v11, e11, _⟩ := DataW.trod_string Tryd.underlying9 q11
    cases e11; clear q11 hy11
    have q12 := hg 12 _ rfl
    try simp only [k3, k9, k4, k25, k22, k23, k24, List.drop_zero, List.drop_succ_cons, List.take_succ_cons, List.take_zero] at q12
    obtain ⟨y12, hy12⟩ : ∃ y, xs[12]? = some y := ⟨_, List.getElem?_eq_getElem (by rw [hxl]; decide)⟩
    rw [hy12] at q12
    obtain ⟨sn, v12, e12, hn⟩ := open_strs Tryd.underlying22 Tryd.underlying9 k9 hsp q12
    cases e12; clear q12 hy12
    have q13 := hg 13 _ rfl
    try simp only [k3, k9, k4, k25, k22, k23, k24, List.drop_zero, List.drop_succ_cons, List.take_succ_cons, List.take_zero] at q13
    obtain ⟨y13, hy13⟩ : ∃ y, xs[13]? = some y := ⟨_, List.getElem?_eq_getElem (by rw [hxl]; decide)⟩
    rw [hy13] at q13
    obtain ⟨ss, v13, e13, hs⟩ := open_row (d := rFrame) Tryd.underlying23 (by kernel_rfl) (by decide) hsp (fun n cs x hx => by obtain ⟨f, s, rfl, h⟩ := frame_K hsp hx; exact ⟨f, _, _, rfl, h.1, h.2⟩) q13
    cases e13; clear q13 hy13
    have q14 := hg 14 _ rfl
    try simp only [k3, k9, k4, k25, k22, k23, k24, List.drop_zero, List.drop_succ_cons, List.take_succ_cons, List.take_zero] at q14
    obtain ⟨y14, hy14⟩ : ∃ y, xs[14]? = some y := ⟨_, List.getElem?_eq_getElem (by rw [hxl]; decide)⟩
    rw [hy14] at q14
    obtain ⟨sd, v14, e14, hd⟩ := open_ints' Tryd.underlying24 Tryd.underlying3 k3 hsp q14
    cases e14; clear q14 hy14
    have q15 := hg 15 _ rfl
    try simp only [k3, k9, k4, k25, k22, k23, k24, List.drop_zero, List.drop_succ_cons, List.take_succ_cons, List.take_zero] at q15
    obtain ⟨y15, hy15⟩ : ∃ y, xs[15]? = some y := ⟨_, List.getElem?_eq_getElem (by rw [hxl]; decide)⟩
    rw [hy15] at q15
    obtain ⟨v15, e15, _⟩ := DataW.trod_bool Tryd.underlying4 q15
    cases e15; clear q15 hy15
    have q16 := hg 16 _ rfl
    try simp only [k3, k9, k4, k25, k22, k23, k24, List.drop_zero, List.drop_succ_cons, List.take_succ_cons, List.take_zero] at q16
    obtain ⟨y16, hy16⟩ : ∃ y, xs[16]? = some y := ⟨_, List.getElem?_eq_getElem (by rw [hxl]; decide)⟩
    rw [hy16] at q16
    obtain ⟨v16, e16, _⟩ := DataW.trod_int Tryd.underlying3 q16
    cases e16; clear q16 hy16
    have q17 := hg 17 _ rfl
    try simp only [k3, k9, k4, k25, k22, k23, k24, List.drop_zero, List.drop_succ_cons, List.take_succ_cons, List.take_zero] at q17
    obtain ⟨y17, hy17⟩ : ∃ y, xs[17]? = some y := ⟨_, List.getElem?_eq_getElem (by rw [hxl]; decide)⟩
    rw [hy17] at q17
    obtain ⟨v17, e17, _⟩ := DataW.trod_string Tryd.underlying9 q17
    cases e17; clear q17 hy17
    have q18 := hg 18 _ rfl
    try simp only [k3, k9, k4, k25, k22, k23, k24, List.drop_zero, List.drop_succ_cons, List.take_succ_cons, List.take_zero] at q18
    obtain ⟨y18, hy18⟩ : ∃ y, xs[18]? = some y := ⟨_, List.getElem?_eq_getElem (by rw [hxl]; decide)⟩
    rw [hy18] at q18
    obtain ⟨v18, e18, _⟩ := DataW.trod_int Tryd.underlying25 q18
    cases e18; clear q18 hy18
    exact ⟨⟨v0, v1, v2, v3, v4, v5, v6, v7, v8, v9, v10, v11, v12, v13, v14, v15, v16, v17, v18⟩, ⟨sn, ss, sd⟩, rfl, hn, hs, hd⟩
end
end Go.Proofs.YtjkjlegloicmcaaDoor
