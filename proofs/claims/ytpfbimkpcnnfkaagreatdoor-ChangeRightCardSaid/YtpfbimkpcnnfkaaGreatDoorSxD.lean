/- Sx: one operation: the law. Nothing of the program. -/
import Derived.Test.YtpfbimkpcnnfkaaGreatDoorSxC
set_option linter.unusedVariables false
set_option linter.unusedSimpArgs false
namespace Go.Proofs.YtpfbimkpcnnfkaaGreatDoor.Sx
open Go Go.RowKit Go.Proofs.YtpfbimkpcnnfkaaGreatDoor
section
variable {P : Program} {c : Ctx} {F : Nat → Prop} {st : St S.ty} {bk : Nat → Nat} {a : Act} {w : World} {u : Mem} {lab : List (Nat × Bool)} {K : St S.ty → (Nat → Nat) → Mem → Prop} {Q : Exit → Act → World → Prop} {ops : List Oper} {o : Oper}
theorem kss_len : ∀ {l : List Nat}, (∀ i ∈ l, (st.cells i).isSome = true) → (st.kss l).length = l.length
 | [], _ => rfl
 | i :: r, h => by
  obtain ⟨cs, hcs⟩ := Option.isSome_iff_exists.1 (h i (by simp))
  obtain ⟨ow, h1, h2⟩ := cells_own hcs
  have ih := kss_len (l := r) fun j hj => h j (by simp [hj])
  unfold St.kss at *
  simp [h1, h2, ih]
theorem rowsD_map {l : List Nat} (h : ∀ i ∈ l, (st.cells i).isSome = true) : (rowsD bk (st.rows l)).map (·.1) = l.map bk := by
 rw [rows_map h]; simp [rowsD]
theorem mine_spec {l : List Nat} (h : st.mineB l = true) : ∀ i ∈ l, ∃ ks cs, st.blk i = some ⟨false, ks, some cs⟩ := by
 intro i hi
 have := List.all_eq_true.1 h i hi
 split at this
 ·rename_i ks cs hb; exact ⟨ks, cs, hb⟩
 ·cases this
theorem pub_facts (h : Rep c F st bk a w u) {ps : List Nat} (hps : ∀ i ∈ ps, (st.cells i).isSome = true) (hmine : ∀ i ∈ ps, ∃ ks cs, st.blk i = some ⟨false, ks, some cs⟩) :
  Sees (pubMem bk (st.rows ps) u) w ∧ (∀ b o, pubMem bk (st.rows ps) u b o ≠ none → ((c.u0 b o ≠ none ∨ (c.base ≤ b ∧ Plain w b)) ∧ (c.wr b ∨ c.w0.heap.size ≤ b)) ∧ b ∉ c.giv) ∧
   (∀ id cs, st.cells id = some cs → id ∉ ps → ∀ o, pubMem bk (st.rows ps) u (bk id) o = none) := by
 have hr : ∀ r ∈ st.rows ps, ∃ i ∈ ps, r.1 = i ∧ st.cells i = some r.2 := fun r hr => by
  rw [rows_map hps] at hr
  obtain ⟨i, hi, rfl⟩ := List.mem_map.1 hr
  obtain ⟨cs, hcs⟩ := Option.isSome_iff_exists.1 (hps i hi)
  exact ⟨i, hi, rfl, by simp [hcs]⟩
 refine ⟨fun b o v hv => ?_, fun b o hn => ?_, fun id cs hcs hid o => ?_⟩
 ·rcases pub_some hv with hv | ⟨r, hrr, e, hv⟩
  ·exact h.sees b o v hv
  ·obtain ⟨i, hi, e1, hcs⟩ := hr r hrr
   obtain ⟨ow, h1, h2⟩ := cells_own hcs
   have hok := h.own i ow r.2 h1 h2
   rw [← e, e1, has_cell hok.has]; exact hv
 ·obtain ⟨v, hv⟩ := Option.ne_none_iff_exists'.1 hn
  rcases pub_some hv with hv | ⟨r, hrr, e, hv⟩
  ·exact ⟨h.old b o (by rw [hv]; simp), h.ngiv b o (by rw [hv]; simp)⟩
  ·obtain ⟨i, hi, e1, hcs⟩ := hr r hrr
   obtain ⟨ks, cs', hb⟩ := hmine i hi
   have hok := h.own i _ cs' hb rfl
   rcases hok.giv with ⟨hg, _⟩ | ⟨_, h1, h2⟩
   ·cases hg
   ·rw [← e, e1]; exact ⟨⟨.inr ⟨Nat.le_trans h.lt.1 h1, has_plain hok.has⟩, .inr h1⟩, h2⟩
 ·cases hp : pubMem bk (st.rows ps) u (bk id) o with
  | none => rfl
  | some v =>
   obtain ⟨ow, h1, h2⟩ := cells_own hcs
   have hok := h.own id ow cs h1 h2
   rcases pub_some hp with hv | ⟨r, hrr, e, hv⟩
   ·rw [hok.out o] at hv; cases hv
   ·obtain ⟨i, hi, e1, hcs'⟩ := hr r hrr
    exact absurd (e1 ▸ e) (h.apart i id _ _ hcs' hcs (fun e => hid (e ▸ hi)))
theorem after_blk {ms ps : List Nat} {kss : List (List CK)} (ys : CellsL S.ty kss) (hms : ∀ i ∈ ms, (st.cells i).isSome = true) (hmn : ms.Nodup) (hk : kss.length = ms.length) (hd : ∀ i ∈ ms, i ∉ ps) (i : Nat) :
  (i ∈ ps → ∀ ow cs, ((st.fresh ms kss ys).shut ps).blk i = some ow → ow.cs ≠ some cs) ∧
  (i ∉ ps → i ∉ ms → ((st.fresh ms kss ys).shut ps).blk i = st.blk i) ∧
  (∀ j : Nat, ms[j]? = some i → ∃ g k cs, ((st.fresh ms kss ys).shut ps).blk i = some ⟨g, k, some cs⟩ ∧ (denLL bk kss ys)[j]? = some (denL bk cs) ∧ idsL cs = [] ∧ ∀ o, st.blk i = some o → g = o.giv) ∧
  (live st i → live ((st.fresh ms kss ys).shut ps) i) := by
 have hb : ∀ i ∈ ms, ∃ o, st.blk i = some o := fun i hi => by
  obtain ⟨cs, hcs⟩ := Option.isSome_iff_exists.1 (hms i hi)
  obtain ⟨ow, h1, _⟩ := cells_own hcs
  exact ⟨ow, h1⟩
 obtain ⟨f1, f2⟩ := blk_fresh bk ms kss ys st hmn hk hb
 refine ⟨fun hi ow cs ho => ?_, fun hi hi' => ?_, fun j hj => ?_, fun hl => ?_⟩
 ·rw [blk_shut, if_pos hi] at ho
  cases hx : (st.fresh ms kss ys).blk i with
  | none => rw [hx] at ho; cases ho
  | some x => rw [hx] at ho; simp at ho; subst ho; simp
 ·rw [blk_shut, if_neg hi, f1 i hi']
 ·rw [blk_shut, if_neg (hd i (List.mem_of_getElem? hj))]
  exact f2 j i hj
 ·unfold live at *
  have h1 : ((st.fresh ms kss ys).blk i).isSome = true := by
   by_cases hi : i ∈ ms
   ·obtain ⟨j, hj⟩ := List.getElem?_of_mem hi
    obtain ⟨g, k, cs, h1, _⟩ := f2 j i hj
    rw [h1]; rfl
   ·rw [f1 i hi]; exact hl
  rw [blk_shut]
  split
  ·cases hx : (st.fresh ms kss ys).blk i with
   | none => rw [hx] at h1; cases h1
   | some x => rfl
  ·exact h1
theorem Rep.call (h : Rep c F st bk a w u) {ms ps : List Nat} (hms : ∀ i ∈ ms, (st.cells i).isSome = true) (hps : ∀ i ∈ ps, (st.cells i).isSome = true) (hmn : ms.Nodup) (hd : ∀ i ∈ ms, i ∉ ps)
  (hmine : ∀ i ∈ ps, ∃ ks cs, st.blk i = some ⟨false, ks, some cs⟩) {kss : List (List CK)} (ys : CellsL S.ty kss) (hk : kss.length = ms.length) {w' : World} {u2 : Mem}
  (hp : PostG c.base (fun k => ∃ o, pubMem bk (st.rows ps) u k o ≠ none) (rowsD bk (st.rows ms)) c.u0 w w' (denLL bk kss ys) u2) : Rep c F ((st.fresh ms kss ys).shut ps) bk a w' u2 := by
 obtain ⟨p1, p2, p3⟩ := pub_facts h hps hmine
 have hfst := rowsD_map (bk := bk) hms
 have hab := fun i => after_blk (bk := bk) (ps := ps) ys hms hmn hk hd i
 have hO : ∀ b, b ∈ (rowsD bk (st.rows ms)).map (·.1) → ∃ i ∈ ms, b = bk i := fun b hb => by
  rw [hfst] at hb; obtain ⟨i, hi, rfl⟩ := List.mem_map.1 hb; exact ⟨i, hi, rfl⟩
 -- where a block of the new state comes from
 have hfrom : ∀ i ow cs, ((st.fresh ms kss ys).shut ps).blk i = some ow → ow.cs = some cs → i ∉ ps ∧ ((i ∈ ms ∧ Has w' (bk i) (denL bk cs) ∧ idsL cs = [] ∧ ∃ o cs0, st.blk i = some o ∧ o.cs = some cs0 ∧ ow.giv = o.giv) ∨ (i ∉ ms ∧ st.blk i = some ow)) := by
  intro i ow cs ho hc
  have hip : i ∉ ps := fun hi => (hab i).1 hi ow cs ho hc
  refine ⟨hip, ?_⟩
  by_cases hi : i ∈ ms
  ·obtain ⟨j, hj⟩ := List.getElem?_of_mem hi
   obtain ⟨g, k, cs', h1, h2, h3, h4⟩ := (hab i).2.2.1 j hj
   rw [ho] at h1
   cases h1
   cases hc
   obtain ⟨cs0, hcs0⟩ := Option.isSome_iff_exists.1 (hms i hi)
   obtain ⟨o0, q1, q2⟩ := cells_own hcs0
   refine .inl ⟨hi, hp.has j (bk i) _ (by rw [hfst]; simp [hj]) h2, h3, o0, cs0, q1, q2, h4 o0 q1⟩
  ·exact .inr ⟨hi, by rw [← (hab i).2.1 hip hi]; exact ho⟩
 have hcells : ∀ i x, ((st.fresh ms kss ys).shut ps).cells i = some x → ∃ y, st.cells i = some y := fun i x hx => by
  obtain ⟨ow, h1, h2⟩ := cells_own hx
  rcases (hfrom i ow x h1 h2).2 with ⟨hi, _⟩ | ⟨hi, hb⟩
  ·exact Option.isSome_iff_exists.1 (hms i hi)
  ·exact ⟨x, by simp [St.cells, hb, h2]⟩
 have hg1 : ∀ b, b ∈ (rowsD bk (st.rows ms)).map (·.1) → b ∈ c.giv ∨ c.w0.heap.size ≤ b := fun b hb => by
  obtain ⟨i, hi, rfl⟩ := hO b hb
  obtain ⟨cs0, hcs0⟩ := Option.isSome_iff_exists.1 (hms i hi)
  obtain ⟨o0, q1, q2⟩ := cells_own hcs0
  rcases (h.own i o0 cs0 q1 q2).giv with h1 | h1
  ·exact .inl h1.2
  ·exact .inr h1.2.1
 refine ⟨h.defers, ?_, fun t e he => ?_, fun i ow cs ho hc => ?_, fun i j x y hx hy hij => ?_, hp.sees, fun b o hn => ?_, fun b o hn => ?_, ?_, ?_, h.lt, h.fix, fun i hi => ⟨(h.fixb i hi).1, (hab i).2.2.2 (h.fixb i hi).2⟩, h.sz⟩
 ·rw [(get_shut ps _ 0).2, (get_fresh ms kss ys st 0).2]; exact h.size
 ·rw [(get_shut ps _ t).1, (get_fresh ms kss ys st t).1] at he
  have := h.ent t e he
  exact ⟨this.lab, this.yes, this.no, fun hw i hi => (hab i).2.2.2 (this.live hw i hi), this.far⟩
 ·obtain ⟨hip, hh⟩ := hfrom i ow cs ho hc
  have hout : ∀ x, st.cells i = some x → ∀ o, u2 (bk i) o = none := fun x hx o => by
   cases hu : u2 (bk i) o with
   | none => rfl
   | some v =>
    obtain ⟨n1, n2⟩ := hp.new (bk i) o (by rw [hu]; simp)
    rcases n1 with ⟨o', n1⟩ | n1
    ·exact absurd (p3 i x hx hip o') n1
    ·obtain ⟨o0, q1, q2⟩ := cells_own hx
     have := has_lt (h.own i o0 x q1 q2).has
     omega
  rcases hh with ⟨hi, h1, h2, o0, cs0, q1, q2, q3⟩ | ⟨hi, hb⟩
  ·exact ⟨h1, hout cs0 (by simp [St.cells, q1, q2]), by rw [q3]; exact (h.own i o0 cs0 q1 q2).giv, by rw [h2]; simp⟩
  ·have hok := h.own i ow cs hb hc
   have hcs : st.cells i = some cs := by simp [St.cells, hb, hc]
   refine ⟨hok.has.block (hp.gro.block _ (has_lt hok.has) fun hb' => ?_), hout cs hcs, hok.giv, fun k hk => (hab k).2.2.2 (hok.live k hk)⟩
   rcases hb' with hb' | ⟨_, o', hb'⟩
   case inr => exact hb' (p3 i cs hcs hip o')
   obtain ⟨j, hj, e⟩ := hO _ hb'
   obtain ⟨cs0, hcs0⟩ := Option.isSome_iff_exists.1 (hms j hj)
   exact h.apart i j cs cs0 hcs hcs0 (fun e' => hi (e' ▸ hj)) e
 ·obtain ⟨x', hx'⟩ := hcells i x hx
  obtain ⟨y', hy'⟩ := hcells j y hy
  exact h.apart i j x' y' hx' hy' hij
 ·refine ⟨hp.nf b o hn, ?_⟩
  rcases (hp.new b o hn).1 with ⟨o', n1⟩ | n1
  ·exact (p2 b o' n1).1.2
  ·exact .inr (Nat.le_trans h.gro.size n1)
 ·obtain ⟨n1, n2⟩ := hp.new b o hn
  rcases n1 with ⟨o', n1⟩ | n1
  ·exact (p2 b o' n1).2
  ·intro hb
   have := h.lt.2 b hb
   have := h.gro.size
   omega
 ·exact ⟨hp.gro.os.trans h.gro.os, hp.gro.tape.trans h.gro.tape, hp.gro.output.trans h.gro.output, Nat.le_trans h.gro.size hp.gro.size, fun k hk hB =>
   (hp.gro.block k (Nat.lt_of_lt_of_le hk h.gro.size) fun hb => by
    rcases hb with hb | ⟨hb, o, ho⟩
    ·rcases hg1 k hb with h1 | h1
     ·exact hB (.inl h1)
     ·omega
    ·rcases (p2 k o ho).1.2 with h1 | h1
     ·exact hB (.inr ⟨hb, h1⟩)
     ·omega).trans (h.gro.block k hk hB)⟩
 ·exact hp.le
theorem Rep.bi (h : Rep c F st bk a w u) {ps : List Nat} (hps : ∀ i ∈ ps, (st.cells i).isSome = true) (hmine : ∀ i ∈ ps, ∃ ks cs, st.blk i = some ⟨false, ks, some cs⟩) {w' : World} {u2 : Mem}
  (hg : Gro (fun k => c.base ≤ k ∧ ∃ o, pubMem bk (st.rows ps) u k o ≠ none) w w') (hs : Sees u2 w') (hn : ∀ k o, u2 k o ≠ none → (∃ o', pubMem bk (st.rows ps) u k o' ≠ none) ∨ w.heap.size ≤ k)
  (hn2 : ∀ k o, u2 k o ≠ none → c.u0 k o ≠ none ∨ (c.base ≤ k ∧ Plain w' k)) (hle : c.u0.le u2) : Rep c F (st.shut ps) bk a w' u2 := by
 obtain ⟨p1, p2, p3⟩ := pub_facts h hps hmine
 have hfrom : ∀ i ow cs, (st.shut ps).blk i = some ow → ow.cs = some cs → i ∉ ps ∧ st.blk i = some ow := fun i ow cs ho hc => by
  rw [blk_shut] at ho
  split at ho
  ·rename_i hi
   cases hx : st.blk i with
   | none => rw [hx] at ho; cases ho
   | some x => rw [hx] at ho; simp at ho; subst ho; cases hc
  ·rename_i hi; exact ⟨hi, ho⟩
 have hcells : ∀ i x, (st.shut ps).cells i = some x → st.cells i = some x ∧ i ∉ ps := fun i x hx => by
  obtain ⟨ow, h1, h2⟩ := cells_own hx
  obtain ⟨q1, q2⟩ := hfrom i ow x h1 h2
  exact ⟨by simp [St.cells, q2, h2], q1⟩
 have hlive : ∀ i, live st i → live (st.shut ps) i := fun i hl => by
  unfold live at *
  rw [blk_shut]
  split
  ·cases hx : st.blk i with
   | none => rw [hx] at hl; cases hl
   | some x => rfl
  ·exact hl
 refine ⟨h.defers, ?_, fun t e he => ?_, fun i ow cs ho hc => ?_, fun i j x y hx hy hij => h.apart i j x y (hcells i x hx).1 (hcells j y hy).1 hij, hs, fun b o hb => ⟨hn2 b o hb, ?_⟩, fun b o hb => ?_, ?_, hle, h.lt, h.fix, fun i hi => ⟨(h.fixb i hi).1, hlive i (h.fixb i hi).2⟩, h.sz⟩
 ·rw [(get_shut ps _ 0).2]; exact h.size
 ·rw [(get_shut ps _ t).1] at he
  have := h.ent t e he
  exact ⟨this.lab, this.yes, this.no, fun hw i hi => hlive i (this.live hw i hi), this.far⟩
 ·obtain ⟨hip, hb⟩ := hfrom i ow cs ho hc
  have hok := h.own i ow cs hb hc
  have hcs : st.cells i = some cs := by simp [St.cells, hb, hc]
  refine ⟨hok.has.block (hg.block _ (has_lt hok.has) fun ⟨_, o, hb'⟩ => hb' (p3 i cs hcs hip o)), fun o => ?_, hok.giv, fun k hk => hlive k (hok.live k hk)⟩
  cases hu : u2 (bk i) o with
  | none => rfl
  | some v =>
   rcases hn (bk i) o (by rw [hu]; simp) with ⟨o', n1⟩ | n1
   ·exact absurd (p3 i cs hcs hip o') n1
   ·have := has_lt hok.has; omega
 ·rcases hn b o hb with ⟨o', n1⟩ | n1
  ·exact (p2 b o' n1).1.2
  ·exact .inr (Nat.le_trans h.gro.size n1)
 ·rcases hn b o hb with ⟨o', n1⟩ | n1
  ·exact (p2 b o' n1).2
  ·intro hb'
   have := h.lt.2 b hb'
   have := h.gro.size
   omega
 ·exact ⟨hg.os.trans h.gro.os, hg.tape.trans h.gro.tape, hg.output.trans h.gro.output, Nat.le_trans h.gro.size hg.size, fun k hk hB =>
   (hg.block k (Nat.lt_of_lt_of_le hk h.gro.size) fun ⟨hb, o, ho⟩ => by
    rcases (p2 k o ho).1.2 with h1 | h1
    ·exact hB (.inr ⟨hb, h1⟩)
    ·omega).trans (h.gro.block k hk hB)⟩
theorem resSV_ids' (rs : List RT) (ys : List (SV S.ty)) (hys : idsL ys = []) : (resSV rs ys).ids = [] := by
 have key : ∀ (rs : List RT) (xs : List (SV S.ty)), idsL xs = [] → idsL (resL rs xs) = [] := by
  intro rs
  induction rs with
  | nil => intro xs _; rfl
  | cons r rs ih =>
   intro xs hx
   obtain ⟨b, l⟩ := r
   have hsub : ∀ ys : List (SV S.ty), (∀ y ∈ ys, y ∈ xs) → idsL ys = [] := fun ys hy => by
    rw [List.eq_nil_iff_forall_not_mem]
    intro i hi
    obtain ⟨y, h1, h2⟩ := mem_idsL.1 hi
    have : i ∈ idsL xs := mem_idsL.2 ⟨y, hy y h1, h2⟩
    rw [hx] at this; cases this
   cases b
   ·simp only [resL, idsL, ih _ (hsub _ fun y hy => List.mem_of_mem_drop hy), List.append_nil]
    cases xs with
    | nil => rfl
    | cons x r => simp only [idsL, List.append_eq_nil_iff] at hx; exact hx.1
   ·simp only [resL, idsL, ih _ (hsub _ fun y hy => List.mem_of_mem_drop hy), List.append_nil, SV.ids]
    exact hsub _ fun y hy => List.mem_of_mem_take hy
 have := key rs _ hys
 unfold resSV
 split
 ·rename_i y hy
  rw [hy] at this
  simpa [idsL] using this
 ·simpa [SV.ids] using this
theorem resSV_ids (rs : List RT) (l : List CK) (x : Cells S.ty l) : (resSV rs (cellsSV l x)).ids = [] := resSV_ids' rs _ (cellsSV_ids l x)
theorem zeroSV_ids : ∀ l : List CK, idsL (zeroSV l : List (SV S.ty)) = []
 | [] => rfl
 | k :: r => by cases k <;> simp [zeroSV, idsL, SV.ids, zeroSV_ids r]
theorem NoRes.ids {rs : List RT} {x : SV S.ty} (h : NoRes rs x) : x.ids = [] := by
 rcases h with rfl | rfl
 ·exact resSV_ids _ _ _
 ·exact resSV_ids' _ _ (zeroSV_ids _)
theorem op_sound (hN : Names P) {fl : Flag} (h : Rep c F st bk a w u) (hF : ∀ t, o.dst = some t → F t) (hfx : ∀ t, o.dst = some t → ¬ c.fx t)
  (hd : ∀ e ∈ o.after, Region.binds .any e = true → ∀ t, (ops[e.on]?).bind (·.dst) = some t → ¬ F t)
  (he : EV P c.u0 ops fl o st bk u K) : Op1 P ops o (Nxt c (fun t => F t ∧ o.dst ≠ some t) K) Q a w := by
 unfold EV at he
 rcases hg : guardOf ops st o with _ | ⟨lab, g⟩
 ·simp only [hg] at he
 simp only [hg] at he
 obtain ⟨g1, g2, g3⟩ := guard_spec h hg hd
 -- not wanted
 have hno : ∀ x : SV S.ty, g.den = false → K (st.put o.dst ⟨lab, g, x⟩) bk u → Op1 P ops o (Nxt c (fun t => F t ∧ o.dst ≠ some t) K) Q a w := fun x hgd hK => by
  unfold Op1
  rw [g2, hgd]
  exact ⟨_, _, _, h.putE hF hfx g1 g3 (fun e => by rw [hgd] at e; cases e) (fun _ => rfl) (fun e => by rw [hgd] at e; cases e), hK⟩
 have htrue : lab = [] → g.den = true := fun e => g1.2 (by rw [e]; intro l hl; cases hl)
 generalize hr : res P st lab o = r at he
 rcases r with _ | ⟨obs, x⟩ | ⟨obs, id, off, xs⟩ | ⟨obs, ow, x⟩ | ⟨A, k, ag, ks⟩ | ⟨obs, A, k, xs⟩ | ⟨f, args, rs⟩ | ⟨p, args, rs⟩ <;> dsimp only at he
 ·-- put
  cases hgd : g.den
  ·exact hno x hgd he.2.2
  ·have hv := res_put h (g1.1 hgd) hr fun p hp => he.2.1 p hp hgd
   unfold Op1
   rw [g2, hgd]
   simp only [if_true, Oper.wp, hv.1, Oper.upon]
   exact ⟨_, _, _, h.putE hF hfx g1 g3 (fun _ => rfl) (fun e => by rw [hgd] at e; cases e) (fun _ => hv.2), he.2.2⟩
 ·-- sto
  split at he
  ·rename_i gv ks cs hb
   have hgd := htrue rfl
   obtain ⟨hd0, hl, cs', hcs, hlen, hrun⟩ := res_sto h (g1.1 hgd) hr fun p hp => he.2.1 p hp hgd
   have e1 : cs' = cs := by simp [St.cells, hb] at hcs; exact hcs.symm
   subst e1
   have hok := h.own id _ cs' hb rfl
   have hh := setCells_has (bk id) (denL bk xs) off w (denL bk cs') hok.has (by simp only [denL_len]; exact hlen)
   unfold Op1
   rw [g2, hgd]
   simp only [if_true, Oper.wp, hrun, Oper.upon]
   refine ⟨_, _, _, ?_, he.2.2⟩
   have e2 : a.put o.dst undef = a := by rw [hd0]; rfl
   rw [e2]
   refine (h.setCells hb rfl (gro_setCells (bk id) off (denL bk xs) w) (setCells_size _ _ _ _) (cs' := cs'.take off ++ xs ++ cs'.drop (off + xs.length)) ?_ ?_ ⟨gv, ks, some (cs'.take off ++ xs ++ cs'.drop (off + xs.length))⟩ rfl rfl).mono fun t ht => ht.1
   ·simp only [denL_app, denL_take, denL_drop]; rw [denL_len] at hh; exact hh
   ·intro i hi
    rw [idsL_app, idsL_app, List.mem_append, List.mem_append] at hi
    rcases hi with (hi | hi) | hi
    ·exact hok.live i (by obtain ⟨y, hy, hz⟩ := mem_idsL.1 hi; exact mem_idsL.2 ⟨y, List.mem_of_mem_take hy, hz⟩)
    ·exact hl i hi
    ·exact hok.live i (by obtain ⟨y, hy, hz⟩ := mem_idsL.1 hi; exact mem_idsL.2 ⟨y, List.mem_of_mem_drop hy, hz⟩)
  ·exact he.elim
 ·-- new
  split at he
  ·rename_i d hdst
   obtain ⟨n1, n2, n3, n4, n5⟩ := he
   by_cases hgd : g.den = true
   case neg =>
    have hgd : g.den = false := by simpa using hgd
    obtain ⟨y, _, hy⟩ := n5 hgd
    exact hno y hgd (by rw [hdst]; exact hy)
   obtain ⟨d', cs, t, e1, e2, e3, e4, e5, hrun⟩ := res_new h (g1.1 hgd) hr fun p hp => n3 p hp hgd
   rw [hdst] at e1; cases e1
   have hnone : st.blk d = none := by simpa using n1
   have hne : ∀ i, live st i → i ≠ d := fun i hi e => by subst e; unfold live at hi; rw [hnone] at hi; cases hi
   have hun : ∀ o, u w.heap.size o = none := fun o => by
    cases hu : u w.heap.size o with
    | none => rfl
    | some v => exact absurd (cell_lt (h.sees _ _ _ hu)) (Nat.lt_irrefl _)
   have hden : ∀ l : List (SV S.ty), (∀ i ∈ idsL l, live st i) → denL (upd bk d w.heap.size) l = denL bk l := fun l hl => denL_congr l fun i hi => by unfold upd; rw [if_neg (hne i (hl i hi))]
   -- the state with the new block, before the temporary is written
   have hgw : Gro (fun _ => False) w (w.alloc (.cells (denL bk cs).toArray t (0, 0))) := (Gro.refl _ w).alloc _
   have hw' := h.world hgw (fun _ h => h.elim) (fun _ _ _ h => h) (fun _ _ _ h => h)
   have hblk : ∀ i, (st.setOwn d (some ow)).blk i = if i = d then some ow else st.blk i := fun i => by
    rw [blk_setOwn]
    by_cases hi : i = d
    ·rw [if_pos ⟨hi, n2⟩, if_pos hi]
    ·rw [if_neg (fun hh => hi hh.1), if_neg hi]
   have hlt : ∀ i cs, st.cells i = some cs → bk i < w.heap.size := fun i cs hc => by
    obtain ⟨o', q1, q2⟩ := cells_own hc
    exact has_lt (h.own i o' cs q1 q2).has
   have hrep : Rep c F (st.setOwn d (some ow)) (upd bk d w.heap.size) a (w.alloc (.cells (denL bk cs).toArray t (0, 0))) u := by
    refine ⟨h.defers, h.size, fun t' e he => ?_, fun i o' cs' ho hc => ?_, fun i j x' y' hx hy hij => ?_, hw'.sees, hw'.old, h.ngiv, hw'.gro, h.le, h.lt, h.fix, fun i hi => ⟨by unfold upd; rw [if_neg (hne i (h.fixb i hi).2)]; exact (h.fixb i hi).1, live_setOwn (h.fixb i hi).2⟩, h.sz⟩
    ·have ho := h.ent t' e he
     refine ⟨ho.lab, fun hw => ?_, ho.no, fun hw i hi => live_setOwn (ho.live hw i hi), ho.far⟩
     rw [ho.yes hw]
     exact den_congr _ fun i hi => by unfold upd; rw [if_neg (hne i (ho.live hw i hi))]
    ·rw [hblk] at ho
     split at ho
     ·rename_i hi
      cases ho
      subst hi
      rw [e2] at hc; cases hc
      have eb : upd bk i w.heap.size i = w.heap.size := by unfold upd; rw [if_pos rfl]
      refine ⟨?_, fun o => by rw [eb]; exact hun o, .inr ⟨e3, by rw [eb]; exact h.gro.size, by rw [eb]; intro hb; have := h.lt.2 _ hb; have := h.gro.size; omega⟩, fun k hk => live_setOwn (e4 k hk)⟩
      rw [eb, hden cs e4]
      exact ⟨t, heap_alloc_new w _⟩
     ·rename_i hi
      have hok := hw'.own i o' cs' ho hc
      have eb : upd bk d w.heap.size i = bk i := by unfold upd; rw [if_neg hi]
      exact ⟨by rw [eb, hden cs' hok.live]; exact hok.has, by rw [eb]; exact hok.out, by rw [eb]; exact hok.giv, fun k hk => live_setOwn (hok.live k hk)⟩
    ·rw [cells_setOwn _ _ _ _ n2] at hx hy
     unfold upd
     by_cases hi : i = d
     ·have hj : ¬ j = d := fun e => hij (hi.trans e.symm)
      rw [if_neg hj] at hy
      rw [if_pos hi, if_neg hj]
      have := hlt j y' hy
      omega
     ·rw [if_neg hi] at hx
      rw [if_neg hi]
      by_cases hj : j = d
      ·rw [if_pos hj]
       have := hlt i x' hx
       omega
      ·rw [if_neg hj] at hy
       rw [if_neg hj]
       exact h.apart i j x' y' hx hy hij
   unfold Op1
   rw [g2, hgd]
   simp only [if_true, Oper.wp, hrun, Oper.upon]
   rw [hdst]
   have hF' : ∀ t, some d = some t → F t := fun t ht => hF t (by rw [hdst]; exact ht)
   refine ⟨_, _, _, hrep.putE hF' (fun t ht => hfx t (by rw [hdst]; exact ht)) g1 g3 (fun _ => rfl) (fun e => by rw [hgd] at e; cases e) (fun _ i hi => ?_), n4 hgd w.heap.size hun⟩
   rw [e5] at hi
   simp at hi
   subst hi
   unfold live
   rw [hblk, if_pos rfl]; rfl
  ·exact he.elim
 ·-- uld
  cases hgd : g.den
  ·obtain ⟨y, hy, hK⟩ := he.2 hgd
   exact hno y hgd hK
  ·obtain ⟨x, hx, y, hy, hK⟩ := he.1 hgd
   have hv := res_uld h (g1.1 hgd) hr hx hy
   unfold Op1
   rw [g2, hgd]
   simp only [if_true, Oper.wp, hv, Oper.upon]
   refine ⟨_, _, _, h.putE hF hfx g1 g3 (fun _ => rfl) (fun e => by rw [hgd] at e; cases e) (fun _ i hi => ?_), hK⟩
   have := pack_ids hy i hi
   rw [cellsSV_ids] at this
   cases this
 ·-- ust
  split at he
  ·obtain ⟨_, n0, b, f, hA, hb0, hb1, hK⟩ := he
   have hgd := htrue rfl
   have hsome : ∀ j, j < xs.length → ∃ v, u b (f + k.den + j) = some v := fun j hj => Option.ne_none_iff_exists'.1 (hb1 j hj)
   have hold : ∀ i, u b i ≠ none → c.base ≤ b ∧ Plain w b := fun i hi => by
    rcases (h.old b i hi).1 with h1 | h1
    ·exact absurd (hb0 i) h1
    ·exact h1
   have hc : ∀ j, j < xs.length → (w.cell? ⟨b, f + k.den + j, none⟩).isSome = true := fun j hj => by
    obtain ⟨v, hv⟩ := hsome j hj; rw [h.sees _ _ _ hv]; rfl
   obtain ⟨hd0, hrun⟩ := res_ust h (g1.1 hgd) hr (fun p hp => n0 p hp hgd) hA hc fun j hj => (hold _ (hb1 j hj)).2.frozen _
   unfold Op1
   rw [g2, hgd]
   simp only [if_true, Oper.wp, hrun, Oper.upon]
   have e2 : a.put o.dst undef = a := by rw [hd0]; rfl
   rw [e2]
   refine ⟨_, _, _, ?_, hK⟩
   by_cases hx : xs.length = 0
   ·have e : xs = [] := List.eq_nil_of_length_eq_zero hx
    subst e
    have em : u.set b (f + k.den) (denL bk []) = u := by
     funext b' o'
     exact if_neg (fun hh => by simp only [denL, List.length_nil, Nat.add_zero] at hh; omega)
    rw [em]
    exact h.mono fun t ht => ht.1
   ·have hvis := hold _ (hb1 0 (by omega))
    have hout : ∀ id cs, st.cells id = some cs → bk id ≠ b := fun id cs hcs e => by
     obtain ⟨o', q1, q2⟩ := cells_own hcs
     exact hb1 0 (by omega) (by rw [← e]; exact (h.own id o' cs q1 q2).out _)
    have hcell := setCells_cell b (denL bk xs) (f + k.den) w (by simpa only [denL_len] using hc)
    have hset : ∀ b' o', (u.set b (f + k.den) (denL bk xs)) b' o' ≠ none → u b' o' ≠ none := fun b' o' hn => by
     unfold Mem.set at hn
     split at hn
     ·rename_i hcnd
      obtain ⟨rfl, h1, h2⟩ := hcnd
      have := hb1 (o' - (f + k.den)) (by rw [denL_len] at h2; omega)
      rwa [show f + k.den + (o' - (f + k.den)) = o' by omega] at this
     ·exact hn
    have hg := gro_setCells b (f + k.den) (denL bk xs) w
    refine Rep.mono (F := F) (fun t ht => ht.1) ⟨h.defers, h.size, h.ent, fun id o' cs ho hc' => ?_, h.apart, fun b' o' v hv => ?_, fun b' o' hn => ?_, fun b' o' hn => h.ngiv b' o' (hset b' o' hn), ?_, fun b' o' v hv => ?_, h.lt, h.fix, h.fixb, h.sz⟩
    ·have hok := h.own id o' cs ho hc'
     have hne := hout id cs (by simp [St.cells, ho, hc'])
     refine ⟨hok.has.block (hg.block _ (has_lt hok.has) hne), fun o'' => ?_, hok.giv, hok.live⟩
     unfold Mem.set
     rw [if_neg (fun hh => hne hh.1)]
     exact hok.out o''
    ·unfold Mem.set at hv
     split at hv
     ·rename_i hcnd
      obtain ⟨rfl, h1, h2⟩ := hcnd
      rw [hcell, if_pos ⟨h1, h2⟩]
      exact hv
     ·rename_i hcnd
      by_cases hbb : b' = b
      ·subst hbb
       rw [hcell, if_neg (fun hh => hcnd ⟨rfl, hh.1, hh.2⟩)]
       exact h.sees _ _ _ hv
      ·rw [cell_eq (setCells_other b _ _ _ _ hbb)]
       exact h.sees _ _ _ hv
    ·refine ⟨(h.old b' o' (hset b' o' hn)).1.imp (fun h => h) fun h1 => ⟨h1.1, ?_⟩, (h.old b' o' (hset b' o' hn)).2⟩
     exact plain_setCells b _ _ _ _ h1.2
    ·exact ⟨hg.os.trans h.gro.os, hg.tape.trans h.gro.tape, hg.output.trans h.gro.output, Nat.le_trans h.gro.size hg.size, fun k' hk' hB => (hg.block k' (Nat.lt_of_lt_of_le hk' h.gro.size) (fun e => by
      rcases (h.old b _ (hb1 0 (by omega))).2 with h1 | h1
      ·exact hB (.inr (e ▸ ⟨hvis.1, h1⟩))
      ·omega)).trans (h.gro.block k' hk' hB)⟩
    ·have hne : b' ≠ b := fun e => by rw [e, hb0] at hv; cases hv
     unfold Mem.set
     rw [if_neg (fun hh => hne hh.1)]
     exact h.le b' o' v hv
  ·exact he.elim
 ·-- call
  obtain ⟨c1, c2, c3, c4, c5, c7, c8⟩ := he
  generalize hms : st.close 40 ((args.map (SV.direct (isAs P f))).flatten) [] = ms at *
  generalize hps : st.close 40 ((args.map (SV.seen (isAs P f))).flatten) [] = ps at *
  have hmc : ∀ i ∈ ms, (st.cells i).isSome = true := by rw [← hms]; exact close_cells 40 _ [] (by simp)
  have hpc : ∀ i ∈ ps, (st.cells i).isSome = true := by rw [← hps]; exact close_cells 40 _ [] (by simp)
  have hmn := nodupB_nodup c2
  have hpn := nodupB_nodup c3
  have hmine := mine_spec c4
  have hdis : ∀ i ∈ ms, i ∉ ps := fun i hi => disjB_not c1 hi
  cases hgd : g.den
  ·obtain ⟨x, _, hx⟩ := c8 hgd
   exact hno x hgd hx
  ·have hrun := res_call hN h (g1.1 hgd) hr
   obtain ⟨p1, p2, p3⟩ := pub_facts h hpc hmine
   have hcv := pubTo_at (c7 hgd) (by have := bk_nodup h hpn hpc; rw [rows_map hpc, List.map_map]; exact this) (fun r hr o => by
    rw [rows_map hpc] at hr
    obtain ⟨i, hi, rfl⟩ := List.mem_map.1 hr
    obtain ⟨cs, hcs⟩ := Option.isSome_iff_exists.1 (hpc i hi)
    obtain ⟨ow, q1, q2⟩ := cells_own hcs
    exact (h.own i ow cs q1 q2).out o)
   have hcall := hcv.toCG c.base w p1 (fun k o hk => (p2 k o hk).1.1) (Nat.le_trans h.lt.1 h.gro.size) (Mem.le_trans h.le (pub_le _)) (fun x hx => by
    rw [rows_map hmc] at hx
    simp only [rowsD, List.map_map, List.mem_map, Function.comp_apply] at hx
    obtain ⟨i, hi, rfl⟩ := hx
    obtain ⟨cs, hcs⟩ := Option.isSome_iff_exists.1 (hmc i hi)
    obtain ⟨ow, q1, q2⟩ := cells_own hcs
    refine ⟨by simp only [hcs, Option.getD_some]; exact (h.own i ow cs q1 q2).has, p3 i cs hcs (hdis i hi)⟩) (by rw [rowsD_map hmc]; exact bk_nodup h hmn hmc)
   unfold Op1
   rw [g2, hgd]
   simp only [if_true, Oper.wp, hrun.1, Oper.upon]
   refine hcall.mono fun e w' hh => ?_
   obtain ⟨v, cs, u2, rfl, hpost, xs, ys, e1, e2, hK⟩ := hh
   subst e2
   have hrep := h.call hmc hpc hmn hdis hmine ys (kss_len hmc) hpost
   have hout : Out ((st.fresh ms (st.kss ms) ys).shut ps) bk u2 := fun i cs hcs o => by
    obtain ⟨ow, q1, q2⟩ := cells_own hcs
    exact (hrep.own i ow cs q1 q2).out o
   refine ⟨_, _, _, Rep.putE hrep hF hfx g1 g3 (fun _ => e1) (fun e => by rw [hgd] at e; cases e) (fun _ i hi => ?_), hK hout⟩
   rw [resSV_ids] at hi
   cases hi
 ·-- bi
  obtain ⟨c3, c4, c6, _, c7, c8⟩ := he
  generalize hps : st.close 40 ((args.map (SV.seen false)).flatten) [] = ps at *
  have hpc : ∀ i ∈ ps, (st.cells i).isSome = true := by rw [← hps]; exact close_cells 40 _ [] (by simp)
  have hpn := nodupB_nodup c3
  have hmine := mine_spec c4
  cases hgd : g.den
  ·have hlab : ¬ lab = [] := fun e => by have := htrue e; rw [hgd] at this; cases this
   have hp0 := c6.resolve_left hlab
   subst hp0
   exact hno _ hgd (c8 hgd)
  ·obtain ⟨p1, p2, p3⟩ := pub_facts h hpc hmine
   have hbv := pubTo_at (c7 hgd) (by have := bk_nodup h hpn hpc; rw [rows_map hpc, List.map_map]; exact this) (fun r hr o => by
    rw [rows_map hpc] at hr
    obtain ⟨i, hi, rfl⟩ := List.mem_map.1 hr
    obtain ⟨cs, hcs⟩ := Option.isSome_iff_exists.1 (hpc i hi)
    obtain ⟨ow, q1, q2⟩ := cells_own hcs
    exact (h.own i ow cs q1 q2).out o)
   obtain ⟨v, w', u2, hrun, b1, b2, b3, b4, b5, xs, e1, hK⟩ := hbv c.base w p1 (fun k o hn => (p2 k o hn).1.1) (Nat.le_trans h.lt.1 h.gro.size) (Mem.le_trans h.le (pub_le _))
   have hv := res_bi hN h (g1.1 hgd) hr hrun
   unfold Op1
   rw [g2, hgd]
   simp only [if_true, Oper.wp, hv.1, Oper.upon]
   have hrep := h.bi hpc hmine b1 b2 b3 b4 b5
   have hout : Out (st.shut ps) bk u2 := fun i cs hcs o => by
    obtain ⟨ow, q1, q2⟩ := cells_own hcs
    exact (hrep.own i ow cs q1 q2).out o
   refine ⟨_, _, _, Rep.putE hrep hF hfx g1 g3 (fun _ => e1) (fun e => by rw [hgd] at e; cases e) (fun _ i hi => ?_), hK hout⟩
   rw [resSV_ids] at hi
   cases hi
end
end Go.Proofs.YtpfbimkpcnnfkaaGreatDoor.Sx
