/- Sx: what a tree says (Hold), without worlds: contracts over views of the memory (CV). Nothing of the program. -/
import Derived.Test.YtpfbimkpcnnfkaaGreatDoorSx2
set_option linter.unusedVariables false
set_option linter.unusedSimpArgs false
namespace Go.Proofs.YtpfbimkpcnnfkaaGreatDoor.Sx
open Go Go.Proofs.YtpfbimkpcnnfkaaGreatDoor
abbrev Mem := Nat → Nat → Option Value
def Mem.le (u v : Mem) : Prop := ∀ b o x, u b o = some x → v b o = some x
theorem Mem.le_refl (u : Mem) : u.le u := fun _ _ _ h => h
theorem Mem.le_trans {u v w : Mem} (h : u.le v) (h' : v.le w) : u.le w := fun b o x hx => h' b o x (h b o x hx)
def Plain (w : World) (b : Nat) : Prop := ∃ c t, w.heap[b]? = some (.cells c t (0, 0))
def Sees (u : Mem) (w : World) : Prop := ∀ b o x, u b o = some x → w.cell? ⟨b, o, none⟩ = some x
def Has (w : World) (b : Nat) (cs : List Value) : Prop := ∃ t, w.heap[b]? = some (.cells cs.toArray t (0, 0))
structure Post (O : List (Nat × List Value)) (u : Mem) (w w' : World) (cs : List (List Value)) (u' : Mem) : Prop where
 gro : Gro (· ∈ O.map (·.1)) w w'
 len : cs.length = O.length
 has : ∀ (j : Nat) b c, (O.map (·.1))[j]? = some b → cs[j]? = some c → Has w' b c
 sees : Sees u' w'
 le : u.le u'
 new : ∀ b o, u' b o ≠ none → (u b o ≠ none ∨ w.heap.size ≤ b) ∧ b ∉ O.map (·.1)
 nf : ∀ b o, u' b o ≠ none → u b o ≠ none ∨ Plain w' b
structure PostG (base : Nat) (wr : Nat → Prop) (O : List (Nat × List Value)) (u0 : Mem) (w w' : World) (cs : List (List Value)) (u' : Mem) : Prop where
 gro : Gro (fun k => k ∈ O.map (·.1) ∨ (base ≤ k ∧ wr k)) w w'
 len : cs.length = O.length
 has : ∀ (j : Nat) b c, (O.map (·.1))[j]? = some b → cs[j]? = some c → Has w' b c
 sees : Sees u' w'
 le : u0.le u'
 new : ∀ b o, u' b o ≠ none → (wr b ∨ w.heap.size ≤ b) ∧ b ∉ O.map (·.1)
 nf : ∀ b o, u' b o ≠ none → u0 b o ≠ none ∨ (base ≤ b ∧ Plain w' b)
def CV (P : Program) (f : FuncId) (args : List Value) (O : List (Nat × List Value)) (u : Mem) (R : Value → List (List Value) → Mem → Prop) : Prop :=
 ∀ w, Sees u w → (∀ x ∈ O, Has w x.1 x.2 ∧ ∀ o, u x.1 o = none) → (O.map (·.1)).Nodup →
  Calls P f args.toArray w fun e w' => ∃ v cs u', e = .returned v ∧ Post O u w w' cs u' ∧ R v cs u'
theorem CV.mono' {P : Program} {f : FuncId} {args : List Value} {O : List (Nat × List Value)} {u : Mem} {R R' : Value → List (List Value) → Mem → Prop}
  (h : CV P f args O u R) (hR : ∀ v cs u', u.le u' → R v cs u' → R' v cs u') : CV P f args O u R' :=
 fun w hs hO hn => (h w hs hO hn).mono fun e w' ⟨v, cs, u', he, hp, hr⟩ => ⟨v, cs, u', he, hp, hR v cs u' hp.le hr⟩
def CG (P : Program) (f : FuncId) (args : List Value) (O : List (Nat × List Value)) (u0 u : Mem) (R : Value → List (List Value) → Mem → Prop) : Prop :=
 ∀ (base : Nat) (w : World), Sees u w → (∀ k o, u k o ≠ none → u0 k o ≠ none ∨ (base ≤ k ∧ Plain w k)) → base ≤ w.heap.size → u0.le u → (∀ x ∈ O, Has w x.1 x.2 ∧ ∀ o, u x.1 o = none) → (O.map (·.1)).Nodup →
  Calls P f args.toArray w fun e w' => ∃ v cs u', e = .returned v ∧ PostG base (fun k => ∃ o, u k o ≠ none) O u0 w w' cs u' ∧ R v cs u'
theorem CG.mono' {P : Program} {f : FuncId} {args : List Value} {O : List (Nat × List Value)} {u0 u : Mem} {R R' : Value → List (List Value) → Mem → Prop}
  (h : CG P f args O u0 u R) (hR : ∀ v cs u', u0.le u' → R v cs u' → R' v cs u') : CG P f args O u0 u R' :=
 fun base w h1 h2 h3 h4 h5 h6 => (h base w h1 h2 h3 h4 h5 h6).mono fun e w' ⟨v, cs, u', he, hp, hr⟩ => ⟨v, cs, u', he, hp, hR v cs u' hp.le hr⟩
theorem CV.toCG {P : Program} {f : FuncId} {args : List Value} {O : List (Nat × List Value)} {u0 u : Mem} {R : Value → List (List Value) → Mem → Prop} (h : CV P f args O u R) : CG P f args O u0 u R := by
 intro base w h1 h2 h3 h4 h5 h6
 refine (h w h1 h5 h6).mono fun e w' ⟨v, cs, u', he, hp, hr⟩ => ⟨v, cs, u', he, ⟨⟨hp.gro.os, hp.gro.tape, hp.gro.output, hp.gro.size, fun k hk hB => hp.gro.block k hk fun hb => hB (.inl hb)⟩, hp.len, hp.has, hp.sees, Mem.le_trans h4 hp.le, fun b o hb => ?_, fun b o hb => ?_⟩, hr⟩
 ·exact ⟨(hp.new b o hb).1.imp (fun h => ⟨o, h⟩) id, (hp.new b o hb).2⟩
 ·have hlt : ∀ o', u b o' ≠ none → b < w.heap.size := fun o' ho => by
   obtain ⟨v, hv⟩ := Option.ne_none_iff_exists'.1 ho
   have := h1 b o' v hv
   unfold World.cell? at this
   rcases Nat.lt_or_ge b w.heap.size with h | h
   ·exact h
   ·simp [Array.getElem?_eq_none h] at this
  rcases hp.nf b o hb with h7 | h7
  ·rcases h2 b o h7 with h8 | h8
   ·exact .inl h8
   ·obtain ⟨c, t, e⟩ := h8.2
    exact .inr ⟨h8.1, c, t, (hp.gro.block b (hlt o h7) (hp.new b o hb).2).trans e⟩
  ·rcases (hp.new b o hb).1 with h8 | h8
   ·rcases h2 b o h8 with h9 | h9
    ·exact .inl h9
    ·exact .inr ⟨h9.1, h7⟩
   ·exact .inr ⟨Nat.le_trans h3 h8, h7⟩
theorem CG.toCV {P : Program} {f : FuncId} {args : List Value} {O : List (Nat × List Value)} {u : Mem} {R : Value → List (List Value) → Mem → Prop} (h : CG P f args O u u R) : CV P f args O u R := by
 intro w h1 h5 h6
 refine (h w.heap.size w h1 (fun k o hk => .inl hk) (Nat.le_refl _) (Mem.le_refl u) h5 h6).mono fun e w' ⟨v, cs, u', he, hp, hr⟩ => ⟨v, cs, u', he, ⟨⟨hp.gro.os, hp.gro.tape, hp.gro.output, hp.gro.size, fun k hk hB => hp.gro.block k hk fun hb => ?_⟩, hp.len, hp.has, hp.sees, hp.le, fun b o hb => ?_, fun b o hb => ?_⟩, hr⟩
 ·rcases hb with hb | hb
  ·exact hB hb
  ·omega
 ·exact ⟨(hp.nf b o hb).imp id (·.1), (hp.new b o hb).2⟩
 ·exact (hp.nf b o hb).imp id (·.2)
def CC (P : Program) (f : FuncId) (args : List Value) (q : Bool) (O : List (Nat × List Value)) (u0 u : Mem) (R : Value → List (List Value) → Mem → Prop) : Prop :=
 match q with
 | true => CG P f args O u0 u R
 | false => CV P f args O u R
section
variable {P : Program} {f : FuncId} {args : List Value} {q q' : Bool} {O : List (Nat × List Value)} {u0 u : Mem} {R R' : Value → List (List Value) → Mem → Prop}
theorem CC.mono (h : CC P f args q O u0 u R) (hR : ∀ v cs u', R v cs u' → R' v cs u') : CC P f args q O u0 u R' := by
 cases q
 ·exact CV.mono' h fun v cs u' _ => hR v cs u'
 ·exact CG.mono' h fun v cs u' _ => hR v cs u'
theorem CC.toCG (h : CC P f args q O u0 u R) : CG P f args O u0 u R := by
 cases q
 ·exact CV.toCG h
 ·exact h
theorem CV.toCC (h : CV P f args O u R) : CC P f args q O u0 u R := by
 cases q
 ·exact h
 ·exact h.toCG
theorem CC.of (hq : q = true → q' = true) (h : CC P f args q O u0 u R) : CC P f args q' O u0 u R := by
 cases q
 ·exact CV.toCC h
 ·rw [hq rfl]; exact h
theorem CV.mono (h : CV P f args O u R) (hR : ∀ v cs u', u.le u' → R v cs u' → R' v cs u') : CC P f args q O u0 u R' := (h.mono' hR).toCC
theorem CG.mono (h : CG P f args O u0 u R) (hR : ∀ v cs u', u0.le u' → R v cs u' → R' v cs u') : CC P f args true O u0 u R' := h.mono' hR
end
def Prim.Run (P : Program) (p : Prim) (args : List Value) (w : World) (v : Value) (w' : World) : Prop :=
 match p with
 | .bi b ts ty => ∀ cs : Array Bool, (builtin b ts ty cs args.toArray).run P w = .ok (.value v) w'
 | .mk t => match args with | [x, y] => (Instr.makeSlice t x y).run P w = .ok v w' | _ => False
 | .ext f => (callFunc f args.toArray).run P w = .ok (.value v) w'
 | .emp t => (Instr.buildSlice t 0 #[]).run P w = .ok v w'
 | .conv s d => match args with | [x] => (convert s d x).run P w = .ok v w' | _ => False
def BV (P : Program) (p : Prim) (args : List Value) (u0 u : Mem) (R : Value → Mem → Prop) : Prop :=
 ∀ (base : Nat) (w : World), Sees u w → (∀ k o, u k o ≠ none → u0 k o ≠ none ∨ (base ≤ k ∧ Plain w k)) → base ≤ w.heap.size → u0.le u →
  ∃ v w' u', p.Run P args w v w' ∧ Gro (fun k => base ≤ k ∧ ∃ o, u k o ≠ none) w w' ∧ Sees u' w' ∧
   (∀ k o, u' k o ≠ none → (∃ o', u k o' ≠ none) ∨ w.heap.size ≤ k) ∧ (∀ k o, u' k o ≠ none → u0 k o ≠ none ∨ (base ≤ k ∧ Plain w' k)) ∧ u0.le u' ∧ R v u'
def upd (bk : Nat → Nat) (id b : Nat) : Nat → Nat := fun i => if i = id then b else bk i
def PubTo (bk : Nat → Nat) (ps : List (Nat × List (SV S.ty))) (u : Mem) (K : Mem → Prop) : Prop :=
 match ps with
 | [] => K u
 | p :: r => ∀ u1 : Mem, u.le u1 → (∀ q ∈ p :: r, ∀ j v, (denL bk q.2)[j]? = some v → u1 (bk q.1) j = some v) → K u1
def Reads (u : Mem) (a : Option Addr) (o : Nat) (vs : List Value) : Prop := ∃ b f, a = some ⟨b, f, none⟩ ∧ ∀ j v, vs[j]? = some v → u b (f + o + j) = some v
def Mem.set (u : Mem) (b o : Nat) (vs : List Value) : Mem := fun k i => if k = b ∧ o ≤ i ∧ i < o + vs.length then vs[i - o]? else u k i
def denLL (bk : Nat → Nat) : (l : List (List CK)) → CellsL S.ty l → List (List Value)
 | [], _ => []
 | k :: r, x => denL bk (cellsSV k x.1) :: denLL bk r x.2
def dfltK : (k : CK) → k.Ty S.ty
 | .i _ => (0 : Int)
 | .b => false
 | .t => (⟨#[]⟩ : ByteArray)
 | .s => (none, (0 : Nat), (0 : Nat))
 | .v => Value.nilIface
def dflt : (l : List CK) → Cells S.ty l
 | [] => ()
 | k :: r => (dfltK k, dflt r)
def dfltL : (l : List (List CK)) → CellsL S.ty l
 | [] => ()
 | k :: r => (dflt k, dfltL r)
def Out (st : St S.ty) (bk : Nat → Nat) (u : Mem) : Prop := ∀ i cs, st.cells i = some cs → ∀ o, u (bk i) o = none
def rowsD (bk : Nat → Nat) (l : List (Nat × List (SV S.ty))) : List (Nat × List Value) := l.map fun p => (bk p.1, denL bk p.2)
section
variable (P : Program) (u0 : Mem) (R : Value → List (List Value) → Mem → Prop)
def Hold : Tree S.ty → (Nat → Nat) → Mem → (Nat → List Value → List (List Value) → Mem → Prop) → Prop
 | .bad, _, _, _ => False
 | .ret x g ps, bk, u, _ => PubTo bk ps u fun u' => R (x.den bk) (g.map (denL bk)) u'
 | .test e x y, bk, u, Ag => (e.den = true → Hold x bk u Ag) ∧ (e.den = false → Hold y bk u Ag)
 | .ob g p x, bk, u, Ag => (g.den = true → p.den) ∧ Hold x bk u Ag
 | .new id x, bk, u, Ag => ∀ b : Nat, (∀ o, u b o = none) → Hold x (upd bk id b) u Ag
 | .uld g a o ks k, bk, u, Ag => (g.den = true → ∃ x : Cells S.ty ks, Reads u a.den o.den (denL bk (cellsSV ks x)) ∧ Hold (k x) bk u Ag) ∧ (g.den = false → Hold (k (dflt ks)) bk u Ag)
 | .ust a o xs x, bk, u, Ag => ∃ b f, a.den = some ⟨b, f, none⟩ ∧ (∀ i, u0 b i = none) ∧ (∀ j, j < xs.length → u b (f + o.den + j) ≠ none) ∧ Hold x bk (u.set b (f + o.den) (denL bk xs)) Ag
 | .call g q f args ms ps rs kss k, bk, u, Ag =>
  (g.den = true → PubTo bk ps u fun u1 => CC P f (denL bk args) q (rowsD bk ms) u0 u1 fun v cs u2 => ∃ xs ys, v = (resSV rs (cellsSV (RT.ks rs) xs)).den bk ∧ cs = denLL bk kss ys ∧ Hold (k xs ys) bk u2 Ag) ∧
  (g.den = false → Hold (k (dflt _) (dfltL _)) bk u Ag)
 | .bi g p args ps rs k, bk, u, Ag =>
  (g.den = true → PubTo bk ps u fun u1 => BV P p (denL bk args) u0 u1 fun v u2 => ∃ xs, v = (resSV rs (cellsSV (RT.ks rs) xs)).den bk ∧ Hold (k xs) bk u2 Ag) ∧
  (g.den = false → Hold (k (dflt _)) bk u Ag)
 | .loop n sk oks xs cs body, bk, u, Ag => ∃ (I : List Value → List (List Value) → Mem → Prop) (m : List Value → List (List Value) → Mem → Nat), I (denL bk xs) (cs.map (denL bk)) u ∧
   ∀ x y u', I (denL bk (cellsSV sk x)) (denLL bk oks y) u' → Hold (body x y) bk u' fun j => if j = n then fun vs ws u'' => I vs ws u'' ∧ m vs ws u'' < m (denL bk (cellsSV sk x)) (denLL bk oks y) u' else Ag j
 | .again n xs cs es, bk, u, Ag => (∀ p ∈ es, p.1.den bk = p.2.den bk) ∧ Ag n (denL bk xs) (cs.map (denL bk)) u
def NoRes (rs : List RT) (x : SV S.ty) : Prop := x = resSV rs (cellsSV (RT.ks rs) (dflt _)) ∨ x = resSV rs (zeroSV (RT.ks rs))
def EV (ops : List Oper) (fl : Flag) (o : Oper) (st : St S.ty) (bk : Nat → Nat) (u : Mem) (K : St S.ty → (Nat → Nat) → Mem → Prop) : Prop :=
 match guardOf ops st o with
 | none => False
 | some (lab, g) => match res P st lab o with
  | .bad => False
  | .put obs x => True ∧ (∀ p ∈ obs, g.den = true → p.den) ∧ K (st.put o.dst ⟨lab, g, x⟩) bk u
  | .sto obs id off xs => match lab, st.blk id with
   | [], some ⟨gv, ks, some cs⟩ => fl.lds.all (st.okLd [id]) = true ∧ (∀ p ∈ obs, g.den = true → p.den) ∧ K (st.setOwn id (some ⟨gv, ks, some (cs.take off ++ xs ++ cs.drop (off + xs.length))⟩)) bk u
   | _, _ => False
  | .new obs ow x => match o.dst with
   | some d => (st.blk d).isNone = true ∧ d < st.own.length ∧ (∀ p ∈ obs, g.den = true → p.den) ∧ (g.den = true → ∀ b : Nat, (∀ o, u b o = none) → K ((st.setOwn d (some ow)).put (some d) ⟨lab, g, x⟩) (upd bk d b) u) ∧ (g.den = false → ∃ y : SV S.ty, y.ids = [] ∧ K (st.put (some d) ⟨lab, g, y⟩) bk u)
   | none => False
  | .uld a n agg ks => (g.den = true → ∃ x : Cells S.ty ks, Reads u a.den n.den (denL bk (cellsSV ks x)) ∧ ∃ y, pack agg (cellsSV ks x) = some y ∧ K (st.put o.dst ⟨lab, g, y⟩) bk u) ∧
    (g.den = false → ∃ y, pack agg (cellsSV ks (dflt ks)) = some y ∧ K (st.put o.dst ⟨lab, g, y⟩) bk u)
  | .ust obs a n xs => match lab with
   | [] => fl.lds = [] ∧ (∀ p ∈ obs, g.den = true → p.den) ∧ ∃ b f, a.den = some ⟨b, f, none⟩ ∧ (∀ i, u0 b i = none) ∧ (∀ j, j < xs.length → u b (f + n.den + j) ≠ none) ∧ K st bk (u.set b (f + n.den) (denL bk xs))
   | _ => False
  | .call f args rs =>
   let ms := st.close 40 ((args.map (SV.direct (isAs P f))).flatten) []
   let ps := st.close 40 ((args.map (SV.seen (isAs P f))).flatten) []
   disjB ms ps = true ∧ nodupB ms = true ∧ nodupB ps = true ∧ st.mineB ps = true ∧ fl.lds.all (st.okLd (ms ++ ps)) = true ∧
    (g.den = true → PubTo bk (st.rows ps) u fun u1 => CC P f (denL bk args) fl.lds.isEmpty (rowsD bk (st.rows ms)) u0 u1 fun v cs u2 => ∃ xs ys, v = (resSV rs (cellsSV (RT.ks rs) xs)).den bk ∧ cs = denLL bk (st.kss ms) ys ∧
     (Out ((st.fresh ms (st.kss ms) ys).shut ps) bk u2 → K (((st.fresh ms (st.kss ms) ys).shut ps).put o.dst ⟨lab, g, resSV rs (cellsSV (RT.ks rs) xs)⟩) bk u2)) ∧
    (g.den = false → ∃ x : SV S.ty, NoRes rs x ∧ K (st.put o.dst ⟨lab, g, x⟩) bk u)
  | .bi p args rs =>
   let ps := st.close 40 ((args.map (SV.seen false)).flatten) []
   nodupB ps = true ∧ st.mineB ps = true ∧ (lab = [] ∨ ps = []) ∧ fl.lds.all (st.okP ps) = true ∧
    (g.den = true → PubTo bk (st.rows ps) u fun u1 => BV P p (denL bk args) u0 u1 fun v u2 => ∃ xs, v = (resSV rs (cellsSV (RT.ks rs) xs)).den bk ∧ (Out (st.shut ps) bk u2 → K ((st.shut ps).put o.dst ⟨lab, g, resSV rs (cellsSV (RT.ks rs) xs)⟩) bk u2)) ∧
    (g.den = false → K ((st.shut ps).put o.dst ⟨lab, g, resSV rs (cellsSV (RT.ks rs) (dflt _))⟩) bk u)
def EVs (ops : List Oper) : List (Flag × Oper) → St S.ty → (Nat → Nat) → Mem → (St S.ty → (Nat → Nat) → Mem → Prop) → Prop
 | [], st, bk, u, K => K st bk u
 | (l, o) :: r, st, bk, u, K => EV P u0 ops l o st bk u fun st bk u => EVs ops r st bk u K
end
section
variable {P : Program} {u0 : Mem} {R : Value → List (List Value) → Mem → Prop}
theorem PubTo.mono {bk : Nat → Nat} {ps : List (Nat × List (SV S.ty))} {u : Mem} {K K' : Mem → Prop} (h : ∀ u, K u → K' u) (hp : PubTo bk ps u K) : PubTo bk ps u K' := by
 unfold PubTo at *
 split at hp
 ·exact h _ hp
 ·exact fun u1 h1 h2 => h _ (hp u1 h1 h2)
theorem hold_obT {g : E S.ty .B} {obs : List (Ob S.ty)} {k : Tree S.ty} {bk : Nat → Nat} {u : Mem} {Ag : Nat → List Value → List (List Value) → Mem → Prop} :
  Hold P u0 R (obT g obs k) bk u Ag ↔ (∀ p ∈ obs, g.den = true → p.den) ∧ Hold P u0 R k bk u Ag := by
 induction obs with
 | nil => simp [obT]
 | cons p r ih => simp only [obT, List.foldr_cons, Hold] at ih ⊢; rw [ih]; simp [and_assoc]
theorem BV.mono {p : Prim} {args : List Value} {u : Mem} {R R' : Value → Mem → Prop} (h : BV P p args u0 u R) (hR : ∀ v u', R v u' → R' v u') : BV P p args u0 u R' :=
 fun base w h1 h2 h3 h4 => by obtain ⟨v, w', u', a1, a2, a3, a4, a5, a6, a7⟩ := h base w h1 h2 h3 h4; exact ⟨v, w', u', a1, a2, a3, a4, a5, a6, hR _ _ a7⟩
theorem guardOf_nil {ops : List Oper} {st : St S.ty} {o : Oper} {lab : List (Nat × Bool)} {g : E S.ty .B} (h : guardOf ops st o = some (lab, g)) (hl : lab = []) : g.den = true := by
 unfold guardOf at h
 split at h
 ·cases h; rfl
 ·split at h
  ·split at h
   ·split at h
    ·cases h; cases hl
    ·cases h
   ·cases h
  ·cases h
theorem guardOf_nil' {ops : List Oper} {st : St S.ty} {o : Oper} {g : E S.ty .B} (h : guardOf ops st o = some ([], g)) : g = .b true := by
 unfold guardOf at h
 split at h
 ·cases h; rfl
 ·split at h
  ·split at h
   ·split at h
    ·cases h
    ·cases h
   ·cases h
  ·cases h
theorem offSV_ids (x : SV S.ty) : (offSV x).ids = [] := by unfold offSV; split <;> rfl
theorem hold_step {ops : List Oper} {fl : Flag} {o : Oper} {st : St S.ty} {k : St S.ty → Tree S.ty} {bk : Nat → Nat} {u : Mem} {Ag : Nat → List Value → List (List Value) → Mem → Prop}
  (h : Hold P u0 R (step P ops fl o st k) bk u Ag) : EV P u0 ops fl o st bk u fun st bk u => Hold P u0 R (k st) bk u Ag := by
 unfold step at h
 unfold EV
 split at h
 ·rename_i hg; simp only [hg]; exact h
 ·rename_i lab g hg
  simp only [hg]
  split at h <;> rename_i hr <;> simp only [hr]
  ·exact h
  ·exact ⟨trivial, hold_obT.1 h⟩
  ·split at h
   ·rename_i hb
    simp only [hb]
    split at h
    ·rename_i hl; exact ⟨hl, hold_obT.1 h⟩
    ·exact h.elim
   ·exact h.elim
  ·split at h
   ·rename_i hd
    simp only [hd]
    split at h
    ·rename_i hc
     cases lab with
     | nil =>
      obtain rfl := guardOf_nil' hg
      have h := hold_obT.1 h
      exact ⟨hc.1, hc.2, h.1, fun _ => h.2, fun e => by cases e⟩
     | cons l ls => exact ⟨hc.1, hc.2, fun p hp hg' => (hold_obT.1 (h.1 hg')).1 p hp hg', fun hg' => (hold_obT.1 (h.1 hg')).2, fun hg' => ⟨_, offSV_ids _, h.2 hg'⟩⟩
    ·exact h.elim
   ·exact h.elim
  ·simp only [Hold] at h
   refine ⟨fun hg => ?_, fun hg => ?_⟩
   ·obtain ⟨x, hx, hh⟩ := h.1 hg
    refine ⟨x, hx, ?_⟩
    split at hh
    ·rename_i y hy; exact ⟨y, hy, hh⟩
    ·exact hh.elim
   ·have hh := h.2 hg
    split at hh
    ·rename_i y hy; exact ⟨y, hy, hh⟩
    ·exact hh.elim
  ·split at h
   ·split at h
    ·rename_i hl; exact ⟨hl, hold_obT.1 h⟩
    ·exact h.elim
   ·exact h.elim
  ·dsimp only at h ⊢
   split at h
   ·rename_i hc
    split at h
    ·rename_i hlp
     refine ⟨hc.1, hc.2.1, hc.2.2.1, hc.2.2.2.1, hc.2.2.2.2, fun hg => (h.1 hg).mono fun u1 hcv => hcv.mono fun v cs u2 ⟨xs, ys, e1, e2, e3⟩ => ⟨xs, ys, e1, e2, fun _ => e3⟩, fun hgf => ?_⟩
     have hne : ¬ lab = [] := fun e => by rw [guardOf_nil hg e] at hgf; cases hgf
     obtain ⟨e1, e2⟩ := hlp.resolve_left hne
     have h2 := h.2 hgf
     rename_i f args rs
     generalize st.close 40 ((args.map (SV.direct (isAs P f))).flatten) [] = ms at h2 e1
     generalize st.close 40 ((args.map (SV.seen (isAs P f))).flatten) [] = ps at h2 e2
     subst e1 e2
     exact ⟨_, .inl rfl, h2⟩
    ·refine ⟨hc.1, hc.2.1, hc.2.2.1, hc.2.2.2.1, hc.2.2.2.2, fun hg => ((h.1 hg).1 rfl).mono fun u1 hcv => hcv.mono fun v cs u2 ⟨xs, ys, e1, e2, e3⟩ => ⟨xs, ys, e1, e2, fun _ => e3⟩, fun hgf => ⟨_, .inr rfl, h.2 hgf⟩⟩
   ·exact h.elim
  ·dsimp only at h ⊢
   split at h
   ·rename_i hc; exact ⟨hc.1, hc.2.1, hc.2.2.1, hc.2.2.2, fun hg => (h.1 hg).mono fun u1 hb => hb.mono fun v u' ⟨xs, e1, e3⟩ => ⟨xs, e1, fun _ => e3⟩, h.2⟩
   ·exact h.elim
theorem EV.mono {ops : List Oper} {fl : Flag} {o : Oper} {st : St S.ty} {bk : Nat → Nat} {u : Mem} {K K' : St S.ty → (Nat → Nat) → Mem → Prop}
  (hK : ∀ st bk u, K st bk u → K' st bk u) (h : EV P u0 ops fl o st bk u K) : EV P u0 ops fl o st bk u K' := by
 unfold EV at h ⊢
 rcases hg : guardOf ops st o with _ | ⟨lab, g⟩
 ·simp only [hg] at h
 ·simp only [hg] at h ⊢
  generalize hr : res P st lab o = r at h ⊢
  rcases r with _ | ⟨obs, x⟩ | ⟨obs, id, off, xs⟩ | ⟨obs, ow, x⟩ | ⟨a, n, agg, ks⟩ | ⟨obs, a, n, xs⟩ | ⟨f, args, rs⟩ | ⟨p, args, rs⟩ <;> dsimp only at h ⊢
  ·exact ⟨h.1, h.2.1, hK _ _ _ h.2.2⟩
  ·split at h
   ·exact ⟨h.1, h.2.1, hK _ _ _ h.2.2⟩
   ·exact h.elim
  ·split at h
   ·exact ⟨h.1, h.2.1, h.2.2.1, fun hg b hb => hK _ _ _ (h.2.2.2.1 hg b hb), fun hg => (h.2.2.2.2 hg).imp fun y hy => ⟨hy.1, hK _ _ _ hy.2⟩⟩
   ·exact h.elim
  ·exact ⟨fun hg => (h.1 hg).imp fun x ⟨h1, y, h2, h3⟩ => ⟨h1, y, h2, hK _ _ _ h3⟩, fun hg => (h.2 hg).imp fun y ⟨h2, h3⟩ => ⟨h2, hK _ _ _ h3⟩⟩
  ·split at h
   ·obtain ⟨hl, h0, b, f, h1, h2, h3, h4⟩ := h; exact ⟨hl, h0, b, f, h1, h2, h3, hK _ _ _ h4⟩
   ·exact h.elim
  ·obtain ⟨h1, h2, h3, h4, h5, h7, h8⟩ := h
   exact ⟨h1, h2, h3, h4, h5, fun hg => (h7 hg).mono fun u1 hc => hc.mono fun v cs u' ⟨xs, ys, e1, e2, e3⟩ => ⟨xs, ys, e1, e2, fun ho => hK _ _ _ (e3 ho)⟩, fun hg => (h8 hg).imp fun x hx => ⟨hx.1, hK _ _ _ hx.2⟩⟩
  ·obtain ⟨h1, h2, h3, hx, h7, h8⟩ := h
   exact ⟨h1, h2, h3, hx, fun hg => (h7 hg).mono fun u1 hc => hc.mono fun v u' ⟨xs, e1, e3⟩ => ⟨xs, e1, fun ho => hK _ _ _ (e3 ho)⟩, fun hg => hK _ _ _ (h8 hg)⟩
theorem EVs.mono {ops : List Oper} {l : List (Flag × Oper)} {K K' : St S.ty → (Nat → Nat) → Mem → Prop} (hK : ∀ st bk u, K st bk u → K' st bk u) :
  ∀ {st : St S.ty} {bk : Nat → Nat} {u : Mem}, EVs P u0 ops l st bk u K → EVs P u0 ops l st bk u K' := by
 induction l with
 | nil => exact fun h => hK _ _ _ h
 | cons x r ih => exact fun h => EV.mono (fun _ _ _ h => ih h) h
theorem hold_steps {ops : List Oper} {k : St S.ty → Tree S.ty} {Ag : Nat → List Value → List (List Value) → Mem → Prop} : ∀ (l : List (Flag × Oper)) {st : St S.ty} {bk : Nat → Nat} {u : Mem},
  Hold P u0 R (steps P ops l st k) bk u Ag → EVs P u0 ops l st bk u fun st bk u => Hold P u0 R (k st) bk u Ag
 | [], _, _, _, h => h
 | (l, o) :: r, _, _, _, h => EV.mono (fun _ _ _ h => hold_steps r h) (hold_step h)
end
end Go.Proofs.YtpfbimkpcnnfkaaGreatDoor.Sx
