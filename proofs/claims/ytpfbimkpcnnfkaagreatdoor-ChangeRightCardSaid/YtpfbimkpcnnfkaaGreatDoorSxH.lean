/- Sx: a function's code, run. Nothing of the program. -/
import Derived.Test.YtpfbimkpcnnfkaaGreatDoorSxG
set_option linter.unusedVariables false
set_option linter.unusedSimpArgs false
namespace Go.Proofs.YtpfbimkpcnnfkaaGreatDoor.Sx
open Go Go.RowKit Go.Proofs.YtpfbimkpcnnfkaaGreatDoor
def DrawOk (P : Program) : Prop := ∀ (c : Ctx) (st : St S.ty) (bk : Nat → Nat) (a : Act) (w : World) (u : Mem) (K : St S.ty → (Nat → Nat) → Mem → Prop) (Q : Exit → Act → World → Prop) (ops : List Oper) (id : Nat) (l : List (Flag × Oper)),
 guardsB ops = true → newsB ops st = true → (∀ t, Dst ops t → ¬ c.fx t) → order ops true = some l → Rep c (fun _ => True) st bk a w u → EVs P c.u0 ops l st bk u K → (∀ a w, Nxt c (fun _ => False) K a w → Q .normal a w) →
  (Code.region id ops.toArray true).wp P Q a w
structure Ctx.Ext (c c' : Ctx) : Prop where
 w0 : c'.w0 = c.w0
 u0 : c'.u0 = c.u0
 giv : c'.giv = c.giv
 fx : ∀ t, c.fx t → c'.fx t ∧ c'.fv t = c.fv t
 fb : ∀ i, c.fb i → c'.fb i ∧ c'.fbv i = c.fbv i
 n : c'.n = c.n
 base : c'.base = c.base
 wr : c'.wr = c.wr
section
variable {P : Program} {c c' : Ctx} {st : St S.ty} {bk bk1 : Nat → Nat} {a : Act} {w : World} {u : Mem} {F : Nat → Prop}
theorem Rep.less (h : Rep c' F st bk a w u) (he : c.Ext c') : Rep c F st bk a w u := by
 obtain ⟨e1, e2, e3, e4, e5, e6, e7, e8⟩ := he
 refine ⟨h.defers, h.size, h.ent, fun id o cs ho hc => ?_, h.apart, h.sees, ?_, ?_, ?_, ?_, ?_, fun t ht => ?_, fun i hi => ?_, by rw [← e6]; exact h.sz⟩
 ·have := h.own id o cs ho hc
  exact ⟨this.has, this.out, by rw [← e3, ← e1]; exact this.giv, this.live⟩
 ·rw [← e2, ← e1, ← e7, ← e8]; exact h.old
 ·rw [← e3]; exact h.ngiv
 ·rw [← e3, ← e1, ← e7, ← e8]; exact h.gro
 ·rw [← e2]; exact h.le
 ·rw [← e3, ← e1, ← e7]; exact h.lt
 ·obtain ⟨q1, q2⟩ := e4 t ht; rw [← q2]; exact h.fix t q1
 ·obtain ⟨q1, q2⟩ := e5 i hi; rw [← q2]; exact h.fixb i q1
theorem sameOwn_spec (owns : List Nat) : ∀ (k : Nat) (hd own : List (Option (Own S.ty))) {es : List (SV S.ty × SV S.ty)}, sameOwn owns k hd own = some es →
  ∀ (i : Nat) o cs, hd[i]? = some (some o) → o.cs = some cs → (k + i) ∉ owns → ∃ o' cs', own[i]? = some (some o') ∧ o'.cs = some cs' ∧ o.giv = o'.giv ∧ cs.length = cs'.length ∧ ∀ p ∈ cs.zip cs', p ∈ es
 | k, [], own, es, _, i, o, cs, hi, _, _ => by simp at hi
 | k, some ⟨g, ks, some cs0⟩ :: r, [], es, h, _, _, _, _, _, _ => by simp [sameOwn] at h
 | k, some ⟨g, ks, some cs0⟩ :: r, o1 :: r', es, h, i, o, cs, hi, hc, hk => by
  simp only [sameOwn] at h
  split at h
  ·cases h
  ·rename_i l hl
   cases i with
   | zero =>
    simp at hi; subst hi; cases hc
    have hk' : ¬ owns.contains k = true := by simpa using hk
    rw [if_neg hk'] at h
    split at h
    ·rename_i g' k' cs'
     split at h <;> cases h
     rename_i hcnd
     exact ⟨_, cs', rfl, rfl, hcnd.1, hcnd.2, fun p hp => List.mem_append_left _ hp⟩
    ·cases h
   | succ i =>
    obtain ⟨o', cs', q1, q2, q3, q4, q5⟩ := sameOwn_spec owns (k + 1) r r' hl i o cs (by simpa using hi) hc (by rwa [show k + 1 + i = k + (i + 1) by omega])
    refine ⟨o', cs', by simpa using q1, q2, q3, q4, fun p hp => ?_⟩
    split at h
    ·cases h; exact q5 p hp
    ·split at h
     ·split at h <;> cases h
      exact List.mem_append_right _ (q5 p hp)
     ·cases h
 | k, none :: r, [], es, h, i, o, cs, hi, hc, hk => by
  cases i with
  | zero => simp at hi
  | succ i =>
   obtain ⟨o', cs', q1, _⟩ := sameOwn_spec owns (k + 1) r [] (by simpa [sameOwn] using h) i o cs (by simpa using hi) hc (by rwa [show k + 1 + i = k + (i + 1) by omega])
   simp at q1
 | k, some ⟨g, ks, none⟩ :: r, [], es, h, i, o, cs, hi, hc, hk => by
  cases i with
  | zero => simp at hi; subst hi; cases hc
  | succ i =>
   obtain ⟨o', cs', q1, _⟩ := sameOwn_spec owns (k + 1) r [] (by simpa [sameOwn] using h) i o cs (by simpa using hi) hc (by rwa [show k + 1 + i = k + (i + 1) by omega])
   simp at q1
 | k, none :: r, o1 :: r', es, h, i, o, cs, hi, hc, hk => by
  cases i with
  | zero => simp at hi
  | succ i =>
   obtain ⟨o', cs', q1, q⟩ := sameOwn_spec owns (k + 1) r r' (by simpa [sameOwn] using h) i o cs (by simpa using hi) hc (by rwa [show k + 1 + i = k + (i + 1) by omega])
   exact ⟨o', cs', by simpa using q1, q⟩
 | k, some ⟨g, ks, none⟩ :: r, o1 :: r', es, h, i, o, cs, hi, hc, hk => by
  cases i with
  | zero => simp at hi; subst hi; cases hc
  | succ i =>
   obtain ⟨o', cs', q1, q⟩ := sameOwn_spec owns (k + 1) r r' (by simpa [sameOwn] using h) i o cs (by simpa using hi) hc (by rwa [show k + 1 + i = k + (i + 1) by omega])
   exact ⟨o', cs', by simpa using q1, q⟩
theorem zip_den (bk : Nat → Nat) : ∀ (l r : List (SV S.ty)), l.length = r.length → (∀ p ∈ l.zip r, p.1.den bk = p.2.den bk) → denL bk l = denL bk r
 | [], [], _, _ => rfl
 | [], y :: r, h, _ => by simp at h
 | x :: l, [], h, _ => by simp at h
 | x :: l, y :: r, h, hp => by
  simp only [denL]
  rw [hp (x, y) (by simp), zip_den bk l r (by simpa using h) fun p hp' => hp p (by simp [hp'])]
theorem rounds_le {cd : Code} {Q : Exit → Act → World → Prop} : ∀ (n : Nat) (a : Act) (w : World), Code.rounds P cd Q n a w → ∀ m, n ≤ m → Code.rounds P cd Q m a w
 | 0, _, _, h, _, _ => h.elim
 | n + 1, a, w, h, 0, hm => by omega
 | n + 1, a, w, h, m + 1, hm => by
  rw [rounds_succ] at h ⊢
  refine wp_mono h fun e a w hq => ?_
  cases e <;> first | exact rounds_le n a w hq m (by omega) | exact hq
def LpOk (giv : List Nat) (gbk : Nat → Nat) (Ag : Nat → List Value → List (List Value) → Mem → Prop) (J : Nat → Act → World → Prop) : Ctx → List (It S.ty) → Prop
 | c, [] => (∀ t, ¬ c.fx t) ∧ ∀ i ∈ giv, c.fb i ∧ c.fbv i = gbk i
 | c, .lp m slots owns sk oks dr hd :: r => ∃ c0 : Ctx, c0.Ext c ∧ (∀ t, c.fx t → t ∉ dr ∨ c0.fx t) ∧ LpOk giv gbk Ag J c0 r ∧
  ∀ st bk a w u xs cs es, Rep c (fun _ => True) st bk a w u → allSome (slots.map st.slot) = some xs → allSome (owns.map st.cells) = some cs → sameOwn owns 0 hd st.own = some es → kindsOk sk xs = true → kindsOkL oks cs = true →
   (∀ p ∈ es, p.1.den bk = p.2.den bk) → Ag m (denL bk xs) (cs.map (denL bk)) u → J m a w
 | c, _ :: r => LpOk giv gbk Ag J c r
theorem Ctx.Ext.refl (c : Ctx) : c.Ext c := ⟨rfl, rfl, rfl, fun _ h => ⟨h, rfl⟩, fun _ h => ⟨h, rfl⟩, rfl, rfl, rfl⟩
theorem Ctx.Ext.trans {c c' c'' : Ctx} (h : c.Ext c') (h' : c'.Ext c'') : c.Ext c'' :=
 ⟨h'.w0.trans h.w0, h'.u0.trans h.u0, h'.giv.trans h.giv, fun t ht => ⟨(h'.fx t (h.fx t ht).1).1, (h'.fx t (h.fx t ht).1).2.trans (h.fx t ht).2⟩, fun t ht => ⟨(h'.fb t (h.fb t ht).1).1, (h'.fb t (h.fb t ht).1).2.trans (h.fb t ht).2⟩, h'.n.trans h.n, h'.base.trans h.base, h'.wr.trans h.wr⟩
theorem LpOk.fx {giv : List Nat} {gbk : Nat → Nat} {Ag : Nat → List Value → List (List Value) → Mem → Prop} {J : Nat → Act → World → Prop} : ∀ {r : List (It S.ty)} {c : Ctx}, LpOk giv gbk Ag J c r → ∀ t, c.fx t → ∃ m sl ow sk ok dr hd, It.lp m sl ow sk ok dr hd ∈ r ∧ t ∉ dr
 | [], c, h, t, ht => absurd ht (h.1 t)
 | .code cd :: r, c, h, t, ht => by
  obtain ⟨m, sl, ow, sk, ok, dr, hd, h1, h2⟩ := LpOk.fx (r := r) h t ht
  exact ⟨m, sl, ow, sk, ok, dr, hd, List.mem_cons_of_mem _ h1, h2⟩
 | .blk id :: r, c, h, t, ht => by
  obtain ⟨m, sl, ow, sk, ok, dr, hd, h1, h2⟩ := LpOk.fx (r := r) h t ht
  exact ⟨m, sl, ow, sk, ok, dr, hd, List.mem_cons_of_mem _ h1, h2⟩
 | .lp m sl ow sk ok dr hd :: r, c, ⟨c0, h1, h2, h3, _⟩, t, ht => by
  rcases h2 t ht with hd' | hd'
  ·exact ⟨m, sl, ow, sk, ok, dr, hd, List.mem_cons_self, hd'⟩
  ·obtain ⟨m, sl, ow, sk, ok, dr, hd, q1, q2⟩ := LpOk.fx h3 t hd'
   exact ⟨m, sl, ow, sk, ok, dr, hd, List.mem_cons_of_mem _ q1, q2⟩
theorem LpOk.fb {giv : List Nat} {gbk : Nat → Nat} {Ag : Nat → List Value → List (List Value) → Mem → Prop} {J : Nat → Act → World → Prop} : ∀ {r : List (It S.ty)} {c : Ctx}, LpOk giv gbk Ag J c r → ∀ i ∈ giv, c.fb i ∧ c.fbv i = gbk i
 | [], c, h => h.2
 | .code cd :: r, c, h => LpOk.fb (r := r) h
 | .blk id :: r, c, h => LpOk.fb (r := r) h
 | .lp m sl ow sk ok dr hd :: r, c, ⟨c0, h1, _, h3, _⟩ => fun i hi => by
  obtain ⟨q1, q2⟩ := LpOk.fb h3 i hi
  exact ⟨(h1.fb i q1).1, (h1.fb i q1).2.trans q2⟩
theorem LpOk.exit {giv : List Nat} {gbk : Nat → Nat} {Ag : Nat → List Value → List (List Value) → Mem → Prop} {J : Nat → Act → World → Prop} {id : Nat} : ∀ {r r' : List (It S.ty)} {c : Ctx}, LpOk giv gbk Ag J c r → exitTo id r = r' → (∀ i, r' ≠ [.code (.exit i)]) → ∃ c0 : Ctx, c0.Ext c ∧ LpOk giv gbk Ag J c0 r'
 | [], r', c, h, he, hne => absurd he.symm (hne id)
 | .code cd :: r, r', c, h, he, hne => LpOk.exit (r := r) h he hne
 | .blk i :: r, r', c, h, he, hne => by
  simp only [exitTo] at he
  split at he
  ·subst he; exact ⟨c, Ctx.Ext.refl c, h⟩
  ·exact LpOk.exit (r := r) h he hne
 | .lp m sl ow sk ok dr hd :: r, r', c, ⟨c0, h1, _, h3, _⟩, he, hne => by
  obtain ⟨c1, q1, q2⟩ := LpOk.exit h3 he hne
  exact ⟨c1, q1.trans h1, q2⟩
theorem LpOk.congr {giv : List Nat} {gbk : Nat → Nat} {Ag Ag' : Nat → List Value → List (List Value) → Mem → Prop} {J J' : Nat → Act → World → Prop} : ∀ {r : List (It S.ty)} {c : Ctx}, LpOk giv gbk Ag J c r → (∀ m sl ow sk ok dr hd, It.lp m sl ow sk ok dr hd ∈ r → Ag' m = Ag m ∧ J' m = J m) → LpOk giv gbk Ag' J' c r
 | [], c, h, _ => h
 | .code cd :: r, c, h, he => LpOk.congr (r := r) h fun m a b c d e f hm => he m a b c d e f (List.mem_cons_of_mem _ hm)
 | .blk i :: r, c, h, he => LpOk.congr (r := r) h fun m a b c d e f hm => he m a b c d e f (List.mem_cons_of_mem _ hm)
 | .lp m sl ow sk ok dr hd :: r, c, ⟨c0, h1, h2, h3, h4⟩, he => by
  obtain ⟨e1, e2⟩ := he m sl ow sk ok dr hd List.mem_cons_self
  exact ⟨c0, h1, h2, LpOk.congr h3 fun m a b c d e f hm => he m a b c d e f (List.mem_cons_of_mem _ hm), by rw [e1, e2]; exact h4⟩
theorem EX_congr {fn : Func} {R : Ending → World → Prop} {J J' : Nat → Act → World → Prop} : ∀ (r : List (It S.ty)), (∀ m slots owns sk oks dr hd, It.lp m slots owns sk oks dr hd ∈ r → J' m = J m) → ∀ e, EX P fn R J' r e = EX P fn R J r e
 | [], _, e => rfl
 | .code cd :: r, h, e => by
  have ih := EX_congr (fn := fn) (R := R) r fun m a b c d e f hm => h m a b c d e f (by simp [hm])
  have ih' : EX P fn R J' r = EX P fn R J r := funext ih
  cases e <;> simp only [EX, ih']
 | .blk id :: r, h, e => by
  have ih := EX_congr (fn := fn) (R := R) r fun m a b c d e f hm => h m a b c d e f (by simp [hm])
  have ih' : EX P fn R J' r = EX P fn R J r := funext ih
  cases e <;> simp only [EX, ih']
 | .lp n sl ow sk ok dr hd :: r, h, e => by
  have ih := EX_congr (fn := fn) (R := R) r fun m a b c d e f hm => h m a b c d e f (by simp [hm])
  have ih' : EX P fn R J' r = EX P fn R J r := funext ih
  have hn := h n sl ow sk ok dr hd (by simp)
  cases e <;> simp only [EX, ih', hn]
theorem EX_exit {fn : Func} {R : Ending → World → Prop} {J : Nat → Act → World → Prop} {id : Nat} : ∀ (r : List (It S.ty)) {r' : List (It S.ty)}, exitTo id r = r' → (∀ i, r' ≠ [.code (.exit i)]) → ∀ a w, EX P fn R J r' .normal a w → EX P fn R J r (.exit id) a w
 | [], r', h, hne, a, w, hx => absurd h.symm (hne id)
 | .code cd :: r, r', h, hne, a, w, hx => by simp only [EX]; exact EX_exit r h hne a w hx
 | .lp n _ _ _ _ _ _ :: r, r', h, hne, a, w, hx => by simp only [EX]; exact EX_exit r h hne a w hx
 | .blk i :: r, r', h, hne, a, w, hx => by
  simp only [exitTo] at h
  simp only [EX]
  split at h
  ·rename_i hi
   rw [if_pos hi.symm, h]; exact hx
  ·rename_i hi
   rw [if_neg (fun e => hi e.symm)]
   exact EX_exit r h hne a w hx
theorem EX_ret {fn : Func} {R : Ending → World → Prop} {J : Nat → Act → World → Prop} : ∀ (r : List (It S.ty)), EX P fn R J r .ret = bodyPost P fn R .ret
 | [] => rfl
 | .code cd :: r => by simp only [EX]; exact EX_ret r
 | .blk i :: r => by simp only [EX]; exact EX_ret r
 | .lp n _ _ _ _ _ _ :: r => by simp only [EX]; exact EX_ret r
theorem exitTo_sub {id : Nat} : ∀ (r : List (It S.ty)) {r' : List (It S.ty)}, exitTo id r = r' → (∀ i, r' ≠ [.code (.exit i)]) → ∀ x ∈ r', x ∈ r
 | [], r', h, hne => absurd h.symm (hne id)
 | .code cd :: r, r', h, hne => fun x hx => List.mem_cons_of_mem _ (exitTo_sub r h hne x hx)
 | .lp n _ _ _ _ _ _ :: r, r', h, hne => fun x hx => List.mem_cons_of_mem _ (exitTo_sub r h hne x hx)
 | .blk i :: r, r', h, hne => fun x hx => by
  simp only [exitTo] at h
  split at h
  ·rw [h]; exact List.mem_cons_of_mem _ hx
  ·exact List.mem_cons_of_mem _ (exitTo_sub r h hne x hx)
theorem run_sound (cf : Cfg) (hN : Names cf.P) (hD : DrawOk cf.P) {R : Value → List (List Value) → Mem → Prop} (O : List (Nat × List Value)) (gbk : Nat → Nat) :
  ∀ (f n : Nat) (r : List (It S.ty)) (c : Ctx) (st : St S.ty) (bk : Nat → Nat) (u : Mem) (Ag : Nat → List Value → List (List Value) → Mem → Prop) (J : Nat → Act → World → Prop) (a : Act) (w : World),
   c.giv = O.map (·.1) → cf.giv.map gbk = c.giv →
   (∀ m sl ow sk ok dr hd, It.lp m sl ow sk ok dr hd ∈ r → m < n) →
   Hold cf.P c.u0 R (run cf f n r st) bk u Ag → Rep c (fun _ => True) st bk a w u → LpOk cf.giv gbk Ag J c r →
   EX cf.P cf.fn (fun e w' => ∃ v cs u', e = .returned v ∧ PostG c.base c.wr O c.u0 c.w0 w' cs u' ∧ R v cs u') J r .normal a w
 | 0, n, r, c, st, bk, u, Ag, J, a, w, _, _, _, hh, _, _ => by simp [run, Hold] at hh
 | f + 1, n, [], c, st, bk, u, Ag, J, a, w, hO, hb, hlv, hh, h, hlp => by
  simp only [run] at hh
  have hb' : cf.giv.map bk = c.giv := by
   rw [← hb]; exact List.map_congr_left fun i hi => by rw [(h.fixb i (hlp.fb i hi).1).1, (hlp.fb i hi).2]
  exact finish_sound cf h O hO hb' hh
 | f + 1, n, .blk id :: r, c, st, bk, u, Ag, J, a, w, hO, hb, hlv, hh, h, hlp => by
  simp only [run] at hh
  simp only [EX]
  exact run_sound cf hN hD O gbk f n r c st bk u Ag J a w hO hb (fun m sl ow sk ok dr hd hm => hlv m sl ow sk ok dr hd (by simp [hm])) hh h hlp
 | f + 1, n, .lp m sl ow sk ok dr hd :: r, c, st, bk, u, Ag, J, a, w, hO, hb, hlv, hh, h, hlp => by
  simp only [run] at hh
  simp only [EX]
  split at hh
  ·rename_i xs cs es h1 h2 h3
   split at hh
   ·rename_i hk
    simp only [Hold] at hh
    obtain ⟨c0, _, _, _, h4⟩ := hlp
    exact h4 st bk a w u xs cs es h h1 h2 h3 hk.1 hk.2 hh.1 hh.2
   ·exact hh.elim
  ·exact hh.elim
 | f + 1, n, .code cd :: r, c, st, bk, u, Ag, J, a, w, hO, hb, hlv, hh, h, hlp => by
  have hlv' : ∀ m sl ow sk ok dr hd, It.lp m sl ow sk ok dr hd ∈ r → m < n := fun m sl ow sk ok dr hd hm => hlv m sl ow sk ok dr hd (by simp [hm])
  have hlp' : LpOk cf.giv gbk Ag J c r := hlp
  have go : ∀ (r' : List (It S.ty)) (st' : St S.ty) (bk' : Nat → Nat) (u' : Mem) (a' : Act) (w' : World), (∀ m sl ow sk ok dr hd, It.lp m sl ow sk ok dr hd ∈ r' → It.lp m sl ow sk ok dr hd ∈ r) → LpOk cf.giv gbk Ag J c r' →
    Hold cf.P c.u0 R (run cf f n r' st') bk' u' Ag → Rep c (fun _ => True) st' bk' a' w' u' → EX cf.P cf.fn (fun e w' => ∃ v cs u', e = .returned v ∧ PostG c.base c.wr O c.u0 c.w0 w' cs u' ∧ R v cs u') J r' .normal a' w' :=
   fun r' st' bk' u' a' w' hs hl' hh' h' => run_sound cf hN hD O gbk f n r' c st' bk' u' Ag J a' w' hO hb (fun m sl ow sk ok dr hd hm => hlv' m sl ow sk ok dr hd (hs m sl ow sk ok dr hd hm)) hh' h' hl'
  simp only [run] at hh
  simp only [EX]
  split at hh
  ·-- skip
   exact wp_skip (go r st bk u a w (fun _ _ _ _ _ _ _ hm => hm) hlp' hh h)
  ·-- region
   rename_i id ops draw
   split at hh
   ·rename_i l hord
    split at hh
    ·rename_i hc
     have hfx : ∀ t, Dst ops.toList t → ¬ c.fx t := fun t ht hf => by
      obtain ⟨m, sl, ow, sk, ok, dr, hd, q1, q2⟩ := hlp'.fx t hf
      have h1 := List.all_eq_true.1 hc.2.1 _ q1
      simp only at h1
      obtain ⟨o, ho, hot⟩ := ht
      have h2 := List.all_eq_true.1 h1 t (List.mem_filterMap.2 ⟨o, ho, hot⟩)
      exact q2 (by simpa using h2)
     have hev := hold_steps l hh
     have hQ : ∀ a w, Nxt c (fun _ => False) (fun st bk u => Hold cf.P c.u0 R (run cf f n r st.clear) bk u Ag) a w → EX cf.P cf.fn (fun e w' => ∃ v cs u', e = .returned v ∧ PostG c.base c.wr O c.u0 c.w0 w' cs u' ∧ R v cs u') J r .normal a w := fun a w ⟨st', bk', u', h', hh'⟩ =>
      go r st'.clear bk' u' a w (fun _ _ _ _ _ _ _ hm => hm) hlp' hh' h'.clear
     cases draw
     ·have := region_list (id := id) (Q := EX cf.P cf.fn (fun e w' => ∃ v cs u', e = .returned v ∧ PostG c.base c.wr O c.u0 c.w0 w' cs u' ∧ R v cs u') J r) hN hc.1 hfx hord h hev hQ
      simpa using this
     ·have := hD c st bk a w u _ (EX cf.P cf.fn (fun e w' => ∃ v cs u', e = .returned v ∧ PostG c.base c.wr O c.u0 c.w0 w' cs u' ∧ R v cs u') J r) ops.toList id l hc.1 (hc.2.2.resolve_left (by simp)) hfx hord h hev hQ
      simpa using this
    ·exact hh.elim
   ·exact hh.elim
  ·-- seq
   rename_i x y
   have := go (.code x :: .code y :: r) st bk u a w (fun m sl ow sk ok dr hd hm => by simpa using hm) hlp' hh h
   simp only [EX] at this
   refine wp_seq (wp_mono this fun e a w hq => ?_)
   cases e <;> exact hq
  ·-- cond
   rename_i x y z
   have hev : ∀ y, st.ev [] x = some y → a.eval x = y.den bk := fun y hy => (ev_ok h (lab := []) (fun l hl => by cases hl) hy).1
   split at hh
   ·rename_i he
    refine wp_cond_true (hev _ he) ?_
    have := go (.code y :: r) st bk u a w (fun m sl ow sk ok dr hd hm => by simpa using hm) hlp' hh h
    simpa only [EX] using this
   ·rename_i he
    refine wp_cond_false (hev _ he) ?_
    have := go (.code z :: r) st bk u a w (fun m sl ow sk ok dr hd hm => by simpa using hm) hlp' hh h
    simpa only [EX] using this
   ·rename_i e _ _ he
    simp only [Hold] at hh
    refine wp_cond_split (hev _ he) (fun ht => ?_) (fun ht => ?_)
    ·have := go (.code y :: r) st bk u a w (fun m sl ow sk ok dr hd hm => by simpa using hm) hlp' (hh.1 ht) h
     simpa only [EX] using this
    ·have := go (.code z :: r) st bk u a w (fun m sl ow sk ok dr hd hm => by simpa using hm) hlp' (hh.2 ht) h
     simpa only [EX] using this
   ·exact hh.elim
  ·-- block
   rename_i id b
   have := go (.code b :: .blk id :: r) st bk u a w (fun m sl ow sk ok dr hd hm => by simpa using hm) hlp' hh h
   simp only [EX] at this
   refine wp_block (wp_mono this fun e a w hq => ?_)
   cases e with
   | exit i =>
    simp only [Exit.inBlock]
    by_cases hi : i = id
    ·rw [if_pos hi]; simpa only [if_pos hi] using hq
    ·rw [if_neg hi]; simpa only [if_neg hi] using hq
   | _ => exact hq
  ·-- exit
   rename_i id
   generalize hr' : exitTo id r = r' at hh
   split at hh
   ·exact hh.elim
   ·rename_i hne
    have hne' : ∀ i, r' ≠ [.code (.exit i)] := fun i e => hne i e
    obtain ⟨c0, he0, hl0⟩ := hlp'.exit hr' hne'
    have h0 := run_sound cf hN hD O gbk f n r' c0 st bk u Ag J a w (he0.giv ▸ hO) (by rw [hb]; exact he0.giv) (fun m sl ow sk ok dr hd hm => hlv' m sl ow sk ok dr hd (exitTo_sub r hr' hne' _ hm)) (he0.u0 ▸ hh) (h.less he0) hl0
    rw [← he0.u0, ← he0.w0, ← he0.base, ← he0.wr] at h0
    exact wp_exit (EX_exit r hr' hne' a w h0)
  ·-- ret
   have hb' : cf.giv.map bk = c.giv := by
    rw [← hb]; exact List.map_congr_left fun i hi => by rw [(h.fixb i (hlp.fb i hi).1).1, (hlp.fb i hi).2]
   refine wp_ret ?_
   rw [EX_ret]
   exact finish_sound cf h O hO hb' hh
  ·-- loop
   rename_i b
   split at hh
   ·rename_i an han
    split at hh
    ·rename_i xs sk os cs h1 h2 h3 h4
     generalize hdr : assigned b = dr at hh
     split at hh
     ·rename_i hc
      obtain ⟨k1, k2, k3, k4, k5⟩ := hc
      simp only [Hold] at hh
      obtain ⟨I, m, hI, hbody⟩ := hh
      have hon := nodupB_nodup k2
      have hsn := nodupB_nodup k1
      obtain ⟨o1, o2⟩ := allSome_map h3
      obtain ⟨c1, c2⟩ := allSome_map h4
      obtain ⟨x1, x2⟩ := allSome_map h1
      have holen : (os.map (·.ks)).length = an.owns.length := by simp [o1]
      have hoblk : ∀ i ∈ an.owns, ∃ o, st.blk i = some o := fun i hi => by
       obtain ⟨j, hj⟩ := List.getElem?_of_mem hi
       obtain ⟨o, _, ho⟩ := o2 j i hj
       exact ⟨o, ho⟩
      have hocs : ∀ i ∈ an.owns, ∃ z, st.cells i = some z := fun i hi => by
       obtain ⟨j, hj⟩ := List.getElem?_of_mem hi
       obtain ⟨o, _, ho⟩ := c2 j i hj
       exact ⟨o, ho⟩
      have hsl : ∀ t ∈ an.slots, t ∈ dr ∧ t < st.tmps.length := fun t ht => by
       have := List.all_eq_true.1 k3 t ht
       simpa using this
      obtain ⟨x0, hx0, hxl⟩ := decode (bk := bk) k4
      obtain ⟨y0, hy0, hyl⟩ := decodeL (bk := bk) k5
      have hslen : sk.length = an.slots.length := by omega
      let Jk : Nat → Act → World → Prop := fun k a w => ∃ x y u', HeadOk c st bk dr an.owns a w u' ∧ (∀ (j : Nat) t, an.slots[j]? = some t → ∀ v, (denL bk (cellsSV sk x))[j]? = some v → a.tmps.getD t undef = v) ∧
       (∀ (j : Nat) i, an.owns[j]? = some i → ∀ v, (denLL bk (os.map (·.ks)) y)[j]? = some v → Has w (bk i) v) ∧ I (denL bk (cellsSV sk x)) (denLL bk (os.map (·.ks)) y) u' ∧ m (denL bk (cellsSV sk x)) (denLL bk (os.map (·.ks)) y) u' = k
      -- at the beginning
      have h0 : Jk (m (denL bk xs) (cs.map (denL bk)) u) a w := by
       refine ⟨x0, y0, u, ⟨h.defers, h.size, fun t e _ he => h.ent t e he, fun id o z _ ho hz => h.own id o z ho hz, fun id hid => ?_, h.apart, h.sees, h.old, h.ngiv, h.gro, h.le, h.lt, h.fix, h.fixb, h.sz⟩, fun j t hj v hv => ?_, fun j i hj v hv => ?_, by rw [hx0, hy0]; exact hI, by rw [hx0, hy0]⟩
       ·obtain ⟨z, hz⟩ := hocs id hid
        obtain ⟨o, q1, q2⟩ := cells_own hz
        have hok := h.own id o z q1 q2
        exact ⟨o, q1, hok.out, hok.giv⟩
       ·obtain ⟨y, q1, q2⟩ := x2 j t hj
        rw [hx0, denL_eq, List.getElem?_map, q1] at hv
        simp at hv; subst hv
        exact (slot_val h q2).1
       ·obtain ⟨z, q1, q2⟩ := c2 j i hj
        rw [hy0, List.getElem?_map, q1] at hv
        simp at hv; subst hv
        obtain ⟨o, r1, r2⟩ := cells_own q2
        exact (h.own i o z r1 r2).has
      have key : ∀ k a w, Jk k a w → Code.rounds cf.P b (EX cf.P cf.fn (fun e w' => ∃ v cs u', e = .returned v ∧ PostG c.base c.wr O c.u0 c.w0 w' cs u' ∧ R v cs u') J r) (k + 1) a w := by
       intro k
       induction k using Nat.strongRecOn with
       | _ k ih =>
        intro a w hj
        obtain ⟨x, y, u', hd, hxv, hyv, hIx, hmx⟩ := hj
        have hrep := head_rep (dr := dr) (x := x) (y := y) hd hsn hon hsl hslen holen hocs hxv hyv
        have hbd := hbody x y u' hIx
        rw [hmx] at hbd
        let c' : Ctx := { c with fx := fun t => t ∉ dr ∨ c.fx t, fv := fun t => a.tmps.getD t undef, fb := fun i => live st i ∨ c.fb i, fbv := bk }
        have hext : c.Ext c' := ⟨rfl, rfl, rfl, fun t ht => ⟨.inr ht, hd.fix t ht⟩, fun i hi => ⟨.inr hi, (hd.fixb i hi).1⟩, rfl, rfl, rfl⟩
        have hrep' : Rep c' (fun _ => True) (st.head dr an.slots an.owns sk (os.map (·.ks)) x y) bk a w u' :=
         ⟨hrep.defers, hrep.size, hrep.ent, fun id o cs ho hc => ⟨(hrep.own id o cs ho hc).has, (hrep.own id o cs ho hc).out, (hrep.own id o cs ho hc).giv, (hrep.own id o cs ho hc).live⟩, hrep.apart, hrep.sees, hrep.old, hrep.ngiv, hrep.gro, hrep.le, hrep.lt, fun t _ => rfl, fun i hi => ⟨rfl, head_live hon holen hoblk i (hi.elim id fun hi => (hd.fixb i hi).2)⟩, hrep.sz⟩
        let Ag' : Nat → List Value → List (List Value) → Mem → Prop := fun j => if j = n then fun vs ws u'' => I vs ws u'' ∧ m vs ws u'' < k else Ag j
        let J' : Nat → Act → World → Prop := fun j => if j = n then fun a w => ∃ k', k' < k ∧ Jk k' a w else J j
        have hne : ∀ m' sl ow sk' ok dr' hd', It.lp m' sl ow sk' ok dr' hd' ∈ r → Ag' m' = Ag m' ∧ J' m' = J m' := fun m' sl ow sk' ok dr' hd' hm => by
         have := hlv' m' sl ow sk' ok dr' hd' hm
         exact ⟨if_neg (by omega), if_neg (by omega)⟩
        have hres := run_sound cf hN hD O gbk f (n + 1) (.code b :: .lp n an.slots an.owns sk (os.map (·.ks)) dr (st.head dr an.slots an.owns sk (os.map (·.ks)) x y).own :: r) c' _ bk u' Ag' J' a w hO hb (fun m' sl ow sk' ok dr' hd' hm => by
         simp only [List.mem_cons, reduceCtorEq, false_or] at hm
         rcases hm with hm | hm
         ·cases hm; omega
         ·have := hlv' m' sl ow sk' ok dr' hd' hm; omega) hbd hrep' (by
         refine ⟨c, hext, fun t ht => ht, LpOk.congr hlp' hne, fun st1 bk1 a1 w1 u1 xs1 cs1 es1 r1 r2 r3 r4 r5 r6 r7 r8 => ?_⟩
         have r8' : I (denL bk1 xs1) (cs1.map (denL bk1)) u1 ∧ m (denL bk1 xs1) (cs1.map (denL bk1)) u1 < k := by
          have : Ag' n = fun vs ws u'' => I vs ws u'' ∧ m vs ws u'' < k := if_pos rfl
          rw [this] at r8; exact r8
         have hJ' : J' n = fun a w => ∃ k', k' < k ∧ Jk k' a w := if_pos rfl
         rw [hJ']
         obtain ⟨z0, hz0, _⟩ := decode (bk := bk1) r5
         obtain ⟨z1, hz1, _⟩ := decodeL (bk := bk1) r6
         obtain ⟨s1, s2⟩ := allSome_map r2
         obtain ⟨s3, s4⟩ := allSome_map r3
         have hbk : ∀ i, live st i → bk1 i = bk i := fun i hi => (r1.fixb i (.inl hi)).1
         refine ⟨_, r8'.2, z0, z1, u1, ⟨r1.defers, ?_, fun t e ht he => ?_, fun id o z hid ho hz => ?_, fun id hid => ?_, hd.apart, r1.sees, r1.old, r1.ngiv, r1.gro, r1.le, r1.lt, fun t ht => ?_, hd.fixb, r1.sz⟩, fun j t hj v hv => ?_, fun j i hj v hv => ?_, by rw [hz0, hz1]; exact r8'.1, by rw [hz0, hz1]⟩
         ·have e1 : a1.tmps.size = c.n := r1.sz
          rw [e1, ← hd.sz]; exact hd.size
         ·have ho := hd.ent t e ht he
          have hv : a1.tmps.getD t undef = a.tmps.getD t undef := r1.fix t (.inl ht)
          have hl : e.lab = [] := List.eq_nil_iff_forall_not_mem.2 fun l hl => ho.far l hl trivial
          have hw : e.w.den = true := ho.lab.2 (by rw [hl]; intro l hl; cases hl)
          exact ⟨⟨fun _ l hl' => absurd hl' (by rw [hl]; simp), fun _ => hw⟩, fun _ => by rw [hv]; exact ho.yes hw, fun hf => absurd hf (by rw [hw]; simp), fun hw i hi => ho.live hw i hi, fun l hl' => absurd hl' (by rw [hl]; simp)⟩
         ·have hok := hd.own id o z hid ho hz
          have hlv : live st id := by unfold live; rw [ho]; rfl
          have hown : ((st.head dr an.slots an.owns sk (os.map (·.ks)) x y).own)[id]? = some (some o) := by
           have := head_own (dr := dr) (slots := an.slots) (sk := sk) (x := x) (y := y) hon holen hoblk id hid
           rw [ho] at this
           unfold St.blk at this
           obtain ⟨q, q1, q2⟩ := Option.bind_eq_some_iff.1 this
           rw [q1]; exact congrArg some q2
          obtain ⟨o', z', q1, q2, q3, q4, q5⟩ := sameOwn_spec an.owns 0 _ _ r4 id o z hown hz (by simpa using hid)
          have hb1 : st1.blk id = some o' := by unfold St.blk; rw [q1]; rfl
          have hok1 := r1.own id o' z' hb1 q2
          have hz' : denL bk z = denL bk1 z' := by
           rw [← zip_den bk1 z z' q4 fun p hp => r7 p (q5 p hp)]
           exact denL_congr z fun i hi => (hbk i (hok.live i hi)).symm
          exact ⟨by rw [hz', ← hbk id hlv]; exact hok1.has, by rw [← hbk id hlv]; exact hok1.out, hok.giv, hok.live⟩
         ·obtain ⟨o, q1, _, q3⟩ := hd.owns id hid
          have hlv : live st id := by unfold live; rw [q1]; rfl
          obtain ⟨j, hj⟩ := List.getElem?_of_mem hid
          obtain ⟨z, w1', w2⟩ := s4 j id hj
          obtain ⟨o', v1, v2⟩ := cells_own w2
          exact ⟨o, q1, by rw [← hbk id hlv]; exact (r1.own id o' z v1 v2).out, q3⟩
         ·have : a1.tmps.getD t undef = a.tmps.getD t undef := r1.fix t (.inr ht)
          rw [this]; exact hd.fix t ht
         ·obtain ⟨y', q1, q2⟩ := s2 j t hj
          rw [hz0, denL_eq, List.getElem?_map, q1] at hv
          simp at hv; subst hv
          exact (slot_val r1 q2).1
         ·obtain ⟨z, q1, q2⟩ := s4 j i hj
          rw [hz1, List.getElem?_map, q1] at hv
          simp at hv; subst hv
          obtain ⟨o, v1, v2⟩ := cells_own q2
          obtain ⟨o', p1, _⟩ := hd.owns i (List.mem_of_getElem? hj)
          have hlv : live st i := by unfold live; rw [p1]; rfl
          rw [← hbk i hlv]
          exact (r1.own i o z v1 v2).has)
        rw [rounds_succ]
        simp only [EX] at hres
        refine wp_mono hres fun e a2 w2 hq => ?_
        have hEX := EX_congr (P := cf.P) (fn := cf.fn) (R := fun e w' => ∃ v cs u', e = .returned v ∧ PostG c.base c.wr O c.u0 c.w0 w' cs u' ∧ R v cs u') (J := J) (J' := J') r fun m' sl ow sk' ok dr' hd' hm => (hne m' sl ow sk' ok dr' hd' hm).2
        cases e with
        | normal =>
         have hJ' : J' n = fun a w => ∃ k', k' < k ∧ Jk k' a w := if_pos rfl
         simp only [EX, hJ'] at hq
         obtain ⟨k', hk', hjk⟩ := hq
         exact rounds_le (k' + 1) a2 w2 (ih k' hk' a2 w2 hjk) k hk'
        | exit i => simp only [EX] at hq; rw [hEX] at hq; exact hq
        | goto l => simp only [EX] at hq; rw [hEX] at hq; exact hq
        | ret => simp only [EX] at hq; rw [hEX] at hq; exact hq
        | panic l => simp only [EX] at hq; rw [hEX] at hq; exact hq
        | outgrown => simp only [EX] at hq; rw [hEX] at hq; exact hq
      exact wp_loop_rounds _ (key _ a w h0)
     ·exact hh.elim
    ·exact hh.elim
   ·exact hh.elim
  ·exact hh.elim
end
end Go.Proofs.YtpfbimkpcnnfkaaGreatDoor.Sx
