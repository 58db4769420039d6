/- Sx: regions that draw: two operations change places. Nothing of the program. -/
import Derived.Test.YtpfbimkpcnnfkaaGreatDoorSxN
set_option linter.unusedVariables false
set_option linter.unusedSimpArgs false
namespace Go.Proofs.YtpfbimkpcnnfkaaGreatDoor.Sx
open Go Go.RowKit Go.Proofs.YtpfbimkpcnnfkaaGreatDoor
section
variable {P : Program} {c : Ctx} {st st' : St S.ty} {bk : Nat → Nat} {a : Act} {w : World} {u u0 : Mem} {lab : List (Nat × Bool)} {K K' : St S.ty → (Nat → Nat) → Mem → Prop} {ops : List Oper} {o y : Oper} {fl fy : Flag} {N : Nat → Prop} {F : Nat → Prop}
theorem Agr.symm (h : Agr ops o st st') : Agr ops o st' st := fun t ht => (h t ht).symm
theorem Agr.trans {st'' : St S.ty} (h : Agr ops o st st') (h' : Agr ops o st' st'') : Agr ops o st st'' := fun t ht => (h t ht).trans (h' t ht)
theorem EV_put {d : Nat} {e : Ent S.ty} (hd : o.dst ≠ some d) (hl : d ∉ o.looksAt ops.toArray) (hM : cls o = 1 → d ∉ fl.lds) (h : EV P u0 ops fl o st bk u fun st' bk' u' => K (st'.put (some d) e) bk' u') : EV P u0 ops fl o (st.put (some d) e) bk u K := by
 have ha : Agr ops o (st.put (some d) e) st := Agr.put hl
 have hc : ∀ i, (st.put (some d) e).cells i = st.cells i := fun i => rfl
 have hge : cls o = 1 → ∀ t ∈ fl.lds, (st.put (some d) e).get t = st.get t := fun hk t ht => by
  have hne : ¬ (t = d ∧ d < st.tmps.length) := fun hh => hM hk (hh.1 ▸ ht)
  rw [get_put, if_neg hne]
 have hM' : cls o = 1 → ∀ l, fl.lds.all ((st.put (some d) e).okLd l) = fl.lds.all (st.okLd l) := fun hk l => okLds_congr (hge hk)
 unfold EV at h ⊢
 rw [ha.guard]
 rcases hg : guardOf ops st o with _ | ⟨lab, g⟩
 ·simp only [hg] at h
 simp only [hg] at h ⊢
 rw [ha.res (.inr hc)]
 have hkind := res_kind (P := P) (st := st) (o := o) lab
 generalize res P st lab o = r at h hkind ⊢
 rcases r with _ | ⟨obs, x⟩ | ⟨obs, id, off, xs⟩ | ⟨obs, ow, x⟩ | ⟨A, k, ag, ks⟩ | ⟨obs, A, k, xs⟩ | ⟨f, args, rs⟩ | ⟨p, args, rs⟩ <;> dsimp only [ResKind] at h hkind ⊢
 ·rw [put_put hd]; exact h
 ·rw [blk_put]
  split at h
  ·rw [setOwn_put, hM' (cls_store hkind)]; exact h
  ·exact h.elim
 ·split at h
  ·rename_i dx hdx
   have hd' : some dx ≠ some d := by rw [← hdx]; exact hd
   refine ⟨by rw [blk_put]; exact h.1, h.2.1, h.2.2.1, fun hg b hb => ?_, fun hg => (h.2.2.2.2 hg).imp fun y hy => ⟨hy.1, by rw [put_put hd']; exact hy.2⟩⟩
   rw [setOwn_put, put_put hd']
   exact h.2.2.2.1 hg b hb
  ·exact h.elim
 ·exact ⟨fun hg => (h.1 hg).imp fun x ⟨h1, y, h2, h3⟩ => ⟨h1, y, h2, by rw [put_put hd]; exact h3⟩, fun hg => (h.2 hg).imp fun y ⟨h2, h3⟩ => ⟨h2, by rw [put_put hd]; exact h3⟩⟩
 ·split at h
  ·exact h
  ·exact h.elim
 ·rw [close_congr hc, close_congr hc, hM' (cls_call hkind)]
  simp only [rows_put, kss_put, mineB_put, fresh_put, shut_put, out_put]
  obtain ⟨h1, h2, h3, h4, h5, h7, h8⟩ := h
  exact ⟨h1, h2, h3, h4, h5, fun hg => (h7 hg).mono fun u1 hc => hc.mono fun v cs u' ⟨xs, ys, e1, e2, e3⟩ => ⟨xs, ys, e1, e2, fun ho => by rw [put_put hd]; exact e3 ho⟩, fun hg => (h8 hg).imp fun x hx => ⟨hx.1, by rw [put_put hd]; exact hx.2⟩⟩
 ·rw [close_congr hc]
  simp only [rows_put, mineB_put, shut_put, out_put]
  obtain ⟨h1, h2, h3, hx, h7, h8⟩ := h
  exact ⟨h1, h2, h3, by rw [okPs_congr (hge hkind.1)]; exact hx, fun hg => (h7 hg).mono fun u1 hc => hc.mono fun v u' ⟨xs, e1, e3⟩ => ⟨xs, e1, fun ho => by rw [put_put hd]; exact e3 ho⟩, fun hg => by rw [put_put hd]; exact h8 hg⟩
theorem EV_lds {M : List Tmp} (hM : ∀ t ∈ M, t ∈ fl.lds) (h : EV P u0 ops fl o st bk u K) : EV P u0 ops ⟨M⟩ o st bk u K := by
 unfold EV at h ⊢
 rcases hg : guardOf ops st o with _ | ⟨lab, g⟩
 ·simp only [hg] at h
 simp only [hg] at h ⊢
 generalize res P st lab o = r at h ⊢
 rcases r with _ | ⟨obs, x⟩ | ⟨obs, id, off, xs⟩ | ⟨obs, ow, x⟩ | ⟨A, k, ag, ks⟩ | ⟨obs, A, k, xs⟩ | ⟨f, args, rs⟩ | ⟨p, args, rs⟩ <;> dsimp only at h ⊢
 ·exact h
 ·split at h
  ·exact ⟨okLds_sub hM h.1, h.2⟩
  ·exact h.elim
 ·exact h
 ·exact h
 ·split at h
  ·exact ⟨nil_of_sub hM h.1, h.2⟩
  ·exact h.elim
 ·obtain ⟨h1, h2, h3, h4, h5, h7, h8⟩ := h
  exact ⟨h1, h2, h3, h4, okLds_sub hM h5, fun hg => (h7 hg).mono fun u1 hc => hc.of fun hq => by
   have : M = [] := nil_of_sub hM (List.isEmpty_iff.1 hq)
   rw [this]; rfl, h8⟩
 ·obtain ⟨h1, h2, h3, hx, h7, h8⟩ := h
  exact ⟨h1, h2, h3, okLds_sub hM hx, h7, h8⟩
theorem EV_put' {d : Nat} {e : Ent S.ty} {M : List Tmp} (hd : o.dst ≠ some d) (hl : d ∉ o.looksAt ops.toArray) (hM : ∀ t ∈ M, t ∈ fl.lds) (hdM : d ∉ M) (h : EV P u0 ops fl o (st.put (some d) e) bk u K) : EV P u0 ops ⟨M⟩ o st bk u fun st' bk' u' => K (st'.put (some d) e) bk' u' := by
 replace h := EV_lds hM h
 have ha : Agr ops o (st.put (some d) e) st := Agr.put hl
 have hc : ∀ i, (st.put (some d) e).cells i = st.cells i := fun i => rfl
 have hge : ∀ t ∈ M, (st.put (some d) e).get t = st.get t := fun t ht => by
  have hne : ¬ (t = d ∧ d < st.tmps.length) := fun hh => hdM (hh.1 ▸ ht)
  rw [get_put, if_neg hne]
 have hM' : ∀ l, M.all ((st.put (some d) e).okLd l) = M.all (st.okLd l) := fun l => okLds_congr hge
 unfold EV at h ⊢
 rw [ha.guard] at h
 rcases hg : guardOf ops st o with _ | ⟨lab, g⟩
 ·simp only [hg] at h
 simp only [hg] at h ⊢
 rw [ha.res (.inr hc)] at h
 generalize res P st lab o = r at h ⊢
 rcases r with _ | ⟨obs, x⟩ | ⟨obs, id, off, xs⟩ | ⟨obs, ow, x⟩ | ⟨A, k, ag, ks⟩ | ⟨obs, A, k, xs⟩ | ⟨f, args, rs⟩ | ⟨p, args, rs⟩ <;> dsimp only at h ⊢
 ·rw [put_put hd] at h; exact h
 ·rw [blk_put] at h
  split at h
  ·rw [setOwn_put, hM'] at h; exact h
  ·exact h.elim
 ·split at h
  ·rename_i dx hdx
   have hd' : some dx ≠ some d := by rw [← hdx]; exact hd
   obtain ⟨h1, h2, h3, h4, h5⟩ := h
   rw [blk_put] at h1
   refine ⟨h1, h2, h3, fun hg b hb => ?_, fun hg => (h5 hg).imp fun y hy => ⟨hy.1, by have := hy.2; rw [put_put hd'] at this; exact this⟩⟩
   have := h4 hg b hb
   rw [setOwn_put, put_put hd'] at this
   exact this
  ·exact h.elim
 ·exact ⟨fun hg => (h.1 hg).imp fun x ⟨h1, y, h2, h3⟩ => ⟨h1, y, h2, by rw [put_put hd] at h3; exact h3⟩, fun hg => (h.2 hg).imp fun y ⟨h2, h3⟩ => ⟨h2, by rw [put_put hd] at h3; exact h3⟩⟩
 ·split at h
  ·exact h
  ·exact h.elim
 ·rw [close_congr hc, close_congr hc, hM'] at h
  simp only [rows_put, kss_put, mineB_put, fresh_put, shut_put, out_put] at h
  obtain ⟨h1, h2, h3, h4, h5, h7, h8⟩ := h
  exact ⟨h1, h2, h3, h4, h5, fun hg => (h7 hg).mono fun u1 hc => hc.mono fun v cs u' ⟨xs, ys, e1, e2, e3⟩ => ⟨xs, ys, e1, e2, fun ho => by have := e3 ho; rw [put_put hd] at this; exact this⟩, fun hg => (h8 hg).imp fun x hx => ⟨hx.1, by have := hx.2; rw [put_put hd] at this; exact this⟩⟩
 ·rw [close_congr hc] at h
  simp only [rows_put, mineB_put, shut_put, out_put] at h
  obtain ⟨h1, h2, h3, hx, h7, h8⟩ := h
  exact ⟨h1, h2, h3, by rw [okPs_congr hge] at hx; exact hx, fun hg => (h7 hg).mono fun u1 hc => hc.mono fun v u' ⟨xs, e1, e3⟩ => ⟨xs, e1, fun ho => by have := e3 ho; rw [put_put hd] at this; exact this⟩, fun hg => by have := h8 hg; rw [put_put hd] at this; exact this⟩
theorem cls0_noMem (hc : cls o = 0) (hl : isLoad o = false) : noMem o = true := by
 unfold noMem
 split
 ·rename_i h; simp [isLoad, h] at hl
 ·rename_i h; simp [cls, h] at hc
 ·rfl
def NoU (P : Program) (st : St S.ty) (y : Oper) : Prop := ∀ lab A k ag ks, res P st lab y ≠ .uld A k ag ks
theorem EV_replay (hc : cls o = 0) (h : EV P u0 ops fl o st bk u K) : ∃ e, K (st.put o.dst e) bk u ∧ ∀ st' bk' u' K', Agr ops o st st' → (isLoad o = true → (∀ lab, res P st lab o = res P st' lab o) ∧ (u.le u' ∨ NoU P st o)) → K' (st'.put o.dst e) bk' u' → EV P u0 ops fl o st' bk' u' K' := by
 unfold EV at h
 rcases hg : guardOf ops st o with _ | ⟨lab, g⟩
 ·simp only [hg] at h
 simp only [hg] at h
 have hk := res_kind (P := P) (st := st) (o := o) lab
 have hre : ∀ st', Agr ops o st st' → (isLoad o = true → ∀ lab, res P st lab o = res P st' lab o) → guardOf ops st' o = some (lab, g) ∧ res P st' lab o = res P st lab o := fun st' ha hm => by
  refine ⟨by rw [← ha.guard, hg], ?_⟩
  cases hl : isLoad o with
  | true => exact (hm hl lab).symm
  | false => exact (ha.res (.inl (cls0_noMem hc hl)) lab).symm
 generalize hr : res P st lab o = r at h hk
 rcases r with _ | ⟨obs, x⟩ | ⟨obs, id, off, xs⟩ | ⟨obs, ow, x⟩ | ⟨A, k, ag, ks⟩ | ⟨obs, A, k, xs⟩ | ⟨f, args, rs⟩ | ⟨p, args, rs⟩ <;> dsimp only [ResKind] at h hk
 ·refine ⟨_, h.2.2, fun st' bk' u' K' ha hm hK => ?_⟩
  obtain ⟨r1, r2⟩ := hre st' ha fun hl => (hm hl).1
  unfold EV
  simp only [r1, r2, hr]
  exact ⟨h.1, h.2.1, hK⟩
 ·unfold isStore at hk; unfold cls at hc; split at hk
  ·rename_i h'; simp [h'] at hc
  ·cases hk
 ·omega
 ·have go : ∀ (x : Cells S.ty ks) z, pack ag (cellsSV ks x) = some z → (g.den = true → Reads u A.den k.den (denL bk (cellsSV ks x))) → (g.den = false → x = dflt ks) → K (st.put o.dst ⟨lab, g, z⟩) bk u → ∃ e, K (st.put o.dst e) bk u ∧ ∀ st' bk' u' K', Agr ops o st st' → (isLoad o = true → (∀ lab, res P st lab o = res P st' lab o) ∧ (u.le u' ∨ NoU P st o)) → K' (st'.put o.dst e) bk' u' → EV P u0 ops fl o st' bk' u' K' := by
   intro x z hz hr1 hr2 hK1
   refine ⟨_, hK1, fun st' bk' u' K' ha hm hK => ?_⟩
   obtain ⟨r1, r2⟩ := hre st' ha fun hl => (hm hl).1
   unfold EV
   simp only [r1, r2, hr]
   refine ⟨fun hg' => ⟨x, ?_, z, hz, hK⟩, fun hg' => ⟨z, by rw [← hr2 hg']; exact hz, hK⟩⟩
   obtain ⟨b, f, e1, e2⟩ := hr1 hg'
   refine ⟨b, f, e1, fun j v hv => ((hm hk).2.resolve_right fun hn => hn _ _ _ _ _ hr) _ _ _ (e2 j v ?_)⟩
   rw [denL_congr (cellsSV ks x) (bk := bk) (bk' := bk') fun i hi => by rw [cellsSV_ids] at hi; cases hi]; exact hv
  cases hgd : g.den
  ·obtain ⟨z, hz, hK1⟩ := h.2 hgd
   exact go _ z hz (fun e => by rw [hgd] at e; cases e) (fun _ => rfl) hK1
  ·obtain ⟨x, hx, z, hz, hK1⟩ := h.1 hgd
   exact go x z hz (fun _ => hx) (fun e => by rw [hgd] at e; cases e) hK1
 ·unfold isStore at hk; unfold cls at hc; split at hk
  ·rename_i h'; simp [h'] at hc
  ·cases hk
 ·unfold isCallV at hk; unfold cls at hc; split at hk
  ·rename_i h'; simp [h'] at hc
  ·cases hk
 ·omega
theorem EV_det (hc : cls o = 0) (hl : isLoad o = false) (h : EV P u0 ops fl o st bk u K) : ∃ e, (∀ st' bk' u' K', Agr ops o st st' → EV P u0 ops fl o st' bk' u' K' → K' (st'.put o.dst e) bk' u') ∧ ∀ st' bk' u' K', Agr ops o st st' → K' (st'.put o.dst e) bk' u' → EV P u0 ops fl o st' bk' u' K' := by
 obtain ⟨e, h1, h2⟩ := EV_replay hc h
 unfold EV at h
 rcases hg : guardOf ops st o with _ | ⟨lab, g⟩
 ·simp only [hg] at h
 simp only [hg] at h
 have hk := res_kind (P := P) (st := st) (o := o) lab
 have hre : ∀ st', Agr ops o st st' → guardOf ops st' o = some (lab, g) ∧ res P st' lab o = res P st lab o := fun st' ha => ⟨by rw [← ha.guard, hg], (ha.res (.inl (cls0_noMem hc hl)) lab).symm⟩
 generalize hr : res P st lab o = r at h hk
 rcases r with _ | ⟨obs, x⟩ | ⟨obs, id, off, xs⟩ | ⟨obs, ow, x⟩ | ⟨A, k, ag, ks⟩ | ⟨obs, A, k, xs⟩ | ⟨f, args, rs⟩ | ⟨p, args, rs⟩ <;> dsimp only [ResKind] at h hk
 ·refine ⟨⟨lab, g, x⟩, fun st' bk' u' K' ha hh => ?_, fun st' bk' u' K' ha hK => ?_⟩
  ·obtain ⟨r1, r2⟩ := hre st' ha
   unfold EV at hh
   simp only [r1, r2, hr] at hh
   exact hh.2.2
  ·obtain ⟨r1, r2⟩ := hre st' ha
   unfold EV
   simp only [r1, r2, hr]
   exact ⟨h.1, h.2.1, hK⟩
 ·unfold isStore at hk; unfold cls at hc; split at hk
  ·rename_i h'; simp [h'] at hc
  ·cases hk
 ·omega
 ·rw [hl] at hk; cases hk
 ·unfold isStore at hk; unfold cls at hc; split at hk
  ·rename_i h'; simp [h'] at hc
  ·cases hk
 ·unfold isCallV at hk; unfold cls at hc; split at hk
  ·rename_i h'; simp [h'] at hc
  ·cases hk
 ·omega
theorem cls2_noMem (hc : cls o = 2) : noMem o = true := by
 unfold noMem
 split
 ·rename_i h; simp [cls, h] at hc
 ·rename_i h; simp [cls, h] at hc
 ·rfl
theorem EV_newdet (hgn : o.guard = none) (hc : cls o = 2) (h : EV P u0 ops fl o st bk u K) : ∃ d ow e, o.dst = some d ∧ st.blk d = none ∧ d < st.own.length ∧ ow.cs.isSome = true ∧
  (∀ st' bk' u' K', Agr ops o st st' → EV P u0 ops fl o st' bk' u' K' → ∀ b, (∀ o, u' b o = none) → K' (st'.mk_ d ow e) (upd bk' d b) u') ∧
  ∀ st' bk' u' K', Agr ops o st st' → st'.blk d = none → d < st'.own.length → (∀ b, (∀ o, u' b o = none) → K' (st'.mk_ d ow e) (upd bk' d b) u') → EV P u0 ops fl o st' bk' u' K' := by
 unfold EV at h
 rcases hg : guardOf ops st o with _ | ⟨lab, g⟩
 ·simp only [hg] at h
 simp only [hg] at h
 obtain ⟨rfl, rfl⟩ : lab = [] ∧ g = .b true := by
  unfold guardOf at hg
  rw [hgn] at hg
  cases hg
  exact ⟨rfl, rfl⟩
 have hk := res_kind (P := P) (st := st) (o := o) []
 have hn := (show Nam (fun _ => True) st from ⟨fun _ _ _ _ _ => trivial, fun _ _ _ _ _ => trivial⟩).res (P := P) (o := o) []
 have hre : ∀ st', Agr ops o st st' → guardOf ops st' o = some ([], .b true) ∧ res P st' [] o = res P st [] o := fun st' ha => ⟨by rw [← ha.guard, hg], (ha.res (.inl (cls2_noMem hc)) []).symm⟩
 generalize hr : res P st [] o = r at h hk hn
 rcases r with _ | ⟨obs, x⟩ | ⟨obs, id, off, xs⟩ | ⟨obs, ow, x⟩ | ⟨A, k, ag, ks⟩ | ⟨obs, A, k, xs⟩ | ⟨f, args, rs⟩ | ⟨p, args, rs⟩ <;> dsimp only [ResKind, ResNam] at h hk hn
 ·omega
 ·unfold isStore at hk; unfold cls at hc; split at hk
  ·rename_i h'; simp [h'] at hc
  ·cases hk
 ·split at h
  ·rename_i d hdst
   refine ⟨d, ow, ⟨[], .b true, x⟩, hdst, by simpa using h.1, h.2.1, hn.2.1, fun st' bk' u' K' ha hh b hb => ?_, fun st' bk' u' K' ha h1 h2 hK => ?_⟩
   ·obtain ⟨r1, r2⟩ := hre st' ha
    unfold EV at hh
    simp only [r1, r2, hr, hdst] at hh
    exact hh.2.2.2.1 rfl b hb
   ·obtain ⟨r1, r2⟩ := hre st' ha
    unfold EV
    simp only [r1, r2, hr, hdst]
    exact ⟨by rw [h1]; rfl, h2, h.2.2.1, fun _ => hK, fun e => by cases e⟩
  ·exact h.elim
 ·unfold isLoad at hk; unfold cls at hc; split at hk
  ·rename_i h'; simp [h'] at hc
  ·cases hk
 ·unfold isStore at hk; unfold cls at hc; split at hk
  ·rename_i h'; simp [h'] at hc
  ·cases hk
 ·unfold isCallV at hk; unfold cls at hc; split at hk
  ·rename_i h'; simp [h'] at hc
  ·cases hk
 ·omega
theorem EV_quiet (hk : cls o = 0) (h : EV P u0 ops fl o st bk u K) : EV P u0 ops fl o st bk u fun st' bk' u' => K st' bk' u' ∧ (∀ i, st.cells i = st'.cells i) ∧ u.le u' := by
 unfold EV at h ⊢
 rcases hg : guardOf ops st o with _ | ⟨lab, g⟩
 ·simp only [hg] at h
 simp only [hg] at h ⊢
 have hkind := res_kind (P := P) (st := st) (o := o) lab
 have hns : ∀ {q : Prop}, (isStore o = true ∨ isCallV o = true) → q := fun hs => by
  exfalso
  unfold cls at hk
  unfold isStore isCallV at hs
  rcases hs with hs | hs
  ·split at hs
   ·rename_i h'; simp [h'] at hk
   ·cases hs
  ·split at hs
   ·rename_i h'; simp [h'] at hk
   ·cases hs
 generalize hr : res P st lab o = r at h hkind ⊢
 rcases r with _ | ⟨obs, x⟩ | ⟨obs, id, off, xs⟩ | ⟨obs, ow, x⟩ | ⟨A, k, ag, ks⟩ | ⟨obs, A, k, xs⟩ | ⟨f, args, rs⟩ | ⟨p, args, rs⟩ <;> dsimp only [ResKind] at h hkind ⊢
 ·exact ⟨h.1, h.2.1, h.2.2, fun i => (cells_put _ _ _ _).symm, Mem.le_refl u⟩
 ·exact hns (.inl hkind)
 ·omega
 ·exact ⟨fun hg => (h.1 hg).imp fun x ⟨h1, y, h2, h3⟩ => ⟨h1, y, h2, h3, fun i => (cells_put _ _ _ _).symm, Mem.le_refl u⟩, fun hg => (h.2 hg).imp fun y ⟨h2, h3⟩ => ⟨h2, h3, fun i => (cells_put _ _ _ _).symm, Mem.le_refl u⟩⟩
 ·exact hns (.inl hkind)
 ·exact hns (.inr hkind)
 ·omega
theorem fresh_ne {i : Nat} : ∀ {l : List Nat} {ms : List (List CK)} {y : CellsL S.ty ms} {st : St S.ty}, i ∉ l → (st.fresh l ms y).cells i = st.cells i
 | [], ms, y, st, _ => by cases ms <;> rfl
 | j :: l, [], y, st, _ => rfl
 | j :: l, k :: ms, y, st, h => by
  simp only [List.mem_cons, not_or] at h
  simp only [St.fresh]
  rw [fresh_ne h.2]
  unfold St.cells
  rw [blk_setOwn, if_neg (fun hh => h.1 hh.1)]
theorem shut_ne {i : Nat} {l : List Nat} (h : i ∉ l) : (st.shut l).cells i = st.cells i := by unfold St.cells; rw [blk_shut, if_neg h]
theorem res_load {t : Tmp} {l : List Nat} (hty : ldAddr y = some t) (hg : st'.get t = st.get t) (hok : st.okLd l t = true) (hc : ∀ i, i ∉ l → st'.cells i = st.cells i) (lab : List (Nat × Bool)) : res P st lab y = res P st' lab y := by
 obtain ⟨dst, op, ty, pos, after, guard⟩ := y
 have hop : ∃ T, op = .load T (.tmp t) := by
  unfold ldAddr at hty
  split at hty
  ·rename_i T t' h'; cases hty; exact ⟨T, h'⟩
  ·cases hty
 obtain ⟨T, rfl⟩ := hop
 unfold res
 simp only [St.ev, hg]
 unfold St.okLd at hok
 cases he : st.get t with
 | none => rfl
 | some e =>
  rw [he] at hok
  obtain ⟨lb, w, x⟩ := e
  simp only
  by_cases hl : (lb.all fun l => lab.contains l) = true
  ·simp only [hl, if_true]
   cases hsz : sizeB P T with
   | none => cases x <;> rfl
   | some n =>
   cases x <;> try rfl
   rename_i i off
   have hi : i ∉ l := by simpa using hok
   have e1 : st'.cells i = st.cells i := hc i hi
   simp only [e1]
  ·have hl' := Bool.eq_false_iff.2 hl
   simp only [hl', Bool.false_eq_true, if_false]
theorem PubTo.mono_le {ps : List (Nat × List (SV S.ty))} {K K' : Mem → Prop} (h : ∀ u1 : Mem, u.le u1 → K u1 → K' u1) (hp : PubTo bk ps u K) : PubTo bk ps u K' := by
 unfold PubTo at *
 split at hp
 ·exact h _ (Mem.le_refl u) hp
 ·exact fun u1 h1 h2 => h _ h1 (hp u1 h1 h2)
theorem okP_nou {t : Tmp} {l : List Nat} (hty : ldAddr y = some t) (h : st.okP l t = true) : NoU P st y := by
 intro lab A k ag ks hr
 unfold ldAddr at hty
 split at hty
 ·rename_i T t' hop
  cases hty
  unfold St.okP at h
  unfold res at hr
  simp only [hop, St.ev] at hr
  split at h
  ·rename_i lb _ _ _ he
   rw [he] at hr
   simp only at hr
   by_cases hl : (lb.all fun l => lab.contains l) = true
   ·simp only [hl, if_true] at hr
    cases hsz : sizeB P T with
    | none => rw [hsz] at hr; cases hr
    | some n =>
     rw [hsz] at hr
     simp only at hr
     (repeat' split at hr) <;> cases hr
   ·simp only [Bool.eq_false_iff.2 hl, Bool.false_eq_true, if_false] at hr
    cases hr
  ·cases h
 ·cases hty
theorem EV_quietL {t : Tmp} (ht : t ∈ fl.lds) (hty : ldAddr y = some t) (hdt : o.dst ≠ some t) (hc1 : cls o = 1) (h : EV P u0 ops fl o st bk u K) :
  EV P u0 ops fl o st bk u fun st' bk' u' => K st' bk' u' ∧ (∀ lab, res P st lab y = res P st' lab y) ∧ (u.le u' ∨ NoU P st y) := by
 unfold EV at h ⊢
 rcases hg : guardOf ops st o with _ | ⟨lab, g⟩
 ·simp only [hg] at h
 simp only [hg] at h ⊢
 have hkind := res_kind (P := P) (st := st) (o := o) lab
 have hpt : ∀ (s : St S.ty) (e : Ent S.ty), s.get t = st.get t → (s.put o.dst e).get t = st.get t := fun s e hs => by
  cases hd : o.dst with
  | none => exact hs
  | some d => rw [get_put, if_neg (fun hh => hdt (by rw [hd, hh.1]))]; exact hs
 generalize hr : res P st lab o = r at h hkind ⊢
 rcases r with _ | ⟨obs, x⟩ | ⟨obs, id, off, xs⟩ | ⟨obs, ow, x⟩ | ⟨A, k, ag, ks⟩ | ⟨obs, A, k, xs⟩ | ⟨f, args, rs⟩ | ⟨p, args, rs⟩ <;> dsimp only [ResKind] at h hkind ⊢
 ·omega
 ·split at h
  ·refine ⟨h.1, h.2.1, h.2.2, ?_, .inl (Mem.le_refl u)⟩
   refine res_load (st := st) hty rfl (List.all_eq_true.1 h.1 t ht) fun i hi => ?_
   unfold St.cells
   rw [blk_setOwn, if_neg (fun hh => hi (by simp [hh.1]))]
  ·exact h.elim
 ·omega
 ·exfalso
  unfold isLoad at hkind
  unfold cls at hc1
  split at hkind
  ·rename_i h'; simp [h'] at hc1
  ·cases hkind
 ·split at h
  ·rw [h.1] at ht; cases ht
  ·exact h.elim
 ·obtain ⟨h1, h2, h3, h4, h5, h7, h8⟩ := h
  have hrs : ∀ (ys : CellsL S.ty (st.kss (st.close 40 ((args.map (SV.direct (isAs P f))).flatten) []))) (e : Ent S.ty) lab, res P st lab y = res P ((((st.fresh (st.close 40 ((args.map (SV.direct (isAs P f))).flatten) []) _ ys).shut (st.close 40 ((args.map (SV.seen (isAs P f))).flatten) [])).put o.dst e)) lab y := fun ys e lab => by
   refine res_load (st := st) hty (hpt _ _ ?_) (List.all_eq_true.1 h5 t ht) (fun i hi => ?_) lab
   ·rw [(get_shut _ _ t).1, (get_fresh _ _ ys st t).1]
   ·simp only [List.mem_append, not_or] at hi
    rw [cells_put, shut_ne hi.2, fresh_ne hi.1]
  have hq : fl.lds.isEmpty = false := by cases hl : fl.lds with
   | nil => rw [hl] at ht; cases ht
   | cons x r => rfl
  rw [hq] at h7 ⊢
  exact ⟨h1, h2, h3, h4, h5, fun hg => PubTo.mono_le (fun u1 hu1 hc => CV.mono' hc fun v cs u' hle ⟨xs, ys, e1, e2, e3⟩ => ⟨xs, ys, e1, e2, fun ho => ⟨e3 ho, hrs ys _, .inl (Mem.le_trans hu1 hle)⟩⟩) (h7 hg), fun hg => (h8 hg).imp fun x hx => ⟨hx.1, hx.2, fun la => res_load (st := st) hty (hpt st _ rfl) (List.all_eq_true.1 h5 t ht) (fun i _ => by rw [cells_put]) la, .inl (Mem.le_refl u)⟩⟩
 ·obtain ⟨h1, h2, h3, hx, h7, h8⟩ := h
  have hp := List.all_eq_true.1 hx t ht
  have hrs : ∀ (e : Ent S.ty) lab, res P st lab y = res P ((st.shut (st.close 40 ((args.map (SV.seen false)).flatten) [])).put o.dst e) lab y := fun e lab => by
   refine res_load (st := st) hty (hpt _ _ (get_shut _ _ t).1) (okP_ld hp) (fun i hi => ?_) lab
   rw [cells_put, shut_ne hi]
  exact ⟨h1, h2, h3, hx, fun hg => (h7 hg).mono fun u1 hc => hc.mono fun v u' ⟨xs, e1, e3⟩ => ⟨xs, e1, fun ho => ⟨e3 ho, hrs _, .inr (okP_nou hty hp)⟩⟩, fun hg => ⟨h8 hg, hrs _, .inr (okP_nou hty hp)⟩⟩
theorem swap0 {M : List Tmp} (hy : cls y = 0) (h1 : Oper.apart ops.toArray y o = true) (h2 : Oper.apart ops.toArray o y = true) (hq : isLoad y = true → cls o = 0 ∨ (cls o = 1 ∧ ∃ t, ldAddr y = some t ∧ t ∈ fl.lds))
  (hM : ∀ t ∈ M, t ∈ fl.lds) (hyM : ∀ d, y.dst = some d → d ∉ M) (hyt : ∀ t, ldAddr y = some t → y.dst ≠ some t)
  (h : EV P u0 ops fy y st bk u fun st bk u => EV P u0 ops fl o st bk u K) : EV P u0 ops ⟨M⟩ o st bk u fun st bk u => EV P u0 ops fy y st bk u K := by
 obtain ⟨e, hK, hre⟩ := EV_replay hy h
 obtain ⟨a1, a2, a3⟩ := Oper.apart_spec h1
 obtain ⟨b1, b2, b3⟩ := Oper.apart_spec h2
 have hagr : ∀ st' : St S.ty, (∀ t, o.dst ≠ some t → st'.get t = st.get t) → Agr ops y st st' := fun st' hf t ht => by
  refine (hf t fun he => ?_).symm
  exact a3 t he ht
 have go : ∀ M' : List Tmp, (∀ t ∈ M', t ∈ fl.lds) → (∀ d, y.dst = some d → d ∉ M') → EV P u0 ops ⟨M'⟩ o st bk u fun st' bk' u' => K (st'.put y.dst e) bk' u' := fun M' m1 m2 => by
  cases hd : y.dst with
  | none => rw [hd] at hK; exact EV_lds m1 hK
  | some d =>
   rw [hd] at hK
   exact EV_put' (fun he => a2 d hd he) (fun hm => a1 d hd hm) m1 (m2 d hd) hK
 cases hl : isLoad y with
 | false =>
  refine EV.mono (fun st' bk' u' hh => ?_) (EV_frame (go M hM hyM))
  exact hre st' bk' u' K (hagr st' hh.2.1) (fun e => by rw [hl] at e; cases e) hh.1
 | true =>
  rcases hq hl with hq | ⟨hq, t, ht, htl⟩
  ·refine EV.mono (fun st' bk' u' hh => ?_) (EV_quiet hq (EV_frame (go M hM hyM)))
   exact hre st' bk' u' K (hagr st' hh.1.2.1) (fun _ => ⟨fun lab => (hagr st' hh.1.2.1).res (.inr hh.2.1) lab, .inl hh.2.2⟩) hh.1.1
  ·have hta : t ∈ y.looksAt ops.toArray := by
    unfold Oper.looksAt
    refine List.mem_append_left _ (List.mem_filterMap.2 ⟨.tmp t, ?_, rfl⟩)
    unfold ldAddr at ht
    split at ht
    ·rename_i h'; cases ht; rw [h']; simp [Op.operands]
    ·cases ht
   have hgo := go (t :: M) (fun x hx => by rcases List.mem_cons.1 hx with rfl | hx; exact htl; exact hM x hx) (fun d hd hm => by
    rcases List.mem_cons.1 hm with rfl | hm
    ·exact hyt _ ht hd
    ·exact hyM d hd hm)
   have h3 := EV_quietL (t := t) (fl := ⟨t :: M⟩) (by simp) ht (fun he => a3 t he hta) hq (EV_frame hgo)
   refine EV.mono (fun st' bk' u' hh => ?_) (EV_lds (fl := ⟨t :: M⟩) (M := M) (fun x hx => by simp [hx]) h3)
   exact hre st' bk' u' K (hagr st' hh.1.2.1) (fun _ => hh.2) hh.1.1
theorem op_extract (hN : Names P) (h : Rep c F st bk a w u) (hF : ∀ t, o.dst = some t → F t) (hfx : ∀ t, o.dst = some t → ¬ c.fx t)
  (hd : ∀ e ∈ o.after, Region.binds .any e = true → ∀ t, (ops[e.on]?).bind (·.dst) = some t → ¬ F t) (he : EV P c.u0 ops fl o st bk u K) :
  ∃ st' bk' u' a' w', Rep c (fun t => F t ∧ o.dst ≠ some t) st' bk' a' w' u' ∧ K st' bk' u' := by
 have := op_sound (Q := fun _ _ _ => False) hN h hF hfx hd he
 have key : ∀ {K1 : Act → World → Prop} {a : Act} {w : World}, Op1 P ops o K1 (fun _ _ _ => False) a w → ∃ a' w', K1 a' w' := by
  intro K1 a w hh
  unfold Op1 at hh
  split at hh
  ·unfold Oper.wp at hh
   generalize (execOp a.eval o).run P w = r at hh
   rcases r with ⟨n, w'⟩ | ⟨x, w'⟩
   ·cases n <;> simp only [Oper.upon] at hh <;> try exact ⟨_, _, hh⟩
    ·obtain ⟨e, w2, fr, hr, _⟩ := hh []
     cases e with
     | returned v => exact ⟨_, _, hr⟩
     | panicked ch => exact hr.elim
     | outgrown => obtain ⟨_, _, hf⟩ := hr; exact hf.elim
    ·obtain ⟨v, w2, hr, _⟩ := hh default []
     exact ⟨_, _, hr⟩
   ·cases x <;> simp only [Oper.upon] at hh
  ·exact ⟨_, _, hh⟩
 obtain ⟨a', w', st', bk', u', h1, h2⟩ := key this
 exact ⟨st', bk', u', a', w', h1, h2⟩
end
end Go.Proofs.YtpfbimkpcnnfkaaGreatDoor.Sx
