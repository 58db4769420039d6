/- Sx: writing into slices of one's own: copy, clear, append of zeros, overlaps. Nothing of the program. -/
import Derived.Test.YtpfbimkpcnnfkaaGreatDoorSxX
import Derived.Lib.Overlaps
import Derived.Laws.MakeOwn
set_option linter.unusedVariables false
set_option linter.unusedSimpArgs false
namespace Go.Proofs.YtpfbimkpcnnfkaaGreatDoor.Sx
open Go Go.RowKit Go.Proofs.YtpfbimkpcnnfkaaGreatDoor
section
variable {P : Program} {base : Nat} {u0 v u : Mem} {w : World} {b : Nat} {L : List Value}
theorem own_mem (hs : Sees u w) (hold : ∀ k o, u k o ≠ none → u0 k o ≠ none ∨ (base ≤ k ∧ Plain w k)) (hv : u0.le v) (hvb : ∀ o, v b o = none) (hL : ∀ (j : Nat) x, L[j]? = some x → u b j = some x) (hlt : 0 < L.length) :
  (base ≤ b ∧ Plain w b) ∧ ∀ j, j < L.length → (w.cell? ⟨b, j, none⟩).isSome = true ∧ w.frozen? ⟨b, j, none⟩ = false := by
 have hpl : base ≤ b ∧ Plain w b := by
  have hx := hL 0 _ (List.getElem?_eq_getElem hlt)
  rcases hold b 0 (by rw [hx]; simp) with h2 | h2
  ·obtain ⟨y, hy⟩ := Option.ne_none_iff_exists'.1 h2
   have := hv _ _ _ hy
   rw [hvb] at this; cases this
  ·exact h2
 exact ⟨hpl, fun j hj => ⟨by rw [hs _ _ _ (hL j _ (List.getElem?_eq_getElem hj))]; rfl, hpl.2.frozen _⟩⟩
theorem write_mem (hs : Sees u w) (hold : ∀ k o, u k o ≠ none → u0 k o ≠ none ∨ (base ≤ k ∧ Plain w k)) (hv : u0.le v) (hvu : v.le u) (hvb : ∀ o, v b o = none) (hL : ∀ (j : Nat) x, L[j]? = some x → u b j = some x) (hlt : 0 < L.length)
  {o : Nat} {vs : List Value} (hle : o + vs.length ≤ L.length) :
  Gro (fun k => base ≤ k ∧ ∃ o, u k o ≠ none) w (w.setCells b o vs) ∧ Sees (v.with b (L.take o ++ vs ++ L.drop (o + vs.length))) (w.setCells b o vs) ∧
   (∀ k o', v.with b (L.take o ++ vs ++ L.drop (o + vs.length)) k o' ≠ none → (∃ o'', u k o'' ≠ none) ∨ w.heap.size ≤ k) ∧
   (∀ k o', v.with b (L.take o ++ vs ++ L.drop (o + vs.length)) k o' ≠ none → u0 k o' ≠ none ∨ (base ≤ k ∧ Plain (w.setCells b o vs) k)) ∧
   u0.le (v.with b (L.take o ++ vs ++ L.drop (o + vs.length))) ∧ v.le (v.with b (L.take o ++ vs ++ L.drop (o + vs.length))) := by
 obtain ⟨hpl, hc⟩ := own_mem hs hold hv hvb hL hlt
 have hx0 : u b 0 ≠ none := by rw [hL 0 _ (List.getElem?_eq_getElem hlt)]; simp
 have hg' := gro_setCells b o vs w
 have hc' := setCells_cell b vs o w (fun j hj => (hc (o + j) (by omega)).1)
 have hvn : ∀ k o, v k o ≠ none → u k o ≠ none := fun k o h => by
  obtain ⟨x, hx⟩ := Option.ne_none_iff_exists'.1 h
  rw [hvu k o x hx]; simp
 refine ⟨⟨hg'.os, hg'.tape, hg'.output, hg'.size, fun k hk hB => hg'.block k hk fun e => hB (e ▸ ⟨hpl.1, 0, hx0⟩)⟩, fun k j x hx => ?_, fun k j hn => ?_, fun k j hn => ?_, Mem.le_trans hv (Mem.le_with hvb), Mem.le_with hvb⟩
 ·by_cases hk : k = b
  ·subst hk
   rw [Mem.with_self] at hx
   rw [hc']
   have ht : (L.take o).length = o := by rw [List.length_take]; omega
   split
   ·rename_i hin
    rw [List.append_assoc, List.getElem?_append_right (by omega), List.getElem?_append_left (by omega), ht] at hx
    exact hx
   ·rename_i hin
    refine hs _ _ _ (hL j x ?_)
    rcases Nat.lt_or_ge j o with h2 | h2
    ·rw [List.append_assoc, List.getElem?_append_left (by omega), List.getElem?_take, if_pos h2] at hx; exact hx
    ·rw [List.append_assoc, List.getElem?_append_right (by omega), List.getElem?_append_right (by omega), List.getElem?_drop, ht] at hx
     rwa [show o + vs.length + (j - o - vs.length) = j by omega] at hx
  ·rw [Mem.with_ne j hk] at hx
   rw [cell_eq (setCells_other b _ _ _ _ hk)]
   exact hs _ _ _ (hvu _ _ _ hx)
 ·by_cases hk : k = b
  ·subst hk; exact .inl ⟨0, hx0⟩
  ·rw [Mem.with_ne j hk] at hn; exact .inl ⟨j, hvn k j hn⟩
 ·by_cases hk : k = b
  ·subst hk; exact .inr ⟨hpl.1, plain_setCells _ _ _ _ _ hpl.2⟩
  ·rw [Mem.with_ne j hk] at hn
   exact (hold k j (hvn k j hn)).imp (fun h => h) fun h => ⟨h.1, plain_setCells _ _ _ _ _ h.2⟩
end
theorem Grow.resize {v u : Mem} {s : Option Addr × Nat × Nat} {size : Nat} {es : List Value} (h : Grow v u s size es) {n : Nat} (hn : n ≤ s.2.2) : ∃ sp, Grow v u (s.1, n, s.2.2) size ((es ++ sp).take (n * size)) ∧ ((es ++ sp).length = s.2.2 * size) := by
 rcases h.at_ with ⟨h1, h2⟩ | ⟨b, sp, h1, h2, h3, h4⟩
 ·have hn0 : n = 0 := by omega
  subst hn0
  have := h.cap
  have h5 : es = [] := List.eq_nil_of_length_eq_zero (by rw [h.len, show s.2.1 = 0 by omega]; simp)
  subst h5
  exact ⟨[], ⟨h.le, by simp, Nat.zero_le _, .inl ⟨h1, h2⟩⟩, by rw [h2]; simp⟩
 ·refine ⟨sp, ⟨h.le, ?_, hn, .inr ⟨b, (es ++ sp).drop (n * size), h1, h2, ?_, ?_⟩⟩, h4⟩
  ·rw [List.length_take, h4]; exact Nat.min_eq_left (Nat.mul_le_mul_right _ hn)
  ·rw [List.take_append_drop]; exact h3
  ·rw [List.take_append_drop]; exact h4
theorem Grow.short {v u : Mem} {s : Option Addr × Nat × Nat} {size : Nat} {es : List Value} (h : Grow v u s size es) {n : Nat} (hn : n ≤ s.2.1) : Grow v u (s.1, n, s.2.2) size (es.take (n * size)) := by
 obtain ⟨sp, h1, h2⟩ := h.resize (Nat.le_trans hn h.cap)
 rwa [List.take_append_of_le_length (by rw [h.len]; exact Nat.mul_le_mul_right _ hn)] at h1
theorem Grow.write {P : Program} {base : Nat} {u0 v u : Mem} {w : World} {s : Option Addr × Nat × Nat} {size : Nat} {es : List Value} (hg : Grow v u s size es) (hs : Sees u w) (hold : ∀ k o, u k o ≠ none → u0 k o ≠ none ∨ (base ≤ k ∧ Plain w k)) (hv : u0.le v)
  {o : Nat} {vs : List Value} (hle : o + vs.length ≤ es.length) (hlt : 0 < es.length) :
  ∃ b u', s.1 = some ⟨b, 0, none⟩ ∧ (∀ j, j < vs.length → (w.cell? ⟨b, o + j, none⟩).isSome = true ∧ w.frozen? ⟨b, o + j, none⟩ = false) ∧
   Gro (fun k => base ≤ k ∧ ∃ o, u k o ≠ none) w (w.setCells b o vs) ∧ Sees u' (w.setCells b o vs) ∧ (∀ k o', u' k o' ≠ none → (∃ o'', u k o'' ≠ none) ∨ w.heap.size ≤ k) ∧
   (∀ k o', u' k o' ≠ none → u0 k o' ≠ none ∨ (base ≤ k ∧ Plain (w.setCells b o vs) k)) ∧ u0.le u' ∧ Grow v u' s size (es.take o ++ vs ++ es.drop (o + vs.length)) := by
 rcases hg.at_ with ⟨h1, h2⟩ | ⟨b, sp, h1, h2, h3, h4⟩
 ·have := hg.cap
  have : es.length = 0 := by rw [hg.len, show s.2.1 = 0 by omega]; simp
  omega
 have hl : 0 < (es ++ sp).length := by rw [List.length_append]; omega
 obtain ⟨q1, q2, q3, q4, q5, q6⟩ := write_mem (base := base) hs hold hv hg.le h2 h3 hl (o := o) (vs := vs) (by rw [List.length_append]; omega)
 have e : (es ++ sp).take o ++ vs ++ (es ++ sp).drop (o + vs.length) = (es.take o ++ vs ++ es.drop (o + vs.length)) ++ sp := by
  rw [List.take_append_of_le_length (by omega), List.drop_append_of_le_length hle]; simp [List.append_assoc]
 rw [e] at q2 q3 q4 q5 q6
 refine ⟨b, _, h1, fun j hj => (own_mem hs hold hv h2 h3 hl).2 (o + j) (by rw [List.length_append]; omega), q1, q2, q3, q4, q5, ⟨q6, ?_, hg.cap, .inr ⟨b, sp, h1, h2, fun j x hx => by rw [Mem.with_self]; exact hx, ?_⟩⟩⟩
 ·rw [← hg.len]; simp only [List.length_append, List.length_take, List.length_drop]; omega
 ·rw [← h4]; simp only [List.length_append, List.length_take, List.length_drop]; omega
theorem bv_copy {P : Program} {t ty e : TypeId} {size : Nat} (ht : P.underlying t = some (.slice e)) (hi : sizeB P e = some size) (hsz : 0 < size)
  {v u0 u : Mem} {s : Option Addr × Nat × Nat} {es : List Value} {d a : Option Addr} {i L c m c2 : Nat} {ys : List Value} (hv : u0.le v) (hg : Grow v u s size es) (hd : L ≠ 0 → d = s.1.map fun x => x.add (i * size)) (hL : i + L ≤ s.2.1)
  (hy : ys.length = min m L * size) (hr : min m L ≠ 0 → Reads u a 0 ys) (h1 : ∀ y ∈ ys, y.oneCell' = true) :
  BV P (.bi .copy #[t, t] ty) [.slice d L c, .slice a m c2] u0 u fun r u' => r = .int .i64 (min m L : Nat) ∧ Grow v u' s size (es.take (i * size) ++ ys ++ es.drop (i * size + ys.length)) := by
 intro base w hs hold hbase hule
 have hbi : ∀ args (v' : Value) (w' : World), (Builtin.copy_ #[t, t] ty args).run P w = .ok v' w' → ∀ cs : Array Bool, (builtin .copy #[t, t] ty cs args).run P w = .ok (.value v') w' := fun args v' w' h cs => by
  simp only [builtin, Sem.run_bind, h, Result.andThen_ok, Sem.run_pure]
 have hz : ∀ w, (sizeOf e).run P w = .ok size w := run_sizeB hi
 rcases Nat.eq_zero_or_pos (min m L) with h0 | h0
 ·have hys : ys = [] := List.eq_nil_of_length_eq_zero (by rw [hy, h0]; simp)
  subst hys
  refine ⟨.int .i64 (min m L : Nat), w, u, hbi _ _ _ ?_, Gro.refl _ _, hs, fun k o h => .inl ⟨o, h⟩, hold, hule, rfl, by simpa using hg⟩
  have hfc : (Builtin.firstCells size 0 (.slice a m c2)).run P w = .ok #[] w := by
   cases a with
   | none => rfl
   | some x => simp only [Builtin.firstCells, Nat.zero_mul]; rfl
  have hm : Nat.min m L = 0 := h0
  cases d <;> simp [Builtin.copy_, run_underlying ht, Builtin.lenOf, hz, hm, hfc, storeCells, Sem.run, h0, goInt]
 ·obtain ⟨b', f', rfl, hcells⟩ := hr (by omega)
  have hyl : 0 < ys.length := by rw [hy]; exact Nat.mul_pos h0 hsz
  have hes : i * size + ys.length ≤ es.length := by
   rw [hg.len, hy, ← Nat.add_mul]; exact Nat.mul_le_mul_right _ (by omega)
  obtain ⟨b, u', k1, k2, k3, k4, k5, k6, k7, k8⟩ := hg.write (P := P) (base := base) hs hold hv hes (by omega)
  refine ⟨.int .i64 (min m L : Nat), _, u', hbi _ _ _ ?_, k3, k4, k5, k6, k7, rfl, k8⟩
  have hl := run_loadCells_list (P := P) (w := w) ⟨b', f', none⟩ ys (fun j x hx => by
   rw [addr_add]
   have := hs _ _ _ (hcells j x hx)
   simpa using this)
  have hst := run_storeCells_cells (P := P) b (i * size) ys 0 w (fun j hj => by have := (k2 j hj).1; simpa using this) (fun j hj => by have := (k2 j hj).2; simpa using this) h1
  have hdd := hd (by omega)
  rw [k1] at hdd
  have hdd : d = some ⟨b, i * size, none⟩ := by rw [hdd]; simp only [Option.map_some, Option.some.injEq]; rw [addr_add]; simp
  subst hdd
  have hm : Nat.min m L * size = ys.length := hy.symm
  simp only [Nat.add_zero] at hst
  simp [Builtin.copy_, run_underlying ht, Builtin.lenOf, Builtin.firstCells, hz, hm, hl, hst, goInt]
theorem bv_clear {P : Program} {t ty e : TypeId} {z : Value} {size : Nat} (ht : P.underlying t = some (.slice e)) (hi : (P.info? e).bind (·.zero) = some z) (hzs : z.cells.size = size) (hsz : 0 < size) (h1 : ∀ y ∈ z.cells.toList, y.oneCell' = true)
  {v u0 u : Mem} {s : Option Addr × Nat × Nat} {es : List Value} {d : Option Addr} {i L c : Nat} (hv : u0.le v) (hg : Grow v u s size es) (hd : L ≠ 0 → d = s.1.map fun x => x.add (i * size)) (hL : i + L ≤ s.2.1) :
  BV P (.bi .clear #[t] ty) [.slice d L c] u0 u fun r u' => r = .tuple #[] ∧ Grow v u' s size (es.take (i * size) ++ (Builtin.zeroCells z.cells L).toList ++ es.drop (i * size + L * size)) := by
 intro base w hs hold hbase hule
 have hbi : ∀ args (v' : Value) (w' : World), (Builtin.clear_ #[t] ty args).run P w = .ok v' w' → ∀ cs : Array Bool, (builtin .clear #[t] ty cs args).run P w = .ok (.value v') w' := fun args v' w' h cs => by
  simp only [builtin, Sem.run_bind, h, Result.andThen_ok, Sem.run_pure]
 have hzl : (Builtin.zeroCells z.cells L).toList.length = L * size := by rw [Array.length_toList, size_zeroCells, hzs]
 rcases Nat.eq_zero_or_pos L with h0 | h0
 ·subst h0
  have : (Builtin.zeroCells z.cells 0).toList = [] := List.eq_nil_of_length_eq_zero (by rw [hzl]; simp)
  refine ⟨.tuple #[], w, u, hbi _ _ _ ?_, Gro.refl _ _, hs, fun k o h => .inl ⟨o, h⟩, hold, hule, rfl, by rw [this]; simpa using hg⟩
  cases d <;> simp [Builtin.clear_, run_underlying ht]
 ·have hes : i * size + (Builtin.zeroCells z.cells L).toList.length ≤ es.length := by
   rw [hg.len, hzl, ← Nat.add_mul]; exact Nat.mul_le_mul_right _ hL
  have hLp : 0 < L * size := Nat.mul_pos h0 hsz
  obtain ⟨b, u', k1, k2, k3, k4, k5, k6, k7, k8⟩ := hg.write (P := P) (base := base) hs hold hv hes (by omega)
  rw [hzl] at k8
  refine ⟨.tuple #[], _, u', hbi _ _ _ ?_, k3, k4, k5, k6, k7, rfl, k8⟩
  have hst := run_storeCells_cells (P := P) b (i * size) (Builtin.zeroCells z.cells L).toList 0 w (fun j hj => by have := (k2 j hj).1; simpa using this) (fun j hj => by have := (k2 j hj).2; simpa using this) (by
   intro y hy
   unfold Builtin.zeroCells at hy
   simp only [Array.toList_map, List.mem_map] at hy
   obtain ⟨k, _, rfl⟩ := hy
   have hk : k % z.cells.size < z.cells.size := Nat.mod_lt _ (by omega)
   rw [getElem!_pos z.cells (k % z.cells.size) hk]
   exact h1 _ (Array.mem_toList_iff.2 (Array.getElem_mem hk)))
  have hdd := hd (by omega)
  rw [k1] at hdd
  have hdd : d = some ⟨b, i * size, none⟩ := by rw [hdd]; simp only [Option.map_some, Option.some.injEq]; rw [addr_add]; simp
  subst hdd
  simp only [Nat.add_zero] at hst
  obtain ⟨m, rfl⟩ : ∃ m, L = m + 1 := ⟨L - 1, by omega⟩
  have hzv : (zeroValue e).run P w = .ok z w := by
   cases hq : P.info? e with
   | none => rw [hq] at hi; cases hi
   | some x => rw [hq] at hi; simp only [Option.bind_some] at hi; simp [zeroValue, typeInfo, hq, hi]
  simp [Builtin.clear_, run_underlying ht, hzv, hst]
theorem bv_room {P : Program} {t ty e : TypeId} {z : Value} {size bytes : Nat} (ht : P.underlying t = some (.slice e)) (hi : (P.info? e).map (fun i => (i.zero, i.size, i.bytes)) = some (some z, size, bytes)) (hsz : 0 < size)
  {v u0 u : Mem} {s : Option Addr × Nat × Nat} {es : List Value} {a : Option Addr} {i m c : Nat} {ys : List Value} (hv : u0.le v) (hg : Grow v u s size es) (hy : ys.length = m * size) (hr : m ≠ 0 → Reads u a 0 ys)
  (h1 : ∀ y ∈ ys, y.oneCell' = true) (hm : i + m ≤ s.2.1) :
  BV P (.bi .append #[t, t] ty) [.slice s.1 i s.2.2, .slice a m c] u0 u fun r u' => r = .slice s.1 (i + m) s.2.2 ∧ Grow v u' s size (es.take (i * size) ++ ys ++ es.drop (i * size + ys.length)) := by
 intro base w hs hold hbase hule
 have hbi : ∀ args (v' : Value) (w' : World), (Builtin.append_ #[t, t] ty args).run P w = .ok v' w' → ∀ cs : Array Bool, (builtin .append #[t, t] ty cs args).run P w = .ok (.value v') w' := fun args v' w' h cs => by
  simp only [builtin, Sem.run_bind, h, Result.andThen_ok, Sem.run_pure]
 have hgc := hg.cap
 cases hq : P.info? e with
 | none => rw [hq] at hi; cases hi
 | some x =>
  rw [hq] at hi
  simp only [Option.map_some, Option.some.injEq, Prod.mk.injEq] at hi
  obtain ⟨hz, rfl, rfl⟩ := hi
  rcases Nat.eq_zero_or_pos m with h0 | h0
  ·subst h0
   have hys : ys = [] := List.eq_nil_of_length_eq_zero (by simpa using hy)
   subst hys
   refine ⟨.slice s.1 (i + 0) s.2.2, w, u, hbi _ _ _ ?_, Gro.refl _ _, hs, fun k o h => .inl ⟨o, h⟩, hold, hule, rfl, by simpa using hg⟩
   have hfc : (Builtin.firstCells x.size 0 (.slice a 0 c)).run P w = .ok #[] w := by
    cases a with
    | none => rfl
    | some y => simp only [Builtin.firstCells, Nat.zero_mul]; rfl
   have hic : i ≤ s.2.2 := by omega
   cases s.1 with
   | none => simp [Builtin.append_, run_underlying ht, sizeOf, typeInfo, hq, Builtin.lenOf, hic, hfc]
   | some y => simp [Builtin.append_, run_underlying ht, sizeOf, typeInfo, hq, Builtin.lenOf, hic, hfc, storeCells, Sem.run]
  ·obtain ⟨b', f', rfl, hcells⟩ := hr (by omega)
   have hyl : 0 < ys.length := by rw [hy]; exact Nat.mul_pos h0 hsz
   have hes : i * x.size + ys.length ≤ es.length := by rw [hg.len, hy, ← Nat.add_mul]; exact Nat.mul_le_mul_right _ hm
   obtain ⟨b, u', k1, k2, k3, k4, k5, k6, k7, k8⟩ := hg.write (P := P) (base := base) hs hold hv hes (by omega)
   have hrun := run_append_room_cells (P := P) w t ty e x ht hq b 0 i s.2.2 ⟨b', f', none⟩ m c ys hy (fun j y hy' => by
    rw [addr_add]
    have := hs _ _ _ (hcells j y hy')
    simpa using this) h1 (by omega) (fun j hj => by have := (k2 j hj).1; simpa using this) fun j hj => by have := (k2 j hj).2; simpa using this
   simp only [Nat.zero_add] at hrun
   refine ⟨.slice s.1 (i + m) s.2.2, _, u', hbi _ _ _ (by rw [k1]; exact hrun), k3, k4, k5, k6, k7, rfl, k8⟩
theorem Grow.tail {v u : Mem} {s : Option Addr × Nat × Nat} {size : Nat} {es : List Value} (h : Grow v u s size es) {j : Nat} (hj : j < s.2.1) (hsz : 0 < size) : Reads u (s.1.map fun x => x.add (j * size)) 0 (es.drop (j * size)) := by
 rcases h.at_ with ⟨h1, h2⟩ | ⟨b, sp, h1, h2, h3, h4⟩
 ·have := h.cap; omega
 ·refine ⟨b, j * size, by rw [h1]; simp only [Option.map_some]; rw [addr_add]; simp, fun k x hx => ?_⟩
  rw [List.getElem?_drop] at hx
  have := h3 (j * size + k) x (by rw [List.getElem?_append_left (List.getElem?_eq_some_iff.1 hx).1]; exact hx)
  rwa [Nat.add_zero]
theorem bv_zeros {P : Program} {t ti ty e : TypeId} {z : Value} {size bytes : Nat} {ki : IntKind} (ht : P.underlying t = some (.slice e)) (hti : P.underlying ti = some (.int ki)) (hi : (P.info? e).map (fun i => (i.zero, i.size, i.bytes)) = some (some z, size, bytes)) (hzs : z.cells.size = size) (hsz : 0 < size) (hb0 : 0 < bytes)
  {v u0 u : Mem} {s : Option Addr × Nat × Nat} {es : List Value} {m : Nat} (hv : u0.le v) (hg : Grow v u s size es) (hc : s.2.2 < s.2.1 + m) (hm0 : 0 < m) (hbytes : (s.2.1 + m) * bytes ≤ 140737488355328) :
  BV P (.bi .append #[t, ti] ty) [.slice s.1 s.2.1 s.2.2, .int .i64 m] u0 u fun r u' => ∃ s' : Option Addr × Nat × Nat, r = .slice s'.1 s'.2.1 s'.2.2 ∧ s'.2.1 = s.2.1 + m ∧ Grow u u' s' size (es ++ (Builtin.zeroCells z.cells m).toList) := by
 intro base w hs hold hbase hule
 obtain ⟨sa, n, cp⟩ := s
 have hgl := hg.len
 have hgc := hg.cap
 simp only at hgl hgc hc hbytes ⊢
 have hbi : ∀ args (v' : Value) (w' : World), (Builtin.append_ #[t, ti] ty args).run P w = .ok v' w' → ∀ cs : Array Bool, (builtin .append #[t, ti] ty cs args).run P w = .ok (.value v') w' := fun args v' w' h cs => by
  simp only [builtin, Sem.run_bind, h, Result.andThen_ok, Sem.run_pure]
 cases hq : P.info? e with
 | none => rw [hq] at hi; cases hi
 | some i =>
  rw [hq] at hi
  simp only [Option.map_some, Option.some.injEq, Prod.mk.injEq] at hi
  obtain ⟨hz, rfl, rfl⟩ := hi
  have hle : n + m ≤ 140737488355328 := Nat.le_trans (Nat.le_mul_of_pos_right _ hb0) hbytes
  have h63 : n + m ≤ maxLen := by simp only [maxLen]; omega
  have hw : IntKind.i64.wrap (m : Int) = m := by rw [IntKind.wrap_i64] <;> omega
  have hneg : ¬ ((m : Int) < 0) := by omega
  have hmb : m * i.bytes ≤ 140737488355328 := Nat.le_trans (Nat.mul_le_mul_right _ (Nat.le_add_left m n)) hbytes
  have hbig : ¬ (281474976710656 < (m : Int) * (i.bytes : Int)) := by rw [← Int.natCast_mul]; omega
  obtain ⟨news, hnews⟩ : ∃ news, news = (Builtin.zeroCells z.cells m).toList := ⟨_, rfl⟩
  rw [← hnews]
  have hl : news.length = m * i.size := by rw [hnews, Array.length_toList, size_zeroCells, hzs]
  have hna : Builtin.zeroCells z.cells m = news.toArray := by rw [hnews]
  have hge := grownCap_ge w (n + m) cp e
  have hcm : grownCap w (n + m) cp e ≤ maxLen := grownCap_le_maxLen w (n + m) cp e h63
  have hfo : (Builtin.firstCells i.size n (.slice sa n cp)).run P w.drew = .ok es.toArray w.drew := by
   rcases hg.at_ with ⟨q1, q2⟩ | ⟨b, sp, q1, q2, q3, q4⟩
   ·simp only at q1 q2
    subst q1 q2
    obtain rfl : n = 0 := by omega
    obtain rfl : es = [] := List.eq_nil_of_length_eq_zero (by simpa using hgl)
    simp [Builtin.firstCells]
   ·simp only at q1
    subst q1
    refine run_firstCells_some (P := P) (w := w.drew) i.size n ⟨b, 0, none⟩ n cp es hgl fun j x hx => ?_
    rw [addr_add]
    have := hs _ _ _ (q3 j x (by rw [List.getElem?_append_left (List.getElem?_eq_some_iff.1 hx).1]; exact hx))
    simpa using this
  have hrun : (Builtin.append_ #[t, ti] ty #[.slice sa n cp, .int .i64 m]).run P w = .ok (.slice (some ⟨w.heap.size, 0, none⟩) (n + m) (grownCap w (n + m) cp e)) (w.drew.alloc (.cells (es.toArray ++ news.toArray ++ Builtin.zeroCells z.cells (grownCap w (n + m) cp e - (n + m))) e)) := by
   have hn : ¬ (n + m ≤ cp) := by omega
   have h63' : ¬ (9223372036854775807 < ((n : Int) + (m : Int))) := by omega
   have hfit := growslice_fits hc hbytes
   have h48' : ¬ (281474976710656 < Builtin.nextslicecap (n + m) cp * i.bytes) := by omega
   have hmz : ¬ (m * i.size = 0) := Nat.mul_ne_zero (by omega) (by omega)
   simp [Builtin.append_, run_underlying ht, run_underlying hti, sizeOf, typeInfo, zeroValue, hq, hz, asInt, asIntOf, hw, hneg, hbig, hn, h63', h48', Question.forced, hfo, newRow, grownCap, hmz, hna]
   congr 2
   apply Array.ext'
   simp [List.append_assoc]
  have hgr : w.grownBy (w.drew.alloc (.cells (es.toArray ++ news.toArray ++ Builtin.zeroCells z.cells (grownCap w (n + m) cp e - (n + m))) e)) none := ⟨rfl, rfl, rfl, by simp, fun k hk _ => Below.heap_alloc w.drew _ k hk⟩
  obtain ⟨k1, k2, k3, k4, k5, k6, k7⟩ := fresh_mem (P := P) hs hold hbase hule (Mem.le_refl u) hgr (Nat.le_refl _) (heap_alloc_new w.drew _) (cs := es ++ news ++ (Builtin.zeroCells z.cells (grownCap w (n + m) cp e - (n + m))).toList) (fun j x hx => by rw [← Array.getElem?_toList]; simpa using hx)
  refine ⟨_, _, u.with w.heap.size (es ++ news ++ (Builtin.zeroCells z.cells (grownCap w (n + m) cp e - (n + m))).toList), hbi _ _ _ hrun, k1, k2, k3, k4, k5, (some ⟨w.heap.size, 0, none⟩, n + m, grownCap w (n + m) cp e), rfl, rfl, k6, ?_, hge, .inr ⟨w.heap.size, _, rfl, k7, fun j x hx => by rw [Mem.with_self]; exact hx, ?_⟩⟩
  ·rw [List.length_append, hgl, hl, Nat.add_mul]
  ·rw [List.length_append, List.length_append, hgl, hl, Array.length_toList, size_zeroCells, hzs]
   simp only
   rw [← Nat.add_mul, ← Nat.add_mul]; congr 1; omega
theorem run_overlaps_plain {P : Program} (w : World) (tS tR e : TypeId) (ht : P.underlying tS = some (.slice e)) (size : Nat) (hz : ∀ w, (Go.sizeOf e).run P w = .ok size w)
  (a b : Addr) (la ca lb cb : Nat) (hne : a.block ≠ b.block) (tA tB : TypeId) (kA kB : Nat)
  (hsa : w.shape? a.block = some (tA, kA)) (hkA : kA ≠ 0) (hsb : w.shape? b.block = some (tB, kB)) (hfb : w.frozen? b = false) (hfe : w.frozen? { block := b.block, off := kB } = false) :
  (Extern.SlicesOverlaps.overlaps #[tS, tS] #[tR] #[.slice (some a) la ca, .slice (some b) lb cb]).run P w = .ok (.bool false) w := by
 have hnb : (a.block != b.block) = true := by simpa using hne
 have hnb' : (a.block == b.block) = false := by simpa using hne
 change Sem.run P (α := Value) (do
  let some t := (#[tS, tS] : Array TypeId)[0]? | stuck "slices.overlaps: no parameter types"
  let .slice elem ← underlying t | stuck "slices.overlaps: slice type expected"
  let size ← sizeOf elem
  match (some a : Option Addr), (some b : Option Addr) with
  | some a, some b =>
   if la = 0 ∨ lb = 0 ∨ size = 0 then pure (Value.bool false)
   else if a.block != b.block && (← frozen a) && (← frozen b) then unsupported .addressObserved
   else do
    if a.block != b.block then do
     noView a; noView b
     if ← mayBeOne a b then return Value.bool ((← choose (.extern "sameAddr.stringBytes" 2)) == 1)
    pure (Value.bool (a.block == b.block && a.off < b.off + lb * size && b.off < a.off + la * size))
  | _, _ => pure (Value.bool false)) w = _
 by_cases h0 : la = 0 ∨ lb = 0 ∨ size = 0
 ·simp [run_underlying ht, hz, h0]
 ·cases kA with
  | zero => exact absurd rfl hkA
  | succ kA =>
   cases hfa : w.frozen? a <;> cases hfae : w.frozen? { block := a.block, off := kA + 1 } <;> simp [run_underlying ht, hz, h0, hnb, hnb', frozen, noView, viewAt, mayBeOne, stringish, shape, Sem.run, hsa, hsb, hfb, hfe, hfa, hfae]
theorem run_overlaps_zero {P : Program} (w : World) (tS tR e : TypeId) (ht : P.underlying tS = some (.slice e)) (size : Nat) (hz : ∀ w, (Go.sizeOf e).run P w = .ok size w) (a d : Option Addr) (la ca cb : Nat) :
  (Extern.SlicesOverlaps.overlaps #[tS, tS] #[tR] #[.slice a la ca, .slice d 0 cb]).run P w = .ok (.bool false) w := by
 change Sem.run P (α := Value) (do
  let some t := (#[tS, tS] : Array TypeId)[0]? | stuck "slices.overlaps: no parameter types"
  let .slice elem ← underlying t | stuck "slices.overlaps: slice type expected"
  let size ← sizeOf elem
  match (a : Option Addr), (d : Option Addr) with
  | some a, some b =>
   if la = 0 ∨ 0 = 0 ∨ size = 0 then pure (Value.bool false)
   else if a.block != b.block && (← frozen a) && (← frozen b) then unsupported .addressObserved
   else do
    if a.block != b.block then do
     noView a; noView b
     if ← mayBeOne a b then return Value.bool ((← choose (.extern "sameAddr.stringBytes" 2)) == 1)
    pure (Value.bool (a.block == b.block && a.off < b.off + 0 * size && b.off < a.off + la * size))
  | _, _ => pure (Value.bool false)) w = _
 cases a <;> cases d <;> simp [run_underlying ht, hz]
theorem shape_of {w : World} {b o : Nat} {x : Value} (h : w.cell? ⟨b, o, none⟩ = some x) : ∃ t k, w.shape? b = some (t, k) ∧ k ≠ 0 := by
 unfold World.cell? at h
 split at h
 ·rename_i c t f hc
  simp only [Option.isSome_none, Bool.false_eq_true, if_false] at h
  have hc : w.heap[b]? = some (.cells c t f) := hc
  refine ⟨t, c.size, by simp only [World.shape?, hc], ?_⟩
  have := (Array.getElem?_eq_some_iff.1 h).1
  omega
 ·cases h
theorem bv_ov {P : Program} {f : FuncId} {t tb e : TypeId} {size : Nat} (hcall : ∀ (args : Array Value) (w : World), (callFunc f args).run P w = ((Extern.SlicesOverlaps.overlaps #[t, t] #[tb] args).run P w).andThen fun v w' => .ok (.value v) w')
  (ht : P.underlying t = some (.slice e)) (hi : sizeB P e = some size) (hsz : 0 < size)
  {v u0 u : Mem} {s : Option Addr × Nat × Nat} {es : List Value} {a d : Option Addr} {m c i L c2 : Nat} {ys : List Value} (hv : u0.le v) (hg : Grow v u s size es) (hr : Reads v a 0 ys) (hy : 0 < ys.length) (hd : L ≠ 0 → d = s.1.map fun x => x.add (i * size)) (hL : i + L ≤ s.2.1) :
  BV P (.ext f) [.slice a m c, .slice d L c2] u0 u fun r u' => r = .bool false ∧ u' = u := by
 intro base w hs hold hbase hule
 refine ⟨.bool false, w, u, ?_, Gro.refl _ _, hs, fun k o h => .inl ⟨o, h⟩, hold, hule, rfl, rfl⟩
 show (callFunc f #[.slice a m c, .slice d L c2]).run P w = _
 rw [hcall]
 obtain ⟨b', f', rfl, hcells⟩ := hr
 rcases Nat.eq_zero_or_pos L with h0 | h0
 ·subst h0
  rw [run_overlaps_zero w t tb e ht size (run_sizeB hi)]; rfl
 ·rcases hg.at_ with ⟨q1, q2⟩ | ⟨b, sp, q1, q2, q3, q4⟩
  ·have := hg.cap; omega
  have hlt : 0 < (es ++ sp).length := by rw [q4]; exact Nat.mul_pos (by have := hg.cap; omega) hsz
  obtain ⟨hpl, hc⟩ := own_mem (base := base) hs hold hv q2 q3 hlt
  have hx := hs _ _ _ (hg.le _ _ _ (hcells 0 _ (List.getElem?_eq_getElem hy)))
  obtain ⟨tA, kA, hsa, hkA⟩ := shape_of hx
  obtain ⟨cB, tB, hB⟩ := hpl.2
  have hne : b' ≠ b := fun e => by
   have := hcells 0 _ (List.getElem?_eq_getElem hy)
   rw [e, q2] at this; cases this
  have hdd := hd (by omega)
  rw [q1] at hdd
  have hdd : d = some ⟨b, i * size, none⟩ := by rw [hdd]; simp only [Option.map_some, Option.some.injEq]; rw [addr_add]; simp
  subst hdd
  rw [run_overlaps_plain w t tb e ht size (run_sizeB hi) ⟨b', f', none⟩ ⟨b, i * size, none⟩ m c L c2 hne tA tB kA cB.size hsa hkA (by simp only [World.shape?, hB]) (hpl.2.frozen _) (hpl.2.frozen _)]; rfl
theorem bv_mk {P : Program} {t e : TypeId} {z : Value} {size bytes : Nat} (ht : P.underlying t = some (.slice e)) (hi : (P.info? e).map (fun i => (i.zero, i.size, i.bytes)) = some (some z, size, bytes)) (hzs : z.cells.size = size)
  {u0 u : Mem} {kl kc : IntKind} {l c : Nat} (hlc : l ≤ c) (hcells : c * size ≤ 16777216) (hb : bytes * c ≤ 281474976710656) (h63 : c ≤ 9223372036854775807) :
  BV P (.mk t) [.int kl l, .int kc c] u0 u fun r u' => ∃ s : Option Addr × Nat × Nat, r = .slice s.1 s.2.1 s.2.2 ∧ s.2.1 = l ∧ Grow u u' s size ((madeCells z.cells (c * size)).toList.take (l * size)) := by
 intro base w hs hold hbase hule
 cases hq : P.info? e with
 | none => rw [hq] at hi; cases hi
 | some i =>
  rw [hq] at hi
  simp only [Option.map_some, Option.some.injEq, Prod.mk.injEq] at hi
  obtain ⟨hz, rfl, rfl⟩ := hi
  have hrun := run_makeSlice (P := P) (w := w) t e i z ht hq hz kl kc (l : Int) (c : Int) (by omega) (by omega) (by simpa using hcells) (by rw [← Int.natCast_mul]; omega) (by omega)
  simp only [Int.toNat_natCast] at hrun
  have hgr : w.grownBy (w.alloc (.cells (madeCells z.cells (c * i.size)) e)) none := ⟨rfl, rfl, rfl, by simp, fun k hk _ => Below.heap_alloc w _ k hk⟩
  obtain ⟨k1, k2, k3, k4, k5, k6, k7⟩ := fresh_mem (P := P) hs hold hbase hule (Mem.le_refl u) hgr (Nat.le_refl _) (heap_alloc_new w _) (cs := (madeCells z.cells (c * i.size)).toList) (fun j x hx => by rw [← Array.getElem?_toList]; exact hx)
  have hml : (madeCells z.cells (c * i.size)).toList.length = c * i.size := by simp [madeCells]
  have hle : l * i.size ≤ c * i.size := Nat.mul_le_mul_right _ hlc
  refine ⟨_, _, u.with w.heap.size (madeCells z.cells (c * i.size)).toList, hrun, k1, k2, k3, k4, k5, (some ⟨w.heap.size, 0, none⟩, l, c), rfl, rfl, k6, ?_, hlc, .inr ⟨w.heap.size, (madeCells z.cells (c * i.size)).toList.drop (l * i.size), rfl, k7, fun j x hx => ?_, ?_⟩⟩
  ·rw [List.length_take, hml]; exact Nat.min_eq_left hle
  ·rw [List.take_append_drop] at hx; rw [Mem.with_self]; exact hx
  ·rw [List.take_append_drop]; exact hml
end Go.Proofs.YtpfbimkpcnnfkaaGreatDoor.Sx
