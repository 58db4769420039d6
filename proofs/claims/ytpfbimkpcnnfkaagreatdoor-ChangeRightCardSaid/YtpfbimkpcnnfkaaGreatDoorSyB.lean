/- By Sx: slices.Insert, slices.Replace on a clone; entry.Put, entry.Drop. -/
import Derived.Test.YtpfbimkpcnnfkaaGreatDoorSwS
import Derived.Test.YtpfbimkpcnnfkaaGreatDoorSxTh
import Derived.Test.YtpfbimkpcnnfkaaGreatDoorSxY
/- By Sx: slices.Clone; the entry's lists. -/
set_option maxRecDepth 100000
set_option linter.unusedVariables false
set_option linter.unusedSimpArgs false
namespace Go.Proofs.YtpfbimkpcnnfkaaGreatDoor.Sx
open Go Go.RowKit Go.Proofs.YtpfbimkpcnnfkaaGreatDoor Go.Proofs.YtpfbimkpcnnfkaaGreatDoor.Ext
theorem entC_get (l : List En) (j : Nat) : (entC l)[j]? = (l[j / 2]?).bind fun e => ([.string e.f0, .int .i64 e.f1] : List Value)[j % 2]? := by
 induction l generalizing j with
 | nil => simp [entC]
 | cons e l ih =>
  show ([.string e.f0, .int .i64 e.f1] ++ entC l)[j]? = _
  match j with
  | 0 => rfl
  | 1 => rfl
  | j + 2 =>
   rw [List.getElem?_append_right (by simp only [List.length_cons, List.length_nil]; omega)]
   simp only [List.length_cons, List.length_nil]
   rw [show j + 2 - (0 + 1 + 1) = j by omega, ih j, show (j + 2) / 2 = j / 2 + 1 by omega, show (j + 2) % 2 = j % 2 by omega, List.getElem?_cons_succ]
theorem ent_reads {u : Mem} {A : Option Addr} {l : List En} (h : EntAt u A l) (hn : l ≠ []) : Reads u A 0 (entC l) := by
 obtain ⟨e, he⟩ : ∃ e, l[0]? = some e := ⟨_, List.getElem?_eq_getElem (List.length_pos_iff.2 hn)⟩
 obtain ⟨b, f, rfl, _⟩ := h 0 e he
 refine ⟨b, f, rfl, fun j v hj => ?_⟩
 rw [entC_get] at hj
 obtain ⟨x, hx, hv⟩ := Option.bind_eq_some_iff.1 hj
 obtain ⟨b', f', e1, h1⟩ := h _ x hx
 cases e1
 have := h1 _ v hv
 rwa [show f + j / 2 * 2 + j % 2 = f + 0 + j by omega] at this
theorem entC_one (l : List En) : ∀ y ∈ entC l, y.oneCell' = true := by
 intro y hy
 obtain ⟨e, _, he⟩ := List.mem_flatMap.1 hy
 simp only [List.mem_cons, List.mem_nil_iff, or_false] at he
 rcases he with rfl | rfl <;> rfl
theorem grow_ent {v u : Mem} {s : Option Addr × Nat × Nat} {l : List En} (h : Grow v u s 2 (entC l)) : EntAt u s.1 l := fun i e he => h.reads (k := 0) (by show 0 < 2; decide) (entC_at l i e he)
theorem cloneE.cv (A : Option Addr) (c : Nat) (l : List En) (u : Mem) (hd : EntAt u A l) (hl : l.length ≤ 1000000) :
  CV Tryz.prog 144 [.slice A l.length c] [] u fun v cs u' => cs = [] ∧ ∃ s : Option Addr × Nat × Nat, v = .slice s.1 s.2.1 s.2.2 ∧ s.2.1 = l.length ∧ Grow u u' s 2 (entC l) := by
 refine cv_of names draws (fn := Tryz.f144) (b := bodyOf Tryz.f144) rfl rfl [] (cloneE.args ((A, l.length, c), ())) (cloneE.giv _) (fun _ => 0) (cloneE.run _) (by kernel_rfl) rfl rfl ?_
 unfold cloneE.T
 refine ⟨fun h => ?_, fun h => ?_⟩
 ·have h : A.isNone = true := h
  have hl0 : l = [] := by
   cases l with
   | nil => rfl
   | cons e l => obtain ⟨b, f, e1, _⟩ := hd 0 e rfl; rw [e1] at h; cases h
  subst hl0
  exact ⟨rfl, (none, 0, 0), rfl, rfl, Grow.nil⟩
 refine hold_bi ((bv_emp (P := Tryz.prog) (t := 51) (e := 125) (n := 2) (by kernel_rfl) (by kernel_rfl) 2).mono fun v u1 ⟨s0, hv0, hs0, hg0⟩ => ⟨(s0, ()), hv0, ?_⟩)
 refine hold_bi ((bv_app (P := Tryz.prog) (t := 51) (ty := 51) (e := 125) (z := .agg #[.string ⟨#[]⟩, .int .i64 0]) (size := 2) (bytes := 24) (by kernel_rfl) (by kernel_rfl) rfl (by decide) (u0 := u) (m := l.length) (c := c) (a := A) (ys := entC l) (Mem.le_refl u) hg0 (entC_len l)
  (fun hm => ent_reads (hd.mono hg0.le) (fun e => hm (by rw [e]; rfl))) (entC_one l) (by omega) (by omega)).mono fun v u2 ⟨s, hv, hs, hg⟩ => ⟨(s, ()), hv, ?_⟩)
 exact ⟨rfl, s, rfl, by rw [hs, hs0]; omega, hg⟩
theorem disk_cells {u : Mem} {A : Option Addr} {l : List Nd} (hd : DiskAt u A l) : ∃ es, NsC u l es ∧ (∀ y ∈ es, y.oneCell' = true) ∧ (l ≠ [] → Reads u A 0 es) := by
 rcases Nat.eq_zero_or_pos l.length with h0 | h0
 ·have : l = [] := List.eq_nil_of_length_eq_zero h0
  subst this
  exact ⟨[], ⟨rfl, fun i n hi => by simp at hi⟩, fun y hy => by simp at hy, fun h => absurd rfl h⟩
 obtain ⟨b, f, hA⟩ : ∃ b f, A = some ⟨b, f, none⟩ := by
  obtain ⟨a7, c7, _, ⟨b, f, e, _⟩, _⟩ := hd 0 _ (List.getElem?_eq_getElem h0)
  exact ⟨b, f, e⟩
 subst hA
 have key : ∀ i, i ≤ l.length → ∃ es, NsC u (l.take i) es ∧ (∀ y ∈ es, y.oneCell' = true) ∧ ∀ (j : Nat) v, es[j]? = some v → u b (f + 0 + j) = some v := by
  intro i
  induction i with
  | zero => intro _; exact ⟨[], ⟨by simp, fun i n hi => by simp at hi⟩, fun y hy => by simp at hy, fun j v hj => by simp at hj⟩
  | succ i ih =>
   intro hi
   obtain ⟨es, h1, h2, h3⟩ := ih (by omega)
   obtain ⟨a7, c7, k1, ⟨b', f', e, k2⟩, k3⟩ := hd i l[i] (List.getElem?_eq_getElem (by omega))
   cases e
   refine ⟨es ++ Sx.cv K0 (l[i].row a7 c7), by rw [List.take_succ_eq_append_getElem (by omega)]; exact h1.snoc k1 k3, fun y hy => ?_, fun j v hj => ?_⟩
   ·rcases List.mem_append.1 hy with hy | hy
    ·exact h2 y hy
    ·simp only [Nd.row, Sx.cv, List.mem_cons, List.mem_nil_iff, or_false] at hy
     rcases hy with rfl | rfl | rfl | rfl | rfl | rfl | rfl | rfl <;> rfl
   ·have hl := h1.len
    rw [List.length_take] at hl
    rcases Nat.lt_or_ge j es.length with h4 | h4
    ·rw [List.getElem?_append_left h4] at hj; exact h3 j v hj
    ·rw [List.getElem?_append_right h4] at hj
     have := k2 _ v hj
     rwa [show f + i * 8 + (j - es.length) = f + 0 + j by omega] at this
 obtain ⟨es, h1, h2, h3⟩ := key l.length (Nat.le_refl _)
 rw [List.take_length] at h1
 exact ⟨es, h1, h2, fun _ => ⟨b, f, rfl, h3⟩⟩
theorem grow_disk {v u : Mem} {s : Option Addr × Nat × Nat} {l : List Nd} {es : List Value} (h : Grow v u s 8 es) (hn : NsC v l es) : DiskAt u s.1 l := fun j n hj => by
 obtain ⟨a7, c7, h1, h2, h3⟩ := hn.at_ j n hj
 exact ⟨a7, c7, h1, h.reads (k := 0) (by show 0 < 8; decide) h2, h3.mono h.le⟩
theorem cloneN.cv (A : Option Addr) (c : Nat) (l : List Nd) (u : Mem) (hd : DiskAt u A l) (hl : l.length ≤ 1000000) :
  CV Tryz.prog 122 [.slice A l.length c] [] u fun v cs u' => cs = [] ∧ ∃ (s : Option Addr × Nat × Nat) (es : List Value), v = .slice s.1 s.2.1 s.2.2 ∧ s.2.1 = l.length ∧ Grow u u' s 8 es ∧ NsC u l es := by
 refine cv_of names draws (fn := Tryz.f122) (b := bodyOf Tryz.f122) rfl rfl [] (cloneN.args ((A, l.length, c), ())) (cloneN.giv _) (fun _ => 0) (cloneN.run _) (by kernel_rfl) rfl rfl ?_
 obtain ⟨es, h1, h2, h3⟩ := disk_cells hd
 unfold cloneN.T
 refine ⟨fun h => ?_, fun h => ?_⟩
 ·have h : A.isNone = true := h
  have hl0 : l = [] := by
   cases l with
   | nil => rfl
   | cons e l => obtain ⟨b, f, e1, _⟩ := h3 (by simp); rw [e1] at h; cases h
  subst hl0
  exact ⟨rfl, (none, 0, 0), [], rfl, rfl, Grow.nil, ⟨rfl, fun i n hi => by simp at hi⟩⟩
 refine hold_bi ((bv_emp (P := Tryz.prog) (t := 22) (e := 53) (n := 8) (by kernel_rfl) (by kernel_rfl) 8).mono fun v u1 ⟨s0, hv0, hs0, hg0⟩ => ⟨(s0, ()), hv0, ?_⟩)
 refine hold_bi ((bv_app (P := Tryz.prog) (t := 22) (ty := 22) (e := 53) (z := .agg #[.int .i64 0, .int .i64 0, .int .i64 0, .int .i64 0, .int .i64 0, .int .i64 0, .string ⟨#[]⟩, .slice none 0 0]) (size := 8) (bytes := 88) (by kernel_rfl) (by kernel_rfl) rfl (by decide) (u0 := u) (m := l.length) (c := c) (a := A) (ys := es) (Mem.le_refl u) hg0 h1.len
  (fun hm => by obtain ⟨b, f, e, h4⟩ := h3 (fun e => hm (by rw [e]; rfl)); exact ⟨b, f, e, fun j v hj => hg0.le _ _ _ (h4 j v hj)⟩) h2 (by omega) (by omega)).mono fun v u2 ⟨s, hv, hs, hg⟩ => ⟨(s, ()), hv, ?_⟩)
 exact ⟨rfl, s, es, rfl, by rw [hs, hs0]; omega, hg, h1⟩
end Go.Proofs.YtpfbimkpcnnfkaaGreatDoor.Sx
set_option maxRecDepth 100000
set_option linter.unusedVariables false
set_option linter.unusedSimpArgs false
namespace Go.Proofs.YtpfbimkpcnnfkaaGreatDoor.Sx
open Go Go.RowKit Go.Proofs.YtpfbimkpcnnfkaaGreatDoor Go.Proofs.YtpfbimkpcnnfkaaGreatDoor.Ext
theorem entC_app (l r : List En) : entC (l ++ r) = entC l ++ entC r := List.flatMap_append
theorem entC_take (l : List En) (i : Nat) : (entC l).take (i * 2) = entC (l.take i) := by
 induction l generalizing i with
 | nil => simp [entC]
 | cons e l ih =>
  cases i with
  | zero => simp [entC]
  | succ i =>
   show ([Value.string e.f0, Value.int .i64 e.f1] ++ entC l).take ((i + 1) * 2) = [Value.string e.f0, Value.int .i64 e.f1] ++ entC (l.take i)
   rw [show (i + 1) * 2 = ([Value.string e.f0, Value.int .i64 e.f1] : List Value).length + i * 2 by simp only [List.length_cons, List.length_nil]; omega, List.take_length_add_append, ih]
theorem entC_drop (l : List En) (i : Nat) : (entC l).drop (i * 2) = entC (l.drop i) := by
 have h := List.take_append_drop (i * 2) (entC l)
 rw [entC_take] at h
 have h2 : entC l = entC (l.take i) ++ entC (l.drop i) := by rw [← entC_app, List.take_append_drop]
 exact List.append_cancel_left (h.trans h2)
theorem map_add0 (a : Option Addr) : a.map (fun x => x.add (0 * 2)) = a := by
 cases a with
 | none => rfl
 | some x => simp [Addr.add]
theorem BV.arg {P : Program} {p : Prim} {args args' : List Value} {u0 u : Mem} {R : Value → Mem → Prop} (h : args = args') (hb : BV P p args' u0 u R) : BV P p args u0 u R := h ▸ hb
theorem sl0 {a a' : Option Addr} {n n' c c' : Nat} (h1 : a = a') (h2 : n = n') (h3 : c = c') : (Value.slice a n c) = .slice a' n' c' := by rw [h1, h2, h3]
theorem Reads.left {u : Mem} {a : Option Addr} {o : Nat} {x y : List Value} (h : Reads u a o (x ++ y)) : Reads u a o x := by
 obtain ⟨b, f, e, h⟩ := h
 exact ⟨b, f, e, fun j v hj => h j v (by rw [List.getElem?_append_left (List.getElem?_eq_some_iff.1 hj).1]; exact hj)⟩
theorem ov_call (args : Array Value) (w : World) : (callFunc 155 args).run Tryz.prog w = ((Extern.SlicesOverlaps.overlaps #[51, 51] #[4] args).run Tryz.prog w).andThen fun v w' => .ok (.value v) w' :=
 run_callFunc_extern (fn := Tryz.f155) rfl (by kernel_rfl) (by kernel_rfl) (by kernel_rfl) (by kernel_rfl) args w
theorem sl1 {a a' : Option Addr} {n n' c c' : Nat} {k : IntKind} {x x' : Int} (h1 : a = a') (h2 : n = n') (h3 : c = c') (h4 : x = x') : ([.slice a n c, .int k x] : List Value) = [.slice a' n' c', .int k x'] := by rw [h1, h2, h3, h4]
theorem sl2 {a d b b' : Option Addr} {n n' c c' m m' k k' : Nat} (h1 : a = d) (h2 : n = n') (h3 : c = c') (h4 : b = b') (h5 : m = m') (h6 : k = k') : ([.slice a n c, .slice b m k] : List Value) = [.slice d n' c', .slice b' m' k'] := by rw [h1, h2, h3, h4, h5, h6]
set_option maxHeartbeats 1000000 in
theorem insE.cg {u0 v u : Mem} {s : Option Addr × Nat × Nat} {l es2 : List En} {a : Option Addr} {c2 i : Nat} (hv : u0.le v) (hg : Grow v u s 2 (entC l)) (hs : s.2.1 = l.length) (hr : EntAt v a es2) (hi : i ≤ l.length) (hl : l.length + es2.length ≤ 1000000) :
  CG Tryz.prog 154 [.slice s.1 s.2.1 s.2.2, .int .i64 i, .slice a es2.length c2] [] u0 u fun r cs u' => cs = [] ∧ ∃ s' : Option Addr × Nat × Nat, r = .slice s'.1 s'.2.1 s'.2.2 ∧ s'.2.1 = l.length + es2.length ∧ Grow v u' s' 2 (entC (l.take i ++ es2 ++ l.drop i)) := by
 obtain ⟨sa, n, c⟩ := s
 have hs : n = l.length := hs
 subst hs
 have hcap : l.length ≤ c := hg.cap
 refine cg_of names draws (fn := Tryz.f154) (b := bodyOf Tryz.f154) rfl rfl [] (insE.args ((sa, l.length, c), ()) (i, ()) ((a, es2.length, c2), ())) (insE.giv _ _ _) (fun _ => 0) (insE.run _ _ _) (by kernel_rfl) rfl rfl ?_
 unfold insE.T
 have w1 : IntKind.i64.wrap ((l.length : Int) + (es2.length : Int)) = ((l.length + es2.length : Nat) : Int) := by rw [IntKind.wrap_i64] <;> omega
 have w2 : IntKind.i64.wrap ((i : Int) + (es2.length : Int)) = ((i + es2.length : Nat) : Int) := by rw [IntKind.wrap_i64] <;> omega
 have w3 : IntKind.i64.wrap (((l.length + es2.length : Nat) : Int) - (i : Int)) = ((l.length + es2.length - i : Nat) : Int) := by rw [IntKind.wrap_i64] <;> omega
 refine ⟨fun _ => (⟨by omega, by omega, by omega⟩ : (0 : Int) ≤ (i : Int) ∧ (i : Int) ≤ (l.length : Int) ∧ (l.length : Int) ≤ (c : Int)), fun h => ?_, fun h => ?_⟩
 ·simp only [E.den, cT_eql] at h
  have h : (es2.length : Int) = 0 := h
  have : es2 = [] := List.eq_nil_of_length_eq_zero (by omega)
  subst this
  exact ⟨rfl, (sa, l.length, c), rfl, rfl, by simpa [List.take_append_drop] using hg⟩
 simp only [E.den, cF_eql] at h
 have h : ¬ (es2.length : Int) = 0 := h
 have hm : es2 ≠ [] := fun e => h (by rw [e]; rfl)
 have hm0 : 0 < es2.length := List.length_pos_iff.2 hm
 clear h
 have hrv := ent_reads hr hm
 have hl1 : (entC (l.take i)).length = i * 2 := by rw [entC_len, List.length_take]; congr 1; omega
 have hl2 : (entC es2).length = es2.length * 2 := entC_len es2
 refine ⟨fun h => ?_, fun h => ?_⟩
 ·simp only [E.den, cT_eql] at h
  have h : (i : Int) = (l.length : Int) := h
  obtain rfl : i = l.length := by omega
  refine hold_bi ((bv_app (P := Tryz.prog) (t := 51) (ty := 51) (e := 125) (z := .agg #[.string ⟨#[]⟩, .int .i64 0]) (size := 2) (bytes := 24) (by kernel_rfl) (by kernel_rfl) rfl (by decide) (u0 := u0) (m := es2.length) (c := c2) (a := a) (ys := entC es2) hv hg (entC_len es2)
   (fun _ => ent_reads (hr.mono hg.le) hm) (entC_one es2) (by show l.length + es2.length ≤ _; omega) (by show (l.length + es2.length) * 24 ≤ _; omega)).mono fun r u2 ⟨s', hv', hs', hg'⟩ => ⟨(s', ()), hv', ?_⟩)
  refine ⟨rfl, s', rfl, hs', ?_⟩
  rw [List.take_length, List.drop_length, List.append_nil, entC_app]; exact hg'
 simp only [E.den, cF_eql] at h
 have h : ¬ (i : Int) = (l.length : Int) := h
 have hil : i < l.length := by omega
 have hc0 : ¬ c = 0 := by omega
 have hci : ¬ c = i := by omega
 clear h
 have hsz : sizeB Tryz.prog 125 = some 2 := by kernel_rfl
 refine ⟨fun h => ?_, fun h => ?_⟩
 ·simp only [E.den, cT_gtr, binI] at h
  have h : (c : Int) < IntKind.i64.wrap ((l.length : Int) + (es2.length : Int)) := h
  rw [w1] at h
  refine ⟨fun _ => (⟨by omega, by omega, by omega⟩ : (0 : Int) ≤ 0 ∧ (0 : Int) ≤ (i : Int) ∧ (i : Int) ≤ (c : Int)), ?_⟩
  have hgi := hg.short (n := i) (Nat.le_of_lt hil)
  rw [entC_take] at hgi
  refine hold_bi ((BV.arg (sl1 (a' := sa) (n' := i) (c' := c) (x' := ((l.length + es2.length - i : Nat) : Int)) ((if_neg hc0).trans (map_add0 sa)) rfl rfl (by show IntKind.i64.wrap (IntKind.i64.wrap ((l.length : Int) + (es2.length : Int)) - (i : Int)) = _; rw [w1, w3]))
   (bv_zeros (P := Tryz.prog) (t := 51) (ti := 3) (ty := 51) (e := 125) (z := .agg #[.string ⟨#[]⟩, .int .i64 0]) (ki := .i64) (size := 2) (bytes := 24) (by kernel_rfl) (by kernel_rfl) (by kernel_rfl) rfl (by decide) (by decide) (m := l.length + es2.length - i) hv hgi (by show c < i + _; omega) (by omega) (by show (i + _) * 24 ≤ _; omega))).mono fun r u2 ⟨s2, hv2, hs2, hg2⟩ => ⟨(s2, ()), hv2, ?_⟩)
  obtain ⟨p2, n2, k2⟩ := s2
  have hs2 : n2 = i + (l.length + es2.length - i) := hs2
  obtain rfl : n2 = l.length + es2.length := by omega
  have hk2 : l.length + es2.length ≤ k2 := hg2.cap
  have hu : u0.le u := Mem.le_trans hv hg.le
  obtain ⟨zs, hzs⟩ : ∃ zs, zs = (Builtin.zeroCells (Value.agg #[Value.string ⟨#[]⟩, Value.int IntKind.i64 0]).cells (l.length + es2.length - i)).toList := ⟨_, rfl⟩
  rw [← hzs] at hg2
  have hzl : zs.length = (l.length + es2.length - i) * 2 := by rw [hzs, Array.length_toList, size_zeroCells]; rfl
  refine ⟨fun _ => (⟨by omega, by omega, by omega⟩ : (0 : Int) ≤ (i : Int) ∧ (i : Int) ≤ ((l.length + es2.length : Nat) : Int) ∧ ((l.length + es2.length : Nat) : Int) ≤ (k2 : Int)), ?_⟩
  refine hold_bi ((BV.arg (sl2 (if_neg (show ¬ k2 = i by omega)) rfl rfl rfl rfl rfl)
   (bv_copy (P := Tryz.prog) (t := 51) (ty := 3) (e := 125) (size := 2) (by kernel_rfl) hsz (by decide) (i := i) (L := l.length + es2.length - i) (m := es2.length) (a := a) (ys := entC es2) hu hg2 (fun _ => rfl) (by show i + (l.length + es2.length - i) ≤ l.length + es2.length; omega) (by rw [hl2]; congr 1; omega)
    (fun _ => (hrv.mono hg.le).mono hg2.le) (entC_one es2))).mono fun r3 u3 ⟨hv3, hg3⟩ => ⟨(((min es2.length (l.length + es2.length - i) : Nat) : Int), ()), hv3, ?_⟩)
  refine ⟨fun _ => (⟨by show (0 : Int) ≤ IntKind.i64.wrap ((i : Int) + (es2.length : Int)); rw [w2]; omega, by show IntKind.i64.wrap ((i : Int) + (es2.length : Int)) ≤ ((l.length + es2.length : Nat) : Int); rw [w2]; omega, by show ((l.length + es2.length : Nat) : Int) ≤ (k2 : Int); omega⟩ : _ ∧ _ ∧ _), fun _ => (⟨by omega, by omega, by omega⟩ : (0 : Int) ≤ (i : Int) ∧ (i : Int) ≤ (l.length : Int) ∧ (l.length : Int) ≤ (c : Int)), ?_⟩
  have hw2 : (IntKind.i64.wrap ((i : Int) + (es2.length : Int))).toNat = i + es2.length := by rw [w2]; rfl
  have ht := hg.tail (j := i) hil (by decide)
  rw [List.take_left' hl1, hl2, show i * 2 + es2.length * 2 = (entC (l.take i)).length + es2.length * 2 by rw [hl1], List.drop_length_add_append] at hg3
  have hdl : (entC (l.drop i)).length = (l.length - i) * 2 := by rw [entC_len, List.length_drop]
  have hzd : (zs.drop (es2.length * 2)).length = (l.length - i) * 2 := by rw [List.length_drop, hzl]; omega
  rw [entC_drop] at ht
  refine hold_bi ((BV.arg (sl2 (d := p2.map fun x => x.add ((i + es2.length) * 2)) (n' := l.length - i) ?_ ?_ rfl (if_neg hci) rfl rfl)
   (bv_copy (P := Tryz.prog) (t := 51) (ty := 3) (e := 125) (size := 2) (by kernel_rfl) hsz (by decide) (i := i + es2.length) (L := l.length - i) (m := l.length - i) (ys := entC (l.drop i)) hu hg3 (fun _ => rfl) (by show i + es2.length + (l.length - i) ≤ l.length + es2.length; omega) (by rw [hdl, Nat.min_self])
    (fun _ => ht.mono hg3.le) (entC_one _))).mono fun r4 u4 ⟨hv4, hg4⟩ => ⟨(((min (l.length - i) (l.length - i) : Nat) : Int), ()), hv4, ?_⟩)
  ·show (if k2 = (IntKind.i64.wrap ((i : Int) + (es2.length : Int))).toNat then p2 else p2.map fun x => x.add ((IntKind.i64.wrap ((i : Int) + (es2.length : Int))).toNat * 2)) = _
   rw [hw2, if_neg (by omega)]
  ·show l.length + es2.length - (IntKind.i64.wrap ((i : Int) + (es2.length : Int))).toNat = _
   rw [hw2]; omega
  refine ⟨rfl, (p2, l.length + es2.length, k2), rfl, rfl, ?_⟩
  rw [List.take_left' (by rw [List.length_append, hl1, hl2]; omega), List.drop_of_length_le (l := entC (l.take i) ++ entC es2 ++ zs.drop (es2.length * 2)) (by rw [List.length_append, List.length_append, hl1, hl2, hzd, hdl]; omega), List.append_nil] at hg4
  rw [entC_app, entC_app]
  exact hg4.down hg.le
 ·simp only [E.den, cF_gtr, binI] at h
  have h : IntKind.i64.wrap ((l.length : Int) + (es2.length : Int)) ≤ (c : Int) := h
  rw [w1] at h
  have hw1 : (IntKind.i64.wrap ((l.length : Int) + (es2.length : Int))).toNat = l.length + es2.length := by rw [w1]; rfl
  have hw2 : (IntKind.i64.wrap ((i : Int) + (es2.length : Int))).toNat = i + es2.length := by rw [w2]; rfl
  obtain ⟨sp, hgr, hspl⟩ := hg.resize (n := l.length + es2.length) (by show _ ≤ c; omega)
  have hspl : (entC l ++ sp).length = c * 2 := hspl
  have hll := entC_len l
  have hdl : (entC (l.drop i)).length = (l.length - i) * 2 := by rw [entC_len, List.length_drop]
  have hsl : sp.length = c * 2 - l.length * 2 := by rw [List.length_append, hll] at hspl; omega
  have hE0 : (entC l ++ sp).take ((l.length + es2.length) * 2) = entC l ++ sp.take (es2.length * 2) := by
   rw [show (l.length + es2.length) * 2 = (entC l).length + es2.length * 2 by rw [hll]; omega, List.take_length_add_append]
  rw [hE0] at hgr
  have hspt : (sp.take (es2.length * 2)).length = es2.length * 2 := by rw [List.length_take, hsl]; omega
  have hgr : Grow v u (sa, l.length + es2.length, c) 2 (entC l ++ sp.take (es2.length * 2)) := hgr
  have hA : ∀ k : Nat, ¬ c = k → (if c - 0 = k then (if c = 0 then sa else sa.map fun x => x.add (0 * 2)) else (if c = 0 then sa else sa.map fun x => x.add (0 * 2)).map fun x => x.add (k * 2)) = sa.map fun x => x.add (k * 2) := fun k hk => by
   rw [if_neg (by omega), if_neg hc0, map_add0]
  have ob1 : (0 : Int) ≤ IntKind.i64.wrap ((i : Int) + (es2.length : Int)) ∧ IntKind.i64.wrap ((i : Int) + (es2.length : Int)) ≤ (((IntKind.i64.wrap ((l.length : Int) + (es2.length : Int))).toNat - 0 : Nat) : Int) ∧ (((IntKind.i64.wrap ((l.length : Int) + (es2.length : Int))).toNat - 0 : Nat) : Int) ≤ ((c - 0 : Nat) : Int) := by
   rw [hw1, w2]; exact ⟨by omega, by omega, by omega⟩
  have ob2 : (0 : Int) ≤ (i : Int) ∧ (i : Int) ≤ (((IntKind.i64.wrap ((l.length : Int) + (es2.length : Int))).toNat - 0 : Nat) : Int) ∧ (((IntKind.i64.wrap ((l.length : Int) + (es2.length : Int))).toNat - 0 : Nat) : Int) ≤ ((c - 0 : Nat) : Int) := by
   rw [hw1]; exact ⟨by omega, by omega, by omega⟩
  refine ⟨fun _ => (⟨by omega, by show (0 : Int) ≤ IntKind.i64.wrap ((l.length : Int) + (es2.length : Int)); rw [w1]; omega, by show IntKind.i64.wrap ((l.length : Int) + (es2.length : Int)) ≤ (c : Int); rw [w1]; omega⟩ : (0 : Int) ≤ 0 ∧ _ ∧ _), fun _ => ob1, ?_⟩
  have e1 : (if c - 0 = (IntKind.i64.wrap ((i : Int) + (es2.length : Int))).toNat then (if c = 0 then sa else sa.map fun x => x.add (0 * 2)) else (if c = 0 then sa else sa.map fun x => x.add (0 * 2)).map fun x => x.add ((IntKind.i64.wrap ((i : Int) + (es2.length : Int))).toNat * 2)) = sa.map fun x => x.add ((i + es2.length) * 2) := by
   rw [hw2]; exact hA _ (by omega)
  have e2 : (IntKind.i64.wrap ((l.length : Int) + (es2.length : Int))).toNat - 0 - (IntKind.i64.wrap ((i : Int) + (es2.length : Int))).toNat = l.length - i := by rw [hw1, hw2]; omega
  have e3 : (IntKind.i64.wrap ((l.length : Int) + (es2.length : Int))).toNat - 0 - i = l.length + es2.length - i := by rw [hw1]; omega
  refine hold_bi ((BV.arg (sl2 rfl rfl rfl e1 e2 rfl) (bv_ov (P := Tryz.prog) (f := 155) (t := 51) (tb := 4) (e := 125) (size := 2) ov_call (by kernel_rfl) hsz (by decide) (m := es2.length) (i := i + es2.length) (L := l.length - i) (ys := entC es2) hv hgr hrv (by rw [hl2]; omega) (fun _ => rfl) (by show i + es2.length + (l.length - i) ≤ l.length + es2.length; omega))).mono fun r u1 ⟨hv1, hu1⟩ => ⟨(false, ()), hv1, ?_⟩)
  subst hu1
  refine ⟨fun _ => ?_, fun h => by cases h⟩
  refine ⟨fun _ => ob1, fun _ => ob2, ?_⟩
  have ht := hgr.tail (j := i) (by show i < l.length + es2.length; omega) (by decide)
  rw [List.drop_append_of_le_length (by rw [hll]; omega), entC_drop] at ht
  refine hold_bi ((BV.arg (sl2 e1 e2 rfl (hA i hci) e3 rfl) (bv_copy (P := Tryz.prog) (t := 51) (ty := 3) (e := 125) (size := 2) (by kernel_rfl) hsz (by decide) (i := i + es2.length) (L := l.length - i) (m := l.length + es2.length - i) (ys := entC (l.drop i)) hv hgr (fun _ => rfl) (by show i + es2.length + (l.length - i) ≤ l.length + es2.length; omega) (by rw [hdl]; congr 1; omega)
    (fun _ => ht.left) (entC_one _))).mono fun r3 u3 ⟨hv3, hg3⟩ => ⟨(((min (l.length + es2.length - i) (l.length - i) : Nat) : Int), ()), hv3, fun _ => ob2, ?_⟩)
  rw [List.drop_of_length_le (l := entC l ++ sp.take (es2.length * 2)) (by rw [List.length_append, hll, hspt, hdl]; omega), List.append_nil] at hg3
  refine hold_bi ((BV.arg (sl2 (hA i hci) e3 rfl rfl rfl rfl) (bv_copy (P := Tryz.prog) (t := 51) (ty := 3) (e := 125) (size := 2) (by kernel_rfl) hsz (by decide) (i := i) (L := l.length + es2.length - i) (m := es2.length) (ys := entC es2) hv hg3 (fun _ => rfl) (by show i + (l.length + es2.length - i) ≤ l.length + es2.length; omega) (by rw [hl2]; congr 1; omega)
    (fun _ => hrv.mono hg3.le) (entC_one _))).mono fun r4 u4 ⟨hv4, hg4⟩ => ⟨(((min es2.length (l.length + es2.length - i) : Nat) : Int), ()), hv4, ?_⟩)
  refine ⟨rfl, (sa, l.length + es2.length, c), sl0 ((if_neg hc0).trans (map_add0 sa)) hw1 rfl, rfl, ?_⟩
  have q1 : ((entC l ++ sp.take (es2.length * 2)).take ((i + es2.length) * 2)).length = (i + es2.length) * 2 := by rw [List.length_take, List.length_append, hll, hspt]; omega
  have q2 : ((entC l ++ sp.take (es2.length * 2)).take ((i + es2.length) * 2) ++ entC (l.drop i)).take (i * 2) = entC (l.take i) := by
   rw [List.take_append_of_le_length (by rw [q1]; omega), List.take_take, Nat.min_eq_left (by omega), List.take_append_of_le_length (by rw [hll]; omega), entC_take]
  have q3 : ((entC l ++ sp.take (es2.length * 2)).take ((i + es2.length) * 2) ++ entC (l.drop i)).drop (i * 2 + (entC es2).length) = entC (l.drop i) := by
   rw [hl2]; exact List.drop_left' (by rw [q1]; omega)
  rw [q2, q3] at hg4
  rw [entC_app, entC_app]
  exact hg4
set_option maxHeartbeats 1000000 in
theorem repE.cg {u0 v u : Mem} {s : Option Addr × Nat × Nat} {l es2 : List En} {a : Option Addr} {c2 i j : Nat} (hv : u0.le v) (hg : Grow v u s 2 (entC l)) (hs : s.2.1 = l.length) (hr : EntAt v a es2) (hij : i ≤ j) (hj : j ≤ l.length) (hm : i = j ∨ es2.length ≤ j - i) (hl : l.length + es2.length ≤ 1000000) :
  CG Tryz.prog 143 [.slice s.1 s.2.1 s.2.2, .int .i64 i, .int .i64 j, .slice a es2.length c2] [] u0 u fun r cs u' => cs = [] ∧ ∃ s' : Option Addr × Nat × Nat, r = .slice s'.1 s'.2.1 s'.2.2 ∧ s'.2.1 = (l.take i ++ es2 ++ l.drop j).length ∧ Grow v u' s' 2 (entC (l.take i ++ es2 ++ l.drop j)) := by
 obtain ⟨sa, n, c⟩ := s
 have hs : n = l.length := hs
 subst hs
 have hcap : l.length ≤ c := hg.cap
 have hsz : sizeB Tryz.prog 125 = some 2 := by kernel_rfl
 refine cg_of names draws (fn := Tryz.f143) (b := bodyOf Tryz.f143) rfl rfl [] (repE.args ((sa, l.length, c), ()) (i, ()) (j, ()) ((a, es2.length, c2), ())) (repE.giv _ _ _ _) (fun _ => 0) (repE.run _ _ _ _) (by kernel_rfl) rfl rfl ?_
 unfold repE.T
 refine ⟨fun _ => (⟨by omega, by omega, by omega⟩ : (0 : Int) ≤ (i : Int) ∧ (i : Int) ≤ (j : Int) ∧ (j : Int) ≤ (c : Int)), fun h => ?_, fun h => ?_⟩
 ·simp only [E.den, cT_eql] at h
  have h : (i : Int) = (j : Int) := h
  obtain rfl : i = j := by omega
  exact hold_call ((insE.cg hv hg rfl hr hj hl).mono fun r cs u2 _ ⟨hc, s', h1, h2, h3⟩ => ⟨(s', ()), (), h1, hc, rfl, s', rfl, by rw [h2]; simp only [List.length_append, List.length_take, List.length_drop]; omega, h3⟩)
 simp only [E.den, cF_eql] at h
 have h : ¬ (i : Int) = (j : Int) := h
 have hm : es2.length ≤ j - i := hm.resolve_left (by omega)
 have hij : i < j := by omega
 have hc0 : ¬ c = 0 := by omega
 have hll := entC_len l
 have hl1 : (entC (l.take i)).length = i * 2 := by rw [entC_len, List.length_take]; congr 1; omega
 have hl2 : (entC es2).length = es2.length * 2 := entC_len es2
 have hob0 : (0 : Int) ≤ 0 ∧ (0 : Int) ≤ (i : Int) ∧ (i : Int) ≤ (c : Int) := ⟨by omega, by omega, by omega⟩
 have hrd : ∀ {u' : Mem}, v.le u' → es2.length ≠ 0 → Reads u' a 0 (entC es2) := fun hu hn => ent_reads (hr.mono hu) fun e => hn (by rw [e]; rfl)
 clear h
 refine ⟨fun h => ?_, fun h => ?_⟩
 ·simp only [E.den, cT_eql] at h
  have h : (j : Int) = (l.length : Int) := h
  obtain rfl : j = l.length := by omega
  refine ⟨fun _ => hob0, ?_⟩
  refine hold_bi ((BV.arg (sl2 ((if_neg hc0).trans (map_add0 sa)) rfl rfl rfl rfl rfl) (bv_room (P := Tryz.prog) (t := 51) (ty := 51) (e := 125) (z := .agg #[.string ⟨#[]⟩, .int .i64 0]) (size := 2) (bytes := 24) (by kernel_rfl) (by kernel_rfl) (by decide) (a := a) (i := i) (m := es2.length) (ys := entC es2) hv hg hl2
   (fun hn => hrd hg.le hn) (entC_one es2) (by show i + es2.length ≤ l.length; omega))).mono fun r u1 ⟨hv1, hg1⟩ => ⟨((sa, i + es2.length, c), ()), hv1, ?_⟩)
  rw [entC_take, hl2, ← Nat.add_mul, entC_drop] at hg1
  have hrl : (l.take i ++ es2 ++ l.drop l.length).length = i + es2.length := by simp only [List.length_append, List.length_take, List.length_drop]; omega
  refine ⟨fun h => ?_, fun h => ?_⟩
  ·simp only [E.den, cT_lss] at h
   have h : ((i + es2.length : Nat) : Int) < (l.length : Int) := h
   refine ⟨fun _ => (⟨by omega, by omega, by omega⟩ : (0 : Int) ≤ ((i + es2.length : Nat) : Int) ∧ ((i + es2.length : Nat) : Int) ≤ (l.length : Int) ∧ (l.length : Int) ≤ (c : Int)), ?_⟩
   refine hold_bi ((BV.arg (congrArg (fun x => [x]) (sl0 (if_neg (show ¬ c = i + es2.length by omega)) rfl rfl)) (bv_clear (P := Tryz.prog) (t := 51) (ty := 0) (e := 125) (z := .agg #[.string ⟨#[]⟩, .int .i64 0]) (size := 2) (by kernel_rfl) (by kernel_rfl) rfl (by decide) (by decide) (i := i + es2.length) (L := l.length - (i + es2.length)) hv hg1 (fun _ => rfl) (by show i + es2.length + (l.length - (i + es2.length)) ≤ l.length; omega))).mono fun r u2 ⟨hv2, hg2⟩ => ⟨(), hv2, ?_⟩)
   have h3 := hg2.short (n := i + es2.length) (by show i + es2.length ≤ l.length; omega)
   rw [List.append_assoc, List.take_append_of_le_length (by simp only [List.length_take, List.length_append, hl1, hl2, entC_len, List.length_drop]; omega), List.take_take, Nat.min_self, List.take_append_of_le_length (by rw [List.length_append, hl1, hl2]; omega), List.take_of_length_le (by rw [List.length_append, hl1, hl2]; omega)] at h3
   refine ⟨rfl, (sa, i + es2.length, c), rfl, hrl.symm, ?_⟩
   rw [List.drop_length, List.append_nil, entC_app]; exact h3
  ·simp only [E.den, cF_lss] at h
   have h : (l.length : Int) ≤ ((i + es2.length : Nat) : Int) := h
   have he : i + es2.length = l.length := by omega
   refine ⟨rfl, (sa, i + es2.length, c), rfl, hrl.symm, ?_⟩
   rw [he, ← entC_app, ← entC_app] at hg1
   rw [he]; exact hg1
 simp only [E.den, cF_eql] at h
 have h : ¬ (j : Int) = (l.length : Int) := h
 have hjl : j < l.length := by omega
 clear h
 have hW : IntKind.i64.wrap (IntKind.i64.wrap (((i - 0 : Nat) : Int) + (es2.length : Int)) + ((l.length - j : Nat) : Int)) = ((i + es2.length + (l.length - j) : Nat) : Int) := by
  rw [show IntKind.i64.wrap (((i - 0 : Nat) : Int) + (es2.length : Int)) = ((i + es2.length : Nat) : Int) by rw [IntKind.wrap_i64] <;> omega]
  rw [IntKind.wrap_i64] <;> omega
 have w2 : IntKind.i64.wrap ((i : Int) + (es2.length : Int)) = ((i + es2.length : Nat) : Int) := by rw [IntKind.wrap_i64] <;> omega
 refine ⟨fun _ => hob0, fun _ => (⟨by omega, by omega, by omega⟩ : (0 : Int) ≤ (j : Int) ∧ (j : Int) ≤ (l.length : Int) ∧ (l.length : Int) ≤ (c : Int)), fun h => ?_, fun h => ?_⟩
 ·simp only [E.den, cT_gtr, binI] at h
  have h : (c : Int) < IntKind.i64.wrap (IntKind.i64.wrap (((i - 0 : Nat) : Int) + (es2.length : Int)) + ((l.length - j : Nat) : Int)) := h
  rw [hW] at h; omega
 clear h
 have hWn : (IntKind.i64.wrap (IntKind.i64.wrap (((i - 0 : Nat) : Int) + (es2.length : Int)) + ((l.length - j : Nat) : Int))).toNat = i + es2.length + (l.length - j) := by rw [hW]; rfl
 have hw2 : (IntKind.i64.wrap ((i : Int) + (es2.length : Int))).toNat = i + es2.length := by rw [w2]; rfl
 refine ⟨fun _ => (⟨by omega, by show (0 : Int) ≤ IntKind.i64.wrap (IntKind.i64.wrap (((i - 0 : Nat) : Int) + (es2.length : Int)) + ((l.length - j : Nat) : Int)); rw [hW]; omega, by show IntKind.i64.wrap (IntKind.i64.wrap (((i - 0 : Nat) : Int) + (es2.length : Int)) + ((l.length - j : Nat) : Int)) ≤ (c : Int); rw [hW]; omega⟩ : (0 : Int) ≤ 0 ∧ _ ∧ _), fun _ => ?_, fun h => ?_⟩
 ·have hA : ∀ k : Nat, ¬ c = k → (if c - 0 = k then (if c = 0 then sa else sa.map fun x => x.add (0 * 2)) else (if c = 0 then sa else sa.map fun x => x.add (0 * 2)).map fun x => x.add (k * 2)) = sa.map fun x => x.add (k * 2) := fun k hk => by
   rw [if_neg (by omega), if_neg hc0, map_add0]
  obtain ⟨T, hT⟩ : ∃ T, T = i + es2.length + (l.length - j) := ⟨_, rfl⟩
  rw [← hT] at hW hWn
  have ob1 : (0 : Int) ≤ (i : Int) ∧ (i : Int) ≤ (((IntKind.i64.wrap (IntKind.i64.wrap (((i - 0 : Nat) : Int) + (es2.length : Int)) + ((l.length - j : Nat) : Int))).toNat - 0 : Nat) : Int) ∧ (((IntKind.i64.wrap (IntKind.i64.wrap (((i - 0 : Nat) : Int) + (es2.length : Int)) + ((l.length - j : Nat) : Int))).toNat - 0 : Nat) : Int) ≤ ((c - 0 : Nat) : Int) := by
   rw [hWn]; exact ⟨by omega, by omega, by omega⟩
  have ob2 : (0 : Int) ≤ IntKind.i64.wrap ((i : Int) + (es2.length : Int)) ∧ IntKind.i64.wrap ((i : Int) + (es2.length : Int)) ≤ (((IntKind.i64.wrap (IntKind.i64.wrap (((i - 0 : Nat) : Int) + (es2.length : Int)) + ((l.length - j : Nat) : Int))).toNat - 0 : Nat) : Int) ∧ (((IntKind.i64.wrap (IntKind.i64.wrap (((i - 0 : Nat) : Int) + (es2.length : Int)) + ((l.length - j : Nat) : Int))).toNat - 0 : Nat) : Int) ≤ ((c - 0 : Nat) : Int) := by
   rw [hWn, w2]; exact ⟨by omega, by omega, by omega⟩
  have ob3 : (0 : Int) ≤ IntKind.i64.wrap (IntKind.i64.wrap (((i - 0 : Nat) : Int) + (es2.length : Int)) + ((l.length - j : Nat) : Int)) ∧ IntKind.i64.wrap (IntKind.i64.wrap (((i - 0 : Nat) : Int) + (es2.length : Int)) + ((l.length - j : Nat) : Int)) ≤ (l.length : Int) ∧ (l.length : Int) ≤ (c : Int) := by
   rw [hW]; exact ⟨by omega, by omega, by omega⟩
  have e1 : (if c - 0 = (IntKind.i64.wrap ((i : Int) + (es2.length : Int))).toNat then (if c = 0 then sa else sa.map fun x => x.add (0 * 2)) else (if c = 0 then sa else sa.map fun x => x.add (0 * 2)).map fun x => x.add ((IntKind.i64.wrap ((i : Int) + (es2.length : Int))).toNat * 2)) = sa.map fun x => x.add ((i + es2.length) * 2) := by
   rw [hw2]; exact hA _ (by omega)
  have e2 : (IntKind.i64.wrap (IntKind.i64.wrap (((i - 0 : Nat) : Int) + (es2.length : Int)) + ((l.length - j : Nat) : Int))).toNat - 0 - (IntKind.i64.wrap ((i : Int) + (es2.length : Int))).toNat = l.length - j := by rw [hWn, hw2]; omega
  have e3 : (IntKind.i64.wrap (IntKind.i64.wrap (((i - 0 : Nat) : Int) + (es2.length : Int)) + ((l.length - j : Nat) : Int))).toNat - 0 - i = T - i := by rw [hWn]; omega
  have e4 : l.length - (IntKind.i64.wrap (IntKind.i64.wrap (((i - 0 : Nat) : Int) + (es2.length : Int)) + ((l.length - j : Nat) : Int))).toNat = l.length - T := by rw [hWn]
  have hdj : (entC (l.drop j)).length = (l.length - j) * 2 := by rw [entC_len, List.length_drop]
  refine ⟨fun _ => ob1, ?_⟩
  refine hold_bi ((BV.arg (sl2 (hA i (by omega)) e3 rfl rfl rfl rfl) (bv_copy (P := Tryz.prog) (t := 51) (ty := 3) (e := 125) (size := 2) (by kernel_rfl) hsz (by decide) (i := i) (L := T - i) (m := es2.length) (ys := entC es2) hv hg (fun _ => rfl) (by show i + (T - i) ≤ l.length; omega) (by rw [hl2]; congr 1; omega)
    (fun _ => hrd hg.le (by omega)) (entC_one es2))).mono fun r1 u1 ⟨hv1, hg1⟩ => ⟨(((min es2.length (T - i) : Nat) : Int), ()), hv1, fun _ => ob2, fun _ => (⟨by omega, by omega, by omega⟩ : (0 : Int) ≤ (j : Int) ∧ (j : Int) ≤ (l.length : Int) ∧ (l.length : Int) ≤ (c : Int)), ?_⟩)
  rw [entC_take, hl2, ← Nat.add_mul, entC_drop, ← entC_app, ← entC_app] at hg1
  have ht := hg1.tail (j := j) hjl (by decide)
  have hE1 : (l.take i ++ es2 ++ l.drop (i + es2.length)).drop j = l.drop j := by
   rw [List.drop_append, List.drop_of_length_le (by rw [List.length_append, List.length_take]; omega), List.nil_append, List.drop_drop]
   congr 1; rw [List.length_append, List.length_take]; omega
  rw [entC_drop, hE1] at ht
  refine hold_bi ((BV.arg (sl2 e1 e2 rfl (if_neg (show ¬ c = j by omega)) rfl rfl) (bv_copy (P := Tryz.prog) (t := 51) (ty := 3) (e := 125) (size := 2) (by kernel_rfl) hsz (by decide) (i := i + es2.length) (L := l.length - j) (m := l.length - j) (ys := entC (l.drop j)) hv hg1 (fun _ => rfl) (by show i + es2.length + (l.length - j) ≤ l.length; omega) (by rw [hdj, Nat.min_self])
    (fun _ => ht) (entC_one _))).mono fun r2 u2 ⟨hv2, hg2⟩ => ⟨(((min (l.length - j) (l.length - j) : Nat) : Int), ()), hv2, fun _ => ob3, ?_⟩)
  rw [hdj, ← Nat.add_mul, ← hT, entC_take, entC_drop, ← entC_app, ← entC_app] at hg2
  have hE2 : (l.take i ++ es2 ++ l.drop (i + es2.length)).take (i + es2.length) = l.take i ++ es2 := List.take_left' (by rw [List.length_append, List.length_take]; omega)
  rw [hE2] at hg2
  refine hold_bi ((BV.arg (congrArg (fun x => [x]) (sl0 (a' := if c = T then sa else sa.map fun x => x.add (T * 2)) (n' := l.length - T) ?_ e4 rfl)) (bv_clear (P := Tryz.prog) (t := 51) (ty := 0) (e := 125) (z := .agg #[.string ⟨#[]⟩, .int .i64 0]) (size := 2) (by kernel_rfl) (by kernel_rfl) rfl (by decide) (by decide) (i := T) (L := l.length - T) hv hg2 (fun hL => if_neg (by omega)) (by show T + (l.length - T) ≤ l.length; omega))).mono fun r u3 ⟨hv3, hg3⟩ => ⟨(), hv3, ?_⟩)
  ·show (if c = (IntKind.i64.wrap (IntKind.i64.wrap (((i - 0 : Nat) : Int) + (es2.length : Int)) + ((l.length - j : Nat) : Int))).toNat then sa else sa.map fun x => x.add ((IntKind.i64.wrap (IntKind.i64.wrap (((i - 0 : Nat) : Int) + (es2.length : Int)) + ((l.length - j : Nat) : Int))).toNat * 2)) = _
   rw [hWn]
  ·have h3 := hg3.short (n := T) (by show T ≤ l.length; omega)
   have hrl : (l.take i ++ es2 ++ l.drop j).length = T := by simp only [List.length_append, List.length_take, List.length_drop]; omega
   have hE3 : (l.take i ++ es2 ++ l.drop j ++ (l.take i ++ es2 ++ l.drop (i + es2.length)).drop T).take T = l.take i ++ es2 ++ l.drop j := List.take_left' hrl
   rw [entC_take, hE3, List.append_assoc, List.take_left' (by rw [entC_len, hrl])] at h3
   exact ⟨rfl, (sa, T, c), sl0 ((if_neg hc0).trans (map_add0 sa)) hWn rfl, hrl.symm, h3⟩
 ·simp only [E.den, cF_leq, binI] at h
  have h : (j : Int) < IntKind.i64.wrap ((i : Int) + (es2.length : Int)) := h
  rw [w2] at h; omega
end Go.Proofs.YtpfbimkpcnnfkaaGreatDoor.Sx
