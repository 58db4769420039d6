/- route.Split, Ups, Check: what they answer. -/
import Derived.Test.YtpfbimkpcnnfkaaGreatDoorExtPt
import Derived.Test.YtpfbimkpcnnfkaaGreatDoorRound
import Derived.Test.YtpfbimkpcnnfkaaGreatDoorExtA
import Derived.Maps.AppendAt
import Derived.Laws.ResultCell
import Derived.StillTailTactics
import Derived.OwnWalkIn
import Derived.Test.YtpfbimkpcnnfkaaGreatDoorWd
namespace Go.Proofs.YtpfbimkpcnnfkaaGreatDoor.Ext
open Go Go.RowKit Go.Proofs.YtpfbimkpcnnfkaaGreatDoor.Iter Go.Proofs.YtpfbimkpcnnfkaaGreatDoorW.PrintWords
set_option linter.unusedVariables false
set_option linter.unusedSimpArgs false
attribute [local go_sem] Oper.semAt_some
theorem wpListIn_append_at {F : Fence} {n : Nat} {P : Program} (w : World) {ops : Array Oper} {rest : List Oper} {o : Oper} {a : Act} {Q : Exit → Act → World → Prop}
  (hg : o.guard = none) (s x : Operand) (t : TypeId) (hop : o.op = Op.call { callee := Callee.builtin Builtin.append, args := #[s, x], argTypes := #[t, t] })
  (base : Nat) (e : TypeId) (i : TypeInfo) (z : Value) (size bytes : Nat) (h1 : P.underlying t = some (.slice e)) (h2 : P.info? e = some i) (h3 : i.zero = some z) (h4 : i.size = size) (h5 : i.bytes = bytes) (h6 : z.cells.size = size) (h7 : 0 < size)
  (v : Value) (k : Nat) (xs : List Value) (hs : a.eval s = v) (hown : w.ownsRow base e size v k xs) (ad : Addr) (m c : Nat) (news : List Value) (hx : a.eval x = .slice (some ad) m c) (hn : news.length = m * size)
  (hc : ∀ j u, news[j]? = some u → w.cell? (ad.add j) = some u) (h1c : ∀ u ∈ news, u.oneCell' = true) (b1 : k + m ≤ maxLen) (b2 : (k + m) * bytes ≤ 140737488355328) (b3 : base ≤ w.heap.size)
  (hK : ∀ v' w', w'.ownsRow base e size v' (k + m) (xs ++ news) → w.grownBy w' v.ownBlock → (v'.ownBlock = v.ownBlock ∨ v'.ownBlock = some w.heap.size) → wpListIn F n P ops Q rest (a.put o.dst v') w') :
  wpListIn F n P ops Q (o :: rest) a w := by
 refine wpListIn_plain hg fun K hK' => ?_
 obtain ⟨v', w', hrun, r1, r2, _, r3⟩ := run_append_own_at (P := P) w base t o.type e i z size bytes h1 h2 h3 h4 h5 h6 h7 v k xs hown ad m c news hn hc h1c b1 b2 b3
 unfold Oper.wpIn
 refine ⟨?_, ?_⟩
 ·simp [Oper.about, hop, resolve, Target.leads, Sem.run_pure]
 ·rw [Oper.semAt_plain F _ _ (by rw [hop]; intro c hc'; cases hc')]
  simp [execOp, hop, resolve, invoke, builtin, hs, hx, hrun, Result.andThen]
  exact hK' _ _ (hK v' w' r1 r2 r3)
def strs (l : List (Nat × ByteArray)) : List Value := l.map fun x => .string x.2
theorem strs_len (l : List (Nat × ByteArray)) : (strs l).length = l.length := List.length_map _
theorem strs_snoc (l : List (Nat × ByteArray)) (x : Nat × ByteArray) : strs (l ++ [x]) = strs l ++ [.string x.2] := by simp [strs]
theorem outs_length : ∀ (l : List ByteArray) (a : Nat), (outs a l).length ≤ l.length
 | [], a => Nat.le_refl _
 | s :: l, a => by
  have ih := outs_length l (a + s.size + 1)
  unfold outs
  split
  ·simp only [List.length_cons]; omega
  ·simp only [List.length_cons]; omega
theorem segs_length : ∀ l : List UInt8, (segs l).length ≤ l.length + 1
 | [] => by simp [segs]
 | c :: l => by
  have ih := segs_length l
  unfold segs
  split
  ·simp only [List.length_cons]; omega
  ·split
   ·simp
   ·rename_i h; rw [h] at ih; simp only [List.length_cons] at ih ⊢; omega
theorem parts_length (p : ByteArray) (pre : List (Nat × ByteArray)) (h : pre <+: partsL p) : pre.length ≤ p.size + 1 := by
 have h1 := h.length_le
 have h2 : (partsL p).length ≤ (segsB p).length := outs_length _ _
 have h3 : (segsB p).length ≤ p.size + 1 := by
  unfold segsB
  rw [List.length_map]
  have := segs_length p.data.toList
  simpa using this
 omega
theorem own_slice {w : World} {base : Nat} {e : TypeId} {size n : Nat} {v : Value} {xs : List Value} (h : w.ownsRow base e size v n xs) : ∃ A n c, v = .slice A n c := by
 rcases h.2 with ⟨rfl, _⟩ | ⟨g, cap, cur, rfl, _⟩ <;> exact ⟨_, _, _, rfl⟩
theorem results_split (tmps : Array Value) (w : World) (b : Nat) (v : Value) (h2 : tmps.getD 2 undef = .pointer (some ⟨b, 0, none⟩)) (hc : w.cell? ⟨b, 0, none⟩ = some v) :
  (results Tryz.f114 tmps).run Tryz.prog w = .ok (.tuple #[v, tmps.getD 3 undef, tmps.getD 4 undef]) w := by
 have hr : Tryz.f114.results = #[.cell 2 78, .tmp 3, .tmp 4] := rfl
 simp only [results, hr]
 have h2' : tmps[2]?.getD undef = .pointer (some ⟨b, 0, none⟩) := by simpa using h2
 simp [go_sem, Sem.run_bind, Result.andThen, h2', hc]
theorem results_check (tmps : Array Value) (w : World) (b : Nat) (v : Value) (h2 : tmps.getD 2 undef = .pointer (some ⟨b, 0, none⟩)) (hc : w.cell? ⟨b, 0, none⟩ = some v) :
  (results Tryz.f113 tmps).run Tryz.prog w = .ok v w := by
 have hr : Tryz.f113.results = #[.cell 2 30] := rfl
 simp only [results, hr]
 have h2' : tmps[2]?.getD undef = .pointer (some ⟨b, 0, none⟩) := by simpa using h2
 simp [go_sem, Sem.run_bind, Result.andThen, h2', hc]
theorem infoStr : (Tryz.prog.info? 9).map (fun i => (i.zero, i.size, i.bytes)) = some (some (.string ⟨#[]⟩), 1, 16) := by kernel_rfl
def BoxRow (E : Nat → Prop) (lb : Nat) (xs : List Value) (FP : Nat → Prop) (V : World) : Prop :=
 ∃ v, FP = (fun k => E k ∨ k = lb ∨ v.ownBlock = some k) ∧ V.heap[lb]? = some (.cells #[v] 78 (0, 0)) ∧ V.ownsRow (lb + 1) 9 1 v xs.length xs
theorem BoxRow.move {E : Nat → Prop} {lb : Nat} {xs : List Value} {FP : Nat → Prop} {V V' : World} (h : BoxRow E lb xs FP V) (hk : ∀ k, FP k → V'.heap[k]? = V.heap[k]?) : BoxRow E lb xs FP V' := by
 obtain ⟨v, rfl, h1, h2⟩ := h
 exact ⟨v, rfl, (hk _ (.inr (.inl rfl))).trans h1, own_move h2 (fun k hv => hk k (.inr (.inr hv)))⟩
theorem BoxRow.appended {E : Nat → Prop} {lb : Nat} {xs : List Value} {FP : Nat → Prop} {V W1 : World} {v v' : Value} {x : Value} (hE : ∀ k, E k → k < V.heap.size)
  (h0 : FP = (fun k => E k ∨ k = lb ∨ v.ownBlock = some k)) (h1 : V.heap[lb]? = some (.cells #[v] 78 (0, 0))) (h2 : V.ownsRow (lb + 1) 9 1 v xs.length xs)
  (r1 : W1.ownsRow (lb + 1) 9 1 v' (xs.length + 1) (xs ++ [x])) (r2 : (V.alloc (.cells #[x] 9)).grownBy W1 v.ownBlock) (r3 : v'.ownBlock = v.ownBlock ∨ v'.ownBlock = some (V.heap.size + 1)) :
  W1.heap[lb]? = some (.cells #[v] 78 (0, 0)) ∧ ∃ FP', Gr FP V FP' ∧ Bd FP' (W1.setCell ⟨lb, 0, none⟩ v') ∧ Keep FP V (W1.setCell ⟨lb, 0, none⟩ v') ∧ BoxRow E lb (xs ++ [x]) FP' (W1.setCell ⟨lb, 0, none⟩ v') := by
 have hl : lb < V.heap.size := (Array.getElem?_eq_some_iff.1 h1).1
 have hsz : V.heap.size + 1 ≤ W1.heap.size := by have := r2.size; simpa using this
 have hset : (W1.setCell ⟨lb, 0, none⟩ v').heap.size = W1.heap.size := by simp [World.setCell]
 have hvb : some lb ≠ v.ownBlock := fun e => by have := own_base h2 lb e.symm; omega
 have g1 : W1.heap[lb]? = some (.cells #[v] 78 (0, 0)) := by
  rw [r2.block lb (by simp; omega) hvb, Below.heap_alloc _ _ _ hl]; exact h1
 refine ⟨g1, fun k => E k ∨ k = lb ∨ v'.ownBlock = some k, ?_, ?_, ?_, v', rfl, box_set g1, ?_⟩
 ·rintro k (h | h | h)
  ·exact .inl (by rw [h0]; exact .inl h)
  ·exact .inl (by rw [h0]; exact .inr (.inl h))
  ·rcases r3 with r3 | r3
   ·exact .inl (by rw [h0]; exact .inr (.inr (r3 ▸ h)))
   ·rw [r3] at h; injection h with h; exact .inr (by omega)
 ·rintro k (h | h | h)
  ·have := hE k h; omega
  ·omega
  ·have := own_lt r1 k h; omega
 ·have hK : Keep FP V W1 := ⟨r2.os, r2.tape, r2.output, by omega, fun k hk hn => by
   rw [h0] at hn
   rw [r2.block k (by simp; omega) (fun e => hn (.inr (.inr e.symm))), Below.heap_alloc _ _ _ hk]⟩
  exact hK.setCell lb v' (.inl (by rw [h0]; exact .inr (.inl rfl)))
 ·rw [List.length_append]
  exact ownsRow_setCell_below r1 (by show lb < lb + 1; omega) _
set_option maxHeartbeats 4000000 in
set_option maxRecDepth 100000 in
theorem split_in (p : ByteArray) (hp : p.size ≤ 1000000000000) (w : World) : Calls Tryz.prog 114 #[.string p] w fun e w' =>
  ∃ v, e = .returned (.tuple #[v, .bool (Lib.hasPrefix p.data.toList [47]), .bool (Lib.hasSuffix p.data.toList [47])]) ∧ w'.ownsRow w.heap.size 9 1 v (partsL p).length (strs (partsL p)) ∧ Below w.heap.size w w' := by
 obtain ⟨i0, hi, hz0, hz1, hz2⟩ := info_parts infoStr
 obtain ⟨n, hn⟩ : ∃ n : Nat, 9 ≤ n := ⟨9, Nat.le_refl _⟩
 refine callsIn_wide (n := n).1 (callsIn_of_wp_marks Tryz.func114 rfl trivial ?_ rfl)
 simp only [Tryz.ntmps114, List.size_toArray, List.length_cons, List.length_nil, Nat.reduceAdd, Nat.reduceSub, Array.replicate_succ, Array.replicate_zero, List.push_toArray, List.append_toArray, List.nil_append, List.cons_append]
 gi_wp2_with (refine ⟨trivial, fun h => (by cases h), ?_⟩; gi_at_call 130; refine (callsIn_wide.2 (parts_calls p _)).mono ?_; rintro e w' ⟨rfl, rfl⟩)
 have b1 : (((w.alloc (.cells #[.slice none 0 0] 78)).alloc (.cells #[.string p] 9))).heap[w.heap.size + 1]? = some (.cells #[.string p] 9 (0, 0)) := by
  have := heap_alloc_new (w.alloc (.cells #[.slice none 0 0] 78)) (.cells #[.string p] 9); simpa using this
 have b0 : (((w.alloc (.cells #[.slice none 0 0] 78)).alloc (.cells #[.string p] 9))).heap[w.heap.size]? = some (.cells #[.slice none 0 0] 78 (0, 0)) := by
  rw [Below.heap_alloc _ _ _ (by simp)]; exact heap_alloc_new w _
 have bl : Below w.heap.size w ((w.alloc (.cells #[.slice none 0 0] 78)).alloc (.cells #[.string p] 9)) := (((Below.refl _ w).alloc (Nat.le_refl _) _).alloc (by simp) _)
 have bs : ((w.alloc (.cells #[.slice none 0 0] 78)).alloc (.cells #[.string p] 9)).heap.size = w.heap.size + 2 := by simp
 generalize hW : (w.alloc (.cells #[.slice none 0 0] 78)).alloc (.cells #[.string p] 9) = W at b1 b0 bl bs ⊢
 refine wpIn_rangeFunc_L (α := Nat × ByteArray) (gf := 146) (lb := #[.pointer (some ⟨w.heap.size + 1, 0, none⟩)]) rfl (by omega) rfl trivial (enters_of Tryz.func146 (by kernel_rfl) rfl) (encs := fun x => #[.int .i64 x.1, .string x.2])
  (parts1_L (n - 1) (by omega) p (by omega) (w.heap.size + 1))
  (fun W1 h1 => (h1.block _ (by omega)).trans b1) (fun k h => h.elim) (fun _ => rfl)
  (fun pre FP V => BoxRow (fun _ => False) w.heap.size (strs pre) FP V) (fun _ _ _ _ => False)
  (fun s FP V V' h hk => h.move hk) (fun _ _ _ _ _ h _ => h) (fun k => False ∨ k = w.heap.size ∨ (Value.slice none 0 0).ownBlock = some k)
  (by rintro k (h | rfl | h); exact h.elim; omega; cases h) (fun _ _ h => h) ⟨_, rfl, b0, own_nil _ _ _ _⟩
  (fun x => { tmps := #[.string p, undef, .pointer (some ⟨w.heap.size, 0, none⟩), .bool false, .bool false, undef, .string x.2, .string p, .func (.func 146) #[] #[.pointer (some ⟨w.heap.size + 1, 0, none⟩)], .int .i64 x.1, .string x.2, undef, undef, undef, undef, undef, undef, undef, undef, undef], defers := [] }) ?assign ?body ?done ?stop
 case assign =>
  intro l2 x V K hK
  gi_wp2
  exact hK
 case body =>
  rintro l2 pre x FP V ⟨v, hFP, h1, h2⟩ hbd hsz hsp
  have hlen := parts_length p _ hsp
  rw [List.length_append, List.length_singleton] at hlen
  have hlen2 : (pre.length + 1) * 16 ≤ 140737488355328 := by omega
  have c0 := box_cell h1
  have kl : w.heap.size < V.heap.size := (Array.getElem?_eq_some_iff.1 h1).1
  have h2x := h2
  rw [strs_len] at h2
  have HH := Lib.hid (And.intro hFP (And.intro h1 (And.intro h2x (And.intro kl (And.intro hlen2 (And.intro hz0 (And.intro hz1 hz2)))))))
  have hV := h2.alloc (.cells #[.string x.2] 9)
  clear hsp hlen hbd hsz hFP h1 h2 h2x bl b0 b1 bs hW
  have news : ∀ j u, [Value.string x.2][j]? = some u → (V.alloc (.cells #[.string x.2] 9)).cell? ((⟨V.heap.size, 0, none⟩ : Addr).add j) = some u := by
   simpa using World.news_of_block (cs := #[Value.string x.2]) (t := 9) (fr := (0, 0)) (heap_alloc_new V (.cells #[.string x.2] 9))
  have one : ∀ u ∈ [Value.string x.2], u.oneCell' = true := by intro u hu; simp at hu; subst hu; rfl
  have a1 : pre.length + 1 ≤ maxLen := by simp only [maxLen]; omega
  have a3 : w.heap.size + 1 ≤ (V.alloc (.cells #[.string x.2] 9)).heap.size := by simp; omega
  gi_wp2_with (refine wpListIn_append_at (V.alloc (.cells #[.string x.2] 9)) rfl (.tmp 11) (.tmp 13) 78 rfl (w.heap.size + 1) 9 i0 (.string ⟨#[]⟩) 1 16 Tryz.underlying78 hi hz0 hz1 hz2 rfl (by decide) v _ _ rfl hV ⟨V.heap.size, 0, none⟩ 1 1 [.string x.2] rfl rfl news one a1 hlen2 a3 ?_)
  intro v' W1 r1 r2 r3
  obtain ⟨hFP, h1, h2x, _⟩ := HH.out
  rw [← strs_len] at r1
  obtain ⟨g1, FP', q1, q2, q3, q4⟩ := BoxRow.appended (E := fun _ => False) (fun _ h => h.elim) hFP h1 h2x r1 r2 (by simpa using r3)
  have QQ := Lib.hid (And.intro q1 (And.intro q2 (And.intro q3 q4)))
  obtain ⟨A', n', c', rfl⟩ := own_slice r1
  have c1 := box_cell g1
  have f1 := box_free g1 0
  clear q1 q2 q3 q4 r1 r2 r3 h1 h2x hFP g1 c0 HH hV news one a1 a3 hlen2
  gi_wp2
  obtain ⟨q1, q2, q3, q4⟩ := QQ.out
  refine ⟨FP', q1, q2, q3, ?_⟩
  show BoxRow _ _ (strs (pre ++ [x])) _ _
  rw [strs_snoc]; exact q4
 case done =>
  rintro D xs FP V rfl ⟨v, hFP, h1, h2⟩ hgr hbd hkp hD hnD hK
  obtain ⟨A', n', c', rfl⟩ := own_slice h2
  have c0 := box_cell h1
  have f0 := box_free h1 0
  gi_step
  gi_step
  gi_step
  refine wpIn_wide.2 ?_
  have HH := Lib.hid (And.intro hFP (And.intro h1 (And.intro h2 (And.intro hK (And.intro bl (And.intro hkp (And.intro hD (And.intro hnD bs))))))))
  clear hFP h1 h2 bl b0 b1 bs hW hgr hbd hkp hD hnD hK
  try go_step
  go_still_tail 5, (by kernel_rfl)
  still_call (Tryz.strings_HasPrefix p ⟨#[47]⟩ _)
  still_step
  still_call (Tryz.strings_HasSuffix p ⟨#[47]⟩ _ (by omega))
  refine wpStill_nil ?_
  change wpList _ _ _ _ _ V.drew
  have hd : V.drew.heap = V.heap := rfl
  have hp : Keep (fun _ => False) V V.drew := ⟨rfl, rfl, rfl, Nat.le_refl _, fun _ _ _ => rfl⟩
  generalize V.drew = V2 at hd hp ⊢
  obtain ⟨hFP, h1, h2, hK, bl, hkp, hD, hnD, bs⟩ := HH.out
  rw [← hd] at h1 hK
  have c2 := box_cell h1
  have f2 := box_free h1 0
  have HH2 := Lib.hid (And.intro h1 (And.intro h2 (And.intro hK (And.intro bl (And.intro hkp (And.intro hD (And.intro hp (And.intro hd (And.intro hnD (And.intro hFP bs))))))))))
  clear h1 h2 hK bl hkp hD hp hd HH c0 f0 hnD hFP bs
  go_wp2
  gi_wp2
  obtain ⟨h1, h2, hK, bl, hkp, hD, hp, hd, hnD, hFP, bs⟩ := HH2.out
  have hDl : D ≠ w.heap.size := by omega
  have hK3 : (V2.setCell ⟨w.heap.size, 0, none⟩ (.slice A' n' c')).heap[D]? = some (.deferred (some [])) := (set_other hDl).trans hK
  refine ⟨by simp, .inl ⟨_, _, rfl, run_takeDeferred hK3, ?_⟩⟩
  have g3 : ((V2.setCell ⟨w.heap.size, 0, none⟩ (.slice A' n' c')).putObj D (.deferred none)).heap[w.heap.size]? = some (.cells #[.slice A' n' c'] 78 (0, 0)) := (putObj_block (Ne.symm hDl)).trans (box_set h1)
  refine ⟨_, results_split _ _ w.heap.size _ rfl (box_cell g3), .slice A' n' c', rfl, ?_, ?_⟩
  ·rw [← strs_len]
   refine own_move (w := V2.setCell ⟨w.heap.size, 0, none⟩ (.slice A' n' c')) (ownsRow_setCell_other (own_move (own_weaken h2 (by omega)) (fun k _ => by rw [hd])) ?_ _) ?_
   ·intro e
    have h9 : w.heap.size + 1 ≤ w.heap.size := own_base h2 _ e
    omega
   ·intro k hk
    exact putObj_block (fun e => by subst e; exact hnD (by rw [hFP]; exact .inr (.inr hk)))
  ·have hz : Keep (fun k => w.heap.size ≤ k) W ((V2.setCell ⟨w.heap.size, 0, none⟩ (.slice A' n' c')).putObj D (.deferred none)) := by
    refine Keep.putObj (Keep.setCell ((hkp.weak ?_).then hp (fun i _ h => h.elim)) _ _ (.inl (Nat.le_refl _))) _ _ (.inl (by omega))
    rintro k _ ((h | h | h) | h)
    ·exact h.elim
    ·omega
    ·cases h
    ·exact h.elim
   exact bl.trans (hz.below (by omega) (fun k h => h))
 case stop =>
  rintro D c pre FP V hsp h
  exact h.elim
def checkB (p : ByteArray) : Int :=
 if p.size = 0 then 2 else if 100 < p.size then 9 else if 0 ≤ Lib.indexByte p.data.toList 0 then 1 else if (partsL p).any (fun x => decide (12 < x.2.size)) = true then 9 else 0
set_option maxHeartbeats 4000000 in
set_option maxRecDepth 100000 in
theorem check_in (p : ByteArray) (hp : p.size ≤ 1000000000000) (w : World) : Calls Tryz.prog 113 #[.string p] w fun e w' => e = .returned (.int .i64 (checkB p)) ∧ Below w.heap.size w w' := by
 obtain ⟨n, hn⟩ : ∃ n : Nat, 9 ≤ n := ⟨9, Nat.le_refl _⟩
 have b0 : (w.alloc (.cells #[.int .i64 0] 30)).heap[w.heap.size]? = some (.cells #[.int .i64 0] 30 (0, 0)) := heap_alloc_new w _
 have bl : Below w.heap.size w (w.alloc (.cells #[.int .i64 0] 30)) := (Below.refl _ w).alloc (Nat.le_refl _) _
 have e1 := isEmpty_size p
 have hI : Calls Tryz.prog 129 #[.string p, .int .u8 0] (w.alloc (.cells #[.int .i64 0] 30)) fun e w' => e = .returned (.int .i64 (Lib.indexByte p.data.toList 0)) ∧ w' = w.alloc (.cells #[.int .i64 0] 30) := Tryz.strings_IndexByte p 0 _
 -- a way out ahead of the loop
 have out : ∀ (tmps : Array Value) (r : Int), tmps.getD 2 undef = .pointer (some ⟨w.heap.size, 0, none⟩) → checkB p = r →
   LeavesInM Fence.wide n Tryz.prog Tryz.f113 tmps (fun e w' => e = .returned (.int .i64 (checkB p)) ∧ Below w.heap.size w w') [] .returning (w.alloc (.cells #[.int .i64 r] 30)) := by
  intro tmps r h2 hr
  rw [hr]
  exact ⟨_, results_check tmps _ w.heap.size _ h2 (box_cell (heap_alloc_new w _)), rfl, (Below.refl _ w).alloc (Nat.le_refl _) _⟩
 refine callsIn_wide (n := n).1 (callsIn_of_wp_marks Tryz.func113 rfl trivial ?_ rfl)
 simp only [Tryz.ntmps113, List.size_toArray, List.length_cons, List.length_nil, Nat.reduceAdd, Nat.reduceSub, Array.replicate_succ, Array.replicate_zero, List.push_toArray, List.append_toArray, List.nil_append, List.cons_append]
 have OUT := Lib.hid out
 by_cases h0 : p.size = 0
 ·have hr : checkB p = 2 := by unfold checkB; rw [if_pos h0]
  rw [decide_eq_true h0] at e1
  have HR := Lib.hid hr
  clear out hI hr bl
  gi_wp2
  refine OUT.out _ 2 ?_ HR.out; rfl
 ·rw [decide_eq_false h0] at e1
  by_cases h1 : 100 < p.size
  ·have hr : checkB p = 9 := by unfold checkB; rw [if_neg h0, if_pos h1]
   have h1' : (100 : Int) < (p.size : Int) := by omega
   have HR := Lib.hid hr
   clear out hI hr bl
   gi_wp2
   refine OUT.out _ 9 ?_ HR.out; rfl
  ·have h1' : ¬ (100 : Int) < (p.size : Int) := by omega
   by_cases h2 : 0 ≤ Lib.indexByte p.data.toList 0
   ·have hr : checkB p = 1 := by unfold checkB; rw [if_neg h0, if_neg h1, if_pos h2]
    have HR := Lib.hid hr
    clear out hr bl
    gi_wp2_with (refine ⟨trivial, fun h => (by cases h), ?_⟩; gi_at_call 129; refine (callsIn_wide.2 hI).mono ?_; rintro e w' ⟨rfl, rfl⟩)
    refine OUT.out _ 1 ?_ HR.out; rfl
   ·have h2' : ¬ (0 ≤ Lib.indexByte p.data.toList 0) := h2
    have BL := Lib.hid bl
    clear out bl
    gi_wp2_with (first | (refine ⟨trivial, fun h => (by cases h), ?_⟩; gi_at_call 129; refine (callsIn_wide.2 hI).mono ?_; rintro e w' ⟨rfl, rfl⟩) | (refine ⟨trivial, fun h => (by cases h), ?_⟩; gi_at_call 130; refine (callsIn_wide.2 (parts_calls p _)).mono ?_; rintro e w' ⟨rfl, rfl⟩))
    have b1 : ((w.alloc (.cells #[.int .i64 0] 30)).alloc (.cells #[.string p] 9)).heap[w.heap.size + 1]? = some (.cells #[.string p] 9 (0, 0)) := by
     have := heap_alloc_new (w.alloc (.cells #[.int .i64 0] 30)) (.cells #[.string p] 9); simpa using this
    have b0' : ((w.alloc (.cells #[.int .i64 0] 30)).alloc (.cells #[.string p] 9)).heap[w.heap.size]? = some (.cells #[.int .i64 0] 30 (0, 0)) := by
     rw [Below.heap_alloc _ _ _ (by simp)]; exact b0
    have bl : Below w.heap.size w ((w.alloc (.cells #[.int .i64 0] 30)).alloc (.cells #[.string p] 9)) := BL.out.alloc (by simp) _
    have bs : ((w.alloc (.cells #[.int .i64 0] 30)).alloc (.cells #[.string p] 9)).heap.size = w.heap.size + 2 := by simp
    clear hI b0 BL OUT
    generalize hW : (w.alloc (.cells #[.int .i64 0] 30)).alloc (.cells #[.string p] 9) = W at b1 b0' bl bs ⊢
    have hchk : checkB p = if (partsL p).any (fun x => decide (12 < x.2.size)) = true then 9 else 0 := by unfold checkB; rw [if_neg h0, if_neg h1, if_neg (by omega)]
    -- how the function is left
    have leave : ∀ (D : Nat) (V : World) (tmps : Array Value), tmps.getD 2 undef = .pointer (some ⟨w.heap.size, 0, none⟩) → V.heap[w.heap.size]? = some (.cells #[.int .i64 (checkB p)] 30 (0, 0)) → Keep (fun k => k = w.heap.size ∨ False) W V → W.heap.size ≤ D → V.heap[D]? = some (.deferred (some [])) →
      LeavesInM Fence.wide n Tryz.prog Tryz.f113 tmps (fun e w' => e = .returned (.int .i64 (checkB p)) ∧ Below w.heap.size w w') [{ target := .collected D, args := #[] }] .returning V := by
     intro D V tmps ht hv hk hD hdef
     refine ⟨by simp, .inl ⟨_, _, rfl, run_takeDeferred hdef, ?_⟩⟩
     have g3 : (V.putObj D (.deferred none)).heap[w.heap.size]? = some (.cells #[.int .i64 (checkB p)] 30 (0, 0)) := (putObj_block (by omega)).trans hv
     refine ⟨_, results_check tmps _ w.heap.size _ ht (box_cell g3), rfl, ?_⟩
     have hz : Keep (fun k => w.heap.size ≤ k) W (V.putObj D (.deferred none)) := by
      refine Keep.putObj (hk.weak ?_) _ _ (.inl (by omega))
      rintro k _ (h | h)
      ·omega
      ·exact h.elim
     exact bl.trans (hz.below (by omega) (fun k h => h))
    have LV := Lib.hid leave
    have HC := Lib.hid hchk
    clear leave hchk
    refine wpIn_rangeFunc_L (α := Nat × ByteArray) (gf := 146) (lb := #[.pointer (some ⟨w.heap.size + 1, 0, none⟩)]) rfl (by omega) rfl trivial (enters_of Tryz.func146 (by kernel_rfl) rfl) (encs := fun x => #[.int .i64 x.1, .string x.2])
     (parts1_L (n - 1) (by omega) p (by omega) (w.heap.size + 1))
     (fun W1 h1 => (h1.block _ (by omega)).trans b1) (fun k h => h.elim) (fun _ => rfl)
     (fun pre FP V => FP = (fun k => k = w.heap.size) ∧ V.heap[w.heap.size]? = some (.cells #[.int .i64 0] 30 (0, 0)) ∧ ∀ x ∈ pre, x.2.size ≤ 12)
     (fun c pre FP V => c = .ret ∧ FP = (fun k => k = w.heap.size) ∧ V.heap[w.heap.size]? = some (.cells #[.int .i64 9] 30 (0, 0)) ∧ ∃ x ∈ pre, 12 < x.2.size)
     (by rintro s FP V V' ⟨rfl, h1, h2⟩ hk; exact ⟨rfl, (hk _ rfl).trans h1, h2⟩) (by rintro c s FP V V' ⟨rfl, rfl, h1, h2⟩ hk; exact ⟨rfl, rfl, (hk _ rfl).trans h1, h2⟩) (fun k => k = w.heap.size)
     (by rintro k rfl; omega) (fun _ _ h => h) ⟨rfl, b0', fun x h => by cases h⟩
     (fun x => { tmps := #[.string p, undef, .pointer (some ⟨w.heap.size, 0, none⟩), undef, .string x.2, .bool false, .string p, .bool false, .bool false, .string p, .int .i64 p.size, .bool false, .bool (decide (0 ≤ Lib.indexByte p.data.toList 0)), .string p, .int .i64 (Lib.indexByte p.data.toList 0), .bool (decide (0 ≤ Lib.indexByte p.data.toList 0)), .string p, .func (.func 146) #[] #[.pointer (some ⟨w.heap.size + 1, 0, none⟩)], .int .i64 x.1, .string x.2, undef, undef, undef], defers := [] }) ?assign ?body ?done ?stop
    case assign =>
     intro l2 x V K hK
     gi_wp2
     exact hK
    case body =>
     rintro l2 pre x FP V ⟨rfl, h1, h2⟩ hbd hsz hsp
     have f1 := box_free h1 0
     have c1 := box_cell h1
     have HH := Lib.hid (And.intro h1 h2)
     clear hsp hbd hsz h1 h2 bl b0' b1 bs hW
     by_cases hx : 12 < x.2.size
     ·have hx' : (12 : Int) < (x.2.size : Int) := by omega
      gi_wp2
      obtain ⟨h1, h2⟩ := HH.out
      refine ⟨fun k => k = w.heap.size, fun k h => .inl h, ?_, (Keep.refl _ V).setCell _ _ (.inl rfl), rfl, rfl, box_set h1, x, by simp, hx⟩
      rintro k rfl
      have := (Array.getElem?_eq_some_iff.1 h1).1
      simpa [World.setCell] using this
     ·have hx' : ¬ (12 : Int) < (x.2.size : Int) := by omega
      gi_wp2
      obtain ⟨h1, h2⟩ := HH.out
      refine ⟨fun k => k = w.heap.size, fun k h => .inl h, ?_, Keep.refl _ V, rfl, h1, ?_⟩
      ·rintro k rfl
       exact (Array.getElem?_eq_some_iff.1 h1).1
      ·intro y1 y2 hy
       rcases List.mem_append.1 hy with hy | hy
       ·exact h2 (y1, y2) hy
       ·have hz : (y1, y2) = x := by simpa using hy
        have hz2 : y2 = x.2 := congrArg Prod.snd hz
        rw [hz2]; omega
    case done =>
     rintro D xs FP V rfl ⟨rfl, h1, h2⟩ hgr hbd hkp hD hnD hK
     have f1 := box_free h1 0
     have c1 := box_cell h1
     have HH := Lib.hid (And.intro h1 (And.intro h2 (And.intro hkp (And.intro hD (And.intro hnD (And.intro hK bs))))))
     clear h1 h2 bl b0' b1 bs hW hgr hbd hkp hD hnD hK
     gi_wp2
     obtain ⟨h1, h2, hkp, hD, hnD, hK, bs⟩ := HH.out
     have hr : checkB p = 0 := by
      rw [HC.out, if_neg]
      intro hany
      obtain ⟨y, hy, hy2⟩ := List.any_eq_true.1 hany
      have := h2 y hy
      simp at hy2
      omega
     refine LV.out D _ _ ?_ (by rw [hr]; exact box_set h1) (hkp.setCell _ _ (.inl (.inl rfl))) hD ((set_other (by omega)).trans hK)
     rfl
    case stop =>
     rintro D c pre FP V hsp ⟨rfl, rfl, h1, x, hx, hx2⟩ hgr hbd hkp hD hnD hK
     have HH := Lib.hid (And.intro h1 (And.intro hkp (And.intro hD (And.intro hnD (And.intro hK (And.intro bs hsp))))))
     clear h1 bl b0' b1 bs hW hgr hbd hkp hD hnD hK hsp
     gi_wp2
     obtain ⟨h1, hkp, hD, hnD, hK, bs, hsp⟩ := HH.out
     have hr : checkB p = 9 := by
      rw [HC.out, if_pos]
      exact List.any_eq_true.2 ⟨x, hsp.subset hx, by simpa using hx2⟩
     refine LV.out D _ _ ?_ (by rw [hr]; exact h1) hkp hD hK
     rfl
end Go.Proofs.YtpfbimkpcnnfkaaGreatDoor.Ext
