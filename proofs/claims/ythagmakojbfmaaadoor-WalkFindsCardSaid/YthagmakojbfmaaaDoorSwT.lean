/- By Sx: shown; WalkFinds. -/
import Derived.Test.YthagmakojbfmaaaDoorSwR
/- By Sx: a right disk is one that ways may be gone on; shown; WalkFinds. -/
set_option maxRecDepth 100000
set_option linter.unusedVariables false
set_option linter.unusedSimpArgs false
namespace Go.Proofs.YthagmakojbfmaaaDoor.Sx
open Go Go.RowKit Go.Proofs.YthagmakojbfmaaaDoor Go.Proofs.YthagmakojbfmaaaDoor.Ext
theorem cmp_neg : ∀ a b : List UInt8, Lib.compareBytes a b < 0 ↔ Op.bytesLess a b = true
  | [], [] => by simp [Lib.compareBytes, Op.bytesLess]
  | [], _ :: _ => by simp [Lib.compareBytes, Op.bytesLess]
  | _ :: _, [] => by simp [Lib.compareBytes, Op.bytesLess]
  | a :: u, b :: v => by
    unfold Lib.compareBytes Op.bytesLess
    by_cases h1 : a < b
    · simp [h1]
    · by_cases h2 : b < a
      · have hne : ¬ a = b := by rintro rfl; exact h1 h2
        simp [h1, h2, hne]
      · have he : a = b := UInt8.le_antisymm (UInt8.not_lt.1 h2) (UInt8.not_lt.1 h1)
        subst he
        simp [h1, cmp_neg u v]
theorem less_trans : ∀ a b c : List UInt8, Op.bytesLess a b = true → Op.bytesLess b c = true → Op.bytesLess a c = true
  | [], [], _, h, _ => by simp [Op.bytesLess] at h
  | [], _ :: _, [], _, h => by simp [Op.bytesLess] at h
  | [], _ :: _, _ :: _, _, _ => by simp [Op.bytesLess]
  | _ :: _, [], _, h, _ => by simp [Op.bytesLess] at h
  | _ :: _, _ :: _, [], _, h => by simp [Op.bytesLess] at h
  | a :: u, b :: v, c :: x, h1, h2 => by
    simp only [Op.bytesLess, Bool.or_eq_true, decide_eq_true_eq, Bool.and_eq_true, beq_iff_eq] at h1 h2 ⊢
    rcases h1 with h1 | ⟨rfl, h1⟩
    · rcases h2 with h2 | ⟨rfl, h2⟩
      · exact .inl (UInt8.lt_trans h1 h2)
      · exact .inl h1
    · rcases h2 with h2 | ⟨rfl, h2⟩
      · exact .inl h2
      · exact .inr ⟨rfl, less_trans u v x h1 h2⟩
theorem less_total : ∀ a b : List UInt8, Op.bytesLess a b = false → a ≠ b → Op.bytesLess b a = true
  | [], [], _, h => by simp at h
  | [], _ :: _, h, _ => by simp [Op.bytesLess] at h
  | _ :: _, [], _, _ => by simp [Op.bytesLess]
  | a :: u, b :: v, h, hne => by
    simp only [Op.bytesLess, Bool.or_eq_false_iff, decide_eq_false_iff_not, Bool.and_eq_false_iff] at h
    simp only [Op.bytesLess, Bool.or_eq_true, decide_eq_true_eq, Bool.and_eq_true, beq_iff_eq]
    obtain ⟨h1, h2⟩ := h
    by_cases he : a = b
    · subst he
      exact .inr ⟨rfl, less_total u v (h2.resolve_left (by simp)) (by rintro rfl; exact hne rfl)⟩
    · exact .inl (UInt8.lt_of_le_of_ne (UInt8.not_lt.1 h1) (Ne.symm he))
def Rising (l : List En) : Prop := ∀ (j : Nat) x y, l[j]? = some x → l[j + 1]? = some y → Op.bytesLess x.f0.data.toList y.f0.data.toList = true
theorem Rising.lt {l : List En} (h : Rising l) : ∀ (k a : Nat) x y, l[a]? = some x → l[a + k + 1]? = some y → Op.bytesLess x.f0.data.toList y.f0.data.toList = true
  | 0, a, x, y, hx, hy => h a x y hx hy
  | k + 1, a, x, y, hx, hy => by
    obtain ⟨z, hz⟩ : ∃ z, l[a + k + 1]? = some z := ⟨_, List.getElem?_eq_getElem (by have := (List.getElem?_eq_some_iff.1 hy).1; omega)⟩
    exact less_trans _ _ _ (h.lt k a x z hx hz) (h (a + k + 1) z y hz hy)
theorem Rising.sorted {l : List En} (h : Rising l) (name : ByteArray) : Sorted l name := by
  have hl : ∀ (a b : Nat) x y, a < b → l[a]? = some x → l[b]? = some y → Op.bytesLess x.f0.data.toList y.f0.data.toList = true := by
    intro a b x y hab hx hy
    exact h.lt (b - a - 1) a x y hx (by rw [show a + (b - a - 1) + 1 = b by omega]; exact hy)
  constructor
  · intro a b x y hab hx hy ho
    rcases Nat.lt_or_ge a b with h1 | h1
    · exact (cmp_neg _ _).2 (less_trans _ _ _ (hl a b x y h1 hx hy) ((cmp_neg _ _).1 ho))
    · have : a = b := by omega
      subst this; rw [hx] at hy; cases hy; exact ho
  · intro a b x y hab hx hy ho
    rcases Nat.lt_or_ge a b with h1 | h1
    · have hxy := hl a b x y h1 hx hy
      rcases Int.lt_trichotomy (ord y name) 0 with h2 | h2 | h2
      · have := (cmp_neg _ _).2 (less_trans _ _ _ hxy ((cmp_neg _ _).1 h2))
        unfold ord at ho; omega
      · have e := (cmp_zero _ _).1 h2
        have := (cmp_neg _ _).2 (e ▸ hxy : Op.bytesLess x.f0.data.toList name.data.toList = true)
        unfold ord at ho; omega
      · exact h2
    · have : a = b := by omega
      subst this; rw [hx] at hy; cases hy; exact ho
theorem rising_of {l : List En} (h : sortedF l = true) : Rising l := by
  intro j x y hx hy
  have h1 := List.all_eq_true.1 h (j + 1) (List.mem_range.2 (List.getElem?_eq_some_iff.1 hy).1)
  unfold sortedAt at h1
  rw [getD_of hy, Nat.add_sub_cancel, getD_of hx] at h1
  simp only [Bool.and_eq_true, Bool.or_eq_true, decide_eq_true_eq, Bool.not_eq_true', cmpT, Bool.or_eq_false_iff, beq_eq_false_iff_ne, ne_eq] at h1
  have h2 := h1.2.resolve_left (by omega)
  have := less_total _ _ h2.1 h2.2
  rwa [toList_data, toList_data] at this
theorem names_up (ns : List Nd) (i : Int) : ∀ k, (namesAt ns i k).1 = 0 ∨ 0 ≤ (namesAt ns i k).2
  | 0 => .inl rfl
  | k + 1 => by
    have ih := names_up ns i k
    simp only [namesAt]
    by_cases h : countF (ns.getD k zNd) i = 0
    · rw [if_pos h, h]; simpa using ih
    · rw [if_neg h]; exact .inr (by omega)
theorem nd_ok {ns : List Nd} {i : Nat} {n : Nd} (hi : ns[i]? = some n) (h : right1F ns i = true) (h6 : n.f6.size ≤ 300) (h7 : n.f7.length ≤ 60) : NdOk n := by
  unfold right1F at h
  simp only [getD_of hi] at h
  split at h
  · rw [of_decide_eq_true h]; exact zNd_ok
  split at h
  · cases h
  rename_i _ hm
  split at h
  · cases h
  rename_i hs
  split at h
  · cases h
  rename_i he
  refine ⟨by omega, (rising_of ?_).sorted, by omega, fun h2 => ?_, fun e hm => ?_, by omega⟩
  · cases hh : sortedF n.f7 with
    | true => rfl
    | false => exact absurd (.inr (.inr hh)) hs
  · split at h
    · have := of_decide_eq_true h; omega
    split at h
    · cases h
    split at h
    · have := (of_decide_eq_true h).2; omega
    · rename_i hz
      rw [Bool.and_eq_true] at h
      have h3 := of_decide_eq_true h.1
      have h4 := names_up ns i ns.length
      unfold namesF at h3 hz
      omega
  · obtain ⟨k, hk⟩ := List.getElem?_of_mem hm
    have h1 : (List.range n.f7.length).all (entOk ns n.f7) = true := by simpa using he
    have := List.all_eq_true.1 h1 k (List.mem_range.2 (List.getElem?_eq_some_iff.1 hk).1)
    unfold entOk at this
    rw [getD_of hk, Bool.and_eq_true] at this
    have := this.1
    unfold getB at this
    exact (of_decide_eq_true this).1
theorem ns_ok {ns : List Nd} {m r : Int} (h : okF ns m r = true) : NsOk ns := by
  unfold okF at h
  simp only [Bool.and_eq_true, decide_eq_true_eq] at h
  obtain ⟨h1, h2, h3⟩ := h
  refine ⟨by omega, fun n hn => ?_⟩
  obtain ⟨i, hi⟩ := List.getElem?_of_mem hn
  have hz := okF.sizes h1 h2 n hn
  unfold rightF at h3
  rw [Bool.and_eq_true] at h3
  exact nd_ok hi (List.all_eq_true.1 h3.2 i (List.mem_range.2 (List.getElem?_eq_some_iff.1 hi).1)) hz.1 hz.2
def lawNs : List Nd := [⟨2, 63, 0, 1, 0, 0, ⟨#[]⟩, [⟨⟨#[97]⟩, 1⟩, ⟨⟨#[98]⟩, 2⟩]⟩, ⟨2, 63, 0, 1, 0, 0, ⟨#[]⟩, []⟩, ⟨3, 63, 0, 1, 0, 0, ⟨#[97, 47, 46, 46, 47, 98]⟩, []⟩]
theorem w1_ : walkF lawNs 1 0 ⟨#[47, 97, 47, 120]⟩ false = (⟨1, ⟨#[120]⟩, -1, false⟩, 0) := by kernel_rfl
theorem w2_ : walkF lawNs 1 1 ⟨#[46, 46, 47, 98]⟩ false = (⟨0, ⟨#[98]⟩, 2, false⟩, 0) := by kernel_rfl
theorem w3_ : (nodeF lawNs 1 0 ⟨#[98]⟩ true).2 = 8 := by kernel_rfl
theorem w4_ : (nodeF lawNs 1 0 ⟨#[97, 47, 120, 47, 121]⟩ true).2 = 2 := by kernel_rfl
theorem w5_ : nodeF lawNs 1 0 ⟨#[97, 47, 46, 47, 46, 46]⟩ true = (0, 0) := by kernel_rfl
theorem law_ok : NsOk lawNs := by
  refine ⟨by decide, fun n hn => ?_⟩
  obtain ⟨i, hi⟩ := List.getElem?_of_mem hn
  match i, hi with
  | 0, hi => cases hi; exact ⟨by decide, (rising_of (by kernel_rfl)).sorted, by decide, fun _ => by decide, by decide, by decide⟩
  | 1, hi => cases hi; exact ⟨by decide, (rising_of (by kernel_rfl)).sorted, by decide, fun _ => by decide, by decide, by decide⟩
  | 2, hi => cases hi; exact ⟨by decide, (rising_of (by kernel_rfl)).sorted, by decide, fun _ => by decide, by decide, by decide⟩
  | i + 3, hi => simp [lawNs] at hi
theorem law_disk {u : Mem} {b d : Nat} (h1 : ∀ (j : Nat) v, (Sx.cv K0 ((lawNs.getD 0 zNd).row (some ⟨d, 0, none⟩) 2) ++ Sx.cv K0 ((lawNs.getD 1 zNd).row none 0) ++ Sx.cv K0 ((lawNs.getD 2 zNd).row none 0))[j]? = some v → u b j = some v)
    (h2 : ∀ (j : Nat) v, ([.string ⟨#[97]⟩, .int .i64 1, .string ⟨#[98]⟩, .int .i64 2] : List Value)[j]? = some v → u d j = some v) : DiskAt u (some ⟨b, 0, none⟩) lawNs := by
  have key : ∀ (i : Nat) (vs : List Value) , (∀ (j : Nat) v, vs[j]? = some v → (Sx.cv K0 ((lawNs.getD 0 zNd).row (some ⟨d, 0, none⟩) 2) ++ Sx.cv K0 ((lawNs.getD 1 zNd).row none 0) ++ Sx.cv K0 ((lawNs.getD 2 zNd).row none 0))[i + j]? = some v) → Reads u (some ⟨b, 0, none⟩) i vs :=
    fun i vs h => ⟨b, 0, rfl, fun j v hj => by rw [Nat.zero_add]; exact h1 _ _ (h j v hj)⟩
  intro i n hi
  match i, hi with
  | 0, hi =>
    cases hi
    refine ⟨some ⟨d, 0, none⟩, 2, by decide, key 0 _ fun j v hj => ?_, fun k e hk => ⟨d, 0, rfl, fun j v hj => ?_⟩⟩
    · have h8 : j < 8 := (List.getElem?_eq_some_iff.1 hj).1
      rw [Nat.zero_add, List.append_assoc]; exact (List.getElem?_append_left h8).trans hj
    · match k, hk with
      | 0, hk => cases hk; exact h2 _ _ (by match j, hj with | 0, hj => exact hj | 1, hj => exact hj | j + 2, hj => simp at hj)
      | 1, hk => cases hk; exact h2 _ _ (by match j, hj with | 0, hj => exact hj | 1, hj => exact hj | j + 2, hj => simp at hj)
      | k + 2, hk => simp at hk
  | 1, hi =>
    cases hi
    refine ⟨none, 0, by decide, key 8 _ fun j v hj => ?_, fun k e hk => by simp at hk⟩
    have h8 : j < 8 := (List.getElem?_eq_some_iff.1 hj).1
    rw [List.getElem?_append_left (by show 8 + j < 16; omega), List.getElem?_append_right (by show 8 ≤ 8 + j; omega), show 8 + j - (Sx.cv K0 ((lawNs.getD 0 zNd).row (some ⟨d, 0, none⟩) 2)).length = j by show 8 + j - 8 = j; omega]; exact hj
  | 2, hi =>
    cases hi
    refine ⟨none, 0, by decide, key 16 _ fun j v hj => ?_, fun k e hk => by simp at hk⟩
    have h8 : j < 8 := (List.getElem?_eq_some_iff.1 hj).1
    rw [List.getElem?_append_right (by show 16 ≤ 16 + j; omega), show 16 + j - (Sx.cv K0 ((lawNs.getD 0 zNd).row (some ⟨d, 0, none⟩) 2) ++ Sx.cv K0 ((lawNs.getD 1 zNd).row none 0)).length = j by show 16 + j - 16 = j; omega]; exact hj
  | i + 3, hi => simp [lawNs] at hi
end Go.Proofs.YthagmakojbfmaaaDoor.Sx
set_option maxRecDepth 100000
set_option linter.unusedVariables false
set_option linter.unusedSimpArgs false
namespace Go.Proofs.YthagmakojbfmaaaDoor.Sx
open Go Go.RowKit Go.Proofs.YthagmakojbfmaaaDoor Go.Proofs.YthagmakojbfmaaaDoor.Ext
theorem tT_self {x : ByteArray} : cmpT .eql x x = true := by rw [tT_eql]
theorem cT_self {x : Int} : cmpI .eql x x = true := by rw [cT_eql]
theorem shown.cv (u : Mem) (hg : EgM u) : CV Tryd.prog 11 [] [] u fun v cs _ => cs = [] ∧ v = .bool true := by
  refine cv_of names draws (fn := Tryd.f11) (b := bodyOf Tryd.f11) rfl rfl [] lshown.args lshown.giv (fun _ => 0) lshown.run (by kernel_rfl) rfl rfl ?_
  unfold lshown.T
  intro d hd b hb b1 hb1
  refine ⟨fun _ u1 hu1 hw => ?_, fun h => by cases h⟩
  have h1 := hw _ (List.mem_cons_self)
  have h2 := hw _ (List.mem_cons_of_mem _ List.mem_cons_self)
  have hD : DiskAt u1 (some ⟨b, 0, none⟩) lawNs := law_disk (d := d) h1 h2
  have W := fun (who from_ : Int) (path : ByteArray) (follow : Bool) (u' : Mem) (h : u1.le u') (hp : path.size ≤ 1000000000000) => walk.cv (some ⟨b, 0, none⟩) 3 lawNs 9 9 who from_ path follow u' (hD.mono h) law_ok ((hg.mono hu1).mono h) hp
  have N := fun (who from_ : Int) (path : ByteArray) (follow : Bool) (u' : Mem) (h : u1.le u') (hp : path.size ≤ 1000000000000) => node.cv (some ⟨b, 0, none⟩) 3 lawNs 9 9 who from_ path follow u' (hD.mono h) law_ok ((hg.mono hu1).mono h) hp
  refine (W 1 0 ⟨#[47, 97, 47, 120]⟩ false u1 (Mem.le_refl u1) (by decide)).mono fun v cs u2 hu2 ⟨hc, hv⟩ => ⟨(1, ⟨#[120]⟩, -1, false, 0, ()), (), by rw [hv, w1_]; rfl, hc, fun b2 hb2 => ?_⟩
  refine hold_call ((W 1 1 ⟨#[46, 46, 47, 98]⟩ false u2 hu2 (by decide)).mono fun v cs u3 hu3 ⟨hc, hv⟩ => ⟨(0, ⟨#[98]⟩, 2, false, 0, ()), (), by rw [hv, w2_]; rfl, hc, fun b3 hb3 => ?_⟩)
  have hu13 := Mem.le_trans hu2 hu3
  obtain ⟨p3, hp3⟩ : ∃ p, (nodeF lawNs 1 0 ⟨#[98]⟩ true).1 = p := ⟨_, rfl⟩
  obtain ⟨p4, hp4⟩ : ∃ p, (nodeF lawNs 1 0 ⟨#[97, 47, 120, 47, 121]⟩ true).1 = p := ⟨_, rfl⟩
  refine hold_call ((N 1 0 ⟨#[98]⟩ true u3 hu13 (by decide)).mono fun v cs u4 hu4 ⟨hc, hv⟩ => ⟨(p3, 8, ()), (), by rw [hv, w3_, hp3]; rfl, hc, ?_⟩)
  have hu14 := Mem.le_trans hu13 hu4
  refine hold_call ((N 1 0 ⟨#[97, 47, 120, 47, 121]⟩ true u4 hu14 (by decide)).mono fun v cs u5 hu5 ⟨hc, hv⟩ => ⟨(p4, 2, ()), (), by rw [hv, w4_, hp4]; rfl, hc, ?_⟩)
  refine hold_call ((N 1 0 ⟨#[97, 47, 46, 47, 46, 46]⟩ true u5 (Mem.le_trans hu14 hu5) (by decide)).mono fun v cs u6 hu6 ⟨hc, hv⟩ => ⟨(0, 0, ()), (), by rw [hv, w5_]; rfl, hc, ?_⟩)
  refine ⟨rfl, ?_⟩
  simp only [SV.den, E.den, tT_self, cT_self, beq_self_eq_true, cond_true]
theorem WalkFinds.cv (A : Option Addr) (c : Nat) (ns : List Nd) (m r who from_ : Int) (path : ByteArray) (follow : Bool) (u : Mem) (hd : DiskAt u A ns) (hnm : ∀ n ∈ ns, ∀ e ∈ n.f7, e.f0.size ≤ 1000000000000000) (hg : EgM u) :
    CV Tryd.prog 3 [.agg #[.slice A ns.length c, .int .i64 m, .int .i64 r], .int .i64 who, .int .i64 from_, .string path, .bool follow] [] u fun v cs _ => cs = [] ∧ v = .bool true := by
  refine cv_of names draws (fn := Tryd.f3) (b := bodyOf Tryd.f3) rfl rfl [] (WalkFinds.args ((A, ns.length, c), m, r, ()) (who, ()) (from_, ()) (path, ()) (follow, ())) (WalkFinds.giv _ _ _ _ _) (fun _ => 0) (WalkFinds.run _ _ _ _ _) (by kernel_rfl) rfl rfl ?_
  unfold WalkFinds.T
  intro b1 hb1
  refine hold_call ((lright.cv A c ns m r u hd hnm).mono fun v cs u1 hu1 ⟨hc, hv⟩ => ⟨(okF ns m r, ()), (), hv, hc, ?_⟩)
  refine hold_callg (fun xs _ u2 => u1.le u2 ∧ (okF ns m r = true ∧ ¬ (200 : Int) < (path.size : Int) → xs.1 = true)) (fun _ => (shown.cv u1 (hg.mono hu1)).mono fun v cs u2 hu2 ⟨hc, hv⟩ => ⟨(true, ()), (), hv, hc, hu2, fun _ => rfl⟩) (fun hg => ⟨Mem.le_refl u1, fun h => ?_⟩) ?_
  · simp only [E.den, cD_gtr] at hg
    have hg : (!bif !okF ns m r then true else decide ((200 : Int) < (path.size : Int))) = false := hg
    rw [h.1] at hg
    simp only [Bool.not_true, cond_false, Bool.not_eq_false', decide_eq_true_eq] at hg
    exact absurd hg h.2
  rintro ⟨x, _⟩ _ u2 ⟨hu12, hx⟩
  have hu2 := Mem.le_trans hu1 hu12
  refine ⟨fun h => ?_, fun h => ?_⟩
  · exact hold_call ((shown.cv u2 (hg.mono hu2)).mono fun v cs u3 hu3 ⟨hc, hv⟩ => ⟨(true, ()), (), hv, hc, rfl, rfl⟩)
  simp only [E.den, cD_gtr] at h
  have h : (bif (bif !okF ns m r then true else decide ((200 : Int) < (path.size : Int))) then true else !x) = false := h
  have hok : okF ns m r = true := by
    cases hh : okF ns m r with
    | true => rfl
    | false => rw [hh] at h; cases h
  have hps : path.size ≤ 200 := by
    rw [hok] at h
    by_cases hh : (200 : Int) < (path.size : Int)
    · rw [decide_eq_true hh] at h; cases h
    · omega
  clear h
  have hn := ns_ok hok
  have hnl : ∀ n ∈ ns, n.f7.length ≤ 1000000 := fun n hm => (hn.all_ n hm).names
  obtain ⟨⟨⟨w0, w1, w2, w3⟩, we⟩, hw⟩ : ∃ w, walkF ns who from_ path follow = w := ⟨_, rfl⟩
  obtain ⟨⟨n0, ne⟩, hnF⟩ : ∃ w, nodeF ns who from_ path follow = w := ⟨_, rfl⟩
  refine hold_call ((walk.cv A c ns m r who from_ path follow u2 (hd.mono hu2) hn (hg.mono hu2) (by omega)).mono fun v cs u3 hu23 ⟨hc, hv⟩ => ⟨(w0, w1, w2, w3, we, ()), (), by rw [hv, hw]; rfl, hc, fun b2 hb2 => ?_⟩)
  have hu3 := Mem.le_trans hu2 hu23
  refine hold_call ((lits.cv A c ns m r u3 (hd.mono hu3) hn.len hnl).mono fun v cs u4 hu34 ⟨hc, A4, c4, hv, hd4⟩ => ⟨((A4, ns.length, c4), m, r, ()), (), hv, hc, ?_⟩)
  have hu4 := Mem.le_trans hu3 hu34
  refine hold_call ((rwalk.cv A4 c4 ns m r who from_ path follow u4 hd4 hn (by omega)).mono fun v cs u5 hu45 ⟨hc, hv⟩ => ⟨(w0, w1, w2, w3, we, ()), (), by rw [hv, hw]; rfl, hc, fun b3 hb3 => ?_⟩)
  have hu5 := Mem.le_trans hu4 hu45
  refine hold_call ((node.cv A c ns m r who from_ path follow u5 (hd.mono hu5) hn (hg.mono hu5) (by omega)).mono fun v cs u6 hu56 ⟨hc, hv⟩ => ⟨(n0, ne, ()), (), by rw [hv, hnF]; rfl, hc, ?_⟩)
  have hu6 := Mem.le_trans hu5 hu56
  refine hold_call ((lits.cv A c ns m r u6 (hd.mono hu6) hn.len hnl).mono fun v cs u7 hu67 ⟨hc, A7, c7, hv, hd7⟩ => ⟨((A7, ns.length, c7), m, r, ()), (), hv, hc, ?_⟩)
  refine hold_call ((rnode.cv A7 c7 ns m r who from_ path follow u7 hd7 hn (by omega)).mono fun v cs u8 hu78 ⟨hc, hv⟩ => ⟨(n0, ne, ()), (), by rw [hv, hnF]; rfl, hc, ?_⟩)
  refine ⟨rfl, ?_⟩
  simp only [SV.den, E.den, tT_self, cT_self, beq_self_eq_true, cond_true]
end Go.Proofs.YthagmakojbfmaaaDoor.Sx
