/- The last part of a path, and what is ahead of it, are the document's. -/
import Derived.Test.YtmjhlddlhicofaaDoorPRouteNamesx2
import Derived.Test.YtmjhlddlhicofaaDoorExtP2
import Derived.OpenShut
namespace Go.Proofs.YtmjhlddlhicofaaDoor.Pure
open Go.RowKit Go.Proofs.YtmjhlddlhicofaaDoor.PRouteNames Go.Proofs.YtmjhlddlhicofaaDoor.Ext Go.Proofs.YtmjhlddlhicofaaDoorW.PrintWords Go.Proofs.YtmjhlddlhicofaaDoorW.PrintLast
set_option linter.unusedVariables false
set_option linter.unusedSimpArgs false

theorem shown_true : flagstonelaw01_shown.f = some true := by
  unfold flagstonelaw01_shown.f
  simp only [toList_data]
  decide +kernel
theorem split_f (p : ByteArray) (h : p.size ≤ 1000000000000) : route_Split.f p = some (namesL p, p.data.toList.head? == some 47, p.data.toList.getLast? == some 47) := by
  unfold route_Split.f
  rw [if_pos h, hasPrefix_one, hasSuffix_one]
theorem base_f (p : ByteArray) (h : p.size ≤ 1000000000000) : route_Base.f p = some (bs (baseL p.data.toList)) := by
  unfold route_Base.f
  rw [if_pos h, baseB_eq]
theorem join_f (a b : ByteArray) (ha : a.size ≤ 1000000000000) (hb : b.size ≤ 1000000000000) : route_Join.f a b = some (joinB a b) := by
  unfold route_Join.f
  rw [if_pos ⟨ha, hb⟩]
theorem dir_f (p : ByteArray) (h : p.size ≤ 1000000000000) : route_Dir.f p = some (dirB p) := by
  unfold route_Dir.f
  rw [if_pos h]
theorem bt_bs (l : B) (i : Nat) (h : i < l.length) : bt (bs l) (i : Int) = ((l[i]).toNat : Int) := by
  have hz : (bs l).size = l.length := bs_size l
  have h' : ((i : Nat) : Int).toNat < (bs l).size := by rw [hz, Int.toNat_natCast]; exact h
  have := bt_at (bs l) (i : Int) h'
  rw [← this]
  rfl
theorem u8_47 (c : UInt8) : ((c.toNat : Int) = 47) ↔ c = 47 := by
  constructor
  · intro h; exact UInt8.toNat_inj.1 (show c.toNat = 47 by omega)
  · intro h; subst h; rfl
theorem bs_app (a b : B) : bs a ++ bs b = bs (a ++ b) := by
  refine ba_ext ?_
  simp [bs]
theorem cut_bs (l : B) (i : Nat) (h : i < l.length) : (bs l).extract i (i + 1) = bs [l[i]] := by
  refine ba_ext ?_
  rw [Lib.extract_data, show (bs [l[i]]).data.toList = _ from bs_data _, show (bs l).data.toList = l from bs_data l]
  rw [show i + 1 - i = 1 by omega, List.drop_eq_getElem_cons h]
  rfl
theorem take_bs (l : B) (n : Nat) : (bs l).extract 0 n = bs (l.take n) := by
  refine ba_ext ?_
  rw [Lib.extract_data, show (bs (l.take n)).data.toList = _ from bs_data _, show (bs l).data.toList = l from bs_data l]
  simp
theorem head_bt (l : B) (h : l ≠ []) : ((bt (bs l) 0) == 47) = (l.head? == some 47) := by
  cases l with
  | nil => exact absurd rfl h
  | cons c l =>
    have := bt_bs (c :: l) 0 (by simp)
    rw [show ((0 : Nat) : Int) = 0 from rfl] at this
    rw [this]
    show (((c.toNat : Nat) : Int) == 47) = (some c == some 47)
    by_cases hc : c = 47
    · subst hc; rfl
    · rw [beq_eq_false_iff_ne.2 (fun e => hc ((u8_47 _).1 e)), beq_eq_false_iff_ne.2 (fun e => hc (Option.some.inj e))]
theorem last_bt (l : B) (h : l ≠ []) : ((bt (bs l) ((l.length - 1 : Nat) : Int)) == 47) = (l.getLast? == some 47) := by
  have hl : l.length ≠ 0 := fun e => h (List.eq_nil_of_length_eq_zero e)
  rw [bt_bs l (l.length - 1) (by omega), List.getLast?_eq_getElem?, List.getElem?_eq_getElem (by omega)]
  by_cases hc : l[l.length - 1] = 47
  · rw [hc]; rfl
  · rw [beq_eq_false_iff_ne.2 (fun e => hc ((u8_47 _).1 e)), beq_eq_false_iff_ne.2 (fun e => hc (Option.some.inj e))]
theorem rs_l0 (l : B) (hn : l.length ≤ 300) : ∀ (d k i : Nat) (out : List ByteArray) (part : B), i + d = l.length → (∀ c ∈ part, c ≠ 47) → (d = 0 → part = []) → part.length ≤ i → out.length ≤ i → d < k →
    flagstoneref01_Split.l0 k (bs l) out (bs part) (i : Int) = some (out ++ (names (part ++ l.drop i)).map bs, l.head? == some 47, l.getLast? == some 47) := by
  have hz : (bs l).size = l.length := bs_size l
  intro d
  induction d with
  | zero =>
    intro k i out part hi hc hp hpl hol hk
    obtain ⟨k, rfl⟩ : ∃ m, k = m + 1 := ⟨k - 1, by omega⟩
    rw [hp rfl, List.nil_append, List.drop_of_length_le (by omega), names_nil, List.map_nil, List.append_nil]
    simp only [flagstoneref01_Split.l0]
    rw [if_neg (by omega), bs_toList]
    by_cases hl : l = []
    · rw [if_pos hl, hl]; rfl
    · have hl0 : l.length ≠ 0 := fun e => hl (List.eq_nil_of_length_eq_zero e)
      have e1 : wrap64 (((bs l).size : Int) - 1) = ((l.length - 1 : Nat) : Int) := by unfold wrap64; omega
      rw [if_neg hl, if_pos (by omega), e1, if_pos (by omega), if_pos (by omega), head_bt l hl, last_bt l hl]
  | succ d ih =>
    intro k i out part hi hc hp hpl hol hk
    obtain ⟨k, rfl⟩ : ∃ m, k = m + 1 := ⟨k - 1, by omega⟩
    have hlt : i < l.length := by omega
    have e2 : wrap64 ((i : Int) + 1) = ((i + 1 : Nat) : Int) := by unfold wrap64; omega
    have e1 : wrap64 (((bs l).size : Int) - 1) = ((l.length - 1 : Nat) : Int) := by unfold wrap64; omega
    have hdr : l.drop i = l[i] :: l.drop (i + 1) := List.drop_eq_getElem_cons hlt
    have hb := bt_bs l i hlt
    have hc1 : (bs [l[i]]).size = 1 := bs_size _
    have hps := bs_size part
    simp only [flagstoneref01_Split.l0]
    rw [if_pos (by omega), if_pos (by omega), hb, e2, Int.toNat_natCast, Int.toNat_natCast, cut_bs l i hlt, hc1, bs_app, bs_toList, bs_toList]
    by_cases h47 : l[i] = 47
    · rw [if_pos ((u8_47 _).2 h47), hdr, h47]
      by_cases hpe : part = []
      · rw [if_pos hpe, hpe]
        have := ih k (i + 1) out [] (by omega) (fun c hc => by cases hc) (fun _ => rfl) (by simp) (by omega) (by omega)
        rw [this, List.nil_append, List.nil_append, names_slash]
      · rw [if_neg hpe, if_pos (by omega)]
        have := ih k (i + 1) (out ++ [bs part]) [] (by omega) (fun c hc => by cases hc) (fun _ => rfl) (by simp) (by simp; omega) (by omega)
        rw [show (⟨#[]⟩ : ByteArray) = bs [] from rfl, this, List.nil_append, names_split, names_one part hc hpe, List.map_append, List.append_assoc]; rfl
    · rw [if_neg (fun e => h47 ((u8_47 _).1 e)), if_pos (by omega), if_pos (by omega), if_pos (by omega), if_neg (by simp)]
      have hc' : ∀ c ∈ part ++ [l[i]], c ≠ 47 := by
        intro c h
        rcases List.mem_append.1 h with h | h
        · exact hc c h
        · simp at h; subst h; exact h47
      by_cases hend : (i : Int) = wrap64 (((bs l).size : Int) - 1)
      · rw [if_pos hend, if_pos (by omega)]
        have hd0 : i + 1 = l.length := by omega
        have := ih k (i + 1) (out ++ [bs (part ++ [l[i]])]) [] (by omega) (fun c hc => by cases hc) (fun _ => rfl) (by simp) (by simp; omega) (by omega)
        rw [show (⟨#[]⟩ : ByteArray) = bs [] from rfl, this, List.nil_append, hdr, List.drop_of_length_le (by omega), names_nil, names_one _ hc' (by simp)]
        simp
      · rw [if_neg hend]
        have := ih k (i + 1) out (part ++ [l[i]]) (by omega) hc' (fun h => absurd (show (i : Int) = wrap64 (((bs l).size : Int) - 1) by omega) hend) (by simp; omega) (by omega) (by omega)
        rw [this, hdr, List.append_assoc, List.singleton_append]
theorem refSplit (l : B) (hn : l.length ≤ 300) (k : Nat) (hk : 300 < k) : flagstoneref01_Split.f k (bs l) = some ((names l).map bs, l.head? == some 47, l.getLast? == some 47) := by
  have := rs_l0 l hn l.length k 0 [] [] (by omega) (fun c hc => by cases hc) (fun _ => rfl) (by simp) (by simp) (by omega)
  rw [List.nil_append, List.nil_append, List.drop_zero] at this
  exact this
theorem names_count (l : B) : (names l).length ≤ l.length + 1 := by
  have := namesL_len (bs l)
  rw [namesL_eq, List.length_map, show (bs l).data.toList = l from bs_data l, bs_size] at this
  exact this
theorem refBase (l : B) (hn : l.length ≤ 300) (k : Nat) (hk : 300 < k) : flagstoneref01_Base.f k (bs l) = some (bs (baseL l)) := by
  unfold flagstoneref01_Base.f baseL
  have hcnt := names_count l
  rw [refSplit l hn k hk, Option.bind_some, bs_toList]
  dsimp only
  by_cases hl : l = []
  · rw [if_pos hl, if_pos hl]; rfl
  · rw [if_neg hl, if_neg hl]
    by_cases h0 : names l = []
    · rw [h0, if_pos (show (((List.map bs ([] : List B)).length : Nat) : Int) = 0 from rfl)]; rfl
    · have h1 : (names l).length ≠ 0 := fun e => h0 (List.eq_nil_of_length_eq_zero e)
      obtain ⟨m, hm⟩ : ∃ m, ((names l).map bs).length = m + 1 := ⟨(names l).length - 1, by rw [List.length_map]; omega⟩
      have hm2 := hm
      rw [List.length_map] at hm2
      have e1 : wrap64 ((((names l).map bs).length : Int) - 1) = (m : Int) := by unfold wrap64; omega
      rw [if_neg (by omega), e1, if_pos (by omega), if_pos (by omega)]
      have hg : (names l).getLast? = (names l)[m]? := by
        rw [List.getLast?_eq_getElem?, show (names l).length - 1 = m by omega]
      have hg2 : (names l)[m]? = some ((names l)[m]'(by omega)) := List.getElem?_eq_getElem (by omega)
      rw [hg, hg2]
      unfold rdOf
      rw [Int.toNat_natCast, List.getD_eq_getElem?_getD, List.getElem?_map, hg2]; rfl
theorem bare_47 (l : B) : bareL (l ++ [47]) = bareL l := by
  unfold bareL Lib.trimRightB
  rw [List.reverse_append]
  rfl
theorem bare_c (l : B) (c : UInt8) (hc : c ≠ 47) : bareL (l ++ [c]) = l ++ [c] := by
  unfold bareL Lib.trimRightB
  rw [List.reverse_append, List.reverse_singleton, List.singleton_append, List.dropWhile_cons, if_neg (by simpa using hc), List.reverse_cons, List.reverse_reverse]
theorem snoc_cases (l : B) : l = [] ∨ ∃ l' c, l = l' ++ [c] := by
  rcases List.eq_nil_or_concat l with h | ⟨a, b, h⟩
  · exact .inl h
  · exact .inr ⟨a, b, by simpa using h⟩
theorem refBare_l0 : ∀ (n k : Nat) (l : B), l.length = n → n ≤ 300 → n < k → flagstoneref01_bare.l0 k (bs l) = some (bs (bareL l)) := by
  intro n
  induction n with
  | zero =>
    intro k l hl hn hk
    obtain ⟨k, rfl⟩ : ∃ m, k = m + 1 := ⟨k - 1, by omega⟩
    obtain rfl := List.eq_nil_of_length_eq_zero hl
    simp only [flagstoneref01_bare.l0]
    rw [bs_toList, if_pos rfl]; rfl
  | succ n ih =>
    intro k l hl hn hk
    obtain ⟨k, rfl⟩ : ∃ m, k = m + 1 := ⟨k - 1, by omega⟩
    have hz : (bs l).size = l.length := bs_size l
    rcases snoc_cases l with h | ⟨l', c, h⟩
    · subst h; simp at hl
    · have hl' : l'.length = n := by rw [h] at hl; simpa using hl
      have e1 : wrap64 (((bs l).size : Int) - 1) = ((n : Nat) : Int) := by unfold wrap64; omega
      have hne : l ≠ [] := by rw [h]; simp
      have hb := bt_bs l n (by omega)
      have hc : l[n]'(by omega) = c := by
        subst h
        rw [List.getElem_append_right (by omega)]
        simp [hl']
      rw [hc] at hb
      simp only [flagstoneref01_bare.l0]
      rw [bs_toList, if_neg hne, e1, if_pos (by omega), if_pos (by omega), hb, Int.toNat_natCast, take_bs]
      have htk : l.take n = l' := by rw [h, ← hl', List.take_left]
      by_cases h47 : c = 47
      · rw [if_pos ((u8_47 _).2 h47), if_pos (by omega), htk, ih k l' hl' (by omega) (by omega), h, h47, bare_47]
      · rw [if_neg (fun e => h47 ((u8_47 _).1 e)), h, bare_c l' c h47]
theorem refBare (l : B) (hn : l.length ≤ 300) (k : Nat) (hk : 300 < k) : flagstoneref01_bare.f k (bs l) = some (bs (bareL l)) := refBare_l0 l.length k l rfl hn (by omega)
theorem refDir_l0 (x0 : ByteArray) (a : B) (ha : a = [] ∨ ∃ a', a = a' ++ [47]) : ∀ (m k : Nat) (b : B), b.length = m → (a ++ b).length ≤ 300 → (∀ c ∈ b, c ≠ 47) → flagstoneref01_Dir.l0 (k + m + 1) x0 (bs (a ++ b)) = flagstoneref01_Dir.j1 k x0 (bs a) := by
  intro m
  induction m with
  | zero =>
    intro k b hb hn hc
    obtain rfl := List.eq_nil_of_length_eq_zero hb
    rw [List.append_nil] at hn ⊢
    show flagstoneref01_Dir.l0 (k + 1) x0 (bs a) = _
    simp only [flagstoneref01_Dir.l0]
    rw [bs_toList]
    rcases ha with ha | ⟨a', ha⟩
    · rw [if_pos ha]
    · have hz : (bs a).size = a'.length + 1 := by rw [bs_size, ha]; simp
      have hal : a.length = a'.length + 1 := by rw [ha]; simp
      have e1 : wrap64 (((bs a).size : Int) - 1) = ((a'.length : Nat) : Int) := by unfold wrap64; omega
      have hne : a ≠ [] := by rw [ha]; simp
      have hb := bt_bs a a'.length (by omega)
      have hc : a[a'.length]'(by omega) = 47 := by subst ha; simp
      rw [hc] at hb
      rw [if_neg hne, e1, if_pos (by omega), if_pos (by omega), hb, if_pos (show ((((47 : UInt8).toNat : Nat) : Int) = 47) from rfl)]
  | succ m ih =>
    intro k b hb hn hc
    rcases snoc_cases b with h | ⟨b', c, h⟩
    · subst h; simp at hb
    · have hb' : b'.length = m := by rw [h] at hb; simpa using hb
      have hall : a ++ b = (a ++ b') ++ [c] := by rw [h]; simp
      have hlen : (a ++ b).length = (a ++ b').length + 1 := by rw [hall, List.length_append]; rfl
      have hz : (bs (a ++ b)).size = (a ++ b').length + 1 := by rw [bs_size, hlen]
      have e1 : wrap64 (((bs (a ++ b)).size : Int) - 1) = (((a ++ b').length : Nat) : Int) := by unfold wrap64; omega
      have hne : a ++ b ≠ [] := by rw [hall]; simp
      have hbt := bt_bs (a ++ b) (a ++ b').length (by omega)
      have hcc : (a ++ b)[(a ++ b').length]'(by omega) = c := by
        have : (a ++ b)[(a ++ b').length]? = some c := by rw [hall]; simp
        rw [List.getElem?_eq_getElem (by omega)] at this
        exact Option.some.inj this
      rw [hcc] at hbt
      have hcne : c ≠ 47 := hc c (by rw [h]; simp)
      show flagstoneref01_Dir.l0 ((k + m + 1) + 1) x0 (bs (a ++ b)) = _
      simp only [flagstoneref01_Dir.l0]
      rw [bs_toList, if_neg hne, e1, if_pos (by omega), if_pos (by omega), hbt, if_neg (fun e => hcne ((u8_47 _).1 e)), if_pos (by omega), Int.toNat_natCast, take_bs]
      have htk : (a ++ b).take (a ++ b').length = a ++ b' := by rw [hall, List.take_left]
      rw [htk]
      exact ih k b' hb' (by omega) (fun x hx => hc x (by rw [h]; simp [hx]))
theorem refDir_j1 (l a : B) (hl : l ≠ []) (hn : a.length ≤ 300) (k : Nat) (hk : 300 < k) : flagstoneref01_Dir.j1 (k + 1) (bs l) (bs a) = some (orB (bs l) (bs (bareL a))) := by
  have hz : (bs l).size = l.length := bs_size l
  have hl0 : l.length ≠ 0 := fun e => hl (List.eq_nil_of_length_eq_zero e)
  have hs := bs_size (bareL a)
  obtain ⟨k', rfl⟩ : ∃ m, k = m + 1 := ⟨k - 1, by omega⟩
  unfold orB
  rw [hasPrefix_one, show (bs l).data.toList = l from bs_data l]
  simp only [flagstoneref01_Dir.j1]
  rw [refBare a hn _ hk, Option.bind_some, bs_toList]
  by_cases hb : bareL a = []
  · rw [if_pos hb, if_pos (by omega), head_bt l hl, hb]
    simp only [flagstoneref01_Dir.j2]
    rw [if_neg (show ¬ (bs []).size ≠ 0 from fun h => h rfl), bs_toList]
    by_cases hc : (l.head? == some 47) = true
    · rw [if_pos hc, if_pos hc]
    · rw [if_neg hc, if_neg hc, if_pos rfl]
  · have : (bs (bareL a)).size ≠ 0 := by rw [hs]; exact fun e => hb (List.eq_nil_of_length_eq_zero e)
    rw [if_neg hb, if_pos this]
    simp only [flagstoneref01_Dir.j2]
    rw [if_neg Bool.false_ne_true, bs_toList, if_neg hb]
theorem refDir (l : B) (hn : l.length ≤ 300) : flagstoneref01_Dir.f 1000 (bs l) = some (dirB (bs l)) := by
  have hbl := bareB_size (bs l)
  rw [show (bs l).data.toList = l from bs_data l, bs_size] at hbl
  unfold flagstoneref01_Dir.f
  rw [bs_toList]
  by_cases hl : l = []
  · rw [if_pos hl, hl]; exact congrArg some (by decide +kernel)
  · rw [if_neg hl, refBare l hn _ (by omega), Option.bind_some, bs_toList]
    obtain ⟨a, b, h1, h2, h3, h4, h5, h6⟩ := base_split l
    have hd : dirB (bs l) = orB (bs l) (bs (bareL a)) := by
      have e9 : bareB (bs l) = bs (bareL l) := by rw [bareB_eq, show (bs l).data.toList = l from bs_data l]
      unfold dirB
      rw [e9, h4, take_bs, h1, List.take_left, bareB_eq, show (bs a).data.toList = a from bs_data a]
    rw [hd]
    by_cases hq : bareL l = []
    · rw [if_pos hq]
      have ha : a = [] := by rw [hq] at h1; cases a with | nil => rfl | cons x y => simp at h1
      have hh := bare_empty l hq hl
      rw [ha]
      unfold orB
      rw [if_neg (fun h => h rfl), hasPrefix_one, show (bs l).data.toList = l from bs_data l, hh]; rfl
    · rw [if_neg hq, h1]
      have hab : (a ++ b).length ≤ 300 := by rw [← h1]; omega
      have hlen : a.length + b.length ≤ 300 := by rw [List.length_append] at hab; exact hab
      have h9 := refDir_l0 (bs l) a h3 b.length (999 - b.length) b rfl hab h2
      rw [show 999 - b.length + b.length + 1 = 1000 by omega] at h9
      rw [h9]
      have h10 := refDir_j1 l a hl (by omega) (998 - b.length) (by omega)
      rw [show 998 - b.length + 1 = 999 - b.length by omega] at h10
      exact h10
theorem refJoin (a b : B) (ha : a.length ≤ 300) (hb : b.length ≤ 300) (k : Nat) : flagstoneref01_Join.f (k + 1) (bs a) (bs b) = some (joinB (bs a) (bs b)) := by
  have za : (bs a).size = a.length := bs_size a
  have zb : (bs b).size = b.length := bs_size b
  rw [joinB_eq, show (bs a).data.toList = a from bs_data a, show (bs b).data.toList = b from bs_data b]
  unfold flagstoneref01_Join.f joinL
  rw [bs_toList, bs_toList]
  by_cases h1 : a = []
  · rw [if_pos h1, if_pos h1]
    simp only [flagstoneref01_Join.j0]
    rw [if_pos trivial]
  · have ha0 : a.length ≠ 0 := fun e => h1 (List.eq_nil_of_length_eq_zero e)
    rw [if_neg h1, if_neg h1]
    by_cases h3 : b = []
    · rw [if_pos h3, if_neg (by rw [h3]; simp), if_pos h3]
      simp only [flagstoneref01_Join.j0]
      rw [if_neg Bool.false_ne_true, bs_toList, if_pos h3]
    · have hb0 : b.length ≠ 0 := fun e => h3 (List.eq_nil_of_length_eq_zero e)
      rw [if_neg h3, if_pos (by omega), head_bt b h3, if_neg h3]
      simp only [flagstoneref01_Join.j0]
      by_cases h2 : b.head? = some 47
      · rw [if_pos (by rw [h2]; rfl), if_pos h2]
      · have e1 : wrap64 (((bs a).size : Int) - 1) = ((a.length - 1 : Nat) : Int) := by unfold wrap64; omega
        have hbt := bt_bs a (a.length - 1) (by omega)
        rw [if_neg (by simpa using h2), bs_toList, if_neg h3, if_neg h2, e1, if_pos (by omega), if_pos (by omega), hbt]
        rcases trimSuffix_one a with ⟨a', h4, h5⟩ | ⟨h4, h5⟩
        · have hc : a[a.length - 1]'(by omega) = 47 := by subst h4; simp
          rw [hc, if_pos (show ((((47 : UInt8).toNat : Nat) : Int) = 47) from rfl), if_pos (by omega), h5, bs_app, ← h4]
        · have hc : a[a.length - 1]'(by omega) ≠ 47 := by
            intro e
            apply h4
            rw [List.getLast?_eq_getElem?, List.getElem?_eq_getElem (by omega), e]
          have h47 : (bs a ++ (⟨#[47]⟩ : ByteArray)).size = a.length + 1 := by rw [show (⟨#[47]⟩ : ByteArray) = bs [47] from rfl, bs_app, bs_size]; simp
          rw [if_neg (fun e => hc ((u8_47 _).1 e)), if_pos (by omega), if_pos (by omega), h5, show (⟨#[47]⟩ : ByteArray) = bs [47] from rfl, bs_app, bs_app]
theorem RouteNames : flagstonelaw01_RouteNames.Pure := by
  intro a0 a1 hs1 hs2
  refine ⟨1001, ?_⟩
  unfold flagstonelaw01_RouteNames.f
  have big : flagstonelaw01_RouteNames.j0 1001 a0 a1 true = some true := by
    simp only [flagstonelaw01_RouteNames.j0]
    rw [if_pos trivial, shown_true]; rfl
  by_cases h : (a0.size : Int) > 300
  · rw [if_pos h, big]
  · rw [if_neg h]
    by_cases h' : (a1.size : Int) > 300
    · rw [if_pos h', big]
    · rw [if_neg h', shown_true, Option.bind_some, Bool.not_true]
      clear big
      simp only [flagstonelaw01_RouteNames.j0]
      have z0 : a0.data.toList.length = a0.size := by simp
      have z1 : a1.data.toList.length = a1.size := by simp
      have r1 := refBase a0.data.toList (by omega) 1000 (by omega)
      have r2 := refDir a0.data.toList (by omega)
      have r3 := refJoin a0.data.toList a1.data.toList (by omega) (by omega) 999
      rw [show bs a0.data.toList = a0 from bs_of a0] at r1 r2 r3
      rw [show bs a1.data.toList = a1 from bs_of a1] at r3
      rw [if_neg Bool.false_ne_true, base_f a0 (by omega), Option.bind_some, r1, Option.bind_some, if_pos rfl, dir_f a0 (by omega), Option.bind_some, r2, Option.bind_some, if_pos rfl, join_f a0 a1 (by omega) (by omega), Option.bind_some, r3, Option.bind_some, beq_self_eq_true]
end Go.Proofs.YtmjhlddlhicofaaDoor.Pure
