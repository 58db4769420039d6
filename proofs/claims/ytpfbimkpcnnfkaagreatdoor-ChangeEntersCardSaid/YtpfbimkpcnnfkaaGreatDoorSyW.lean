/- By Sx: how a law opens; sizes of what changes make. -/
import Derived.Test.YtpfbimkpcnnfkaaGreatDoorSyU
import Derived.Test.YtpfbimkpcnnfkaaGreatDoorSzB
set_option maxRecDepth 100000
set_option linter.unusedVariables false
set_option linter.unusedSimpArgs false
namespace Go.Proofs.YtpfbimkpcnnfkaaGreatDoor.Sx
open Go Go.RowKit Go.Proofs.YtpfbimkpcnnfkaaGreatDoor Go.Proofs.YtpfbimkpcnnfkaaGreatDoor.Ext
theorem cT_self {x : Int} : cmpI .eql x x = true := by rw [cT_eql]
theorem hold_open {u0 u : Mem} {Ag : Nat → List Value → List (List Value) → Mem → Prop} {bk : Nat → Nat} {x0 : Bool} {id n : Nat} {xs : List (SV S.ty)} {l : List ByteArray} {X Z : Cells S.ty (RT.ks [(false, [.b])]) → CellsL S.ty [] → Cells S.ty (RT.ks [(false, [.b])]) → CellsL S.ty [] → Tree S.ty} {Y : Tree S.ty} {s : Addr} (hg : EgM u) (hs : EsM s u)
  (hn : l.length = n) (hl : n ≤ 10) (hxs : ∀ bk, denL bk xs = l.map .string)
  (hX : x0 = true → shortB l = true → ∀ b x2 u', u.le u' → Hold Tryz.prog u0 (fun v cs _ => cs = [] ∧ v = .bool true) (X (true, ()) () x2 ()) (upd bk id b) u' Ag) :
  Hold Tryz.prog u0 (fun v cs _ => cs = [] ∧ v = .bool true) (.test (.not (.not (.at x0)))
   (.new id <| .test (.not (.not (.at x0)))
    (.call (.b true) true 11 [.os id 0 n n] [] [(id, xs)] [(false, [.b])] [] fun x1 y1 =>
     .call (.not (.ite (.not (.at x0)) (.b true) (.not (.at x1.1)))) true 12 [] [] [] [(false, [.b])] [] fun x2 y2 =>
     .test (.ite (.ite (.not (.at x0)) (.b true) (.not (.at x1.1))) (.b true) (.not (.at x2.1)))
     (.call (.b true) true 12 [] [] [] [(false, [.b])] [] fun x3 y3 => .ret (.b (.at x3.1)) [] []) (X x1 y1 x2 y2)) Y)
   (.call (.not (.not (.at x0))) true 11 [.s .anil (.n 0) (.n 0)] [] [] [(false, [.b])] [] fun x1 y1 =>
     .call (.not (.ite (.not (.at x0)) (.b true) (.not (.at x1.1)))) true 12 [] [] [] [(false, [.b])] [] fun x2 y2 =>
     .test (.ite (.ite (.not (.at x0)) (.b true) (.not (.at x1.1))) (.b true) (.not (.at x2.1)))
     (.call (.b true) true 12 [] [] [] [(false, [.b])] [] fun x3 y3 => .ret (.b (.at x3.1)) [] []) (Z x1 y1 x2 y2))) bk u Ag := by
 cases x0 with
 | false =>
  refine ⟨fun h => (by cases h), fun _ => ⟨fun h => (by cases h), fun _ => ⟨fun h => (by cases h), fun _ => ⟨fun _ => ?_, fun h => (by cases h)⟩⟩⟩⟩
  exact hold_call ((shown.cv u hg s hs).mono fun v cs u3 hu3 ⟨hc, hv⟩ => ⟨(true, ()), (), hv, hc, rfl, rfl⟩)
 | true =>
  refine ⟨fun _ b hb => ⟨fun _ => ⟨fun _ u1 hu1 hw => ?_, fun h => (by cases h)⟩, fun h => (by cases h)⟩, fun h => (by cases h)⟩
  have hw := hw _ (List.mem_singleton.2 rfl)
  have hup : upd bk id b id = b := by unfold upd; rw [if_pos rfl]
  simp only [hup, hxs] at hw
  have hst : StrsAt u1 (some ⟨b, 0, none⟩) l := fun i x hx => ⟨b, 0, rfl, fun j v hj => by
   have hj0 : j = 0 := by have := (List.getElem?_eq_some_iff.1 hj).1; simp only [List.length_cons, List.length_nil] at this; omega
   subst hj0
   simp only [List.getElem?_cons_zero, Option.some.injEq] at hj
   subst hj
   rw [show 0 + i + 0 = i by omega]
   exact hw i _ (by rw [List.getElem?_map, hx]; rfl)⟩
  have hsh := lshort.cv (some ⟨b, 0, none⟩) n u1 l hst (by omega)
  have hargs : denL (upd bk id b) [.os id 0 n n] = [.slice (some ⟨b, 0, none⟩) l.length n] := by simp only [denL, SV.den, hup, hn]
  show CC _ _ (denL (upd bk id b) [.os id 0 n n]) true [] u0 u1 _
  rw [hargs]
  refine CV.mono hsh fun v cs u2 hu2 ⟨hc, hv⟩ => ⟨(shortB l, ()), (), hv, hc, ?_⟩
  have hu02 := Mem.le_trans hu1 hu2
  refine hold_callg (fun xs _ u3 => u.le u3 ∧ (shortB l = true → xs.1 = true)) (fun _ => (shown.cv u2 (hg.mono hu02) s (hs.mono hu02)).mono fun v cs u3 hu3 ⟨hc, hv⟩ => ⟨(true, ()), (), hv, hc, Mem.le_trans hu02 hu3, fun _ => rfl⟩) (fun hh => ⟨hu02, fun h => ?_⟩) ?_
  ·have hh : (!bif !true then true else !shortB l) = false := hh
   rw [h] at hh; cases hh
  rintro ⟨x2, _⟩ _ u3 ⟨hu3, hx⟩
  refine ⟨fun h => ?_, fun h => ?_⟩
  ·exact hold_call ((shown.cv u3 (hg.mono hu3) s (hs.mono hu3)).mono fun v cs u4 hu4 ⟨hc, hv⟩ => ⟨(true, ()), (), hv, hc, rfl, rfl⟩)
  ·have h : (bif bif !true then true else !shortB l then true else !x2) = false := h
   cases hsb : shortB l with
   | false => rw [hsb] at h; cases h
   | true =>
    exact hX rfl hsb b (x2, ()) u3 hu3
theorem short_two {a b : ByteArray} (h : shortB [a, b] = true) : a.size ≤ 200 ∧ b.size ≤ 200 := by simpa [shortB] using h
def NsL (k : Nat) (ns : List Nd) : Prop := ns.length ≤ 60000 ∧ ∀ n ∈ ns, n.f7.length ≤ k
theorem Ok8.nsl {ns : List Nd} (h : Ok8 ns) : NsL 100000 ns := ⟨by have := h.len; omega, fun n hn => (h.ris n hn).len⟩
theorem NsL.up {k k' : Nat} {ns : List Nd} (h : NsL k ns) (hk : k ≤ k') : NsL k' ns := ⟨h.1, fun n hn => Nat.le_trans (h.2 n hn) hk⟩
theorem NsL.get {k : Nat} {ns : List Nd} (h : NsL k ns) (i : Int) : (getL ns i).f7.length ≤ k := by
 rcases getL_cases ns i with e | e
 ·rw [e]; exact Nat.zero_le _
 ·exact h.2 _ e
theorem NsL.set {k : Nat} {ns : List Nd} (h : NsL k ns) (i : Int) {n : Nd} (hn : n.f7.length ≤ k) : NsL k (setL ns i n) := by
 refine ⟨by rw [setL_len]; exact h.1, ?_⟩
 unfold setL
 split
 ·intro x hx
  rcases List.mem_or_eq_of_mem_set hx with hx | rfl
  ·exact h.2 x hx
  ·exact hn
 ·exact h.2
theorem putF_len (l : List En) (e : En) : (putF l e).length ≤ l.length + 1 := by
 unfold putF
 rw [List.length_append, List.length_append]
 have h1 : (l.filter fun x => decide (ord x e.f0 < 0)).length + (l.filter fun x => decide (0 < ord x e.f0)).length ≤ l.length := by
  induction l with
  | nil => simp
  | cons a l ih =>
   simp only [List.filter_cons]
   split <;> split <;> simp only [List.length_cons] <;> first | omega | (rename_i h1 h2; simp at h1 h2; omega)
 simp only [List.length_cons, List.length_nil]; omega
theorem NsL.put {k : Nat} {ns : List Nd} (h : NsL k ns) (s : Sp) (ino : Int) : NsL (k + 1) (putN ns s ino) := (h.up (Nat.le_succ k)).set _ (Nat.le_trans (putF_len _ _) (Nat.succ_le_succ (h.get _)))
theorem NsL.drop {k : Nat} {ns : List Nd} (h : NsL k ns) (s : Sp) : NsL k (dropN ns s) := h.set _ (Nat.le_trans (List.length_filter_le _ _) (h.get _))
theorem NsL.turn {k : Nat} {ns : List Nd} (h : NsL k ns) (i : Int) {f : Nd → Nd} (hf : ∀ n, (f n).f7 = n.f7) : NsL k (turnF ns i f) := h.set _ (by rw [hf]; exact h.get _)
theorem NsL.lose {k : Nat} {ns : List Nd} (h : NsL k ns) (s : Sp) : NsL k (loseN ns s) := by
 unfold loseN settleF
 have h1 := (h.drop s).turn s.f2 (f := nLess) fun _ => rfl
 split
 ·exact h1.set _ (Nat.zero_le _)
 ·exact h1
theorem NsL.renAt {k : Nat} {ns : List Nd} (h : NsL k ns) (s t : Sp) : NsL (k + 1) (renAt ns s t) := by
 have h1 := h.drop s
 have h2 : NsL k (if 0 ≤ t.f2 then loseN (dropN ns s) t else dropN ns s) := by
  split
  ·exact h1.lose t
  ·exact h1
 have h3 := h2.put t s.f2
 unfold Sx.renAt
 simp only
 split
 ·exact h3.turn _ (f := nUp t.f0) fun _ => rfl
 ·exact h3
theorem its_same {k : Nat} (hk : k ≤ 1000000) (A : Option Addr) (c : Nat) (ns : List Nd) (m r : Int) (u : Mem) (hd : DiskAt u A ns) (h : NsL k ns) :
  CV Tryz.prog 15 [.agg #[.slice A ns.length c, .int .i64 m, .int .i64 r]] [] u fun v cs u' => cs = [] ∧ ∃ A' c', v = .agg #[.slice A' ns.length c', .int .i64 m, .int .i64 r] ∧ DiskAt u' A' ns :=
 lits.cv A c ns m r u hd (by have := h.1; omega) fun n hn => Nat.le_trans (h.2 n hn) hk
theorem same_self {k : Nat} (hk : k ≤ 1000000) (A B : Option Addr) (c d : Nat) (ns : List Nd) (m r : Int) (u : Mem) (ha : DiskAt u A ns) (hb : DiskAt u B ns) (h : NsL k ns) :
  CV Tryz.prog 17 [.agg #[.slice A ns.length c, .int .i64 m, .int .i64 r], .agg #[.slice B ns.length d, .int .i64 m, .int .i64 r]] [] u fun v cs _ => cs = [] ∧ v = .bool true := by
 have := rsame.cv A c ns m r u B d ns ha hb (by have := h.1; omega) (fun n hn => Nat.le_trans (h.2 n hn) hk)
 rwa [decide_eq_true rfl] at this
end Go.Proofs.YtpfbimkpcnnfkaaGreatDoor.Sx
