/- The walker: a hop along a symbolic link. -/
import Derived.Test.YthagmakojbfmaaaDoorPs
import Derived.Test.YthagmakojbfmaaaDoorExtR
set_option linter.unusedVariables false
set_option linter.unusedSimpArgs false
namespace Go.Proofs.YthagmakojbfmaaaDoor.Ext
open Go Go.RowKit Go.Proofs.YthagmakojbfmaaaDoor Go.Proofs.YthagmakojbfmaaaDoorW.PrintWords
def BadR (bk : Nat) (no : Int) (w : World) (e : Ending) (w' : World) : Prop := Gro (fun x => x = bk) w w' ∧ ∃ p, e = .returned (.iface 66 (.pointer (some ⟨p, 0, none⟩))) ∧ Box w' p #[.int .i64 no]
def GoR (bk : Nat) (k : Wk) (ps : List ByteArray) (A : Option Addr) (c n : Nat) (m r : Int) (w : World) (e : Ending) (w' : World) : Prop :=
 Gro (fun x => x = bk) w w' ∧ e = .returned .nilIface ∧ ∃ v, Wb w' bk { k with parts := v } A c n m r ∧ Ps w' bk v ps
def rootB (p : ByteArray) : Bool := Lib.hasPrefix p.data.toList [47]
attribute [local go_sem] isRow_drew row_drew isRow_drewN row_drewN cell_isRow rowSz_isRow isHead_ptr blockOf_ptr row_alloc isRow_alloc rowSz_alloc setRow_alloc isRow_setRow isRow_setCell isRow_frozen setCell_setRow_same setCell_setRow_other cell_setRow_same' cell_setRow_other' frozen_setRow' row_setRow_same row_setRow_other rowSz_setRow_same rowSz_setRow_other setRow_setRow_same' setRow_comm' ne_l2 ne_r2 ne_l3 ne_r3 ne_l4 ne_r4 ne_l5 ne_r5 ne_l6 ne_r6 ne_l7 ne_r7 ne_l8 ne_r8 wk_len row_setCell_same
attribute [local go_sem ↓] Go.wp_at_zero Go.wp_at_succ
set_option maxRecDepth 100000 in
set_option maxHeartbeats 4000000 in
theorem hop_loop (k : Wk) (A : Option Addr) (c n : Nat) (m r : Int) (bk : Nat) (w : World) (text : ByteArray) (v : Value) (hk : Wb w bk k A c n m r) (h8 : k.hops = 8) :
  Calls Tryd.prog 57 #[.pointer (some ⟨bk, 0, none⟩), .string text, v] w (BadR bk 8 w) := by
 have i1 := hk.box.isRow
 have r1 := hk.box.row
 have hw := wk_eq
 clear hk
 go_enter Tryd.func57, Tryd.ntmps57
 go_wp2_with fail
 go_ret
 exact ⟨(Gro.refl _ w).alloc _, _, rfl, ⟨_, blk_new _ rfl⟩⟩
set_option maxRecDepth 100000 in
set_option maxHeartbeats 4000000 in
theorem hop_bad (k : Wk) (A : Option Addr) (c n : Nat) (m r : Int) (bk : Nat) (w : World) (text : ByteArray) (v : Value) (hk : Wb w bk k A c n m r) (h8 : ¬ k.hops = 8) (ht : text.size ≤ 1000000000000) (hc : ¬ checkB text = 0) :
  Calls Tryd.prog 57 #[.pointer (some ⟨bk, 0, none⟩), .string text, v] w (BadR bk (checkB text) w) := by
 have i1 := hk.box.isRow
 have r1 := hk.box.row
 have hw := wk_eq
 have HC := Lib.hid hc
 clear hk hc
 go_enter Tryd.func57, Tryd.ntmps57
 go_wp2_with fail
 refine (check_in text ht w).mono ?_
 rintro e w1 ⟨rfl, hb1⟩
 have HB := Lib.hid hb1
 clear hb1 i1 r1
 go_wp2_with fail
 refine (halted_calls (checkB text) w1).mono ?_
 rintro e w2 h
 rw [if_neg HC.out] at h
 obtain ⟨rfl, rfl⟩ := h
 unfold haltV haltW
 go_wp2_with fail
 go_ret
 exact ⟨(Gro.of_below HB.out).alloc _, _, rfl, ⟨_, blk_new _ rfl⟩⟩
theorem names_len (p : ByteArray) : (namesL p).length ≤ p.size + 1 := by
 have := parts_length p (partsL p) (List.prefix_refl _)
 unfold namesL
 simpa using this
def Wk.hopped (k : Wk) (root : Bool) (ps : List ByteArray) : Wk :=
 if ps = [] then Wk.ended { k with hops := k.hops + 1, at_ := if root = true then 0 else k.at_ } ⟨0, ⟨#[]⟩, 0, k.slash⟩ else { k with hops := k.hops + 1, at_ := if root = true then 0 else k.at_ }
set_option maxRecDepth 100000 in
set_option maxHeartbeats 4000000 in
theorem hop_root0 (k : Wk) (A : Option Addr) (c n : Nat) (m r : Int) (bk : Nat) (w : World) (text : ByteArray) (rest ps : List ByteArray) (ad : Addr) (cr : Nat) (hk : Wb w bk k A c n m r) (hrest : rStr.Is w (But w bk) ⟨some ad, cr⟩ rest) (hl : rest.length ≤ 100000) (h8 : ¬ k.hops = 8) (hh : 0 ≤ k.hops ∧ k.hops ≤ 8) (ht : text.size ≤ 1000) (hc : checkB text = 0) (hps : ps = namesL text ++ rest) (hr : rootB text = true) (hz : ps = []) :
  Calls Tryd.prog 57 #[.pointer (some ⟨bk, 0, none⟩), .string text, .slice (some ad) rest.length cr] w (GoR bk (k.hopped true ps) ps A c n m r w) := by
 obtain ⟨hh0, hh1⟩ := hh
 have q1 : wrap64 (k.hops + 1) = k.hops + 1 := by unfold wrap64; omega
 have q2 : IntKind.i64.wrap (k.hops + 1) = k.hops + 1 := by rw [IntKind.wrap_i64] <;> omega
 have i1 := hk.box.isRow
 have r1 := hk.box.row
 have hw := wk_eq
 have HK := Lib.hid (And.intro hk hrest)
 have HC := Lib.hid (And.intro hc (And.intro ht (And.intro hl hps)))
 have HR0 := Lib.hid (And.intro hr hz)
 have hzl : ps.length = 0 := by rw [hz]; rfl
 have ht' : text.size ≤ 1000000000000 := by omega
 have hr' : Lib.hasPrefix text.data.toList [47] = true := hr
 clear hk hrest hc hl hps hh0 hh1 hr hz
 go_enter Tryd.func57, Tryd.ntmps57
 go_wp2_with fail
 refine (check_in text ht' w).mono ?_
 rintro e w1 ⟨rfl, hb1⟩
 rw [HC.out.1]
 have HB := Lib.hid (And.intro hb1 (HK.out.1.step hb1))
 clear hb1 i1 r1
 go_wp2_with fail
 refine (halted_calls 0 w1).mono ?_
 rintro e w2 h
 rw [if_pos rfl] at h
 obtain ⟨rfl, rfl⟩ := h
 have i1 := HB.out.2.box.isRow
 have r1 := HB.out.2.box.row
 go_wp2_with fail
 refine Calls.at_ fun W hW => ?_
 have hset : Wb W bk { k with hops := k.hops + 1 } A c n m r := by rw [hW]; exact Wb.set HB.out.2 8 _ rfl
 have G1 : Gro (fun x => x = bk) w W := by rw [hW]; exact Gro.setCell (B := fun x => x = bk) (Gro.of_below HB.out.1) (p := ⟨bk, 8, none⟩) (.inl rfl) _
 clear hW i1 r1
 refine (split_in text ht' W).mono ?_
 rintro e w3 ⟨v0, rfl, ho, hb3⟩
 have hbk : bk < W.heap.size := hset.lt
 have h3 := hset.step hb3
 have HO := Lib.hid (names_own ho)
 have hno : ∀ x, v0.ownBlock = some x → W.heap.size ≤ x := fun x hx => (ho.lt x hx).1
 have G3 : Gro (fun x => x = bk) w w3 := Gro.trans G1 (Gro.of_below hb3)
 have HR := Lib.hid ((HK.out.2.move fun x hx => G3.block x hx.1 hx.2).weak (S' := But w3 bk) fun x hx => ⟨Nat.lt_of_lt_of_le hx.1 G3.size, hx.2⟩)
 have H3 := Lib.hid (And.intro h3 (And.intro G3 (And.intro hbk (And.intro hno (And.intro hb3.size G1.size)))))
 have i1 := h3.box.isRow
 have r1 := h3.box.row
 clear ho hset G1 h3 G3 hbk hno hb3
 have HO2 := Lib.hid (owns_move (w1 := w3.setCell ⟨bk, 4, none⟩ (.int .i64 0)) HO.out fun x hx => Below.heap_setCell _ _ _ x (by have := H3.out.2.2.2.1 x hx; have := H3.out.2.2.1; simp only; omega))
 have HR2 := Lib.hid (HR.out.move (w1 := w3.setCell ⟨bk, 4, none⟩ (.int .i64 0)) fun x hx => Below.heap_setCell _ _ _ x hx.2)
 have H4 := Lib.hid (And.intro (Wb.set (k' := { k with hops := k.hops + 1, at_ := 0 }) H3.out.1 4 (.int .i64 0) rfl) (Gro.setCell (B := fun x => x = bk) H3.out.2.1 (p := ⟨bk, 4, none⟩) (.inl rfl) (.int .i64 0)))
 go_wp2_with (at_builtin; refine wpList_hopapp rfl _ _ rfl W.heap.size (namesL text) rest ps v0 ad cr HC.out.2.2.2 rfl rfl HO2.out HR2.out (by have := H3.out.2.2.2.2.1; simpa [World.setCell] using this) (by have := names_len text; have := HC.out.2.1; omega) HC.out.2.2.1 ?_; intro A' c' w4 hown4 hg4; have N4 : v0.ownBlock ≠ some bk := (fun h => by have := H3.out.2.2.2.1 _ h; have := H3.out.2.2.1; omega); have K4 := hg4.block bk (by have := H4.out.1.lt; exact this) (fun h => N4 h.symm); have i4 : isRow w4 bk = true := isRow_of (K4.trans H4.out.1); have r4 := row_of (K4.trans H4.out.1); have K5 := Lib.hid (show Wb w4 bk { k with hops := k.hops + 1, at_ := 0 } A c n m r from K4.trans H4.out.1); have G4 := Lib.hid (Gro.below H4.out.2 ((Below.refl W.heap.size (w3.setCell ⟨bk, 4, none⟩ (.int .i64 0))).grown hg4 (by have := H3.out.2.2.2.2.1; simpa [World.setCell] using this) H3.out.2.2.2.1) H3.out.2.2.2.2.2); have P4 := Lib.hid (Ps.of_own hown4 H3.out.2.2.1); clear hown4 hg4 N4 K4)
 refine Calls.at_ fun W5 hW5 => ?_
 have h5 : Wb W5 bk { { k with hops := k.hops + 1, at_ := 0 } with parts := .slice A' 0 c' } A c n m r := by rw [hW5]; exact Wb.set K5.out 5 _ rfl
 have g5 : Gro (fun x => x = bk) w4 W5 := by rw [hW5]; exact Gro.setCell (B := fun x => x = bk) (Gro.refl _ _) (p := ⟨bk, 5, none⟩) (.inl rfl) _
 clear hW5
 have H5 := Lib.hid (And.intro h5 g5)
 clear h5 g5 i4 r4
 refine (end2_calls { { k with hops := k.hops + 1, at_ := 0 } with parts := .slice A' 0 c' } A c n m r bk ⟨0, ⟨#[]⟩, 0, k.slash⟩ W5 H5.out.1).mono ?_
 rintro e w6 ⟨rfl, h6, g6⟩
 have H6 := Lib.hid (And.intro h6 g6)
 clear h6 g6
 go_wp2_with fail
 go_ret
 refine ⟨Gro.trans G4.out (Gro.trans H5.out.2 H6.out.2), rfl, .slice A' ps.length c', ?_, Ps.gro (Ps.gro P4.out H5.out.2) H6.out.2⟩
 have h := H6.out.1
 unfold Wk.hopped
 simp only [if_pos HR0.out.2, if_true]
 rw [hzl]
 exact h
set_option maxRecDepth 100000 in
set_option maxHeartbeats 4000000 in
theorem hop_root1 (k : Wk) (A : Option Addr) (c n : Nat) (m r : Int) (bk : Nat) (w : World) (text : ByteArray) (rest ps : List ByteArray) (ad : Addr) (cr : Nat) (hk : Wb w bk k A c n m r) (hrest : rStr.Is w (But w bk) ⟨some ad, cr⟩ rest) (hl : rest.length ≤ 100000) (h8 : ¬ k.hops = 8) (hh : 0 ≤ k.hops ∧ k.hops ≤ 8) (ht : text.size ≤ 1000) (hc : checkB text = 0) (hps : ps = namesL text ++ rest) (hr : rootB text = true) (hz : ¬ ps = []) :
  Calls Tryd.prog 57 #[.pointer (some ⟨bk, 0, none⟩), .string text, .slice (some ad) rest.length cr] w (GoR bk (k.hopped true ps) ps A c n m r w) := by
 obtain ⟨hh0, hh1⟩ := hh
 have q1 : wrap64 (k.hops + 1) = k.hops + 1 := by unfold wrap64; omega
 have q2 : IntKind.i64.wrap (k.hops + 1) = k.hops + 1 := by rw [IntKind.wrap_i64] <;> omega
 have i1 := hk.box.isRow
 have r1 := hk.box.row
 have hw := wk_eq
 have HK := Lib.hid (And.intro hk hrest)
 have HC := Lib.hid (And.intro hc (And.intro ht (And.intro hl hps)))
 have HR0 := Lib.hid (And.intro hr hz)
 have hzl : ¬ ps.length = 0 := by intro h; exact hz (List.eq_nil_of_length_eq_zero h)
 have ht' : text.size ≤ 1000000000000 := by omega
 have hr' : Lib.hasPrefix text.data.toList [47] = true := hr
 clear hk hrest hc hl hps hh0 hh1 hr hz
 go_enter Tryd.func57, Tryd.ntmps57
 go_wp2_with fail
 refine (check_in text ht' w).mono ?_
 rintro e w1 ⟨rfl, hb1⟩
 rw [HC.out.1]
 have HB := Lib.hid (And.intro hb1 (HK.out.1.step hb1))
 clear hb1 i1 r1
 go_wp2_with fail
 refine (halted_calls 0 w1).mono ?_
 rintro e w2 h
 rw [if_pos rfl] at h
 obtain ⟨rfl, rfl⟩ := h
 have i1 := HB.out.2.box.isRow
 have r1 := HB.out.2.box.row
 go_wp2_with fail
 refine Calls.at_ fun W hW => ?_
 have hset : Wb W bk { k with hops := k.hops + 1 } A c n m r := by rw [hW]; exact Wb.set HB.out.2 8 _ rfl
 have G1 : Gro (fun x => x = bk) w W := by rw [hW]; exact Gro.setCell (B := fun x => x = bk) (Gro.of_below HB.out.1) (p := ⟨bk, 8, none⟩) (.inl rfl) _
 clear hW i1 r1
 refine (split_in text ht' W).mono ?_
 rintro e w3 ⟨v0, rfl, ho, hb3⟩
 have hbk : bk < W.heap.size := hset.lt
 have h3 := hset.step hb3
 have HO := Lib.hid (names_own ho)
 have hno : ∀ x, v0.ownBlock = some x → W.heap.size ≤ x := fun x hx => (ho.lt x hx).1
 have G3 : Gro (fun x => x = bk) w w3 := Gro.trans G1 (Gro.of_below hb3)
 have HR := Lib.hid ((HK.out.2.move fun x hx => G3.block x hx.1 hx.2).weak (S' := But w3 bk) fun x hx => ⟨Nat.lt_of_lt_of_le hx.1 G3.size, hx.2⟩)
 have H3 := Lib.hid (And.intro h3 (And.intro G3 (And.intro hbk (And.intro hno (And.intro hb3.size G1.size)))))
 have i1 := h3.box.isRow
 have r1 := h3.box.row
 clear ho hset G1 h3 G3 hbk hno hb3
 have HO2 := Lib.hid (owns_move (w1 := w3.setCell ⟨bk, 4, none⟩ (.int .i64 0)) HO.out fun x hx => Below.heap_setCell _ _ _ x (by have := H3.out.2.2.2.1 x hx; have := H3.out.2.2.1; simp only; omega))
 have HR2 := Lib.hid (HR.out.move (w1 := w3.setCell ⟨bk, 4, none⟩ (.int .i64 0)) fun x hx => Below.heap_setCell _ _ _ x hx.2)
 have H4 := Lib.hid (And.intro (Wb.set (k' := { k with hops := k.hops + 1, at_ := 0 }) H3.out.1 4 (.int .i64 0) rfl) (Gro.setCell (B := fun x => x = bk) H3.out.2.1 (p := ⟨bk, 4, none⟩) (.inl rfl) (.int .i64 0)))
 go_wp2_with (at_builtin; refine wpList_hopapp rfl _ _ rfl W.heap.size (namesL text) rest ps v0 ad cr HC.out.2.2.2 rfl rfl HO2.out HR2.out (by have := H3.out.2.2.2.2.1; simpa [World.setCell] using this) (by have := names_len text; have := HC.out.2.1; omega) HC.out.2.2.1 ?_; intro A' c' w4 hown4 hg4; have N4 : v0.ownBlock ≠ some bk := (fun h => by have := H3.out.2.2.2.1 _ h; have := H3.out.2.2.1; omega); have K4 := hg4.block bk (by have := H4.out.1.lt; exact this) (fun h => N4 h.symm); have i4 : isRow w4 bk = true := isRow_of (K4.trans H4.out.1); have r4 := row_of (K4.trans H4.out.1); have K5 := Lib.hid (show Wb w4 bk { k with hops := k.hops + 1, at_ := 0 } A c n m r from K4.trans H4.out.1); have G4 := Lib.hid (Gro.below H4.out.2 ((Below.refl W.heap.size (w3.setCell ⟨bk, 4, none⟩ (.int .i64 0))).grown hg4 (by have := H3.out.2.2.2.2.1; simpa [World.setCell] using this) H3.out.2.2.2.1) H3.out.2.2.2.2.2); have P4 := Lib.hid (Ps.of_own hown4 H3.out.2.2.1); clear hown4 hg4 N4 K4)
 go_ret
 have g5 : Gro (fun x => x = bk) w4 (w4.setCell ⟨bk, 5, none⟩ (.slice A' ps.length c')) := Gro.setCell (B := fun x => x = bk) (Gro.refl _ _) (p := ⟨bk, 5, none⟩) (.inl rfl) _
 refine ⟨Gro.trans G4.out g5, rfl, .slice A' ps.length c', ?_, Ps.gro P4.out g5⟩
 unfold Wk.hopped
 simp only [if_neg HR0.out.2, if_true]
 exact Wb.set K5.out 5 _ rfl
set_option maxRecDepth 100000 in
set_option maxHeartbeats 4000000 in
theorem hop_here0 (k : Wk) (A : Option Addr) (c n : Nat) (m r : Int) (bk : Nat) (w : World) (text : ByteArray) (rest ps : List ByteArray) (ad : Addr) (cr : Nat) (hk : Wb w bk k A c n m r) (hrest : rStr.Is w (But w bk) ⟨some ad, cr⟩ rest) (hl : rest.length ≤ 100000) (h8 : ¬ k.hops = 8) (hh : 0 ≤ k.hops ∧ k.hops ≤ 8) (ht : text.size ≤ 1000) (hc : checkB text = 0) (hps : ps = namesL text ++ rest) (hr : rootB text = false) (hz : ps = []) :
  Calls Tryd.prog 57 #[.pointer (some ⟨bk, 0, none⟩), .string text, .slice (some ad) rest.length cr] w (GoR bk (k.hopped false ps) ps A c n m r w) := by
 obtain ⟨hh0, hh1⟩ := hh
 have q1 : wrap64 (k.hops + 1) = k.hops + 1 := by unfold wrap64; omega
 have q2 : IntKind.i64.wrap (k.hops + 1) = k.hops + 1 := by rw [IntKind.wrap_i64] <;> omega
 have i1 := hk.box.isRow
 have r1 := hk.box.row
 have hw := wk_eq
 have HK := Lib.hid (And.intro hk hrest)
 have HC := Lib.hid (And.intro hc (And.intro ht (And.intro hl hps)))
 have HR0 := Lib.hid (And.intro hr hz)
 have hzl : ps.length = 0 := by rw [hz]; rfl
 have ht' : text.size ≤ 1000000000000 := by omega
 have hr' : Lib.hasPrefix text.data.toList [47] = false := hr
 clear hk hrest hc hl hps hh0 hh1 hr hz
 go_enter Tryd.func57, Tryd.ntmps57
 go_wp2_with fail
 refine (check_in text ht' w).mono ?_
 rintro e w1 ⟨rfl, hb1⟩
 rw [HC.out.1]
 have HB := Lib.hid (And.intro hb1 (HK.out.1.step hb1))
 clear hb1 i1 r1
 go_wp2_with fail
 refine (halted_calls 0 w1).mono ?_
 rintro e w2 h
 rw [if_pos rfl] at h
 obtain ⟨rfl, rfl⟩ := h
 have i1 := HB.out.2.box.isRow
 have r1 := HB.out.2.box.row
 go_wp2_with fail
 refine Calls.at_ fun W hW => ?_
 have hset : Wb W bk { k with hops := k.hops + 1 } A c n m r := by rw [hW]; exact Wb.set HB.out.2 8 _ rfl
 have G1 : Gro (fun x => x = bk) w W := by rw [hW]; exact Gro.setCell (B := fun x => x = bk) (Gro.of_below HB.out.1) (p := ⟨bk, 8, none⟩) (.inl rfl) _
 clear hW i1 r1
 refine (split_in text ht' W).mono ?_
 rintro e w3 ⟨v0, rfl, ho, hb3⟩
 have hbk : bk < W.heap.size := hset.lt
 have h3 := hset.step hb3
 have HO := Lib.hid (names_own ho)
 have hno : ∀ x, v0.ownBlock = some x → W.heap.size ≤ x := fun x hx => (ho.lt x hx).1
 have G3 : Gro (fun x => x = bk) w w3 := Gro.trans G1 (Gro.of_below hb3)
 have HR := Lib.hid ((HK.out.2.move fun x hx => G3.block x hx.1 hx.2).weak (S' := But w3 bk) fun x hx => ⟨Nat.lt_of_lt_of_le hx.1 G3.size, hx.2⟩)
 have H3 := Lib.hid (And.intro h3 (And.intro G3 (And.intro hbk (And.intro hno (And.intro hb3.size G1.size)))))
 have i1 := h3.box.isRow
 have r1 := h3.box.row
 clear ho hset G1 h3 G3 hbk hno hb3
 have HO2 := HO
 have HR2 := HR
 have H4 := Lib.hid (And.intro H3.out.1 H3.out.2.1)
 go_wp2_with (at_builtin; refine wpList_hopapp rfl _ _ rfl W.heap.size (namesL text) rest ps v0 ad cr HC.out.2.2.2 rfl rfl HO2.out HR2.out (by have := H3.out.2.2.2.2.1; simpa [World.setCell] using this) (by have := names_len text; have := HC.out.2.1; omega) HC.out.2.2.1 ?_; intro A' c' w4 hown4 hg4; have N4 : v0.ownBlock ≠ some bk := (fun h => by have := H3.out.2.2.2.1 _ h; have := H3.out.2.2.1; omega); have K4 := hg4.block bk (by have := H4.out.1.lt; exact this) (fun h => N4 h.symm); have i4 : isRow w4 bk = true := isRow_of (K4.trans H4.out.1); have r4 := row_of (K4.trans H4.out.1); have K5 := Lib.hid (show Wb w4 bk { k with hops := k.hops + 1 } A c n m r from K4.trans H4.out.1); have G4 := Lib.hid (Gro.below H4.out.2 ((Below.refl W.heap.size w3).grown hg4 (by have := H3.out.2.2.2.2.1; simpa [World.setCell] using this) H3.out.2.2.2.1) H3.out.2.2.2.2.2); have P4 := Lib.hid (Ps.of_own hown4 H3.out.2.2.1); clear hown4 hg4 N4 K4)
 refine Calls.at_ fun W5 hW5 => ?_
 have h5 : Wb W5 bk { { k with hops := k.hops + 1 } with parts := .slice A' 0 c' } A c n m r := by rw [hW5]; exact Wb.set K5.out 5 _ rfl
 have g5 : Gro (fun x => x = bk) w4 W5 := by rw [hW5]; exact Gro.setCell (B := fun x => x = bk) (Gro.refl _ _) (p := ⟨bk, 5, none⟩) (.inl rfl) _
 clear hW5
 have H5 := Lib.hid (And.intro h5 g5)
 clear h5 g5 i4 r4
 refine (end2_calls { { k with hops := k.hops + 1 } with parts := .slice A' 0 c' } A c n m r bk ⟨0, ⟨#[]⟩, 0, k.slash⟩ W5 H5.out.1).mono ?_
 rintro e w6 ⟨rfl, h6, g6⟩
 have H6 := Lib.hid (And.intro h6 g6)
 clear h6 g6
 go_wp2_with fail
 go_ret
 refine ⟨Gro.trans G4.out (Gro.trans H5.out.2 H6.out.2), rfl, .slice A' ps.length c', ?_, Ps.gro (Ps.gro P4.out H5.out.2) H6.out.2⟩
 have h := H6.out.1
 unfold Wk.hopped
 simp only [if_pos HR0.out.2, Bool.false_eq_true, if_false]
 rw [hzl]
 exact h
set_option maxRecDepth 100000 in
set_option maxHeartbeats 4000000 in
theorem hop_here1 (k : Wk) (A : Option Addr) (c n : Nat) (m r : Int) (bk : Nat) (w : World) (text : ByteArray) (rest ps : List ByteArray) (ad : Addr) (cr : Nat) (hk : Wb w bk k A c n m r) (hrest : rStr.Is w (But w bk) ⟨some ad, cr⟩ rest) (hl : rest.length ≤ 100000) (h8 : ¬ k.hops = 8) (hh : 0 ≤ k.hops ∧ k.hops ≤ 8) (ht : text.size ≤ 1000) (hc : checkB text = 0) (hps : ps = namesL text ++ rest) (hr : rootB text = false) (hz : ¬ ps = []) :
  Calls Tryd.prog 57 #[.pointer (some ⟨bk, 0, none⟩), .string text, .slice (some ad) rest.length cr] w (GoR bk (k.hopped false ps) ps A c n m r w) := by
 obtain ⟨hh0, hh1⟩ := hh
 have q1 : wrap64 (k.hops + 1) = k.hops + 1 := by unfold wrap64; omega
 have q2 : IntKind.i64.wrap (k.hops + 1) = k.hops + 1 := by rw [IntKind.wrap_i64] <;> omega
 have i1 := hk.box.isRow
 have r1 := hk.box.row
 have hw := wk_eq
 have HK := Lib.hid (And.intro hk hrest)
 have HC := Lib.hid (And.intro hc (And.intro ht (And.intro hl hps)))
 have HR0 := Lib.hid (And.intro hr hz)
 have hzl : ¬ ps.length = 0 := by intro h; exact hz (List.eq_nil_of_length_eq_zero h)
 have ht' : text.size ≤ 1000000000000 := by omega
 have hr' : Lib.hasPrefix text.data.toList [47] = false := hr
 clear hk hrest hc hl hps hh0 hh1 hr hz
 go_enter Tryd.func57, Tryd.ntmps57
 go_wp2_with fail
 refine (check_in text ht' w).mono ?_
 rintro e w1 ⟨rfl, hb1⟩
 rw [HC.out.1]
 have HB := Lib.hid (And.intro hb1 (HK.out.1.step hb1))
 clear hb1 i1 r1
 go_wp2_with fail
 refine (halted_calls 0 w1).mono ?_
 rintro e w2 h
 rw [if_pos rfl] at h
 obtain ⟨rfl, rfl⟩ := h
 have i1 := HB.out.2.box.isRow
 have r1 := HB.out.2.box.row
 go_wp2_with fail
 refine Calls.at_ fun W hW => ?_
 have hset : Wb W bk { k with hops := k.hops + 1 } A c n m r := by rw [hW]; exact Wb.set HB.out.2 8 _ rfl
 have G1 : Gro (fun x => x = bk) w W := by rw [hW]; exact Gro.setCell (B := fun x => x = bk) (Gro.of_below HB.out.1) (p := ⟨bk, 8, none⟩) (.inl rfl) _
 clear hW i1 r1
 refine (split_in text ht' W).mono ?_
 rintro e w3 ⟨v0, rfl, ho, hb3⟩
 have hbk : bk < W.heap.size := hset.lt
 have h3 := hset.step hb3
 have HO := Lib.hid (names_own ho)
 have hno : ∀ x, v0.ownBlock = some x → W.heap.size ≤ x := fun x hx => (ho.lt x hx).1
 have G3 : Gro (fun x => x = bk) w w3 := Gro.trans G1 (Gro.of_below hb3)
 have HR := Lib.hid ((HK.out.2.move fun x hx => G3.block x hx.1 hx.2).weak (S' := But w3 bk) fun x hx => ⟨Nat.lt_of_lt_of_le hx.1 G3.size, hx.2⟩)
 have H3 := Lib.hid (And.intro h3 (And.intro G3 (And.intro hbk (And.intro hno (And.intro hb3.size G1.size)))))
 have i1 := h3.box.isRow
 have r1 := h3.box.row
 clear ho hset G1 h3 G3 hbk hno hb3
 have HO2 := HO
 have HR2 := HR
 have H4 := Lib.hid (And.intro H3.out.1 H3.out.2.1)
 go_wp2_with (at_builtin; refine wpList_hopapp rfl _ _ rfl W.heap.size (namesL text) rest ps v0 ad cr HC.out.2.2.2 rfl rfl HO2.out HR2.out (by have := H3.out.2.2.2.2.1; simpa [World.setCell] using this) (by have := names_len text; have := HC.out.2.1; omega) HC.out.2.2.1 ?_; intro A' c' w4 hown4 hg4; have N4 : v0.ownBlock ≠ some bk := (fun h => by have := H3.out.2.2.2.1 _ h; have := H3.out.2.2.1; omega); have K4 := hg4.block bk (by have := H4.out.1.lt; exact this) (fun h => N4 h.symm); have i4 : isRow w4 bk = true := isRow_of (K4.trans H4.out.1); have r4 := row_of (K4.trans H4.out.1); have K5 := Lib.hid (show Wb w4 bk { k with hops := k.hops + 1 } A c n m r from K4.trans H4.out.1); have G4 := Lib.hid (Gro.below H4.out.2 ((Below.refl W.heap.size w3).grown hg4 (by have := H3.out.2.2.2.2.1; simpa [World.setCell] using this) H3.out.2.2.2.1) H3.out.2.2.2.2.2); have P4 := Lib.hid (Ps.of_own hown4 H3.out.2.2.1); clear hown4 hg4 N4 K4)
 go_ret
 have g5 : Gro (fun x => x = bk) w4 (w4.setCell ⟨bk, 5, none⟩ (.slice A' ps.length c')) := Gro.setCell (B := fun x => x = bk) (Gro.refl _ _) (p := ⟨bk, 5, none⟩) (.inl rfl) _
 refine ⟨Gro.trans G4.out g5, rfl, .slice A' ps.length c', ?_, Ps.gro P4.out g5⟩
 unfold Wk.hopped
 simp only [if_neg HR0.out.2, Bool.false_eq_true, if_false]
 exact Wb.set K5.out 5 _ rfl
theorem hop_go (k : Wk) (A : Option Addr) (c n : Nat) (m r : Int) (bk : Nat) (w : World) (text : ByteArray) (rest ps : List ByteArray) (ad : Addr) (cr : Nat) (hk : Wb w bk k A c n m r) (hrest : rStr.Is w (But w bk) ⟨some ad, cr⟩ rest) (hl : rest.length ≤ 100000) (h8 : ¬ k.hops = 8) (hh : 0 ≤ k.hops ∧ k.hops ≤ 8) (ht : text.size ≤ 1000) (hc : checkB text = 0) (hps : ps = namesL text ++ rest) :
  Calls Tryd.prog 57 #[.pointer (some ⟨bk, 0, none⟩), .string text, .slice (some ad) rest.length cr] w (GoR bk (k.hopped (rootB text) ps) ps A c n m r w) := by
 by_cases hz : ps = []
 ·cases hr : rootB text with
  | true => exact hop_root0 k A c n m r bk w text rest ps ad cr hk hrest hl h8 hh ht hc hps hr hz
  | false => exact hop_here0 k A c n m r bk w text rest ps ad cr hk hrest hl h8 hh ht hc hps hr hz
 ·cases hr : rootB text with
  | true => exact hop_root1 k A c n m r bk w text rest ps ad cr hk hrest hl h8 hh ht hc hps hr hz
  | false => exact hop_here1 k A c n m r bk w text rest ps ad cr hk hrest hl h8 hh ht hc hps hr hz
end Go.Proofs.YthagmakojbfmaaaDoor.Ext
