/- The walker: a step over one part, all roads. -/
import Derived.Test.YthagmakojbfmaaaDoorSt_0
import Derived.Test.YthagmakojbfmaaaDoorSt_1
import Derived.Test.YthagmakojbfmaaaDoorSt_2
import Derived.Test.YthagmakojbfmaaaDoorSt_3
import Derived.Test.YthagmakojbfmaaaDoorSt_4
import Derived.Test.YthagmakojbfmaaaDoorSt_5
import Derived.Test.YthagmakojbfmaaaDoorSt_6
set_option linter.unusedVariables false
set_option linter.unusedSimpArgs false
namespace Go.Proofs.YthagmakojbfmaaaDoor.Ext
open Go Go.RowKit Go.Proofs.YthagmakojbfmaaaDoor Go.Proofs.YthagmakojbfmaaaDoorW.PrintWords
def StepR (k : Wk) (A : Option Addr) (c : Nat) (ns : List S48) (m r : Int) (bk : Nat) (part : ByteArray) (rest : List ByteArray) (w : World) (e : Ending) (w' : World) : Prop :=
 if ¬ hereB ns k.at_ = 0 then BadR bk (hereB ns k.at_) w e w'
 else if mayB (getL ns k.at_).f1 (getL ns k.at_).f2 k.who 1 = false then BadR bk 7 w e w'
 else if namedB k.at_ (getL ns k.at_) part = -1 then (if rest = [] then GoR bk (k.ended ⟨k.at_, part, -1, k.slash⟩) [part] A c ns.length m r w e w' else BadR bk 2 w e w')
 else if (getL ns (namedB k.at_ (getL ns k.at_) part)).f0 = 3 ∧ (¬ rest = [] ∨ k.follow = true ∨ k.slash = true) then HopR k (getL ns (namedB k.at_ (getL ns k.at_) part)).f6 (namesL (getL ns (namedB k.at_ (getL ns k.at_) part)).f6 ++ rest) A c ns.length m r bk w e w'
 else if rest = [] then (if k.slash = true ∧ ¬ (getL ns (namedB k.at_ (getL ns k.at_) part)).f0 = 2 then BadR bk 4 w e w' else GoR bk { k.ended ⟨k.at_, part, namedB k.at_ (getL ns k.at_) part, k.slash⟩ with at_ := namedB k.at_ (getL ns k.at_) part } [] A c ns.length m r w e w')
 else GoR bk { k with at_ := namedB k.at_ (getL ns k.at_) part } rest A c ns.length m r w e w'
theorem step_calls (k : Wk) (A : Option Addr) (c : Nat) (ns : List S48) (m r : Int) (bk : Nat) (w0 w : World) (part : ByteArray) (rest : List ByteArray) (b off cp : Nat) (hB : Below w0.heap.size w0 w) (hbk : w0.heap.size ≤ bk) (hk : Wb w bk k A c ns.length m r) (hd : Dk w0 A ns) (hc : ns.length ≤ c) (hl : ns.length ≤ 1000000) (hv : k.parts = .slice (some ⟨b, off, none⟩) (rest.length + 1) cp) (hp : Pts w bk ⟨some ⟨b, off, none⟩, cp⟩ (part :: rest)) (hrl : rest.length ≤ 100000) (hf7 : (getL ns k.at_).f7.length ≤ 1000000) (hso : Sorted57 (getL ns k.at_).f7 part) (hh : 0 ≤ k.hops ∧ k.hops ≤ 8) (htx : ∀ i, (getL ns i).f6.size ≤ 1000) :
  Calls Tryd.prog 40 #[.pointer (some ⟨bk, 0, none⟩)] w (StepR k A c ns m r bk part rest w) := by
 by_cases he : hereB ns k.at_ = 0
 case neg => exact (step_here k A c ns m r bk w0 w part rest b off cp hB hbk hk hd hc hl hv hp hrl he).mono fun e w' h => by unfold StepR; rw [if_pos (show ¬ hereB ns k.at_ = 0 from he)]; exact h
 by_cases hm0 : mayB (getL ns k.at_).f1 (getL ns k.at_).f2 k.who 1 = false
 ·exact (step_may k A c ns m r bk w0 w part rest b off cp hB hbk hk hd hc hl hv hp hrl he hm0).mono fun e w' h => by unfold StepR; rw [if_neg (show ¬ ¬ hereB ns k.at_ = 0 from fun h => h he), if_pos hm0]; exact h
 have hm : mayB (getL ns k.at_).f1 (getL ns k.at_).f2 k.who 1 = true := by simpa using hm0
 by_cases hr : rest = []
 ·subst hr
  by_cases hi : namedB k.at_ (getL ns k.at_) part = -1
  ·skip
   by_cases hcp : cp = 1
   ·refine (step_3a k A c ns m r bk w0 w part [] b off cp hB hbk hk hd hc hl hv hp hrl _ he hm rfl hf7 hso hh (htx _) rfl hcp hi).mono fun e w' h => ?_
    unfold StepR; rw [if_neg (show ¬ ¬ hereB ns k.at_ = 0 from fun h => h he), if_neg hm0, if_pos hi, if_pos (rfl : ([] : List ByteArray) = [])]; exact h
   ·refine (step_3b k A c ns m r bk w0 w part [] b off cp hB hbk hk hd hc hl hv hp hrl _ he hm rfl hf7 hso hh (htx _) rfl hcp hi).mono fun e w' h => ?_
    unfold StepR; rw [if_neg (show ¬ ¬ hereB ns k.at_ = 0 from fun h => h he), if_neg hm0, if_pos hi, if_pos (rfl : ([] : List ByteArray) = [])]; exact h
  ·by_cases hk3 : (getL ns (namedB k.at_ (getL ns k.at_) part)).f0 = 3
   ·have hk2 : ¬ (getL ns (namedB k.at_ (getL ns k.at_) part)).f0 = 2 := by omega
    by_cases hf : k.follow = true
    ·skip
     by_cases hcp : cp = 1
     ·refine (step_5ya k A c ns m r bk w0 w part [] b off cp hB hbk hk hd hc hl hv hp hrl _ he hm rfl hf7 hso hh (htx _) rfl hcp hi hk3 hf).mono fun e w' h => ?_
      unfold StepR; rw [if_neg (show ¬ ¬ hereB ns k.at_ = 0 from fun h => h he), if_neg hm0, if_neg hi, if_pos (show ((getL ns (namedB k.at_ (getL ns k.at_) part)).f0 = 3 ∧ (¬ ([] : List ByteArray) = [] ∨ k.follow = true ∨ k.slash = true)) from ⟨hk3, .inr (.inl hf)⟩)]; exact h
     ·refine (step_5yb k A c ns m r bk w0 w part [] b off cp hB hbk hk hd hc hl hv hp hrl _ he hm rfl hf7 hso hh (htx _) rfl hcp hi hk3 hf).mono fun e w' h => ?_
      unfold StepR; rw [if_neg (show ¬ ¬ hereB ns k.at_ = 0 from fun h => h he), if_neg hm0, if_neg hi, if_pos (show ((getL ns (namedB k.at_ (getL ns k.at_) part)).f0 = 3 ∧ (¬ ([] : List ByteArray) = [] ∨ k.follow = true ∨ k.slash = true)) from ⟨hk3, .inr (.inl hf)⟩)]; exact h
    ·have hf0 : k.follow = false := by simpa using hf
     by_cases hs : k.slash = true
     ·skip
      by_cases hcp : cp = 1
      ·refine (step_5za k A c ns m r bk w0 w part [] b off cp hB hbk hk hd hc hl hv hp hrl _ he hm rfl hf7 hso hh (htx _) rfl hcp hi hk3 hf0 hs).mono fun e w' h => ?_
       unfold StepR; rw [if_neg (show ¬ ¬ hereB ns k.at_ = 0 from fun h => h he), if_neg hm0, if_neg hi, if_pos (show ((getL ns (namedB k.at_ (getL ns k.at_) part)).f0 = 3 ∧ (¬ ([] : List ByteArray) = [] ∨ k.follow = true ∨ k.slash = true)) from ⟨hk3, .inr (.inr hs)⟩)]; exact h
      ·refine (step_5zb k A c ns m r bk w0 w part [] b off cp hB hbk hk hd hc hl hv hp hrl _ he hm rfl hf7 hso hh (htx _) rfl hcp hi hk3 hf0 hs).mono fun e w' h => ?_
       unfold StepR; rw [if_neg (show ¬ ¬ hereB ns k.at_ = 0 from fun h => h he), if_neg hm0, if_neg hi, if_pos (show ((getL ns (namedB k.at_ (getL ns k.at_) part)).f0 = 3 ∧ (¬ ([] : List ByteArray) = [] ∨ k.follow = true ∨ k.slash = true)) from ⟨hk3, .inr (.inr hs)⟩)]; exact h
     ·have hs0 : k.slash = false := by simpa using hs
      by_cases hcp : cp = 1
      ·refine (step_7ya k A c ns m r bk w0 w part [] b off cp hB hbk hk hd hc hl hv hp hrl _ he hm rfl hf7 hso hh (htx _) rfl hcp hi hk3 hf0 hs0).mono fun e w' h => ?_
       unfold StepR; rw [if_neg (show ¬ ¬ hereB ns k.at_ = 0 from fun h => h he), if_neg hm0, if_neg hi, if_neg (show ¬ ((getL ns (namedB k.at_ (getL ns k.at_) part)).f0 = 3 ∧ (¬ ([] : List ByteArray) = [] ∨ k.follow = true ∨ k.slash = true)) from fun h => h.2.elim (fun h => h rfl) (fun h => h.elim hf hs)), if_pos (rfl : ([] : List ByteArray) = []), if_neg (show ¬ (k.slash = true ∧ ¬ (getL ns (namedB k.at_ (getL ns k.at_) part)).f0 = 2) from fun h => hs h.1)]; exact h
      ·refine (step_7yb k A c ns m r bk w0 w part [] b off cp hB hbk hk hd hc hl hv hp hrl _ he hm rfl hf7 hso hh (htx _) rfl hcp hi hk3 hf0 hs0).mono fun e w' h => ?_
       unfold StepR; rw [if_neg (show ¬ ¬ hereB ns k.at_ = 0 from fun h => h he), if_neg hm0, if_neg hi, if_neg (show ¬ ((getL ns (namedB k.at_ (getL ns k.at_) part)).f0 = 3 ∧ (¬ ([] : List ByteArray) = [] ∨ k.follow = true ∨ k.slash = true)) from fun h => h.2.elim (fun h => h rfl) (fun h => h.elim hf hs)), if_pos (rfl : ([] : List ByteArray) = []), if_neg (show ¬ (k.slash = true ∧ ¬ (getL ns (namedB k.at_ (getL ns k.at_) part)).f0 = 2) from fun h => hs h.1)]; exact h
   ·by_cases hs : k.slash = true
    ·by_cases hk2 : (getL ns (namedB k.at_ (getL ns k.at_) part)).f0 = 2
     ·skip
      by_cases hcp : cp = 1
      ·refine (step_7za k A c ns m r bk w0 w part [] b off cp hB hbk hk hd hc hl hv hp hrl _ he hm rfl hf7 hso hh (htx _) rfl hcp hi hk2 hs).mono fun e w' h => ?_
       unfold StepR; rw [if_neg (show ¬ ¬ hereB ns k.at_ = 0 from fun h => h he), if_neg hm0, if_neg hi, if_neg (show ¬ ((getL ns (namedB k.at_ (getL ns k.at_) part)).f0 = 3 ∧ (¬ ([] : List ByteArray) = [] ∨ k.follow = true ∨ k.slash = true)) from fun h => hk3 h.1), if_pos (rfl : ([] : List ByteArray) = []), if_neg (show ¬ (k.slash = true ∧ ¬ (getL ns (namedB k.at_ (getL ns k.at_) part)).f0 = 2) from fun h => h.2 hk2)]; exact h
      ·refine (step_7zb k A c ns m r bk w0 w part [] b off cp hB hbk hk hd hc hl hv hp hrl _ he hm rfl hf7 hso hh (htx _) rfl hcp hi hk2 hs).mono fun e w' h => ?_
       unfold StepR; rw [if_neg (show ¬ ¬ hereB ns k.at_ = 0 from fun h => h he), if_neg hm0, if_neg hi, if_neg (show ¬ ((getL ns (namedB k.at_ (getL ns k.at_) part)).f0 = 3 ∧ (¬ ([] : List ByteArray) = [] ∨ k.follow = true ∨ k.slash = true)) from fun h => hk3 h.1), if_pos (rfl : ([] : List ByteArray) = []), if_neg (show ¬ (k.slash = true ∧ ¬ (getL ns (namedB k.at_ (getL ns k.at_) part)).f0 = 2) from fun h => h.2 hk2)]; exact h
     ·skip
      by_cases hcp : cp = 1
      ·refine (step_6a k A c ns m r bk w0 w part [] b off cp hB hbk hk hd hc hl hv hp hrl _ he hm rfl hf7 hso hh (htx _) rfl hcp hi hk3 hk2 hs).mono fun e w' h => ?_
       unfold StepR; rw [if_neg (show ¬ ¬ hereB ns k.at_ = 0 from fun h => h he), if_neg hm0, if_neg hi, if_neg (show ¬ ((getL ns (namedB k.at_ (getL ns k.at_) part)).f0 = 3 ∧ (¬ ([] : List ByteArray) = [] ∨ k.follow = true ∨ k.slash = true)) from fun h => hk3 h.1), if_pos (rfl : ([] : List ByteArray) = []), if_pos (show (k.slash = true ∧ ¬ (getL ns (namedB k.at_ (getL ns k.at_) part)).f0 = 2) from ⟨hs, hk2⟩)]; exact h
      ·refine (step_6b k A c ns m r bk w0 w part [] b off cp hB hbk hk hd hc hl hv hp hrl _ he hm rfl hf7 hso hh (htx _) rfl hcp hi hk3 hk2 hs).mono fun e w' h => ?_
       unfold StepR; rw [if_neg (show ¬ ¬ hereB ns k.at_ = 0 from fun h => h he), if_neg hm0, if_neg hi, if_neg (show ¬ ((getL ns (namedB k.at_ (getL ns k.at_) part)).f0 = 3 ∧ (¬ ([] : List ByteArray) = [] ∨ k.follow = true ∨ k.slash = true)) from fun h => hk3 h.1), if_pos (rfl : ([] : List ByteArray) = []), if_pos (show (k.slash = true ∧ ¬ (getL ns (namedB k.at_ (getL ns k.at_) part)).f0 = 2) from ⟨hs, hk2⟩)]; exact h
    ·have hs0 : k.slash = false := by simpa using hs
     by_cases hcp : cp = 1
     ·refine (step_7xa k A c ns m r bk w0 w part [] b off cp hB hbk hk hd hc hl hv hp hrl _ he hm rfl hf7 hso hh (htx _) rfl hcp hi hk3 hs0).mono fun e w' h => ?_
      unfold StepR; rw [if_neg (show ¬ ¬ hereB ns k.at_ = 0 from fun h => h he), if_neg hm0, if_neg hi, if_neg (show ¬ ((getL ns (namedB k.at_ (getL ns k.at_) part)).f0 = 3 ∧ (¬ ([] : List ByteArray) = [] ∨ k.follow = true ∨ k.slash = true)) from fun h => hk3 h.1), if_pos (rfl : ([] : List ByteArray) = []), if_neg (show ¬ (k.slash = true ∧ ¬ (getL ns (namedB k.at_ (getL ns k.at_) part)).f0 = 2) from fun h => hs h.1)]; exact h
     ·refine (step_7xb k A c ns m r bk w0 w part [] b off cp hB hbk hk hd hc hl hv hp hrl _ he hm rfl hf7 hso hh (htx _) rfl hcp hi hk3 hs0).mono fun e w' h => ?_
      unfold StepR; rw [if_neg (show ¬ ¬ hereB ns k.at_ = 0 from fun h => h he), if_neg hm0, if_neg hi, if_neg (show ¬ ((getL ns (namedB k.at_ (getL ns k.at_) part)).f0 = 3 ∧ (¬ ([] : List ByteArray) = [] ∨ k.follow = true ∨ k.slash = true)) from fun h => hk3 h.1), if_pos (rfl : ([] : List ByteArray) = []), if_neg (show ¬ (k.slash = true ∧ ¬ (getL ns (namedB k.at_ (getL ns k.at_) part)).f0 = 2) from fun h => hs h.1)]; exact h
 ·have hcp : ¬ cp = 1 := fun h => hr (List.eq_nil_of_length_eq_zero (by have := hp.1; rw [h] at this; simp at this; simp [this]))
  by_cases hi : namedB k.at_ (getL ns k.at_) part = -1
  ·skip
   refine (step_4b k A c ns m r bk w0 w part rest b off cp hB hbk hk hd hc hl hv hp hrl _ he hm rfl hf7 hso hh (htx _) hr hcp hi).mono fun e w' h => ?_
   unfold StepR; rw [if_neg (show ¬ ¬ hereB ns k.at_ = 0 from fun h => h he), if_neg hm0, if_pos hi, if_neg hr]; exact h
  ·by_cases hk3 : (getL ns (namedB k.at_ (getL ns k.at_) part)).f0 = 3
   ·skip
    refine (step_5xb k A c ns m r bk w0 w part rest b off cp hB hbk hk hd hc hl hv hp hrl _ he hm rfl hf7 hso hh (htx _) hr hcp hi hk3).mono fun e w' h => ?_
    unfold StepR; rw [if_neg (show ¬ ¬ hereB ns k.at_ = 0 from fun h => h he), if_neg hm0, if_neg hi, if_pos (show ((getL ns (namedB k.at_ (getL ns k.at_) part)).f0 = 3 ∧ (¬ rest = [] ∨ k.follow = true ∨ k.slash = true)) from ⟨hk3, .inl hr⟩)]; exact h
   ·skip
    refine (step_8b k A c ns m r bk w0 w part rest b off cp hB hbk hk hd hc hl hv hp hrl _ he hm rfl hf7 hso hh (htx _) hr hcp hi hk3).mono fun e w' h => ?_
    unfold StepR; rw [if_neg (show ¬ ¬ hereB ns k.at_ = 0 from fun h => h he), if_neg hm0, if_neg hi, if_neg (show ¬ ((getL ns (namedB k.at_ (getL ns k.at_) part)).f0 = 3 ∧ (¬ rest = [] ∨ k.follow = true ∨ k.slash = true)) from fun h => hk3 h.1), if_neg hr]; exact h
end Go.Proofs.YthagmakojbfmaaaDoor.Ext
