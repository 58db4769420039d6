/- The job layer: what a job's cells say. -/
import Derived.Test.YtjkjlegloicmcaaDoorBase
set_option linter.unusedVariables false
set_option linter.unusedSimpArgs false
namespace Go.Proofs.YtjkjlegloicmcaaDoor
open Go.RowKit

structure Frame where
  fd : Int
  name : ByteArray
  names : List ByteArray
  deriving DecidableEq

def rFrame : Rp Frame where
  sz := 3
  K := fun w S f cs => ∃ A c, cs = [.int .i64 f.fd, .string f.name, .slice A f.names.length c] ∧ f.names.length ≤ c ∧ rStr.Row w S A f.names
  len := by rintro w S x cs ⟨A, c, rfl, _⟩; rfl
  one := by
    rintro w S x cs ⟨A, c, rfl, _⟩ u hu
    simp only [List.mem_cons, List.not_mem_nil, or_false] at hu
    rcases hu with rfl | rfl | rfl <;> rfl
  move := by rintro w w1 S x cs hm ⟨A, c, rfl, h, hr⟩; exact ⟨A, c, rfl, h, hr.move hm⟩
  weak := by rintro w S S' x cs hm ⟨A, c, rfl, h, hr⟩; exact ⟨A, c, rfl, h, hr.weak hm⟩

theorem Rp.Row.frame {w : World} {S : Nat → Prop} {A : Option Addr} {xs : List Frame} (h : rFrame.Row w S A xs) (k : Nat) (hk : k < xs.length) :
    ∃ b off s, A = some ⟨b, off, none⟩ ∧ S b ∧ rStr.Is w S s (xs[k]'hk).names ∧ w.cell? ⟨b, off + k * 3, none⟩ = some (.int .i64 (xs[k]'hk).fd) ∧ w.cell? ⟨b, off + k * 3 + 1, none⟩ = some (.string (xs[k]'hk).name) ∧ w.cell? ⟨b, off + k * 3 + 2, none⟩ = some (.slice s.a (xs[k]'hk).names.length s.c) := by
  obtain ⟨b, off, cs, e, hb, ⟨A, c, rfl, hl, hr⟩, hc⟩ := h.2 k hk
  exact ⟨b, off, ⟨A, c⟩, e, hb, ⟨hl, hr⟩, hc 0 _ rfl, hc 1 _ rfl, hc 2 _ rfl⟩

structure Job where
  kind : Int
  p : Int
  phase : Int
  fd : Int
  n : Int
  mode : Int
  tries : Int
  at_ : Int
  flags : Int
  path : ByteArray
  path2 : ByteArray
  text : ByteArray
  names : List ByteArray
  stack : List Frame
  draws : List Int
  done : Bool
  exit : Int
  out : ByteArray
  e : Int
  deriving DecidableEq

/-- Where a job's lists lie. -/
structure JA where
  n : Sl
  s : Sl
  d : Sl
def Job.cells (j : Job) (a : JA) : List Value :=
  [.int .i64 j.kind, .int .i64 j.p, .int .i64 j.phase, .int .i64 j.fd, .int .i64 j.n, .int .i64 j.mode, .int .i64 j.tries, .int .i64 j.at_, .int .i64 j.flags,
   .string j.path, .string j.path2, .string j.text, .slice a.n.a j.names.length a.n.c, .slice a.s.a j.stack.length a.s.c, .slice a.d.a j.draws.length a.d.c,
   .bool j.done, .int .i64 j.exit, .string j.out, .int .i64 j.e]
def Job.ok (j : Job) (w : World) (S : Nat → Prop) (a : JA) : Prop := rStr.Is w S a.n j.names ∧ rFrame.Is w S a.s j.stack ∧ rInt.Is w S a.d j.draws
theorem Job.ok.move {j : Job} {w w1 : World} {S : Nat → Prop} {a : JA} (h : j.ok w S a) (hm : ∀ k, S k → w1.heap[k]? = w.heap[k]?) : j.ok w1 S a := ⟨h.1.move hm, h.2.1.move hm, h.2.2.move hm⟩
theorem Job.ok.weak {j : Job} {w : World} {S S' : Nat → Prop} {a : JA} (h : j.ok w S a) (hm : ∀ k, S k → S' k) : j.ok w S' a := ⟨h.1.weak hm, h.2.1.weak hm, h.2.2.weak hm⟩
theorem Job.ok.sub {j : Job} {w w1 : World} {S : Nat → Prop} {a : JA} (h : j.ok w S a) (hs : Sub S w) (hb : Below w.heap.size w w1) : j.ok w1 S a := h.move fun k hk => hb.block k (hs k hk)
/-- A job comes back; nothing that was there has changed. -/
def RetJ (w : World) (S : Nat → Prop) (j : Job) (e : Ending) (w' : World) : Prop := ∃ a, e = .returned (.agg (j.cells a).toArray) ∧ j.ok w' (Ext w w' S) a ∧ Below w.heap.size w w'
theorem RetJ.off {w w1 wf : World} {S B : Nat → Prop} {j : Job} {a : JA} (hb : Below w.heap.size w w1) (ho : Off B w1 wf) (hB : ∀ k, B k → w.heap.size ≤ k)
    (h : j.ok w1 (fun k => Ext w w1 S k ∧ ¬ B k) a) : RetJ w S j (.returned (.agg (j.cells a).toArray)) wf :=
  ⟨a, rfl, (h.move fun k hk => ho.block k hk.2).weak fun _ hk => hk.1.imp id fun h => by rw [ho.size]; exact h, Below.off hb ho hB⟩
theorem Job.ok.old {j : Job} {w w1 : World} {S B : Nat → Prop} {a : JA} (h : j.ok w S a) (hS : Sub S w) (hb : Below w.heap.size w w1) (hB : ∀ k, B k → w.heap.size ≤ k) : j.ok w1 (fun k => Ext w w1 S k ∧ ¬ B k) a :=
  (h.sub hS hb).weak fun k hk => ⟨.inl hk, fun h => by have := hB k h; have := hS k hk; omega⟩
theorem RetJ.old {w wf : World} {S : Nat → Prop} {j : Job} {a : JA} (hS : Sub S w) (hb : Below w.heap.size w wf) (h : j.ok w S a) : RetJ w S j (.returned (.agg (j.cells a).toArray)) wf :=
  ⟨a, rfl, (h.sub hS hb).weak fun _ hk => .inl hk, hb⟩
/-- A frame comes back, and a Bool. -/
def RetF (w : World) (S : Nat → Prop) (f : Frame) (b : Bool) (e : Ending) (w' : World) : Prop :=
  ∃ s : Sl, e = .returned (.tuple #[.agg #[.int .i64 f.fd, .string f.name, .slice s.a f.names.length s.c], .bool b]) ∧ rStr.Is w' (Ext w w' S) s f.names ∧ Below w.heap.size w w'
theorem RetF.old {w wf : World} {S : Nat → Prop} {f : Frame} {b : Bool} {s : Sl} (hS : Sub S w) (hb : Below w.heap.size w wf) (h : rStr.Is w S s f.names) : RetF w S f b (.returned (.tuple #[.agg #[.int .i64 f.fd, .string f.name, .slice s.a f.names.length s.c], .bool b])) wf :=
  ⟨s, rfl, (h.sub hS hb).weak fun _ hk => .inl hk, hb⟩
end Go.Proofs.YtjkjlegloicmcaaDoor
