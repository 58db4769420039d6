/- Sx: a symbolic executor for the model's code, proved: expressions, symbolic values, trees, what they say. Nothing of the program. -/
import Derived.Test.YtpfbimkpcnnfkaaGreatDoorReg
set_option linter.unusedVariables false
set_option linter.unusedSimpArgs false
namespace Go.Proofs.YtpfbimkpcnnfkaaGreatDoor.Sx
open Go Go.Proofs.YtpfbimkpcnnfkaaGreatDoor
inductive S where | I | B | T | A | N | V
abbrev S.ty : S → Type | .I => Int | .B => Bool | .T => ByteArray | .A => Option Addr | .N => Nat | .V => Value
inductive E (V : S → Type) : S → Type where
 | at {s : S} (x : V s) : E V s
 | i (n : Int) : E V .I
 | b (x : Bool) : E V .B
 | t (x : ByteArray) : E V .T
 | n (x : Nat) : E V .N
 | anil : E V .A
 | bin (o : BinOp) (k : IntKind) (x y : E V .I) : E V .I
 | shf (o : BinOp) (k : IntKind) (x : E V .I) (n : Nat) : E V .I
 | cmp (o : BinOp) (x y : E V .I) : E V .B
 | scmp (o : BinOp) (x y : E V .T) : E V .B
 | beq (x y : E V .B) : E V .B
 | not (x : E V .B) : E V .B
 | ite (c x y : E V .B) : E V .B
 | conv (k : IntKind) (x : E V .I) : E V .I
 | ofN (x : E V .N) : E V .I
 | toN (x : E V .I) : E V .N
 | add (x y : E V .N) : E V .N
 | sub (x y : E V .N) : E V .N
 | mul (x : E V .N) (c : Nat) : E V .N
 | len (x : E V .T) : E V .I
 | byte (x : E V .T) (y : E V .I) : E V .I
 | cat (x y : E V .T) : E V .T
 | ext (x : E V .T) (lo hi : E V .N) : E V .T
 | adv (a : E V .A) (m l : E V .N) (size : Nat) : E V .A
 | nilA (x : E V .A) : E V .B
 | nilV (x : E V .V) : E V .B
 | ptr (x : E V .V) : E V .A
 | glob (g : Nat) : E V .A
def binI (o : BinOp) (k : IntKind) (x y : Int) : Int :=
 match o with
 | .add => k.wrap (x + y) | .sub => k.wrap (x - y) | .mul => k.wrap (x * y)
 | .quo => k.wrap (x.tdiv y) | .rem => x.tmod y
 | .and => k.wrap (BitVec.ofInt k.bits x &&& BitVec.ofInt k.bits y).toNat
 | .or => k.wrap (BitVec.ofInt k.bits x ||| BitVec.ofInt k.bits y).toNat
 | .xor => k.wrap (BitVec.ofInt k.bits x ^^^ BitVec.ofInt k.bits y).toNat
 | .andNot => k.wrap (BitVec.ofInt k.bits x &&& ~~~BitVec.ofInt k.bits y).toNat
 | _ => 0
def shfI (o : BinOp) (k : IntKind) (x : Int) (n : Nat) : Int := match o with | .shl => k.wrap (x * 2 ^ min n k.bits) | _ => x.fdiv (2 ^ min n k.bits)
def cmpI (o : BinOp) (x y : Int) : Bool :=
 match o with
 | .eql => x == y | .neq => x != y | .lss => decide (x < y) | .leq => decide (x ≤ y) | .gtr => decide (x > y) | .geq => decide (x ≥ y) | _ => false
def cmpT (o : BinOp) (x y : ByteArray) : Bool :=
 match o with
 | .eql => x.toList == y.toList | .neq => !(x.toList == y.toList)
 | .lss => Op.bytesLess x.toList y.toList | .leq => Op.bytesLess x.toList y.toList || x.toList == y.toList
 | .gtr => !(Op.bytesLess x.toList y.toList || x.toList == y.toList) | .geq => !Op.bytesLess x.toList y.toList | _ => false
def nilB : Value → Bool | .nilIface => true | .nilFunc => true | .pointer none => true | _ => false
def ptrOf : Value → Option Addr | .pointer a => a | _ => none
def byteAt (s : ByteArray) (i : Int) : Int := ((s[i.toNat]?).getD 0).toNat
def E.den : {s : S} → E S.ty s → s.ty
 | _, .at x => x
 | _, .i z => z
 | _, .b x => x
 | _, .t x => x
 | _, .n x => x
 | _, .anil => none
 | _, .bin o k x y => binI o k x.den y.den
 | _, .shf o k x z => shfI o k x.den z
 | _, .cmp o x y => cmpI o x.den y.den
 | _, .scmp o x y => cmpT o x.den y.den
 | _, .beq x y => x.den == y.den
 | _, .not x => !x.den
 | _, .ite c x y => cond c.den x.den y.den
 | _, .conv k x => k.wrap x.den
 | _, .ofN x => ((x.den : Nat) : Int)
 | _, .toN x => Int.toNat x.den
 | _, .add x y => Nat.add x.den y.den
 | _, .sub x y => Nat.sub x.den y.den
 | _, .mul x c => Nat.mul x.den c
 | _, .len x => ((ByteArray.size x.den : Nat) : Int)
 | _, .byte x y => byteAt x.den y.den
 | _, .cat x y => ByteArray.append x.den y.den
 | _, .ext x lo hi => ByteArray.extract x.den lo.den hi.den
 | _, .adv a m l size => if (m.den : Nat) = (l.den : Nat) then a.den else Option.map (fun x : Addr => x.add ((l.den : Nat) * size)) a.den
 | _, .nilA x => Option.isNone x.den
 | _, .nilV x => nilB x.den
 | _, .ptr x => ptrOf x.den
 | _, .glob g => some ⟨g, 0, none⟩
inductive SV (V : S → Type) where
 | i (k : IntKind) (e : E V .I)
 | b (e : E V .B)
 | t (e : E V .T)
 | s (a : E V .A) (n c : E V .N)
 | v (e : E V .V)
 | p (id off : Nat)
 | q (a : E V .A) (o : E V .N)
 | os (id off len cap : Nat)
 | agg (l : List (SV V))
 | tup (l : List (SV V))
 | ifc (t : TypeId) (x : SV V)
 | fn (f : Fn) (fs cs : List (SV V))
 | lit (v : Value)
mutual
def SV.den (bk : Nat → Nat) : SV S.ty → Value
 | .i k x => .int k x.den
 | .b x => .bool x.den
 | .t x => .string x.den
 | .s x y z => .slice x.den y.den z.den
 | .v x => x.den
 | .p x y => .pointer (some ⟨bk x, y, none⟩)
 | .q x y => .pointer (Option.map (fun z : Addr => z.add y.den) x.den)
 | .os x o l c => .slice (some ⟨bk x, o, none⟩) l c
 | .agg l => .agg (denL bk l).toArray
 | .tup l => .tuple (denL bk l).toArray
 | .ifc k x => .iface k (x.den bk)
 | .fn k l r => .func k (denL bk l).toArray (denL bk r).toArray
 | .lit x => x
def denL (bk : Nat → Nat) : List (SV S.ty) → List Value
 | [] => []
 | x :: r => x.den bk :: denL bk r
end
mutual
def SV.ids {V : S → Type} : SV V → List Nat
 | .i _ _ => []
 | .b _ => []
 | .t _ => []
 | .s _ _ _ => []
 | .v _ => []
 | .p x _ => [x]
 | .q _ _ => []
 | .os x _ _ _ => [x]
 | .agg l => idsL l
 | .tup l => idsL l
 | .ifc _ x => x.ids
 | .fn _ l r => idsL l ++ idsL r
 | .lit _ => []
def idsL {V : S → Type} : List (SV V) → List Nat
 | [] => []
 | x :: r => x.ids ++ idsL r
end
inductive CK where | i (k : IntKind) | b | t | s | v
deriving DecidableEq
abbrev CK.Ty (V : S → Type) : CK → Type | .i _ => V .I | .b => V .B | .t => V .T | .s => V .A × V .N × V .N | .v => V .V
abbrev Cells (V : S → Type) : List CK → Type | [] => Unit | k :: r => CK.Ty V k × Cells V r
abbrev CellsL (V : S → Type) : List (List CK) → Type | [] => Unit | k :: r => Cells V k × CellsL V r
def CK.sv {V : S → Type} : (k : CK) → k.Ty V → SV V
 | .i k, x => .i k (.at x)
 | .b, x => .b (.at x)
 | .t, x => .t (.at x)
 | .s, x => .s (.at x.1) (.at x.2.1) (.at x.2.2)
 | .v, x => .v (.at x)
def cellsSV {V : S → Type} : (l : List CK) → Cells V l → List (SV V)
 | [], _ => []
 | k :: r, x => k.sv x.1 :: cellsSV r x.2
abbrev RT := Bool × List CK
def RT.ks : List RT → List CK
 | [] => []
 | (_, l) :: r => l ++ RT.ks r
def resL {V : S → Type} : List RT → List (SV V) → List (SV V)
 | [], _ => []
 | (true, l) :: r, xs => .agg (xs.take l.length) :: resL r (xs.drop l.length)
 | (false, l) :: r, xs => (xs.head?.getD (.tup [])) :: resL r (xs.drop l.length)
def resSV {V : S → Type} (rs : List RT) (xs : List (SV V)) : SV V :=
 match resL rs xs with
 | [x] => x
 | l => .tup l
inductive Prim where
 | bi (b : Builtin) (ts : Array TypeId) (ty : TypeId)
 | mk (t : TypeId)
 | ext (f : FuncId)
 | conv (s d : TypeId)
 | emp (t : TypeId)
def Prim.isExt : Prim → Bool | .ext _ => true | _ => false
inductive Ob (V : S → Type) where
 | idx (i : E V .I) (n : E V .N) (a : E V .A)
 | byte (i : E V .I) (x : E V .T)
 | bnds (lo hi cap : E V .I)
 | nz (x : E V .I)
 | here (a : E V .A)
 | cat (x y : E V .T)
 | ifc (x : E V .V)
 | one (x : E V .V)
def Ob.den : Ob S.ty → Prop
 | .idx i n a => 0 ≤ i.den ∧ i.den < ((n.den : Nat) : Int) ∧ Option.isSome a.den = true
 | .byte i x => 0 ≤ i.den ∧ i.den < ((ByteArray.size x.den : Nat) : Int)
 | .bnds lo hi cap => 0 ≤ lo.den ∧ lo.den ≤ hi.den ∧ hi.den ≤ cap.den
 | .nz x => ¬ x.den = 0
 | .here a => Option.isSome a.den = true
 | .cat x y => ((ByteArray.size x.den + ByteArray.size y.den : Nat) : Int) ≤ 9223372036854775807
 | .ifc x => x.den = .nilIface ∨ ∃ t v, x.den = .iface t v
 | .one x => Value.oneCell' x.den = true
inductive Tree (V : S → Type) where
 | bad
 | ret (x : SV V) (giv : List (List (SV V))) (pubs : List (Nat × List (SV V)))
 | test (e : E V .B) (x y : Tree V)
 | ob (g : E V .B) (p : Ob V) (x : Tree V)
 | new (id : Nat) (x : Tree V)
 | uld (g : E V .B) (a : E V .A) (o : E V .N) (ks : List CK) (k : Cells V ks → Tree V)
 | ust (a : E V .A) (o : E V .N) (xs : List (SV V)) (x : Tree V)
 | call (g : E V .B) (q : Bool) (f : FuncId) (args : List (SV V)) (mods : List (Nat × List (SV V))) (pubs : List (Nat × List (SV V))) (rs : List RT) (ms : List (List CK)) (k : Cells V (RT.ks rs) → CellsL V ms → Tree V)
 | bi (g : E V .B) (p : Prim) (args : List (SV V)) (pubs : List (Nat × List (SV V))) (rs : List RT) (k : Cells V (RT.ks rs) → Tree V)
 | loop (n : Nat) (sk : List CK) (oks : List (List CK)) (xs : List (SV V)) (cs : List (List (SV V))) (body : Cells V sk → CellsL V oks → Tree V)
 | again (n : Nat) (xs : List (SV V)) (cs : List (List (SV V))) (es : List (SV V × SV V))
end Go.Proofs.YtpfbimkpcnnfkaaGreatDoor.Sx
