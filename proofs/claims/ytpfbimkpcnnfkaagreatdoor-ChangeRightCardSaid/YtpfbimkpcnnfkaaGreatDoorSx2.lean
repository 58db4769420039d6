/- Sx: the executor: what a function's code does with symbolic values, as a tree. Nothing of the program. -/
import Derived.Test.YtpfbimkpcnnfkaaGreatDoorSx1
set_option linter.unusedVariables false
namespace Go.Proofs.YtpfbimkpcnnfkaaGreatDoor.Sx
open Go Go.Proofs.YtpfbimkpcnnfkaaGreatDoor
structure Ent (V : S → Type) where
 lab : List (Nat × Bool)
 w : E V .B
 x : SV V
structure Own (V : S → Type) where
 giv : Bool
 ks : List CK
 cs : Option (List (SV V))
structure St (V : S → Type) where
 tmps : List (Option (Ent V))
 own : List (Option (Own V))
section
variable {V : S → Type}
def St.get (st : St V) (t : Nat) : Option (Ent V) := (st.tmps[t]?).bind id
def St.put (st : St V) (d : Option Tmp) (e : Ent V) : St V := match d with | some d => { st with tmps := st.tmps.set d (some e) } | none => st
def St.blk (st : St V) (id : Nat) : Option (Own V) := (st.own[id]?).bind (fun x => x)
def St.cells (st : St V) (id : Nat) : Option (List (SV V)) := (st.blk id).bind (·.cs)
def St.setOwn (st : St V) (id : Nat) (o : Option (Own V)) : St V := { st with own := st.own.set id o }
def ofCell : Value → SV V
 | .int k n => .i k (.i n)
 | .bool x => .b (.b x)
 | .string x => .t (.t x)
 | .slice none 0 0 => .s .anil (.n 0) (.n 0)
 | v => .lit v
def ofVal : Value → SV V
 | .agg cs => .agg (cs.toList.map ofCell)
 | v => ofCell v
def SV.cells : SV V → List (SV V)
 | .agg l => l
 | x => [x]
def mkAnd : E V .B → E V .B → E V .B
 | .b true, y => y
 | x, y => .ite x y (.b false)
def mkLit (e : E V .B) (b : Bool) : E V .B := if b then e else .not e
def mkNat : E V .I → E V .N
 | .i n => .n n.toNat
 | .ofN x => x
 | e => .toN e
def St.ev (st : St V) (lab : List (Nat × Bool)) : Operand → Option (SV V)
 | .tmp t => match st.get t with
  | some e => if e.lab.all (fun l => lab.contains l) then some e.x else none
  | none => none
 | .const v => some (ofVal v)
 | .func f => some (.fn (.func f) [] [])
 | .global g => some (.q (.glob g) (.n 0))
def St.evs (st : St V) (lab : List (Nat × Bool)) : List Operand → Option (List (SV V))
 | [] => some []
 | x :: r => match st.ev lab x, st.evs lab r with
  | some y, some ys => some (y :: ys)
  | _, _ => none
def kindsF (P : Program) : Nat → TypeId → List CK
 | 0, _ => []
 | n + 1, t => match P.underlying t with
  | some (.int k) => [.i k]
  | some .bool => [.b]
  | some .string => [.t]
  | some (.slice _) => [.s]
  | some (.struct fs) => (fs.toList.map fun f => kindsF P n f.type).flatten
  | some (.array len e) => (List.replicate len (kindsF P n e)).flatten
  | _ => [.v]
def kinds (P : Program) (t : TypeId) : List CK := kindsF P 20 t
def isAggB (P : Program) (t : TypeId) : Bool := match P.underlying t with | some (.struct _) | some (.array ..) => true | _ => false
def sizeB (P : Program) (t : TypeId) : Option Nat := match P.underlying t with | some _ => (P.info? t).map (·.size) | none => none
def fieldB (P : Program) (t : TypeId) (f : Nat) : Option (Nat × TypeId) := match P.underlying t with | some (.struct fs) => (fs[f]?).map fun x => (x.offset, x.type) | _ => none
def rts (P : Program) (ts : Array TypeId) : List RT := ts.toList.map fun t => (isAggB P t, kinds P t)
inductive Res (V : S → Type) where
 | bad
 | put (obs : List (Ob V)) (x : SV V)
 | sto (obs : List (Ob V)) (id off : Nat) (xs : List (SV V))
 | new (obs : List (Ob V)) (o : Own V) (x : SV V)
 | uld (a : E V .A) (o : E V .N) (agg : Bool) (ks : List CK)
 | ust (obs : List (Ob V)) (a : E V .A) (o : E V .N) (xs : List (SV V))
 | call (f : FuncId) (args : List (SV V)) (rs : List RT)
 | bi (p : Prim) (args : List (SV V)) (rs : List RT)
def cut (l : List (SV V)) (off n : Nat) : Option (List (SV V)) := if off + n ≤ l.length then some ((l.drop off).take n) else none
def pack (agg : Bool) (l : List (SV V)) : Option (SV V) := if agg then some (.agg l) else match l with | [x] => some x | _ => none
def fillSV (P : Program) (t : TypeId) : List (SV V) → List (Nat × SV V) → Option (List (SV V))
 | cs, [] => some cs
 | cs, (i, x) :: r => match fieldB P t i with
  | some (off, ft) => match sizeB P ft with
   | some n => if x.cells.length = n ∧ off + n ≤ cs.length then fillSV P t (cs.take off ++ x.cells ++ cs.drop (off + n)) r else none
   | none => none
  | none => none
def fillRow (size : Nat) : List (SV V) → List (Nat × SV V) → Option (List (SV V))
 | cs, [] => some cs
 | cs, (i, x) :: r => if x.cells.length = size ∧ i * size + size ≤ cs.length then fillRow size (cs.take (i * size) ++ x.cells ++ cs.drop (i * size + size)) r else none
def St.parts (st : St V) (lab : List (Nat × Bool)) : List (Nat × Operand) → Option (List (Nat × SV V))
 | [] => some []
 | (i, x) :: r => match st.ev lab x, st.parts lab r with
  | some y, some ys => some ((i, y) :: ys)
  | _, _ => none
def oneObs : List (SV V) → Option (List (Ob V))
 | [] => some []
 | x :: r => match oneObs r with
  | none => none
  | some l => match x with
   | .v e => some (.one e :: l)
   | .lit v => if v.oneCell' then some l else none
   | .agg _ | .tup _ => none
   | _ => some l
def boxObs : SV V → Option (List (Ob V))
 | .v e => some [.one e]
 | .lit v => if v.oneCell' then some [] else none
 | .tup _ => none
 | _ => some []
def boxesObs : List (Nat × SV V) → Option (List (Ob V))
 | [] => some []
 | (_, x) :: r => match boxObs x, boxesObs r with
  | some l, some l' => some (l ++ l')
  | _, _ => none
def isBoolT (P : Program) (t : TypeId) : Bool := match P.underlying t with | some .bool => true | _ => false
def isSliceT (P : Program) (t : TypeId) : Bool := match P.underlying t with | some (.slice _) => true | _ => false
def isIfcT (P : Program) (t : TypeId) : Bool := match P.underlying t with | some (.interface _) => true | _ => false
def eqOne (P : Program) (t : TypeId) : SV V → SV V → Option (E V .B)
 | .i k x, .i k' y => match P.underlying t with | some (.int _) => if k = k' then some (.cmp .eql x y) else none | _ => none
 | .b x, .b y => match P.underlying t with | some .bool => some (.beq x y) | _ => none
 | .t x, .t y => match P.underlying t with | some .string => some (.scmp .eql x y) | _ => none
 | _, _ => none
def eqFs (P : Program) (l r : List (SV V)) : List Field → Option (E V .B)
 | [] => some (.b true)
 | f :: fs => if f.name = "_" then none else match l[f.offset]?, r[f.offset]? with
  | some x, some y => match eqOne P f.type x y, eqFs P l r fs with
   | some a, some b => some (.ite a b (.b false))
   | _, _ => none
  | _, _ => none
def structE (P : Program) (t : TypeId) (l r : List (SV V)) : Option (E V .B) :=
 if P.stoodInHeld t = false ∧ P.eqGuardType P.depth t = false then match P.underlying t with
  | some (.struct fs) => eqFs P l r fs.toList
  | _ => none
 else none
def binRes (P : Program) (t : TypeId) (o : BinOp) (cst : Bool) : SV V → SV V → Res V
 | .i k x, .i k' y =>
  if o = .shl ∨ o = .shr then match y with
   | .i n => if 0 ≤ n then .put [] (.i k (.shf o k x n.toNat)) else .bad
   | _ => .bad
  else if k = k' then match o with
   | .add | .sub | .mul | .and | .or | .xor | .andNot => .put [] (.i k (.bin o k x y))
   | .quo | .rem => .put [.nz y] (.i k (.bin o k x y))
   | .eql | .neq | .lss | .leq | .gtr | .geq => .put [] (.b (.cmp o x y))
   | _ => .bad
  else .bad
 | .t x, .t y => match o with
   | .add => .put [.cat x y] (.t (.cat x y))
   | .eql | .neq | .lss | .leq | .gtr | .geq => .put [] (.b (.scmp o x y))
   | _ => .bad
 | .b x, .b y => if isBoolT P t then match o with
   | .eql => .put [] (.b (.beq x y))
   | .neq => .put [] (.b (.not (.beq x y)))
   | _ => .bad
  else .bad
 | .v x, .lit .nilIface => if isIfcT P t && cst then match o with
   | .eql => .put [.ifc x] (.b (.nilV x))
   | .neq => .put [.ifc x] (.b (.not (.nilV x)))
   | _ => .bad
  else .bad
 | .ifc _ _, .lit .nilIface => if isIfcT P t then match o with
   | .eql => .put [] (.b (.b false))
   | .neq => .put [] (.b (.b true))
   | _ => .bad
  else .bad
 | .lit .nilIface, .lit .nilIface => if isIfcT P t && cst then match o with
   | .eql => .put [] (.b (.b true))
   | .neq => .put [] (.b (.b false))
   | _ => .bad
  else .bad
 | .s a _ _, .s .anil (.n 0) (.n 0) => if isSliceT P t then match o with
   | .eql => .put [] (.b (.nilA a))
   | .neq => .put [] (.b (.not (.nilA a)))
   | _ => .bad
  else .bad
 | .agg l, .agg r => match structE P t l r with
  | some e => match o with
   | .eql => .put [] (.b e)
   | .neq => .put [] (.b (.not e))
   | _ => .bad
  | none => .bad
 | _, _ => .bad
def isConst : Operand → Bool | .const _ => true | _ => false
def res (P : Program) (st : St V) (lab : List (Nat × Bool)) (o : Oper) : Res V :=
 match o.op with
 | .move x | .assign x => match st.ev lab x with | some x => .put [] x | none => .bad
 | .pick (.tmp c) a b => match st.ev lab (.tmp c), st.ev ((c, true) :: lab) a, st.ev ((c, false) :: lab) b with
  | some (.b e), some (.b x), some (.b y) => .put [] (.b (.ite e x y))
  | _, _, _ => .bad
 | .alloc t => match (P.info? t).bind (·.zero), o.dst with
  | some z, some d => let cs := (ofVal (V := V) z).cells; if cs.length = (kinds P t).length then .new [] ⟨false, kinds P t, some cs⟩ (.p d 0) else .bad
  | _, _ => .bad
 | .box t x => match st.ev lab x, o.dst with
  | some x, some d => match boxObs x with
   | some obs => if x.cells.length = (kinds P t).length then .new obs ⟨false, kinds P t, some x.cells⟩ (.p d 0) else .bad
   | none => .bad
  | _, _ => .bad
 | .build t ps => match P.underlying t, (P.info? t).bind (·.zero), st.parts lab ps.toList with
  | some (.struct fs), some z, some ps => if fs.toList.all (fun f => (sizeB P f.type).isSome) = false then .bad else match fillSV P t (ofVal (V := V) z).cells ps, boxesObs ps with
   | some cs, some obs => .put obs (.agg cs)
   | _, _ => .bad
  | _, _, _ => .bad
 | .buildSlice t len ps => if len = 0 then (if ps.isEmpty then .bi (.emp t) [] [(false, [.s])] else .bad) else match P.underlying t, st.parts lab ps.toList, o.dst with
  | some (.slice e), some ps, some d => match (P.info? e).bind (·.zero), sizeB P e with
   | some z, some n =>
    let zs := (ofVal (V := V) z).cells
    if zs.length = n ∧ n = (kinds P e).length ∧ 0 < n ∧ len * n ≤ 1000 then
     match fillRow n (List.replicate len zs).flatten ps, boxesObs ps with
     | some cs, some obs => .new obs ⟨false, (List.replicate len (kinds P e)).flatten, some cs⟩ (.os d 0 len len)
     | _, _ => .bad
    else .bad
   | _, _ => .bad
  | _, _, _ => .bad
 | .load t a => match st.ev lab a, sizeB P t with
  | some (.p id off), some n => match st.cells id with
   | some cs => match (cut cs off n).bind (pack (isAggB P t)) with
    | some x => .put [] x
    | none => .bad
   | none => .bad
  | some (.q a k), some n => if (kinds P t).length = n ∧ (isAggB P t = true ∨ n = 1) then .uld a k (isAggB P t) (kinds P t) else .bad
  | _, _ => .bad
 | .store t a x => match st.ev lab a, st.ev lab x, sizeB P t, o.dst with
  | some (.p id off), some x, some n, none => match st.cells id with
   | some cs => match oneObs x.cells with
    | some obs => if x.cells.length = n ∧ off + n ≤ cs.length then .sto obs id off x.cells else .bad
    | none => .bad
   | none => .bad
  | some (.q a k), some x, some n, none => match oneObs x.cells with
   | some obs => if x.cells.length = n then .ust obs a k x.cells else .bad
   | none => .bad
  | _, _, _, _ => .bad
 | .nilCheck x => match st.ev lab x with
  | some (.p id off) => .put [] (.p id off)
  | some (.q a k) => .put [.here a] (.q a k)
  | some (.fn (.func f) l r) => .put [] (.fn (.func f) l r)
  | some (.v e) => .put [.here (.ptr e)] (.q (.ptr e) (.n 0))
  | _ => .bad
 | .binOp b t x y _ => match st.ev lab x, st.ev lab y with
  | some l, some r => binRes P t b (isConst x || isConst y) l r
  | _, _ => .bad
 | .unOp u _ x => match u, st.ev lab x with
  | .not, some (.b e) => .put [] (.b (.not e))
  | .neg, some (.i k e) => .put [] (.i k (.bin .sub k (.i 0) e))
  | _, _ => .bad
 | .convert s d x => match P.underlying s, P.underlying d, st.ev lab x with
  | some (.int _), some (.int k), some (.i _ e) => .put [] (.i k (.conv k e))
  | some .string, some .string, some (.t e) => .put [] (.t e)
  | _, _, _ => .bad
 | .makeSlice t l c => match st.ev lab l, st.ev lab c with
  | some x, some y => .bi (.mk t) [x, y] [(false, [.s])]
  | _, _ => .bad
 | .makeInterface t x => match P.underlying t, st.ev lab x with
  | some (.interface _), _ => .bad
  | some _, some x => .put [] (.ifc t x)
  | _, _ => .bad
 | .makeFunc f l r => match st.evs lab l.toList, st.evs lab r.toList with
  | some l, some r => .put [] (.fn f l r)
  | _, _ => .bad
 | .slice t x lo hi none =>
  match P.underlying t, st.ev lab x, (match lo with | some a => st.ev lab a | none => some (.i .i64 (.i 0))), hi.map (st.ev lab) with
  | some .string, some (.t e), some (.i _ l), none => .put [.bnds l (.len e) (.len e)] (.t (.ext e (mkNat l) (mkNat (.len e))))
  | some .string, some (.t e), some (.i _ l), some (some (.i _ h)) => .put [.bnds l h (.len e)] (.t (.ext e (mkNat l) (mkNat h)))
  | some (.slice el), some (.s a n c), some (.i _ l), none => match sizeB P el with
   | some k => .put [.bnds l (.ofN n) (.ofN c)] (.s (.adv a c (mkNat l) k) (.sub n (mkNat l)) (.sub c (mkNat l)))
   | none => .bad
  | some (.slice el), some (.s a n c), some (.i _ l), some (some (.i _ h)) => match sizeB P el with
   | some k => .put [.bnds l h (.ofN c)] (.s (.adv a c (mkNat l) k) (.sub (mkNat h) (mkNat l)) (.sub c (mkNat l)))
   | none => .bad
  | _, _, _, _ => .bad
 | .fieldAddr s x f => match fieldB P s f, st.ev lab x with
  | some (off, ft), some (.p id k) => match sizeB P ft with | some (n + 1) => .put [] (.p id (k + off)) | _ => .bad
  | some (off, ft), some (.q a k) => match sizeB P ft with | some (n + 1) => .put [.here a] (.q a (.add k (.n off))) | _ => .bad
  | _, _ => .bad
 | .field t x f => match fieldB P t f, st.ev lab x with
  | some (off, ft), some (.agg l) => match sizeB P ft with
   | some n => match (cut l off n).bind (pack (isAggB P ft)) with
    | some y => .put [] y
    | none => .bad
   | none => .bad
  | _, _ => .bad
 | .indexAddr t x i => match P.underlying t, st.ev lab x, st.ev lab i with
  | some (.slice el), some (.s a n c), some (.i _ e) => match sizeB P el with
   | some k => .put [.idx e n a] (.q a (.mul (mkNat e) k))
   | none => .bad
  | some (.slice el), some (.os id off len cap), some (.i _ (.i j)) => match sizeB P el with
   | some k => if 0 ≤ j ∧ j < len then .put [] (.p id (off + j.toNat * k)) else .bad
   | none => .bad
  | _, _, _ => .bad
 | .index t x i => match P.underlying t, st.ev lab x, st.ev lab i with
  | some .string, some (.t e), some (.i _ j) => .put [.byte j e] (.i .u8 (.byte e j))
  | _, _, _ => .bad
 | .extract x i => match st.ev lab x with
  | some (.tup l) => match l[i]? with | some y => .put [] y | none => .bad
  | _ => .bad
 | .call c => match st.evs lab c.args.toList with
  | none => .bad
  | some args => match c.callee with
   | .builtin b => match b, c.argTypes[0]?.bind P.underlying, args with
    | .len, some .string, [.t e] => .put [] (.i .i64 (.len e))
    | .len, some (.slice _), [.s _ n _] => .put [] (.i .i64 (.ofN n))
    | .len, some (.slice _), [.os _ _ n _] => .put [] (.i .i64 (.i n))
    | .cap, some (.slice _), [.s _ _ n] => .put [] (.i .i64 (.ofN n))
    | .append, _, _ | .copy, _, _ | .min, _, _ | .max, _, _ => .bi (.bi b c.argTypes o.type) args (rts P #[o.type])
    | .clear, some (.slice _), _ => .bi (.bi b c.argTypes o.type) args []
    | _, _, _ => .bad
   | .value f => match st.ev lab f with
    | some (.fn (.func f) l r) => match P.funcs[f]? with
     | some fn => if fn.body.isSome then .call f (l ++ args ++ r) (rts P fn.resultTypes) else if fn.origin == "slices.overlaps" then .bi (.ext f) (l ++ args ++ r) (rts P fn.resultTypes) else .bad
     | none => .bad
    | _ => .bad
   | .invoke _ _ => .bad
 | _ => .bad
def SV.direct (asB : Bool) : SV V → List Nat
 | .p id _ => [id]
 | .fn _ l r => idsL l ++ idsL r
 | .ifc _ x => if asB then x.ids else []
 | _ => []
def SV.seen (asB : Bool) : SV V → List Nat
 | .os id _ _ _ => [id]
 | .ifc _ x => if asB then [] else x.ids
 | .agg l => idsL l
 | .tup l => idsL l
 | _ => []
def isAs (P : Program) (f : FuncId) : Bool := match P.funcs[f]? with | some fn => fn.name == "errors.As" | none => false
def St.close (st : St V) : Nat → List Nat → List Nat → List Nat
 | 0, _, acc => acc
 | n + 1, [], acc => acc
 | n + 1, id :: r, acc => if acc.contains id then st.close n r acc else match st.cells id with
  | some cs => st.close n (idsL cs ++ r) (acc ++ [id])
  | none => st.close n r acc
def St.rows (st : St V) (l : List Nat) : List (Nat × List (SV V)) := l.filterMap fun id => (st.cells id).map (id, ·)
def St.kss (st : St V) (l : List Nat) : List (List CK) := l.filterMap fun id => (st.blk id).bind fun o => o.cs.map fun _ => o.ks
def St.shut (st : St V) : List Nat → St V
 | [] => st
 | id :: r => St.shut (match st.blk id with | some o => st.setOwn id (some { o with cs := none }) | none => st) r
def St.fresh (st : St V) : (l : List Nat) → (ms : List (List CK)) → CellsL V ms → St V
 | id :: l, k :: ms, x => St.fresh (st.setOwn id (some ⟨((st.blk id).map (·.giv)).getD false, k, some (cellsSV k x.1)⟩)) l ms x.2
 | _, _, _ => st
def St.mineB (st : St V) (l : List Nat) : Bool := l.all fun id => match st.blk id with | some ⟨false, _, some _⟩ => true | _ => false
def nodupB : List Nat → Bool
 | [] => true
 | x :: r => !r.contains x && nodupB r
def disjB (l r : List Nat) : Bool := l.all fun x => !r.contains x
def guardOf (ops : List Oper) (st : St V) (o : Oper) : Option (List (Nat × Bool) × E V .B) :=
 match o.guard with
 | none => some ([], .b true)
 | some (g, b) => match (ops[g]?).bind (·.dst) with
  | some t => if o.after.any (fun e => Region.binds .any e && e.on == g) then match st.get t with
    | some ⟨lab, w, .b e⟩ => some ((t, b) :: lab, mkAnd w (mkLit e b))
    | _ => none
   else none
  | none => none
def obT (g : E V .B) (obs : List (Ob V)) (k : Tree V) : Tree V := obs.foldr (fun p t => .ob g p t) k
structure Flag where
 lds : List Tmp
def zeroSV : List CK → List (SV V)
 | [] => []
 | .i k :: r => .i k (.i 0) :: zeroSV r
 | .b :: r => .b (.b false) :: zeroSV r
 | .t :: r => .t (.t ⟨#[]⟩) :: zeroSV r
 | .s :: r => .s .anil (.n 0) (.n 0) :: zeroSV r
 | .v :: r => .lit .nilIface :: zeroSV r
def offSV : SV V → SV V | .os _ _ _ _ => .s .anil (.n 0) (.n 0) | _ => .q .anil (.n 0)
def St.okLd (st : St V) (l : List Nat) (t : Tmp) : Bool := match st.get t with | some ⟨_, _, .p i _⟩ => !l.contains i | some ⟨_, _, .q _ _⟩ => true | _ => false
def St.okP (st : St V) (l : List Nat) (t : Tmp) : Bool := match st.get t with | some ⟨_, _, .p i _⟩ => !l.contains i | _ => false
def step (P : Program) (ops : List Oper) (fl : Flag) (o : Oper) (st : St V) (k : St V → Tree V) : Tree V :=
 match guardOf ops st o with
 | none => .bad
 | some (lab, g) => match res P st lab o with
  | .bad => .bad
  | .put obs x => obT g obs (k (st.put o.dst ⟨lab, g, x⟩))
  | .sto obs id off xs => match lab, st.blk id with
   | [], some ⟨gv, ks, some cs⟩ => if fl.lds.all (st.okLd [id]) = true then obT g obs (k (st.setOwn id (some ⟨gv, ks, some (cs.take off ++ xs ++ cs.drop (off + xs.length))⟩))) else .bad
   | _, _ => .bad
  | .new obs ow x => match o.dst with
   | some d => if (st.blk d).isNone ∧ d < st.own.length then match lab with
     | [] => obT g obs <| .new d (k ((st.setOwn d (some ow)).put (some d) ⟨[], .b true, x⟩))
     | _ :: _ => .test g (obT g obs <| .new d (k ((st.setOwn d (some ow)).put (some d) ⟨lab, g, x⟩))) (k (st.put (some d) ⟨lab, g, offSV x⟩))
    else .bad
   | none => .bad
  | .uld a n agg ks => .uld g a n ks fun x => match pack agg (cellsSV ks x) with
   | some y => k (st.put o.dst ⟨lab, g, y⟩)
   | none => .bad
  | .ust obs a n xs => match lab with
   | [] => if fl.lds = [] then obT g obs (.ust a n xs (k st)) else .bad
   | _ => .bad
  | .call f args rs =>
   let ms := st.close 40 ((args.map (SV.direct (isAs P f))).flatten) []
   let ps := st.close 40 ((args.map (SV.seen (isAs P f))).flatten) []
   if disjB ms ps ∧ nodupB ms ∧ nodupB ps ∧ st.mineB ps ∧ fl.lds.all (st.okLd (ms ++ ps)) = true then
    if lab = [] ∨ (ms = [] ∧ ps = []) then .call g fl.lds.isEmpty f args (st.rows ms) (st.rows ps) rs (st.kss ms) fun xs ys => k (((st.fresh ms (st.kss ms) ys).shut ps).put o.dst ⟨lab, g, resSV rs (cellsSV (RT.ks rs) xs)⟩)
    else .test g (.call (.b true) fl.lds.isEmpty f args (st.rows ms) (st.rows ps) rs (st.kss ms) fun xs ys => k (((st.fresh ms (st.kss ms) ys).shut ps).put o.dst ⟨lab, g, resSV rs (cellsSV (RT.ks rs) xs)⟩)) (k (st.put o.dst ⟨lab, g, resSV rs (zeroSV (RT.ks rs))⟩))
   else .bad
  | .bi p args rs =>
   let ps := st.close 40 ((args.map (SV.seen false)).flatten) []
   if nodupB ps ∧ st.mineB ps ∧ (lab = [] ∨ ps = []) ∧ fl.lds.all (st.okP ps) = true then
    .bi g p args (st.rows ps) rs fun xs => k ((st.shut ps).put o.dst ⟨lab, g, resSV rs (cellsSV (RT.ks rs) xs)⟩)
   else .bad
def steps (P : Program) (ops : List Oper) : List (Flag × Oper) → St V → (St V → Tree V) → Tree V
 | [], st, k => k st
 | (l, o) :: r, st, k => step P ops l o st fun st => steps P ops r st k
def cls (o : Oper) : Nat :=
 match o.op with
 | .alloc _ | .box _ _ | .buildSlice _ (_ + 1) _ => 2
 | .buildSlice _ 0 _ => 1
 | .store _ _ _ => 1
 | .makeSlice _ _ _ => 1
 | .call ⟨.builtin .cap, _, _⟩ => 0
 | .call ⟨.builtin .len, _, _⟩ => 0
 | .call _ => 1
 | _ => 0
def readyB (done : List Nat) (i : Nat) (o : Oper) : Bool := !done.contains i && o.after.all fun e => !Region.binds .any e || done.contains e.on
def firstReady (ops : List Oper) (done : List Nat) (c : Nat) : Nat → List Oper → Option Nat
 | _, [] => none
 | i, o :: r => if cls o == c && readyB done i o then some i else firstReady ops done c (i + 1) r
def canon (ops : List Oper) : Nat → List Nat → List Nat
 | 0, _ => []
 | n + 1, done => match firstReady ops done 0 0 ops with
  | some i => i :: canon ops n (i :: done)
  | none => match firstReady ops done 1 0 ops with
   | some i => i :: canon ops n (i :: done)
   | none => match firstReady ops done 2 0 ops with
    | some i => i :: canon ops n (i :: done)
    | none => []
def preB (ops : List Oper) : Nat → Nat → Nat → Bool
 | 0, _, _ => false
 | n + 1, x, i => match ops[i]? with
  | some o => o.after.any fun e => Region.binds .any e && (e.on == x || preB ops n x e.on)
  | none => false
def isLoad (o : Oper) : Bool := match o.op with | .load _ _ => true | _ => false
def isCallV (o : Oper) : Bool := match o.op with | .call ⟨.value _, _, _⟩ => true | _ => false
def isBi (o : Oper) : Bool := match o.op with | .call _ => true | .makeSlice _ _ _ => true | .buildSlice _ 0 _ => true | _ => false
def isStore (o : Oper) : Bool := match o.op with | .store _ _ _ => true | _ => false
def ldAddr (o : Oper) : Option Tmp := match o.op with | .load _ (.tmp t) => some t | _ => none
def swapB (ops : List Oper) (x y : Oper) : Bool :=
 Oper.apart ops.toArray x y && Oper.apart ops.toArray y x &&
 match cls x, isLoad x, cls y, isLoad y with
 | 0, false, _, _ => true
 | _, _, 0, false => true
 | 0, true, 0, true => true
 | 0, true, 1, _ => true
 | 0, true, 2, _ => true
 | 1, _, 2, _ => isBi x
 | 2, _, 2, _ => true
 | _, _, _, _ => false
def ldsB (ops : List Oper) (i : Nat) : List Tmp :=
 (List.range ops.length).filterMap fun j => if j == i || preB ops ops.length i j || preB ops ops.length j i then none else (ops[j]?).bind ldAddr
def pairsB (ops : List Oper) : List Nat → Bool
 | [] => true
 | i :: r => (r.all fun j => preB ops ops.length i j || match ops[i]?, ops[j]? with
   | some x, some y => swapB ops x y && (!isLoad x || !(cls y == 1) || match ldAddr x with | some t => (ldsB ops j).contains t | none => false) && (!(cls x == 1) || match y.dst with | some d => !(ldsB ops i).contains d | none => true)
   | _, _ => false) && pairsB ops r
def wrB (ops : List Oper) : List Nat → Bool
 | [] => true
 | i :: r => (match (ops[i]?).bind ldAddr with | some t => (i :: r).all fun k => decide ((ops[k]?).bind (·.dst) ≠ some t) | none => true) && wrB ops r
def topoB (ops : List Oper) : List Nat → Bool
 | [] => true
 | i :: r => (match ops[i]? with | some o => o.after.all fun e => !Region.binds .any e || !(i :: r).contains e.on | none => false) && topoB ops r
def newsB (ops : List Oper) (st : St V) : Bool := ops.all fun o => cls o != 2 || o.guard.isNone && match o.dst with | some d => (st.blk d).isNone | none => true
def backB : Nat → List Oper → Bool
 | _, [] => true
 | i, o :: r => (o.after.all fun e => !Region.binds .any e || decide (e.on < i)) && backB (i + 1) r
def order (ops : List Oper) (draw : Bool) : Option (List (Flag × Oper)) :=
 if draw then
  let c := canon ops ops.length []
  if c.length = ops.length ∧ nodupB c = true ∧ c.all (fun i => decide (i < ops.length)) = true ∧ pairsB ops c = true ∧ topoB ops c = true ∧ wrB ops c = true then some (c.filterMap fun i => (ops[i]?).map (⟨ldsB ops i⟩, ·)) else none
 else if backB 0 ops then some (ops.map (⟨[]⟩, ·)) else none
def guardsB (ops : List Oper) : Bool := nodupB (ops.filterMap (·.dst))
def St.clear (st : St V) : St V := { st with tmps := st.tmps.map fun | some e => if e.lab = [] then some e else none | none => none }
inductive It (V : S → Type) where
 | code (c : Code)
 | blk (id : Nat)
 | lp (n : Nat) (slots owns : List Nat) (sk : List CK) (oks : List (List CK)) (drop : List Nat) (hd : List (Option (Own V)))
def exitTo (id : Nat) : List (It V) → List (It V)
 | .blk i :: r => if i = id then r else exitTo id r
 | _ :: r => exitTo id r
 | [] => [.code (.exit id)]
def assigned : Code → List Nat
 | .region _ ops _ => ops.toList.filterMap (·.dst)
 | .seq a b => assigned a ++ assigned b
 | .cond _ a b => assigned a ++ assigned b
 | .block _ b => assigned b
 | .loop b => assigned b
 | _ => []
def loopKey : Code → Option Nat
 | .region id _ _ => some id
 | .seq a b => match loopKey a with | some k => some k | none => loopKey b
 | .cond _ a b => match loopKey a with | some k => some k | none => loopKey b
 | .block _ b => loopKey b
 | .loop b => loopKey b
 | _ => none
def fixB (ops : List Oper) (r : List (It V)) : Bool := r.all fun | .lp _ _ _ _ _ drop _ => (ops.filterMap (·.dst)).all (fun t => drop.contains t) | _ => true
def kindOk : CK → SV V → Bool
 | .i k, .i k' _ => k = k'
 | .b, .b _ => true
 | .t, .t _ => true
 | .s, .s _ _ _ => true
 | .v, .agg _ => false
 | .v, .tup _ => false
 | .v, _ => true
 | _, _ => false
def kindsOk : List CK → List (SV V) → Bool
 | [], [] => true
 | k :: r, x :: xs => kindOk k x && kindsOk r xs
 | _, _ => false
def kindsOkL : List (List CK) → List (List (SV V)) → Bool
 | [], [] => true
 | k :: r, x :: xs => kindsOk k x && kindsOkL r xs
 | _, _ => false
def SV.kind : SV V → Option CK
 | .i k _ => some (.i k)
 | .b _ => some .b
 | .t _ => some .t
 | .s _ _ _ => some .s
 | .v _ | .ifc _ _ | .lit _ => some .v
 | _ => none
def St.slot (st : St V) (t : Nat) : Option (SV V) := match st.get t with | some ⟨[], _, x⟩ => some x | _ => none
def allSome {α : Type} : List (Option α) → Option (List α)
 | [] => some []
 | some x :: r => match allSome r with | some l => some (x :: l) | none => none
 | none :: _ => none
def sameOwn (owns : List Nat) : Nat → List (Option (Own V)) → List (Option (Own V)) → Option (List (SV V × SV V))
 | _, [], _ => some []
 | i, some ⟨g, k, some cs⟩ :: r, o :: r' => match sameOwn owns (i + 1) r r' with
  | none => none
  | some l => if owns.contains i then some l else match o with
   | some ⟨g', k', some cs'⟩ => if g = g' ∧ cs.length = cs'.length then some (cs.zip cs' ++ l) else none
   | _ => none
 | i, some ⟨_, k, some _⟩ :: r, [] => none
 | i, _ :: r, o :: r' => sameOwn owns (i + 1) r r'
 | i, _ :: r, [] => sameOwn owns (i + 1) r []
def dropT (dr : List Nat) : Nat → List (Option (Ent V)) → List (Option (Ent V))
 | _, [] => []
 | i, e :: r => (if dr.contains i then none else e) :: dropT dr (i + 1) r
def setSlots : List (Option (Ent V)) → List Nat → List (SV V) → List (Option (Ent V))
 | t, s :: r, x :: xs => setSlots (t.set s (some ⟨[], .b true, x⟩)) r xs
 | t, _, _ => t
def St.head (st : St V) (dr slots owns : List Nat) (sk : List CK) (oks : List (List CK)) (x : Cells V sk) (y : CellsL V oks) : St V :=
 St.fresh ⟨setSlots (dropT dr 0 st.tmps) slots (cellsSV sk x), st.own⟩ owns oks y
structure Ann where
 key : Nat
 slots : List Nat
 owns : List Nat
structure Cfg where
 P : Program
 fn : Func
 giv : List Nat
 ann : List Ann
def resultsOf (c : Cfg) (st : St V) : List ResultVar → Option (List (SV V))
 | [] => some []
 | .tmp t :: r => match st.slot t, resultsOf c st r with
  | some x, some l => some (x :: l)
  | _, _ => none
 | .cell a t :: r => match st.slot a, sizeB c.P t, resultsOf c st r with
  | some (.p id off), some n, some l => match (st.cells id).bind fun cs => (cut cs off n).bind (pack (isAggB c.P t)) with
   | some x => some (x :: l)
   | none => none
  | _, _, _ => none
def oneSV (l : List (SV V)) : SV V := match l with | [x] => x | l => .tup l
def finish (c : Cfg) (st : St V) : Tree V :=
 match resultsOf c st c.fn.results.toList, allSome (c.giv.map st.cells) with
 | some l, some gs =>
  let x : SV V := oneSV l
  let ids := (st.close 40 (x.ids ++ (gs.map idsL).flatten) []).filter fun i => !c.giv.contains i
  if nodupB ids ∧ st.mineB ids then .ret x gs (st.rows ids) else .bad
 | _, _ => .bad
def run (c : Cfg) : Nat → Nat → List (It V) → St V → Tree V
 | 0, _, _, _ => .bad
 | f + 1, n, [], st => finish c st
 | f + 1, n, .code cd :: r, st => match cd with
  | .skip => run c f n r st
  | .region _ ops draw => match order ops.toList draw with
   | some l => if guardsB ops.toList ∧ fixB ops.toList r ∧ (draw = false ∨ newsB ops.toList st = true) then steps c.P ops.toList l st fun st => run c f n r st.clear else .bad
   | none => .bad
  | .seq a b => run c f n (.code a :: .code b :: r) st
  | .cond x a b => match st.ev [] x with
   | some (.b (.b true)) => run c f n (.code a :: r) st
   | some (.b (.b false)) => run c f n (.code b :: r) st
   | some (.b e) => .test e (run c f n (.code a :: r) st) (run c f n (.code b :: r) st)
   | _ => .bad
  | .block id b => run c f n (.code b :: .blk id :: r) st
  | .exit id => match exitTo id r with
   | [.code (.exit _)] => .bad
   | r' => run c f n r' st
  | .ret => finish c st
  | .loop b => match (loopKey b).bind fun k => c.ann.find? (·.key == k) with
   | some an => match allSome (an.slots.map st.slot), allSome ((an.slots.map st.slot).map (·.bind SV.kind)), allSome (an.owns.map st.blk), allSome (an.owns.map st.cells) with
    | some xs, some sk, some os, some cs =>
     let dr := assigned b
     if nodupB an.slots ∧ nodupB an.owns ∧ an.slots.all (fun t => dr.contains t && decide (t < st.tmps.length)) ∧ kindsOk sk xs ∧ kindsOkL (os.map (·.ks)) cs then
     .loop n sk (os.map (·.ks)) xs cs fun x y => let h := st.head dr an.slots an.owns sk (os.map (·.ks)) x y; run c f (n + 1) (.code b :: .lp n an.slots an.owns sk (os.map (·.ks)) dr h.own :: r) h
     else .bad
    | _, _, _, _ => .bad
   | none => .bad
  | _ => .bad
 | f + 1, n, .blk _ :: r, st => run c f n r st
 | f + 1, n, .lp m slots owns sk oks _ hd :: r, st => match allSome (slots.map st.slot), allSome (owns.map st.cells), sameOwn owns 0 hd st.own with
  | some xs, some cs, some es => if kindsOk sk xs ∧ kindsOkL oks cs then .again m xs cs es else .bad
  | _, _, _ => .bad
def entry (n m : Nat) (args : List (SV V)) (giv : List (Nat × Own V)) : St V :=
 ⟨(args.map fun x => some ⟨[], .b true, x⟩) ++ List.replicate (n - args.length) none, giv.foldl (fun o g => o.set g.1 (some { g.2 with giv := true })) (List.replicate m none)⟩
def runFn (P : Program) (fn : Func) (body : Code) (ann : List Ann) (args : List (SV V)) (giv : List (Nat × Own V)) : Tree V :=
 run ⟨P, fn, giv.map (·.1), ann⟩ 1000 0 [.code body] (entry fn.ntmps (fn.ntmps + 8) args giv)
def bodyOf (fn : Func) : Code := fn.body.getD .skip
end
end Go.Proofs.YtpfbimkpcnnfkaaGreatDoor.Sx
