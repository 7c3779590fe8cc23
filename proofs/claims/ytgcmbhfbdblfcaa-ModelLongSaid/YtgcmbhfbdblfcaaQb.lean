/-
  The evaluator: the model's code over abstract values.
-/
import Derived.Test.YtgcmbhfbdblfcaaQa
import Derived.Orders
set_option linter.unusedVariables false
set_option linter.unusedSimpArgs false
namespace Go.Q

/-- How a region whose order is drawn is gone through: 'take' an operation that nothing hangs on, or 'alt': each of those that may come up. -/
inductive Plan where
  | done
  | take (i : Nat) (p : Plan)
  | alt (l : List (Nat × Plan))
  deriving Inhabited

structure Out where
  r : PV
  B : List (List PV)
  mods : List Nat

structure Cfg where
  P : Program
  Z : TypeId → List PV
  kill : FuncId → Nat → List Bool
  decl : FuncId → Option (List Nat)
  cons : FuncId → List Nat
  esc : FuncId → Bool
  plan : FuncId → Nat → Plan
  arr : FuncId → Nat → Bool
  eqT : TypeId → Option (List (Option IntKind))
  prim : FuncId → Option (List PV → List (List PV) → Option Out)

structure St where
  f : List PV
  B : List (List PV)
  fz : List Nat
  mods : List Nat

/-! ### Tags -/
def Tag.lin : Tag → Bool
  | .slot _ _ => true
  | .cell _ _ => true
  | _ => false
/-- Nothing is allowed any more but what needs no holder. -/
def Tag.roify (t : Tag) : Tag := if t.lin then .ro else t
def Tag.off (D : Tag → Bool) (t : Tag) : Tag := if D t then .ro else t
def PV.clean (p : PV) : PV := p.retag Tag.roify
/-- Every list within it is told as one that is read alone. -/
def PV.flat (p : PV) : PV := p.retag fun _ => .ro
def St.off (s : St) (D : Tag → Bool) : St := { s with f := s.f.map (PV.retag (Tag.off D)) }

def opv (f : List PV) : Operand → PV
  | .tmp t => f.getD t .any
  | .const v => .sc v
  | .global g => .sc (.pointer (some ⟨g, 0, none⟩))
  | .func k => .fn k []

def isAggT (P : Program) (t : TypeId) : Bool :=
  match P.underlying t with
  | some (.struct _) => true
  | some (.array _ _) => true
  | _ => false
def knownT (P : Program) (t : TypeId) : Bool := (P.underlying t).isSome && (P.info? t).isSome

/-- A nil slice that is a constant, told by its type. -/
def norm (C : Cfg) (t : TypeId) (p : PV) : PV :=
  match p with
  | .sc (.slice none 0 0) => match C.Z t with | [.list s .full []] => if 0 < s then .list s .full [] else p | _ => p
  | p => p

/-- cells as a variable's value -/
def packT (P : Program) (t : TypeId) (cs : List PV) : Option PV :=
  if isAggT P t then some (.agg cs) else match cs with | [c] => some c | _ => none

/-! ### Numbers -/
def scBin (op : BinOp) (x y : Value) : Option Value :=
  match x, y with
  | .int k a, .int k' b =>
    match op with
    | .shl => if b < 0 then none else some (.int k (k.wrap (a * 2 ^ min b.toNat k.bits)))
    | .shr => if b < 0 then none else some (.int k (a.fdiv (2 ^ min b.toNat k.bits)))
    | op => if k = k' then
      match op with
      | .add => some (.int k (k.wrap (a + b)))
      | .sub => some (.int k (k.wrap (a - b)))
      | .mul => some (.int k (k.wrap (a * b)))
      | .quo => if b = 0 then none else some (.int k (k.wrap (a.tdiv b)))
      | .rem => if b = 0 then none else some (.int k (a.tmod b))
      | .and => some (.int k (k.wrap (BitVec.ofInt k.bits a &&& BitVec.ofInt k.bits b).toNat))
      | .or => some (.int k (k.wrap (BitVec.ofInt k.bits a ||| BitVec.ofInt k.bits b).toNat))
      | .xor => some (.int k (k.wrap (BitVec.ofInt k.bits a ^^^ BitVec.ofInt k.bits b).toNat))
      | .eql => some (.bool (a == b))
      | .neq => some (.bool (a != b))
      | .lss => some (.bool (a < b))
      | .leq => some (.bool (a ≤ b))
      | .gtr => some (.bool (a > b))
      | .geq => some (.bool (a ≥ b))
      | _ => none
      else none
  | .string a, .string b =>
    match op with
    | .eql => some (.bool (a.toList == b.toList))
    | .neq => some (.bool (!(a.toList == b.toList)))
    | _ => none
  | _, _ => none

/-- Two rows of numbers and truths: are they the same? -/
def eqCells : List (Option IntKind) → List PV → List PV → Option Bool
  | [], [], [] => some true
  | some k :: ks, .sc (.int k1 a) :: xs, .sc (.int k2 b) :: ys => if k1 = k ∧ k2 = k then (eqCells ks xs ys).map (fun r => (a == b) && r) else none
  | none :: ks, .sc (.bool a) :: xs, .sc (.bool b) :: ys => (eqCells ks xs ys).map (fun r => (a == b) && r)
  | _, _, _ => none

def binPV (C : Cfg) (op : BinOp) (t : TypeId) (x y : PV) : Option PV :=
  match x, y with
  | .sc a, .sc b => (scBin op a b).map .sc
  | .agg xs, .agg ys => match C.eqT t with
    | some ks => match op with
      | .eql => (eqCells ks xs ys).map fun r => .sc (.bool r)
      | .neq => (eqCells ks xs ys).map fun r => .sc (.bool (!r))
      | _ => none
    | none => none
  | .ptr _ _, .sc (.pointer none) => match C.P.underlying t, op with
      | some (.pointer _), .eql => some (.sc (.bool false))
      | some (.pointer _), .neq => some (.sc (.bool true))
      | _, _ => none
  | _, _ => none

def unPV (op : UnOp) (x : PV) : Option PV :=
  match op, x with
  | .not, .sc (.bool b) => some (.sc (.bool (!b)))
  | .neg, .sc (.int k n) => some (.sc (.int k (k.wrap (0 - n))))
  | .xor, .sc (.int k n) => some (.sc (.int k (k.wrap (BitVec.ofInt k.bits (if k.signed then -1 else k.max) ^^^ BitVec.ofInt k.bits n).toNat)))
  | _, _ => none

/-- bytes as a string -/
def bytesOf : List PV → Option (List UInt8)
  | [] => some []
  | .sc (.int .u8 n) :: xs => (bytesOf xs).map (fun r => UInt8.ofNat n.toNat :: r)
  | _ => none

def convPV (P : Program) (src dst : TypeId) (x : PV) : Option PV :=
  match x, P.underlying src, P.underlying dst with
  | .sc (.int _ n), some _, some (.int k) => some (.sc (.int k (k.wrap n)))
  | .list sz _ xs, some (.slice e), some .string => match P.underlying e with
    | some (.int .u8) => if sz = 1 then (bytesOf xs).map fun l => .sc (.string ⟨l.toArray⟩) else none
    | _ => none
  | _, _, _ => none

/-! ### Places -/
def fieldOf (P : Program) (t : TypeId) (k : Nat) : Option (Nat × TypeId) :=
  match P.underlying t with
  | some (.struct fs) => match fs[k]? with
    | some f => if P.cellsOf f.type = 0 then none else some (f.offset, f.type)
    | none => none
  | _ => none

def fieldAddrPV (P : Program) (t : TypeId) (k : Nat) (x : PV) : Option PV :=
  match fieldOf P t k with
  | some (o, _) => match x with
    | .ptr id off => some (.ptr id (off + o))
    | .eptr cs => if o ≤ cs.length then some (.eptr (cs.drop o)) else none
    | _ => none
  | none => none

def fieldPV (P : Program) (t : TypeId) (k : Nat) (x : PV) : Option PV :=
  match fieldOf P t k, x with
  | some (o, ft), .agg cs => if o + P.cellsOf ft ≤ cs.length ∧ knownT P ft = true then packT P ft ((cs.drop o).take (P.cellsOf ft)) else none
  | _, _ => none

def asList (sz : Nat) : PV → Option (Tag × List PV)
  | .list sz' t xs => if sz' = sz then some (t, xs) else none
  | .sc (.slice none 0 0) => some (.full, [])
  | _ => none

def indexAddrPV (P : Program) (t : TypeId) (x i : PV) : Option PV :=
  match i with
  | .sc (.int _ n) =>
    match P.underlying t, x with
    | some (.slice e), .list sz _ xs => if 0 ≤ n ∧ n < xs.length ∧ sz = P.cellsOf e then (xs[n.toNat]?).map fun y => .eptr y.cells else none
    | some (.slice e), .arr id len => if 0 ≤ n ∧ n < len ∧ 1 = P.cellsOf e then some (.ptr id n.toNat) else none
    | some (.array len e), .ptr id off => if 0 ≤ n ∧ n < len ∧ 0 < P.cellsOf e then some (.ptr id (off + n.toNat * P.cellsOf e)) else none
    | some (.array len e), .eptr cs => if 0 ≤ n ∧ n < len ∧ 0 < P.cellsOf e ∧ n.toNat * P.cellsOf e ≤ cs.length then some (.eptr (cs.drop (n.toNat * P.cellsOf e))) else none
    | _, _ => none
  | _ => none

def indexPV (P : Program) (t : TypeId) (x i : PV) : Option PV :=
  match i, P.underlying t, x with
  | .sc (.int _ n), some (.array len e), .agg cs => if 0 ≤ n ∧ n < len ∧ knownT P e = true ∧ n.toNat * P.cellsOf e + P.cellsOf e ≤ cs.length then packT P e ((cs.drop (n.toNat * P.cellsOf e)).take (P.cellsOf e)) else none
  | _, _, _ => none

def lenPV (P : Program) (t : TypeId) (x : PV) : Option PV :=
  match P.underlying t, x with
  | some (.slice _), .list _ _ xs => some (.sc (.int .i64 xs.length))
  | some (.slice _), .arr _ n => some (.sc (.int .i64 n))
  | some (.slice _), .sc (.slice none 0 0) => some (.sc (.int .i64 0))
  | some .string, .sc (.string s) => some (.sc (.int .i64 s.size))
  | some (.array n _), _ => some (.sc (.int .i64 n))
  | _, _ => none

def minmaxPV (mx : Bool) : PV → List PV → Option PV
  | x, [] => some x
  | .sc (.int k a), .sc (.int k' b) :: ys => minmaxPV mx (.sc (.int k (if mx then (if b > a then b else a) else (if b < a then b else a)))) ys
  | _, _ => none

/-- What may stand in a variable's cell. -/
def PV.okCell : PV → Bool
  | .sc v => v.oneCell'
  | .list _ t _ => !t.lin
  | .ptr _ _ => true
  | .eptr _ => true
  | .fn _ _ => true
  | _ => false


def fillPV : List PV → List (Nat × Nat × List PV) → Option (List PV)
  | cs, [] => some cs
  | cs, (off, size, v) :: rest => if v.length = size ∧ off + size ≤ cs.length ∧ v.all PV.okCell = true then fillPV (cs.take off ++ v ++ cs.drop (off + size)) rest else none

def fieldParts (P : Program) (fs : Array Field) : List (Nat × PV) → Option (List (Nat × Nat × List PV))
  | [] => some []
  | (i, v) :: r => match fs[i]? with
    | some f => match fieldParts P fs r with
      | some l => some ((f.offset, P.cellsOf f.type, v.clean.cells) :: l)
      | none => none
    | none => none

def buildPV (C : Cfg) (t : TypeId) (parts : List (Nat × PV)) : Option PV :=
  if (C.Z t).isEmpty then none else
  match C.P.underlying t with
  | some (.struct fs) =>
    match fieldParts C.P fs parts with
    | some ps => (fillPV (C.Z t) ps).map .agg
    | none => none
  | some (.array _ e) => if C.P.cellsOf e = 0 then none else (fillPV (C.Z t) (parts.map fun (i, v) => (i * C.P.cellsOf e, C.P.cellsOf e, v.clean.cells))).map .agg
  | _ => none

def boundPV (n dflt : Nat) : Option PV → Option Nat
  | none => some dflt
  | some (.sc (.int _ h)) => if 0 ≤ h ∧ h ≤ n then some h.toNat else none
  | _ => none
def fullPV (h : Nat) : Option PV → Option Bool
  | none => some false
  | some (.sc (.int _ m)) => if m = h then some true else none
  | _ => none
/-- the bounds of a slice expression, over a list of so many -/
def cutPV (n : Nat) (lo hi mx : Option PV) : Option (Nat × Nat × Bool) :=
  if mx.isSome && hi.isNone then none else
  match boundPV n n hi with
  | none => none
  | some h => match fullPV h mx with
    | none => none
    | some fl => match boundPV h 0 lo with
      | none => none
      | some l => some (l, h, fl)

def slicePV (P : Program) (t : TypeId) (x : PV) (lo hi mx : Option PV) : Option PV :=
  match P.underlying t with
  | some (.slice e) => match asList (P.cellsOf e) x with
    | some (_, xs) => match cutPV xs.length lo hi mx with
      | some (l, h, fl) => if 0 < P.cellsOf e then some (.list (P.cellsOf e) (if fl then .full else .ro) ((xs.take h).drop l)) else none
      | none => none
    | none => none
  | _ => none

/-- What an operation makes that looks at its operands alone. -/
def pureOp (C : Cfg) (f : List PV) (o : Oper) : Option PV :=
  match o.op with
  | .move x => some (norm C o.type (opv f x))
  | .pick c a b => match opv f c with | .sc (.bool t) => some (if t then opv f a else opv f b) | _ => none
  | .build t parts => buildPV C t (parts.toList.map fun (i, x) => (i, opv f x))
  | .nilCheck x => match opv f x with | .ptr id off => some (.ptr id off) | .eptr cs => some (.eptr cs) | .fn g cap => some (.fn g cap) | _ => none
  | .binOp op t x y _ => binPV C op t (opv f x) (opv f y)
  | .unOp op _ x => unPV op (opv f x)
  | .convert src dst x => convPV C.P src dst (opv f x)
  | .makeFunc fn first captured => match fn with
    | .func g => if first = #[] then some (.fn g (captured.toList.map fun x => (opv f x).flat)) else none
    | _ => none
  | .fieldAddr s x k => fieldAddrPV C.P s k (opv f x)
  | .field t x k => fieldPV C.P t k (opv f x)
  | .indexAddr t x i => indexAddrPV C.P t (opv f x) (opv f i)
  | .index t x i => indexPV C.P t (opv f x) (opv f i)
  | .extract t i => match opv f t with | .tuple vs => vs[i]? | _ => none
  | .slice t x lo hi mx => slicePV C.P t (opv f x) (lo.map (opv f)) (hi.map (opv f)) (mx.map (opv f))
  | .call c => match c.callee with
    | .builtin .len => match c.args.toList, c.argTypes.toList with | [x], [t] => lenPV C.P t (opv f x) | _, _ => none
    | .builtin .min => match c.args.toList.map (opv f) with | x :: ys => minmaxPV false x ys | _ => none
    | .builtin .max => match c.args.toList.map (opv f) with | x :: ys => minmaxPV true x ys | _ => none
    | _ => none
  | _ => none

/-! ### Operations on memory -/
def loadOp (P : Program) (B : List (List PV)) (t : TypeId) (x : PV) : Option PV :=
  if knownT P t then
    match x with
    | .ptr id off => match B[id]? with
      | some cs => if off + P.cellsOf t ≤ cs.length then
          (if isAggT P t then some (.agg (((cs.drop off).take (P.cellsOf t)).map PV.clean)) else if P.cellsOf t = 1 then cs[off]? else none)
        else none
      | none => none
    | .eptr cs => if P.cellsOf t ≤ cs.length then (if isAggT P t then some (.agg (cs.take (P.cellsOf t))) else if P.cellsOf t = 1 then cs[0]? else none) else none
    | _ => none
  else none

/-- A value goes into the cells of a variable from 'off' on: its cells, and whose right is moved there. -/
def settle (id off : Nat) (p : PV) : List PV × Option Tag :=
  match p with
  | .list sz (.slot d k) xs => ([.list sz (.cell id off) xs], some (.slot d k))
  | p => (p.clean.cells, none)

def isTag (h : Option Tag) (t : Tag) : Bool := h == some t

def ofCellOf (id : Nat) (t : Tag) : Bool := match t with | .cell i _ => i == id | _ => false

def pushBox (s : St) (p : PV) : Option (PV × St) :=
  let id := s.B.length
  let (cs, h) := settle id 0 p
  if (p.clean.cells).all PV.okCell then
    some (.ptr id 0, { s.off (fun x => isTag h x || ofCellOf id x) with B := s.B ++ [cs] })
  else none

def storeOp (C : Cfg) (s : St) (t : TypeId) (a p : PV) : Option St :=
  match a with
  | .ptr id off =>
    match s.B[id]? with
    | some cs =>
      let (vs, h) := settle id off p
      if vs.length = C.P.cellsOf t ∧ (C.P.info? t).isSome = true ∧ 0 < vs.length ∧ off + vs.length ≤ cs.length ∧ (p.clean.cells).all PV.okCell = true ∧ id ∉ s.fz then
        some { s.off (fun x => isTag h x || ofCellOf id x) with B := s.B.set id (cs.take off ++ vs ++ cs.drop (off + vs.length)), mods := id :: s.mods }
      else none
    | none => none
  | _ => none

def maxLenQ : Nat := 4294967296

def appendOp (C : Cfg) (d : Nat) (s : St) (t : TypeId) (x y : PV) : Option (PV × St) :=
  match C.P.underlying t with
  | some (.slice e) =>
    match asList (C.P.cellsOf e) x, asList (C.P.cellsOf e) y with
    | some (tg, xs), some (_, ys) =>
      if 0 < C.P.cellsOf e ∧ C.P.bytesOf e ≤ 32768 ∧ xs.length + ys.length ≤ maxLenQ ∧ (C.Z e).length = C.P.cellsOf e then
        let s1 := s.off (fun h => h == tg || (match h with | .slot d' _ => d' == d | _ => false))
        match tg with
        | .ro => none
        | .full => some (.list (C.P.cellsOf e) (.slot d 0) (xs ++ ys), s1)
        | .slot _ _ => some (.list (C.P.cellsOf e) (.slot d 0) (xs ++ ys), s1)
        | .cell id off => match s.B[id]? with
          | some cs => some (.list (C.P.cellsOf e) (.slot d 0) (xs ++ ys), { s1 with B := s.B.set id (cs.modify off PV.flat), mods := id :: s.mods })
          | none => none
      else none
    | _, _ => none
  | _ => none

/-- A value is assigned to a variable that lies in a slot: the right to append goes with it. -/
def assignOp (C : Cfg) (d : Nat) (s : St) (t : TypeId) (x : PV) : PV × St :=
  match norm C t x with
  | .list sz .full xs => (.list sz (.slot d 0) xs, s.off fun h => match h with | .slot d' _ => d' == d | _ => false)
  | .list sz (.slot d0 k0) xs => (.list sz (.slot d 0) xs, s.off fun h => h == .slot d0 k0 || (match h with | .slot d' _ => d' == d | _ => false))
  | p => (p, s)

def makeSliceOp (C : Cfg) (fid d : Nat) (s : St) (t : TypeId) (l c : PV) : Option (PV × St) :=
  match C.P.underlying t, l, c with
  | some (.slice e), .sc (.int .i64 n), .sc (.int .i64 m) =>
    if n = m ∧ 0 ≤ n ∧ n ≤ maxLenQ ∧ C.P.bytesOf e ≤ 32768 ∧ (C.P.info? e).isSome = true ∧ C.Z e ≠ [] ∧ (C.Z e).length = C.P.cellsOf e then
      match C.arr fid d with
      | true => match C.Z e with
        | [z] => if z.okCell = true then some (.arr s.B.length n.toNat, { s with B := s.B ++ [List.replicate n.toNat z] }) else none
        | _ => none
      | false => match packT C.P e ((C.Z e).map PV.flat) with
        | some z => if PV.okElem (C.P.cellsOf e) z = true then some (.list (C.P.cellsOf e) .full (List.replicate n.toNat z), s) else none
        | none => none
    else none
  | _, _, _ => none

def buildSliceOp (C : Cfg) (s : St) (t : TypeId) (len : Nat) (parts : List (Nat × PV)) : Option (PV × St) :=
  match C.P.underlying t with
  | some (.slice e) =>
    if parts.map (·.1) = List.range len ∧ 0 < C.P.cellsOf e ∧ len * C.P.cellsOf e ≤ 16777216 ∧ (C.P.info? e).isSome = true ∧ (C.Z e).length = C.P.cellsOf e ∧ parts.all (fun x => PV.okElem (C.P.cellsOf e) x.2.flat) = true then
      some (.list (C.P.cellsOf e) .full (parts.map fun x => x.2.flat), s)
    else none
  | _ => none

/-- An array variable is sliced whole: it is not written any more. -/
def sliceArrOp (C : Cfg) (s : St) (t : TypeId) (x : PV) : Option (PV × St) :=
  match C.P.underlying t, x with
  | some (.array n e), .ptr id off =>
    match s.B[id]? with
    | some cs =>
      if off + n ≤ cs.length ∧ C.P.cellsOf e = 1 ∧ n ≤ maxLenQ ∧ ((cs.drop off).take n).all (fun c => c.flat.plain) = true then
        some (.list 1 .full (((cs.drop off).take n).map PV.flat), { s.off (ofCellOf id) with B := s.B.set id (cs.map PV.flat), fz := id :: s.fz })
      else none
    | none => none
  | _, _ => none

/-! ### Calls -/
def asArgs (cons : List Nat) (i : Nat) : List PV → List PV
  | [] => []
  | a :: as => (match a with
    | .list sz t xs => .list sz (if cons.contains i && t != .ro then .slot i 0 else .ro) xs
    | a => a.flat) :: asArgs cons (i + 1) as

def usedTags (cons : List Nat) (i : Nat) : List PV → List Tag
  | [] => []
  | a :: as => (match a with
    | .list _ t _ => if cons.contains i then [t] else []
    | _ => []) ++ usedTags cons (i + 1) as

/-- A result, as its caller's slot bears it. -/
def import1 (d k : Nat) (p : PV) : PV :=
  match p with
  | .list sz (.slot _ _) xs => .list sz (.slot d k) xs
  | p => p.flat
def importL (d k : Nat) : List PV → List PV
  | [] => []
  | c :: cs => import1 d k c :: importL d (k + 1) cs
def importR (d : Nat) (p : PV) : PV :=
  match p with
  | .tuple vs => .tuple (importL d 0 vs)
  | p => import1 d 0 p

def noDup : List Tag → Bool
  | [] => true
  | t :: ts => (!t.lin || !ts.contains t) && noDup ts

/-- A row that is handed over with the right to append to it is read alone by the variable that held it. -/
def unhold : List Tag → List (List PV) → List (List PV)
  | [], B => B
  | .cell id off :: ts, B => unhold ts (B.modify id fun cs => cs.modify off PV.flat)
  | _ :: ts, B => unhold ts B
def cellIds : List Tag → List Nat
  | [] => []
  | .cell id _ :: ts => id :: cellIds ts
  | _ :: ts => cellIds ts

def callOp (C : Cfg) (call : FuncId → List PV → List (List PV) → Option Out) (d : Nat) (s : St) (k : FuncId) (args : List PV) : Option (PV × St) :=
  match call k (asArgs (C.cons k) 0 args) (unhold (usedTags (C.cons k) 0 args) s.B) with
  | some o =>
    if o.mods.all (fun id => !s.fz.contains id) && noDup (usedTags (C.cons k) 0 args) then
    let used := usedTags (C.cons k) 0 args
    let s1 := s.off fun h => (used.contains h && h.lin) || (match h with | .slot d' _ => d' == d | .cell id _ => o.mods.contains id || (cellIds used).contains id || decide (s.B.length ≤ id) | _ => false)
    some (importR d o.r, { s1 with B := o.B, mods := (o.mods ++ cellIds used) ++ s.mods })
    else none
  | none => none

def stepOp (C : Cfg) (call : FuncId → List PV → List (List PV) → Option Out) (fid : Nat) (o : Oper) (s : St) : Option (PV × St) :=
  match o.op with
  | .assign x => some (assignOp C (o.dst.getD 0) s o.type (opv s.f x))
  | .load t x => (loadOp C.P s.B t (opv s.f x)).map fun p => (p, s)
  | .store t a x => (storeOp C s t (opv s.f a) (opv s.f x)).map fun s' => (.any, s')
  | .alloc e => if C.Z e ≠ [] then some (.ptr s.B.length 0, { s with B := s.B ++ [C.Z e] }) else none
  | .box e x => pushBox s (opv s.f x)
  | .makeSlice t l c => makeSliceOp C fid (o.dst.getD 0) s t (opv s.f l) (opv s.f c)
  | .buildSlice t len parts => buildSliceOp C s t len (parts.toList.map fun (i, x) => (i, opv s.f x))
  | .slice t x lo hi mx => match C.P.underlying t with
    | some (.array _ _) => match lo, hi, mx with | none, none, none => sliceArrOp C s t (opv s.f x) | _, _, _ => none
    | _ => (pureOp C s.f o).map fun p => (p, s)
  | .call c => match c.callee with
    | .builtin .append => match c.args.toList, c.argTypes.toList with | [x, y], [t, t'] => if t' = t then appendOp C (o.dst.getD 0) s t (opv s.f x) (opv s.f y) else none | _, _ => none
    | .builtin _ => (pureOp C s.f o).map fun p => (p, s)
    | .value (.func k) => callOp C call (o.dst.getD 0) s k (c.args.toList.map (opv s.f))
    | .value (.tmp t) => match s.f.getD t .any with
      | .fn k cap => callOp C call (o.dst.getD 0) s k (c.args.toList.map (opv s.f) ++ cap.map PV.flat)
      | _ => none
    | _ => none
  | _ => (pureOp C s.f o).map fun p => (p, s)

def St.put (s : St) (d : Option Nat) (p : PV) : St :=
  match d with
  | some d => { s with f := s.f.set d p }
  | none => s

/-- An operation with its guard. -/
def guardOp (C : Cfg) (call : FuncId → List PV → List (List PV) → Option Out) (fid : Nat) (ops : Array Oper) (o : Oper) (s : St) : Option St :=
  match o.guard with
  | none => (stepOp C call fid o s).map fun r => r.2.put o.dst r.1
  | some (j, want) =>
    match ((ops[j]?).bind (·.dst)).map fun t => s.f.getD t .any with
    | some (.sc (.bool b)) => if b = want then (stepOp C call fid o s).map fun r => r.2.put o.dst r.1 else some (s.put o.dst (.sc undef))
    | some (.sc (.tuple _)) => some (s.put o.dst (.sc undef))
    | _ => none

def runOps (C : Cfg) (call : FuncId → List PV → List (List PV) → Option Out) (fid : Nat) (ops : Array Oper) : List Oper → St → Option St
  | [], s => some s
  | o :: rest, s => match guardOp C call fid ops o s with
    | some s' => runOps C call fid ops rest s'
    | none => none

/-! ### Regions whose order is drawn -/
def pureKind (o : Oper) : Bool :=
  match o.op with
  | .assign _ => false
  | .load _ _ => false
  | .store _ _ _ => false
  | .alloc _ => false
  | .box _ _ => false
  | .makeSlice _ _ _ => false
  | .buildSlice _ _ _ => false
  | .call c => match c.callee with | .builtin .append => false | .builtin _ => true | _ => false
  | .slice _ _ lo hi mx => lo.isSome || hi.isSome || mx.isSome
  | .select _ _ => false
  | _ => true
/-- The box that a load looks into. -/
def loadId (f : List PV) (o : Oper) : Option Nat :=
  match o.op with
  | .load _ x => match opv f x with | .ptr id _ => some id | _ => none
  | _ => none
def isLoad (o : Oper) : Bool := match o.op with | .load _ _ => true | _ => false

open Classical in
/-- Two orders must come to the same. -/
noncomputable def joinAlts (last : Bool) (x y : Option (St × List Nat)) : Option (St × List Nat) :=
  match last, x, y with
  | true, x, _ => x
  | false, some r, some r' => if r'.1 = r.1 then some (r.1, r.2 ++ r'.2) else none
  | _, _, _ => none

mutual
/-- The state behind it, and which boxes were looked into by what was taken ahead. -/
noncomputable def runPlan (C : Cfg) (call : FuncId → List PV → List (List PV) → Option Out) (fid : Nat) (ops : Array Oper) : Plan → St → Option (St × List Nat)
  | .done, s => some (s, [])
  | .take i p, s => match ops[i]? with
    | some o => if (pureKind o || isLoad o) = true then
        match guardOp C call fid ops o s with
        | some s' => (runPlan C call fid ops p s').map fun r => (r.1, (loadId s.f o).toList ++ r.2)
        | none => none
      else none
    | none => none
  | .alt l, s => runAlts C call fid ops l s
noncomputable def runAlts (C : Cfg) (call : FuncId → List PV → List (List PV) → Option Out) (fid : Nat) (ops : Array Oper) : List (Nat × Plan) → St → Option (St × List Nat)
  | [], _ => none
  | (i, p) :: l, s => joinAlts l.isEmpty (match ops[i]? with
      | some o => match guardOp C call fid ops o s with
        | some s' => runPlan C call fid ops p s'
        | none => none
      | none => none) (runAlts C call fid ops l s)
end

mutual
def planOK (md : Region.Mode) (ops : Array Oper) (listed : Array Bool) : Plan → Bool
  | .done => Region.ready md ops listed == []
  | .take i p => (Region.ready md ops listed).contains i && Region.free md ops listed i && planOK md ops (listed.setIfInBounds i true) p
  | .alt l => (l.map (·.1) == Region.ready md ops listed) && altsOK md ops listed l
def altsOK (md : Region.Mode) (ops : Array Oper) (listed : Array Bool) : List (Nat × Plan) → Bool
  | [] => true
  | (i, p) :: l => planOK md ops (listed.setIfInBounds i true) p && altsOK md ops listed l
end

/-- Boxes that are changed between two states. -/
def newMods (s s' : St) : List Nat := s'.mods.take (s'.mods.length - s.mods.length)

noncomputable def runDraw (C : Cfg) (call : FuncId → List PV → List (List PV) → Option Out) (fid id : Nat) (ops : Array Oper) (s : St) : Option St :=
  match runPlan C call fid ops (C.plan fid id) s with
  | some (s', ld) => if ld.all (fun x => !(newMods s s').contains x) = true then some s' else none
  | none => none

/-- No plan is given. -/
def Plan.gap : Plan → Bool
  | .alt [] => true
  | _ => false
/-- The plans of all drawn regions serve. -/
def plansB (plan : Nat → Plan) : Code → Bool
  | .region id ops draw => !draw || (plan id).gap || (planOK .any ops (Array.replicate ops.size false) (plan id) && Region.noSelect ops)
  | .seq a b => plansB plan a && plansB plan b
  | .cond _ a b => plansB plan a && plansB plan b
  | .block _ c => plansB plan c
  | .loop c => plansB plan c
  | _ => true

/-! ### Code -/
inductive Ex where
  | normal
  | exit (id : Nat)
  | ret

abbrev R := Option (Ex × St)

/-- Of the variables that were changed, a value that leans on a variable that dies is not known any more. -/
def cutB (n : Nat) (mods : List Nat) (B : List (List PV)) : List (List PV) :=
  mods.foldl (fun B id => B.modify id fun cs => cs.map fun c => if c.under n = true then c else .any) (B.take n)

/-- What is not wanted any more is forgotten. -/
def maskF : List Bool → List PV → List PV
  | true :: bs, _ :: ps => .any :: maskF bs ps
  | false :: bs, p :: ps => p :: maskF bs ps
  | [], ps => ps
  | _ :: _, [] => []
def forget (kill : List Bool) (s : St) : St := { s with f := maskF kill s.f }
/-- What is changed beyond what was. -/
def newM (m0 m : List Nat) : List Nat := m.take (m.length - m0.length)
/-- Behind a round: what is not wanted any more is forgotten, and so are the variables that the round made. -/
def endRound (kill : List Bool) (n : Nat) (m0 : List Nat) (s : St) : St :=
  { f := ((maskF kill s.f).map fun p => if p.under n = true then p else .any).map (PV.retag (Tag.off fun h => match h with | .cell id _ => decide (n ≤ id) | _ => false)),
    B := cutB n s.mods s.B, fz := s.fz.filter (· < n), mods := (newM m0 s.mods).filter (· < n) ++ m0 }

/-- The rounds of a loop: at most so many. -/
noncomputable def loopN (body : St → R) : Nat → St → R
  | 0, _ => none
  | n + 1, s => match body s with
    | some (.normal, s') => loopN body n s'
    | r => r

open Classical in
/-- The rounds of a loop, as many as it takes. -/
noncomputable def loopW (body : St → R) (s : St) : R :=
  if h : ∃ n, (loopN body n s).isSome = true then loopN body h.choose s else none

noncomputable def evalCode (C : Cfg) (call : FuncId → List PV → List (List PV) → Option Out) (fid : Nat) : Code → Nat → St → R
  | .skip, _, s => some (.normal, s)
  | .label _, _, s => some (.normal, s)
  | .region id ops draw, _, s => (if draw then runDraw C call fid id ops s else runOps C call fid ops ops.toList s).map fun s' => (.normal, s')
  | .seq a b, bid, s => match evalCode C call fid a bid s with
    | some (.normal, s') => evalCode C call fid b bid s'
    | r => r
  | .cond c a b, bid, s => match opv s.f c with
    | .sc (.bool t) => if t then evalCode C call fid a bid s else evalCode C call fid b bid s
    | _ => none
  | .block id body, _, s => match evalCode C call fid body id s with
    | some (.exit j, s') => if j = id then some (.normal, s') else some (.exit j, s')
    | r => r
  | .loop body, bid, s => loopW (fun s1 => match evalCode C call fid body bid s1 with
      | some (.normal, s') => some (.normal, endRound (C.kill fid bid) s1.B.length s1.mods s')
      | r => r) (forget (C.kill fid bid) s)
  | .exit id, _, s => some (.exit id, s)
  | .ret, _, s => some (.ret, s)
  | _, _, _ => none

def exportL (k : Nat) : List PV → List PV
  | [] => []
  | c :: cs => (match c with
    | .list sz t xs => if t == .ro then .list sz .ro xs else .list sz (.slot 0 k) xs
    | c => c.flat) :: exportL (k + 1) cs

/-- A right to append goes out with a result if that bears it alone, and the variable dies. -/
def outTag (esc : Bool) (n0 : Nat) (t : Tag) : Tag := match t with | .cell id _ => if n0 ≤ id ∧ esc = false then t else .ro | t => t

/-- The array that a result is goes out as a row that isn't written any more. -/
def thaw (n0 : Nat) (B : List (List PV)) (p : PV) : PV :=
  match p with
  | .arr id n => match B[id]? with | some cs => if n0 ≤ id ∧ n = cs.length ∧ (cs.map PV.flat).all (PV.okElem 1) = true then .list 1 .full (cs.map PV.flat) else .any | none => .any
  | p => p

def tagOf : PV → Tag
  | .list _ t _ => t
  | _ => .ro

def getRes (C : Cfg) (s : St) (r : ResultVar) : Option PV :=
  match r with
  | .tmp t => some (s.f.getD t .any)
  | .cell a t => loadOp C.P s.B t (s.f.getD a .any)

/-- The results as one value. -/
def packOut (l : List PV) : PV := match l with | [v] => v | l => .tuple l

def results (C : Cfg) (fn : Func) (fid n0 : Nat) (s : St) : Option Out :=
  match fn.results.toList.mapM (getRes C s) with
  | none => none
  | some vs0 =>
    let vs := vs0.map (PV.retag (outTag (C.esc fid) n0))
    if noDup (vs.map tagOf) = true ∧ s.fz.all (fun i => decide (n0 ≤ i)) = true then
      if C.esc fid = true then
        (if s.fz = [] then some ⟨packOut (exportL 0 vs), s.B, s.mods.filter (· < n0)⟩ else none)
      else if PV.underL n0 (vs.map (thaw n0 s.B)) = true then some ⟨packOut (exportL 0 (vs.map (thaw n0 s.B))), cutB n0 s.mods s.B, s.mods.filter (· < n0)⟩ else none
    else none

/-- The boxes that a call may have changed, as its arguments tell them. -/
def declIds (args : List PV) (l : List Nat) : List Nat := l.filterMap fun j => (match args[j]? with | some (PV.ptr id _) => some id | _ => none : Option Nat)
def declR (d : Option (List Nat)) (r : Option Out) : Option Out := match d, r with
  | some l, some o => if o.mods.all (fun id => l.contains id) = true then some { o with mods := l } else none
  | _, r => r

noncomputable def evalFn (C : Cfg) (call : FuncId → List PV → List (List PV) → Option Out) (k : FuncId) (args : List PV) (B : List (List PV)) : Option Out :=
  match C.prim k with
  | some p => p args B
  | none =>
    match C.P.funcs[k]? with
    | none => none
    | some fn => match fn.body with
      | none => none
      | some c =>
        match evalCode C call k c 0 { f := args ++ List.replicate (fn.ntmps - args.length) .any, B := B, fz := [], mods := [] } with
        | some (.normal, s) => declR ((C.decl k).map (declIds args)) (results C fn k B.length s)
        | some (.ret, s) => declR ((C.decl k).map (declIds args)) (results C fn k B.length s)
        | _ => none

end Go.Q
