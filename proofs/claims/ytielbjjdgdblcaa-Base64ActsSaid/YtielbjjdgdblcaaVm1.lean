/- The pure values and the step function of a small program logic over the model: definitions alone. -/
import Derived.Calls
import Derived.Orders
import Derived.Laws.Rows
import Derived.Deep.MidRow
import Derived.Laws.IdiomCopy
import Derived.Laws.BytesString
import Derived.Laws.Strings
namespace Go.Proofs.Ytielbjjdgdblcaa.Vm
open Go

/-- A pure value: slices and strings by value, pointers by a number of an object and a place in it. -/
inductive PV where
  | int (k : IntKind) (n : Int)
  | bool (b : Bool)
  | str (s : List UInt8)
  | agg (cs : List PV)
  | tup (vs : List PV)
  | slice (z : Nat) (l : List PV)
  | ptr (p : Option (Nat × Nat))
  | os (id off n : Nat)
  | func (f : FuncId) (first caps : List PV)
  | nilfunc
  | opq
  deriving Inhabited

def PV.cells : PV → List PV
  | .agg cs => cs
  | v => [v]

/-- A value of one cell. -/
def PV.one : PV → Bool
  | .agg _ | .tup _ => false
  | _ => true

def PV.isAgg : PV → Bool
  | .agg _ => true
  | _ => false

def flat (l : List PV) : List PV := l.flatMap PV.cells

/-- An object that pointers lead to. -/
structure HObj where
  ty : TypeId
  cells : List PV

/-- What a temporary holds: a value, the address of a place in a local variable, or the address of cells that are known. -/
inductive Cl where
  | v (p : PV)
  | loc (s off : Nat)
  | elem (cs : List PV)
  | und
  deriving Inhabited

/-- The state of a call: temporaries, local variables in memory, objects that pointers lead to, and the places whose slice may be appended to (a temporary or a variable, the part of a tuple, the cell). -/
structure En where
  t : List (Nat × Cl)
  bx : List (Nat × PV)
  H : List HObj
  F : List (Nat × Nat × Nat)

def lkp {α : Type} : List (Nat × α) → Nat → Option α
  | [], _ => none
  | (k, v) :: r, x => if k = x then some v else lkp r x

def setb {α : Type} : List (Nat × α) → Nat → α → List (Nat × α)
  | [], x, a => [(x, a)]
  | (k, v) :: r, x, a => if k = x then (k, a) :: r else (k, v) :: setb r x a

/-! ### Types -/
inductive TD where
  | bool | int (k : IntKind) | str
  | slice (e z : Nat) (agg : Bool) (bytes : Nat)
  | struct (fields : List (Nat × Nat × Nat × Bool))   -- type, place, cells, whether it is an aggregate
  | arr (n e z : Nat) (agg : Bool)
  | ptr (e : Nat) | func | other

structure Ty where
  desc : TD
  size : Nat
  agg : Bool
  zero : Option PV
  eq : Option (List Nat)   -- of a struct that can be compared cell by cell: the kinds of its cells

def aggOf (P : Program) (t : TypeId) : Bool := match P.underlying t with | some (.struct _) | some (.array _ _) => true | _ => false

def zeroPV (P : Program) : Nat → TypeId → Option PV
  | 0, _ => none
  | d + 1, t => match P.underlying t with
    | some .bool => some (.bool false)
    | some (.int k) => some (.int k 0)
    | some .string => some (.str [])
    | some (.slice e) => some (.slice (P.cellsOf e) [])
    | some (.pointer _) => some (.ptr none)
    | some (.func ..) => some .nilfunc
    | some (.struct fs) => (fs.toList.foldr (fun f acc => match acc, zeroPV P d f.type with | some l, some p => some (p.cells ++ l) | _, _ => none) (some [])).map .agg
    | some (.array n e) => (zeroPV P d e).map fun p => .agg ((List.replicate n p.cells).flatten)
    | _ => some .opq

mutual
/-- Is a closed value what a pure value says, whatever the memory? -/
def vrc : PV → Value → Bool
  | .int k n, .int k' n' => k == k' && n == n'
  | .bool b, .bool b' => b == b'
  | .str s, .string s' => s == s'.data.toList
  | .agg cs, .agg vs => vrcs cs vs.toList
  | .slice _ [], .slice none 0 0 => true
  | .ptr none, .pointer none => true
  | .nilfunc, .nilFunc => true
  | .opq, v => v.oneCell'
  | _, _ => false
def vrcs : List PV → List Value → Bool
  | [], [] => true
  | p :: ps, v :: vs => vrc p v && vrcs ps vs
  | _, _ => false
end

def kdT : Option TypeDesc → Option Nat
  | some .bool => some 0
  | some (.int _) => some 1
  | some .string => some 2
  | _ => none

def PV.kd : PV → Nat
  | .bool _ => 0
  | .int _ _ => 1
  | .str _ => 2
  | _ => 9

def flatEq (P : Program) : Nat → List Field → Option (List Nat)
  | _, [] => some []
  | k, f :: r => match kdT (P.underlying f.type), flatEq P (k + 1) r with
    | some d, some l => if f.offset = k ∧ f.name ≠ "_" then some (d :: l) else none
    | _, _ => none

/-- The cells of a type that is known. -/
def cellsK (P : Program) (t : TypeId) : Nat := if (P.underlying t).isSome then P.cellsOf t else 0

def descOf (P : Program) : TypeDesc → TD
  | .bool => .bool
  | .int k => .int k
  | .string => .str
  | .slice e => (match P.info? e with | some ei => .slice e ei.size (aggOf P e) ei.bytes | none => .other)
  | .struct fs => .struct (fs.toList.map fun f => (f.type, f.offset, cellsK P f.type, aggOf P f.type))
  | .array n e => .arr n e (cellsK P e) (aggOf P e)
  | .pointer e => .ptr e
  | .func .. => .func
  | _ => .other

def partsK (P : Program) (t : TypeId) : Bool :=
  match P.underlying t with
  | some (.struct fs) => fs.toList.all fun f => (P.underlying f.type).isSome
  | some (.array _ e) => (P.underlying e).isSome
  | _ => true

def zeroOf (P : Program) (t : TypeId) (i : TypeInfo) : Option PV :=
  match i.zero, zeroPV P 20 t with
  | some z, some p => if vrc p z && z.cells.size == i.size && p.cells.length == i.size && partsK P t then some p else none
  | _, _ => none

def eqOf (P : Program) (t : TypeId) : TypeDesc → Option (List Nat)
  | .struct fs => if P.stoodInHeld t = false ∧ P.eqGuardType P.depth t = false then flatEq P 0 fs.toList else none
  | _ => none

def tyOf (P : Program) (t : TypeId) : Option Ty :=
  match P.underlying t, P.info? t with
  | some d, some i => some { size := i.size, agg := aggOf P t, zero := zeroOf P t i, eq := eqOf P t d, desc := descOf P d }
  | _, _ => none

/-! ### One operation -/
structure Ctx where
  P : Program
  box : List Nat
  esc : List Nat
  own : Bool
  fr : FuncId → List (Nat × Nat)
  n : Nat
  slots : List Nat

def cpv : Value → Option PV
  | .int k n => some (.int k n)
  | .bool b => some (.bool b)
  | .string s => some (.str s.data.toList)
  | .pointer none => some (.ptr none)
  | .nilFunc => some .nilfunc
  | _ => none

/-- An operand's value; a nil slice by its type. -/
def ev (P : Program) (e : En) (ty : TypeId) : Operand → Option PV
  | .tmp t => match lkp e.t t with | some (.v p) => some p | _ => none
  | .const (.slice none 0 0) => match tyOf P ty with | some ⟨.slice _ z _ _, _, _, _, _⟩ => some (.slice z []) | _ => none
  | .const v => cpv v
  | .func f => some (.func f [] [])
  | .global _ => none

def put (o : Oper) (c : Cl) (e : En) : En :=
  match o.dst with
  | some d => { e with t := (d, c) :: e.t }
  | none => e

def putv (o : Oper) (e : En) (r : Option PV) : Option En := r.map fun p => put o (.v p) e

/-- Where an address leads. -/
inductive Adr where
  | loc (s off : Nat)
  | elem (cs : List PV)
  | heap (id off : Nat)

def adr (e : En) : Operand → Option Adr
  | .tmp t => match lkp e.t t with
    | some (.loc s off) => some (.loc s off)
    | some (.elem cs) => some (.elem cs)
    | some (.v (.ptr (some (id, off)))) => some (.heap id off)
    | some _ => none
    | none => if (lkp e.bx t).isSome = true then some (.loc t 0) else none
  | _ => none

def mkv (agg : Bool) (n : Nat) (cs : List PV) : Option PV :=
  if cs.length = n then (if agg then some (.agg cs) else match cs with | [p] => some p | _ => none) else none

def loadA (e : En) (T : Ty) : Adr → Option PV
  | .loc s off => match lkp e.bx s with
    | some p => mkv T.agg T.size ((p.cells.drop off).take T.size)
    | none => none
  | .elem cs => mkv T.agg T.size (cs.take T.size)
  | .heap id off => match e.H[id]? with
    | some ob => mkv T.agg T.size ((ob.cells.drop off).take T.size)
    | none => none

def splice (cs : List PV) (off : Nat) (ns : List PV) : List PV := cs.take off ++ ns ++ cs.drop (off + ns.length)

def remk (p : PV) (cs : List PV) : PV := match p with | .agg _ => .agg cs | _ => match cs with | [q] => q | _ => .agg cs

def storeA (e : En) (T : Ty) (p : PV) : Adr → Option En
  | .loc s off => match lkp e.bx s with
    | some old => if p.cells.length = T.size ∧ (∀ c ∈ p.cells, c.one = true) ∧ off + T.size ≤ old.cells.length then
        some { e with bx := setb e.bx s (remk old (splice old.cells off p.cells)) } else none
    | none => none
  | .elem _ => none
  | .heap id off => match e.H[id]? with
    | some ob => if p.cells.length = T.size ∧ (∀ c ∈ p.cells, c.one = true) ∧ off + T.size ≤ ob.cells.length ∧ 0 < T.size then
        some { e with H := e.H.set id { ob with cells := splice ob.cells off p.cells } } else none
    | none => none

def noLoc (s : Nat) : List (Nat × Cl) → Bool
  | [] => true
  | (_, .loc s' _) :: r => s' != s && noLoc s r
  | _ :: r => noLoc s r

/-- A new variable. -/
def newVar (C : Ctx) (o : Oper) (e : En) (ty : TypeId) (p : PV) : Option En :=
  match o.dst with
  | none => none
  | some d =>
    if d ∈ C.box then (if noLoc d e.t = true ∧ (∀ c ∈ p.cells, c.one = true) then some { e with bx := setb e.bx d p } else none)
    else if d ∈ C.esc then (if (∀ c ∈ p.cells, c.one = true) then some { e with t := (d, .v (.ptr (some (e.H.length, 0)))) :: e.t, H := e.H ++ [⟨ty, p.cells⟩] } else none)
    else none

def fillP (place : Nat → Option (Nat × Nat)) (cells : List PV) : List (Nat × PV) → Option (List PV)
  | [] => some cells
  | (i, p) :: rest => match place i with
    | none => none
    | some (off, size) => if p.cells.length = size ∧ off + size ≤ cells.length then fillP place (splice cells off p.cells) rest else none

def evs (P : Program) (e : En) : List (TypeId × Operand) → Option (List PV)
  | [] => some []
  | (t, x) :: r => match ev P e t x, evs P e r with
    | some p, some ps => some (p :: ps)
    | _, _ => none

def evParts (P : Program) (e : En) (ty : Nat → Option TypeId) : List (Nat × Operand) → Option (List (Nat × PV))
  | [] => some []
  | (i, x) :: r => match ty i, evParts P e ty r with
    | some t, some ps => (match ev P e t x with | some p => some ((i, p) :: ps) | none => none)
    | _, _ => none

def eqc : PV → PV → Option Bool
  | .int k a, .int k' b => if k = k' then some (a == b) else none
  | .str a, .str b => some (a == b)
  | .bool a, .bool b => some (a == b)
  | _, _ => none

def eqcs : List PV → List PV → Option Bool
  | [], [] => some true
  | a :: as, b :: bs => match eqc a b, eqcs as bs with
    | some x, some y => some (x && y)
    | _, _ => none
  | _, _ => none

/-- '==' at a type. -/
def eqP (P : Program) (t : TypeId) (a b : PV) : Option Bool :=
  match tyOf P t, a, b with
  | some ⟨.bool, _, _, _, _⟩, .bool x, .bool y => some (x == y)
  | some ⟨.ptr _, _, _, _, _⟩, .ptr none, .ptr q => some q.isNone
  | some ⟨.ptr _, _, _, _, _⟩, .ptr (some _), .ptr none => some false
  | some ⟨.func, _, _, _, _⟩, .nilfunc, .nilfunc => some true
  | some ⟨.func, _, _, _, _⟩, .nilfunc, .func .. => some false
  | some ⟨.func, _, _, _, _⟩, .func .., .nilfunc => some false
  | some ⟨.struct _, _, _, _, some ks⟩, .agg xs, .agg ys => if xs.map PV.kd = ks ∧ ys.map PV.kd = ks then eqcs xs ys else none
  | _, _, _ => none

def bytesLt (a b : List UInt8) : Bool := Op.bytesLess a b

def binP (P : Program) (op : BinOp) (t : TypeId) (x y : PV) : Option PV :=
  match op, x, y with
  | .shl, .int k a, .int _ b => if 0 ≤ b then some (.int k (k.wrap (a * 2 ^ (min b.toNat k.bits)))) else none
  | .shr, .int k a, .int _ b => if 0 ≤ b then some (.int k (a.fdiv (2 ^ (min b.toNat k.bits)))) else none
  | .add, .int k a, .int k' b => if k = k' then some (.int k (k.wrap (a + b))) else none
  | .sub, .int k a, .int k' b => if k = k' then some (.int k (k.wrap (a - b))) else none
  | .mul, .int k a, .int k' b => if k = k' then some (.int k (k.wrap (a * b))) else none
  | .quo, .int k a, .int k' b => if k = k' ∧ b ≠ 0 then some (.int k (k.wrap (a.tdiv b))) else none
  | .rem, .int k a, .int k' b => if k = k' ∧ b ≠ 0 then some (.int k (a.tmod b)) else none
  | .and, .int k a, .int k' b => if k = k' then some (.int k (k.wrap (BitVec.ofInt k.bits a &&& BitVec.ofInt k.bits b).toNat)) else none
  | .or, .int k a, .int k' b => if k = k' then some (.int k (k.wrap (BitVec.ofInt k.bits a ||| BitVec.ofInt k.bits b).toNat)) else none
  | .xor, .int k a, .int k' b => if k = k' then some (.int k (k.wrap (BitVec.ofInt k.bits a ^^^ BitVec.ofInt k.bits b).toNat)) else none
  | .andNot, .int k a, .int k' b => if k = k' then some (.int k (k.wrap (BitVec.ofInt k.bits a &&& ~~~ BitVec.ofInt k.bits b).toNat)) else none
  | .eql, .int k a, .int k' b => if k = k' then some (.bool (a == b)) else none
  | .neq, .int k a, .int k' b => if k = k' then some (.bool (a != b)) else none
  | .lss, .int k a, .int k' b => if k = k' then some (.bool (decide (a < b))) else none
  | .leq, .int k a, .int k' b => if k = k' then some (.bool (decide (a ≤ b))) else none
  | .gtr, .int k a, .int k' b => if k = k' then some (.bool (decide (a > b))) else none
  | .geq, .int k a, .int k' b => if k = k' then some (.bool (decide (a ≥ b))) else none
  | .add, .str a, .str b => if a.length + b.length ≤ 4611686018427387904 then some (.str (a ++ b)) else none
  | .eql, .str a, .str b => some (.bool (a == b))
  | .neq, .str a, .str b => some (.bool (!(a == b)))
  | .lss, .str a, .str b => some (.bool (bytesLt a b))
  | .leq, .str a, .str b => some (.bool (bytesLt a b || a == b))
  | .gtr, .str a, .str b => some (.bool (!(bytesLt a b || a == b)))
  | .geq, .str a, .str b => some (.bool (!bytesLt a b))
  | .eql, a, b => (eqP P t a b).map .bool
  | .neq, a, b => (eqP P t a b).map fun x => .bool !x
  | _, _, _ => none

def unP : UnOp → PV → Option PV
  | .neg, .int k n => some (.int k (k.wrap (0 - n)))
  | .xor, .int k n => some (.int k (k.wrap (BitVec.ofInt k.bits (if k.signed then -1 else k.max) ^^^ BitVec.ofInt k.bits n).toNat))
  | .not, .bool b => some (.bool !b)
  | _, _ => none

def byteP (b : UInt8) : PV := .int .u8 b.toNat
def unbyte : PV → Option UInt8
  | .int .u8 n => some (UInt8.ofNat n.toNat)
  | _ => none
def unbytes : List PV → Option (List UInt8)
  | [] => some []
  | p :: r => match unbyte p, unbytes r with | some b, some s => some (b :: s) | _, _ => none

def convP (P : Program) (s d : TypeId) (x : PV) : Option PV :=
  match tyOf P s, tyOf P d, x with
  | some ⟨.int _, _, _, _, _⟩, some ⟨.int k, _, _, _, _⟩, .int _ n => some (.int k (k.wrap n))
  | some ⟨.str, _, _, _, _⟩, some ⟨.str, _, _, _, _⟩, .str s => some (.str s)
  | some ⟨.str, _, _, _, _⟩, some ⟨.slice e _ _ _, _, _, _, _⟩, .str s => match tyOf P e with
    | some ⟨.int .u8, 1, _, _, _⟩ => some (.slice 1 (s.map byteP))
    | _ => none
  | some ⟨.slice e _ _ _, _, _, _, _⟩, some ⟨.str, _, _, _, _⟩, .slice _ l => match tyOf P e with
    | some ⟨.int .u8, _, _, _, _⟩ => (unbytes l).map .str
    | _ => none
  | some ⟨.int _, _, _, _, _⟩, some ⟨.str, _, _, _, _⟩, .int _ n => some (.str (Utf8.encode n).data.toList)
  | _, _, _ => none

def hiB (len cap : Nat) : Option PV → Option Nat
  | some (.int _ i) => if 0 ≤ i ∧ i ≤ cap then some i.toNat else none
  | some _ => none
  | none => some len

def loB (h : Nat) : Option PV → Option Nat
  | some (.int _ i) => if 0 ≤ i ∧ i ≤ h then some i.toNat else none
  | some _ => none
  | none => some 0

/-- The bounds of a slice expression: nothing where the call would die. -/
def bounds (len cap : Nat) (lo hi : Option PV) : Option (Nat × Nat) :=
  match hiB len cap hi with
  | some h => (match loB h lo with | some l => some (l, h) | none => none)
  | none => none

def evO (P : Program) (e : En) : Option Operand → Option (Option PV)
  | none => some none
  | some x => (ev P e 0 x).map some

def roomy : Nat := 35184372088832   -- 2^45

/-- One operation that is no call of a Go function. -/
def stepO (C : Ctx) (o : Oper) (e : En) : Option En :=
  match o.op with
  | .move x | .assign x => putv o e (ev C.P e o.type x)
  | .pick c a b => match ev C.P e 0 c with
    | some (.bool c) => if c = true then putv o e (ev C.P e o.type a) else putv o e (ev C.P e o.type b)
    | _ => none
  | .alloc ty => match tyOf C.P ty with
    | some T => (match T.zero with | some p => newVar C o e ty p | none => none)
    | none => none
  | .box ty x => match tyOf C.P ty, ev C.P e ty x with
    | some T, some p => if p.cells.length = T.size ∧ p.isAgg = T.agg then newVar C o e ty p else none
    | _, _ => none
  | .build ty ps => match tyOf C.P ty with
    | some ⟨.struct fs, _, _, some z, _⟩ =>
      (match evParts C.P e (fun i => (fs[i]?).map (·.1)) ps.toList with
      | some ps => putv o e ((fillP (fun i => (fs[i]?).map fun f => (f.2.1, f.2.2.1)) z.cells ps).map .agg)
      | none => none)
    | some ⟨.arr _ el w _, _, _, some z, _⟩ =>
      (match evParts C.P e (fun _ => some el) ps.toList with
      | some ps => putv o e ((fillP (fun i => some (i * w, w)) z.cells ps).map .agg)
      | none => none)
    | _ => none
  | .buildSlice ty n ps => match tyOf C.P ty with
    | some ⟨.slice el w _ _, _, _, _, _⟩ => (match tyOf C.P el, evParts C.P e (fun _ => some el) ps.toList with
      | some ⟨_, _, _, some _, _⟩, some qs => if qs.map (·.1) = List.range n ∧ n * w ≤ 16777216 ∧ 0 < w ∧ (∀ q ∈ qs, q.2.cells.length = w ∧ ∀ c ∈ q.2.cells, c.one = true) then putv o e (some (.slice w (qs.map (·.2)))) else none
      | _, _ => none)
    | _ => none
  | .load ty a => match tyOf C.P ty, adr e a with
    | some T, some A => putv o e (loadA e T A)
    | _, _ => none
  | .store ty a x => match tyOf C.P ty, adr e a, ev C.P e ty x with
    | some T, some A, some p => storeA e T p A
    | _, _, _ => none
  | .nilCheck x => match ev C.P e 0 x with
    | some (.ptr (some p)) => putv o e (some (.ptr (some p)))
    | _ => none
  | .binOp op ty x y yt => match ev C.P e ty x, ev C.P e yt y with
    | some p, some q => putv o e (binP C.P op ty p q)
    | _, _ => none
  | .unOp op _ x => match ev C.P e 0 x with
    | some p => putv o e (unP op p)
    | none => none
  | .convert s d x => match ev C.P e s x with
    | some p => putv o e (convP C.P s d p)
    | none => none
  | .makeFunc (.func f) first caps => match evs C.P e (first.toList.map fun x => (0, x)), evs C.P e (caps.toList.map fun x => (0, x)) with
    | some ps, some qs => putv o e (some (.func f ps qs))
    | _, _ => none
  | .makeSlice ty l c => match tyOf C.P ty, ev C.P e 0 l, ev C.P e 0 c with
    | some ⟨.slice el w _ by_, _, _, _, _⟩, some (.int .i64 l), some (.int .i64 c) => (match tyOf C.P el with
      | some ⟨_, _, _, some z, _⟩ => if 0 ≤ l ∧ l ≤ c ∧ c * by_ ≤ roomy ∧ c ≤ roomy ∧ 0 < w ∧ (∀ c ∈ z.cells, c.one = true) then putv o e (some (.slice w (List.replicate l.toNat z))) else none
      | _ => none)
    | _, _, _ => none
  | .slice ty x lo hi mx => match tyOf C.P ty, ev C.P e ty x, evO C.P e lo, evO C.P e hi, evO C.P e mx with
    | some ⟨.str, _, _, _, _⟩, some (.str s), some lo, some hi, some none => (match bounds s.length s.length lo hi with
      | some (l, h) => putv o e (some (.str ((s.take h).drop l)))
      | none => none)
    | some ⟨.slice _ z _ _, _, _, _, _⟩, some (.slice w s), some lo, some hi, some none => (match bounds s.length s.length lo hi with
      | some (l, h) => if w = z then putv o e (some (.slice w ((s.take h).drop l))) else none
      | none => none)
    | some ⟨.slice _ z _ _, _, _, _, _⟩, some (.slice w s), some lo, some (some (.int k h)), some (some (.int k' m)) => (match bounds s.length s.length lo (some (.int k h)) with
      | some (l, h') => if h = m ∧ k = k' ∧ w = z then putv o e (some (.slice w ((s.take h').drop l))) else none
      | none => none)
    | _, _, _, _, _ => none
  | .fieldAddr ty x i => match tyOf C.P ty, adr e x with
    | some ⟨.struct fs, _, _, _, _⟩, some A => (match fs[i]? with
      | some (_, off, n, _) => if n = 0 then none else (match A with
        | .loc s b => some (put o (.loc s (b + off)) e)
        | .elem cs => some (put o (.elem (cs.drop off)) e)
        | .heap id b => some (put o (.v (.ptr (some (id, b + off)))) e))
      | none => none)
    | _, _ => none
  | .field ty x i => match tyOf C.P ty, ev C.P e ty x with
    | some ⟨.struct fs, _, _, _, _⟩, some (.agg cs) => (match fs[i]? with
      | some (_, off, n, g) => if off + n ≤ cs.length then putv o e (mkv g n ((cs.drop off).take n)) else none
      | none => none)
    | _, _ => none
  | .indexAddr ty x ix => match tyOf C.P ty, ev C.P e 0 ix with
    | some ⟨.arr n _ w _, _, _, _, _⟩, some (.int _ i) => (match adr e x with
      | some A => if (0 ≤ i ∧ i < n) ∧ 0 < w then (match A with
        | .loc s b => some (put o (.loc s (b + i.toNat * w)) e)
        | .elem cs => some (put o (.elem (cs.drop (i.toNat * w))) e)
        | .heap id b => some (put o (.v (.ptr (some (id, b + i.toNat * w)))) e)) else none
      | none => none)
    | some ⟨.slice _ w _ _, _, _, _, _⟩, some (.int _ i) => (match ev C.P e ty x with
      | some (.slice w' l) => if w' = w ∧ 0 ≤ i then (match l[i.toNat]? with
        | some p => some (put o (.elem p.cells) e)
        | none => none) else none
      | _ => none)
    | _, _ => none
  | .index ty x ix => match tyOf C.P ty, ev C.P e ty x, ev C.P e 0 ix with
    | some ⟨.arr n _ w g, _, _, _, _⟩, some (.agg cs), some (.int _ i) => if 0 ≤ i ∧ i < n ∧ i.toNat * w + w ≤ cs.length then putv o e (mkv g w ((cs.drop (i.toNat * w)).take w)) else none
    | some ⟨.str, _, _, _, _⟩, some (.str s), some (.int _ i) => if 0 ≤ i then (match s[i.toNat]? with
        | some b => putv o e (some (byteP b))
        | none => none) else none
    | _, _, _ => none
  | .extract x i => match ev C.P e 0 x with
    | some (.tup vs) => (match vs[i]? with | some (.tup _) => none | p => putv o e p)
    | _ => none
  | .call { callee := .builtin .len, args, argTypes } => match args[0]?, argTypes[0]? with
    | some x, some ty => (match tyOf C.P ty, ev C.P e ty x with
      | some ⟨.str, _, _, _, _⟩, some (.str s) => putv o e (some (.int .i64 s.length))
      | some ⟨.slice _ _ _ _, _, _, _, _⟩, some (.slice _ l) => putv o e (some (.int .i64 l.length))
      | _, _ => none)
    | _, _ => none
  | .call { callee := .builtin .min, args, argTypes := _ } => match evs C.P e (args.toList.map fun x => (0, x)) with
    | some [.int k a, .int _ b] => putv o e (some (.int k (if b < a then b else a)))
    | _ => none
  | .call { callee := .builtin .max, args, argTypes := _ } => match evs C.P e (args.toList.map fun x => (0, x)) with
    | some [.int k a, .int _ b] => putv o e (some (.int k (if b > a then b else a)))
    | _ => none
  | .call { callee := .builtin .append, args, argTypes } => match args.toList, argTypes.toList with
    | [x, y], [tx, ty] => (match tyOf C.P tx, ev C.P e tx x with
      | some ⟨.slice el w _ by_, _, _, _, _⟩, some (.slice w' l) => if ((tyOf C.P el).bind Ty.zero).isSome = true then (match tyOf C.P ty, ev C.P e ty y with
        | some ⟨.slice _ _ _ _, _, _, _, _⟩, some (.slice w2 m) =>
          if w' = w ∧ w2 = w ∧ 0 < w ∧ (l.length + m.length) * (by_ + w) ≤ roomy then putv o e (some (.slice w (l ++ m))) else none
        | some ⟨.str, _, _, _, _⟩, some (.str s) =>
          if w' = w ∧ w = 1 ∧ (l.length + s.length) * (by_ + 1) ≤ roomy then putv o e (some (.slice w (l ++ s.map byteP))) else none
        | _, _ => none) else none
      | _, _ => none)
    | _, _ => none
  | _ => none

def rmF (d : Nat) (F : List (Nat × Nat × Nat)) : List (Nat × Nat × Nat) := F.filter fun l => l.1 != d

/-- Ownership moves from a temporary to another one. -/
def mvF (s d : Nat) (F : List (Nat × Nat × Nat)) : List (Nat × Nat × Nat) :=
  (rmF d F).map fun l => if l.1 = s then (d, l.2) else l

def inRange (s off n : Nat) (l : Nat × Nat × Nat) : Bool := l.1 == s && l.2.1 == 0 && decide (off ≤ l.2.2) && decide (l.2.2 < off + n)

def inRangeS (s off n : Nat) (l : Nat × Nat × Nat) : Bool := l.1 == s && decide (off ≤ l.2.2) && decide (l.2.2 < off + n)

def sliceCells : Nat → List PV → List Nat
  | _, [] => []
  | i, .slice _ _ :: r => i :: sliceCells (i + 1) r
  | i, _ :: r => sliceCells (i + 1) r

def isNil : Operand → Bool
  | .const (.slice none 0 0) => true
  | _ => false

/-- May the operation's append go on? -/
def appOk (C : Ctx) (o : Oper) (e : En) : Bool :=
  match o.op with
  | .call { callee := .builtin .append, args, argTypes := _ } => C.own && o.dst.isSome && (match (args[0]? : Option Operand) with
    | some (.tmp s) => e.F.contains (s, 0, 0) && o.dst != some s
    | some x => isNil x
    | none => false)
  | _ => true

/-- Who may append behind an operation. -/
def fnext (C : Ctx) (tr : Bool) (o : Oper) (e : En) : List (Nat × Nat × Nat) :=
  if C.own = false then [] else
  match o.op, o.dst with
  | .move x, some d | .assign x, some d => (match x with
    | .tmp s => if (tr = true ∧ s ≠ d) then mvF s d e.F else rmF d e.F
    | x => if isNil x then (d, 0, 0) :: rmF d e.F else rmF d e.F)
  | .extract (.tmp s) i, some d => if s ≠ d then (rmF d e.F).map fun l => if l.1 = s ∧ l.2.1 = i then (d, 0, l.2.2) else l else rmF d e.F
  | .load ty a, some d => (match tyOf C.P ty, adr e a with
    | some T, some (.loc s off) => if tr = true ∧ s ≠ d then (rmF d e.F).map fun l => if inRange s off T.size l then (d, 0, l.2.2 - off) else l else rmF d e.F
    | _, _ => rmF d e.F)
  | .store ty a x, _ => (match tyOf C.P ty, adr e a with
    | some T, some (.loc s off) => (match x with
      | .tmp x => if x ≠ s then (e.F.filter fun l => !inRangeS s off T.size l).map fun l => if l.1 = x ∧ l.2.1 = 0 ∧ l.2.2 < T.size then (s, 0, off + l.2.2) else l else e.F.filter fun l => !inRangeS s off T.size l
      | x => if isNil x then (s, 0, off) :: e.F.filter fun l => !inRangeS s off T.size l else e.F.filter fun l => !inRangeS s off T.size l)
    | _, _ => e.F)
  | .alloc ty, some d => if d ∈ C.box then (match tyOf C.P ty with
    | some ⟨_, _, _, some z, _⟩ => (sliceCells 0 z.cells).map (fun k => (d, 0, k)) ++ rmF d e.F
    | _ => rmF d e.F) else rmF d e.F
  | .box _ (.tmp s), some d => if d ∈ C.box ∧ s ≠ d then (rmF d e.F).map fun l => if l.1 = s ∧ l.2.1 = 0 then (d, l.2) else l else rmF d e.F
  | .makeSlice .., some d | .buildSlice .., some d => (d, 0, 0) :: rmF d e.F
  | .convert s t _, some d => (match tyOf C.P s, tyOf C.P t with
    | some ⟨.str, _, _, _, _⟩, some ⟨.slice _ _ _ _, _, _, _, _⟩ => (d, 0, 0) :: rmF d e.F
    | _, _ => rmF d e.F)
  | .slice _ _ _ (some _) (some _), some d => (d, 0, 0) :: rmF d e.F
  | .call { callee := .builtin .append, args, argTypes := _ }, some d => (d, 0, 0) :: rmF d (match (args[0]? : Option Operand) with | some (.tmp s) => rmF s e.F | _ => e.F)
  | .call { callee := .value (.func f), .. }, some d => (C.fr f).map (fun l => (d, l)) ++ rmF d e.F
  | _, some d => rmF d e.F
  | _, none => e.F

def stepF (C : Ctx) (tr : Bool) (o : Oper) (e : En) : Option En :=
  if appOk C o e = true then (stepO C o e).map fun e' => { e' with F := fnext C tr o e } else none

/-- The Go function that an operation calls, and its arguments. -/
def callOf (C : Ctx) (o : Oper) (e : En) : Option (FuncId × List PV) :=
  match o.op with
  | .call { callee := .value f, args, argTypes } => match ev C.P e 0 f, evs C.P e (List.zip argTypes.toList args.toList) with
    | some (.func f first caps), some ps => if argTypes.toList.length = args.toList.length then some (f, first ++ ps ++ caps) else none
    | _, _ => none
  | _ => none

end Go.Proofs.Ytielbjjdgdblcaa.Vm
