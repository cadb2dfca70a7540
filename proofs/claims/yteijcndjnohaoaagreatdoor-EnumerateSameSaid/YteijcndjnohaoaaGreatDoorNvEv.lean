/- An abstract evaluator of the loaded code: memory by symbolic blocks, no tape. Definitions only; NvSound proves that what it computes is what a call does. -/
import GoSem.Dispatch
import Derived.Orders
import GoSem.Core.Layout
set_option linter.all false
set_option linter.unusedVariables false
set_option linter.unusedSimpArgs false
namespace Go.Nv
open Go

/-- A trie keyed by numbers. -/
inductive PT (α : Type) where
  | leaf : PT α
  | node (v : Option α) (l r : PT α) : PT α

namespace PT
variable {α : Type}
def get : PT α → Nat → Option α
  | .leaf, _ => none
  | .node v l r, n => match n with
    | 0 => v
    | m + 1 => match m % 2 with
      | 0 => l.get (m / 2)
      | _ => r.get (m / 2)
def setF : Nat → PT α → Nat → Option α → PT α
  | 0, t, _, _ => t
  | f + 1, t, n, x => match t with
    | .leaf => (match n with
      | 0 => .node x .leaf .leaf
      | m + 1 => (match m % 2 with
        | 0 => .node none (setF f .leaf (m / 2) x) .leaf
        | _ => .node none .leaf (setF f .leaf (m / 2) x)))
    | .node v l r => (match n with
      | 0 => .node x l r
      | m + 1 => (match m % 2 with
        | 0 => .node v (setF f l (m / 2) x) r
        | _ => .node v l (setF f r (m / 2) x)))
def set (t : PT α) (n : Nat) (x : Option α) : PT α := setF (n + 1) t n x
end PT

/-- Values: what lies in immutable memory is held in place (pptr, psl). -/
inductive AV where
  | bool (b : Bool)
  | int (k : IntKind) (n : Int)
  | str (s : List UInt8)
  | nilp
  | ptr (b o : Nat)
  | pptr (cs : List AV)
  | snil
  | sref (b o len sz : Nat)
  | psl (len sz : Nat) (cs : List AV)
  | nilm
  | mref (b : Nat)
  | nilf
  | fn (f : Nat) (first caps : List AV)
  | yld (b : Nat)
  | nili
  | iface (t : Nat) (v : AV)
  | agg (cs : List AV)
  | tup (vs : List AV)
  deriving Inhabited

inductive Jmp where
  | ret
  | exit (id : Nat)

structure LR where
  tmps : PT AV
  sz : Nat
  params : List Nat
  assign : Code
  body : Code
  st : Nat
  pend : Option Jmp

inductive ABlk where
  /-- Cells of elements of type ty; v: a variable of its own, all of it. -/
  | cells (ty : TypeId) (v : Bool) (cs : List AV)
  | mapb (es : List (AV × AV))
  | loop (r : LR)
  | defs
  | iter (m : Nat)

structure Heap where
  t : PT ABlk
  next : Nat

def Heap.empty : Heap := ⟨.leaf, 0⟩
def Heap.get (σ : Heap) (b : Nat) : Option ABlk := σ.t.get b
def Heap.set (σ : Heap) (b : Nat) (x : ABlk) : Heap := ⟨σ.t.set b (some x), σ.next⟩
def Heap.del (σ : Heap) (b : Nat) : Heap := ⟨σ.t.set b none, σ.next⟩
def Heap.bump (σ : Heap) (n : Nat) : Heap := ⟨σ.t, σ.next + n⟩

/-- What a frame does on its way out: a mark of a range over a function; a deferred call. -/
inductive Df where
  | mark (b : Nat)
  | call (f : Nat) (args : List AV)

structure AF where
  tmps : PT AV
  sz : Nat
  dfs : List Df
  rd : Option Nat

inductive AX where
  | norm
  | exit (id : Nat)
  | ret
  | pan (t : Nat) (v : AV)

/-- How a call ends: with a value, or with a panic of a value of type t. -/
inductive CR where
  | ret (v : AV)
  | pan (t : Nat) (v : AV)

inductive Mode where
  | heap | pure | fresh | eat | same
  deriving DecidableEq

structure Cfg where
  mode : Nat → Mode
  memo : Nat → List AV → Option AV
  glob : Nat → Option AV

def undefA : AV := .tup []

def AV.cells : AV → List AV
  | .agg cs => cs
  | v => [v]

def AV.oneC : AV → Bool
  | .agg _ | .tup _ => false
  | _ => true

/-- A constant of the code. -/
def scal : Value → Option AV
  | .bool b => some (.bool b)
  | .int k n => some (.int k n)
  | .string s => some (.str s.data.toList)
  | .pointer none => some .nilp
  | .slice none 0 0 => some .snil
  | .map none => some .nilm
  | .nilFunc => some .nilf
  | .nilIface => some .nili
  | _ => none
def scalL : List Value → Option (List AV)
  | [] => some []
  | v :: vs => (scal v).bind fun x => (scalL vs).bind fun xs => some (x :: xs)
def ofConst : Value → Option AV
  | .agg cs => (scalL cs.toList).bind fun xs => some (.agg xs)
  | .tuple vs => (match vs.toList with | [] => some (.tup []) | _ => none)
  | v => scal v

def AF.val (C : Cfg) (fr : AF) : Operand → Option AV
  | .tmp t => fr.tmps.get t
  | .const v => ofConst v
  | .global g => C.glob g
  | .func f => some (.fn f [] [])

def AF.put (fr : AF) (d : Option Tmp) (v : AV) : AF := match d with
  | none => fr
  | some d => { fr with tmps := fr.tmps.set d (some v) }

def dstOk (o : Oper) (sz : Nat) : Bool := match o.dst with
  | none => true
  | some d => Nat.blt d sz

def mapO {α β : Type} (f : α → Option β) : List α → Option (List β)
  | [] => some []
  | x :: xs => (f x).bind fun y => (mapO f xs).bind fun ys => some (y :: ys)

/-! ### Types -/
def tSize (P : Program) (t : TypeId) : Option Nat := (P.info? t).bind fun i => some i.size
def tBytes (P : Program) (t : TypeId) : Option Nat := (P.info? t).bind fun i => some i.bytes
def tAgg (P : Program) (t : TypeId) : Option Bool := (P.underlying t).bind fun d => some (match d with
  | .struct _ | .array _ _ => true
  | _ => false)
def tZero (P : Program) (t : TypeId) : Option AV := (P.info? t).bind fun i => i.zero.bind ofConst
def tElem (P : Program) (t : TypeId) : Option TypeId := (P.underlying t).bind fun d => match d with
  | .slice e => some e
  | _ => none
def tField (P : Program) (t : TypeId) (f : Nat) : Option Field := (P.underlying t).bind fun d => match d with
  | .struct fs => fs[f]?
  | _ => none

/-! ### Numbers -/
def small : Nat := 9223372036854775807
def wrapF (k : IntKind) (n : Int) : Int := match k with
  | .i64 => (match n with
    | .ofNat m => (match Nat.ble m small with | true => n | false => k.wrap n)
    | .negSucc m => (match Nat.ble m small with | true => n | false => k.wrap n))
  | _ => k.wrap n
def iLe : Int → Int → Bool
  | .ofNat a, .ofNat b => Nat.ble a b
  | .negSucc a, .negSucc b => Nat.ble b a
  | .negSucc _, .ofNat _ => true
  | .ofNat _, .negSucc _ => false
def iEq : Int → Int → Bool
  | .ofNat a, .ofNat b => Nat.beq a b
  | .negSucc a, .negSucc b => Nat.beq a b
  | _, _ => false
def bytesEq : List UInt8 → List UInt8 → Bool
  | [], [] => true
  | a :: x, b :: y => (match Nat.beq a.toNat b.toNat with | true => bytesEq x y | false => false)
  | _, _ => false
def kEq : IntKind → IntKind → Bool
  | .i64, .i64 | .u8, .u8 | .i8, .i8 | .i16, .i16 | .i32, .i32 | .u16, .u16 | .u32, .u32 | .u64, .u64 => true
  | _, _ => false

def natOf : Int → Option Nat
  | .ofNat n => some n
  | _ => none

def ldCells (P : Program) (t : TypeId) (l : List AV) (o : Nat) : Option AV :=
  (tAgg P t).bind fun a => match a with
  | true => (tSize P t).bind fun n => (match Nat.ble (o + n) l.length with | true => some (.agg ((l.drop o).take n)) | false => none)
  | false => (l.drop o).head?

def partA (P : Program) (t : TypeId) (l : List AV) (o : Nat) : Option AV := ldCells P t l o

/-! ### Comparisons -/
def cellEq : AV → AV → Option Bool
  | .bool a, .bool b => some (match a, b with | true, true => true | false, false => true | _, _ => false)
  | .int k a, .int k' b => (match kEq k k' with | true => some (iEq a b) | false => none)
  | .str a, .str b => some (bytesEq a b)
  | _, _ => none
/-- Two structs, field by field. -/
def eqFs (P : Program) (rec : TypeId → AV → AV → Option Bool) (xs ys : List AV) : List Field → Option Bool
  | [] => some true
  | f :: fs => match f.name != "_" with
    | false => none
    | true => (partA P f.type xs f.offset).bind fun a => (partA P f.type ys f.offset).bind fun b => (rec f.type a b).bind fun r => match r with
      | true => eqFs P rec xs ys fs
      | false => some false
def eqTy (P : Program) : Nat → TypeId → AV → AV → Option Bool
  | 0, _, _, _ => none
  | d + 1, t, x, y => match P.underlying t, x, y with
    | some .bool, .bool a, .bool b => cellEq (.bool a) (.bool b)
    | some (.int _), .int k a, .int k' b => cellEq (.int k a) (.int k' b)
    | some .string, .str a, .str b => cellEq (.str a) (.str b)
    | some (.struct fs), .agg xs, .agg ys => (match P.stoodInHeld t with
      | false => eqFs P (eqTy P d) xs ys fs.toList
      | true => none)
    | _, _, _ => none

def eqA (P : Program) (t : TypeId) (x y : AV) : Option Bool :=
  match x, y with
  | .bool a, .bool b => (match P.underlying t with | some .bool => cellEq (.bool a) (.bool b) | _ => none)
  | .nilp, .nilp => (match P.underlying t with | some (.pointer _) => some true | _ => none)
  | .nilp, .ptr _ _ | .nilp, .pptr _ | .ptr _ _, .nilp | .pptr _, .nilp => (match P.underlying t with | some (.pointer _) => some false | _ => none)
  | .ptr b o, .ptr b' o' => (match P.underlying t with
    | some (.pointer e) => (tSize P e).bind fun n => (match n, Nat.beq b b' with | _ + 1, true => some (Nat.beq o o') | _, _ => none)
    | _ => none)
  | .snil, .snil => (match P.underlying t with | some (.slice _) => some true | _ => none)
  | .snil, .sref _ _ _ _ | .snil, .psl _ _ _ | .sref _ _ _ _, .snil | .psl _ _ _, .snil => (match P.underlying t with | some (.slice _) => some false | _ => none)
  | .nilf, .nilf => (match P.underlying t with | some (.func _ _ _) => some true | _ => none)
  | .nilf, .fn _ _ _ | .fn _ _ _, .nilf => (match P.underlying t with | some (.func _ _ _) => some false | _ => none)
  | .nilm, .nilm => (match P.underlying t with | some (.map _ _) => some true | _ => none)
  | .nilm, .mref _ | .mref _, .nilm => (match P.underlying t with | some (.map _ _) => some false | _ => none)
  | .nili, .nili => (match P.underlying t with | some (.interface ms) => (match ms.toList with | [] => some true | _ => none) | _ => none)
  | .nili, .iface _ _ | .iface _ _, .nili => (match P.underlying t with | some (.interface _) => some false | _ => none)
  | .agg xs, .agg ys => (match P.eqGuardType P.depth t with
    | false => eqTy P 20 t (.agg xs) (.agg ys)
    | true => none)
  | _, _ => none

def catLimit : Nat := 1099511627776

def intBin (op : BinOp) (k : IntKind) (a b : Int) : Option AV :=
  match op with
  | .add => some (.int k (wrapF k (a + b)))
  | .sub => some (.int k (wrapF k (a - b)))
  | .mul => some (.int k (wrapF k (a * b)))
  | .eql => some (.bool (iEq a b))
  | .neq => some (.bool (!iEq a b))
  | .lss => some (.bool (!iLe b a))
  | .leq => some (.bool (iLe a b))
  | .gtr => some (.bool (!iLe a b))
  | .geq => some (.bool (iLe b a))
  | .quo => (match iEq b 0 with | true => none | false => some (.int k (k.wrap (a.tdiv b))))
  | .rem => (match iEq b 0 with | true => none | false => some (.int k (a.tmod b)))
  | .and => some (.int k (k.wrap (BitVec.ofInt k.bits a &&& BitVec.ofInt k.bits b).toNat))
  | .or => some (.int k (k.wrap (BitVec.ofInt k.bits a ||| BitVec.ofInt k.bits b).toNat))
  | .xor => some (.int k (k.wrap (BitVec.ofInt k.bits a ^^^ BitVec.ofInt k.bits b).toNat))
  | _ => none

def strBin (op : BinOp) (a b : List UInt8) : Option AV :=
  match op with
  | .add => (match Nat.ble (a.length + b.length) catLimit with | true => some (.str (a ++ b)) | false => none)
  | .eql => some (.bool (bytesEq a b))
  | .neq => some (.bool (!bytesEq a b))
  | .lss => some (.bool (Op.bytesLess a b))
  | .leq => some (.bool (Op.bytesLess a b || bytesEq a b))
  | .gtr => some (.bool (!(Op.bytesLess a b || bytesEq a b)))
  | .geq => some (.bool (!Op.bytesLess a b))
  | _ => none

def binA (P : Program) (op : BinOp) (t : TypeId) (x y : AV) : Option AV :=
  match x, y with
  | .int k a, .int k' b => (match op with
    | .shl => (natOf b).bind fun m => some (.int k (wrapF k (a * Int.ofNat (2 ^ Nat.min m k.bits))))
    | .shr => (natOf b).bind fun m => some (.int k (a.fdiv (Int.ofNat (2 ^ Nat.min m k.bits))))
    | _ => (match kEq k k' with | true => intBin op k a b | false => none))
  | .str a, .str b => strBin op a b
  | x, y => (match op with
    | .eql => (eqA P t x y).bind fun b => some (.bool b)
    | .neq => (eqA P t x y).bind fun b => some (.bool (!b))
    | _ => none)

/-! ### Cells -/
def setSeg {α : Type} (l : List α) (o : Nat) (vs : List α) : List α := l.take o ++ (vs ++ l.drop (o + vs.length))

def fillA (place : Nat → Option (Nat × Nat)) (cells : List AV) : List (Nat × AV) → Option (List AV)
  | [] => some cells
  | (i, v) :: rest => (place i).bind fun (off, size) =>
    match Nat.beq v.cells.length size, Nat.ble (off + size) cells.length with
    | true, true => fillA place (setSeg cells off v.cells) rest
    | _, _ => none

def repCells {α : Type} (z : List α) : Nat → List α
  | 0 => []
  | n + 1 => z ++ repCells z n

/-! ### Pure operations: they look at operands alone -/
def sliceLo (lo : Option AV) (h : Nat) : Option Nat := match lo with
  | none => some 0
  | some (.int _ i) => (natOf i).bind fun n => (match Nat.ble n h with | true => some n | false => none)
  | _ => none
/-- The upper end of x[lo:hi:mx], len long, whose capacity is not known. -/
def sliceHi (hi mx : Option AV) (len : Nat) : Option Nat := match hi, mx with
  | none, none => some len
  | some (.int _ i), none => (natOf i).bind fun n => (match Nat.ble n len with | true => some n | false => none)
  | some (.int _ i), some (.int _ m) => (natOf i).bind fun n => (natOf m).bind fun m => (match Nat.ble n m, Nat.ble m len with | true, true => some n | _, _ => none)
  | _, _ => none

def sliceV (P : Program) (t : TypeId) (x : AV) (lo hi mx : Option AV) : Option AV :=
  match P.underlying t, x with
  | some (.slice e), .sref b o len sz => (tSize P e).bind fun n => (match Nat.beq n sz with
    | true => (sliceHi hi mx len).bind fun h => (sliceLo lo h).bind fun l => some (.sref b (o + l * sz) (h - l) sz)
    | false => none)
  | some (.slice e), .psl len sz cs => (tSize P e).bind fun n => (match Nat.beq n sz with
    | true => (sliceHi hi mx len).bind fun h => (sliceLo lo h).bind fun l => some (.psl (h - l) sz ((cs.drop (l * sz)).take ((h - l) * sz)))
    | false => none)
  | some (.slice e), .snil => (tSize P e).bind fun _ => (sliceHi hi mx 0).bind fun h => (sliceLo lo h).bind fun _ => some .snil
  | some .string, .str s => (match mx with
    | none => (sliceHi hi none s.length).bind fun h => (sliceLo lo h).bind fun l => some (.str ((s.drop l).take (h - l)))
    | some _ => none)
  | _, _ => none

def idxIn (i : AV) (len : Nat) : Option Nat := match i with
  | .int _ i => (natOf i).bind fun n => (match Nat.blt n len with | true => some n | false => none)
  | _ => none

def indexAddrV (P : Program) (t : TypeId) (x i : AV) : Option AV :=
  match P.underlying t, x with
  | some (.slice e), .sref b o len sz => (tSize P e).bind fun n => (match Nat.beq n sz with
    | true => (idxIn i len).bind fun j => some (.ptr b (o + j * sz))
    | false => none)
  | some (.slice e), .psl len sz cs => (tSize P e).bind fun n => (match Nat.beq n sz with
    | true => (idxIn i len).bind fun j => some (.pptr ((cs.drop (j * sz)).take sz))
    | false => none)
  | some (.array len e), .ptr b o => (tSize P e).bind fun n => (idxIn i len).bind fun j => some (.ptr b (o + j * n))
  | some (.array len e), .pptr cs => (tSize P e).bind fun n => (idxIn i len).bind fun j => (match Nat.ble (j * n) cs.length with | true => some (.pptr (cs.drop (j * n))) | false => none)
  | _, _ => none

def indexV (P : Program) (t : TypeId) (x i : AV) : Option AV :=
  match P.underlying t, x with
  | some (.array len e), .agg cs => (tSize P e).bind fun n => (idxIn i len).bind fun j => partA P e cs (j * n)
  | some .string, .str s => (idxIn i s.length).bind fun j => ((s.drop j).head?).bind fun b => some (.int .u8 b.toNat)
  | _, _ => none

def fieldAddrV (P : Program) (t : TypeId) (x : AV) (f : Nat) : Option AV :=
  (tField P t f).bind fun fd => (tSize P fd.type).bind fun n => match n with
  | 0 => none
  | _ + 1 => (match x with
    | .ptr b o => some (.ptr b (o + fd.offset))
    | .pptr cs => (match Nat.ble fd.offset cs.length with | true => some (.pptr (cs.drop fd.offset)) | false => none)
    | _ => none)

def fieldV (P : Program) (t : TypeId) (x : AV) (f : Nat) : Option AV :=
  (tField P t f).bind fun fd => match x with
  | .agg cs => partA P fd.type cs fd.offset
  | _ => none

def placesOf (P : Program) (t : TypeId) : Option (Nat → Option (Nat × Nat)) :=
  (P.underlying t).bind fun d => match d with
  | .struct fs => (mapO (fun f : Field => (tSize P f.type).bind fun n => some (f.offset, n)) fs.toList).bind fun l => some fun i => l[i]?
  | .array _ e => (tSize P e).bind fun n => some fun i => some (i * n, n)
  | _ => none

def buildV (P : Program) (t : TypeId) (parts : List (Nat × AV)) : Option AV :=
  (tZero P t).bind fun z => (placesOf P t).bind fun pl => (fillA pl z.cells parts).bind fun cs => some (.agg cs)

def lenV (P : Program) (t : TypeId) (x : AV) : Option AV :=
  match P.underlying t, x with
  | some .string, .str s => some (.int .i64 (Int.ofNat s.length))
  | some (.slice _), .sref _ _ len _ => some (.int .i64 (Int.ofNat len))
  | some (.slice _), .psl len _ _ => some (.int .i64 (Int.ofNat len))
  | some (.slice _), .snil => some (.int .i64 (Int.ofNat 0))
  | _, _ => none

def minV (isMax : Bool) (x y : AV) : Option AV := match x, y with
  | .int k a, .int k' b => (match kEq k k' with
    | true => some (.int k (match isMax, iLe a b with | false, true => a | false, false => b | true, true => b | true, false => a))
    | false => none)
  | _, _ => none

def partsA (ρ : Operand → Option AV) : List (Nat × Operand) → Option (List (Nat × AV))
  | [] => some []
  | (i, x) :: r => (ρ x).bind fun v => (partsA ρ r).bind fun vs => some ((i, v) :: vs)

def optA (ρ : Operand → Option AV) : Option Operand → Option (Option AV)
  | none => some none
  | some x => (ρ x).bind fun v => some (some v)

def pureV (P : Program) (C : Cfg) (ρ : Operand → Option AV) (o : Oper) : Option AV :=
  match o.op with
  | .move x | .assign x => ρ x
  | .pick c a b => (ρ c).bind fun v => (match v with
    | .bool true => (ρ a)
    | .bool false => (ρ b)
    | _ => none)
  | .nilCheck x => (ρ x).bind fun v => (match v with
    | .ptr _ _ | .pptr _ => some v
    | .fn _ _ _ => some v
    | _ => none)
  | .binOp op t x y _ => (ρ x).bind fun a => (ρ y).bind fun b => binA P op t a b
  | .unOp op _ x => (ρ x).bind fun a => (match op, a with
    | .not, .bool b => some (.bool (match b with | true => false | false => true))
    | .neg, .int k n => some (.int k (wrapF k (0 - n)))
    | _, _ => none)
  | .convert s d x => (ρ x).bind fun a => (match P.underlying s, P.underlying d, a with
    | some (.int _), some (.int k), .int _ n => some (.int k (wrapF k n))
    | some .string, some .string, .str s => some (.str s)
    | _, _, _ => none)
  | .makeFunc (.func f) first caps => (mapO ρ first.toList).bind fun a => (mapO ρ caps.toList).bind fun b => some (.fn f a b)
  | .slice t x lo hi mx => (ρ x).bind fun a => (optA ρ lo).bind fun l => (optA ρ hi).bind fun h => (optA ρ mx).bind fun m => sliceV P t a l h m
  | .fieldAddr t x f => (ρ x).bind fun a => fieldAddrV P t a f
  | .field t x f => (ρ x).bind fun a => fieldV P t a f
  | .indexAddr t x i => (ρ x).bind fun a => (ρ i).bind fun j => indexAddrV P t a j
  | .index t x i => (ρ x).bind fun a => (ρ i).bind fun j => indexV P t a j
  | .makeInterface t x => (ρ x).bind fun a => (match P.underlying t with
    | some (.interface _) => none
    | some _ => some (.iface t a)
    | none => none)
  | .typeAssert x _ t true => (ρ x).bind fun a => (match P.underlying t, a with
    | some (.interface _), _ => none
    | some _, .iface u v => (match Nat.beq u t with
      | true => some (.tup [v, .bool true])
      | false => (tZero P t).bind fun z => some (.tup [z, .bool false]))
    | _, _ => none)
  | .extract x i => (ρ x).bind fun a => (match a with
    | .tup vs => (vs.drop i).head?
    | _ => none)
  | .build t parts => (partsA ρ parts.toList).bind fun ps => buildV P t ps
  | .call c => (match c.callee, c.args.toList, c.argTypes.toList with
    | .builtin .len, [x], [t] => (ρ x).bind fun a => lenV P t a
    | .builtin .unsafeSliceData, [x], _ => (ρ x).bind fun a => (match a with
      | .snil => some .nilp
      | .sref b o (_ + 1) _ => some (.ptr b o)
      | _ => none)
    | .value (.func f), [x], _ => (match C.mode f with
      | .same => ρ x
      | _ => none)
    | .builtin .min, [x, y], _ => (ρ x).bind fun a => (ρ y).bind fun b => minV false a b
    | .builtin .max, [x, y], _ => (ρ x).bind fun a => (ρ y).bind fun b => minV true a b
    | _, _, _ => none)
  | _ => none

/-! ### Memory made immutable at a call's end, or for a call's time -/
/-- No reference to a block. -/
def isPure : Nat → AV → Bool
  | 0, _ => false
  | d + 1, v => match v with
    | .ptr _ _ | .sref _ _ _ _ | .mref _ | .yld _ => false
    | .agg cs | .tup cs => cs.all (isPure d)
    | .fn _ a b => a.all (isPure d) && b.all (isPure d)
    | .iface _ v => isPure d v
    | _ => true
/-- No reference at all. -/
def isScal : Nat → AV → Bool
  | 0, _ => false
  | d + 1, v => match v with
    | .bool _ | .int _ _ | .str _ | .nilp | .snil | .nilm | .nilf | .nili => true
    | .agg cs | .tup cs => cs.all (isScal d)
    | _ => false
/-- The value with each reference to a block of cells replaced by what lies there. -/
def freeze (σ : Heap) (lim : Nat → Bool) : Nat → AV → Option AV
  | 0, _ => none
  | d + 1, v => match v with
    | .ptr b o => (match lim b, σ.get b with
      | true, some (.cells _ _ cs) => (match Nat.ble o cs.length with
        | true => (mapO (freeze σ lim d) (cs.drop o)).bind fun xs => some (.pptr xs)
        | false => none)
      | _, _ => none)
    | .sref b o len sz => (match lim b, σ.get b with
      | true, some (.cells _ _ cs) => (match Nat.ble (o + len * sz) cs.length with
        | true => (mapO (freeze σ lim d) ((cs.drop o).take (len * sz))).bind fun xs => some (.psl len sz xs)
        | false => none)
      | _, _ => none)
    | .mref _ | .yld _ => none
    | .agg cs => (mapO (freeze σ lim d) cs).bind fun xs => some (.agg xs)
    | .tup cs => (mapO (freeze σ lim d) cs).bind fun xs => some (.tup xs)
    | .fn f a b => (mapO (freeze σ lim d) a).bind fun xs => (mapO (freeze σ lim d) b).bind fun ys => some (.fn f xs ys)
    | .iface t v => (freeze σ lim d v).bind fun x => some (.iface t x)
    | v => some v

/-- The blocks that a value reaches. -/
def reach (σ : Heap) : Nat → AV → List Nat
  | 0, _ => []
  | d + 1, v => match v with
    | .ptr b _ | .sref b _ _ _ => (match σ.get b with
      | some (.cells _ _ cs) => b :: cs.flatMap (reach σ d)
      | _ => [b])
    | .agg cs | .tup cs => cs.flatMap (reach σ d)
    | .fn _ a b => a.flatMap (reach σ d) ++ b.flatMap (reach σ d)
    | .iface _ v => reach σ d v
    | _ => []
def Heap.dels (σ : Heap) : List Nat → Heap
  | [] => σ
  | b :: bs => (σ.del b).dels bs

def deep : Nat := 12

abbrev Evn := Code → AF → Heap → Option (AX × AF × Heap)

/-! ### Calls -/
def initT : List AV → Nat → PT AV → PT AV
  | [], _, t => t
  | v :: vs, i, t => initT vs (i + 1) (t.set i (some v))

def resOne (P : Program) (tm : PT AV) (σ : Heap) : ResultVar → Option AV
  | .tmp t => tm.get t
  | .cell a t => (tm.get a).bind fun v => (match v with
    | .ptr b o => (match σ.get b with
      | some (.cells _ _ cs) => ldCells P t cs o
      | _ => none)
    | _ => none)
def resA (P : Program) (rs : List ResultVar) (tm : PT AV) (σ : Heap) : Option AV :=
  (mapO (resOne P tm σ) rs).bind fun vs => some (match vs with
  | [v] => v
  | vs => .tup vs)

/-- A deferred function whose text begins with a call of recover: what it does with the value that this hands back. -/
def recA (P : Program) (ev : Evn) (f : Nat) (args : List AV) (got : AV) (σ : Heap) : Option Heap :=
  (P.funcs[f]?).bind fun fn => fn.body.bind fun c => match c with
  | .seq (.region _ ops false) rest => (match ops.toList with
    | [o] => (match o.op, o.guard, o.dst with
      | .call { callee := .builtin .recover, .. }, none, some d => (match Nat.ble args.length fn.ntmps, Nat.blt d fn.ntmps with
        | true, true => (ev rest ⟨(initT args 0 .leaf).set d (some got), fn.ntmps, [], none⟩ σ).bind fun (x, fr, σ1) => (match x, fr.dfs, fn.results.toList with
          | .norm, [], [] => some σ1
          | .ret, [], [] => some σ1
          | _, _, _ => none)
        | _, _ => none)
      | _, _, _ => none)
    | _ => none)
  | _ => none

def leaveA (P : Program) (ev : Evn) (rs : List ResultVar) (tm : PT AV) : List Df → Option (Nat × AV) → Heap → Option (CR × Heap)
  | [], none, σ => (resA P rs tm σ).bind fun v => some (.ret v, σ)
  | [], some (t, v), σ => some (.pan t v, σ)
  | .mark b :: ds, u, σ => (match σ.get b with
    | some .defs => leaveA P ev rs tm ds u (σ.del b)
    | _ => none)
  | .call f args :: ds, u, σ => (recA P ev f args (match u with | some (t, v) => .iface t v | none => .nili) σ).bind fun σ1 => leaveA P ev rs tm ds none σ1

def callF (P : Program) (ev : Evn) (f : Nat) (args : List AV) (σ : Heap) : Option (CR × Heap) :=
  (P.funcs[f]?).bind fun fn => fn.body.bind fun c =>
  match Nat.ble args.length fn.ntmps with
  | false => none
  | true => (ev c ⟨initT args 0 .leaf, fn.ntmps, [], none⟩ σ).bind fun (x, fr, σ1) => match x with
    | .exit _ => none
    | .pan t v => leaveA P ev fn.results.toList fr.tmps fr.dfs (some (t, v)) σ1
    | _ => leaveA P ev fn.results.toList fr.tmps fr.dfs none σ1

/-- A call over an empty memory of its own, with immutable arguments; what it hands back is made immutable. -/
def callPure (P : Program) (C : Cfg) (ev : Evn) (f : Nat) (args : List AV) : Option AV :=
  match C.memo f args with
  | some v => some v
  | none => (callF P ev f args .empty).bind fun (r, σ) => match r with
    | .ret v => freeze σ (fun _ => true) deep v
    | .pan _ _ => none

/-- A pure call whose arguments may name blocks: then it hands back no reference. -/
def callRead (P : Program) (C : Cfg) (ev : Evn) (f : Nat) (args : List AV) (σ : Heap) (lim : Nat → Bool) : Option AV :=
  match args.all (isPure deep) with
  | true => callPure P C ev f args
  | false => (mapO (freeze σ lim deep) args).bind fun xs => (callPure P C ev f xs).bind fun v => match isScal deep v with
    | true => some v
    | false => none

/-! ### Operations that read memory -/
def lookupM (k : AV) : List (AV × AV) → Option (Option AV)
  | [] => some none
  | (k', v) :: r => (cellEq k k').bind fun b => match b with
    | true => some (some v)
    | false => lookupM k r

def keyTy (P : Program) (t : TypeId) (kv : AV) : Option (TypeId × TypeId) := (P.underlying t).bind fun d => match d with
  | .map k e => (match P.underlying k, kv with
    | some (.int _), .int _ _ => some (k, e)
    | some .string, .str _ => some (k, e)
    | some .bool, .bool _ => some (k, e)
    | _, _ => none)
  | _ => none

def getLim (σ : Heap) (lim : Nat → Bool) (b : Nat) : Option ABlk := match lim b with
  | true => σ.get b
  | false => none

def bytesOf : List AV → Option (List UInt8)
  | [] => some []
  | .int .u8 n :: r => (bytesOf r).bind fun l => some (UInt8.ofNat n.toNat :: l)
  | _ => none

def staticF (c : Call) : Option Nat := match c.callee with
  | .value (.func f) => some f
  | _ => none

def readV (P : Program) (C : Cfg) (ev : Evn) (lim : Nat → Bool) (ρ : Operand → Option AV) (o : Oper) (σ : Heap) : Option AV :=
  match o.op with
  | .load t x => (ρ x).bind fun a => (match a with
    | .ptr b o => (match getLim σ lim b with
      | some (.cells _ _ cs) => ldCells P t cs o
      | _ => none)
    | .pptr cs => ldCells P t cs 0
    | _ => none)
  | .convert s d x => (ρ x).bind fun a => (match P.underlying s, P.underlying d with
    | some (.slice e), some .string => (match P.underlying e with
      | some (.int .u8) => (match a with
        | .snil => some (.str [])
        | .psl len sz cs => (match Nat.beq sz 1 with | true => (bytesOf (cs.take len)).bind fun l => some (.str l) | false => none)
        | .sref b o len sz => (match Nat.beq sz 1, getLim σ lim b with
          | true, some (.cells _ _ cs) => (match Nat.ble (o + len) cs.length with
            | true => (bytesOf ((cs.drop o).take len)).bind fun l => some (.str l)
            | false => none)
          | _, _ => none)
        | _ => none)
      | _ => none)
    | some (.pointer u), some .unsafePointer => (match a with
      | .ptr b o => (tSize P u).bind fun n => (match n, getLim σ lim b with
        | _ + 1, some (.cells _ _ cs) => (match Nat.blt o cs.length with | true => some (.ptr b o) | false => none)
        | _, _ => none)
      | _ => none)
    | some .unsafePointer, some (.pointer u) => (match a with
      | .ptr b o => (tSize P u).bind fun _ => (match getLim σ lim b with
        | some (.cells ty true cs) => (match liesAt P P.depth ty (cs.length / P.cellsOf ty) o u 1 with | true => some (.ptr b o) | false => none)
        | _ => none)
      | _ => none)
    | _, _ => none)
  | .next x false => (ρ x).bind fun a => (match a with
    | .ptr b 0 => (match getLim σ lim b with
      | some (.iter m) => (match getLim σ lim m with
        | some (.mapb []) => some (.tup [.bool false])
        | _ => none)
      | _ => none)
    | _ => none)
  | .lookup t x k ok => (ρ x).bind fun a => (ρ k).bind fun kv => (keyTy P t kv).bind fun (_, e) => (match a with
      | .nilm => some none
      | .mref b => (match getLim σ lim b with
        | some (.mapb es) => lookupM kv es
        | _ => none)
      | _ => none).bind fun r => (match r with
        | some v => some (v, true)
        | none => (tZero P e).bind fun z => some (z, false)).bind fun (v, b) => some (match ok with
          | true => .tup [v, .bool b]
          | false => v)
  | .call c => (match c.callee, c.args.toList, c.argTypes.toList with
    | .builtin .len, [x], [t] => (ρ x).bind fun a => (match P.underlying t, a with
      | some (.map _ _), .nilm => some (.int .i64 0)
      | some (.map _ _), .mref b => (match getLim σ lim b with
        | some (.mapb es) => some (.int .i64 es.length)
        | _ => none)
      | _, _ => none)
    | .value (.func f), as, _ => (mapO ρ as).bind fun args => callRead P C ev f args σ lim
    | _, _, _ => none)
  | _ => none

/-! ### Operations that make memory -/
inductive Mk where
  | ptr
  | sl (len sz : Nat)
  | map
  | nil
def Mk.val (b : Nat) : Mk → AV
  | .ptr => .ptr b 0
  | .sl len sz => .sref b 0 len sz
  | .map => .mref b
  | .nil => .snil

def allocV (P : Program) (ev : Evn) (lim : Nat → Bool) (ρ : Operand → Option AV) (o : Oper) (σ0 : Heap) : Option (ABlk × Mk) :=
  match o.op with
  | .alloc t => (tZero P t).bind fun z => some (.cells t true z.cells, .ptr)
  | .box t x => (ρ x).bind fun v => some (.cells t true v.cells, .ptr)
  | .buildSlice t len parts => (tElem P t).bind fun e => (tSize P e).bind fun n => (partsA ρ parts.toList).bind fun ps =>
    (match Nat.ble (len * n) 16777216 with
    | true => (match n with | 0 => none | _ + 1 => tZero P e).bind fun z => (match Nat.beq z.cells.length n with
      | true => (fillA (fun i => some (i * n, n)) (repCells z.cells len) ps).bind fun cs => some (.cells e false cs, .sl len n)
      | false => none)
    | false => none)
  | .convert s d x => (ρ x).bind fun a => (match P.underlying s, P.underlying d, a with
    | some .string, some (.slice e), .str l => (match P.underlying e with
      | some (.int .u8) => some (.cells e false (l.map fun b => .int .u8 b.toNat), .sl l.length 1)
      | _ => none)
    | _, _, _ => none)
  | .makeMap _ none => some (.mapb [], .map)
  | .makeMap t (some h) => (ρ h).bind fun v => (match v, P.underlying t with | .int _ _, some (.map _ _) => some (.mapb [], .map) | _, _ => none)
  | .makeSlice t l c => (ρ l).bind fun lv => (ρ c).bind fun cv => (tElem P t).bind fun e => (P.info? e).bind fun i => (match lv, cv with
    | .int _ a, .int _ b => (natOf a).bind fun len => (natOf b).bind fun cap => (match Nat.ble len cap, Nat.ble (cap * (i.bytes + 1)) catLimit with
      | true, true => (i.zero.bind ofConst).bind fun z => (match Nat.beq z.cells.length i.size, i.size with
        | true, _ + 1 => some (.cells e false (repCells z.cells len), .sl len i.size)
        | _, _ => none)
      | _, _ => none)
    | _, _ => none)
  | .call c => (match staticF c with
    | some f => (mapO ρ c.args.toList).bind fun args => (mapO (freeze σ0 lim deep) args).bind fun xs => (callF P ev f xs .empty).bind fun (r, σ) => (match r with
      | .ret (.sref b o len sz) => (match σ.get b with
        | some (.cells ty _ cs) => (match Nat.beq (o + len * sz) cs.length with
          | true => (mapO (freeze (σ.del b) (fun _ => true) deep) (cs.drop o)).bind fun ys => (match args.all (isPure deep) || ys.all (isScal deep) with
            | true => some (.cells ty false ys, .sl len sz)
            | false => none)
          | false => none)
        | _ => none)
      | .ret .snil => some (.defs, .nil)
      | _ => none)
    | none => none)
  | _ => none

/-! ### Operations that change memory -/
def srcCells (σ : Heap) (n sz : Nat) : AV → Option (List AV)
  | .snil => (match n with | 0 => some [] | _ => none)
  | .psl len sz' cs => (match Nat.ble n len, Nat.beq sz sz' with | true, true => some (cs.take (n * sz)) | _, _ => none)
  | .sref b o len sz' => (match Nat.ble n len, Nat.beq sz sz' with
    | true, true => (match σ.get b with
      | some (.cells _ _ cs) => (match Nat.ble (o + n * sz) cs.length with | true => some ((cs.drop o).take (n * sz)) | false => none)
      | _ => none)
    | _, _ => none)
  | .str s => (match Nat.ble n s.length, Nat.beq sz 1 with | true, true => some ((s.take n).map fun b => .int .u8 b.toNat) | _, _ => none)
  | _ => none
def srcLen : AV → Option Nat
  | .snil => some 0
  | .psl len _ _ => some len
  | .sref _ _ len _ => some len
  | .str s => some s.length
  | _ => none

def appendV (P : Program) (t : TypeId) (s x : AV) (σ : Heap) : Option (AV × Heap) :=
  (tElem P t).bind fun e => (tSize P e).bind fun sz => (tBytes P e).bind fun by_ => (srcLen x).bind fun n => (tZero P e).bind fun z =>
  match n with
  | 0 => (match s with
    | .snil => some (.snil, σ)
    | .psl a b c => some (.psl a b c, σ)
    | .sref a b c d => some (.sref a b c d, σ)
    | _ => none)
  | _ + 1 => (match sz with
    | 0 => none
    | _ + 1 => (srcCells σ n sz x).bind fun new => (match new.all AV.oneC, Nat.beq z.cells.length sz with
      | true, true => (match s with
        | .snil => (match Nat.ble (n * (by_ + 1)) catLimit with
          | true => some (.sref σ.next 0 n sz, (σ.set σ.next (.cells e false new)).bump 1)
          | false => none)
        | .sref b o len sz' => (match Nat.beq sz sz', Nat.ble ((len + n) * (by_ + 1)) catLimit, σ.get b with
          | true, true, some (.cells ty _ cs) => (match Nat.beq (o + len * sz) cs.length, Nat.beq ty e with
            | true, true => some (.sref σ.next 0 (len + n) sz, ((σ.del b).set σ.next (.cells e false (cs.drop o ++ new))).bump 1)
            | _, _ => none)
          | _, _, _ => none)
        | _ => none)
      | _, _ => none))

def copyV (P : Program) (t : TypeId) (d s : AV) (σ : Heap) : Option (AV × Heap) :=
  (tElem P t).bind fun e => (tSize P e).bind fun sz => (srcLen s).bind fun m => (match d with
    | .snil => some (.int .i64 (Int.ofNat 0), σ)
    | .sref b o len sz' => (srcCells σ (Nat.min m len) sz s).bind fun new => (match new.all AV.oneC, Nat.beq sz sz', σ.get b with
      | true, true, some (.cells ty v cs) => (match Nat.ble (o + new.length) cs.length with
        | true => some (.int .i64 (Int.ofNat (Nat.min m len)), σ.set b (.cells ty v (setSeg cs o new)))
        | false => none)
      | _, _, _ => none)
    | _ => none)

def updM (k v : AV) : List (AV × AV) → Option (List (AV × AV))
  | [] => some [(k, v)]
  | (k', v') :: r => (cellEq k k').bind fun b => match b with
    | true => some ((k, v) :: r)
    | false => (updM k v r).bind fun r' => some ((k', v') :: r')

def setParams : List Nat → List AV → PT AV → Option (PT AV)
  | [], [], t => some t
  | p :: ps, v :: vs, t => setParams ps vs (t.set p (some v))
  | _, _, _ => none

/-- yield called with values: one round. -/
def roundA (ev : Evn) (b : Nat) (args : List AV) (σ : Heap) : Option (AV × Heap) :=
  match σ.get b with
  | some (.loop r) => (match r.st, r.params.all (fun p => Nat.blt p r.sz) with
    | 0, true => (setParams r.params args r.tmps).bind fun tm => (ev r.assign ⟨tm, r.sz, [], some b⟩ σ).bind fun (x, fr, σ1) => (match x, σ1.get b with
      | .norm, some (.loop r1) => (match r1.st with
        | 0 => (ev r.body fr (σ1.set b (.loop { r1 with st := 1 }))).bind fun (y, fr2, σ2) => (match fr2.dfs, σ2.get b with
          | [], some (.loop r2) => (match y with
            | .norm => some (.bool true, σ2.set b (.loop { r2 with st := 0, pend := none }))
            | .ret => some (.bool false, σ2.set b (.loop { r2 with st := 2, pend := some .ret }))
            | .exit id => some (.bool false, σ2.set b (.loop { r2 with st := 2, pend := some (.exit id) }))
            | .pan _ _ => none)
          | _, _ => none)
        | _ => none)
      | _, _ => none)
    | _, _ => none)
  | _ => none

def callV (P : Program) (C : Cfg) (ev : Evn) (g : AV) (args : List AV) (σ : Heap) : Option (CR × Heap) :=
  match g with
  | .fn f first caps => (match C.mode f, (first ++ args ++ caps).all (isPure deep) with
    | .pure, true => (callPure P C ev f (first ++ args ++ caps)).bind fun v => some (.ret v, σ)
    | .eat, _ => (mapO (freeze σ (fun _ => true) deep) (first ++ args ++ caps)).bind fun xs => (callPure P C ev f xs).bind fun v => some (.ret v, σ.dels ((first ++ args ++ caps).flatMap (reach σ deep)))
    | _, _ => callF P ev f (first ++ args ++ caps) σ)
  | .yld b => (roundA ev b args σ).bind fun (v, σ') => some (.ret v, σ')
  | _ => none

/-- A store: the block, and what it then holds. -/
def storeV (P : Program) (lim : Nat → Bool) (ρ : Operand → Option AV) (o : Oper) (σ : Heap) : Option (Nat × ABlk) :=
  match o.op with
  | .store t x y => (ρ x).bind fun a => (ρ y).bind fun v => (tSize P t).bind fun n => (match a with
    | .ptr b o => (match getLim σ lim b with
      | some (.cells ty u cs) => (match Nat.beq v.cells.length n, Nat.ble (o + n) cs.length, v.cells.all AV.oneC with
        | true, true, true => some (b, .cells ty u (setSeg cs o v.cells))
        | _, _, _ => none)
      | _ => none)
    | _ => none)
  | _ => none

def retH (r : Option (AV × Heap)) : Option (CR × Heap) := r.bind fun (v, σ) => some (.ret v, σ)

def loudV (P : Program) (C : Cfg) (ev : Evn) (ρ : Operand → Option AV) (o : Oper) (σ : Heap) : Option (CR × Heap) :=
  match o.op with
  | .mapUpdate t m k x | .insert t m k x => (ρ m).bind fun a => (ρ k).bind fun kv => (ρ x).bind fun v => (keyTy P t kv).bind fun _ => (match a with
    | .mref b => (match σ.get b with
      | some (.mapb es) => (updM kv v es).bind fun es' => some (.ret undefA, σ.set b (.mapb es'))
      | _ => none)
    | _ => none)
  | .range t x => (ρ x).bind fun a => (match P.underlying t, a with
    | some (.map _ _), .mref m => (match σ.get m with
      | some (.mapb []) => some (.ret (.ptr σ.next 0), (σ.set σ.next (.iter m)).bump 1)
      | _ => none)
    | _, _ => none)
  | .panic x => (ρ x).bind fun a => (match a with
    | .iface t v => some (.pan t v, σ)
    | _ => none)
  | .call c => (match c.callee, c.args.toList, c.argTypes.toList with
    | .builtin .append, [x, y], t :: u :: _ => (match (match P.underlying u with | some (.slice _) | some .string => true | _ => false) with
      | false => none
      | true => (ρ x).bind fun s => (ρ y).bind fun v => retH (appendV P t s v σ))
    | .builtin .unsafeString, [x, y], t :: _ => (ρ x).bind fun a => (ρ y).bind fun l => (match a, l with
      | .nilp, .int .i64 (.ofNat 0) => some (.ret (.str []), σ)
      | .ptr b o, .int .i64 (.ofNat (n + 1)) => (match σ.get b, P.underlying t with
        | some (.cells ty _ cs), some (.pointer e) => (match Nat.ble (o + (n + 1)) cs.length, Nat.beq (P.underlyingId e) (P.underlyingId ty), Nat.beq (P.cellsOf ty) 1, P.underlying e with
          | true, true, true, some (.int .u8) => (match Nat.ble (n + 1) catLimit with
            | true => (bytesOf ((cs.drop o).take (n + 1))).bind fun l => some (.ret (.str l), σ.del b)
            | false => none)
          | _, _, _, _ => none)
        | _, _ => none)
      | _, _ => none)
    | .builtin .copy, [x, y], t :: _ => (ρ x).bind fun d => (ρ y).bind fun s => retH (copyV P t d s σ)
    | .value g, as, _ => (ρ g).bind fun gv => (mapO ρ as).bind fun args => callV P C ev gv args σ
    | _, _, _ => none)
  | _ => none

/-! ### Regions -/
inductive Cl where
  | pure | read | alloc | st | loud

def clOf (P : Program) (C : Cfg) (o : Oper) : Cl := match o.op with
  | .load _ _ | .lookup _ _ _ _ | .next _ _ => .read
  | .range _ _ | .panic _ | .defer _ => .loud
  | .convert s d _ => (match P.underlying s, P.underlying d with
    | some (.slice _), some .string => .read
    | some .string, some (.slice _) => .alloc
    | some (.pointer _), some .unsafePointer | some .unsafePointer, some (.pointer _) => .read
    | _, _ => .pure)
  | .alloc _ | .box _ _ | .buildSlice _ _ _ | .makeMap _ _ | .makeSlice _ _ _ => .alloc
  | .store _ _ _ => .st
  | .mapUpdate _ _ _ _ | .insert _ _ _ _ => .loud
  | .call c => (match c.callee with
    | .builtin .len => (match c.argTypes.toList with
      | [t] => (match P.underlying t with
        | some (.map _ _) => .read
        | _ => .pure)
      | _ => .pure)
    | .builtin .min | .builtin .max | .builtin .unsafeSliceData => .pure
    | .value (.func f) => (match C.mode f with
      | .heap | .eat => .loud
      | .same => .pure
      | .pure => .read
      | .fresh => .alloc)
    | _ => .loud)
  | _ => .pure

/-- Are two values the same? -/
def sameL (f : AV → AV → Bool) : List AV → List AV → Bool
  | [], [] => true
  | x :: xs, y :: ys => (match f x y with | true => sameL f xs ys | false => false)
  | _, _ => false
def sameV : Nat → AV → AV → Bool
  | 0, _, _ => false
  | d + 1, x, y => match x, y with
    | .bool a, .bool b => (match a, b with | true, true => true | false, false => true | _, _ => false)
    | .int k a, .int k' b => (match kEq k k' with | true => iEq a b | false => false)
    | .str a, .str b => bytesEq a b
    | .nilp, .nilp | .snil, .snil | .nilm, .nilm | .nilf, .nilf | .nili, .nili => true
    | .ptr a b, .ptr c e => (match Nat.beq a c with | true => Nat.beq b e | false => false)
    | .pptr a, .pptr b => sameL (sameV d) a b
    | .sref a b c e, .sref a' b' c' e' => (match Nat.beq a a', Nat.beq b b', Nat.beq c c', Nat.beq e e' with | true, true, true, true => true | _, _, _, _ => false)
    | .psl a b c, .psl a' b' c' => (match Nat.beq a a', Nat.beq b b' with | true, true => sameL (sameV d) c c' | _, _ => false)
    | .mref a, .mref b | .yld a, .yld b => Nat.beq a b
    | .fn f a b, .fn f' a' b' => (match Nat.beq f f', sameL (sameV d) a a' with | true, true => sameL (sameV d) b b' | _, _ => false)
    | .iface t v, .iface t' v' => (match Nat.beq t t' with | true => sameV d v v' | false => false)
    | .agg a, .agg b => sameL (sameV d) a b
    | .tup a, .tup b => sameL (sameV d) a b
    | _, _ => false

/-- Which block of the common memory an operation looks at, or writes; of an operation that does more: the memory before and behind it. -/
inductive Foot where
  | nil
  | one (b : Nat)
  | all
  | chg (σ σ' : Heap)

/-- What a call looks at that is handed this one reference. -/
def footHead (lim : Nat → Bool) (σ : Heap) : AV → Foot
  | .sref b _ _ _ => (match lim b, σ.get b with
    | true, some (.cells _ _ cs) => (match cs.all (isPure deep) with | true => .one b | false => .all)
    | _, _ => .all)
  | _ => .all
def footJoin : Foot → Foot → Foot
  | .nil, f => f
  | _, _ => .all
def footPick : Bool → Foot → Foot → Foot
  | true, f, _ => f
  | false, f, g => footJoin f g
/-- What a call looks at that is handed these arguments. -/
def argsFoot (lim : Nat → Bool) (σ : Heap) : List AV → Foot
  | [] => .nil
  | v :: vs => footPick (isPure deep v) (argsFoot lim σ vs) (footHead lim σ v)

def footA (lim : Nat → Bool) (ρ : Operand → Option AV) (o : Oper) (σ : Heap) : Foot := match o.op with
  | .load _ x | .store _ x _ => (match ρ x with
    | some (.ptr b _) => .one b
    | some _ => .nil
    | none => .all)
  | .lookup _ x _ _ => (match ρ x with
    | some (.mref b) => .one b
    | some _ => .nil
    | none => .all)
  | .call c => (match c.callee, mapO ρ c.args.toList with
    | .value (.func _), some args => argsFoot lim σ args
    | _, _ => .all)
  | .alloc _ | .box _ _ | .buildSlice _ _ _ | .makeMap _ _ | .makeSlice _ _ _ => .nil
  | .convert _ _ x => (match ρ x with
    | some (.sref b _ _ _) | some (.ptr b _) => .one b
    | some _ => .nil
    | none => .all)
  | _ => .all

def blkSame (σ σ' : Heap) (b : Nat) : Bool := match σ.get b, σ'.get b with
  | some (.cells t v cs), some (.cells t' v' cs') => (match Nat.beq t t', v, v' with
    | true, true, true => sameL (sameV deep) cs cs'
    | true, false, false => sameL (sameV deep) cs cs'
    | _, _, _ => false)
  | _, _ => false

def Foot.apart : Foot → Foot → Bool
  | .nil, _ | _, .nil => true
  | .one a, .one b => (match Nat.beq a b with | true => false | false => true)
  | .one b, .chg σ σ' | .chg σ σ', .one b => blkSame σ σ' b
  | _, _ => false

def yieldedA (ops : Array Oper) (tm : PT AV) (j : Nat) : Option AV := ((ops[j]?).bind (·.dst)).bind fun t => tm.get t

def wantedA (ops : Array Oper) (o : Oper) (tm : PT AV) : Option Bool := match o.guard with
  | none => some true
  | some (j, want) => (yieldedA ops tm j).bind fun v => some (match v with
    | .bool b => (match b, want with | true, true => true | false, false => true | _, _ => false)
    | _ => false)

/-- What an operation comes to: on; a panic. -/
inductive OR where
  | ok (fr : AF) (σ : Heap)
  | pan (t : Nat) (v : AV) (fr : AF) (σ : Heap)

def OR.then (r : OR) (k : AF → Heap → Option OR) : Option OR := match r with
  | .ok fr σ => k fr σ
  | r => some r

/-- An operation that is not loud: its value, and the block that it makes or turns. What it makes lies at block slot. -/
def quietV (P : Program) (C : Cfg) (ev : Evn) (slot : Nat) (lim : Nat → Bool) (ρ : Operand → Option AV) (o : Oper) (σ : Heap) : Option (AV × Option (Nat × ABlk)) := match clOf P C o with
  | .pure => (pureV P C ρ o).bind fun v => some (v, none)
  | .read => (readV P C ev lim ρ o σ).bind fun v => some (v, none)
  | .alloc => (allocV P ev lim ρ o σ).bind fun (blk, mk) => (match mk with
    | .nil => some (.snil, none)
    | mk => some (mk.val slot, some (slot, blk)))
  | .st => (storeV P lim ρ o σ).bind fun (b, blk) => some (undefA, some (b, blk))
  | .loud => none

def eff (σ : Heap) : Option (Nat × ABlk) → Heap
  | none => σ
  | some (b, x) => σ.set b x

/-- A loud operation. -/
def loudE (P : Program) (C : Cfg) (ev : Evn) (o : Oper) (fr : AF) (σ : Heap) : Option OR := match o.op, fr.rd with
  | .defer c, none => (match c.callee with
    | .value g => (fr.val C g).bind fun gv => (mapO (fr.val C) c.args.toList).bind fun args => (match gv with
      | .fn f first caps => some (.ok { (fr.put o.dst undefA) with dfs := .call f (first ++ args ++ caps) :: fr.dfs } σ)
      | _ => none)
    | _ => none)
  | _, _ => (loudV P C ev (fr.val C) o σ).bind fun (r, σ') => (match r with
    | .ret v => some (.ok (fr.put o.dst v) σ')
    | .pan t v => some (.pan t v fr σ'))

/-- One operation, number i of its region; what it allocates lies at block base + i. -/
def aop (P : Program) (C : Cfg) (ev : Evn) (ops : Array Oper) (base : Nat) (i : Nat) (o : Oper) (fr : AF) (σ : Heap) : Option OR :=
  match dstOk o fr.sz with
  | false => none
  | true => (wantedA ops o fr.tmps).bind fun w => match w with
    | false => some (.ok (fr.put o.dst undefA) σ)
    | true => (match clOf P C o with
      | .loud => loudE P C ev o fr σ
      | _ => (quietV P C ev (base + i) (fun _ => true) (fr.val C) o σ).bind fun (v, e) => some (.ok (fr.put o.dst v) (eff σ e)))

def aops (P : Program) (C : Cfg) (ev : Evn) (ops : Array Oper) (base : Nat) : Nat → List Oper → AF → Heap → Option OR
  | _, [], fr, σ => some (.ok fr σ)
  | i, o :: rest, fr, σ => (aop P C ev ops base i o fr σ).bind fun r => r.then fun fr' σ' => aops P C ev ops base (i + 1) rest fr' σ'

/-- For each operation the set (as a number's bits) of those that it must follow, the last first. -/
def predsL : List Oper → Nat → List Nat → List Nat
  | [], _, acc => acc
  | o :: rest, j, acc =>
    let m := o.after.toList.foldl (fun s e => match Region.binds .any e with
      | true => s ||| 2 ^ e.on ||| (match Nat.blt e.on j with | true => acc.getD (j - 1 - e.on) 0 | false => 0)
      | false => s) 0
    predsL rest (j + 1) (m :: acc)

def masks (ops : Array Oper) : List Nat := (predsL ops.toList 0 []).reverse

inductive Pr where
  | ok | bad | dyn

/-- May two operations of these classes be exchanged? -/
def Cl.pair : Cl → Cl → Pr
  | .pure, _ | _, .pure => .ok
  | .loud, .read | .read, .loud => .dyn
  | .loud, _ | _, .loud => .bad
  | .st, _ | _, .st => .dyn
  | _, _ => .ok

/-- What an operation must follow is written ahead of it. -/
def backs : Nat → List Oper → Bool
  | _, [] => true
  | j, o :: rest => (match o.after.toList.all (fun e => match Region.binds .any e with | true => Nat.blt e.on j | false => true) with
    | true => backs (j + 1) rest
    | false => false)

/-- The pairs of operations whose order is open and that may touch one block; none: some pair may not be exchanged at all. -/
def openPairs (P : Program) (C : Cfg) (ops : Array Oper) : Option (List (Nat × Nat)) :=
  let ms := masks ops
  (List.range ops.size).foldl (fun acc j => (List.range j).foldl (fun acc i => acc.bind fun l =>
    match Nat.testBit (ms.getD j 0) i with
    | true => some l
    | false => (match ops[i]?, ops[j]? with
      | some oi, some oj => (match Oper.apart ops oi oj, (clOf P C oi).pair (clOf P C oj) with
        | true, .ok => some l
        | true, .dyn => some ((i, j) :: l)
        | _, _ => none)
      | _, _ => none)) acc) (some [])

/-- Of the blocks that a region makes an operation may touch those whose making it must follow. -/
def limD (ops : Array Oper) (base : Nat) (j b : Nat) : Bool :=
  match Nat.blt b base, Nat.ble (base + ops.size) b with
  | false, false => (match Nat.blt (b - base) j with
    | true => Nat.testBit ((masks ops).getD j 0) (b - base)
    | false => false)
  | _, _ => true

/-- One operation of a region that draws its order, and what it looks at. -/
def aopD (P : Program) (C : Cfg) (ev : Evn) (ops : Array Oper) (base : Nat) (i : Nat) (o : Oper) (fr : AF) (σ : Heap) : Option (Foot × AF × Heap) :=
  match dstOk o fr.sz with
  | false => none
  | true => (wantedA ops o fr.tmps).bind fun w => match w with
    | false => some (.nil, fr.put o.dst undefA, σ)
    | true => (match clOf P C o with
      | .loud => (loudE P C ev o fr σ).bind fun r => (match r with
        | .ok fr' σ' => some (.chg σ σ', fr', σ')
        | .pan _ _ _ _ => none)
      | .pure => (quietV P C ev (base + i) (limD ops base i) (fr.val C) o σ).bind fun (v, e) => some (.nil, fr.put o.dst v, eff σ e)
      | _ => (quietV P C ev (base + i) (limD ops base i) (fr.val C) o σ).bind fun (v, e) => some (footA (limD ops base i) (fr.val C) o σ, fr.put o.dst v, eff σ e))

/-- The written order, with a log of what was touched. -/
def aopsD (P : Program) (C : Cfg) (ev : Evn) (ops : Array Oper) (base : Nat) : Nat → List Oper → AF → Heap → Option (List Foot × AF × Heap)
  | _, [], fr, σ => some ([], fr, σ)
  | i, o :: rest, fr, σ => (aopD P C ev ops base i o fr σ).bind fun (f, fr', σ') => (aopsD P C ev ops base (i + 1) rest fr' σ').bind fun (l, r) => some (f :: l, r)

def pairsOk (l : List Foot) : List (Nat × Nat) → Bool
  | [] => true
  | (i, j) :: r => (match (l.getD i .all).apart (l.getD j .all) with | true => pairsOk l r | false => false)

def regionA (P : Program) (C : Cfg) (ev : Evn) (ops : Array Oper) (draw : Bool) (fr : AF) (σ : Heap) : Option (AX × AF × Heap) :=
  match draw with
  | false => (aops P C ev ops σ.next 0 ops.toList fr (σ.bump ops.size)).bind fun r => (match r with
    | .ok fr' σ' => some (.norm, fr', σ')
    | .pan t v fr' σ' => some (.pan t v, fr', σ'))
  | true => (match backs 0 ops.toList with
    | false => none
    | true => (openPairs P C ops).bind fun ps => (aopsD P C ev ops σ.next 0 ops.toList fr (σ.bump ops.size)).bind fun (l, fr', σ') => (match pairsOk l ps with
      | true => some (.norm, fr', σ')
      | false => none))

/-! ### Code -/
def rangeA (P : Program) (C : Cfg) (ev : Evn) (g : Operand) (ps : Array Tmp) (assign body : Code) (fr : AF) (σ : Heap) : Option (AX × AF × Heap) :=
  (fr.val C g).bind fun gv =>
  (match fr.rd with
    | some b => (match σ.get b with
      | some (.loop _) => some (σ, fr.dfs)
      | _ => none)
    | none => some ((σ.set σ.next .defs).bump 1, .mark σ.next :: fr.dfs)).bind fun (σ1, marks) =>
  let l := σ1.next
  let σ2 := (σ1.set l (.loop { tmps := fr.tmps, sz := fr.sz, params := ps.toList, assign := assign, body := body, st := 0, pend := none })).bump 1
  (match gv with
   | .fn f first caps => callF P ev f (first ++ [AV.yld l] ++ caps) σ2
   | _ => none).bind fun (q, σ3) => match q, σ3.get l with
    | .ret _, some (.loop r) => (match r.st with
      | 1 => none
      | _ => (match r.pend with
        | none => some (.norm, { fr with dfs := marks }, σ3.del l)
        | some .ret => some (.ret, { fr with dfs := marks }, σ3.del l)
        | some (.exit id) => some (.exit id, { fr with dfs := marks }, σ3.del l)))
    | _, _ => none

/-- A loop's rounds, at most so many. -/
def loopA (ev : Evn) (b : Code) : Nat → AF → Heap → Option (AX × AF × Heap)
  | 0, _, _ => none
  | k + 1, fr, σ => (ev b fr σ).bind fun (x, fr1, σ1) => (match x with
    | .norm => loopA ev b k fr1 σ1
    | x => some (x, fr1, σ1))

def step (P : Program) (C : Cfg) (n : Nat) (ev : Evn) (c : Code) (fr : AF) (σ : Heap) : Option (AX × AF × Heap) :=
  match c with
  | .skip => some (.norm, fr, σ)
  | .region _ ops draw => regionA P C ev ops draw fr σ
  | .seq a b => (ev a fr σ).bind fun (x, fr1, σ1) => (match x with
    | .norm => ev b fr1 σ1
    | x => some (x, fr1, σ1))
  | .cond c a b => (fr.val C c).bind fun v => (match v with
    | .bool true => ev a fr σ
    | .bool false => ev b fr σ
    | _ => none)
  | .block id b => (ev b fr σ).bind fun (x, fr1, σ1) => (match x with
    | .exit k => (match Nat.beq k id with
      | true => some (.norm, fr1, σ1)
      | false => some (.exit k, fr1, σ1))
    | x => some (x, fr1, σ1))
  | .loop b => loopA ev b n fr σ
  | .exit id => some (.exit id, fr, σ)
  | .ret => some (.ret, fr, σ)
  | .rangeFunc g ps a b => rangeA P C ev g ps a b fr σ
  | _ => none

def run (P : Program) (C : Cfg) : Nat → Evn
  | 0 => fun _ _ _ => none
  | n + 1 => step P C n (run P C n)

end Go.Nv
