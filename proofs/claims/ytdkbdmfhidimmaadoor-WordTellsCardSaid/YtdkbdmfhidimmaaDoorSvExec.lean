/- The value-level executor: what a piece of code does, said of values alone (slices as lists, pointers into what never changes again). -/
import Derived.Test.YtdkbdmfhidimmaaDoorSvStat
import Derived.CallsIn
import Derived.RangeFuncLeaves
namespace Go.Sv
open Go

/-- The right to append to a slice: none, its capacity is 0, by a token of the state. -/
inductive Tk where
  | no
  | zero
  | t (n : Nat)
  deriving Inhabited

/-- Values: 'c': a concrete one · 'sl': a slice's elements (sh: none: one cell each; some k: a struct of k cells each; tok: the right to append) · 'pt': into something that never changes again · 'loc': into an object of the state · 'lsl': a slice of n elements of an object of the state, from a cell on · 'fn', 'ifc', 'agg', 'tup'. -/
inductive V where
  | c (v : Value)
  | sl (sh : Option Nat) (xs : List V) (tok : Tk)
  | lsl (sh : Option Nat) (b o n cap : Nat)
  | pt (sh : Option Nat) (v : V) (off : Nat)
  | loc (b off : Nat)
  | fn (f : Fn) (first caps : List V)
  | ifc (t : TypeId) (v : V)
  | agg (cs : List V)
  | tup (vs : List V)
  | undef
  deriving Inhabited

abbrev Fr := Nat → V
def put (fr : Fr) (d : Nat) (v : V) : Fr := fun t => bif Nat.beq t d then v else fr t
def putO (fr : Fr) (d : Option Nat) (v : V) : Fr := match d with | some d => put fr d v | none => fr

/-- A concrete value as a value. -/
def ofC1 : Value → V
  | .slice none 0 0 => .sl none [] .zero
  | .func f a b => if a.size = 0 ∧ b.size = 0 then .fn f [] [] else .c (.func f a b)
  | v => .c v
def ofC2 : Value → V
  | .agg ds => .agg (ds.toList.map ofC1)
  | x => ofC1 x
def ofC : Value → V
  | .agg cs => .agg (cs.toList.map ofC1)
  | .tuple cs => .tup (cs.toList.map ofC2)
  | v => ofC1 v

def ev (fr : Fr) : Operand → V
  | .tmp t => fr t
  | .const v => ofC v
  | .global g => .c (.pointer (some ⟨g, 0, none⟩))
  | .func f => .fn (.func f) [] []

/-- A run that touches no memory. -/
def pureVal (P : Program) {α : Type} : Sem α → Option α
  | .pure a => some a
  | .program k => pureVal P (k P)
  | .mark _ k => pureVal P k
  | _ => none

/-- What a type's variable looks like: one cell, or a struct | array of so many. -/
def shapeOf (P : Program) (t : TypeId) : Option (Option Nat) :=
  match P.underlying t, P.info? t with
  | some (.struct _), some i => some (some i.size)
  | some (.array _ _), some i => some (some i.size)
  | some _, some i => if i.size = 1 then some none else none
  | _, _ => none

def width : Option Nat → Nat
  | none => 1
  | some k => k

def fieldOf (P : Program) (s : TypeId) (f : Nat) : Option Field :=
  match P.underlying s with
  | some (.struct fs) => fs[f]?
  | _ => none

/-- A part of a struct's cells. -/
def partOf (sh : Option Nat) (cs : List V) (off : Nat) : Option V :=
  match sh with
  | none => cs[off]?
  | some k => if off + k ≤ cs.length then some (.agg ((cs.drop off).take k)) else none

def cellsO : V → Option (List V)
  | .agg cs => some cs
  | .undef => none
  | .c v => match v with
    | .agg l => some (l.toList.map .c)
    | v => some [.c v]
  | v => some [v]

/-- Does a value lie in a variable of that shape? -/
def fitsB (sh : Option Nat) (v : V) : Bool :=
  match sh, v with
  | _, .undef => false
  | some k, .agg cs => Nat.beq cs.length k
  | some k, .c (.agg l) => Nat.beq l.size k
  | some _, _ => false
  | none, .agg _ => false
  | none, .c (.agg _) => false
  | none, _ => true

/-- Operations on slices whose elements may change: append, append of such ones, copy, clear, make, bytes of a string, a string of bytes, '== nil'. -/
inductive Eff where
  | app (sh : Option Nat) (by_ : Nat) (x : V) (ys : List V)
  | appL (sh : Option Nat) (by_ : Nat) (x : V) (b o n : Nat)
  | appZ (sh : Option Nat) (by_ : Nat) (x : V) (zero : List V) (m : Int)
  | copy (sh : Option Nat) (b o n : Nat) (ys : List V)
  | copyL (sh : Option Nat) (b o n b' o' n' : Nat)
  | clear (sh : Option Nat) (b o n : Nat) (zero : List V)
  | make (sh : Option Nat) (by_ : Nat) (zero : List V) (n cap : Int)
  | bytes (s : ByteArray)
  | str (b o n : Nat)
  | isNil (eq : Bool) (n : Nat)
  deriving Inhabited

/-- What one operation comes to. -/
inductive OpR where
  | val (v : V)
  | need (p : Prop) (v : V)
  | load (b off : Nat) (sh : Option Nat)
  | store (b off : Nat) (vs : List V)
  | alloc (cs : List V)
  | append (sh : Option Nat) (bytes : Nat) (x : V) (ys : List V)
  | made (sh : Option Nat) (xs : List V)
  | call (f : FuncId) (args : List V)
  | yld (l : Nat) (args : List V)
  | nilcmp (eq : Bool) (xs : List V)
  | elem (sh : Option Nat) (xs : List V) (n : Int)
  | eff (e : Eff)
  | bad

def fillV (place : Nat → Option (Nat × Nat)) (cells : List V) : List (Nat × V) → Option (List V)
  | [] => some cells
  | (i, v) :: rest =>
    match place i with
    | none => none
    | some (off, n) => match cellsO v with
      | some cs => if cs.length = n ∧ off + n ≤ cells.length then fillV place (cells.take off ++ cs ++ cells.drop (off + n)) rest else none
      | none => none

def byteAt (s : ByteArray) (i : Nat) : UInt8 := s.data.toList.getD i 0

/-- The byte that a value is. -/
def byteOf : V → UInt8
  | .c (.int .u8 n) => UInt8.ofNat n.toNat
  | _ => 0

def isZeroC : Operand → Bool
  | .const (.int _ 0) => true
  | _ => false

def ptr (sh : Option Nat) (v : V) : V := .pt sh v 0

/-- Concrete operands: the model's own run. -/
def conc : V → Option Value
  | .c v => some v
  | _ => none

/-- Are two cells the same? -/
def eqScal (P : Program) (t : TypeId) (a b : V) : Option Bool :=
  match P.underlying t, a, b with
  | some .bool, .c (.bool x), .c (.bool y) => some (x == y)
  | some (.int _), .c (.int k x), .c (.int k' y) => if k = k' then some (x == y) else none
  | some .string, .c (.string x), .c (.string y) => some (x.toList == y.toList)
  | _, _, _ => none
/-- Are the fields of two structs the same? -/
def eqFlds (P : Program) (as bs : List V) : List Field → Option Bool
  | [] => some true
  | f :: fs => match as[f.offset]?, bs[f.offset]? with
    | some a, some b => match eqScal P f.type a b, eqFlds P as bs fs with
      | some x, some y => some (x && y)
      | _, _ => none
    | _, _ => none
/-- A type of structs whose fields are all looked at by '=='. -/
def structEqB (P : Program) (t : TypeId) : Bool :=
  match P.underlying t with
  | some (.struct fs) => !P.stoodInHeld t && !P.eqGuardType P.depth t && fs.toList.all fun f => decide (f.name ≠ "_")
  | _ => false

def sBin (P : Program) (op : BinOp) (t : TypeId) (x y : Operand) (a b : V) : OpR :=
  match op, a, b with
  | .eql, .sl _ xs _, .sl _ [] _ => match P.underlying t, y with
    | some (.slice _), .const (.slice none 0 0) => .nilcmp true xs
    | _, _ => .bad
  | .neq, .sl _ xs _, .sl _ [] _ => match P.underlying t, y with
    | some (.slice _), .const (.slice none 0 0) => .nilcmp false xs
    | _, _ => .bad
  | .eql, .lsl _ _ _ n _, .sl _ [] _ => match P.underlying t, y with
    | some (.slice _), .const (.slice none 0 0) => .eff (.isNil true n)
    | _, _ => .bad
  | .neq, .lsl _ _ _ n _, .sl _ [] _ => match P.underlying t, y with
    | some (.slice _), .const (.slice none 0 0) => .eff (.isNil false n)
    | _, _ => .bad
  | .eql, .loc _ _, .c (.pointer none) => match P.underlying t with
    | some (.pointer _) => .val (.c (.bool false))
    | _ => .bad
  | .neq, .loc _ _, .c (.pointer none) => match P.underlying t with
    | some (.pointer _) => .val (.c (.bool true))
    | _ => .bad
  | .eql, .pt _ _ _, .c (.pointer none) => match P.underlying t with
    | some (.pointer _) => .val (.c (.bool false))
    | _ => .bad
  | .neq, .pt _ _ _, .c (.pointer none) => match P.underlying t with
    | some (.pointer _) => .val (.c (.bool true))
    | _ => .bad
  | .eql, .ifc _ _, .c .nilIface => match P.underlying t with
    | some (.interface _) => .val (.c (.bool false))
    | _ => .bad
  | .neq, .ifc _ _, .c .nilIface => match P.underlying t with
    | some (.interface _) => .val (.c (.bool true))
    | _ => .bad
  | .shl, .c (.int k p), .c (.int k' q) => match y with
    | .const _ => match pureVal P (binOp .shl t (.int k p) (.int k' q)) with
      | some r => .val (.c r)
      | none => .bad
    | _ => .need (0 ≤ q) (.c (.int k (k.wrap (p * 2 ^ min q.toNat k.bits))))
  | .shr, .c (.int k p), .c (.int k' q) => match y with
    | .const _ => match pureVal P (binOp .shr t (.int k p) (.int k' q)) with
      | some r => .val (.c r)
      | none => .bad
    | _ => .need (0 ≤ q) (.c (.int k (p.fdiv (2 ^ min q.toNat k.bits))))
  | .quo, .c (.int k p), .c (.int k' q) => match y with
    | .const _ => match pureVal P (binOp .quo t (.int k p) (.int k' q)) with
      | some r => .val (.c r)
      | none => .bad
    | _ => if k = k' then .need (q ≠ 0) (.c (.int k (k.wrap (p.tdiv q)))) else .bad
  | .rem, .c (.int k p), .c (.int k' q) => match y with
    | .const _ => match pureVal P (binOp .rem t (.int k p) (.int k' q)) with
      | some r => .val (.c r)
      | none => .bad
    | _ => if k = k' then .need (q ≠ 0) (.c (.int k (p.tmod q))) else .bad
  | .add, .c (.string s), .c (.string u) => .need (s.size + u.size ≤ 4611686018427387904) (.c (.string (s ++ u)))
  | .eql, .agg as, .agg bs => match P.underlying t with
    | some (.struct fs) => match eqFlds P as bs fs.toList with
      | some r => .need (structEqB P t = true) (.c (.bool r))
      | none => .bad
    | _ => .bad
  | .neq, .agg as, .agg bs => match P.underlying t with
    | some (.struct fs) => match eqFlds P as bs fs.toList with
      | some r => .need (structEqB P t = true) (.c (.bool (!r)))
      | none => .bad
    | _ => .bad
  | _, .c u, .c v => match pureVal P (do eqGuard op t x y u v; binOp op t u v) with
    | some r => .val (.c r)
    | none => .bad
  | _, _, _ => .bad

def sOp (P : Program) (live : List Nat) (fr : Fr) (o : Oper) : OpR :=
  match o.op with
  | .move x | .assign x => .val (ev fr x)
  | .pick c a b => match ev fr c with
    | .c (.bool t) => .val (match t with | true => ev fr a | false => ev fr b)
    | _ => .bad
  | .alloc t => match P.info? t with
    | some i => match i.zero with
      | some z => match cellsO (ofC z) with
        | some cs => .alloc cs
        | none => .bad
      | none => .bad
    | none => .bad
  | .box t x => match shapeOf P t with
    | some sh => if (o.dst.any live.contains) then (match cellsO (ev fr x) with | some cs => .alloc cs | none => .bad) else (if fitsB sh (ev fr x) then .val (ptr sh (ev fr x)) else .bad)
    | none => .bad
  | .build t parts => match P.underlying t, P.info? t with
    | some (.struct fs), some i => match i.zero, fs.toList.all (fun f => (P.info? f.type).isSome) with
      | some z, true => match fillV (fun k => (fs[k]?).bind fun f => (P.info? f.type).map fun j => (f.offset, j.size)) ((cellsO (ofC z)).getD []) (parts.toList.map fun (k, x) => (k, ev fr x)) with
        | some cs => .val (.agg cs)
        | none => .bad
      | _, _ => .bad
    | some (.array _ e), some i => match i.zero, P.info? e with
      | some z, some j => match fillV (fun k => some (k * j.size, j.size)) ((cellsO (ofC z)).getD []) (parts.toList.map fun (k, x) => (k, ev fr x)) with
        | some cs => .val (.agg cs)
        | none => .bad
      | _, _ => .bad
    | _, _ => .bad
  | .buildSlice t n parts => match P.underlying t with
    | some (.slice e) => match shapeOf P e with
      | some sh =>
        let xs := parts.toList.map fun (_, x) => ev fr x
        if parts.toList.map (·.1) = List.range n ∧ xs.all (fitsB sh) ∧ n * width sh ≤ 65536 ∧ (P.info? e).any (fun i => i.zero.isSome) ∧ n ≤ 65536 then (if (o.dst.any live.contains) then .made sh xs else .val (.sl sh xs (if n = 0 then .zero else .no))) else .bad
      | none => .bad
    | _ => .bad
  | .load t x => match shapeOf P t, ev fr x with
    | some sh, .pt sh' v off =>
      if sh = sh' ∧ off = 0 then .val v else match sh', v with
        | some _, .agg cs => match partOf sh cs off with
          | some u => .val u
          | none => .bad
        | _, _ => .bad
    | some sh, .loc b off => .load b off sh
    | _, _ => .bad
  | .store t x v => match shapeOf P t, ev fr x with
    | some none, .loc b off => .store b off [ev fr v]
    | some (some k), .loc b off => match ev fr v with
      | .agg cs => if cs.length = k then .store b off cs else .bad
      | _ => .bad
    | _, _ => .bad
  | .nilCheck x => match ev fr x with
    | .pt sh v off => .val (.pt sh v off)
    | .loc b off => .val (.loc b off)
    | .fn (.func f) a b => .val (.fn (.func f) a b)
    | .c (.func (.yield l) a b) => .val (.c (.func (.yield l) a b))
    | .fn (.yield l) [] [] => .val (.fn (.yield l) [] [])
    | _ => .bad
  | .binOp op t x y _ => sBin P op t x y (ev fr x) (ev fr y)
  | .unOp op _ x => match ev fr x with
    | .c v => match pureVal P (Op.unary op v) with
      | some r => .val (.c r)
      | none => .bad
    | _ => .bad
  | .convert src dst x => match P.underlying src, P.underlying dst, ev fr x with
    | some (.int _), some (.int k), .c (.int _ n) => .val (.c (.int k (k.wrap n)))
    | some .string, some .string, .c (.string s) => .val (.c (.string s))
    | some .string, some (.slice e), .c (.string s) => match P.underlying e with
      | some (.int .u8) => if (o.dst.any live.contains) then (if (P.info? e).any (fun i => Nat.beq i.bytes 1 && Nat.beq i.size 1) then .eff (.bytes s) else .bad) else .val (.sl none (s.data.toList.map fun b => .c (.int .u8 b.toNat)) .no)
      | _ => .bad
    | some (.slice e), some .string, .sl none xs _ => match P.underlying e with
      | some (.int .u8) => .need (∀ v ∈ xs, ∃ n : UInt8, v = .c (.int .u8 n.toNat)) (.c (.string ⟨(xs.map byteOf).toArray⟩))
      | _ => .bad
    | some (.slice e), some .string, .lsl none b o' n _ => match P.underlying e with
      | some (.int .u8) => .eff (.str b o' n)
      | _ => .bad
    | _, _, _ => .bad
  | .makeInterface t x => match P.underlying t, ev fr x with
    | some (.interface _), _ => .bad
    | some _, .c v => .val (.c (.iface t v))
    | some _, v => .val (.ifc t v)
    | none, _ => .bad
  | .makeFunc f first caps => .val (.fn f (first.toList.map (ev fr)) (caps.toList.map (ev fr)))
  | .slice t x lo hi mx => match P.underlying t, ev fr x, mx with
    | some .string, .c (.string s), none => match lo.map (ev fr), hi.map (ev fr) with
      | none, none => .val (.c (.string s))
      | some (.c (.int _ l)), none => .need (0 ≤ l ∧ l ≤ s.size) (.c (.string (s.extract l.toNat s.size)))
      | none, some (.c (.int _ h)) => .need (0 ≤ h ∧ h ≤ s.size) (.c (.string (s.extract 0 h.toNat)))
      | some (.c (.int _ l)), some (.c (.int _ h)) => .need (0 ≤ l ∧ l ≤ h ∧ h ≤ s.size) (.c (.string (s.extract l.toNat h.toNat)))
      | _, _ => .bad
    | some (.slice e), .sl sh xs _, none => if shapeOf P e = some sh then match lo.map (ev fr), hi.map (ev fr) with
      | none, none => .val (.sl sh xs .no)
      | some (.c (.int _ l)), none => .need (0 ≤ l ∧ l ≤ xs.length) (.sl sh (xs.drop l.toNat) .no)
      | none, some (.c (.int _ h)) => .need (0 ≤ h ∧ h ≤ xs.length) (.sl sh (xs.take h.toNat) .no)
      | some (.c (.int _ l)), some (.c (.int _ h)) => .need (0 ≤ l ∧ l ≤ h ∧ h ≤ xs.length) (.sl sh ((xs.take h.toNat).drop l.toNat) .no)
      | _, _ => .bad else .bad
    | some (.slice e), .lsl sh b o' n cap, m => if shapeOf P e = some sh then match lo.map (ev fr), hi.map (ev fr), m.map (ev fr) with
      | none, none, none => .val (.lsl sh b o' n cap)
      | some (.c (.int _ l)), none, none => .need (0 ≤ l ∧ l ≤ n) (.lsl sh b (o' + l.toNat * width sh) (n - l.toNat) (cap - l.toNat))
      | none, some (.c (.int _ h)), none => .need (0 ≤ h ∧ h ≤ cap) (.lsl sh b o' h.toNat cap)
      | some (.c (.int _ l)), some (.c (.int _ h)), none => .need (0 ≤ l ∧ l ≤ h ∧ h ≤ cap) (.lsl sh b (o' + l.toNat * width sh) (h.toNat - l.toNat) (cap - l.toNat))
      | none, some (.c (.int _ 0)), some (.c (.int _ 0)) => .val (.sl sh [] .zero)
      | some (.c (.int _ 0)), some (.c (.int _ 0)), some (.c (.int _ 0)) => .val (.sl sh [] .zero)
      | none, some (.c (.int _ h)), some (.c (.int _ m)) => .need (0 ≤ h ∧ h ≤ m ∧ m ≤ cap) (.lsl sh b o' h.toNat m.toNat)
      | _, _, _ => .bad else .bad
    | some (.slice e), .sl sh xs _, some m => match P.info? e, isZeroC m with
      | some _, true => match lo.map (ev fr), hi.map (ev fr), ev fr m with
        | none, some (.c (.int _ 0)), .c (.int _ 0) => .val (.sl sh [] .zero)
        | some (.c (.int _ 0)), some (.c (.int _ 0)), .c (.int _ 0) => .val (.sl sh [] .zero)
        | _, _, _ => .bad
      | some _, false => if shapeOf P e = some sh then match lo.map (ev fr), hi.map (ev fr), ev fr m with
        | none, some (.c (.int _ h)), .c (.int _ m) => .need (0 ≤ h ∧ h ≤ m ∧ m ≤ xs.length) (.sl sh (xs.take h.toNat) .no)
        | some (.c (.int _ l)), some (.c (.int _ h)), .c (.int _ m) => .need (0 ≤ l ∧ l ≤ h ∧ h ≤ m ∧ m ≤ xs.length) (.sl sh ((xs.take h.toNat).drop l.toNat) .no)
        | _, _, _ => .bad else .bad
      | none, _ => .bad
    | _, _, _ => .bad
  | .fieldAddr s x f => match fieldOf P s f, ev fr x with
    | some fd, .pt sh v off => match P.info? fd.type with
      | some i => if i.size = 0 then .bad else .val (.pt sh v (off + fd.offset))
      | none => .bad
    | some fd, .loc b off => match P.info? fd.type with
      | some i => if i.size = 0 then .bad else .val (.loc b (off + fd.offset))
      | none => .bad
    | _, _ => .bad
  | .field s x f => match fieldOf P s f, ev fr x with
    | some fd, .agg cs => match shapeOf P fd.type with
      | some sh => match partOf sh cs fd.offset with
        | some v => .val v
        | none => .bad
      | none => .bad
    | _, _ => .bad
  | .indexAddr t x i => match P.underlying t, ev fr x, ev fr i with
    | some (.slice e), .sl sh xs _, .c (.int _ n) => if shapeOf P e = some sh then .elem sh xs n else .bad
    | some (.slice e), .lsl sh b o' n _, .c (.int _ i) => if shapeOf P e = some sh then .need (0 ≤ i ∧ i < n) (.loc b (o' + i.toNat * width sh)) else .bad
    | some (.array len e), .loc b off, .c (.int _ n) => match P.info? e with
      | some j => .need (0 ≤ n ∧ n < len) (.loc b (off + n.toNat * j.size))
      | none => .bad
    | _, _, _ => .bad
  | .index t x i => match P.underlying t, ev fr x, ev fr i with
    | some .string, .c (.string s), .c (.int _ n) => .need (0 ≤ n ∧ n < s.size) (.c (.int .u8 (byteAt s n.toNat).toNat))
    | some (.array len e), .agg cs, .c (.int _ n) => match shapeOf P e with
      | some none => .need (0 ≤ n ∧ n < len ∧ len ≤ cs.length) (cs.getD n.toNat .undef)
      | _ => .bad
    | _, _, _ => .bad
  | .makeSlice t ln cp => match P.underlying t, ev fr ln, ev fr cp with
    | some (.slice e), .c (.int _ n), .c (.int _ k) => match shapeOf P e, P.info? e with
      | some sh, some i => match i.zero with
        | some z => match cellsO (ofC z) with
          | some zs => if 0 < i.bytes ∧ zs.length = width sh ∧ z.cells.size = i.size then .eff (.make sh i.bytes zs n k) else .bad
          | none => .bad
        | none => .bad
      | _, _ => .bad
    | _, _, _ => .bad
  | .extract x i => match ev fr x with
    | .tup vs => match vs[i]? with
      | some v => .val v
      | none => .bad
    | _ => .bad
  | .call c => match c.callee with
    | .builtin .len => match (c.argTypes.toList.head?).bind P.underlying, c.args.toList.map (ev fr) with
      | some .string, [.c (.string s)] => .val (.c (.int .i64 s.size))
      | some (.slice _), [.sl _ xs _] => .val (.c (.int .i64 xs.length))
      | some (.slice _), [.lsl _ _ _ n _] => .val (.c (.int .i64 n))
      | some (.array n _), [_] => .val (.c (.int .i64 n))
      | _, _ => .bad
    | .builtin .cap => match (c.argTypes.toList.head?).bind P.underlying, c.args.toList.map (ev fr) with
      | some (.slice _), [.lsl _ _ _ _ k] => .val (.c (.int .i64 k))
      | some (.slice _), [.sl _ _ .zero] => .val (.c (.int .i64 0))
      | _, _ => .bad
    | .builtin .copy => match c.argTypes.toList.map P.underlying, c.args.toList.map (ev fr) with
      | [some (.slice e), some (.slice _)], [.lsl sh b o' n _, .sl sh' ys _] => if shapeOf P e = some sh then (if sh' = sh then .eff (.copy sh b o' n ys) else match ys with
        | [] => .eff (.copy sh b o' n [])
        | _ => .bad) else .bad
      | [some (.slice e), some (.slice _)], [.lsl sh b o' n _, .lsl sh' b' o2 n' _] => if shapeOf P e = some sh ∧ sh' = sh then .eff (.copyL sh b o' n b' o2 n') else .bad
      | _, _ => .bad
    | .builtin .clear => match c.argTypes.toList.map P.underlying, c.args.toList.map (ev fr) with
      | [some (.slice e)], [.lsl sh b o' n _] => match (P.info? e).bind (·.zero) with
        | some z => match cellsO (ofC z) with
          | some zs => if shapeOf P e = some sh ∧ zs.length = width sh then .eff (.clear sh b o' n zs) else .bad
          | none => .bad
        | none => .bad
      | _, _ => .bad
    | .builtin .append => match c.argTypes.toList.map P.underlying, c.args.toList.map (ev fr) with
      | [some (.slice e), some (.slice _)], [x, .sl sh' ys _] => match shapeOf P e, P.info? e with
        | some sh, some i => if 0 < i.bytes ∧ (i.zero.map fun z => z.cells.size) = some i.size then
            (if (o.dst.any live.contains) then (if sh' = sh then .eff (.app sh i.bytes x ys) else match ys with
              | [] => .eff (.app sh i.bytes x [])
              | _ => .bad) else
            (if sh' = sh then .append sh i.bytes x ys else match ys with
              | [] => .append sh i.bytes x []
              | _ => .bad)) else .bad
        | _, _ => .bad
      | [some (.slice e), some (.slice _)], [x, .lsl sh' b o' n _] => match shapeOf P e, P.info? e with
        | some sh, some i => if 0 < i.bytes ∧ (i.zero.map fun z => z.cells.size) = some i.size ∧ sh' = sh then .eff (.appL sh i.bytes x b o' n) else .bad
        | _, _ => .bad
      | [some (.slice e), some (.int _)], [x, .c (.int _ m)] => match shapeOf P e, P.info? e with
        | some sh, some i => match i.zero with
          | some z => match cellsO (ofC z) with
            | some zs => if 0 < i.bytes ∧ z.cells.size = i.size ∧ zs.length = width sh then .eff (.appZ sh i.bytes x zs m) else .bad
            | none => .bad
          | none => .bad
        | _, _ => .bad
      | [some (.slice e), some .string], [x, .c (.string s)] => match shapeOf P e, P.info? e with
        | some none, some i => if 0 < i.bytes ∧ (i.zero.map fun z => z.cells.size) = some i.size then .append none i.bytes x (s.data.toList.map fun b => .c (.int .u8 b.toNat)) else .bad
        | _, _ => .bad
      | _, _ => .bad
    | .builtin .max => match c.args.toList.map (ev fr) with
      | [.c (.int k a), .c (.int _ b)] => .val (.c (.int k (max a b)))
      | _ => .bad
    | .builtin .min => match c.args.toList.map (ev fr) with
      | [.c (.int k a), .c (.int _ b)] => .val (.c (.int k (min a b)))
      | _ => .bad
    | .value f => match ev fr f with
      | .fn (.func g) first caps => .call g (first ++ c.args.toList.map (ev fr) ++ caps)
      | .fn (.yield l) [] [] => .yld l (c.args.toList.map (ev fr))
      | _ => .bad
    | _ => .bad
  | _ => .bad

/-- A run, up to what is not settled by values. -/
inductive Tree where
  | leaf (e : Exit) (fr : Fr)
  | ite (b : Bool) (t f : Tree)
  | need (p : Prop) (t : Tree)
  | load (b off : Nat) (sh : Option Nat) (k : V → Tree)
  | store (b off : Nat) (vs : List V) (k : Tree)
  | alloc (cs : List V) (k : V → Tree)
  | append (sh : Option Nat) (bytes : Nat) (x : V) (ys : List V) (k : V → Tree)
  | made (sh : Option Nat) (xs : List V) (k : V → Tree)
  | call (f : FuncId) (args : List V) (k : V → Tree)
  | pcall (f : FuncId) (args : List V) (k : V → Tree)
  | yld (l : Nat) (args : List V) (k : V → Tree)
  | nilcmp (eq : Bool) (xs : List V) (k : V → Tree)
  | elem (sh : Option Nat) (xs : List V) (n : Int) (k : V → Tree)
  | eff (e : Eff) (k : V → Tree)
  | cut (fr : Fr) (k : Fr → Tree)
  | loop (body : Fr → Tree) (fr : Fr) (k : Exit → Fr → Tree)
  | range (f : V) (ps : List Nat) (body : Fr → Tree) (fr : Fr) (k : Exit → Fr → Tree)
  | bad

/-- Binds pushed in as far as the first event. -/
def Tree.bnd : Tree → (Exit → Fr → Tree) → Tree
  | .leaf e fr, k => k e fr
  | .ite b t f, k => .ite b (t.bnd k) (f.bnd k)
  | .need p t, k => .need p (t.bnd k)
  | .load b off sh f, k => .load b off sh fun v => (f v).bnd k
  | .store b off vs t, k => .store b off vs (t.bnd k)
  | .alloc v f, k => .alloc v fun u => (f u).bnd k
  | .append sh by_ x ys f, k => .append sh by_ x ys fun u => (f u).bnd k
  | .made sh xs f, k => .made sh xs fun u => (f u).bnd k
  | .call g args f, k => .call g args fun v => (f v).bnd k
  | .pcall g args f, k => .pcall g args fun v => (f v).bnd k
  | .yld l args f, k => .yld l args fun v => (f v).bnd k
  | .nilcmp e xs f, k => .nilcmp e xs fun v => (f v).bnd k
  | .elem sh xs n f, k => .elem sh xs n fun v => (f v).bnd k
  | .eff e f, k => .eff e fun v => (f v).bnd k
  | .cut fr f, k => .cut fr fun fr' => (f fr').bnd k
  | .loop body fr f, k => .loop body fr fun e fr' => (f e fr').bnd k
  | .range g ps body fr f, k => .range g ps body fr fun e fr' => (f e fr').bnd k
  | .bad, _ => .bad

def lookG (known : List (Nat × Bool)) (j : Nat) : Option Bool :=
  match known with
  | [] => none
  | (i, b) :: r => if Nat.beq i j then some b else lookG r j

/-- Calls in a drawn region that are not named must be pure. -/
def pd (dr : Bool) (live : List Nat) (o : Oper) : Bool := dr && !(o.dst.any live.contains)

def finish (p : Bool) (r : OpR) (d : Option Nat) (fr : Fr) (k : Fr → Tree) : Tree :=
  match r with
  | .val v => k (putO fr d v)
  | .need p v => .need p (k (putO fr d v))
  | .load b off sh => match p with
    | false => .load b off sh fun v => k (putO fr d v)
    | true => .bad
  | .store b off vs => .store b off vs (k (putO fr d .undef))
  | .alloc v => .alloc v fun u => k (putO fr d u)
  | .append sh by_ x ys => .append sh by_ x ys fun u => k (putO fr d u)
  | .made sh xs => .made sh xs fun u => k (putO fr d u)
  | .call f args => match p with
    | false => .call f args fun v => k (putO fr d v)
    | true => .pcall f args fun v => k (putO fr d v)
  | .yld l args => match p with
    | false => .yld l args fun v => k (putO fr d v)
    | true => .bad
  | .nilcmp e xs => .nilcmp e xs fun v => k (putO fr d v)
  | .elem sh xs n => .elem sh xs n fun v => k (putO fr d v)
  | .eff e => match p with
    | false => .eff e fun v => k (putO fr d v)
    | true => .bad
  | .bad => .bad

/-- Pairs 'a load, a store that may come ahead of it, elsewhere' that stand, coded, in 'live': 100000 * (the load's slot + 1) + the slot of the store's pointer. -/
def latesOf (live : List Nat) (o : Oper) : List Nat :=
  match o.op, o.dst, o.guard with
  | .load _ _, some d, none => (live.filter fun p => Nat.beq (p / 100000) (d + 1)).map fun p => p % 100000
  | _, _, _ => []
def Apart (fr : Fr) (o : Oper) (q : Nat) : Prop :=
  match o.op with
  | .load _ x => ∃ b o1 c o2, ev fr x = .loc b o1 ∧ fr q = .loc c o2 ∧ b ≠ c
  | _ => True
def late (dr : Bool) (live : List Nat) (o : Oper) (fr : Fr) (t : Tree) : Tree :=
  match dr with
  | false => t
  | true => match latesOf live o with
    | [] => t
    | q :: l => .need (∀ p ∈ q :: l, Apart fr o p) t

/-- What stands in the slot of an operation that was passed over. -/
def uV : V := .c (.tuple #[])

/-- The operations of a statement, one behind the other. -/
def execOps (P : Program) (live : List Nat) (dr : Bool) (ops : Array Oper) (k : Fr → Tree) : List Oper → List (Nat × Bool) → Fr → Tree
  | [], _, fr => k fr
  | o :: rest, known, fr =>
    match o.guard with
    | none => late dr live o fr (finish (pd dr live o) (sOp P live fr o) o.dst fr fun fr' => execOps P live dr ops k rest known fr')
    | some (j, want) =>
      match (ops[j]?).bind (·.dst) with
      | none => .bad
      | some d =>
        match lookG known j, fr d with
        | some true, .c (.bool true) => match want with
          | true => finish (pd dr live o) (sOp P live fr o) o.dst fr fun fr' => execOps P live dr ops k rest known fr'
          | false => execOps P live dr ops k rest known (putO fr o.dst uV)
        | some false, .c (.bool false) => match want with
          | false => finish (pd dr live o) (sOp P live fr o) o.dst fr fun fr' => execOps P live dr ops k rest known fr'
          | true => execOps P live dr ops k rest known (putO fr o.dst uV)
        | none, .c (.bool b) =>
          let yes (b : Bool) : Tree := finish (pd dr live o) (sOp P live (put fr d (.c (.bool b))) o) o.dst (put fr d (.c (.bool b))) fun fr' => execOps P live dr ops k rest ((j, b) :: known) fr'
          let no (b : Bool) : Tree := execOps P live dr ops k rest ((j, b) :: known) (putO (put fr d (.c (.bool b))) o.dst uV)
          match want with
          | true => .ite b (yes true) (no false)
          | false => .ite b (no true) (yes false)
        | _, .c (.tuple _) => execOps P live dr ops k rest known (putO fr o.dst uV)
        | _, _ => .bad

def lookO : List (Nat × List Nat) → Nat → Option (List Nat)
  | [], _ => none
  | (i, l) :: r, j => bif Nat.beq i j then some l else lookO r j

/-- The operations of a drawn region in the order in which they are looked at. -/
def inOrder (l : List Nat) (ops : Array Oper) : List Oper :=
  match l with
  | [] => ops.toList
  | i :: l => (i :: l).filterMap fun i => ops[i]?

/-- A region. -/
def execR (P : Program) (live : List Nat) (l : List Nat) (ops : Array Oper) (draw : Bool) (fr : Fr) : Tree :=
  match draw with
  | false => execOps P live false ops (fun fr' => .leaf .normal fr') ops.toList [] fr
  | true => execOps P live true ops (fun fr' => .leaf .normal fr') (inOrder l ops) [] fr

def putAll (fr : Fr) : List Nat → List V → Fr
  | p :: ps, v :: vs => putAll (put fr p v) ps vs
  | _, _ => fr

def exec (P : Program) (live : List Nat) (ords : List (Nat × List Nat)) : Code → Fr → Tree
  | .skip, fr => .leaf .normal fr
  | .region id ops draw, fr => match lookO ords id with
    | none => execR P live [] ops draw fr
    | some l => .cut fr fun fr' => execR P live l ops draw fr'
  | .seq a b, fr => (exec P live ords a fr).bnd fun e fr' => match e with
    | .normal => exec P live ords b fr'
    | e => .leaf e fr'
  | .cond c t e, fr => match ev fr c with
    | .c (.bool b) => .ite b (exec P live ords t fr) (exec P live ords e fr)
    | _ => .bad
  | .block id body, fr => (exec P live ords body fr).bnd fun e fr' => match e with
    | .exit j => if Nat.beq j id then .leaf .normal fr' else .leaf (.exit j) fr'
    | e => .leaf e fr'
  | .loop body, fr => .loop (exec P live ords body) fr fun e fr' => .leaf e fr'
  | .exit id, fr => .leaf (.exit id) fr
  | .ret, fr => .leaf .ret fr
  | .rangeFunc g ps a b, fr => .range (ev fr g) ps.toList (fun fr1 => (exec P live ords a fr1).bnd fun e fr2 => match e with
    | .normal => exec P live ords b fr2
    | _ => .bad) fr fun e fr' => .leaf e fr'
  | _, _ => .bad

def okDst (N : Nat) (o : Oper) : Bool :=
  match o.dst with
  | none => true
  | some d => Nat.blt d N
/-- Every slot that is written lies in the frame. -/
def okCode (N : Nat) : Code → Bool
  | .region _ ops _ => ops.toList.all (okDst N)
  | .seq a b => okCode N a && okCode N b
  | .cond _ a b => okCode N a && okCode N b
  | .block _ a => okCode N a
  | .loop a => okCode N a
  | .rangeFunc _ ps a b => ps.toList.all (Nat.blt · N) && okCode N a && okCode N b
  | _ => true

end Go.Sv
