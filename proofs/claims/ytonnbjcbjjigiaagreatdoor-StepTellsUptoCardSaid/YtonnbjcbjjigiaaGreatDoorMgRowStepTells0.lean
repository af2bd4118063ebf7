/- Parts of the proof, one behind the other. -/
import Derived.CallsIn
import Derived.RangeFuncLeaves
import Derived.WalkKit
import Derived.Deep.AppendSrc
import Derived.Lib.ConvBytes
import Derived.Laws.IdiomStrings
import Derived.Laws.BytesArg
namespace Go.Sv
open Go
def statics : List (Nat × Nat × (Value → Prop)) := [(0, 0, fun v => v = .iface 150 (.agg #[.pointer (some ⟨1, 38, none⟩)]))]
def sized : List (Nat × Nat) := []
def CountsUp : Prop := True
end Go.Sv
namespace Go.Sv
open Go
inductive Tk where
  | no
  | zero
  | t (n : Nat)
  deriving Inhabited
inductive V where
  | c (v : Value)
  | sl (sh : Option Nat) (xs : List V) (tok : Tk)
  | lsl (sh : Option Nat) (b o n cap : Nat)
  | pt (sh : Option Nat) (v : V) (off : Nat)
  | loc (b off : Nat)
  | fn (f : Fn) (first caps : List V)
  | ifc (t : TypeId) (v : V)
  | agg (cs : List V)
  | tup (vs : List V)
  | undef
  deriving Inhabited
abbrev Fr := Nat → V
def put (fr : Fr) (d : Nat) (v : V) : Fr := fun t => bif Nat.beq t d then v else fr t
def putO (fr : Fr) (d : Option Nat) (v : V) : Fr := match d with | some d => put fr d v | none => fr
def ofC1 : Value → V
  | .slice none 0 0 => .sl none [] .zero
  | .func f a b => if a.size = 0 ∧ b.size = 0 then .fn f [] [] else .c (.func f a b)
  | v => .c v
def ofC2 : Value → V
  | .agg ds => .agg (ds.toList.map ofC1)
  | x => ofC1 x
def ofC : Value → V
  | .agg cs => .agg (cs.toList.map ofC1)
  | .tuple cs => .tup (cs.toList.map ofC2)
  | v => ofC1 v
def ev (fr : Fr) : Operand → V
  | .tmp t => fr t
  | .const v => ofC v
  | .global g => .c (.pointer (some ⟨g, 0, none⟩))
  | .func f => .fn (.func f) [] []
def pureVal (P : Program) {α : Type} : Sem α → Option α
  | .pure a => some a
  | .program k => pureVal P (k P)
  | .mark _ k => pureVal P k
  | _ => none
def shapeOf (P : Program) (t : TypeId) : Option (Option Nat) :=
  match P.underlying t, P.info? t with
  | some (.struct _), some i => some (some i.size)
  | some (.array _ _), some i => some (some i.size)
  | some _, some i => if i.size = 1 then some none else none
  | _, _ => none
def width : Option Nat → Nat
  | none => 1
  | some k => k
def fieldOf (P : Program) (s : TypeId) (f : Nat) : Option Field :=
  match P.underlying s with
  | some (.struct fs) => fs[f]?
  | _ => none
def partOf (sh : Option Nat) (cs : List V) (off : Nat) : Option V :=
  match sh with
  | none => cs[off]?
  | some k => if off + k ≤ cs.length then some (.agg ((cs.drop off).take k)) else none
def cellsO : V → Option (List V)
  | .agg cs => some cs
  | .undef => none
  | .c v => match v with
    | .agg l => some (l.toList.map .c)
    | v => some [.c v]
  | v => some [v]
def fitsB (sh : Option Nat) (v : V) : Bool :=
  match sh, v with
  | _, .undef => false
  | some k, .agg cs => Nat.beq cs.length k
  | some k, .c (.agg l) => Nat.beq l.size k
  | some _, _ => false
  | none, .agg _ => false
  | none, .c (.agg _) => false
  | none, _ => true
inductive Eff where
  | app (sh : Option Nat) (by_ : Nat) (x : V) (ys : List V)
  | appL (sh : Option Nat) (by_ : Nat) (x : V) (b o n : Nat)
  | appZ (sh : Option Nat) (by_ : Nat) (x : V) (zero : List V) (m : Int)
  | copy (sh : Option Nat) (b o n : Nat) (ys : List V)
  | copyL (sh : Option Nat) (b o n b' o' n' : Nat)
  | clear (sh : Option Nat) (b o n : Nat) (zero : List V)
  | make (sh : Option Nat) (by_ : Nat) (zero : List V) (n cap : Int)
  | bytes (s : ByteArray)
  | str (b o n : Nat)
  | isNil (eq : Bool) (n : Nat)
  | lit (sh : Option Nat) (xs : List V)
  deriving Inhabited
inductive OpR where
  | val (v : V)
  | need (p : Prop) (v : V)
  | load (b off : Nat) (sh : Option Nat)
  | store (b off : Nat) (vs : List V)
  | alloc (cs : List V)
  | append (sh : Option Nat) (bytes : Nat) (x : V) (ys : List V)
  | made (sh : Option Nat) (xs : List V)
  | call (f : FuncId) (args : List V)
  | yld (l : Nat) (args : List V)
  | nilcmp (eq : Bool) (xs : List V)
  | elem (sh : Option Nat) (xs : List V) (n : Int)
  | eff (e : Eff)
  | bad
def fillV (place : Nat → Option (Nat × Nat)) (cells : List V) : List (Nat × V) → Option (List V)
  | [] => some cells
  | (i, v) :: rest =>
    match place i with
    | none => none
    | some (off, n) => match cellsO v with
      | some cs => if cs.length = n ∧ off + n ≤ cells.length then fillV place (cells.take off ++ cs ++ cells.drop (off + n)) rest else none
      | none => none
def byteAt (s : ByteArray) (i : Nat) : UInt8 := s.data.toList.getD i 0
def byteOf : V → UInt8
  | .c (.int .u8 n) => UInt8.ofNat n.toNat
  | _ => 0
def isZeroC : Operand → Bool
  | .const (.int _ 0) => true
  | _ => false
def ptr (sh : Option Nat) (v : V) : V := .pt sh v 0
def eqScal (P : Program) (t : TypeId) (a b : V) : Option Bool :=
  match P.underlying t, a, b with
  | some .bool, .c (.bool x), .c (.bool y) => some (x == y)
  | some (.int _), .c (.int k x), .c (.int k' y) => if k = k' then some (x == y) else none
  | some .string, .c (.string x), .c (.string y) => some (x.toList == y.toList)
  | _, _, _ => none
def eqFlds (P : Program) (as bs : List V) : List Field → Option Bool
  | [] => some true
  | f :: fs => match as[f.offset]?, bs[f.offset]? with
    | some a, some b => match eqScal P f.type a b, eqFlds P as bs fs with
      | some x, some y => some (x && y)
      | _, _ => none
    | _, _ => none
def structEqB (P : Program) (t : TypeId) : Bool :=
  match P.underlying t with
  | some (.struct fs) => !P.stoodInHeld t && !P.eqGuardType P.depth t && fs.toList.all fun f => decide (f.name ≠ "_")
  | _ => false
def sBin (P : Program) (op : BinOp) (t : TypeId) (x y : Operand) (a b : V) : OpR :=
  match op, a, b with
  | .eql, .sl _ xs _, .sl _ [] _ => match P.underlying t, y with
    | some (.slice _), .const (.slice none 0 0) => .nilcmp true xs
    | _, _ => .bad
  | .neq, .sl _ xs _, .sl _ [] _ => match P.underlying t, y with
    | some (.slice _), .const (.slice none 0 0) => .nilcmp false xs
    | _, _ => .bad
  | .eql, .lsl _ _ _ n _, .sl _ [] _ => match P.underlying t, y with
    | some (.slice _), .const (.slice none 0 0) => .eff (.isNil true n)
    | _, _ => .bad
  | .neq, .lsl _ _ _ n _, .sl _ [] _ => match P.underlying t, y with
    | some (.slice _), .const (.slice none 0 0) => .eff (.isNil false n)
    | _, _ => .bad
  | .eql, .loc _ _, .c (.pointer none) => match P.underlying t with
    | some (.pointer _) => .val (.c (.bool false))
    | _ => .bad
  | .neq, .loc _ _, .c (.pointer none) => match P.underlying t with
    | some (.pointer _) => .val (.c (.bool true))
    | _ => .bad
  | .eql, .pt _ _ _, .c (.pointer none) => match P.underlying t with
    | some (.pointer _) => .val (.c (.bool false))
    | _ => .bad
  | .neq, .pt _ _ _, .c (.pointer none) => match P.underlying t with
    | some (.pointer _) => .val (.c (.bool true))
    | _ => .bad
  | .eql, .ifc _ _, .c .nilIface => match P.underlying t with
    | some (.interface _) => .val (.c (.bool false))
    | _ => .bad
  | .neq, .ifc _ _, .c .nilIface => match P.underlying t with
    | some (.interface _) => .val (.c (.bool true))
    | _ => .bad
  | .shl, .c (.int k p), .c (.int k' q) => match y with
    | .const _ => match pureVal P (binOp .shl t (.int k p) (.int k' q)) with
      | some r => .val (.c r)
      | none => .bad
    | _ => .need (0 ≤ q) (.c (.int k (k.wrap (p * 2 ^ min q.toNat k.bits))))
  | .shr, .c (.int k p), .c (.int k' q) => match y with
    | .const _ => match pureVal P (binOp .shr t (.int k p) (.int k' q)) with
      | some r => .val (.c r)
      | none => .bad
    | _ => .need (0 ≤ q) (.c (.int k (p.fdiv (2 ^ min q.toNat k.bits))))
  | .quo, .c (.int k p), .c (.int k' q) => match y with
    | .const _ => match pureVal P (binOp .quo t (.int k p) (.int k' q)) with
      | some r => .val (.c r)
      | none => .bad
    | _ => if k = k' then .need (q ≠ 0) (.c (.int k (k.wrap (p.tdiv q)))) else .bad
  | .rem, .c (.int k p), .c (.int k' q) => match y with
    | .const _ => match pureVal P (binOp .rem t (.int k p) (.int k' q)) with
      | some r => .val (.c r)
      | none => .bad
    | _ => if k = k' then .need (q ≠ 0) (.c (.int k (p.tmod q))) else .bad
  | .add, .c (.string s), .c (.string u) => .need (s.size + u.size ≤ 4611686018427387904) (.c (.string (s ++ u)))
  | .eql, .agg as, .agg bs => match P.underlying t with
    | some (.struct fs) => match eqFlds P as bs fs.toList with
      | some r => .need (structEqB P t = true) (.c (.bool r))
      | none => .bad
    | _ => .bad
  | .neq, .agg as, .agg bs => match P.underlying t with
    | some (.struct fs) => match eqFlds P as bs fs.toList with
      | some r => .need (structEqB P t = true) (.c (.bool (!r)))
      | none => .bad
    | _ => .bad
  | _, .c u, .c v => match pureVal P (do eqGuard op t x y u v; binOp op t u v) with
    | some r => .val (.c r)
    | none => .bad
  | _, _, _ => .bad
def sOp (P : Program) (live : List Nat) (fr : Fr) (o : Oper) : OpR :=
  match o.op with
  | .move x | .assign x => .val (ev fr x)
  | .pick c a b => match ev fr c with
    | .c (.bool t) => .val (match t with | true => ev fr a | false => ev fr b)
    | _ => .bad
  | .alloc t => match P.info? t with
    | some i => match i.zero with
      | some z => match cellsO (ofC z) with
        | some cs => .alloc cs
        | none => .bad
      | none => .bad
    | none => .bad
  | .box t x => match shapeOf P t with
    | some sh => if (o.dst.any live.contains) then (match cellsO (ev fr x) with | some cs => .alloc cs | none => .bad) else (if fitsB sh (ev fr x) then .val (ptr sh (ev fr x)) else .bad)
    | none => .bad
  | .build t parts => match P.underlying t, P.info? t with
    | some (.struct fs), some i => match i.zero, fs.toList.all (fun f => (P.info? f.type).isSome) with
      | some z, true => match fillV (fun k => (fs[k]?).bind fun f => (P.info? f.type).map fun j => (f.offset, j.size)) ((cellsO (ofC z)).getD []) (parts.toList.map fun (k, x) => (k, ev fr x)) with
        | some cs => .val (.agg cs)
        | none => .bad
      | _, _ => .bad
    | some (.array _ e), some i => match i.zero, P.info? e with
      | some z, some j => match fillV (fun k => some (k * j.size, j.size)) ((cellsO (ofC z)).getD []) (parts.toList.map fun (k, x) => (k, ev fr x)) with
        | some cs => .val (.agg cs)
        | none => .bad
      | _, _ => .bad
    | _, _ => .bad
  | .buildSlice t n parts => match P.underlying t with
    | some (.slice e) => match shapeOf P e with
      | some sh =>
        let xs := parts.toList.map fun (_, x) => ev fr x
        if parts.toList.map (·.1) = List.range n ∧ xs.all (fitsB sh) ∧ n * width sh ≤ 65536 ∧ (P.info? e).any (fun i => i.zero.isSome) ∧ n ≤ 65536 then (if (o.dst.any live.contains) then (if o.dst.any (fun d => live.contains (30000000000 + d)) then .eff (.lit sh xs) else .made sh xs) else .val (.sl sh xs (if n = 0 then .zero else .no))) else .bad
      | none => .bad
    | _ => .bad
  | .load t x => match shapeOf P t, ev fr x with
    | some sh, .pt sh' v off =>
      if sh = sh' ∧ off = 0 then .val v else match sh', v with
        | some _, .agg cs => match partOf sh cs off with
          | some u => .val u
          | none => .bad
        | _, _ => .bad
    | some sh, .loc b off => .load b off sh
    | _, _ => .bad
  | .store t x v => match shapeOf P t, ev fr x with
    | some none, .loc b off => .store b off [ev fr v]
    | some (some k), .loc b off => match ev fr v with
      | .agg cs => if cs.length = k then .store b off cs else .bad
      | _ => .bad
    | _, _ => .bad
  | .nilCheck x => match ev fr x with
    | .pt sh v off => .val (.pt sh v off)
    | .loc b off => .val (.loc b off)
    | .fn (.func f) a b => .val (.fn (.func f) a b)
    | .c (.func (.yield l) a b) => .val (.c (.func (.yield l) a b))
    | .fn (.yield l) [] [] => .val (.fn (.yield l) [] [])
    | _ => .bad
  | .binOp op t x y _ => sBin P op t x y (ev fr x) (ev fr y)
  | .unOp op _ x => match ev fr x with
    | .c v => match pureVal P (Op.unary op v) with
      | some r => .val (.c r)
      | none => .bad
    | _ => .bad
  | .convert src dst x => match P.underlying src, P.underlying dst, ev fr x with
    | some (.int _), some (.int k), .c (.int _ n) => .val (.c (.int k (k.wrap n)))
    | some .string, some .string, .c (.string s) => .val (.c (.string s))
    | some .string, some (.slice e), .c (.string s) => match P.underlying e with
      | some (.int .u8) => if (o.dst.any live.contains) then (if (P.info? e).any (fun i => Nat.beq i.bytes 1 && Nat.beq i.size 1) then .eff (.bytes s) else .bad) else .val (.sl none (s.data.toList.map fun b => .c (.int .u8 b.toNat)) .no)
      | _ => .bad
    | some (.slice e), some .string, .sl none xs _ => match P.underlying e with
      | some (.int .u8) => .need (∀ v ∈ xs, ∃ n : UInt8, v = .c (.int .u8 n.toNat)) (.c (.string ⟨(xs.map byteOf).toArray⟩))
      | _ => .bad
    | some (.slice e), some .string, .lsl none b o' n _ => match P.underlying e with
      | some (.int .u8) => .eff (.str b o' n)
      | _ => .bad
    | _, _, _ => .bad
  | .makeInterface t x => match P.underlying t, ev fr x with
    | some (.interface _), _ => .bad
    | some _, .c v => .val (.c (.iface t v))
    | some _, v => .val (.ifc t v)
    | none, _ => .bad
  | .makeFunc f first caps => .val (.fn f (first.toList.map (ev fr)) (caps.toList.map (ev fr)))
  | .slice t x lo hi mx => match P.underlying t, ev fr x, mx with
    | some .string, .c (.string s), none => match lo.map (ev fr), hi.map (ev fr) with
      | none, none => .val (.c (.string s))
      | some (.c (.int _ l)), none => .need (0 ≤ l ∧ l ≤ s.size) (.c (.string (s.extract l.toNat s.size)))
      | none, some (.c (.int _ h)) => .need (0 ≤ h ∧ h ≤ s.size) (.c (.string (s.extract 0 h.toNat)))
      | some (.c (.int _ l)), some (.c (.int _ h)) => .need (0 ≤ l ∧ l ≤ h ∧ h ≤ s.size) (.c (.string (s.extract l.toNat h.toNat)))
      | _, _ => .bad
    | some (.slice e), .sl sh xs _, none => if shapeOf P e = some sh then match lo.map (ev fr), hi.map (ev fr) with
      | none, none => .val (.sl sh xs .no)
      | some (.c (.int _ l)), none => .need (0 ≤ l ∧ l ≤ xs.length) (.sl sh (xs.drop l.toNat) .no)
      | none, some (.c (.int _ h)) => .need (0 ≤ h ∧ h ≤ xs.length) (.sl sh (xs.take h.toNat) .no)
      | some (.c (.int _ l)), some (.c (.int _ h)) => .need (0 ≤ l ∧ l ≤ h ∧ h ≤ xs.length) (.sl sh ((xs.take h.toNat).drop l.toNat) .no)
      | _, _ => .bad else .bad
    | some (.slice e), .lsl sh b o' n cap, m => if shapeOf P e = some sh then match lo.map (ev fr), hi.map (ev fr), m.map (ev fr) with
      | none, none, none => .val (.lsl sh b o' n cap)
      | some (.c (.int _ l)), none, none => .need (0 ≤ l ∧ l ≤ n) (.lsl sh b (o' + l.toNat * width sh) (n - l.toNat) (cap - l.toNat))
      | none, some (.c (.int _ h)), none => .need (0 ≤ h ∧ h ≤ cap) (.lsl sh b o' h.toNat cap)
      | some (.c (.int _ l)), some (.c (.int _ h)), none => .need (0 ≤ l ∧ l ≤ h ∧ h ≤ cap) (.lsl sh b (o' + l.toNat * width sh) (h.toNat - l.toNat) (cap - l.toNat))
      | none, some (.c (.int _ 0)), some (.c (.int _ 0)) => .val (.sl sh [] .zero)
      | some (.c (.int _ 0)), some (.c (.int _ 0)), some (.c (.int _ 0)) => .val (.sl sh [] .zero)
      | none, some (.c (.int _ h)), some (.c (.int _ m)) => .need (0 ≤ h ∧ h ≤ m ∧ m ≤ cap) (.lsl sh b o' h.toNat m.toNat)
      | _, _, _ => .bad else .bad
    | some (.slice e), .sl sh xs _, some m => match P.info? e, isZeroC m with
      | some _, true => match lo.map (ev fr), hi.map (ev fr), ev fr m with
        | none, some (.c (.int _ 0)), .c (.int _ 0) => .val (.sl sh [] .zero)
        | some (.c (.int _ 0)), some (.c (.int _ 0)), .c (.int _ 0) => .val (.sl sh [] .zero)
        | _, _, _ => .bad
      | some _, false => if shapeOf P e = some sh then match lo.map (ev fr), hi.map (ev fr), ev fr m with
        | none, some (.c (.int _ h)), .c (.int _ m) => .need (0 ≤ h ∧ h ≤ m ∧ m ≤ xs.length) (.sl sh (xs.take h.toNat) .no)
        | some (.c (.int _ l)), some (.c (.int _ h)), .c (.int _ m) => .need (0 ≤ l ∧ l ≤ h ∧ h ≤ m ∧ m ≤ xs.length) (.sl sh ((xs.take h.toNat).drop l.toNat) .no)
        | _, _, _ => .bad else .bad
      | none, _ => .bad
    | _, _, _ => .bad
  | .fieldAddr s x f => match fieldOf P s f, ev fr x with
    | some fd, .pt sh v off => match P.info? fd.type with
      | some i => if i.size = 0 then .bad else .val (.pt sh v (off + fd.offset))
      | none => .bad
    | some fd, .loc b off => match P.info? fd.type with
      | some i => if i.size = 0 then .bad else .val (.loc b (off + fd.offset))
      | none => .bad
    | _, _ => .bad
  | .field s x f => match fieldOf P s f, ev fr x with
    | some fd, .agg cs => match shapeOf P fd.type with
      | some sh => match partOf sh cs fd.offset with
        | some v => .val v
        | none => .bad
      | none => .bad
    | _, _ => .bad
  | .indexAddr t x i => match P.underlying t, ev fr x, ev fr i with
    | some (.slice e), .sl sh xs _, .c (.int _ n) => if shapeOf P e = some sh then .elem sh xs n else .bad
    | some (.slice e), .lsl sh b o' n _, .c (.int _ i) => if shapeOf P e = some sh then .need (0 ≤ i ∧ i < n) (.loc b (o' + i.toNat * width sh)) else .bad
    | some (.array len e), .loc b off, .c (.int _ n) => match P.info? e with
      | some j => .need (0 ≤ n ∧ n < len) (.loc b (off + n.toNat * j.size))
      | none => .bad
    | some (.array len e), .pt sh v off, .c (.int _ n) => match P.info? e with
      | some j => .need (0 ≤ n ∧ n < len) (.pt sh v (off + n.toNat * j.size))
      | none => .bad
    | _, _, _ => .bad
  | .index t x i => match P.underlying t, ev fr x, ev fr i with
    | some .string, .c (.string s), .c (.int _ n) => .need (0 ≤ n ∧ n < s.size) (.c (.int .u8 (byteAt s n.toNat).toNat))
    | some (.array len e), .agg cs, .c (.int _ n) => match shapeOf P e with
      | some none => .need (0 ≤ n ∧ n < len ∧ len ≤ cs.length) (cs.getD n.toNat .undef)
      | _ => .bad
    | _, _, _ => .bad
  | .makeSlice t ln cp => match P.underlying t, ev fr ln, ev fr cp with
    | some (.slice e), .c (.int _ n), .c (.int _ k) => match shapeOf P e, P.info? e with
      | some sh, some i => match i.zero with
        | some z => match cellsO (ofC z) with
          | some zs => if 0 < i.bytes ∧ zs.length = width sh ∧ z.cells.size = i.size then .eff (.make sh i.bytes zs n k) else .bad
          | none => .bad
        | none => .bad
      | _, _ => .bad
    | _, _, _ => .bad
  | .extract x i => match ev fr x with
    | .tup vs => match vs[i]? with
      | some v => .val v
      | none => .bad
    | _ => .bad
  | .call c => match c.callee with
    | .builtin .len => match (c.argTypes.toList.head?).bind P.underlying, c.args.toList.map (ev fr) with
      | some .string, [.c (.string s)] => .val (.c (.int .i64 s.size))
      | some (.slice _), [.sl _ xs _] => .val (.c (.int .i64 xs.length))
      | some (.slice _), [.lsl _ _ _ n _] => .val (.c (.int .i64 n))
      | some (.array n _), [_] => .val (.c (.int .i64 n))
      | _, _ => .bad
    | .builtin .cap => match (c.argTypes.toList.head?).bind P.underlying, c.args.toList.map (ev fr) with
      | some (.slice _), [.lsl _ _ _ _ k] => .val (.c (.int .i64 k))
      | some (.slice _), [.sl _ _ .zero] => .val (.c (.int .i64 0))
      | _, _ => .bad
    | .builtin .copy => match c.argTypes.toList.map P.underlying, c.args.toList.map (ev fr) with
      | [some (.slice e), some (.slice _)], [.lsl sh b o' n _, .sl sh' ys _] => if shapeOf P e = some sh then (if sh' = sh then .eff (.copy sh b o' n ys) else match ys with
        | [] => .eff (.copy sh b o' n [])
        | _ => .bad) else .bad
      | [some (.slice e), some (.slice _)], [.lsl sh b o' n _, .lsl sh' b' o2 n' _] => if shapeOf P e = some sh ∧ sh' = sh then .eff (.copyL sh b o' n b' o2 n') else .bad
      | _, _ => .bad
    | .builtin .clear => match c.argTypes.toList.map P.underlying, c.args.toList.map (ev fr) with
      | [some (.slice e)], [.lsl sh b o' n _] => match (P.info? e).bind (·.zero) with
        | some z => match cellsO (ofC z) with
          | some zs => if shapeOf P e = some sh ∧ zs.length = width sh then .eff (.clear sh b o' n zs) else .bad
          | none => .bad
        | none => .bad
      | _, _ => .bad
    | .builtin .append => match c.argTypes.toList.map P.underlying, c.args.toList.map (ev fr) with
      | [some (.slice e), some (.slice _)], [x, .sl sh' ys _] => match shapeOf P e, P.info? e with
        | some sh, some i => if 0 < i.bytes ∧ (i.zero.map fun z => z.cells.size) = some i.size then
            (if (o.dst.any live.contains) then (if sh' = sh then .eff (.app sh i.bytes x ys) else match ys with
              | [] => .eff (.app sh i.bytes x [])
              | _ => .bad) else
            (if sh' = sh then .append sh i.bytes x ys else match ys with
              | [] => .append sh i.bytes x []
              | _ => .bad)) else .bad
        | _, _ => .bad
      | [some (.slice e), some (.slice _)], [x, .lsl sh' b o' n _] => match shapeOf P e, P.info? e with
        | some sh, some i => if 0 < i.bytes ∧ (i.zero.map fun z => z.cells.size) = some i.size ∧ sh' = sh then .eff (.appL sh i.bytes x b o' n) else .bad
        | _, _ => .bad
      | [some (.slice e), some (.int _)], [x, .c (.int _ m)] => match shapeOf P e, P.info? e with
        | some sh, some i => match i.zero with
          | some z => match cellsO (ofC z) with
            | some zs => if 0 < i.bytes ∧ z.cells.size = i.size ∧ zs.length = width sh then .eff (.appZ sh i.bytes x zs m) else .bad
            | none => .bad
          | none => .bad
        | _, _ => .bad
      | [some (.slice e), some .string], [x, .c (.string s)] => match shapeOf P e, P.info? e with
        | some none, some i => if 0 < i.bytes ∧ (i.zero.map fun z => z.cells.size) = some i.size then .append none i.bytes x (s.data.toList.map fun b => .c (.int .u8 b.toNat)) else .bad
        | _, _ => .bad
      | _, _ => .bad
    | .builtin .max => match c.args.toList.map (ev fr) with
      | [.c (.int k a), .c (.int _ b)] => .val (.c (.int k (max a b)))
      | _ => .bad
    | .builtin .min => match c.args.toList.map (ev fr) with
      | [.c (.int k a), .c (.int _ b)] => .val (.c (.int k (min a b)))
      | _ => .bad
    | .value f => match ev fr f with
      | .fn (.func g) first caps => .call g (first ++ c.args.toList.map (ev fr) ++ caps)
      | .fn (.yield l) [] [] => .yld l (c.args.toList.map (ev fr))
      | _ => .bad
    | _ => .bad
  | _ => .bad
inductive Tree where
  | leaf (e : Exit) (fr : Fr)
  | ite (b : Bool) (t f : Tree)
  | need (p : Prop) (t : Tree)
  | load (b off : Nat) (sh : Option Nat) (k : V → Tree)
  | store (b off : Nat) (vs : List V) (k : Tree)
  | alloc (cs : List V) (k : V → Tree)
  | append (sh : Option Nat) (bytes : Nat) (x : V) (ys : List V) (k : V → Tree)
  | made (sh : Option Nat) (xs : List V) (k : V → Tree)
  | call (f : FuncId) (args : List V) (k : V → Tree)
  | pcall (f : FuncId) (args : List V) (k : V → Tree)
  | dcall (ok : Nat → Prop) (f : FuncId) (args : List V) (k : V → Tree)
  | yld (l : Nat) (args : List V) (k : V → Tree)
  | nilcmp (eq : Bool) (xs : List V) (k : V → Tree)
  | elem (sh : Option Nat) (xs : List V) (n : Int) (k : V → Tree)
  | eff (e : Eff) (k : V → Tree)
  | cut (fr : Fr) (k : Fr → Tree)
  | loop (body : Fr → Tree) (fr : Fr) (k : Exit → Fr → Tree)
  | range (f : V) (ps : List Nat) (body : Fr → Tree) (fr : Fr) (k : Exit → Fr → Tree)
  | bad
def Tree.bnd : Tree → (Exit → Fr → Tree) → Tree
  | .leaf e fr, k => k e fr
  | .ite b t f, k => .ite b (t.bnd k) (f.bnd k)
  | .need p t, k => .need p (t.bnd k)
  | .load b off sh f, k => .load b off sh fun v => (f v).bnd k
  | .store b off vs t, k => .store b off vs (t.bnd k)
  | .alloc v f, k => .alloc v fun u => (f u).bnd k
  | .append sh by_ x ys f, k => .append sh by_ x ys fun u => (f u).bnd k
  | .made sh xs f, k => .made sh xs fun u => (f u).bnd k
  | .call g args f, k => .call g args fun v => (f v).bnd k
  | .pcall g args f, k => .pcall g args fun v => (f v).bnd k
  | .dcall ok g args f, k => .dcall ok g args fun v => (f v).bnd k
  | .yld l args f, k => .yld l args fun v => (f v).bnd k
  | .nilcmp e xs f, k => .nilcmp e xs fun v => (f v).bnd k
  | .elem sh xs n f, k => .elem sh xs n fun v => (f v).bnd k
  | .eff e f, k => .eff e fun v => (f v).bnd k
  | .cut fr f, k => .cut fr fun fr' => (f fr').bnd k
  | .loop body fr f, k => .loop body fr fun e fr' => (f e fr').bnd k
  | .range g ps body fr f, k => .range g ps body fr fun e fr' => (f e fr').bnd k
  | .bad, _ => .bad
def lookG (known : List (Nat × Bool)) (j : Nat) : Option Bool :=
  match known with
  | [] => none
  | (i, b) :: r => if Nat.beq i j then some b else lookG r j
def pd (dr : Bool) (live : List Nat) (o : Oper) : Bool := dr && !(o.dst.any live.contains)
def finish (p : Bool) (r : OpR) (d : Option Nat) (fr : Fr) (k : Fr → Tree) : Tree :=
  match r with
  | .val v => k (putO fr d v)
  | .need p v => .need p (k (putO fr d v))
  | .load b off sh => match p with
    | false => .load b off sh fun v => k (putO fr d v)
    | true => .bad
  | .store b off vs => .store b off vs (k (putO fr d .undef))
  | .alloc v => .alloc v fun u => k (putO fr d u)
  | .append sh by_ x ys => .append sh by_ x ys fun u => k (putO fr d u)
  | .made sh xs => .made sh xs fun u => k (putO fr d u)
  | .call f args => match p with
    | false => .call f args fun v => k (putO fr d v)
    | true => .pcall f args fun v => k (putO fr d v)
  | .yld l args => match p with
    | false => .yld l args fun v => k (putO fr d v)
    | true => .bad
  | .nilcmp e xs => .nilcmp e xs fun v => k (putO fr d v)
  | .elem sh xs n => .elem sh xs n fun v => k (putO fr d v)
  | .eff e => match p with
    | false => .eff e fun v => k (putO fr d v)
    | true => .bad
  | .bad => .bad
def latesOf (live : List Nat) (o : Oper) : List Nat :=
  match o.op, o.dst, o.guard with
  | .load _ _, some d, none => (live.filter fun p => Nat.beq (p / 100000) (d + 1)).map fun p => p % 100000
  | _, _, _ => []
def Apart (fr : Fr) (o : Oper) (q : Nat) : Prop :=
  match o.op with
  | .load _ x => ∃ b o1, ev fr x = .loc b o1 ∧ ∀ c o2, fr q = .loc c o2 → b ≠ c
  | _ => True
def framedQ (live : List Nat) (o : Oper) : List Nat :=
  match o.op, o.dst, o.guard with
  | .call c, some d, none => match c.callee with
    | .value (.func _) => (live.filter fun p => Nat.beq (p / 100000) (100000 + d)).map fun p => p % 100000
    | _ => []
  | _, _, _ => []
def okq (fr : Fr) (qs : List Nat) (c : Nat) : Prop := ∃ q ∈ qs, ∃ off, fr q = .loc c off
def framed (ok : Nat → Prop) : Tree → Tree
  | .call f args k => .dcall ok f args k
  | t => t
def late (dr : Bool) (live : List Nat) (o : Oper) (fr : Fr) (t : Tree) : Tree :=
  match dr with
  | false => t
  | true => match framedQ live o with
    | q :: l => framed (okq fr (q :: l)) t
    | [] => match latesOf live o with
      | [] => t
      | q :: l => .need (∀ p ∈ q :: l, Apart fr o p) t
def uV : V := .c (.tuple #[])
def execOps (P : Program) (live : List Nat) (dr : Bool) (ops : Array Oper) (k : Fr → Tree) : List Oper → List (Nat × Bool) → Fr → Tree
  | [], _, fr => k fr
  | o :: rest, known, fr =>
    match o.guard with
    | none => late dr live o fr (finish (pd dr live o) (sOp P live fr o) o.dst fr fun fr' => execOps P live dr ops k rest known fr')
    | some (j, want) =>
      match (ops[j]?).bind (·.dst) with
      | none => .bad
      | some d =>
        match lookG known j, fr d with
        | some true, .c (.bool true) => match want with
          | true => finish (pd dr live o) (sOp P live fr o) o.dst fr fun fr' => execOps P live dr ops k rest known fr'
          | false => execOps P live dr ops k rest known (putO fr o.dst uV)
        | some false, .c (.bool false) => match want with
          | false => finish (pd dr live o) (sOp P live fr o) o.dst fr fun fr' => execOps P live dr ops k rest known fr'
          | true => execOps P live dr ops k rest known (putO fr o.dst uV)
        | none, .c (.bool b) =>
          let yes (b : Bool) : Tree := finish (pd dr live o) (sOp P live (put fr d (.c (.bool b))) o) o.dst (put fr d (.c (.bool b))) fun fr' => execOps P live dr ops k rest ((j, b) :: known) fr'
          let no (b : Bool) : Tree := execOps P live dr ops k rest ((j, b) :: known) (putO (put fr d (.c (.bool b))) o.dst uV)
          match want with
          | true => .ite b (yes true) (no false)
          | false => .ite b (no true) (yes false)
        | _, .c (.tuple _) => execOps P live dr ops k rest known (putO fr o.dst uV)
        | _, _ => .bad
def lookO : List (Nat × List Nat) → Nat → Option (List Nat)
  | [], _ => none
  | (i, l) :: r, j => bif Nat.beq i j then some l else lookO r j
def inOrder (l : List Nat) (ops : Array Oper) : List Oper :=
  match l with
  | [] => ops.toList
  | i :: l => (i :: l).filterMap fun i => ops[i]?
def execR (P : Program) (live : List Nat) (l : List Nat) (ops : Array Oper) (draw : Bool) (fr : Fr) : Tree :=
  match draw with
  | false => execOps P live false ops (fun fr' => .leaf .normal fr') ops.toList [] fr
  | true => execOps P live true ops (fun fr' => .leaf .normal fr') (inOrder l ops) [] fr
def putAll (fr : Fr) : List Nat → List V → Fr
  | p :: ps, v :: vs => putAll (put fr p v) ps vs
  | _, _ => fr
def exec (P : Program) (live : List Nat) (ords : List (Nat × List Nat)) : Code → Fr → Tree
  | .skip, fr => .leaf .normal fr
  | .region id ops draw, fr => match lookO ords id with
    | none => execR P live [] ops draw fr
    | some l => .cut fr fun fr' => execR P live l ops draw fr'
  | .seq a b, fr => (exec P live ords a fr).bnd fun e fr' => match e with
    | .normal => exec P live ords b fr'
    | e => .leaf e fr'
  | .cond c t e, fr => match ev fr c with
    | .c (.bool b) => .ite b (exec P live ords t fr) (exec P live ords e fr)
    | _ => .bad
  | .block id body, fr => (exec P live ords body fr).bnd fun e fr' => match e with
    | .exit j => if Nat.beq j id then .leaf .normal fr' else .leaf (.exit j) fr'
    | e => .leaf e fr'
  | .loop body, fr => .loop (exec P live ords body) fr fun e fr' => .leaf e fr'
  | .exit id, fr => .leaf (.exit id) fr
  | .ret, fr => .leaf .ret fr
  | .rangeFunc g ps a b, fr => .range (ev fr g) ps.toList (fun fr1 => (exec P live ords a fr1).bnd fun e fr2 => match e with
    | .normal => exec P live ords b fr2
    | _ => .bad) fr fun e fr' => .leaf e fr'
  | _, _ => .bad
def okDst (N : Nat) (o : Oper) : Bool :=
  match o.dst with
  | none => true
  | some d => Nat.blt d N
def okCode (N : Nat) : Code → Bool
  | .region _ ops _ => ops.toList.all (okDst N)
  | .seq a b => okCode N a && okCode N b
  | .cond _ a b => okCode N a && okCode N b
  | .block _ a => okCode N a
  | .loop a => okCode N a
  | .rangeFunc _ ps a b => ps.toList.all (Nat.blt · N) && okCode N a && okCode N b
  | _ => true
end Go.Sv
namespace Go.Sv
open Go
structure Gh where
  cm : Nat → Nat
  nt : Nat
  th : Nat → Value
def cell (w : World) (b o : Nat) : Option Value := w.cell? ⟨b, o, none⟩
mutual
def RelV (g : Gh) (w : World) : V → Value → Prop
  | .c v, x => x = v
  | .sl sh xs tok, x => ∃ a n cap, x = .slice a n cap ∧ n = xs.length ∧ n ≤ cap ∧
      (match tok with | .no => True | .zero => cap = 0 | .t k => k < g.nt ∧ x = g.th k) ∧
      (xs = [] ∨ ∃ b o, a = some ⟨b, o, none⟩ ∧ o + n * width sh ≤ g.cm b ∧ RelXs g w sh xs (fun i => cell w b (o + i)))
  | .lsl _ b o n cap, x => ∃ a, x = .slice a n cap ∧ n ≤ cap ∧ (cap = 0 ∨ a = some ⟨b, o, none⟩)
  | .pt sh v off, x => ∃ b o, x = .pointer (some ⟨b, o + off, none⟩) ∧ o + width sh ≤ g.cm b ∧
      (match sh with
       | none => ∃ y, cell w b o = some y ∧ RelV g w v y
       | some k => ∃ l : Array Value, l.size = k ∧ (∀ i, i < k → cell w b (o + i) = l[i]?) ∧ RelV g w v (.agg l))
  | .loc b off, x => x = .pointer (some ⟨b, off, none⟩)
  | .fn f fi ca, x => ∃ l m : Array Value, x = .func f l m ∧ RelL g w fi l.toList ∧ RelL g w ca m.toList
  | .ifc t v, x => ∃ y, x = .iface t y ∧ RelV g w v y
  | .agg cs, x => ∃ l : Array Value, x = .agg l ∧ RelL g w cs l.toList
  | .tup cs, x => ∃ l : Array Value, x = .tuple l ∧ RelL g w cs l.toList
  | .undef, _ => True
def RelL (g : Gh) (w : World) : List V → List Value → Prop
  | [], l => l = []
  | v :: vs, l => ∃ x xs, l = x :: xs ∧ RelV g w v x ∧ RelL g w vs xs
def RelXs (g : Gh) (w : World) (sh : Option Nat) : List V → (Nat → Option Value) → Prop
  | [], _ => True
  | v :: vs, rd =>
      (match sh with
       | none => ∃ y, rd 0 = some y ∧ RelV g w v y
       | some k => ∃ l : Array Value, l.size = k ∧ (∀ i, i < k → rd i = l[i]?) ∧ RelV g w v (.agg l)) ∧
      RelXs g w sh vs (fun i => rd (i + width sh))
end
def RelE (g : Gh) (w : World) (sh : Option Nat) (v : V) (rd : Nat → Option Value) : Prop :=
  match sh with
  | none => ∃ y, rd 0 = some y ∧ RelV g w v y
  | some k => ∃ l : Array Value, l.size = k ∧ (∀ i, i < k → rd i = l[i]?) ∧ RelV g w v (.agg l)
theorem relXs_cons {g : Gh} {w : World} {sh : Option Nat} {v : V} {vs : List V} {rd : Nat → Option Value} :
    RelXs g w sh (v :: vs) rd ↔ RelE g w sh v rd ∧ RelXs g w sh vs (fun i => rd (i + width sh)) := by
  cases sh <;> simp [RelXs, RelE]
theorem relV_pt {g : Gh} {w : World} {sh : Option Nat} {v : V} {off : Nat} {x : Value} :
    RelV g w (.pt sh v off) x ↔ ∃ b o, x = .pointer (some ⟨b, o + off, none⟩) ∧ o + width sh ≤ g.cm b ∧ RelE g w sh v (fun i => cell w b (o + i)) := by
  cases sh <;> simp [RelV, RelE]
structure Pre (g : Gh) (w : World) (g' : Gh) (w' : World) : Prop where
  cmle : ∀ b, g.cm b ≤ g'.cm b
  com : ∀ b o, o < g.cm b → cell w' b o = cell w b o
  nt : g.nt ≤ g'.nt
  th : ∀ t, t < g.nt → g'.th t = g.th t
  dm : ∀ b o, 0 < g.cm b → (cell w' b o).isSome = (cell w b o).isSome
theorem Pre.refl (g : Gh) (w : World) : Pre g w g w := ⟨fun _ => Nat.le_refl _, fun _ _ _ => rfl, Nat.le_refl _, fun _ _ => rfl, fun _ _ _ => rfl⟩
theorem Pre.trans {g g' g'' : Gh} {w w' w'' : World} (h : Pre g w g' w') (h' : Pre g' w' g'' w'') : Pre g w g'' w'' :=
  ⟨fun b => Nat.le_trans (h.cmle b) (h'.cmle b), fun b o ho => (h'.com b o (Nat.lt_of_lt_of_le ho (h.cmle b))).trans (h.com b o ho),
   Nat.le_trans h.nt h'.nt, fun t ht => (h'.th t (Nat.lt_of_lt_of_le ht h.nt)).trans (h.th t ht), fun b o h0 => (h'.dm b o (Nat.lt_of_lt_of_le h0 (h.cmle b))).trans (h.dm b o h0)⟩
section
variable {g g' : Gh} {w w' : World}
mutual
theorem RelV.mono (h : Pre g w g' w') : ∀ (v : V) (x : Value), RelV g w v x → RelV g' w' v x
  | .c _, _, hx => by simpa [RelV] using hx
  | .sl sh xs tok, x, hx => by
    simp only [RelV] at hx ⊢
    obtain ⟨a, n, cap, rfl, hn, hc, ht, hxs⟩ := hx
    refine ⟨a, n, cap, rfl, hn, hc, ?_, ?_⟩
    · cases tok with
      | no => trivial
      | zero => exact ht
      | t k => exact ⟨Nat.lt_of_lt_of_le ht.1 h.nt, by rw [h.th k ht.1]; exact ht.2⟩
    · rcases hxs with hxs | ⟨b, o, ha, hle, hr⟩
      · exact .inl hxs
      · refine .inr ⟨b, o, ha, Nat.le_trans hle (h.cmle b), RelXs.mono h sh xs _ _ (fun i hi => ?_) hr⟩
        exact h.com b (o + i) (by subst hn; omega)
  | .lsl _ _ _ _ _, x, hx => by simpa [RelV] using hx
  | .pt sh v off, x, hx => by
    rw [relV_pt] at hx ⊢
    obtain ⟨b, o, rfl, hle, hv⟩ := hx
    refine ⟨b, o, rfl, Nat.le_trans hle (h.cmle b), ?_⟩
    cases sh with
    | none =>
      obtain ⟨y, hy, hr⟩ := hv
      exact ⟨y, (h.com b _ (by simp [width] at hle; omega)).trans hy, RelV.mono h v y hr⟩
    | some k =>
      obtain ⟨l, hl, hc, hr⟩ := hv
      exact ⟨l, hl, fun i hi => (h.com b _ (by simp [width] at hle; omega)).trans (hc i hi), RelV.mono h v _ hr⟩
  | .loc _ _, _, hx => by simpa [RelV] using hx
  | .fn f fi ca, x, hx => by
    simp only [RelV] at hx ⊢
    obtain ⟨l, m, rfl, h1, h2⟩ := hx
    exact ⟨l, m, rfl, RelL.mono h fi _ h1, RelL.mono h ca _ h2⟩
  | .ifc t v, x, hx => by
    simp only [RelV] at hx ⊢
    obtain ⟨y, rfl, h1⟩ := hx
    exact ⟨y, rfl, RelV.mono h v y h1⟩
  | .agg cs, x, hx => by
    simp only [RelV] at hx ⊢
    obtain ⟨l, rfl, h1⟩ := hx
    exact ⟨l, rfl, RelL.mono h cs _ h1⟩
  | .tup cs, x, hx => by
    simp only [RelV] at hx ⊢
    obtain ⟨l, rfl, h1⟩ := hx
    exact ⟨l, rfl, RelL.mono h cs _ h1⟩
  | .undef, _, _ => by simp [RelV]
theorem RelL.mono (h : Pre g w g' w') : ∀ (vs : List V) (xs : List Value), RelL g w vs xs → RelL g' w' vs xs
  | [], _, hx => by simpa [RelL] using hx
  | v :: vs, l, hx => by
    simp only [RelL] at hx ⊢
    obtain ⟨x, xs, rfl, h1, h2⟩ := hx
    exact ⟨x, xs, rfl, RelV.mono h v x h1, RelL.mono h vs xs h2⟩
theorem RelXs.mono (h : Pre g w g' w') (sh : Option Nat) : ∀ (vs : List V) (rd rd' : Nat → Option Value), (∀ i, i < vs.length * width sh → rd' i = rd i) → RelXs g w sh vs rd → RelXs g' w' sh vs rd'
  | [], _, _, _, _ => by simp [RelXs]
  | v :: vs, rd, rd', hrd, hx => by
    have hlen : (v :: vs).length * width sh = width sh + vs.length * width sh := by simp [Nat.add_mul]; omega
    rw [hlen] at hrd
    rw [relXs_cons] at hx ⊢
    refine ⟨?_, RelXs.mono h sh vs _ _ (fun i hi => hrd _ (by omega)) hx.2⟩
    have h1 := hx.1
    cases sh with
    | none =>
      obtain ⟨y, hy, hr⟩ := h1
      exact ⟨y, (hrd 0 (by simp [width]; omega)).trans hy, RelV.mono h v y hr⟩
    | some k =>
      obtain ⟨l, hl, hc, hr⟩ := h1
      exact ⟨l, hl, fun i hi => (hrd i (by simp [width]; omega)).trans (hc i hi), RelV.mono h v _ hr⟩
end
theorem RelE.mono (h : Pre g w g' w') {sh : Option Nat} {v : V} {rd rd' : Nat → Option Value} (hrd : ∀ i, i < width sh → rd' i = rd i) (hx : RelE g w sh v rd) : RelE g' w' sh v rd' := by
  have := RelXs.mono h sh [v] rd rd' (by simpa using hrd) (relXs_cons.2 ⟨hx, by simp [RelXs]⟩)
  exact (relXs_cons.1 this).1
end
theorem relL_length {g : Gh} {w : World} : ∀ {vs : List V} {xs : List Value}, RelL g w vs xs → xs.length = vs.length
  | [], _, h => by simp [RelL] at h; simp [h]
  | v :: vs, l, h => by
    simp only [RelL] at h
    obtain ⟨x, xs, rfl, _, h2⟩ := h
    simp [relL_length h2]
theorem relL_get {g : Gh} {w : World} : ∀ {vs : List V} {xs : List Value} {i : Nat} {v : V}, RelL g w vs xs → vs[i]? = some v → ∃ x, xs[i]? = some x ∧ RelV g w v x
  | [], _, _, _, _, hi => by simp at hi
  | v :: vs, l, i, u, h, hi => by
    simp only [RelL] at h
    obtain ⟨x, xs, rfl, h1, h2⟩ := h
    cases i with
    | zero => simp at hi; subst hi; exact ⟨x, rfl, h1⟩
    | succ i => simp at hi; simpa using relL_get h2 hi
theorem relL_of_get {g : Gh} {w : World} : ∀ {vs : List V} {xs : List Value}, xs.length = vs.length → (∀ (i : Nat) (v : V) (x : Value), vs[i]? = some v → xs[i]? = some x → RelV g w v x) → RelL g w vs xs
  | [], xs, hl, _ => by simp [RelL]; exact List.eq_nil_of_length_eq_zero hl
  | v :: vs, [], hl, _ => by simp at hl
  | v :: vs, x :: xs, hl, h => by
    simp only [RelL]
    exact ⟨x, xs, rfl, h 0 v x rfl rfl, relL_of_get (by simpa using hl) fun i u y hu hy => h (i + 1) u y (by simpa using hu) (by simpa using hy)⟩
theorem relL_append {g : Gh} {w : World} : ∀ {vs us : List V} {xs ys : List Value}, RelL g w vs xs → RelL g w us ys → RelL g w (vs ++ us) (xs ++ ys)
  | [], _, _, _, h, h' => by simp [RelL] at h; subst h; simpa using h'
  | v :: vs, us, l, ys, h, h' => by
    simp only [RelL] at h
    obtain ⟨x, xs, rfl, h1, h2⟩ := h
    simp only [List.cons_append, RelL]
    exact ⟨x, xs ++ ys, rfl, h1, relL_append h2 h'⟩
theorem relL_take {g : Gh} {w : World} {vs : List V} {xs : List Value} (h : RelL g w vs xs) (n : Nat) : RelL g w (vs.take n) (xs.take n) := by
  have hl := relL_length h
  refine relL_of_get (by simp [hl]) fun i v x hv hx => ?_
  rw [List.getElem?_take] at hv hx
  split at hv
  · obtain ⟨y, hy, hr⟩ := relL_get h hv
    simp_all
  · cases hv
theorem relL_drop {g : Gh} {w : World} {vs : List V} {xs : List Value} (h : RelL g w vs xs) (n : Nat) : RelL g w (vs.drop n) (xs.drop n) := by
  have hl := relL_length h
  refine relL_of_get (by simp [hl]) fun i v x hv hx => ?_
  rw [List.getElem?_drop] at hv hx
  obtain ⟨y, hy, hr⟩ := relL_get h hv
  simp_all
theorem relXs_get {g : Gh} {w : World} {sh : Option Nat} : ∀ {vs : List V} {rd : Nat → Option Value} {i : Nat} {v : V}, RelXs g w sh vs rd → vs[i]? = some v → RelE g w sh v (fun j => rd (i * width sh + j))
  | [], _, _, _, _, hi => by simp at hi
  | v :: vs, rd, i, u, h, hi => by
    rw [relXs_cons] at h
    cases i with
    | zero => simp at hi; subst hi; simpa using h.1
    | succ i =>
      simp at hi
      have := relXs_get h.2 hi
      have e : (fun j => rd (i * width sh + j + width sh)) = (fun j => rd ((i + 1) * width sh + j)) := by
        funext j; congr 1; rw [Nat.add_mul]; omega
      rw [← e]; exact this
theorem relXs_of_get {g : Gh} {w : World} {sh : Option Nat} : ∀ {vs : List V} {rd : Nat → Option Value}, (∀ (i : Nat) (v : V), vs[i]? = some v → RelE g w sh v (fun j => rd (i * width sh + j))) → RelXs g w sh vs rd
  | [], _, _ => by simp [RelXs]
  | v :: vs, rd, h => by
    rw [relXs_cons]
    refine ⟨by simpa using h 0 v rfl, relXs_of_get fun i u hu => ?_⟩
    have := h (i + 1) u (by simpa using hu)
    have e : (fun j => rd ((i + 1) * width sh + j)) = (fun j => rd (i * width sh + j + width sh)) := by
      funext j; congr 1; rw [Nat.add_mul]; omega
    rw [e] at this; exact this
def Vle (v v' : V) : Prop := ∀ g w x, RelV g w v x → RelV g w v' x
theorem Vle.refl (v : V) : Vle v v := fun _ _ _ h => h
theorem Vle.trans {a b c : V} (h : Vle a b) (h' : Vle b c) : Vle a c := fun _ _ _ hx => h' _ _ _ (h _ _ _ hx)
theorem Vle.undef (v : V) : Vle v .undef := fun _ _ _ _ => by simp [RelV]
theorem Vle.sl (sh : Option Nat) (xs : List V) (tok : Tk) : Vle (.sl sh xs tok) (.sl sh xs .no) := fun _ _ _ h => by
  simp only [RelV] at h ⊢
  obtain ⟨a, n, cap, rfl, hn, hc, _, hx⟩ := h
  exact ⟨a, n, cap, rfl, hn, hc, trivial, hx⟩
theorem Vle.nil (sh sh' : Option Nat) (tok : Tk) : Vle (.sl sh [] tok) (.sl sh' [] .no) := fun _ _ _ h => by
  simp only [RelV] at h ⊢
  obtain ⟨a, n, cap, rfl, hn, hc, _, _⟩ := h
  exact ⟨a, n, cap, rfl, hn, hc, trivial, .inl (by trivial)⟩
inductive VleL : List V → List V → Prop
  | nil : VleL [] []
  | cons {v v' : V} {vs vs' : List V} (h : Vle v v') (hs : VleL vs vs') : VleL (v :: vs) (v' :: vs')
theorem VleL.refl : ∀ vs, VleL vs vs
  | [] => .nil
  | v :: vs => .cons (.refl v) (VleL.refl vs)
theorem VleL.length {vs us : List V} (h : VleL vs us) : us.length = vs.length := by
  induction h with
  | nil => rfl
  | cons _ _ ih => simp [ih]
theorem VleL.rel {g : Gh} {w : World} {vs us : List V} (h : VleL vs us) : ∀ {xs : List Value}, RelL g w vs xs → RelL g w us xs := by
  induction h with
  | nil => exact fun hx => hx
  | cons hv _ ih =>
    intro xs hx
    simp only [RelL] at hx ⊢
    obtain ⟨x, ys, rfl, h1, h2⟩ := hx
    exact ⟨x, ys, rfl, hv _ _ _ h1, ih h2⟩
theorem Vle.agg {cs ds : List V} (h : VleL cs ds) : Vle (.agg cs) (.agg ds) := fun _ _ _ hx => by
  simp only [RelV] at hx ⊢
  obtain ⟨l, rfl, h1⟩ := hx
  exact ⟨l, rfl, h.rel h1⟩
theorem Vle.tup {cs ds : List V} (h : VleL cs ds) : Vle (.tup cs) (.tup ds) := fun _ _ _ hx => by
  simp only [RelV] at hx ⊢
  obtain ⟨l, rfl, h1⟩ := hx
  exact ⟨l, rfl, h.rel h1⟩
theorem Vle.pt {sh : Option Nat} {v u : V} {off : Nat} (h : Vle v u) : Vle (.pt sh v off) (.pt sh u off) := fun g w x hx => by
  rw [relV_pt] at hx ⊢
  obtain ⟨b, o, rfl, hle, hv⟩ := hx
  refine ⟨b, o, rfl, hle, ?_⟩
  cases sh with
  | none => obtain ⟨y, hy, hr⟩ := hv; exact ⟨y, hy, h _ _ _ hr⟩
  | some k => obtain ⟨l, hl, hc, hr⟩ := hv; exact ⟨l, hl, hc, h _ _ _ hr⟩
theorem Vle.fn {f : Fn} {a b c d : List V} (h : VleL a b) (h' : VleL c d) : Vle (.fn f a c) (.fn f b d) := fun _ _ _ hx => by
  simp only [RelV] at hx ⊢
  obtain ⟨l, m, rfl, h1, h2⟩ := hx
  exact ⟨l, m, rfl, h.rel h1, h'.rel h2⟩
theorem RelE.vle {g : Gh} {w : World} {sh : Option Nat} {v u : V} {rd : Nat → Option Value} (h : Vle v u) (hx : RelE g w sh v rd) : RelE g w sh u rd := by
  cases sh with
  | none => obtain ⟨y, hy, hr⟩ := hx; exact ⟨y, hy, h _ _ _ hr⟩
  | some k => obtain ⟨l, hl, hc, hr⟩ := hx; exact ⟨l, hl, hc, h _ _ _ hr⟩
theorem relXs_vle {g : Gh} {w : World} {sh : Option Nat} {vs us : List V} (h : VleL vs us) : ∀ {rd : Nat → Option Value}, RelXs g w sh vs rd → RelXs g w sh us rd := by
  induction h with
  | nil => exact fun hx => hx
  | cons hv _ ih => intro rd hx; rw [relXs_cons] at hx ⊢; exact ⟨hx.1.vle hv, ih hx.2⟩
theorem Vle.xs {sh : Option Nat} {tok : Tk} {xs ys : List V} (h : VleL xs ys) : Vle (.sl sh xs tok) (.sl sh ys tok) := fun g w x hx => by
  simp only [RelV] at hx ⊢
  obtain ⟨a, n, cap, rfl, hn, hc, ht, hr⟩ := hx
  refine ⟨a, n, cap, rfl, hn.trans h.length.symm, hc, ht, ?_⟩
  rcases hr with rfl | ⟨b, o, ha, hle, hr⟩
  · cases h; exact .inl rfl
  · exact .inr ⟨b, o, ha, hle, relXs_vle h hr⟩
inductive Res where
  | obj (b : Nat) (cs : List V)
  | tok (t : Nat) (sh : Option Nat)
  | lop (l : Nat) (lp : Loop) (fr : Nat → V)
def blockOf (x : Value) : List Nat :=
  match x with
  | .slice (some a) _ (_ + 1) => [a.block]
  | _ => []
def Res.blocks (g : Gh) : Res → List Nat
  | .obj b cs => match cs with
    | [] => []
    | _ :: _ => [b]
  | .tok t _ => blockOf (g.th t)
  | .lop l _ _ => [l]
def fzOk (fz : Nat × Nat) (n : Nat) : Prop := ∀ i, i < n → ¬ (fz.1 ≤ i ∧ i < fz.2)
def RelRes (g : Gh) (w : World) : Res → Prop
  | .obj b cs => cs = [] ∨ ∃ vals e fz, w.heap[b]? = some (.cells vals e fz) ∧ fzOk fz vals.size ∧ RelL g w cs vals.toList ∧ g.cm b = 0
  | .tok t sh => t < g.nt ∧ ((∃ A, g.th t = .slice A 0 0) ∨ ∃ b n cap cur e, g.th t = .slice (some ⟨b, 0, none⟩) n (cap + 1) ∧ w.heap[b]? = some (.cells cur e (0, 0)) ∧ n ≤ cap + 1 ∧ cap + 1 ≤ maxLen ∧ cur.size = (cap + 1) * width sh ∧ g.cm b = n * width sh)
  | .lop l lp fr => w.heap[l]? = some (.loop lp) ∧ g.cm l = 0 ∧ ∀ t, RelV g w (fr t) (lp.tmps.getD t undef)
def blocks (g : Gh) (R : List Res) : List Nat := R.flatMap (Res.blocks g)
structure RelR (g : Gh) (w : World) (R : List Res) : Prop where
  all : ∀ r ∈ R, RelRes g w r
  nodup : (blocks g R).Nodup
def StOk (g : Gh) (w : World) : Prop := (∀ p ∈ statics, ∃ v, cell w p.1 p.2.1 = some v ∧ p.2.2 v ∧ p.2.1 < g.cm p.1) ∧ ∀ p ∈ sized, 0 < g.cm p.1 ∧ cell w p.1 p.2 = none
structure Wf (g : Gh) (w : World) : Prop where
  cm : ∀ b, w.heap.size ≤ b → g.cm b = 0
  ex : ∀ b o, o < g.cm b → (cell w b o).isSome
  st : StOk g w
theorem Wf.lt {g : Gh} {w : World} (hw : Wf g w) {b : Nat} (h : 0 < g.cm b) : b < w.heap.size := by
  rcases Nat.lt_or_ge b w.heap.size with h1 | h1
  · exact h1
  · rw [hw.cm b h1] at h; omega
theorem Pre.st {g g' : Gh} {w w' : World} (hp : Pre g w g' w') (hw : Wf g w) : StOk g' w' := by
  refine ⟨fun p hm => ?_, fun p hm => ?_⟩
  · obtain ⟨v, h1, h2, h3⟩ := hw.st.1 p hm
    exact ⟨v, (hp.com p.1 p.2.1 h3).trans h1, h2, Nat.lt_of_lt_of_le h3 (hp.cmle p.1)⟩
  · obtain ⟨h1, h2⟩ := hw.st.2 p hm
    refine ⟨Nat.lt_of_lt_of_le h1 (hp.cmle p.1), ?_⟩
    have := hp.dm p.1 p.2 h1
    rw [h2] at this
    simpa using this
theorem StOk.keep {g g' : Gh} {w w' : World} (hw : Wf g w) (h : ∀ b, 0 < g.cm b → g'.cm b = g.cm b ∧ ∀ o, cell w' b o = cell w b o) : StOk g' w' := by
  refine ⟨fun p hm => ?_, fun p hm => ?_⟩
  · obtain ⟨v, h1, h2, h3⟩ := hw.st.1 p hm
    obtain ⟨e1, e2⟩ := h p.1 (by omega)
    exact ⟨v, (e2 _).trans h1, h2, by rw [e1]; exact h3⟩
  · obtain ⟨h1, h2⟩ := hw.st.2 p hm
    obtain ⟨e1, e2⟩ := h p.1 h1
    exact ⟨by rw [e1]; exact h1, (e2 _).trans h2⟩
structure Ext (own : List Nat) (g : Gh) (w : World) (g' : Gh) (w' : World) : Prop extends Pre g w g' w' where
  os : w'.os = w.os
  tape : w'.tape = w.tape
  output : w'.output = w.output
  drawn : CountsUp → w.drawn ≤ w'.drawn
  size : w.heap.size ≤ w'.heap.size
  frame : ∀ b, b < w.heap.size → b ∉ own → w'.heap[b]? = w.heap[b]?
  cmeq : ∀ b, b < w.heap.size → b ∉ own → g'.cm b = g.cm b
  wf : Wf g' w'
theorem Ext.refl (own : List Nat) {g : Gh} {w : World} (h : Wf g w) : Ext own g w g w :=
  { Pre.refl g w with os := rfl, tape := rfl, output := rfl, drawn := fun _ => Nat.le_refl _, size := Nat.le_refl _, frame := fun _ _ _ => rfl, cmeq := fun _ _ _ => rfl, wf := h }
theorem Ext.trans {own own' : List Nat} {g g' g'' : Gh} {w w' w'' : World} (h : Ext own g w g' w') (h' : Ext own' g' w' g'' w'') (ho : ∀ b ∈ own', b ∈ own ∨ w.heap.size ≤ b) : Ext own g w g'' w'' :=
  { h.toPre.trans h'.toPre with
    os := h'.os.trans h.os, tape := h'.tape.trans h.tape, output := h'.output.trans h.output, drawn := fun d => Nat.le_trans (h.drawn d) (h'.drawn d), size := Nat.le_trans h.size h'.size
    frame := fun b hb hn => (h'.frame b (Nat.lt_of_lt_of_le hb h.size) (fun hm => by rcases ho b hm with h1 | h1; exact hn h1; omega)).trans (h.frame b hb hn)
    cmeq := fun b hb hn => (h'.cmeq b (Nat.lt_of_lt_of_le hb h.size) (fun hm => by rcases ho b hm with h1 | h1; exact hn h1; omega)).trans (h.cmeq b hb hn)
    wf := h'.wf }
theorem Ext.mono {own own' : List Nat} {g g' : Gh} {w w' : World} (h : Ext own g w g' w') (ho : ∀ b ∈ own, b ∈ own') : Ext own' g w g' w' :=
  { h with frame := fun b hb hn => h.frame b hb (fun hm => hn (ho b hm)), cmeq := fun b hb hn => h.cmeq b hb (fun hm => hn (ho b hm)) }
theorem mem_blocks {g : Gh} {R : List Res} {b : Nat} : b ∈ blocks g R ↔ ∃ r ∈ R, b ∈ r.blocks g := by simp [blocks]
theorem RelRes.blocks_lt {g : Gh} {w : World} {r : Res} (h : RelRes g w r) {b : Nat} (hb : b ∈ r.blocks g) : b < w.heap.size := by
  cases r with
  | obj c cs =>
    cases cs with
    | nil => simp [Res.blocks] at hb
    | cons d ds =>
      simp [Res.blocks] at hb; subst hb
      rcases h with h | ⟨vals, e, fz, hh, _⟩
      · cases h
      · exact (Array.getElem?_eq_some_iff.1 hh).1
  | tok t sh =>
    obtain ⟨_, h⟩ := h
    rcases h with ⟨A, h⟩ | ⟨c, n, cap, cur, e, h1, h2, _⟩
    · cases A <;> simp [Res.blocks, h, blockOf] at hb
    · simp [Res.blocks, h1, blockOf] at hb; subst hb; exact (Array.getElem?_eq_some_iff.1 h2).1
  | lop l lp fr =>
    simp [Res.blocks] at hb; subst hb
    exact (Array.getElem?_eq_some_iff.1 h.1).1
theorem RelRes.kept {g g' : Gh} {w w' : World} {r : Res} (h : RelRes g w r) (hp : Pre g w g' w') (hb : ∀ b ∈ r.blocks g, w'.heap[b]? = w.heap[b]? ∧ g'.cm b = g.cm b) : RelRes g' w' r ∧ r.blocks g' = r.blocks g := by
  cases r with
  | obj c cs =>
    refine ⟨?_, rfl⟩
    cases cs with
    | nil => exact .inl rfl
    | cons d ds =>
      rcases h with h | ⟨vals, e, fz, hh, hz, hl, hc⟩
      · cases h
      · have := hb c (by simp [Res.blocks])
        exact .inr ⟨vals, e, fz, by rw [this.1]; exact hh, hz, RelL.mono hp _ _ hl, by rw [this.2]; exact hc⟩
  | tok t sh =>
    obtain ⟨ht, h⟩ := h
    have hth := hp.th t ht
    refine ⟨⟨Nat.lt_of_lt_of_le ht hp.nt, ?_⟩, by simp [Res.blocks, hth]⟩
    rw [hth]
    rcases h with h | ⟨c, n, cap, cur, e, h1, h2, h3⟩
    · exact .inl h
    · have := hb c (by simp [Res.blocks, h1, blockOf])
      exact .inr ⟨c, n, cap, cur, e, h1, by rw [this.1]; exact h2, by rw [this.2]; exact h3⟩
  | lop l lp fr =>
    have := hb l (by simp [Res.blocks])
    exact ⟨⟨by rw [this.1]; exact h.1, by rw [this.2]; exact h.2.1, fun t => RelV.mono hp _ _ (h.2.2 t)⟩, rfl⟩
theorem RelR.kept {g g' : Gh} {w w' : World} {R : List Res} {own : List Nat} (h : RelR g w R) (he : Ext own g w g' w') (hd : ∀ b ∈ blocks g R, b ∉ own) : RelR g' w' R ∧ blocks g' R = blocks g R := by
  have hk : ∀ r ∈ R, RelRes g' w' r ∧ r.blocks g' = r.blocks g := fun r hr =>
    (h.all r hr).kept he.toPre fun b hb => by
      have hm : b ∈ blocks g R := mem_blocks.2 ⟨r, hr, hb⟩
      exact ⟨he.frame b ((h.all r hr).blocks_lt hb) (hd b hm), he.cmeq b ((h.all r hr).blocks_lt hb) (hd b hm)⟩
  have hbl : blocks g' R = blocks g R := by
    unfold blocks
    have : ∀ R' : List Res, (∀ r ∈ R', r.blocks g' = r.blocks g) → R'.flatMap (Res.blocks g') = R'.flatMap (Res.blocks g) := by
      intro R' hR'
      induction R' with
      | nil => rfl
      | cons r R' ih => simp [hR' r (by simp), ih fun r hr => hR' r (by simp [hr])]
    exact this R fun r hr => (hk r hr).2
  exact ⟨⟨fun r hr => (hk r hr).1, by rw [hbl]; exact h.nodup⟩, hbl⟩
theorem blocks_sub {g : Gh} {R R' : List Res} (hs : R'.Sublist R) : (blocks g R').Sublist (blocks g R) := by
  unfold blocks
  induction hs with
  | slnil => exact List.Sublist.refl _
  | cons r _ ih => simp only [List.flatMap_cons]; exact ih.trans (List.sublist_append_right _ _)
  | cons_cons r _ ih => simp only [List.flatMap_cons]; exact (List.Sublist.refl _).append ih
theorem RelR.sub {g : Gh} {w : World} {R R' : List Res} (h : RelR g w R) (hs : R'.Sublist R) : RelR g w R' :=
  ⟨fun r hr => h.all r (hs.subset hr), h.nodup.sublist (blocks_sub hs)⟩
structure After (g : Gh) (w : World) (R : List Res) (g' : Gh) (w' : World) (R' : List Res) : Prop where
  ext : Ext (blocks g R) g w g' w'
  res : RelR g' w' R'
  own : ∀ b ∈ blocks g' R', b ∈ blocks g R ∨ w.heap.size ≤ b
theorem After.refl {g : Gh} {w : World} {R : List Res} (hw : Wf g w) (h : RelR g w R) : After g w R g w R := ⟨Ext.refl _ hw, h, fun _ hb => .inl hb⟩
theorem After.trans {g g' g'' : Gh} {w w' w'' : World} {R R' R'' : List Res} (h : After g w R g' w' R') (h' : After g' w' R' g'' w'' R'') : After g w R g'' w'' R'' :=
  ⟨h.ext.trans h'.ext h.own, h'.res, fun b hb => by
    rcases h'.own b hb with h1 | h1
    · exact h.own b h1
    · exact .inr (Nat.le_trans h.ext.size h1)⟩
theorem After.sub {g g' : Gh} {w w' : World} {R R' R'' : List Res} (h : After g w R g' w' R') (hs : R''.Sublist R') : After g w R g' w' R'' :=
  ⟨h.ext, h.res.sub hs, fun b hb => h.own b (by
    obtain ⟨r, hr, hb⟩ := mem_blocks.1 hb
    exact mem_blocks.2 ⟨r, hs.subset hr, hb⟩)⟩
end Go.Sv
namespace Go.Sv
open Go
def Fw (r : Option Nat) : Fence := { Fence.wide with round := r }
def Answers (P : Program) (s : Sem Next) (w : World) (K : Value → World → Prop) : Prop :=
  (∃ x w', s.run P w = .ok (.value x) w' ∧ K x w') ∨
  (∃ f args w', s.run P w = .ok (.enter f args) w' ∧ CallsIn Fence.wide 0 P f args w' fun e w'' => ∃ x, e = .returned x ∧ K x w'') ∨
  (∃ row args w', s.run P w = .ok (.row row args) w' ∧ RowsIn Fence.wide 0 P row args w' K)
theorem Answers.mono {P : Program} {s : Sem Next} {w : World} {K K' : Value → World → Prop} (h : Answers P s w K) (hk : ∀ x w', K x w' → K' x w') : Answers P s w K' := by
  rcases h with ⟨x, w', h1, h2⟩ | ⟨f, args, w', h1, h2⟩ | ⟨row, args, w', h1, h2⟩
  · exact .inl ⟨x, w', h1, hk _ _ h2⟩
  · exact .inr (.inl ⟨f, args, w', h1, h2.mono fun e w'' ⟨x, he, hx⟩ => ⟨x, he, hk _ _ hx⟩⟩)
  · exact .inr (.inr ⟨row, args, w', h1, h2.mono fun x w'' hx => hk _ _ hx⟩)
def SCall (P : Program) (f : FuncId) (args : List V) (R : List Res) (K : V → List Res → Prop) : Prop :=
  ∀ (g : Gh) (w : World) (xs : List Value), Wf g w → RelL g w args xs → RelR g w R →
    Answers P (callFunc f xs.toArray) w fun x w' => ∃ v g' R', K v R' ∧ After g w R g' w' R' ∧ RelV g' w' v x
def PCall (P : Program) (f : FuncId) (args : List V) (v : V) : Prop := SCall P f args [] fun u _ => u = v
def YCall (P : Program) (l : Nat) (args : List V) (R : List Res) (K : Bool → List Res → Prop) : Prop :=
  ∀ (g : Gh) (w : World) (xs : List Value), Wf g w → RelL g w args xs → RelR g w R →
    ∃ f tmps assign body, (Instr.yield l xs.toArray).run P w = .ok (.round l f tmps assign body) w ∧
      RoundIn Fence.wide 0 P l f tmps assign body w fun e w' => ∃ b g' R', e = .returned (.bool b) ∧ K b R' ∧ After g w R g' w' R'
theorem SCall.mono {P : Program} {f : FuncId} {args : List V} {R : List Res} {K K' : V → List Res → Prop} (h : SCall P f args R K) (hk : ∀ v R', K v R' → K' v R') : SCall P f args R K' :=
  fun g w xs hw ha hr => (h g w xs hw ha hr).mono fun _ _ ⟨v, g', R', hK, hA, hv⟩ => ⟨v, g', R', hk _ _ hK, hA, hv⟩
theorem YCall.mono {P : Program} {l : Nat} {args : List V} {R : List Res} {K K' : Bool → List Res → Prop} (h : YCall P l args R K) (hk : ∀ b R', K b R' → K' b R') : YCall P l args R K' := by
  intro g w xs hw ha hr
  obtain ⟨f, tmps, assign, body, hy, hR⟩ := h g w xs hw ha hr
  exact ⟨f, tmps, assign, body, hy, hR.mono fun _ _ ⟨b, g', R', he, hK, hA⟩ => ⟨b, g', R', he, hk _ _ hK, hA⟩⟩
theorem SCall.vle {P : Program} {f : FuncId} {args args' : List V} {R : List Res} {K : V → List Res → Prop} (h : SCall P f args' R K) (ha : VleL args args') : SCall P f args R K :=
  fun g w xs hw hx hr => h g w xs hw (ha.rel hx) hr
theorem blocks_append {g : Gh} {R R' : List Res} : blocks g (R ++ R') = blocks g R ++ blocks g R' := by simp [blocks]
theorem After.frame {g g' : Gh} {w w' : World} {R R1 A B : List Res} (hr : RelR g w (A ++ R ++ B)) (hA : After g w R g' w' R1) : After g w (A ++ R ++ B) g' w' (A ++ R1 ++ B) := by
  have hAB : RelR g w (A ++ B) := hr.sub (by rw [List.append_assoc]; exact List.Sublist.append (List.Sublist.refl _) (List.sublist_append_right _ _))
  have hnd := hr.nodup
  rw [blocks_append, blocks_append] at hnd
  have hdis : ∀ b ∈ blocks g (A ++ B), b ∉ blocks g R := by
    intro b hb hm
    rw [blocks_append] at hb
    rw [List.nodup_append] at hnd
    obtain ⟨h1, h2, h3⟩ := hnd
    rw [List.nodup_append] at h1
    rcases List.mem_append.1 hb with hb | hb
    · exact h1.2.2 b hb b hm rfl
    · exact h3 b (List.mem_append.2 (.inr hm)) b hb rfl
  obtain ⟨hk1, hk2⟩ := hAB.kept hA.ext hdis
  have hkA : blocks g' A = blocks g A := (hAB.sub (R' := A) (by simp)).kept hA.ext (fun b hb => hdis b (by rw [blocks_append]; exact List.mem_append.2 (.inl hb))) |>.2
  have hkB : blocks g' B = blocks g B := (hAB.sub (R' := B) (by simp)).kept hA.ext (fun b hb => hdis b (by rw [blocks_append]; exact List.mem_append.2 (.inr hb))) |>.2
  have hlt : ∀ b ∈ blocks g (A ++ B), b < w.heap.size := fun b hb => by
    obtain ⟨r, hr1, hr2⟩ := mem_blocks.1 hb
    exact (hAB.all r hr1).blocks_lt hr2
  have hnew : ∀ b ∈ blocks g' R1, b ∉ blocks g (A ++ B) := fun b hb hm => by
    rcases hA.own b hb with h1 | h1
    · exact hdis b hm h1
    · have := hlt b hm; omega
  refine ⟨?_, ⟨?_, ?_⟩, ?_⟩
  · exact hA.ext.mono fun b hb => by rw [blocks_append, blocks_append]; simp [hb]
  · intro r hr'
    simp only [List.mem_append] at hr'
    rcases hr' with (h1 | h1) | h1
    · exact hk1.all r (by simp [h1])
    · exact hA.res.all r h1
    · exact hk1.all r (by simp [h1])
  · have n1 := hA.res.nodup
    have n2 := hk1.nodup
    rw [blocks_append] at n2
    rw [blocks_append, blocks_append, hkA, hkB]
    rw [hkA, hkB] at n2
    rw [List.nodup_append] at n2 ⊢
    rw [List.nodup_append]
    refine ⟨⟨n2.1, n1, fun a ha b hb e => ?_⟩, n2.2.1, fun a ha b hb e => ?_⟩
    · subst e; exact hnew a hb (by rw [blocks_append]; simp [ha])
    · subst e
      rcases List.mem_append.1 ha with ha | ha
      · exact n2.2.2 a ha a hb rfl
      · exact hnew a ha (by rw [blocks_append]; simp [hb])
  · intro b hb
    rw [blocks_append, blocks_append, hkA, hkB] at hb
    rw [blocks_append, blocks_append]
    simp only [List.mem_append] at hb ⊢
    rcases hb with (h1 | h1) | h1
    · exact .inl (.inl (.inl h1))
    · rcases hA.own b h1 with h2 | h2
      · exact .inl (.inl (.inr h2))
      · exact .inr h2
    · exact .inl (.inr h1)
theorem SCall.frame {P : Program} {f : FuncId} {args : List V} {R A B : List Res} {K : V → List Res → Prop} (h : SCall P f args R K) :
    SCall P f args (A ++ R ++ B) fun v R' => ∃ R1, K v R1 ∧ R' = A ++ R1 ++ B := by
  intro g w xs hw hx hr
  refine (h g w xs hw hx (hr.sub (by simp))).mono ?_
  rintro x w' ⟨v, g', R1, hK, hA, hv⟩
  exact ⟨v, g', A ++ R1 ++ B, ⟨R1, hK, rfl⟩, After.frame hr hA, hv⟩
theorem blocks_perm {g : Gh} {R R' : List Res} (hp : R.Perm R') : (blocks g R).Perm (blocks g R') := hp.flatMap_right _
theorem RelR.perm {g : Gh} {w : World} {R R' : List Res} (h : RelR g w R) (hp : R.Perm R') : RelR g w R' := ⟨fun x hx => h.all x (hp.mem_iff.2 hx), (blocks_perm hp).nodup_iff.1 h.nodup⟩
theorem After.permL {g g' : Gh} {w w' : World} {R R0 R1 : List Res} (h : After g w R g' w' R1) (hp : R.Perm R0) : After g w R0 g' w' R1 :=
  ⟨h.ext.mono fun b hb => (blocks_perm hp).mem_iff.1 hb, h.res, fun b hb => (h.own b hb).imp_left fun hb => (blocks_perm hp).mem_iff.1 hb⟩
theorem After.perm {g g' : Gh} {w w' : World} {R R0 R1 : List Res} (h : After g w R g' w' R0) (hp : R0.Perm R1) : After g w R g' w' R1 :=
  ⟨h.ext, h.res.perm hp, fun b hb => h.own b ((blocks_perm hp).mem_iff.2 hb)⟩
theorem SCall.perm {P : Program} {f : FuncId} {args : List V} {R R' : List Res} {K : V → List Res → Prop} (h : SCall P f args R K) (hp : R.Perm R') : SCall P f args R' K := fun g w xs hw hx hr =>
  (h g w xs hw hx (hr.perm hp.symm)).mono fun _ _ ⟨v, g', R1, hK, hA, hv⟩ => ⟨v, g', R1, hK, hA.permL hp, hv⟩
theorem YCall.perm {P : Program} {l : Nat} {args : List V} {R R' : List Res} {K : Bool → List Res → Prop} (h : YCall P l args R K) (hp : R.Perm R') : YCall P l args R' K := by
  intro g w xs hw ha hr
  obtain ⟨f, tmps, assign, body, hy, hR⟩ := h g w xs hw ha (hr.perm hp.symm)
  exact ⟨f, tmps, assign, body, hy, hR.mono fun _ _ ⟨b, g', R', he, hK, hA⟩ => ⟨b, g', R', he, hK, hA.permL hp⟩⟩
theorem PCall.any {P : Program} {f : FuncId} {args : List V} {v : V} (h : PCall P f args v) (R : List Res) : SCall P f args R fun u R' => u = v ∧ R' = R := by
  have := SCall.frame (A := R) (B := []) h
  simp only [List.append_nil] at this
  intro g w xs hw hx hr
  refine (this g w xs hw hx hr).mono ?_
  rintro x w' ⟨u, g', R', ⟨R1, hu, rfl⟩, hA, hv⟩
  exact ⟨u, g', R, ⟨hu, rfl⟩, hA.sub (by simp), hv⟩
def oneV : V → Bool
  | .c v => v.oneCell'
  | .agg _ | .tup _ | .undef => false
  | _ => true
def okE (sh : Option Nat) (v : V) : Prop :=
  match sh with
  | none => oneV v = true
  | some k => ∃ cs, v = .agg cs ∧ cs.length = k ∧ ∀ c ∈ cs, oneV c = true
def splice (cs : List V) (off : Nat) (vs : List V) : List V := cs.take off ++ vs ++ cs.drop (off + vs.length)
def Weak (fr fr' : Fr) : Prop := ∀ t, Vle (fr t) (fr' t)
def UpdF (fr : Fr) (R : List Res) (fr' : Fr) (R' : List Res) : Prop :=
  ∀ (g : Gh) (w : World) (x : Nat → Value), Wf g w → (∀ t, RelV g w (fr t) (x t)) → RelR g w R → ∃ g', After g w R g' w R' ∧ ∀ t, RelV g' w (fr' t) (x t)
def UpdV (v : V) (R : List Res) (v' : V) (R' : List Res) : Prop :=
  ∀ (g : Gh) (w : World) (x : Value), Wf g w → RelV g w v x → RelR g w R → ∃ g', After g w R g' w R' ∧ RelV g' w v' x
theorem UpdF.weak {fr fr' : Fr} {R R' : List Res} (h : Weak fr fr') (hs : R'.Sublist R) : UpdF fr R fr' R' :=
  fun g _ _ hw hx hr => ⟨g, (After.refl hw hr).sub hs, fun t => h t _ _ _ (hx t)⟩
theorem UpdV.vle {v v' : V} {R R' : List Res} (h : Vle v v') (hs : R'.Sublist R) : UpdV v R v' R' :=
  fun g _ _ hw hx hr => ⟨g, (After.refl hw hr).sub hs, h _ _ _ hx⟩
theorem UpdF.trans {fr fr' fr'' : Fr} {R R' R'' : List Res} (h : UpdF fr R fr' R') (h' : UpdF fr' R' fr'' R'') : UpdF fr R fr'' R'' := by
  intro g w x hw hx hr
  obtain ⟨g1, h1, h2⟩ := h g w x hw hx hr
  obtain ⟨g2, h3, h4⟩ := h' g1 w x h1.ext.wf h2 h1.res
  exact ⟨g2, h1.trans h3, h4⟩
def loopPost (I : Nat → Fr → List Res → Prop) (n : Nat) (K : Exit → Fr → List Res → Prop) : Exit → Fr → List Res → Prop
  | .normal, fr', R' => ∃ (n' : Nat) (fr1 : Fr) (R1 : List Res), n' < n ∧ UpdF fr' R' fr1 R1 ∧ I n' fr1 R1
  | e, fr', R' => K e fr' R'
def aggC : V → List V
  | .agg cs => cs
  | _ => []
def rowC (sh : Option Nat) (xs : List V) : List V :=
  match sh with
  | none => xs
  | some _ => xs.flatMap aggC
def AppW (sh : Option Nat) (by_ : Nat) (x : V) (m : Nat) (src : List V) (R : List Res) (Y : V → List Res → Prop) : Prop :=
  (∃ sh', x = .sl sh' [] .zero ∧ m * by_ ≤ 140737488355328 ∧ ∀ (b cap : Nat) (sp : List V), (src ++ sp).length = cap * width sh → m ≤ cap → Y (.lsl sh b 0 m cap) (R ++ [.obj b (src ++ sp)])) ∨
  (∃ (i b o n cap : Nat) (cs : List V), x = .lsl sh b o n cap ∧ R[i]? = some (.obj b cs) ∧ n + m ≤ cap ∧ o + cap * width sh ≤ cs.length ∧ Y (.lsl sh b o (n + m) cap) (R.set i (.obj b (splice cs (o + n * width sh) src)))) ∨
  (∃ (i b n cap : Nat) (cs : List V), x = .lsl sh b 0 n cap ∧ R[i]? = some (.obj b cs) ∧ cs.length = cap * width sh ∧ (n + m) * by_ ≤ 140737488355328 ∧
    ∀ (b' cap' : Nat) (sp : List V), (cs.take (n * width sh) ++ src ++ sp).length = cap' * width sh → n + m ≤ cap' → Y (.lsl sh b' 0 (n + m) cap') (R.set i (.obj b' (cs.take (n * width sh) ++ src ++ sp))))
def Eff.W (e : Eff) (R : List Res) (Y : V → List Res → Prop) : Prop :=
  match e with
  | .app sh by_ x ys => ∃ src, VleL (rowC sh ys) src ∧ (∀ y ∈ ys, okE sh y) ∧ AppW sh by_ x ys.length src R Y
  | .appL sh by_ x b o n => ∃ (j : Nat) (cs src : List V), R[j]? = some (.obj b cs) ∧ o + n * width sh ≤ cs.length ∧ src = (cs.drop o).take (n * width sh) ∧ (∀ v ∈ src, oneV v = true) ∧ AppW sh by_ x n src R Y
  | .appZ sh by_ x zero m => 0 ≤ m ∧ m * by_ ≤ 140737488355328 ∧ (∀ v ∈ zero, oneV v = true) ∧ AppW sh by_ x m.toNat (List.replicate m.toNat zero).flatten R Y
  | .copy sh b o n ys => ∃ (i : Nat) (cs src : List V), VleL (rowC sh (ys.take n)) src ∧ (∀ y ∈ ys, okE sh y) ∧ R[i]? = some (.obj b cs) ∧ o + n * width sh ≤ cs.length ∧ Y (.c (.int .i64 (min ys.length n : Nat))) (R.set i (.obj b (splice cs o src)))
  | .copyL sh b o n b' o' n' => ∃ (i j : Nat) (cs cs' src : List V), R[i]? = some (.obj b cs) ∧ R[j]? = some (.obj b' cs') ∧ o + n * width sh ≤ cs.length ∧ o' + n' * width sh ≤ cs'.length ∧
      src = (cs'.drop o').take (min n' n * width sh) ∧ (∀ v ∈ src, oneV v = true) ∧ Y (.c (.int .i64 (min n' n : Nat))) (R.set i (.obj b (splice cs o src)))
  | .clear sh b o n zero => ∃ (i : Nat) (cs : List V), R[i]? = some (.obj b cs) ∧ o + n * width sh ≤ cs.length ∧ (∀ v ∈ zero, oneV v = true) ∧ Y (.tup []) (R.set i (.obj b (splice cs o (List.replicate n zero).flatten)))
  | .make sh by_ zero n cap => 0 ≤ n ∧ n ≤ cap ∧ cap * by_ ≤ 140737488355328 ∧ ∀ b, Y (.lsl sh b 0 n.toNat cap.toNat) (R ++ [.obj b (List.replicate cap.toNat zero).flatten])
  | .bytes s => ∀ (b cap : Nat) (sp : List V), s.size + sp.length = cap → Y (.lsl none b 0 s.size cap) (R ++ [.obj b ((s.data.toList.map fun b => V.c (.int .u8 b.toNat)) ++ sp)])
  | .str b o n => ∃ (i : Nat) (cs : List V) (l : List UInt8), R[i]? = some (.obj b cs) ∧ VleL ((cs.drop o).take n) (l.map fun b => V.c (.int .u8 b.toNat)) ∧ l.length = n ∧ Y (.c (.string ⟨l.toArray⟩)) R
  | .isNil eq n => ∀ b : Bool, (b = true → n = 0) → Y (.c (.bool (bif eq then b else !b))) R
  | .lit sh xs => (∀ y ∈ xs, okE sh y) ∧ ∀ b, Y (.lsl sh b 0 xs.length xs.length) (R ++ [.obj b (rowC sh xs)])
theorem AppW.mono {sh : Option Nat} {by_ : Nat} {x : V} {m : Nat} {src : List V} {R : List Res} {Y Y' : V → List Res → Prop} (hy : ∀ v R, Y v R → Y' v R) (h : AppW sh by_ x m src R Y) : AppW sh by_ x m src R Y' := by
  rcases h with ⟨sh', h1, h2, h3⟩ | ⟨i, b, o, n, cap, cs, h1, h2, h3, h4, h5⟩ | ⟨i, b, n, cap, cs, h1, h2, h3, h4, h5⟩
  · exact .inl ⟨sh', h1, h2, fun b cap sp e1 e2 => hy _ _ (h3 b cap sp e1 e2)⟩
  · exact .inr (.inl ⟨i, b, o, n, cap, cs, h1, h2, h3, h4, hy _ _ h5⟩)
  · exact .inr (.inr ⟨i, b, n, cap, cs, h1, h2, h3, h4, fun b' cap' sp e1 e2 => hy _ _ (h5 b' cap' sp e1 e2)⟩)
theorem Eff.W_mono {e : Eff} {R : List Res} {Y Y' : V → List Res → Prop} (hy : ∀ v R, Y v R → Y' v R) (h : e.W R Y) : e.W R Y' := by
  cases e with
  | app sh by_ x ys => obtain ⟨src, h1, h2, h3⟩ := h; exact ⟨src, h1, h2, h3.mono hy⟩
  | appL sh by_ x b o n => obtain ⟨j, cs, src, h1, h2, h3, h4, h5⟩ := h; exact ⟨j, cs, src, h1, h2, h3, h4, h5.mono hy⟩
  | appZ sh by_ x zero m => exact ⟨h.1, h.2.1, h.2.2.1, h.2.2.2.mono hy⟩
  | copy sh b o n ys => obtain ⟨i, cs, src, h1, h2, h3, h4, h5⟩ := h; exact ⟨i, cs, src, h1, h2, h3, h4, hy _ _ h5⟩
  | copyL sh b o n b' o' n' => obtain ⟨i, j, cs, cs', src, h1, h2, h3, h4, h5, h6, h7⟩ := h; exact ⟨i, j, cs, cs', src, h1, h2, h3, h4, h5, h6, hy _ _ h7⟩
  | clear sh b o n zero => obtain ⟨i, cs, h1, h2, h3, h4⟩ := h; exact ⟨i, cs, h1, h2, h3, hy _ _ h4⟩
  | make sh by_ zero n cap => exact ⟨h.1, h.2.1, h.2.2.1, fun b => hy _ _ (h.2.2.2 b)⟩
  | bytes s => exact fun b cap sp e => hy _ _ (h b cap sp e)
  | str b o n => obtain ⟨i, cs, l, h1, h2, h3, h4⟩ := h; exact ⟨i, cs, l, h1, h2, h3, hy _ _ h4⟩
  | isNil eq n => exact fun b hb => hy _ _ (h b hb)
  | lit sh xs => exact ⟨h.1, fun b => hy _ _ (h.2 b)⟩
theorem Eff.W_congr {e : Eff} {R : List Res} {Y Y' : V → List Res → Prop} (hy : ∀ v R, Y v R ↔ Y' v R) : e.W R Y ↔ e.W R Y' :=
  ⟨Eff.W_mono fun v R => (hy v R).1, Eff.W_mono fun v R => (hy v R).2⟩
def isFn (P : Program) (f : FuncId) : Prop := ∃ fn c, P.funcs[f]? = some fn ∧ fn.body = some c ∧ (fn.name == "runtime.NumGoroutine") = false
def jumpOf : Exit → Code
  | .exit id => .exit id
  | _ => .ret
def _root_.Go.Loop.left (lp : Loop) (e : Exit) : Loop := { lp with state := .done, pending := some (jumpOf e) }
def roundEnd (B : List Res → Prop) (E : Exit → List Res → Prop) : Exit → Fr → List Res → Prop
  | .normal, _, R' => B R'
  | .ret, _, R' => E .ret R'
  | .exit id, _, R' => E (.exit id) R'
  | _, _, _ => False
def yieldPost (l : Nat) (lp : Loop) (fr : Fr) (B : List Res → Prop) (E : Exit → List Res → Prop) : Bool → List Res → Prop := fun b R' =>
  (b = true ∧ ∃ R1, R' = R1 ++ [.lop l lp fr] ∧ B R1) ∨ (b = false ∧ ∃ e R1, (e = .ret ∨ ∃ id, e = .exit id) ∧ R' = R1 ++ [.lop l (lp.left e) fr] ∧ E e R1)
def Fresh (R : List Res) (b : Nat) : Prop := ∀ (i c : Nat) (cs : List V), R[i]? = some (.obj c cs) → cs ≠ [] → c ≠ b
theorem SCall.snoc {P : Program} {f : FuncId} {args : List V} {R : List Res} {K : V → List Res → Prop} {b : Nat} {cs : List V} (h : SCall P f args R K) :
    SCall P f args (R ++ [.obj b cs]) fun v R' => ∃ R1, K v R1 ∧ R' = R1 ++ [.obj b cs] ∧ (cs ≠ [] → Fresh R1 b) := by
  have h1 := SCall.frame (A := []) (B := [.obj b cs]) h
  simp only [List.nil_append] at h1
  intro g w xs hw hx hr
  refine (h1 g w xs hw hx hr).mono ?_
  rintro x w' ⟨v, g', R', ⟨R1, hK, rfl⟩, hA, hv⟩
  refine ⟨v, g', _, ⟨R1, hK, rfl, fun hne i c ds hR hd e => ?_⟩, hA, hv⟩
  subst e
  have hn := hA.res.nodup
  rw [blocks_append, List.nodup_append] at hn
  have m1 : c ∈ blocks g' R1 := mem_blocks.2 ⟨_, List.mem_of_getElem? hR, by cases ds with | nil => exact absurd rfl hd | cons _ _ => simp [Res.blocks]⟩
  have m2 : c ∈ blocks g' [Res.obj c cs] := mem_blocks.2 ⟨_, List.mem_singleton.2 rfl, by cases cs with | nil => exact absurd rfl hne | cons _ _ => simp [Res.blocks]⟩
  exact hn.2.2 c m1 c m2 rfl
def Tree.wp (P : Program) : Tree → List Res → (Exit → Fr → List Res → Prop) → Prop
  | .leaf e fr, R, Q => Q e fr R
  | .ite b t f, R, Q => (b = true → t.wp P R Q) ∧ (b = false → f.wp P R Q)
  | .need p t, R, Q => p ∧ t.wp P R Q
  | .load b off sh k, R, Q => ∃ (i : Nat) (cs : List V) (v : V), R[i]? = some (.obj b cs) ∧ partOf sh cs off = some v ∧ (k v).wp P R Q
  | .store b off vs t, R, Q => ∃ (i : Nat) (cs us : List V), R[i]? = some (.obj b cs) ∧ VleL vs us ∧ off + us.length ≤ cs.length ∧ (∀ v ∈ vs, oneV v = true) ∧ t.wp P (R.set i (.obj b (splice cs off us))) Q
  | .alloc v k, R, Q => ∀ b, (v ≠ [] → Fresh R b) → (k (.loc b 0)).wp P (R ++ [.obj b v]) Q
  | .append sh by_ x ys k, R, Q => ∃ zs, VleL ys zs ∧ (∀ y ∈ ys, okE sh y) ∧
      ((∃ sh', x = .sl sh' [] .zero ∧ zs.length * by_ ≤ 140737488355328 ∧ ∀ t, (k (.sl sh zs (.t t))).wp P (R ++ [.tok t sh]) Q) ∨
       (∃ (i t : Nat) (xs : List V), x = .sl sh xs (.t t) ∧ R[i]? = some (.tok t sh) ∧ (xs.length + zs.length) * by_ ≤ 140737488355328 ∧ ∀ t', (k (.sl sh (xs ++ zs) (.t t'))).wp P (R.set i (.tok t' sh)) Q))
  | .made sh xs k, R, Q => ∀ t, (k (.sl sh xs (.t t))).wp P (R ++ [.tok t sh]) Q
  | .call f args k, R, Q => ∃ args', VleL args args' ∧ SCall P f args' R fun v R' => (k v).wp P R' Q
  | .yld l args k, R, Q => ∃ args', VleL args args' ∧ YCall P l args' R fun b R' => (k (.c (.bool b))).wp P R' Q
  | .nilcmp e xs k, R, Q => ∀ b : Bool, (b = true → xs = []) → (k (.c (.bool (bif e then b else !b)))).wp P R Q
  | .elem sh xs n k, R, Q => ∃ (i : Nat) (u' u : V), n = i ∧ xs[i]? = some u' ∧ Vle u' u ∧ (k (.pt sh u 0)).wp P R Q
  | .eff e k, R, Q => e.W R fun v R' => (k v).wp P R' Q
  | .cut fr k, R, Q => ∃ fr1 R1, UpdF fr R fr1 R1 ∧ (k fr1).wp P R1 Q
  | .loop body fr k, R, Q => ∃ (I : Nat → Fr → List Res → Prop), (∃ n fr1 R1, UpdF fr R fr1 R1 ∧ I n fr1 R1) ∧
      ∀ n fr R, I n fr R → (body fr).wp P R (loopPost I n fun e fr' R' => (k e fr').wp P R' Q)
  | .pcall f args k, R, Q => ∃ args' v, VleL args args' ∧ PCall P f args' v ∧ (k v).wp P R Q
  | .dcall ok f args k, R, Q => ∃ (args' : List V) (A R0 B : List Res), VleL args args' ∧ R = A ++ R0 ++ B ∧ (∀ c cs, Res.obj c cs ∈ R0 → ok c) ∧ SCall P f args' R0 fun v R1 => (k v).wp P (A ++ R1 ++ B) Q
  | .range f ps body fr k, R, Q => ∃ (gf : FuncId) (first caps : List V), f = .fn (.func gf) first caps ∧ isFn P gf ∧ ∀ (l : Nat) (lp : Loop),
      (∀ (args : List V) (R1 : List Res) (B : List Res → Prop) (E : Exit → List Res → Prop), args.length = ps.length →
        (body (putAll fr ps args)).wp P R1 (roundEnd B E) → YCall P l args (R1 ++ [.lop l lp fr]) (yieldPost l lp fr B E)) →
      SCall P gf (first ++ [.fn (.yield l) [] []] ++ caps) (R ++ [.lop l lp fr]) fun _ R' =>
        (∃ R1, R' = R1 ++ [.lop l lp fr] ∧ (k .normal fr).wp P R1 Q) ∨ (∃ e R1, (e = .ret ∨ ∃ id, e = .exit id) ∧ R' = R1 ++ [.lop l (lp.left e) fr] ∧ (k e fr).wp P R1 Q)
  | .bad, _, _ => False
theorem Tree.wp_bnd {P : Program} : ∀ (t : Tree) {k : Exit → Fr → Tree} {R : List Res} {Q : Exit → Fr → List Res → Prop}, (t.bnd k).wp P R Q ↔ t.wp P R fun e fr R' => (k e fr).wp P R' Q
  | .leaf _ _, _, _, _ => Iff.rfl
  | .ite _ t f, _, _, _ => and_congr (imp_congr Iff.rfl t.wp_bnd) (imp_congr Iff.rfl f.wp_bnd)
  | .need _ t, _, _, _ => and_congr Iff.rfl t.wp_bnd
  | .load _ _ _ f, _, _, _ => exists_congr fun _ => exists_congr fun _ => exists_congr fun v => and_congr Iff.rfl (and_congr Iff.rfl (f v).wp_bnd)
  | .store _ _ _ t, _, _, _ => exists_congr fun _ => exists_congr fun _ => exists_congr fun _ => and_congr Iff.rfl (and_congr Iff.rfl (and_congr Iff.rfl (and_congr Iff.rfl t.wp_bnd)))
  | .alloc _ f, _, _, _ => forall_congr' fun _ => forall_congr' fun _ => (f _).wp_bnd
  | .append _ _ _ _ f, _, _, _ => exists_congr fun _ => and_congr Iff.rfl (and_congr Iff.rfl (or_congr
      (exists_congr fun _ => and_congr Iff.rfl (and_congr Iff.rfl (forall_congr' fun _ => (f _).wp_bnd)))
      (exists_congr fun _ => exists_congr fun _ => exists_congr fun _ => and_congr Iff.rfl (and_congr Iff.rfl (and_congr Iff.rfl (forall_congr' fun _ => (f _).wp_bnd))))))
  | .made _ _ f, _, _, _ => forall_congr' fun _ => (f _).wp_bnd
  | .call _ _ f, _, _, _ => exists_congr fun _ => and_congr Iff.rfl ⟨fun h => h.mono fun v _ => (f v).wp_bnd.1, fun h => h.mono fun v _ => (f v).wp_bnd.2⟩
  | .yld _ _ f, _, _, _ => exists_congr fun _ => and_congr Iff.rfl ⟨fun h => h.mono fun _ _ => (f _).wp_bnd.1, fun h => h.mono fun _ _ => (f _).wp_bnd.2⟩
  | .nilcmp _ _ f, _, _, _ => forall_congr' fun _ => forall_congr' fun _ => (f _).wp_bnd
  | .elem _ _ _ f, _, _, _ => exists_congr fun _ => exists_congr fun _ => exists_congr fun u => and_congr Iff.rfl (and_congr Iff.rfl (and_congr Iff.rfl (f _).wp_bnd))
  | .eff _ f, _, _, _ => Eff.W_congr fun v _ => (f v).wp_bnd
  | .cut _ f, _, _, _ => exists_congr fun fr1 => exists_congr fun _ => and_congr Iff.rfl (f fr1).wp_bnd
  | .loop body fr f, k, R, Q => by
    simp only [Tree.bnd, Tree.wp, fun (e : Exit) (fr' : Fr) (R' : List Res) => propext ((f e fr').wp_bnd (P := P) (k := k) (R := R') (Q := Q))]
  | .pcall _ _ f, _, _, _ => exists_congr fun _ => exists_congr fun v => and_congr Iff.rfl (and_congr Iff.rfl (f v).wp_bnd)
  | .dcall _ _ _ f, _, _, _ => exists_congr fun _ => exists_congr fun _ => exists_congr fun _ => exists_congr fun _ => and_congr Iff.rfl (and_congr Iff.rfl (and_congr Iff.rfl ⟨fun h => h.mono fun v _ => (f v).wp_bnd.1, fun h => h.mono fun v _ => (f v).wp_bnd.2⟩))
  | .range g ps body fr f, k, R, Q => by
    simp only [Tree.bnd, Tree.wp, fun (e : Exit) (fr' : Fr) (R' : List Res) => propext ((f e fr').wp_bnd (P := P) (k := k) (R := R') (Q := Q))]
  | .bad, _, _, _ => Iff.rfl
end Go.Sv
namespace Go.Sv
open Go
def RelF (N : Nat) (g : Gh) (w : World) (fr : Fr) (tmps : Array Value) : Prop := tmps.size = N ∧ ∀ t, RelV g w (fr t) (tmps.getD t undef)
theorem RelF.mono {N : Nat} {g g' : Gh} {w w' : World} {fr : Fr} {tmps : Array Value} (h : RelF N g w fr tmps) (hp : Pre g w g' w') : RelF N g' w' fr tmps :=
  ⟨h.1, fun t => RelV.mono hp _ _ (h.2 t)⟩
theorem RelF.weak {N : Nat} {g : Gh} {w : World} {fr fr' : Fr} {tmps : Array Value} (h : RelF N g w fr tmps) (hp : Weak fr fr') : RelF N g w fr' tmps :=
  ⟨h.1, fun t => hp t _ _ _ (h.2 t)⟩
theorem put_same {fr : Fr} {d : Nat} {v : V} : put fr d v d = v := by simp [put]
theorem Nat.beq_eq_false_of_ne {a b : Nat} (h : a ≠ b) : Nat.beq a b = false := by
  cases e : Nat.beq a b with
  | false => rfl
  | true => exact absurd (Nat.eq_of_beq_eq_true e) h
theorem put_other {fr : Fr} {d t : Nat} {v : V} (h : t ≠ d) : put fr d v t = fr t := by
  have : Nat.beq t d = false := Nat.beq_eq_false_of_ne h
  simp [put, this]
theorem RelF.put {N : Nat} {g : Gh} {w : World} {fr : Fr} {a : Act} (h : RelF N g w fr a.tmps) {d : Option Nat} (hd : ∀ k, d = some k → k < N) {v : V} {x : Value} (hv : RelV g w v x) : RelF N g w (putO fr d v) (a.put d x).tmps := by
  cases d with
  | none => exact h
  | some k =>
    have hk := hd k rfl
    refine ⟨by simp [Act.put, h.1], fun t => ?_⟩
    by_cases e : t = k
    · subst e
      simp only [putO, put_same, Act.put]
      rw [Array.getD_eq_getD_getElem?, Array.getElem?_setIfInBounds_self_of_lt (by rw [h.1]; exact hk)]
      exact hv
    · simp only [putO, put_other e, Act.put]
      rw [Array.getD_eq_getD_getElem?, Array.getElem?_setIfInBounds_ne (fun h => e h.symm), ← Array.getD_eq_getD_getElem?]
      exact h.2 t
theorem relV_undef (g : Gh) (w : World) (x : Value) : RelV g w .undef x := by simp [RelV]
theorem ofC1_rel (g : Gh) (w : World) (v : Value) : RelV g w (ofC1 v) v := by
  unfold ofC1
  split
  · simp only [RelV]
    exact ⟨none, 0, 0, rfl, rfl, Nat.le_refl _, rfl, .inl (by trivial)⟩
  · rename_i f a b
    split
    · rename_i h
      have ha : a = #[] := Array.eq_empty_of_size_eq_zero h.1
      have hb : b = #[] := Array.eq_empty_of_size_eq_zero h.2
      subst ha; subst hb
      simp [RelV, RelL]
    · simp [RelV]
  · simp [RelV]
theorem relL_map {g : Gh} {w : World} {α : Type} (f : α → V) (h : α → Value) : ∀ (l : List α), (∀ x ∈ l, RelV g w (f x) (h x)) → RelL g w (l.map f) (l.map h)
  | [], _ => by simp [RelL]
  | x :: l, hx => by
    simp only [List.map_cons, RelL]
    exact ⟨_, _, rfl, hx x (by simp), relL_map f h l fun y hy => hx y (by simp [hy])⟩
theorem ofC2_rel (g : Gh) (w : World) (v : Value) : RelV g w (ofC2 v) v := by
  unfold ofC2
  split
  · rename_i ds
    simp only [RelV]
    exact ⟨ds, rfl, by simpa using relL_map (g := g) (w := w) ofC1 id ds.toList fun x _ => ofC1_rel g w x⟩
  · exact ofC1_rel g w _
theorem ofC_rel (g : Gh) (w : World) (v : Value) : RelV g w (ofC v) v := by
  unfold ofC
  split
  · rename_i cs
    simp only [RelV]
    exact ⟨cs, rfl, by simpa using relL_map (g := g) (w := w) ofC1 id cs.toList fun x _ => ofC1_rel g w x⟩
  · rename_i cs
    simp only [RelV]
    exact ⟨cs, rfl, by simpa using relL_map (g := g) (w := w) ofC2 id cs.toList fun x _ => ofC2_rel g w x⟩
  · exact ofC1_rel g w _
theorem ev_rel {N : Nat} {g : Gh} {w : World} {fr : Fr} {a : Act} (h : RelF N g w fr a.tmps) (x : Operand) : RelV g w (ev fr x) (a.eval x) := by
  cases x with
  | tmp t => exact h.2 t
  | const v => exact ofC_rel g w v
  | global k => simp [ev, Act.eval, RelV]
  | func f => simp [ev, Act.eval, RelV, RelL]
theorem pureVal_run {P : Program} {α : Type} : ∀ {s : Sem α} {a : α} (w : World), pureVal P s = some a → s.run P w = .ok a w
  | .pure a, b, w, h => by simp [pureVal] at h; subst h; rfl
  | .program k, b, w, h => by simp only [pureVal] at h; exact pureVal_run (s := k P) w h
  | .mark _ k, b, w, h => by simp only [pureVal] at h; exact pureVal_run (s := k) w h
  | .load .., _, _, h => by simp [pureVal] at h
  | .store .., _, _, h => by simp [pureVal] at h
  | .new .., _, _, h => by simp [pureVal] at h
  | .shape .., _, _, h => by simp [pureVal] at h
  | .freeze .., _, _, h => by simp [pureVal] at h
  | .frozen .., _, _, h => by simp [pureVal] at h
  | .getObj .., _, _, h => by simp [pureVal] at h
  | .setObj .., _, _, h => by simp [pureVal] at h
  | .choose .., _, _, h => by simp [pureVal] at h
  | .sys .., _, _, h => by simp [pureVal] at h
  | .halt .., _, _, h => by simp [pureVal] at h
def Yields (P : Program) (s : Sem Next) (g : Gh) (w : World) (v : V) : Prop :=
  ∃ x g' w', s.run P w = .ok (.value x) w' ∧ Ext [] g w g' w' ∧ RelV g' w' v x
theorem Yields.same {P : Program} {s : Sem Next} {g : Gh} {w : World} {v : V} {x : Value} (hw : Wf g w) (h : s.run P w = .ok (.value x) w) (hv : RelV g w v x) : Yields P s g w v :=
  ⟨x, g, w, h, Ext.refl _ hw, hv⟩
def Gh.with (g : Gh) (b n : Nat) : Gh := { g with cm := fun c => if c = b then n else g.cm c }
theorem cell_alloc_old {w : World} {o : Obj} {b i : Nat} (h : b < w.heap.size) : cell (w.alloc o) b i = cell w b i := by
  unfold cell
  exact World.cell?_of_block (w := w) (Go.RowKit.Below.heap_alloc w o b h)
theorem cell_alloc_new {w : World} {c : Array Value} {e : TypeId} {i : Nat} : cell (w.alloc (.cells c e)) w.heap.size i = c[i]? := by
  unfold cell World.cell?
  have h := heap_alloc_new w (.cells c e)
  simp only [h]
  simp
theorem ext_alloc {g : Gh} {w : World} (hw : Wf g w) (c : Array Value) (e : TypeId) (n : Nat) (hn : n ≤ c.size) : Ext [] g w (g.with w.heap.size n) (w.alloc (.cells c e)) where
  cmle b := by
    simp only [Gh.with]; split
    · rename_i h; subst h; rw [hw.cm _ (Nat.le_refl _)]; omega
    · exact Nat.le_refl _
  com b o ho := cell_alloc_old (by
    rcases Nat.lt_or_ge b w.heap.size with h | h
    · exact h
    · rw [hw.cm b h] at ho; omega)
  nt := Nat.le_refl _
  th _ _ := rfl
  dm b o h0 := congrArg Option.isSome (cell_alloc_old (hw.lt h0))
  os := rfl
  tape := rfl
  output := rfl
  drawn := fun _ => Nat.le_refl _
  size := by simp
  frame b hb _ := Go.RowKit.Below.heap_alloc w _ b hb
  cmeq b hb _ := by simp only [Gh.with]; rw [if_neg (by omega)]
  wf := ⟨fun b hb => by
      simp at hb
      simp only [Gh.with]; rw [if_neg (by omega)]; exact hw.cm b (by omega),
    fun b o ho => by
      simp only [Gh.with] at ho
      split at ho
      · rename_i h; subst h; rw [cell_alloc_new]; simp; omega
      · have := hw.ex b o ho
        rwa [cell_alloc_old]
        rcases Nat.lt_or_ge b w.heap.size with h | h
        · exact h
        · rw [hw.cm b h] at ho; omega,
    StOk.keep hw fun c hc => ⟨by simp only [Gh.with]; rw [if_neg (fun h => by have := hw.lt hc; omega)], fun o => cell_alloc_old (hw.lt hc)⟩⟩
theorem relL_cells {g : Gh} {w : World} {v : V} {x : Value} {cs : List V} (hv : RelV g w v x) (hc : cellsO v = some cs) : RelL g w cs x.cells.toList := by
  have one : ∀ {v : V} {x : Value}, RelV g w v x → (∀ l, x ≠ .agg l) → RelL g w [v] x.cells.toList := by
    intro v x h hn
    have : x.cells = #[x] := by
      unfold Value.cells
      split
      · rename_i l; exact absurd rfl (hn l)
      · rfl
    rw [this]
    simp only [RelL]
    exact ⟨x, [], rfl, h, rfl⟩
  cases v with
  | agg ds =>
    simp only [RelV] at hv
    obtain ⟨l, rfl, h⟩ := hv
    simp [cellsO] at hc; subst hc
    simpa [Value.cells] using h
  | undef => simp [cellsO] at hc
  | c u =>
    simp only [RelV] at hv
    subst hv
    unfold cellsO at hc
    simp only at hc
    split at hc
    · rename_i l
      simp at hc; subst hc
      simpa [Value.cells] using relL_map (g := g) (w := w) V.c id l.toList fun x _ => by simp [RelV]
    · rename_i v hv
      simp at hc; subst hc
      exact one (by simp [RelV]) (fun l e => hv l e)
  | sl sh xs tok => simp [cellsO] at hc; subst hc; exact one hv (by simp only [RelV] at hv; obtain ⟨a, n, cap, rfl, _⟩ := hv; simp)
  | lsl sh b o n cap => simp [cellsO] at hc; subst hc; exact one hv (by simp only [RelV] at hv; obtain ⟨a, rfl, _⟩ := hv; simp)
  | pt sh v off => simp [cellsO] at hc; subst hc; exact one hv (by rw [relV_pt] at hv; obtain ⟨a, n, rfl, _⟩ := hv; simp)
  | loc b off => simp [cellsO] at hc; subst hc; exact one hv (by simp only [RelV] at hv; subst hv; simp)
  | fn f a b => simp [cellsO] at hc; subst hc; exact one hv (by simp only [RelV] at hv; obtain ⟨l, m, rfl, _⟩ := hv; simp)
  | ifc t v => simp [cellsO] at hc; subst hc; exact one hv (by simp only [RelV] at hv; obtain ⟨y, rfl, _⟩ := hv; simp)
  | tup ds => simp [cellsO] at hc; subst hc; exact one hv (by simp only [RelV] at hv; obtain ⟨y, rfl, _⟩ := hv; simp)
theorem cellsO_c (v : Value) : ∃ cs, cellsO (.c v) = some cs := by cases v <;> simp [cellsO]
theorem ofC1_cells (z : Value) : ∃ cs, cellsO (ofC1 z) = some cs := by
  unfold ofC1
  split
  · simp [cellsO]
  · split
    · simp [cellsO]
    · exact cellsO_c _
  · exact cellsO_c _
theorem zero_rel {g : Gh} {w : World} (z : Value) : RelL g w ((cellsO (ofC z)).getD []) z.cells.toList := by
  have : ∃ cs, cellsO (ofC z) = some cs := by
    unfold ofC
    split
    · simp [cellsO]
    · simp [cellsO]
    · exact ofC1_cells z
  obtain ⟨cs, hcs⟩ := this
  rw [hcs]
  exact relL_cells (ofC_rel g w z) hcs
theorem shape_info {P : Program} {t : TypeId} {sh : Option Nat} (h : shapeOf P t = some sh) : ∃ i, P.info? t = some i ∧ i.size = width sh := by
  unfold shapeOf at h
  split at h
  · rename_i fs i hu hi; simp at h; subst h; exact ⟨i, hi, rfl⟩
  · rename_i i hu hi; simp at h; subst h; exact ⟨i, hi, rfl⟩
  · rename_i d i hi _ _ _
    split at h
    · rename_i h1; simp at h; subst h; exact ⟨i, by assumption, h1⟩
    · cases h
  · cases h
theorem run_sizeOf' {P : Program} {t : TypeId} {i : TypeInfo} (h : P.info? t = some i) (w : World) : (sizeOf t).run P w = .ok i.size w := by
  simp [sizeOf, typeInfo, h]
theorem run_isAgg_none {P : Program} {t : TypeId} (h : shapeOf P t = some none) (w : World) : (isAgg t).run P w = .ok false w := by
  unfold shapeOf at h
  split at h
  · cases h
  · cases h
  · rename_i d i hu hi h1 h2
    simp only [isAgg, Sem.run_bind, run_underlying h1, Result.andThen_ok]
    cases d <;> first | rfl | (exfalso; simp_all)
  · cases h
theorem run_isAgg_some {P : Program} {t : TypeId} {k : Nat} (h : shapeOf P t = some (some k)) (w : World) : (isAgg t).run P w = .ok true w := by
  unfold shapeOf at h
  split at h
  · rename_i fs i hu hi
    simp only [isAgg, Sem.run_bind, run_underlying hu, Result.andThen_ok]; rfl
  · rename_i i hu hi
    simp only [isAgg, Sem.run_bind, run_underlying hu, Result.andThen_ok]; rfl
  · split at h <;> cases h
  · cases h
theorem run_loadVar {P : Program} {t : TypeId} {sh : Option Nat} (h : shapeOf P t = some sh) {g : Gh} {w : World} {b o : Nat} {v : V} (hv : RelE g w sh v (fun i => cell w b (o + i))) :
    ∃ x, (loadVar t ⟨b, o, none⟩).run P w = .ok x w ∧ RelV g w v x := by
  cases sh with
  | none =>
    obtain ⟨y, hy, hr⟩ := hv
    refine ⟨y, ?_, hr⟩
    have hy' : w.cell? ⟨b, o, none⟩ = some y := hy
    simp [loadVar, run_isAgg_none h, hy']
  | some k =>
    obtain ⟨l, hl, hc, hr⟩ := hv
    obtain ⟨i, hi, hs⟩ := shape_info h
    refine ⟨.agg l, ?_, hr⟩
    have := run_loadCells_list (P := P) w ⟨b, o, none⟩ l.toList (fun j u hj => by
      rw [Addr.add_lit]
      have hj' : j < k := by
        have := (List.getElem?_eq_some_iff.1 hj).1
        simp at this; omega
      have := hc j hj'
      simp only [cell] at this
      rw [this]; simpa using hj)
    simp only [Array.length_toList, hl] at this
    simp [loadVar, run_isAgg_some h, run_sizeOf' hi, hs, width, this]
theorem relE_part {g : Gh} {w : World} {cs : List V} {l : Array Value} {sh : Option Nat} {off : Nat} {u : V} (h : RelL g w cs l.toList) (hp : partOf sh cs off = some u) : RelE g w sh u (fun i => l[off + i]?) := by
  cases sh with
  | none =>
    simp only [partOf] at hp
    obtain ⟨x, hx, hr⟩ := relL_get h hp
    exact ⟨x, by simpa using hx, hr⟩
  | some k =>
    simp only [partOf] at hp
    split at hp
    · rename_i hle
      simp at hp; subst hp
      have hl := relL_length h
      refine ⟨l.extract off (off + k), by simp at hl ⊢; omega, fun i hi => ?_, ?_⟩
      · simp at hl
        simp [Array.getElem?_extract]
        omega
      · simp only [RelV]
        refine ⟨_, rfl, ?_⟩
        have := relL_take (relL_drop h off) k
        simpa [Array.toList_extract, List.extract_eq_take_drop] using this
    · cases hp
theorem relE_congr {g : Gh} {w : World} {sh : Option Nat} {v : V} {rd rd' : Nat → Option Value} (h : RelE g w sh v rd) (he : ∀ i, i < width sh → rd' i = rd i) : RelE g w sh v rd' := by
  cases sh with
  | none => obtain ⟨y, hy, hr⟩ := h; exact ⟨y, (he 0 (by simp [width])).trans hy, hr⟩
  | some k => obtain ⟨l, hl, hc, hr⟩ := h; exact ⟨l, hl, fun i hi => (he i hi).trans (hc i hi), hr⟩
end Go.Sv
namespace Go.Sv
open Go
def OpR.gives : OpR → V → Prop
  | .val u, v => u = v
  | .need p u, v => p ∧ u = v
  | .elem sh xs n, v => (0 ≤ n ∧ n < xs.length) ∧ .pt sh (xs.getD n.toNat .undef) 0 = v
  | _, _ => False
section
variable {P : Program} {g : Gh} {w : World}
theorem run_v {s : Sem Value} {x : Value} {w' : World} (h : s.run P w = .ok x w') : (do pure (.value (← s)) : Sem Next).run P w = .ok (.value x) w' := by
  simp [h]
theorem fits_cells {sh : Option Nat} {v : V} {x : Value} (hf : fitsB sh v = true) (hv : RelV g w v x) : x.cells.size = width sh ∧ RelE g w sh v (fun i => x.cells[i]?) := by
  have one : (∀ l, x ≠ .agg l) → sh = none → x.cells.size = width sh ∧ RelE g w sh v (fun i => x.cells[i]?) := by
    intro hn e; subst e
    have : x.cells = #[x] := by
      unfold Value.cells
      split
      · rename_i l; exact absurd rfl (hn l)
      · rfl
    rw [this]
    exact ⟨rfl, x, rfl, hv⟩
  have many : ∀ k l, sh = some k → x = .agg l → l.size = k → x.cells.size = width sh ∧ RelE g w sh v (fun i => x.cells[i]?) := by
    intro k l e hx hl; subst e; subst hx
    exact ⟨hl, l, hl, fun _ _ => rfl, hv⟩
  cases sh with
  | none =>
    cases v with
    | agg cs => simp [fitsB] at hf
    | undef => simp [fitsB] at hf
    | c u =>
      have hx := hv
      simp only [RelV] at hx; subst hx
      refine one (fun l e => ?_) rfl
      subst e; simp [fitsB] at hf
    | sl sh xs tok => exact one (by simp only [RelV] at hv; obtain ⟨a, n, cap, rfl, _⟩ := hv; simp) rfl
    | lsl sh b o n cap => exact one (by simp only [RelV] at hv; obtain ⟨a, rfl, _⟩ := hv; simp) rfl
    | pt sh v off => exact one (by rw [relV_pt] at hv; obtain ⟨a, n, rfl, _⟩ := hv; simp) rfl
    | loc b off => exact one (by simp only [RelV] at hv; subst hv; simp) rfl
    | fn f a b => exact one (by simp only [RelV] at hv; obtain ⟨l, m, rfl, _⟩ := hv; simp) rfl
    | ifc t v => exact one (by simp only [RelV] at hv; obtain ⟨y, rfl, _⟩ := hv; simp) rfl
    | tup cs => exact one (by simp only [RelV] at hv; obtain ⟨y, rfl, _⟩ := hv; simp) rfl
  | some k =>
    cases v with
    | agg cs =>
      simp only [fitsB] at hf
      have hx := hv
      simp only [RelV] at hx
      obtain ⟨l, rfl, h⟩ := hx
      have := relL_length h
      exact many k l rfl rfl (by have := Nat.eq_of_beq_eq_true hf; simp at *; omega)
    | c u =>
      have hx := hv
      simp only [RelV] at hx; subst hx
      cases x <;> simp [fitsB] at hf
      rename_i l
      exact many k l rfl rfl hf
    | _ => simp [fitsB] at hf
theorem y_load {t : TypeId} {sh sh' : Option Nat} {v u : V} {off : Nat} {x : Value} (hsh : shapeOf P t = some sh) (hx : RelV g w (.pt sh' v off) x)
    (h : (sh = sh' ∧ off = 0 ∧ u = v) ∨ (∃ k cs, sh' = some k ∧ v = .agg cs ∧ partOf sh cs off = some u)) : ∃ y, (Instr.loadAt t x).run P w = .ok y w ∧ RelV g w u y := by
  obtain ⟨b, o, rfl, hle, he⟩ := relV_pt.1 hx
  rcases h with ⟨rfl, rfl, rfl⟩ | ⟨k, cs, rfl, rfl, hp⟩
  · obtain ⟨y, hy, hr⟩ := run_loadVar hsh (o := o) he
    exact ⟨y, by simpa [Instr.loadAt, Instr.sureAddr] using hy, hr⟩
  · have he' : RelE g w sh u (fun i => cell w b (o + off + i)) := by
      obtain ⟨l, hl, hc, hr⟩ := he
      simp only [RelV] at hr
      obtain ⟨l', hll, hr⟩ := hr
      cases hll
      refine relE_congr (relE_part hr hp) fun i hi => ?_
      have hlen := relL_length hr
      have : off + i < k := by
        cases sh with
        | none =>
          simp only [partOf] at hp
          have := (List.getElem?_eq_some_iff.1 hp).1
          simp [width] at hi; subst hi
          simp at hlen; omega
        | some m =>
          simp only [partOf] at hp
          split at hp
          · simp [width] at hi; simp at hlen; omega
          · cases hp
      rw [← hc (off + i) this, Nat.add_assoc]
    obtain ⟨y, hy, hr⟩ := run_loadVar hsh he'
    exact ⟨y, by simpa [Instr.loadAt, Instr.sureAddr] using hy, hr⟩
theorem run_part {t : TypeId} {sh : Option Nat} (hsh : shapeOf P t = some sh) {cs : List V} {l : Array Value} {off : Nat} {u : V} (hl : RelL g w cs l.toList) (hp : partOf sh cs off = some u) :
    ∃ y, (part t l off).run P w = .ok y w ∧ RelV g w u y := by
  cases sh with
  | none =>
    simp only [partOf] at hp
    obtain ⟨x, hx, hr⟩ := relL_get hl hp
    refine ⟨x, ?_, hr⟩
    have hx' : l[off]? = some x := by simpa using hx
    simp [part, run_isAgg_none hsh, hx']
  | some k =>
    obtain ⟨i, hi, hs⟩ := shape_info hsh
    have he := relE_part hl hp
    obtain ⟨l', hl', hc, hr⟩ := he
    refine ⟨.agg l', ?_, hr⟩
    have hext : l.extract off (off + k) = l' := by
      simp only [partOf] at hp
      split at hp
      · rename_i hle
        have hlen := relL_length hl
        apply Array.ext
        · simp at hlen ⊢; omega
        · intro i h1 h2
          have := hc i (by omega)
          simp at h1
          dsimp only at this
          rw [Array.getElem?_eq_getElem (by omega), Array.getElem?_eq_getElem h2] at this
          simpa using this
      · cases hp
    simp [part, run_isAgg_some hsh, run_sizeOf' hi, hs, width, hext]
theorem y_box (hw : Wf g w) {t : TypeId} {sh : Option Nat} {v : V} {x : Value} (hf : fitsB sh v = true) (hv : RelV g w v x) : ∃ g' y, (Instr.box t x).run P w = .ok y (w.alloc (.cells x.cells t)) ∧ Ext [] g w g' (w.alloc (.cells x.cells t)) ∧ RelV g' (w.alloc (.cells x.cells t)) (ptr sh v) y := by
  obtain ⟨hs, he⟩ := fits_cells hf hv
  have hext := ext_alloc hw x.cells t (width sh) (by omega)
  refine ⟨_, .pointer (some ⟨w.heap.size, 0, none⟩), ?_, hext, ?_⟩
  · simp [Instr.box, newVar, newRow]
  · unfold ptr
    rw [relV_pt]
    refine ⟨w.heap.size, 0, rfl, by simp [Gh.with], ?_⟩
    refine RelE.mono hext.toPre (fun i hi => ?_) he
    rw [Nat.zero_add, cell_alloc_new]
theorem foldl_fill (vs : List Value) (off : Nat) : ∀ (k : Nat) (cells : Array Value), off + k + vs.length ≤ cells.size →
    ((vs.zipIdx k).foldl (fun cs (c, j) => cs.setIfInBounds (off + j) c) cells).toList = cells.toList.take (off + k) ++ vs ++ cells.toList.drop (off + k + vs.length) := by
  induction vs with
  | nil => intro k cells _; simp
  | cons v vs ih =>
    intro k cells h
    simp only [List.length_cons] at h
    simp only [List.zipIdx_cons, List.foldl_cons]
    rw [ih (k + 1) _ (by simp; omega)]
    apply List.ext_getElem?
    intro i
    simp only [Array.toList_setIfInBounds, List.length_cons]
    simp only [List.getElem?_append, List.length_append, List.length_take, List.length_set, Array.length_toList, List.length_cons, List.getElem?_take, List.getElem?_drop, List.getElem?_set, List.getElem?_cons]
    repeat' split
    all_goals first | rfl | omega | (congr 1; omega) | skip
theorem fill_one {place : Nat → Option (Nat × Nat)} {cells : Array Value} {i off n : Nat} {v : Value} {rest : List (Nat × Value)} (hp : place i = some (off, n)) (hv : v.cells.size = n) (hle : off + n ≤ cells.size) :
    ∃ cells', Instr.fill place cells ((i, v) :: rest) = Instr.fill place cells' rest ∧ cells'.toList = cells.toList.take off ++ v.cells.toList ++ cells.toList.drop (off + n) := by
  subst hv
  refine ⟨v.cells.zipIdx.foldl (fun cs (c, j) => cs.setIfInBounds (off + j) c) cells, ?_, ?_⟩
  · simp only [Instr.fill, hp]
    rw [if_neg (by simp; omega)]
  · have := foldl_fill v.cells.toList off 0 cells (by simp; omega)
    rw [← Array.foldl_toList]
    simp only [Array.toList_zipIdx, Array.length_toList, Nat.add_zero] at this ⊢
    exact this
theorem fillV_rel {place : Nat → Option (Nat × Nat)} : ∀ (partsV : List (Nat × V)) (parts : List (Nat × Value)) (cellsV cs : List V) (cells : Array Value),
    RelL g w cellsV cells.toList → parts.map (·.1) = partsV.map (·.1) → RelL g w (partsV.map (·.2)) (parts.map (·.2)) → fillV place cellsV partsV = some cs → ∃ cells', Instr.fill place cells parts = some cells' ∧ RelL g w cs cells'.toList
  | [], parts, cellsV, cs, cells, hc, hk, _, h => by
    simp [fillV] at h; subst h
    obtain rfl : parts = [] := by simpa using hk
    exact ⟨cells, rfl, hc⟩
  | (i, v) :: pv, [], _, _, _, _, hk, _, _ => by simp at hk
  | (i, v) :: pv, (j, x) :: ps, cellsV, cs, cells, hc, hk, hr, h => by
    simp only [List.map_cons, List.cons.injEq] at hk
    obtain ⟨rfl, hk⟩ := hk
    simp only [List.map_cons, RelL] at hr
    obtain ⟨x', xs', he, hv, hr⟩ := hr
    simp only [List.cons.injEq] at he
    obtain ⟨rfl, rfl⟩ := he
    simp only [fillV] at h
    cases hp : place j with
    | none => simp [hp] at h
    | some q =>
      obtain ⟨off, n⟩ := q
      simp only [hp] at h
      cases hcs : cellsO v with
      | none => simp [hcs] at h
      | some ds =>
        simp only [hcs] at h
        split at h
        · rename_i hl
          obtain ⟨h1, h2⟩ := hl
          have hd := relL_cells hv hcs
          have hlen := relL_length hd
          have hclen := relL_length hc
          obtain ⟨cells', hf, ht⟩ := fill_one (place := place) (cells := cells) (v := x) (rest := ps) hp (by simpa [h1] using hlen) (by simp at hclen; omega)
          rw [hf]
          refine fillV_rel pv ps _ cs cells' ?_ hk hr h
          rw [ht]
          exact relL_append (relL_append (relL_take hc off) hd) (relL_drop hc (off + n))
        · cases h
theorem fill_row (size : Nat) : ∀ (parts : List (Nat × Value)) (k : Nat) (cells : Array Value), parts.map (·.1) = List.range' k parts.length → (∀ p ∈ parts, p.2.cells.size = size) → cells.size = (k + parts.length) * size →
    ∃ cells', Instr.fill (fun i => some (i * size, size)) cells parts = some cells' ∧ cells'.toList = cells.toList.take (k * size) ++ parts.flatMap (fun p => p.2.cells.toList)
  | [], k, cells, _, _, hs => ⟨cells, rfl, by simp at hs; rw [← hs]; simp [← Array.length_toList]⟩
  | (i, v) :: ps, k, cells, hk, hp, hs => by
    simp only [List.map_cons, List.length_cons, List.range'_succ, List.cons.injEq] at hk
    obtain ⟨rfl, hk⟩ := hk
    have e1 : (i + (ps.length + 1)) * size = i * size + size + ps.length * size := by simp [Nat.add_mul]; omega
    simp only [List.length_cons] at hs
    have hv : v.cells.size = size := hp (i, v) (by simp)
    obtain ⟨cells1, hf, ht⟩ := fill_one (place := fun i => some (i * size, size)) (cells := cells) (i := i) (off := i * size) (rest := ps) rfl hv (by omega)
    have hl1 : cells1.size = cells.size := by
      have := congrArg List.length ht
      simp at this; omega
    obtain ⟨cells', hf', ht'⟩ := fill_row size ps (i + 1) cells1 hk (fun p hp' => hp p (by simp [hp'])) (by rw [hl1, hs]; congr 1; omega)
    refine ⟨cells', by rw [hf, hf'], ?_⟩
    rw [ht', ht]
    have e2 : (i + 1) * size = i * size + size := by simp [Nat.add_mul]
    have hv' : v.cells.toList.length = size := by simpa using hv
    simp only [List.flatMap_cons, ← List.append_assoc]
    congr 1
    rw [e2, List.append_assoc, List.take_append, List.take_append, List.length_take, Array.length_toList, hv']
    have : min (i * size) cells.size = i * size := by omega
    rw [this, List.take_take, show min (i * size + size) (i * size) = i * size from by omega, show i * size + size - i * size = size from by omega, show size - size = 0 from by omega, List.take_of_length_le (l := v.cells.toList) (i := size) (by omega)]
    simp
theorem relXs_row {sh : Option Nat} : ∀ {vs : List V} {xs : List Value}, vs.all (fitsB sh) = true → RelL g w vs xs → RelXs g w sh vs (fun i => (xs.flatMap fun x => x.cells.toList)[i]?)
  | [], _, _, _ => by simp [RelXs]
  | v :: vs, l, hf, h => by
    simp only [List.all_cons, Bool.and_eq_true] at hf
    simp only [RelL] at h
    obtain ⟨x, xs, rfl, h1, h2⟩ := h
    obtain ⟨hs, he⟩ := fits_cells hf.1 h1
    rw [relXs_cons]
    refine ⟨relE_congr he fun i hi => ?_, ?_⟩
    · simp only [List.flatMap_cons]
      rw [List.getElem?_append_left (by simp; omega)]
      simp
    · have := relXs_row hf.2 h2
      have e : (fun i => (List.flatMap (fun x => x.cells.toList) (x :: xs))[i + width sh]?) = (fun i => (xs.flatMap fun x => x.cells.toList)[i]?) := by
        funext i
        simp only [List.flatMap_cons]
        rw [List.getElem?_append_right (by simp; omega)]
        congr 1
        simp; omega
      rw [e]; exact this
theorem flatMap_length {sh : Option Nat} : ∀ {vs : List V} {xs : List Value}, vs.all (fitsB sh) = true → RelL g w vs xs → (xs.flatMap fun x => x.cells.toList).length = vs.length * width sh
  | [], _, _, h => by simp [RelL] at h; subst h; simp
  | v :: vs, l, hf, h => by
    simp only [List.all_cons, Bool.and_eq_true] at hf
    simp only [RelL] at h
    obtain ⟨x, xs, rfl, h1, h2⟩ := h
    have := flatMap_length hf.2 h2
    have hs := (fits_cells hf.1 h1).1
    simp only [List.flatMap_cons, List.length_append, this, List.length_cons, Nat.add_mul, Array.length_toList]
    omega
theorem run_buildSlice {t e : TypeId} {sh : Option Nat} {n : Nat} {parts : Array (Nat × Value)} {vs : List V} (ht : P.underlying t = some (.slice e)) (hsh : shapeOf P e = some sh)
    (hz : (P.info? e).any (fun i => i.zero.isSome) = true) (hk : parts.toList.map (·.1) = List.range n) (hf : vs.all (fitsB sh) = true) (hr : RelL g w vs (parts.toList.map (·.2))) (hn : n * width sh ≤ 65536) :
    ∃ cells : Array Value, (Instr.buildSlice t n parts).run P w = .ok (.slice (some ⟨w.heap.size, 0, none⟩) n n) (w.alloc (.cells cells e)) ∧ cells.size = n * width sh ∧ vs.length = n ∧ RelXs g w sh vs (fun (i : Nat) => cells[i]?) := by
  obtain ⟨i, hi, hs⟩ := shape_info hsh
  simp only [hi, Option.any_some] at hz
  obtain ⟨z, hz⟩ := Option.isSome_iff_exists.1 hz
  have hlen : parts.toList.length = n := by simpa using congrArg List.length hk
  have hvl : vs.length = n := by have := relL_length hr; simp at this hlen; omega
  have hps : ∀ p ∈ parts.toList, p.2.cells.size = width sh := by
    intro p hp
    obtain ⟨j, hj⟩ := List.getElem?_of_mem hp
    have hlt := (List.getElem?_eq_some_iff.1 hj).1
    have hv : vs[j]? = some vs[j] := List.getElem?_eq_getElem (by omega)
    obtain ⟨x, hx, hrel⟩ := relL_get hr hv
    simp [hj] at hx
    subst hx
    exact (fits_cells (by have := List.all_eq_true.1 hf vs[j] (List.getElem_mem _); exact this) hrel).1
  have key : ∀ zc : Array Value, ∃ cells : Array Value, Instr.fill (fun i => some (i * width sh, width sh)) ((Array.range (n * width sh)).map (zc[· % zc.size]!)) parts.toList = some cells ∧ cells.toList = parts.toList.flatMap (fun p => p.2.cells.toList) := by
    intro zc
    obtain ⟨cells, h1, h2⟩ := fill_row (width sh) parts.toList 0 ((Array.range (n * width sh)).map (zc[· % zc.size]!)) (by rw [hk, hlen]; simp [List.range_eq_range']) hps (by simp [hlen])
    exact ⟨cells, h1, by simpa using h2⟩
  obtain ⟨cells, h1, h2⟩ := key (if n * width sh = 0 then #[] else z.cells)
  have hflat : parts.toList.flatMap (fun p => p.2.cells.toList) = (parts.toList.map (·.2)).flatMap (fun x => x.cells.toList) := by simp [List.flatMap_map]
  have hcs : cells.size = n * width sh := by
    rw [← Array.length_toList, h2, hflat, flatMap_length hf hr, hvl]
  refine ⟨cells, ?_, hcs, hvl, ?_⟩
  · have hle : ¬ (16777216 < n * width sh) := by omega
    by_cases h0 : n * width sh = 0
    · rw [if_pos h0] at h1
      simp [Instr.buildSlice, run_underlying ht, run_sizeOf' hi, hs, h0, newRow]
      simp [h0] at h1
      simp [h1]
    · rw [if_neg h0] at h1
      simp [Instr.buildSlice, run_underlying ht, run_sizeOf' hi, hs, hle, h0, zeroValue, typeInfo, hi, hz, newRow, h1]
  · have := relXs_row hf hr
    have e : (fun (i : Nat) => ((parts.toList.map (·.2)).flatMap fun x => x.cells.toList)[i]?) = (fun (i : Nat) => cells[i]?) := by
      funext i
      rw [← hflat, ← h2]; simp
    rw [e] at this
    exact this
theorem relV_row (hw : Wf g w) {e : TypeId} {sh : Option Nat} {n : Nat} {vs : List V} {cells : Array Value} (hs : cells.size = n * width sh) (hn : vs.length = n) (hr : RelXs g w sh vs (fun (i : Nat) => cells[i]?)) :
    ∃ g', Ext [] g w g' (w.alloc (.cells cells e)) ∧ RelV g' (w.alloc (.cells cells e)) (.sl sh vs .no) (.slice (some ⟨w.heap.size, 0, none⟩) n n) := by
  have hext := ext_alloc hw cells e (n * width sh) (by omega)
  refine ⟨_, hext, ?_⟩
  simp only [RelV]
  refine ⟨_, _, _, rfl, hn.symm, Nat.le_refl _, trivial, .inr ⟨w.heap.size, 0, rfl, by simp [Gh.with], ?_⟩⟩
  refine RelXs.mono hext.toPre sh vs _ _ (fun i hi => ?_) hr
  rw [Nat.zero_add, cell_alloc_new]
end
end Go.Sv
