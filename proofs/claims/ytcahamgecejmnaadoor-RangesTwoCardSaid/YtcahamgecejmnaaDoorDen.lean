/-
  A small functional reading of the program's code, over values that need no memory: what a call answers, by rounds.
  Its conditions: none; the text XDenSound proves that the machine's calls do what is read here.
-/
import Derived.Calls
import Derived.LoopN
import Derived.Below
import Derived.Orders
namespace Go.Den
open Go

abbrev Key := List Nat

/-- Values. 'sl': a slice that is only read; 'zs': one without room (true: nil); 'own': one of the call's own;
'rp': a place that is only read: an element, and the cell in it; 'ptr': a place in a block of the call's own. -/
inductive AV where
  | bool (b : Bool)
  | int (k : IntKind) (n : Int)
  | str (s : List UInt8)
  | agg (cs : List AV)
  | tup (vs : List AV)
  | sl (l : List AV)
  | zs (nl : Bool)
  | own (k : Key) (ver off len : Nat)
  | rp (e : AV) (j : Nat)
  | ptr (k : Key) (ver i j : Nat)
  | nilp
  | fn (f : Nat) (caps : List AV)
  | nilfn
  | map (k : Key) (ver : Nat)
  | nilmap
  | iface (t : Nat) (v : AV)
  | nilif
  | junk
  deriving Inhabited

namespace AV
def undef : AV := .tup []
def cells : AV → List AV
  | .agg cs => cs
  | v => [v]
/-- Can it lie in memory? -/
def solid : AV → Bool
  | .tup _ | .junk => false
  | _ => true
mutual
/-- Nothing in it leads to a block of the call's own. -/
def pure : AV → Bool
  | .bool _ | .int _ _ | .str _ | .sl _ | .zs _ | .nilp | .nilfn | .nilmap | .nilif | .junk => true
  | .rp _ _ => true
  | .agg cs => pureL cs
  | .tup vs => pureL vs
  | .fn _ cs => pureL cs
  | .iface _ v => v.pure
  | .own .. | .ptr .. | .map .. => false
def pureL : List AV → Bool
  | [] => true
  | v :: r => v.pure && pureL r
end
mutual
/-- Numbers, truths, texts, and what is made of them. -/
def flat : AV → Bool
  | .bool _ | .int _ _ | .str _ | .nilp | .nilfn | .nilmap | .nilif | .junk => true
  | .agg cs => flatL cs
  | .tup vs => flatL vs
  | .iface _ v => v.flat
  | _ => false
def flatL : List AV → Bool
  | [] => true
  | v :: r => v.flat && flatL r
end
mutual
/-- What crosses a call's bounds: of a slice without elements no more is told. -/
def norm : AV → AV
  | .zs _ => .sl []
  | .agg cs => .agg (normL cs)
  | .tup vs => .tup (normL vs)
  | .fn f cs => .fn f (normL cs)
  | .iface t v => .iface t v.norm
  | v => v
def normL : List AV → List AV
  | [] => []
  | v :: r => v.norm :: normL r
end
/-- Elements of so many cells. -/
def sized (sz : Nat) (l : List AV) : Bool := l.all fun e => e.cells.length == sz
end AV

structure Blk where
  frz : Bool        -- it is only read from now on
  still : Bool      -- its cells lead to no block of the call's own
  sz : Nat
  es : List AV

abbrev Heap := Key → Nat × Option Blk

def Heap.none : Heap := fun _ => (0, Option.none)
def Heap.set (H : Heap) (k : Key) (v : Nat × Option Blk) : Heap := fun k' => if k' = k then v else H k'
def Heap.live (H : Heap) (k : Key) (ver : Nat) : Option Blk := if (H k).1 = ver then (H k).2 else Option.none

inductive Opd where
  | t (n : Nat)
  | c (v : AV)
  | g (n : Nat)

/-- The kinds of a comparison's cells. -/
inductive SK where
  | bool
  | int
  | str

/-- The kinds of a map's keys. -/
inductive MK where
  | bool
  | int (k : IntKind)
  | str

/-- What is held against what. -/
inductive EqK where
  | bool
  | cells (l : List SK)
  | ptr
  | slice
  | map
  | func
  | iface

/-- What an operation does, its types resolved. -/
inductive I where
  | mov (x : Opd)
  | pick (c a b : Opd)
  | box (sz : Nat) (x : Opd)
  | build (zero : List AV) (parts : List (Nat × Nat × Opd))
  | buildSlice (sz len : Nat) (zero : AV) (parts : List (Nat × Opd))
  | load (sz : Nat) (agg : Bool) (a : Opd)
  | store (sz : Nat) (a x : Opd)
  | nilCheck (x : Opd)
  | bin (op : BinOp) (x y : Opd)
  | eqs (k : EqK) (neg : Bool) (x y : Opd)
  | not (x : Opd)
  | neg (x : Opd)
  | conv (k : IntKind) (x : Opd)
  | mkfn (f : Nat) (caps : List Opd)
  | slstr (x : Opd) (lo hi : Option Opd)
  | slice (sz : Nat) (x : Opd) (lo hi mx : Option Opd)
  | fieldAddr (off : Nat) (x : Opd)
  | field (off sz : Nat) (agg : Bool) (x : Opd)
  | indexAddr (sz : Nat) (x i : Opd)
  | indexStr (x i : Opd)
  | extract (x : Opd) (i : Nat)
  | len (str : Bool) (x : Opd)
  | append (sz bytes : Nat) (x y : Opd)
  | mx (xs : List Opd)
  | mn (xs : List Opd)
  | mkiface (t : Nat) (x : Opd)
  | rng (x : Opd)
  | next (x : Opd)
  | mkmap
  | lookup (q : MK) (zero : AV) (ok : Bool) (m x : Opd)
  | mapSet (q : MK) (m x v : Opd)
  | call (f : Opd) (args : List Opd)
  | no

structure Ins where
  dst : Option Nat
  guard : Option (Option Nat × Bool)
  op : I

/-- An operation; whether it comes at its place in the text; the places of those whose order against it is open. -/
structure EIns where
  o : Ins
  eff : Bool
  free : List Nat

inductive C where
  | skip
  | reg (l : List Ins)
  | dreg (l : List Ins)
  | ereg (l : List EIns)
  | seq (a b : C)
  | cond (c : Opd) (a b : C)
  | block (id : Nat) (c : C)
  | loop (c : C)
  | exit (id : Nat)
  | ret
  | no

inductive Ex where
  | normal
  | exit (id : Nat)
  | ret

inductive Res where
  | t (n : Nat)
  | cell (n sz : Nat) (agg : Bool)

structure FD where
  np : Nat
  results : List Res
  body : C

structure Ctx where
  code : Nat → Option FD
  prim : Nat → Option (List AV → Option AV)
  wprim : Nat → Option (Key → List AV → Heap → Option (AV × Heap))
  glob : Nat → Option AV
  shared : Nat → Bool

abbrev Env := Nat → AV
structure St where
  env : Env
  H : Heap

def Env.set (e : Env) (t : Nat) (v : AV) : Env := fun s => if s = t then v else e s
def Env.put (e : Env) (d : Option Nat) (v : AV) : Env := match d with | some t => e.set t v | none => e

variable (X : Ctx)

def Opd.ev (e : Env) : Opd → AV
  | .t n => e n
  | .c v => v
  | .g n => match X.glob n with | some v => .rp v 0 | none => .junk

def intA (op : BinOp) (k : IntKind) (a b : Int) : Option AV :=
  match op with
  | .add => some (.int k (k.wrap (a + b)))
  | .sub => some (.int k (k.wrap (a - b)))
  | .mul => some (.int k (k.wrap (a * b)))
  | .quo => if b = 0 then none else some (.int k (k.wrap (a.tdiv b)))
  | .rem => if b = 0 then none else some (.int k (a.tmod b))
  | .and => some (.int k (k.wrap (BitVec.ofInt k.bits a &&& BitVec.ofInt k.bits b).toNat))
  | .or => some (.int k (k.wrap (BitVec.ofInt k.bits a ||| BitVec.ofInt k.bits b).toNat))
  | .xor => some (.int k (k.wrap (BitVec.ofInt k.bits a ^^^ BitVec.ofInt k.bits b).toNat))
  | .andNot => some (.int k (k.wrap (BitVec.ofInt k.bits a &&& ~~~ BitVec.ofInt k.bits b).toNat))
  | .eql => some (.bool (decide (a = b)))
  | .neq => some (.bool (!decide (a = b)))
  | .lss => some (.bool (decide (a < b)))
  | .leq => some (.bool (decide (a ≤ b)))
  | .gtr => some (.bool (decide (b < a)))
  | .geq => some (.bool (decide (b ≤ a)))
  | _ => none

def shiftA (op : BinOp) (k : IntKind) (a b : Int) : Option AV :=
  if b < 0 then none else
  match op with
  | .shl => some (.int k (k.wrap (a * 2 ^ (min b.toNat k.bits))))
  | .shr => some (.int k (a.fdiv (2 ^ (min b.toNat k.bits))))
  | _ => none

def strA (op : BinOp) (a b : List UInt8) : Option AV :=
  match op with
  | .add => if a.length + b.length < 2 ^ 63 then some (.str (a ++ b)) else none
  | .eql => some (.bool (a == b))
  | .neq => some (.bool (!(a == b)))
  | .lss => some (.bool (Op.bytesLess a b))
  | .leq => some (.bool (Op.bytesLess a b || a == b))
  | .gtr => some (.bool (!(Op.bytesLess a b || a == b)))
  | .geq => some (.bool (!Op.bytesLess a b))
  | _ => none

def binA (op : BinOp) : AV → AV → Option AV
  | .int k a, .int k' b =>
    match op with
    | .shl => shiftA .shl k a b
    | .shr => shiftA .shr k a b
    | _ => if k = k' then intA op k a b else none
  | .str a, .str b => strA op a b
  | _, _ => none

def scalEq : SK → AV → AV → Option Bool
  | .int, .int k a, .int k' b => if k = k' then some (decide (a = b)) else none
  | .str, .str a, .str b => some (a == b)
  | .bool, .bool a, .bool b => some (a == b)
  | _, _, _ => none
def cellsEq : List SK → List AV → List AV → Option Bool
  | [], _, _ => some true
  | k :: l, a :: r, b :: s => match scalEq k a b, cellsEq l r s with
    | some x, some y => some (x && y)
    | _, _ => none
  | _, _, _ => none
def eqA : EqK → AV → AV → Option Bool
  | .cells l, .agg a, .agg b => cellsEq l a b
  | .bool, .bool a, .bool b => some (a == b)
  | .ptr, .nilp, .nilp => some true
  | .ptr, .nilp, .ptr .. | .ptr, .nilp, .rp .. | .ptr, .ptr .., .nilp | .ptr, .rp .., .nilp => some false
  | .slice, .zs nl, .zs true => if nl then some true else none
  | .slice, .sl l, .zs true => if l.isEmpty then none else some false
  | .slice, .own .., .zs true => some false
  | .map, .nilmap, .nilmap => some true
  | .map, .map .., .nilmap => some false
  | .func, .nilfn, .nilfn => some true
  | .func, .fn .., .nilfn => some false
  | .iface, .nilif, .nilif => some true
  | .iface, .iface .., .nilif => some false
  | _, _, _ => none

def setFrom (cs : List AV) (off : Nat) (xs : List AV) : List AV := cs.take off ++ xs ++ cs.drop (off + xs.length)
def fillA : List (Nat × List AV) → List AV → Option (List AV)
  | [], cs => some cs
  | (off, xs) :: r, cs => if off + xs.length ≤ cs.length then fillA r (setFrom cs off xs) else none

def like (e : AV) (cs : List AV) : AV := match e with
  | .agg _ => .agg cs
  | _ => cs.headD .undef

/-- The place of an address: its element, and what holds it. -/
def elemAt (H : Heap) : AV → Option (AV × Nat)
  | .rp e j => some (e, j)
  | .ptr k ver i j => match H.live k ver with
    | some b => match b.es[i]? with
      | some e => some (e, j)
      | none => none
    | none => none
  | _ => none

def partA (cs : List AV) (off sz : Nat) (agg : Bool) : Option AV :=
  if agg then (if off + sz ≤ cs.length then some (.agg ((cs.drop off).take sz)) else none)
  else cs[off]?

def loadA (H : Heap) (sz : Nat) (agg : Bool) (a : AV) : Option AV :=
  match elemAt H a with
  | some (e, j) => partA e.cells j sz agg
  | none => none

def storeA (H : Heap) (sz : Nat) (a x : AV) : Option Heap :=
  match a with
  | .ptr k ver i j => match H.live k ver with
    | some b => match b.es[i]? with
      | some e =>
        if b.frz = false ∧ x.cells.length = sz ∧ x.solid = true ∧ j + sz ≤ e.cells.length ∧ (b.still = true → x.pure = true) then
          some (H.set k (ver, some { b with es := b.es.set i (like e (setFrom e.cells j (if b.still then x.norm else x).cells)) }))
        else none
      | none => none
    | none => none
  | _ => none

/-- A slice's elements, as they are now. -/
def elems (H : Heap) (sz : Nat) : AV → Option (List AV)
  | .sl l => if AV.sized sz l then some l else none
  | .zs _ => some []
  | .own k ver off len => match H.live k ver with
    | some b => if b.sz = sz ∧ b.still = true then some ((b.es.drop off).take len) else none
    | none => none
  | _ => none

def lenA (str : Bool) : AV → Option Nat
  | .sl l => if str then none else some l.length
  | .zs _ => if str then none else some 0
  | .own _ _ _ n => if str then none else some n
  | .str s => if str then some s.length else none
  | _ => none

/-- What a slice of the call's own is, if it is only read from now on. -/
def frozen1 (H : Heap) (k : Key) (ver off len : Nat) : Option AV :=
  match H.live k ver with
  | some b => if b.still then some (.sl ((b.es.drop off).take len)) else none
  | none => none

mutual
def snap (H : Heap) : AV → Option AV
  | .own k ver off len => frozen1 H k ver off len
  | .zs _ => some (.sl [])
  | .agg cs => match snapL H cs with | some cs => some (.agg cs) | none => none
  | .tup vs => match snapL H vs with | some vs => some (.tup vs) | none => none
  | .fn f cs => match snapL H cs with | some cs => some (.fn f cs) | none => none
  | .iface t v => match snap H v with | some v => some (.iface t v) | none => none
  | .ptr .. | .map .. => none
  | v => some v
def snapL (H : Heap) : List AV → Option (List AV)
  | [] => some []
  | v :: r => match snap H v, snapL H r with
    | some v, some r => some (v :: r)
    | _, _ => none
end

/-- A block is only read from now on. -/
def freeze (H : Heap) (k : Key) (ver : Nat) : Heap := match H.live k ver with
  | some b => H.set k (ver, some { b with frz := true })
  | none => H

mutual
/-- The blocks that a value leads to are only read from now on. -/
def kill (H : Heap) : AV → Heap
  | .own k ver _ _ => freeze H k ver
  | .agg cs => killL H cs
  | .tup vs => killL H vs
  | .fn _ cs => killL H cs
  | .iface _ v => kill H v
  | _ => H
def killL (H : Heap) : List AV → Heap
  | [] => H
  | v :: r => killL (kill H v) r
end

def fresh (H : Heap) (k : Key) (b : Blk) : Heap := H.set k ((H k).1 + 1, some b)

def nat? : AV → Option Nat
  | .int _ n => if 0 ≤ n then some n.toNat else none
  | _ => none

def slBounds (n : Nat) (lo hi : Option AV) : Option (Nat × Nat) :=
  match (match hi with | some v => nat? v | none => some n) with
  | some h => match (match lo with | some v => nat? v | none => some 0) with
    | some l => if l ≤ h ∧ h ≤ n then some (l, h) else none
    | none => none
  | none => none

def isZero : AV → Bool
  | .int _ n => n == 0
  | _ => false
def zero3 (m : AV) (hi lo : Option AV) : Bool :=
  isZero m && (match hi with | some h => isZero h | none => false) && (match lo with | some l => isZero l | none => true)

def maxA : AV → AV → Option AV
  | .int k x, .int k' y => if k = k' then some (.int k (if x < y then y else x)) else none
  | _, _ => none
def minA : AV → AV → Option AV
  | .int k x, .int k' y => if k = k' then some (.int k (if y < x then y else x)) else none
  | _, _ => none
def foldA (f : AV → AV → Option AV) : AV → List AV → Option AV
  | x, [] => some x
  | x, y :: r => match f x y with | some z => foldA f z r | none => none

/-- The most bytes of a slice. -/
def room : Nat := 140737488355328

def appendA (π : Key) (d : Nat) (sz bytes : Nat) (H : Heap) (x y : AV) : Option (AV × Heap) :=
  match elems H sz y with
  | none => none
  | some ys =>
    match x with
    | .zs nl =>
      if ys.length = 0 then some (.zs nl, H)
      else if ys.length * bytes ≤ room then some (.own (d :: π) ((H (d :: π)).1 + 1) 0 ys.length, fresh H (d :: π) ⟨false, true, sz, ys⟩)
      else none
    | .own k ver off len => match H.live k ver with
      | some b =>
        if b.frz = false ∧ b.still = true ∧ b.sz = sz ∧ off = 0 ∧ len = b.es.length ∧ (len + ys.length) * bytes ≤ room then
          some (.own k (ver + 1) 0 (len + ys.length), H.set k (ver + 1, some { b with es := b.es ++ ys }))
        else none
      | none => none
    | _ => none

/-- What a function answers that is handed nothing that may turn. -/
def ansA (X : Ctx) (go : Nat → List AV → Key → Heap → Option (AV × Heap)) (f : Nat) (args : List AV) : Option AV :=
  match X.prim f with
  | some p => p args
  | none => match go f args [] Heap.none with
    | some (r, H1) => snap H1 r
    | none => none

def callArgs0 (X : Ctx) (go : Nat → List AV → Key → Heap → Option (AV × Heap)) (f : Nat) (args : List AV) (π : Key) (H : Heap) : Option (AV × Heap) :=
  if X.shared f then go f args π H
  else match snapL H args with
    | some as => match ansA X go f as with
      | some r => if r.flat then some (r, H) else some (r, killL H args)
      | none => none
    | none => go f args π H

def callArgs (X : Ctx) (go : Nat → List AV → Key → Heap → Option (AV × Heap)) (f : Nat) (args : List AV) (π : Key) (H : Heap) : Option (AV × Heap) :=
  match X.wprim f with
  | some q => q π args H
  | none => callArgs0 X go f args π H

def withH (H : Heap) : Option AV → Option (AV × Heap)
  | some v => some (v, H)
  | none => none

def pickA : AV → AV → AV → Option AV
  | .bool t, a, b => some (if t then a else b)
  | _, _, _ => none
def nilCheckA : AV → Option AV
  | .ptr k v i j => some (.ptr k v i j)
  | .rp a j => some (.rp a j)
  | .fn f c => some (.fn f c)
  | _ => none
def notA : AV → Option AV
  | .bool b => some (.bool (!b))
  | _ => none
def negA : AV → Option AV
  | .int k n => some (.int k (k.wrap (0 - n)))
  | _ => none
def convA (k : IntKind) : AV → Option AV
  | .int _ n => some (.int k (k.wrap n))
  | _ => none
def slstrA : AV → Option AV → Option AV → Option AV
  | .str s, lo, hi => match slBounds s.length lo hi with
    | some (l, h) => some (.str ((s.take h).drop l))
    | none => none
  | _, _, _ => none
def sliceA (H : Heap) (sz : Nat) : AV → Option AV → Option AV → Option AV
  | .sl l, lo, hi => match slBounds l.length lo hi with
    | some (a, b) => if AV.sized sz l then some (.sl ((l.take b).drop a)) else none
    | none => none
  | .zs nl, lo, hi => match slBounds 0 lo hi with
    | some _ => some (.zs nl)
    | none => none
  | .own k ver off len, lo, hi => match slBounds len lo hi with
    | some (a, b) => match H.live k ver with
      | some bl => if bl.sz = sz ∧ bl.still = true then (if a < b then some (.own k ver (off + a) (b - a)) else some (.sl [])) else none
      | none => none
    | none => none
  | _, _, _ => none
def slice3A : AV → Option AV
  | .sl _ => some (.zs false)
  | .zs nl => some (.zs nl)
  | .own _ _ _ _ => some (.zs false)
  | _ => none
def fieldAddrA (off : Nat) : AV → Option AV
  | .ptr k v i j => some (.ptr k v i (j + off))
  | .rp a j => some (.rp a (j + off))
  | _ => none
def fieldA (off sz : Nat) (agg : Bool) : AV → Option AV
  | .agg cs => partA cs off sz agg
  | _ => none
def indexAddrA (H : Heap) (sz : Nat) (x i : AV) : Option AV := match nat? i with
  | some n => match x with
    | .sl l => match l[n]? with
      | some a => if a.cells.length = sz then some (.rp a 0) else none
      | none => none
    | .own k ver off len => match H.live k ver with
      | some b => if n < len ∧ b.sz = sz then some (.ptr k ver (off + n) 0) else none
      | none => none
    | _ => none
  | none => none
def indexStrA (x i : AV) : Option AV := match nat? i with
  | some n => match x with
    | .str s => match s[n]? with
      | some b => some (.int .u8 b.toNat)
      | none => none
    | _ => none
  | none => none
def extractA (i : Nat) : AV → Option AV
  | .tup vs => vs[i]?
  | _ => none
def foldArgs (f : AV → AV → Option AV) : List AV → Option AV
  | [] => none
  | x :: r => foldA f x r
def boxA (π : Key) (d : Option Nat) (H : Heap) (sz : Nat) (x : AV) : Option (AV × Heap) := match d with
  | some d => if x.cells.length = sz ∧ x.solid = true ∧ 0 < sz then some (.ptr (d :: π) ((H (d :: π)).1 + 1) 0 0, fresh H (d :: π) ⟨false, false, sz, [x]⟩) else none
  | none => none

/-! A walk along a text; maps. -/
/-- The character at a place of a text, and its width. -/
def runeAt (s : List UInt8) (pos : Nat) : Nat × Nat := Utf8.decode ⟨s.toArray⟩ pos
def rngA (π : Key) (d : Option Nat) (H : Heap) : AV → Option (AV × Heap)
  | .str s => match d with
    | some d => some (.ptr (d :: π) ((H (d :: π)).1 + 1) 1 0, fresh H (d :: π) ⟨false, true, 0, [.tup [.str s, .int .i64 0]]⟩)
    | none => none
  | _ => none
def nextB (H : Heap) (k : Key) (ver : Nat) : Blk → Option (AV × Heap)
  | ⟨false, true, 0, [.tup [.str s, .int .i64 n]]⟩ =>
    if n.toNat < s.length then
      some (.tup [.bool true, .int .i64 n, .int .i32 (runeAt s n.toNat).1], H.set k (ver, some ⟨false, true, 0, [.tup [.str s, .int .i64 (n + (runeAt s n.toNat).2)]]⟩))
    else some (.tup [.bool false], H)
  | _ => none
def nextA (H : Heap) : AV → Option (AV × Heap)
  | .ptr k ver 1 0 => match H.live k ver with
    | some b => nextB H k ver b
    | none => none
  | _ => none
def mkmapA (π : Key) (d : Option Nat) (H : Heap) : Option (AV × Heap) := match d with
  | some d => some (.map (d :: π) ((H (d :: π)).1 + 1), fresh H (d :: π) ⟨false, false, 0, [.tup []]⟩)
  | none => none
def isKeyA : MK → AV → Bool
  | .int k, .int k' _ => decide (k' = k)
  | .str, .str _ => true
  | .bool, .bool _ => true
  | _, _ => false
def keyEq : AV → AV → Option Bool
  | .int k a, .int k' b => if k = k' then some (a == b) else none
  | .str a, .str b => some (a == b)
  | .bool a, .bool b => some (a == b)
  | _, _ => none
def findKeyA (x : AV) : List AV → Nat → Option (Option (Nat × AV))
  | [], _ => some none
  | .agg [k, v] :: r, i => match keyEq x k with
    | some true => some (some (i, v))
    | some false => findKeyA x r (i + 1)
    | none => none
  | _ :: _, _ => none
def entriesA (H : Heap) : AV → Option (List AV)
  | .nilmap => some []
  | .map k ver => match H.live k ver with
    | some ⟨_, false, 0, [.tup l]⟩ => some l
    | _ => none
  | _ => none
def lookupA (H : Heap) (q : MK) (zero : AV) (ok : Bool) (m x : AV) : Option AV := if isKeyA q x then (match entriesA H m with
  | some l => match findKeyA x l 0 with
    | some (some (_, v)) => some (if ok then .tup [v, .bool true] else v)
    | some none => some (if ok then .tup [zero, .bool false] else zero)
    | none => none
  | none => none) else none
def mapSetA (H : Heap) (q : MK) (m x v : AV) : Option Heap := if isKeyA q x && v.flat && v.solid then (match m with
  | .map k ver => match H.live k ver with
    | some ⟨false, false, 0, [.tup l]⟩ => match findKeyA x l 0 with
      | some (some (i, _)) => some (H.set k (ver, some ⟨false, false, 0, [.tup (l.set i (.agg [x, v]))]⟩))
      | some none => some (H.set k (ver, some ⟨false, false, 0, [.tup (l ++ [.agg [x, v]])]⟩))
      | none => none
    | _ => none
  | _ => none) else none

def stepI (go : Nat → List AV → Key → Heap → Option (AV × Heap)) (π : Key) (dst : Option Nat) (e : Env) (H : Heap) : I → Option (AV × Heap)
  | .mov x => some (x.ev X e, H)
  | .pick c a b => withH H (pickA (c.ev X e) (a.ev X e) (b.ev X e))
  | .box sz x => boxA π dst H sz (x.ev X e)
  | .build zero parts =>
    if parts.all (fun p => (p.2.2.ev X e).cells.length == p.2.1 && (p.2.2.ev X e).solid) then
      withH H ((fillA (parts.map fun p => (p.1, (p.2.2.ev X e).cells)) zero).map .agg)
    else none
  | .buildSlice sz len zero parts => match dst with
    | some d =>
      if parts.all (fun p => (p.2.ev X e).cells.length == sz && (p.2.ev X e).pure && (p.2.ev X e).solid && p.1 < len) then
        some (.own (d :: π) ((H (d :: π)).1 + 1) 0 len, fresh H (d :: π) ⟨false, true, sz, parts.foldl (fun es p => es.set p.1 (p.2.ev X e).norm) (List.replicate len zero)⟩)
      else none
    | none => none
  | .load sz agg a => withH H (loadA H sz agg (a.ev X e))
  | .store sz a x => match storeA H sz (a.ev X e) (x.ev X e) with | some H => some (.undef, H) | none => none
  | .nilCheck x => withH H (nilCheckA (x.ev X e))
  | .bin op x y => withH H (binA op (x.ev X e) (y.ev X e))
  | .eqs q neg x y => withH H ((eqA q (x.ev X e) (y.ev X e)).map fun b => .bool (if neg then !b else b))
  | .not x => withH H (notA (x.ev X e))
  | .neg x => withH H (negA (x.ev X e))
  | .conv k x => withH H (convA k (x.ev X e))
  | .mkfn f caps => some (.fn f (caps.map (·.ev X e)), H)
  | .slstr x lo hi => withH H (slstrA (x.ev X e) (lo.map (·.ev X e)) (hi.map (·.ev X e)))
  | .slice sz x lo hi mx => match mx with
    | none => withH H (sliceA H sz (x.ev X e) (lo.map (·.ev X e)) (hi.map (·.ev X e)))
    | some m => if zero3 (m.ev X e) (hi.map (·.ev X e)) (lo.map (·.ev X e)) then withH H (slice3A (x.ev X e)) else none
  | .fieldAddr off x => withH H (fieldAddrA off (x.ev X e))
  | .field off sz agg x => withH H (fieldA off sz agg (x.ev X e))
  | .indexAddr sz x i => withH H (indexAddrA H sz (x.ev X e) (i.ev X e))
  | .indexStr x i => withH H (indexStrA (x.ev X e) (i.ev X e))
  | .extract x i => withH H (extractA i (x.ev X e))
  | .len str x => withH H ((lenA str (x.ev X e)).map fun (n : Nat) => AV.int .i64 (n : Int))
  | .append sz bytes x y => match dst with
    | some d => appendA π d sz bytes H (x.ev X e) (y.ev X e)
    | none => none
  | .mx xs => withH H (foldArgs maxA (xs.map (·.ev X e)))
  | .mn xs => withH H (foldArgs minA (xs.map (·.ev X e)))
  | .mkiface t x => some (.iface t (x.ev X e), H)
  | .rng x => rngA π dst H (x.ev X e)
  | .next x => nextA H (x.ev X e)
  | .mkmap => mkmapA π dst H
  | .lookup q z ok m x => withH H (lookupA H q z ok (m.ev X e) (x.ev X e))
  | .mapSet q m x v => match mapSetA H q (m.ev X e) (x.ev X e) (v.ev X e) with | some H => some (.undef, H) | none => none
  | .call f args => match f.ev X e with
    | .fn f caps => callArgs X go f (args.map (·.ev X e) ++ caps) (dst.getD 9999 :: π) H
    | _ => none
  | .no => none

/-- Is an operation to be carried out? none: it can't be told. -/
def wanted (e : Env) : Option (Option Nat × Bool) → Option Bool
  | none => some true
  | some (none, _) => some false
  | some (some t, b) => match e t with
    | .bool x => some (x == b)
    | .tup _ => some false
    | _ => none

def runOps (go : Nat → List AV → Key → Heap → Option (AV × Heap)) (π : Key) : List Ins → St → Option St
  | [], s => some s
  | o :: r, s => match wanted s.env o.guard with
    | some true => match stepI X go π o.dst s.env s.H o.op with
      | some (v, H) => runOps go π r ⟨s.env.put o.dst v, H⟩
      | none => none
    | some false => runOps go π r ⟨s.env.put o.dst .undef, s.H⟩
    | none => none

/-! ### A region whose order is drawn: its operations leave the blocks alone. -/

def callQ0 (go : Nat → List AV → Key → Heap → Option (AV × Heap)) (f : Nat) (args : List AV) (H : Heap) : Option AV :=
  if X.shared f then none
  else match snapL H args with
    | some as => match ansA X go f as with
      | some r => if r.flat || AV.pureL args then some r else none
      | none => none
    | none => none

def callQ (go : Nat → List AV → Key → Heap → Option (AV × Heap)) (f : Nat) (args : List AV) (H : Heap) : Option AV :=
  match X.wprim f with
  | some _ => none
  | none => callQ0 X go f args H

def valueOf : Option (AV × Heap) → Option AV
  | some (v, _) => some v
  | none => none

def stepQ (go : Nat → List AV → Key → Heap → Option (AV × Heap)) (π : Key) (dst : Option Nat) (e : Env) (H : Heap) : I → Option AV
  | .call f args => match f.ev X e with
    | .fn f caps => callQ X go f (args.map (·.ev X e) ++ caps) H
    | _ => none
  | .buildSlice sz len zero parts =>
    if dst.isSome = true ∧ parts.all (fun p => (p.2.ev X e).cells.length == sz && (p.2.ev X e).pure && (p.2.ev X e).solid && p.1 < len) = true then
      some (.sl (parts.foldl (fun es p => es.set p.1 (p.2.ev X e).norm) (List.replicate len zero)))
    else none
  | .box _ _ | .store _ _ _ | .append _ _ _ _ | .rng _ | .next _ | .mkmap | .lookup _ _ _ _ _ | .mapSet _ _ _ _ => none
  | i => valueOf (stepI X go π dst e H i)

def runQ (go : Nat → List AV → Key → Heap → Option (AV × Heap)) (π : Key) (H : Heap) : List Ins → Env → Option Env
  | [], e => some e
  | o :: r, e => match wanted e o.guard with
    | some true => match stepQ X go π o.dst e H o.op with
      | some v => runQ go π H r (e.put o.dst v)
      | none => none
    | some false => runQ go π H r (e.put o.dst .undef)
    | none => none

/-! ### A region whose order is drawn, with effects: these come as they stand in the text. -/
abbrev Go1' := Nat → List AV → Key → Heap → Option (AV × Heap)
def isEff : I → Bool
  | .box _ _ | .store _ _ _ | .append _ _ _ _ | .rng _ | .next _ | .mkmap | .lookup _ _ _ _ _ | .mapSet _ _ _ _ => true
  | _ => false
def isCall : I → Bool
  | .call _ _ => true
  | _ => false
mutual
/-- The blocks that a value leads to. -/
def AV.keys : AV → List Key
  | .own k _ _ _ | .ptr k _ _ _ | .map k _ => [k]
  | .agg cs | .tup cs | .fn _ cs => AV.keysL cs
  | .iface _ v => v.keys
  | _ => []
def AV.keysL : List AV → List Key
  | [] => []
  | v :: r => v.keys ++ AV.keysL r
end
/-- The blocks that an operation without effect looks into. -/
def touches (e : Env) : I → List Key
  | .load _ _ a => (a.ev X e).keys
  | .call f args => match f.ev X e with | .fn _ caps => AV.keysL (args.map (·.ev X e) ++ caps) | _ => []
  | .indexAddr _ x _ => (x.ev X e).keys
  | .slice _ x _ _ _ => (x.ev X e).keys
  | _ => []
/-- The blocks that an operation with an effect turns; none: that is not known. -/
def changes (π : Key) (d : Option Nat) (e : Env) : I → Option (List Key)
  | .box _ _ | .rng _ | .mkmap => match d with | some d => some [d :: π] | none => some []
  | .store _ a _ => some (a.ev X e).keys
  | .append _ _ x _ => match x.ev X e with
    | .own k _ _ _ => some [k]
    | _ => match d with | some d => some [d :: π] | none => some []
  | .next x => some (x.ev X e).keys
  | .lookup _ _ _ _ _ => some []
  | .mapSet _ m _ _ => some (m.ev X e).keys
  | .call f args => match f.ev X e with
    | .fn f caps => match X.wprim f with | some _ => none | none => (if X.shared f = false ∧ AV.pureL (args.map (·.ev X e) ++ caps) = true then some [] else none)
    | _ => none
  | _ => none
abbrev LogT := List (List Nat × List Key)
abbrev LogA := List (Nat × Option (List Key))
def logT (fr : List Nat) (t : List Key) (T : LogT) : LogT := match fr, t with
  | [], _ => T
  | _ :: _, [] => T
  | n :: fr, k :: t => (n :: fr, k :: t) :: T
def logA (n : Nat) (c : Option (List Key)) (A : LogA) : LogA := match c with
  | some [] => A
  | some (k :: ks) => (n, some (k :: ks)) :: A
  | none => (n, none) :: A
def apartK (t : List Key) : Option (List Key) → Bool
  | none => false
  | some ks => t.all fun k => ks.all fun k' => !decide (k = k')
/-- What looks into blocks and what turns them, where their order is open: of different blocks. -/
def apartE (T : LogT) (A : LogA) : Bool := T.all fun p => A.all fun q => !(p.1.any fun n => decide (n = q.1)) || apartK p.2 q.2
def runE (go : Go1') (π : Key) : List EIns → Nat → Env → Heap → LogT → LogA → Option (St × LogT × LogA)
  | [], _, e, H, T, A => some (⟨e, H⟩, T, A)
  | x :: r, n, e, H, T, A => match wanted e x.o.guard with
    | some true => if x.eff = true then
        (match stepI X go π x.o.dst e H x.o.op with
        | some (v, H') => runE go π r (n + 1) (e.put x.o.dst v) H' T (logA n (changes X π x.o.dst e x.o.op) A)
        | none => none)
      else (match stepQ X go π x.o.dst e H x.o.op with
        | some v => runE go π r (n + 1) (e.put x.o.dst v) H (logT x.free (touches X e x.o.op) T) A
        | none => none)
    | some false => runE go π r (n + 1) (e.put x.o.dst .undef) H T A
    | none => none
def doneE : Option (St × LogT × LogA) → Option St
  | some (s, T, A) => if apartE T A = true then some s else none
  | none => none

def iter (f : St → Option (Ex × St)) : Nat → St → Option (Ex × St)
  | 0, _ => none
  | n + 1, s => match f s with
    | some (.normal, s) => iter f n s
    | r => r

def exec (go : Nat → List AV → Key → Heap → Option (AV × Heap)) (k : Nat) (π : Key) : C → St → Option (Ex × St)
  | .skip, s => some (.normal, s)
  | .reg l, s => match runOps X go π l s with | some s => some (.normal, s) | none => none
  | .dreg l, s => match runQ X go π s.H l s.env with | some e => some (.normal, ⟨e, s.H⟩) | none => none
  | .ereg l, s => match doneE (runE X go π l 0 s.env s.H [] []) with | some s => some (.normal, s) | none => none
  | .seq a b, s => match exec go k π a s with
    | some (.normal, s) => exec go k π b s
    | r => r
  | .cond c a b, s => match c.ev X s.env with
    | .bool t => if t then exec go k π a s else exec go k π b s
    | _ => none
  | .block id c, s => match exec go k π c s with
    | some (.exit j, s) => if j = id then some (.normal, s) else some (.exit j, s)
    | r => r
  | .loop c, s => iter (exec go k π c) k s
  | .exit id, s => some (.exit id, s)
  | .ret, s => some (.ret, s)
  | .no, _ => none

def initEnv (args : List AV) : Env := fun t => args[t]?.getD .undef

def result1 (s : St) : Res → Option AV
  | .t n => some (s.env n)
  | .cell n sz agg => loadA s.H sz agg (s.env n)
def resultL (s : St) : List Res → Option (List AV)
  | [] => some []
  | r :: l => match result1 s r, resultL s l with
    | some v, some vs => some (v :: vs)
    | _, _ => none
def result (s : St) (l : List Res) : Option AV :=
  match resultL s l with
  | some [v] => some v
  | some vs => some (.tup vs)
  | none => none

/-- What a call answers: rounds, the function, its arguments, where its own blocks lie, and the blocks there are. -/
def call : Nat → Nat → List AV → Key → Heap → Option (AV × Heap)
  | 0, _, _, _, _ => none
  | k + 1, f, args, π, H => match X.code f with
    | none => none
    | some fd => match exec X (call k) k π fd.body ⟨initEnv args, H⟩ with
      | some (.normal, s) | some (.ret, s) => match result s fd.results with
        | some v => some (v, s.H)
        | none => none
      | _ => none

end Go.Den
