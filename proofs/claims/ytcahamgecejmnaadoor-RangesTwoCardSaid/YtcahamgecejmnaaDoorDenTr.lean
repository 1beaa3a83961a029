/-
  From the program's loaded code to the small code that is read by rounds. Its conditions: none.
-/
import Derived.Test.YtcahamgecejmnaaDoorDen
import Derived.Still
namespace Go.Den
open Go

def const1 : Value → Option AV
  | .bool b => some (.bool b)
  | .int k n => some (.int k n)
  | .string s => some (.str s.data.toList)
  | .pointer none => some .nilp
  | .slice none 0 0 => some (.zs true)
  | .map none => some .nilmap
  | .nilFunc => some .nilfn
  | .nilIface => some .nilif
  | _ => none
def constL : List Value → Option (List AV)
  | [] => some []
  | v :: r => match const1 v, constL r with
    | some x, some xs => some (x :: xs)
    | _, _ => none
def constA : Value → Option AV
  | .agg cs => match constL cs.toList with | some l => some (.agg l) | none => none
  | v => const1 v

def trOpd : Operand → Option Opd
  | .tmp t => some (.t t)
  | .const v => match constA v with | some x => some (.c x) | none => none
  | .global g => some (.g g)
  | .func f => some (.c (.fn f []))
def trOpds : List Operand → Option (List Opd)
  | [] => some []
  | x :: r => match trOpd x, trOpds r with
    | some y, some ys => some (y :: ys)
    | _, _ => none
def trOpt : Option Operand → Option (Option Opd)
  | none => some none
  | some x => match trOpd x with | some y => some (some y) | none => none

variable (P : Program)
def aggT (t : TypeId) : Option Bool := match P.underlying t with
  | some (.struct _) | some (.array _ _) => some true
  | some _ => some false
  | none => none
def sizeT (t : TypeId) : Option Nat := match P.info? t with | some i => some i.size | none => none
def bytesT (t : TypeId) : Option Nat := match P.info? t with | some i => some i.bytes | none => none
def zeroT (t : TypeId) : Option AV := match P.info? t with
  | some i => match i.zero with | some z => constA z | none => none
  | none => none

def eqFs (g : TypeId → Option (List SK)) : List Field → Nat → Option (List SK)
  | [], _ => some []
  | f :: r, off => if f.name = "_" ∨ f.offset ≠ off then none else
    match g f.type, sizeT P f.type, aggT P f.type with
    | some k, some s, some _ => if k.length = s then (match eqFs g r (off + s) with | some l => some (k ++ l) | none => none) else none
    | _, _, _ => none
/-- A type whose values are held against each other cell by cell: the kinds of its cells. -/
def eqT : Nat → TypeId → Option (List SK)
  | 0, _ => none
  | d + 1, t => match P.underlying t with
    | some .bool => some [.bool]
    | some (.int _) => some [.int]
    | some .string => some [.str]
    | some (.struct fs) => if P.stoodInHeld t then none else eqFs P (eqT d) fs.toList 0
    | _ => none

def trParts (fs : List Field) : List (Nat × Operand) → Option (List (Nat × Nat × Opd))
  | [] => some []
  | (i, x) :: r => match fs[i]? with
    | some f => match sizeT P f.type, trOpd x, trParts fs r with
      | some s, some y, some ys => some ((f.offset, s, y) :: ys)
      | _, _, _ => none
    | none => none
def trElems : List (Nat × Operand) → Option (List (Nat × Opd))
  | [] => some []
  | (i, x) :: r => match trOpd x, trElems r with
    | some y, some ys => some ((i, y) :: ys)
    | _, _ => none

def trBuild (t : TypeId) (parts : Array (Nat × Operand)) : Option I := match P.underlying t with
  | some (.struct fs) => match zeroT P t, trParts P fs.toList parts.toList with
    | some z, some ps => if z.solid = true ∧ fs.toList.all (fun f => (sizeT P f.type).isSome) = true then some (.build z.cells ps) else none
    | _, _ => none
  | _ => none
def trBuildSlice (t : TypeId) (len : Nat) (parts : Array (Nat × Operand)) : Option I := match P.underlying t with
  | some (.slice e) => match sizeT P e, zeroT P e, trElems parts.toList with
    | some s, some z, some ps => if z.cells.length = s ∧ z.solid = true ∧ s ≠ 0 ∧ len * s ≤ 2 ^ 24 then some (.buildSlice s len z.norm ps) else none
    | _, _, _ => none
  | _ => none
def isEq : BinOp → Option Bool
  | .eql => some false
  | .neq => some true
  | _ => none
def isNilConst : Operand → Bool
  | .const .nilIface => true
  | _ => false
/-- Comparisons: what is held against what. -/
def trEq (neg : Bool) (xt : TypeId) (y : Operand) (x' y' : Opd) : Option I := match P.underlying xt with
  | some .bool => some (.eqs .bool neg x' y')
  | some (.int _) | some .string => some (.bin (if neg then .neq else .eql) x' y')
  | some (.struct _) => match eqT P 20 xt with
    | some l => if P.eqGuardType P.depth xt then none else some (.eqs (.cells l) neg x' y')
    | none => none
  | some (.pointer _) => some (.eqs .ptr neg x' y')
  | some (.slice _) => some (.eqs .slice neg x' y')
  | some (.map _ _) => some (.eqs .map neg x' y')
  | some (.func _ _ _) => some (.eqs .func neg x' y')
  | some (.interface _) => if isNilConst y then some (.eqs .iface neg x' y') else none
  | _ => none
def trBin (op : BinOp) (xt : TypeId) (x y : Operand) : Option I := match trOpd x, trOpd y with
  | some x', some y' => match isEq op with
    | some neg => trEq P neg xt y x' y'
    | none => match P.underlying xt with
      | some (.int _) | some .string => some (.bin op x' y')
      | _ => none
  | _, _ => none
def trUn (op : UnOp) (x : Operand) : Option I := match trOpd x with
  | some x => match op with
    | .not => some (.not x)
    | .neg => some (.neg x)
    | _ => none
  | none => none
def trConv (src dst : TypeId) (x : Operand) : Option I := match P.underlying src, P.underlying dst, trOpd x with
  | some (.int _), some (.int k), some x => some (.conv k x)
  | some .string, some .string, some x => some (.slstr x none none)
  | _, _, _ => none
def trSlice (t : TypeId) (x : Operand) (lo hi mx : Option Operand) : Option I := match trOpd x, trOpt lo, trOpt hi, trOpt mx with
  | some x, some lo, some hi, some mx => match P.underlying t with
    | some .string => match mx with | none => some (.slstr x lo hi) | some _ => none
    | some (.slice e) => match sizeT P e with | some s => if s = 0 then none else some (.slice s x lo hi mx) | none => none
    | _ => none
  | _, _, _, _ => none
def trFieldAddr (t : TypeId) (x : Operand) (f : Nat) : Option I := match P.underlying t, trOpd x with
  | some (.struct fs), some x => match fs[f]? with
    | some fd => match sizeT P fd.type with | some s => if s = 0 then none else some (.fieldAddr fd.offset x) | none => none
    | none => none
  | _, _ => none
def trField (t : TypeId) (x : Operand) (f : Nat) : Option I := match P.underlying t, trOpd x with
  | some (.struct fs), some x => match fs[f]? with
    | some fd => match sizeT P fd.type, aggT P fd.type with
      | some s, some g => some (.field fd.offset s g x)
      | _, _ => none
    | none => none
  | _, _ => none
def trIndexAddr (t : TypeId) (x i : Operand) : Option I := match P.underlying t, trOpd x, trOpd i with
  | some (.slice e), some x, some i => match sizeT P e with | some s => some (.indexAddr s x i) | none => none
  | _, _, _ => none
def trIndex (t : TypeId) (x i : Operand) : Option I := match P.underlying t, trOpd x, trOpd i with
  | some .string, some x, some i => some (.indexStr x i)
  | _, _, _ => none
def trIface (t : TypeId) (x : Operand) : Option I := match P.underlying t, trOpd x with
  | some (.interface _), _ => none
  | some _, some x => some (.mkiface t x)
  | _, _ => none
def trLen (types : List TypeId) (args : List Operand) : Option I := match types, trOpds args with
  | [t], some [x] => match P.underlying t with
    | some .string => some (.len true x)
    | some (.slice _) => some (.len false x)
    | _ => none
  | _, _ => none
def trAppend (types : List TypeId) (args : List Operand) : Option I := match types, trOpds args with
  | [t, t2], some [x, y] => match P.underlying t with
    | some (.slice e) => match sizeT P e, bytesT P e, zeroT P e with
      | some s, some b, some z => if t = t2 ∧ s ≠ 0 ∧ b ≠ 0 ∧ z.cells.length = s ∧ z.solid = true then some (.append s b x y) else none
      | _, _, _ => none
    | _ => none
  | _, _ => none
def trCall (c : Call) : Option I := match c.callee with
  | .value f => match trOpd f, trOpds c.args.toList with
    | some f, some as => some (.call f as)
    | _, _ => none
  | .builtin .len => trLen P c.argTypes.toList c.args.toList
  | .builtin .append => trAppend P c.argTypes.toList c.args.toList
  | .builtin .max => match trOpds c.args.toList with | some xs => some (.mx xs) | none => none
  | .builtin .min => match trOpds c.args.toList with | some xs => some (.mn xs) | none => none
  | _ => none
def trFn (fn : Fn) (first caps : Array Operand) : Option I := match fn, first.toList, trOpds caps.toList with
  | .func f, [], some cs => some (.mkfn f cs)
  | _, _, _ => none

def keyK (t : TypeId) : Option MK := match P.underlying t with
  | some .bool => some .bool
  | some (.int k) => some (.int k)
  | some .string => some .str
  | _ => none
def trLookup (t : TypeId) (m x : Operand) (ok : Bool) : Option I := match P.underlying t with
  | some (.map kt et) => match keyK P kt, zeroT P et, trOpd m, trOpd x with
    | some q, some z, some m, some x => some (.lookup q z ok m x)
    | _, _, _, _ => none
  | _ => none
def trMapSet (t : TypeId) (m x v : Operand) : Option I := match P.underlying t with
  | some (.map kt _) => match keyK P kt, trOpd m, trOpd x, trOpd v with
    | some q, some m, some x, some v => some (.mapSet q m x v)
    | _, _, _, _ => none
  | _ => none
def trRange (t : TypeId) (x : Operand) : Option I := match P.underlying t, trOpd x with
  | some .string, some x => some (.rng x)
  | _, _ => none

def trI : Op → Option I
  | .move x | .assign x => match trOpd x with | some x => some (.mov x) | none => none
  | .pick c a b => match trOpd c, trOpd a, trOpd b with | some c, some a, some b => some (.pick c a b) | _, _, _ => none
  | .alloc t => match sizeT P t, zeroT P t with
    | some s, some z => some (.box s (.c z))
    | _, _ => none
  | .box t x => match sizeT P t, trOpd x with | some s, some x => some (.box s x) | _, _ => none
  | .build t parts => trBuild P t parts
  | .buildSlice t len parts => trBuildSlice P t len parts
  | .load t a => match aggT P t, sizeT P t, trOpd a with
    | some g, some s, some a => some (.load s g a)
    | _, _, _ => none
  | .store t a x => match sizeT P t, trOpd a, trOpd x with
    | some s, some a, some x => some (.store s a x)
    | _, _, _ => none
  | .nilCheck x => match trOpd x with | some x => some (.nilCheck x) | none => none
  | .binOp op xt x y _ => trBin P op xt x y
  | .unOp op _ x => trUn op x
  | .convert src dst x => trConv P src dst x
  | .makeFunc fn first caps => trFn fn first caps
  | .slice t x lo hi mx => trSlice P t x lo hi mx
  | .fieldAddr t x f => trFieldAddr P t x f
  | .field t x f => trField P t x f
  | .indexAddr t x i => trIndexAddr P t x i
  | .index t x i => trIndex P t x i
  | .extract x i => match trOpd x with | some x => some (.extract x i) | none => none
  | .makeInterface t x => trIface P t x
  | .call c => trCall P c
  | .range t x => trRange P t x
  | .next x true => match trOpd x with | some x => some (.next x) | none => none
  | .makeMap _ none => some .mkmap
  | .lookup t m x ok => trLookup P t m x ok
  | .mapUpdate t m x v | .insert t m x v => trMapSet P t m x v
  | _ => none

def dstOK (nt : Nat) : Option Nat → Bool
  | some d => decide (d < nt)
  | none => true
def trOp (nt : Nat) (ops : Array Oper) (o : Oper) : Option Ins :=
  if dstOK nt o.dst then
    some ⟨o.dst, (match o.guard with | none => none | some (j, b) => some ((ops[j]?).bind (·.dst), b)), (trI P o.op).getD .no⟩ else none
def trOps (nt : Nat) (ops : Array Oper) : List Oper → Option (List Ins)
  | [] => some []
  | o :: r => match trOp P nt ops o, trOps nt ops r with
    | some i, some is => some (i :: is)
    | _, _ => none

/-- What an operation looks at. -/
def Opd.tmps : Opd → List Nat
  | .t n => [n]
  | _ => []
def optTmps : Option Opd → List Nat
  | some x => x.tmps
  | none => []
def I.tmps : I → List Nat
  | .mov x | .nilCheck x | .not x | .neg x | .box _ x | .conv _ x | .fieldAddr _ x | .field _ _ _ x | .extract x _ | .len _ x | .mkiface _ x | .load _ _ x => x.tmps
  | .pick a b c => a.tmps ++ (b.tmps ++ c.tmps)
  | .build _ parts => (parts.map fun p => p.2.2.tmps).flatten
  | .buildSlice _ _ _ parts => (parts.map fun p => p.2.tmps).flatten
  | .store _ a x | .bin _ a x | .eqs _ _ a x | .indexAddr _ a x | .indexStr a x | .append _ _ a x => a.tmps ++ x.tmps
  | .mkfn _ caps => (caps.map Opd.tmps).flatten
  | .slstr x lo hi => x.tmps ++ (optTmps lo ++ optTmps hi)
  | .slice _ x lo hi m => x.tmps ++ (optTmps lo ++ (optTmps hi ++ optTmps m))
  | .mx l => (l.map Opd.tmps).flatten
  | .mn l => (l.map Opd.tmps).flatten
  | .call f as => f.tmps ++ (as.map Opd.tmps).flatten
  | .rng x | .next x => x.tmps
  | .mkmap => []
  | .lookup _ _ _ m x => m.tmps ++ x.tmps
  | .mapSet _ m x v => m.tmps ++ (x.tmps ++ v.tmps)
  | .no => []
def Ins.tmps (o : Ins) : List Nat := (match o.guard with | some (some t, _) => [t] | _ => []) ++ o.op.tmps

def binding (ops : Array Oper) (i : Nat) : List Nat := match ops[i]? with
  | some o => (o.after.toList.filter (Region.binds .any)).map (·.on)
  | none => []
/-- In every order that may be drawn each operation finds what it looks at, and nothing is put in twice. -/
def drawOK (l : List Ins) (after : Nat → List Nat) : Bool :=
  (List.range l.length).all fun i => match l[i]? with
    | none => false
    | some o => (after i).all (fun j => decide (j < i)) &&
      (List.range l.length).all fun j => match (l[j]?).bind (·.dst) with
        | none => true
        | some d => i == j || (o.dst != some d && (!o.tmps.contains d || (decide (j < i) && (after i).contains j) || (decide (i < j) && (after j).contains i)))

/-- For each place the places that surely come ahead of it. -/
def ancs (after : Nat → List Nat) : Nat → List (List Nat)
  | 0 => []
  | n + 1 => ancs after n ++ [(List.range n).filter fun j => (after n).any fun k => k == j || ((ancs after n).getD k []).contains j]
/-- Does it come at its place in the text? c: calls, too. -/
def isEffC (c : Bool) (i : I) : Bool := isEff i || (c && isCall i)
def effAt (l : List Ins) (c : Bool) (i : Nat) : Bool := match l[i]? with | some o => isEffC c o.op | none => false
def chainOK (l : List Ins) (ps : List (List Nat)) (c : Bool) : Bool :=
  (List.range l.length).all fun i => !effAt l c i || (List.range i).all fun j => !effAt l c j || (ps.getD i []).contains j
def freeOf (l : List Ins) (ps : List (List Nat)) (c : Bool) (i : Nat) : List Nat :=
  if effAt l c i then [] else (List.range l.length).filter fun j => effAt l c j && (!(ps.getD i []).contains j && !(ps.getD j []).contains i)
def annot (l : List Ins) (ps : List (List Nat)) (c : Bool) : List EIns := l.zipIdx.map fun p => ⟨p.1, isEffC c p.1.op, freeOf l ps c p.2⟩
def drawC (l : List Ins) (ps : List (List Nat)) : C :=
  if (l.any fun o => isEffC true o.op) = true then
    (if chainOK l ps true = true then .ereg (annot l ps true)
    else if (l.any fun o => isEffC false o.op) = true then (if chainOK l ps false = true then .ereg (annot l ps false) else .no)
    else .dreg l)
  else .dreg l

def trC (nt : Nat) : Code → Option C
  | .skip => some .skip
  | .region _ ops draw => if draw then (match trOps P nt ops ops.toList with | some l => if drawOK l (binding ops) then some (drawC l (ancs (binding ops) l.length)) else some .no | none => none) else match trOps P nt ops ops.toList with | some l => some (.reg l) | none => none
  | .seq a b => match trC nt a, trC nt b with | some a, some b => some (.seq a b) | _, _ => none
  | .cond c a b => match trC nt a, trC nt b with | some a, some b => (match trOpd c with | some c => some (.cond c a b) | none => some .no) | _, _ => none
  | .block id c => match trC nt c with | some c => some (.block id c) | none => none
  | .loop c => match trC nt c with | some c => some (.loop c) | none => none
  | .exit id => some (.exit id)
  | .ret => some .ret
  | _ => some .no

def trRes : List ResultVar → Option (List Res)
  | [] => some []
  | .tmp t :: r => match trRes r with | some l => some (.t t :: l) | none => none
  | .cell a t :: r => match aggT P t, sizeT P t, trRes r with
    | some g, some s, some l => some (.cell a s g :: l)
    | _, _, _ => none

def trF (f : Nat) : Option FD := match P.funcs[f]? with
  | some fn => match fn.body with
    | some c => if fn.name == "runtime.NumGoroutine" then none else match trC P fn.ntmps c, trRes P fn.results.toList with
      | some c, some rs => some ⟨fn.params.size, rs, c⟩
      | _, _ => none
    | none => none
  | none => none

end Go.Den
