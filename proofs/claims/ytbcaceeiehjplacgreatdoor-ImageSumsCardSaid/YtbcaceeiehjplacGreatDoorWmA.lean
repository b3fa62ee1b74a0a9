/- The canonical machine: its values, its code, and how the model's code is turned into it. -/
import Derived.Calls
import Derived.Below
import Derived.Laws.World
import Derived.Laws.Sem
import Derived.Laws.Cells
import Derived.MapKept
import Derived.Laws.IdiomRangeMap
import Derived.Deep.Quiet
import Derived.StillTail
import Derived.KernelRfl
import Derived.CallsIn
import Derived.OrdersIn
import Derived.DefersIn
import Derived.RecoverIn
import Derived.RangeFuncIn
import Derived.RangeFuncLeaves
import Derived.TacticsIn
namespace Go.Wm
set_option linter.unusedSimpArgs false
set_option linter.unusedVariables false
open Go.RowKit

/-- the package variables that are looked into: the canonical heap's first blocks -/
def GL : List Nat := [1, 2, 0]

/-- a place: a block, an element of it, a cell of that element -/
structure PA where
  blk : Nat
  idx : Nat
  off : Nat

inductive VV where
  | undef
  | bool (b : Bool)
  | int (k : IntKind) (n : Int)
  | str (s : List UInt8)
  | ptr (p : Option PA)
  | sl (p : Option PA) (len cap : Nat)
  | fn (f : FuncId) (caps : List VV)
  | nilFn
  | agg (cs : List VV)
  | tup (vs : List VV)
  | map (p : Option Nat)
  | nilI
  | yield (b : Nat)
  | ifc (t : TypeId) (v : VV)
  deriving Inhabited

/-- may it stand in a cell? -/
def VV.cell : VV → Bool
  | .undef | .agg _ | .tup _ => false
  | _ => true
/-- its cells -/
def VV.cells : VV → List VV
  | .agg cs => cs
  | v => [v]
def VV.defd : VV → Bool
  | .undef => false
  | _ => true

abbrev Fr := List (Nat × VV)
def Fr.get : Fr → Nat → Option VV
  | [], _ => none
  | (k, v) :: r, s => bif Nat.beq k s then some v else Fr.get r s
/-- where the calls that are put off stand -/
def dslot : Nat := 1023
/-- what is to be kept: the slots whose bit is set, of each the last value; 0: all -/
def Fr.filt : Fr → Nat → Fr
  | [], _ => []
  | (k, v) :: r, m => bif Nat.beq (Nat.land (Nat.shiftRight m k) 1) 1 then (k, v) :: Fr.filt r (Nat.xor m (Nat.shiftLeft 1 k)) else Fr.filt r m
def Fr.only (F : Fr) (m : Nat) : Fr := bif Nat.beq m 0 then F else Fr.filt F (Nat.lor m (Nat.shiftLeft 1 dslot))

/-- an operand; the method that a value in an interface has; that value -/
inductive Od where
  | t (s : Nat)
  | c (v : VV)
  | mt (s : Nat) (tbl : List (Nat × Nat))
  | ri (s : Nat)
def tblGet : List (Nat × Nat) → Nat → Option Nat
  | [], _ => none
  | (k, f) :: l, t => bif Nat.beq k t then some f else tblGet l t
def Od.ev (E : Fr) : Od → Option VV
  | .t s => E.get s
  | .c v => some v
  | .mt s tbl => match E.get s with | some (.ifc ty _) => (match tblGet tbl ty with | some f => some (.fn f []) | none => none) | _ => none
  | .ri s => match E.get s with | some (.ifc _ v) => some v | _ => none
def Od.evs (E : Fr) : List Od → Option (List VV)
  | [] => some []
  | x :: r => match x.ev E, Od.evs E r with | some v, some l => some (v :: l) | _, _ => none
/-- an optional bound -/
def Od.oev (E : Fr) (d : Int) : Option Od → Option Int
  | none => some d
  | some x => match x.ev E with | some (.int _ n) => some n | _ => none

/-- a map's keys -/
inductive KK where
  | int (k : IntKind)
  | str
  | bool
  | agg (ks : List Nat)

/-- the operations that only read -/
inductive VOp where
  | mv (x : Od)
  | pick (c a b : Od)
  | load (n : Nat) (ag : Bool) (x : Od)
  | nilck (x : Od)
  | bin (op : BinOp) (x y : Od)
  | sh (left : Bool) (x y : Od)
  | beq (neg : Bool) (x y : Od)
  | not (x : Od)
  | conv (k : IntKind) (x : Od)
  | mkfn (f : FuncId) (caps : List Od)
  | faddr (off : Nat) (x : Od)
  | fld (off n : Nat) (ag : Bool) (x : Od)
  | ixa (esz : Nat) (x i : Od)
  | ixar (len esz : Nat) (x i : Od)
  | lens (x : Od)
  | lent (x : Od)
  | lenm (x : Od)
  | min2 (x y : Od)
  | max2 (x y : Od)
  | ext (i : Nat) (x : Od)
  | build (zs : List VV) (ps : List (Nat × Nat × Od))
  | slc (esz : Nat) (x : Od) (lo hi mx : Option Od)
  | slstr (x : Od) (lo hi : Option Od)
  | ixs (x i : Od)
  | aeq (neg : Bool) (ks : List Nat) (x y : Od)
  | lkp (kk : KK) (zero : VV) (ok : Bool) (x k : Od)
  | ent (x : Od)
  | neq (kd : Nat) (neg : Bool) (x y : Od)
  | seq (op : BinOp) (x y : Od)
  | neg (x : Od)
  | chr (x : Od)
  | bstr (x : Od)
  | ixb (x y : Od)
  | mki (t : TypeId) (x : Od)
  | capm (x : Od)
  | s2a (n : Nat) (x : Od)
  | lda (n : Nat) (x : Od)
/-- those that write or make memory -/
inductive VEf where
  | store (n : Nat) (x v : Od)
  | alloc (t : TypeId) (zs : List VV)
  | box (t : TypeId) (x : Od)
  | mkrow (t : TypeId) (zs : List VV) (m : Nat) (ps : List (Nat × Od))
  | mksl (t : TypeId) (bytes : Nat) (zs : List VV) (m c : Od)
  | app (t : TypeId) (z bytes : Nat) (s x : Od)
  | mkmap
  | mset (kk : KK) (x k v : Od)
  | rng (x : Od)
  | copy (z : Nat) (d s : Od)
  | ment (kk : KK) (zero : VV) (x k : Od)
  | mput (x s v : Od)
  | srng (x : Od)
  | snext (x : Od)
  | ustr (e : TypeId) (x n : Od)
  | appz (t : TypeId) (zs : List VV) (bytes : Nat) (s n : Od)
  | resl (m : Nat) (x : Od)
  | sbytes (x : Od)
inductive VI where
  | rd (d : Nat) (g : Option (Nat × Bool)) (x : VOp)
  | ef (d : Option Nat) (g : Option (Nat × Bool)) (x : VEf)
  | call (d : Option Nat) (g : Option (Nat × Bool)) (f : Od) (args : List Od)
  | nx (d : Nat) (g : Option (Nat × Bool)) (x : Od)
  | dfr (d : Option Nat) (g : Option (Nat × Bool)) (f : Od) (args : List Od)
  | rcv (d : Nat) (g : Option (Nat × Bool))
  | bad (d : Option Nat) (g : Option (Nat × Bool))
inductive VC where
  | skip
  | reg (l : List VI) (keep : Nat)
  | dreg (l : List VI) (b : List (Nat × Nat)) (keep : Nat)
  | seq (x y : VC)
  | cond (s : Nat) (x y : VC)
  | block (id : Nat) (x : VC)
  | loop (x : VC)
  | exit (id : Nat)
  | ret
  | scope (x : VC)
  | rfunc (f : Od) (ps : List Nat) (va vb : VC)
  | bad
  | dlm (a r : VC)
inductive RV where
  | t (s : Nat)
  | c (s n : Nat) (ag : Bool)
inductive VE where
  | normal
  | ret
  | exit (id : Nat)
def VE.to : VE → Exit
  | .normal => .normal
  | .ret => .ret
  | .exit i => .exit i

/-! ### blocks -/
/-- a block that came in and is only read; one of the call's own; one of the call's own that may have more room than is told -/
inductive Mode where
  | ro | own | loose
  deriving DecidableEq, Inhabited
structure LoopR where
  st : Nat
  pend : Option VE
  f : FuncId
  n : Nat
  E : Fr
  ps : List Nat
  va : VC
  vb : VC
  db : Nat
/-- a map: its entries in the order in which they were laid; a loop over a map: which map, how many entries it had, which were handed out; a loop over a text; a loop over a function; the calls that its rounds put off -/
inductive MOb where
  | map (es : List (VV × VV))
  | iter (m n : Nat) (seen : List Nat)
  | siter (s : List UInt8) (pos : Nat)
  | loop (r : LoopR)
  | defs (taken : Bool)
  | bytes (s : List UInt8)
inductive Blk where
  | dead
  | row (t : TypeId) (md : Mode) (es : List (List VV))
  | obj (o : MOb)
instance : Inhabited Blk := ⟨.dead⟩
abbrev Hp := List Blk
abbrev Gt := Nat → Option Blk

/-! ### turning the model's code -/
def constVV : Value → Option VV
  | .bool b => some (.bool b)
  | .int k n => some (.int k n)
  | .string s => some (.str s.data.toList)
  | .pointer none => some (.ptr none)
  | .slice none 0 0 => some (.sl none 0 0)
  | .map none => some (.map none)
  | .nilFunc => some .nilFn
  | .nilIface => some .nilI
  | _ => none
def compOd : Operand → Option Od
  | .tmp t => if t = dslot then none else some (.t t)
  | .const (.agg cs) => (cs.toList.mapM constVV).map fun l => .c (.agg l)
  | .const v => (constVV v).map .c
  | .func f => some (.c (.fn f []))
  | .global g => (GL.idxOf? g).map fun i => .c (.ptr (some ⟨i, 0, 0⟩))

/-- cells of a type, and whether it is a struct or an array -/
def aggOf (P : Program) (t : TypeId) : Option (Nat × Bool) :=
  match P.info? t, P.underlying t with
  | some i, some u => some (i.size, match u with | .struct _ | .array _ _ => true | _ => false)
  | _, _ => none
/-- a struct whose fields are each one cell that '==' compares by itself -/
def flatKinds (P : Program) : Nat → List Field → Option (List Nat)
  | _, [] => some []
  | i, f :: fs => if f.name ≠ "_" ∧ f.offset = i ∧ aggOf P f.type = some (1, false) then
      (match P.underlying f.type, flatKinds P (i + 1) fs with
        | some (.int _), some l => some (0 :: l)
        | some .bool, some l => some (1 :: l)
        | some .string, some l => some (2 :: l)
        | _, _ => none) else none
def flatStruct (P : Program) (t : TypeId) : Option (List Nat) :=
  match P.underlying t with
  | some (.struct fs) => if P.stoodInHeld t = false ∧ P.eqGuardType P.depth t = false then flatKinds P 0 fs.toList else none
  | _ => none
def zerosOf (P : Program) (t : TypeId) : Option (List VV) :=
  match P.info? t with
  | some i => match i.zero with | some z => z.cells.toList.mapM constVV | none => none
  | none => none
def compParts (P : Program) (place : Nat → Option (Nat × Nat)) : List (Nat × Operand) → Option (List (Nat × Nat × Od))
  | [] => some []
  | (i, x) :: r => match place i, compOd x, compParts P place r with | some (o, n), some y, some l => some ((o, n, y) :: l) | _, _, _ => none
def structPlaces (P : Program) (fs : Array Field) (i : Nat) : Option (Nat × Nat) :=
  match fs[i]? with
  | some f => match P.info? f.type with | some j => some (f.offset, j.size) | none => none
  | none => none
def keyKind (P : Program) (t : TypeId) : Option KK :=
  match P.underlying t with
  | some (.int k) => some (.int k)
  | some .string => some .str
  | some .bool => some .bool
  | some (.struct _) => (flatStruct P t).map .agg
  | _ => none
def zeroVV (P : Program) (t : TypeId) : Option VV :=
  match P.info? t with
  | some i => match i.zero with
    | some (.agg cs) => (cs.toList.mapM constVV).map .agg
    | some z => constVV z
    | none => none
  | none => none
def compO (x : Option Operand) : Option (Option Od) :=
  match x with | none => some none | some y => (compOd y).map some
def structField (P : Program) (t : TypeId) (f : Nat) : Option Field :=
  match P.underlying t with
  | some (.struct fs) => fs[f]?
  | _ => none
/-- a function without a body that the model answers for -/
def bodyless (P : Program) (f : FuncId) (name : String) : Bool :=
  match P.funcs[f]? with
  | some fn => fn.body.isNone && (fn.name == name && (Extern.findNext fn).isNone)
  | none => false

/-- an array of bytes -/
def bytesArr (P : Program) (t : TypeId) : Bool :=
  match P.underlying t with
  | some (.array _ e) => match P.underlying e, P.info? e with | some (.int .u8), some i => Nat.beq i.size 1 | _, _ => false
  | _ => false
/-- the array that is sliced -/
def slArr (P : Program) (t : TypeId) : Option (Nat × Nat) :=
  match P.underlying t with
  | some (.array n e) => some (n, e)
  | some (.pointer ar) => match P.underlying ar with | some (.array n e) => some (n, e) | _ => none
  | _ => none
def arrKinds (P : Program) (t : TypeId) : Option (List Nat) :=
  match P.underlying t with
  | some (.array n _) => if bytesArr P t = true ∧ P.eqGuardType P.depth t = false then some (List.replicate n 0) else none
  | _ => none
def isConst : Operand → Bool
  | .const _ => true
  | _ => false
/-- the operation with what the types say of it -/
def compRead (P : Program) : Op → Option VOp
  | .move x | .assign x => (compOd x).map .mv
  | .pick c a b => match compOd c, compOd a, compOd b with | some c, some a, some b => some (.pick c a b) | _, _, _ => none
  | .load t x => match aggOf P t, compOd x with | some (n, b), some x => if bytesArr P t then some (.lda n x) else some (.load n b x) | _, _ => none
  | .nilCheck x => (compOd x).map .nilck
  | .binOp op t x0 y0 _ => match compOd x0, compOd y0 with
    | some x, some y => match P.underlying t, op with
      | some .bool, .eql => some (.beq false x y)
      | some .bool, .neq => some (.beq true x y)
      | some (.struct _), .eql => match flatStruct P t with | some ks => some (.aeq false ks x y) | none => none
      | some (.struct _), .neq => match flatStruct P t with | some ks => some (.aeq true ks x y) | none => none
      | some (.array _ _), .eql => match arrKinds P t with | some ks => some (.aeq false ks x y) | none => none
      | some (.array _ _), .neq => match arrKinds P t with | some ks => some (.aeq true ks x y) | none => none
      | some (.int _), .shl => some (.sh true x y)
      | some (.int _), .shr => some (.sh false x y)
      | some (.int _), op => some (.bin op x y)
      | some .string, op => some (.seq op x y)
      | some (.pointer e), .eql => if ((P.info? e).map (·.size)).getD 0 ≠ 0 then some (.neq 0 false x y) else none
      | some (.slice _), .eql => some (.neq 1 false x y)
      | some (.map _ _), .eql => some (.neq 2 false x y)
      | some (.interface _), .eql => if isConst y0 = true then some (.neq 3 false x y) else none
      | some (.func _ _ _), .eql => some (.neq 4 false x y)
      | some (.pointer e), .neq => if ((P.info? e).map (·.size)).getD 0 ≠ 0 then some (.neq 0 true x y) else none
      | some (.slice _), .neq => some (.neq 1 true x y)
      | some (.map _ _), .neq => some (.neq 2 true x y)
      | some (.interface _), .neq => if isConst y0 = true then some (.neq 3 true x y) else none
      | some (.func _ _ _), .neq => some (.neq 4 true x y)
      | _, _ => none
    | _, _ => none
  | .unOp .not _ x => (compOd x).map .not
  | .unOp .neg _ x => (compOd x).map .neg
  | .convert s d x => match P.underlying s, P.underlying d, compOd x with
    | some (.int _), some (.int k), some x => some (.conv k x)
    | some (.int _), some .string, some x => some (.chr x)
    | some (.slice e), some .string, some x => match P.underlying e with | some (.int .u8) => some (.bstr x) | _ => none
    | _, _, _ => none
  | .makeFunc (.func f) first caps => if first.size = 0 then (match caps.toList.mapM compOd with | some l => some (.mkfn f l) | none => none) else none
  | .fieldAddr s x f => match structField P s f, compOd x with
    | some g, some x => match P.info? g.type with | some i => if i.size = 0 then none else some (.faddr g.offset x) | none => none
    | _, _ => none
  | .field s x f => match structField P s f, compOd x with
    | some g, some x => match aggOf P g.type with | some (n, b) => some (.fld g.offset n b x) | none => none
    | _, _ => none
  | .indexAddr t x i => match P.underlying t, compOd x, compOd i with
    | some (.slice e), some x, some i => match P.info? e with | some j => some (.ixa j.size x i) | none => none
    | some (.array len e), some x, some i => match P.info? e with | some j => some (.ixar len j.size x i) | none => none
    | _, _, _ => none
  | .extract x i => (compOd x).map (.ext i)
  | .build t ps => match zerosOf P t, P.underlying t with
    | some zs, some (.struct fs) => if fs.all fun f => (P.info? f.type).isSome then (match compParts P (structPlaces P fs) ps.toList with | some l => some (.build zs l) | none => none) else none
    | some zs, some (.array _ e) => match P.info? e with
      | some j => match compParts P (fun i => some (i * j.size, j.size)) ps.toList with | some l => some (.build zs l) | none => none
      | none => none
    | _, _ => none
  | .slice t x lo hi mx => match P.underlying t, compOd x, compO lo, compO hi, compO mx with
    | some (.slice e), some x, some lo, some hi, some mx => if mx.isSome && hi.isNone then none else (match P.info? e with | some j => some (.slc j.size x lo hi mx) | none => none)
    | some .string, some x, some lo, some hi, some none => some (.slstr x lo hi)
    | _, _, _, _, _ => none
  | .index t x i => match P.underlying t, compOd x, compOd i with
    | some .string, some x, some i => some (.ixs x i)
    | _, _, _ => none
  | .lookup t x k ok => match P.underlying t, compOd x, compOd k with
    | some (.map kt et), some x, some k => match keyKind P kt, zeroVV P et with
      | some kk, some z => some (.lkp kk z ok x k)
      | _, _ => none
    | _, _, _ => none
  | .entry x => (compOd x).map .ent
  | .call c => match c.callee, c.args.toList, c.argTypes.toList with
    | .builtin .len, [x], [t] => match P.underlying t, compOd x with
      | some (.slice _), some x => some (.lens x)
      | some .string, some x => some (.lent x)
      | some (.map _ _), some x => some (.lenm x)
      | _, _ => none
    | .builtin .cap, [x], [t] => match P.underlying t, compOd x with
      | some (.slice _), some x => some (.capm x)
      | _, _ => none
    | .builtin .min, [x, y], _ => match compOd x, compOd y with | some x, some y => some (.min2 x y) | _, _ => none
    | .builtin .max, [x, y], _ => match compOd x, compOd y with | some x, some y => some (.max2 x y) | _, _ => none
    | .value (.func f), [x, y], _ => if bodyless P f "internal/bytealg.IndexByteString" = true then (match compOd x, compOd y with | some x, some y => some (.ixb x y) | _, _ => none) else none
    | _, _, _ => none
  | .makeInterface t x => match P.underlying t, compOd x with
    | some (.interface _), _ => none
    | some _, some x => some (.mki t x)
    | _, _ => none
  | .sliceToArrayPointer t x => match P.underlying t, compOd x with
    | some (.array n _), some x => some (.s2a n x)
    | _, _ => none
  | _ => none

def okCells (l : List VV) : Bool := l.all VV.cell
def compRows (l : List (Nat × Operand)) : Option (List (Nat × Od)) :=
  match l with
  | [] => some []
  | (i, x) :: r => match compOd x, compRows r with | some y, some l' => some ((i, y) :: l') | _, _ => none

def compEff (P : Program) : Op → Option VEf
  | .store t x v => match P.info? t, compOd x, compOd v with | some i, some x, some v => some (.store i.size x v) | _, _, _ => none
  | .alloc t => match zerosOf P t with | some zs => if okCells zs then some (.alloc t zs) else none | none => none
  | .box t x => match compOd x with | some x => some (.box t x) | none => none
  | .buildSlice t len ps => match P.underlying t with
    | some (.slice e) => match zerosOf P e, P.info? e, compRows ps.toList with
      | some zs, some i, some l => if okCells zs = true ∧ i.size = zs.length ∧ 0 < zs.length ∧ len * zs.length ≤ 16777216 then some (.mkrow e zs len l) else none
      | _, _, _ => none
    | _ => none
  | .makeSlice t l c => match P.underlying t with
    | some (.slice e) => match zerosOf P e, P.info? e, compOd l, compOd c with
      | some zs, some i, some l, some c => if okCells zs = true ∧ i.size = zs.length ∧ 0 < zs.length then some (.mksl e i.bytes zs l c) else none
      | _, _, _, _ => none
    | _ => none
  | .makeMap _ none => some .mkmap
  | .mapUpdate t m k x | .insert t m k x => match P.underlying t, compOd m, compOd k, compOd x with
    | some (.map kt _), some m, some k, some x => match keyKind P kt with | some kk => some (.mset kk m k x) | none => none
    | _, _, _, _ => none
  | .mapEntry t m k => match P.underlying t, compOd m, compOd k with
    | some (.map kt et), some m, some k => match keyKind P kt, zeroVV P et with | some kk, some z => some (.ment kk z m k) | _, _ => none
    | _, _, _ => none
  | .entryStore _ m s x => match compOd m, compOd s, compOd x with
    | some m, some s, some x => some (.mput m s x)
    | _, _, _ => none
  | .range t x => match P.underlying t, compOd x with | some (.map _ _), some x => some (.rng x) | some .string, some x => some (.srng x) | _, _ => none
  | .next x true => (compOd x).map .snext
  | .slice t x none none none => match slArr P t, compOd x with
    | some (n, e), some x => match P.info? e with | some i => if i.size = 1 ∧ 0 < n then some (.resl n x) else none | none => none
    | _, _ => none
  | .convert s d x => match P.underlying s, P.underlying d, compOd x with
    | some .string, some (.slice e), some x => match P.underlying e with | some (.int .u8) => some (.sbytes x) | _ => none
    | _, _, _ => none
  | .call c => match c.callee, c.args.toList, c.argTypes.toList with
    | .builtin .append, [s, x], [t, u] => match P.underlying t, P.underlying u, compOd s, compOd x with
      | some (.slice e), some (.slice _), some s, some x | some (.slice e), some .string, some s, some x => match P.info? e with
        | some i => match i.zero with | some z => if 0 < i.size ∧ 0 < i.bytes ∧ z.cells.size = i.size then some (.app e i.size i.bytes s x) else none | none => none
        | none => none
      | some (.slice e), some (.int .i64), some s, some x => match zerosOf P e, P.info? e with
        | some zs, some i => if okCells zs = true ∧ i.size = zs.length ∧ 0 < zs.length ∧ 0 < i.bytes then some (.appz e zs i.bytes s x) else none
        | _, _ => none
      | _, _, _, _ => none
    | .builtin .copy, [d, s], [t, u] => match P.underlying t, P.underlying u, compOd d, compOd s with
      | some (.slice e), some (.slice _), some d, some s | some (.slice e), some .string, some d, some s => match P.info? e with | some i => if 0 < i.size then some (.copy i.size d s) else none | none => none
      | _, _, _, _ => none
    | .builtin .unsafeString, [x, n], [t, _] => match P.underlying t, compOd x, compOd n with | some (.pointer e), some x, some n => if P.cellsOf e = 1 then some (.ustr e x n) else none | _, _, _ => none
    | _, _, _ => none
  | _ => none

def compG (ops : Array Oper) (N : Nat) : Option (Nat × Bool) → Option (Option (Nat × Bool))
  | none => some none
  | some (j, b) => match (ops[j]?).bind (·.dst) with | some s => if s < N then some (some (s, b)) else none | none => none
def dstOk (N : Nat) : Option Nat → Bool
  | none => true
  | some d => decide (d < N)
/-- the function that a type has under this name, where the value itself is handed over -/
def methF (P : Program) (t : TypeId) (name : String) : Option FuncId :=
  match P.info? t with
  | some i => match i.methods.find? (·.name == name) with
    | some m => match m.path.toList, m.func, P.underlying t with
      | [], some (f, false), some (.pointer _) => none
      | [], some (f, true), some (.pointer _) => some f
      | [], some (f, false), some _ => some f
      | _, _, _ => none
    | none => none
  | none => none
def methTbl (P : Program) (name : String) : Nat → List (Nat × Nat)
  | 0 => []
  | t + 1 => match methF P t name with | some f => (t, f) :: methTbl P name t | none => methTbl P name t
def compI (P : Program) (N : Nat) (ops : Array Oper) (o : Oper) : Option VI :=
  match compG ops N o.guard with
  | none => none
  | some g => if dstOk N o.dst = false then none else
    match compRead P o.op, o.dst with
    | some x, some d => some (.rd d g x)
    | some _, none => none
    | none, _ => match compEff P o.op with
      | some x => some (.ef o.dst g x)
      | none => match o.op with
        | .call c => match c.callee with
          | .value f => match compOd f, c.args.toList.mapM compOd with
            | some f, some l => some (.call o.dst g f l)
            | _, _ => some (.bad o.dst g)
          | .invoke (.tmp s) name => if s = dslot then some (.bad o.dst g) else (match c.args.toList.mapM compOd with
            | some l => some (.call o.dst g (.mt s (methTbl P name P.types.size)) (.ri s :: l))
            | none => some (.bad o.dst g))
          | .builtin .recover => match o.dst with | some d => some (.rcv d g) | none => some (.bad o.dst g)
          | _ => some (.bad o.dst g)
        | .defer c => match c.callee with
          | .value f => match compOd f, c.args.toList.mapM compOd with
            | some f, some l => some (.dfr o.dst g f l)
            | _, _ => some (.bad o.dst g)
          | _ => some (.bad o.dst g)
        | .next x false => match compOd x, o.dst with | some x, some d => some (.nx d g x) | _, _ => some (.bad o.dst g)
        | _ => some (.bad o.dst g)
def compL (P : Program) (N : Nat) (ops : Array Oper) : List Oper → Option (List VI)
  | [] => some []
  | o :: r => match compI P N ops o, compL P N ops r with | some x, some l => some (x :: l) | _, _ => none

/-! ### what an operation looks at -/
def Od.uses : Od → List Nat
  | .t s | .mt s _ | .ri s => [s]
  | .c _ => []
def usesL : List Od → List Nat
  | [] => []
  | x :: l => x.uses ++ usesL l
def usesO : Option Od → List Nat
  | none => []
  | some x => x.uses
def usesP : List (Nat × Nat × Od) → List Nat
  | [] => []
  | (_, _, x) :: l => x.uses ++ usesP l
def usesR : List (Nat × Od) → List Nat
  | [] => []
  | (_, x) :: l => x.uses ++ usesR l
def VOp.uses : VOp → List Nat
  | .mv x | .load _ _ x | .nilck x | .not x | .conv _ x | .faddr _ x | .fld _ _ _ x | .lens x | .lent x | .lenm x | .ext _ x | .ent x | .neg x | .chr x | .bstr x | .mki _ x | .capm x | .s2a _ x | .lda _ x => x.uses
  | .pick c a b => c.uses ++ (a.uses ++ b.uses)
  | .bin _ x y | .sh _ x y | .beq _ x y | .ixa _ x y | .ixar _ _ x y | .min2 x y | .max2 x y | .ixs x y | .aeq _ _ x y | .lkp _ _ _ x y | .neq _ _ x y | .seq _ x y | .ixb x y => x.uses ++ y.uses
  | .mkfn _ l => usesL l
  | .build _ ps => usesP ps
  | .slc _ x a b c => x.uses ++ (usesO a ++ (usesO b ++ usesO c))
  | .slstr x a b => x.uses ++ (usesO a ++ usesO b)
def VEf.uses : VEf → List Nat
  | .alloc _ _ | .mkmap => []
  | .box _ x | .rng x | .srng x | .snext x | .resl _ x | .sbytes x => x.uses
  | .mkrow _ _ _ ps => usesR ps
  | .store _ x y | .mksl _ _ _ x y | .app _ _ _ x y | .copy _ x y | .ment _ _ x y | .ustr _ x y | .appz _ _ _ x y => x.uses ++ y.uses
  | .mset _ x y z | .mput x y z => x.uses ++ (y.uses ++ z.uses)
def usesG : Option (Nat × Bool) → List Nat
  | none => []
  | some (s, _) => [s]
def VI.gd : VI → Option (Nat × Bool)
  | .rd _ g _ | .ef _ g _ | .call _ g _ _ | .nx _ g _ | .dfr _ g _ _ | .rcv _ g | .bad _ g => g
def VI.ds : VI → Option Nat
  | .rd d _ _ | .nx d _ _ | .rcv d _ => some d
  | .ef d _ _ | .call d _ _ _ | .dfr d _ _ _ | .bad d _ => d
def VI.isEf : VI → Bool
  | .ef _ _ _ | .call _ _ _ _ => true
  | _ => false
def VI.uses : VI → List Nat
  | .rd _ g x => usesG g ++ x.uses
  | .ef _ g x => usesG g ++ x.uses
  | .call _ g f l | .dfr _ g f l => usesG g ++ (f.uses ++ usesL l)
  | .nx _ g x => usesG g ++ x.uses
  | .rcv _ g => usesG g
  | .bad _ g => usesG g

/-! ### what a region's edges must say -/
def cnt (l : List VI) (k : Nat) : Nat := (l.take k).countP VI.isEf
def ancRow (acc : List (List Nat)) (es : List Edge) : List Nat :=
  match es with
  | [] => []
  | e :: r => if Region.binds .any e then e.on :: (acc.getD e.on [] ++ (ancRow acc r).filter fun j => !(acc.getD e.on []).contains j) else ancRow acc r
def ancTab : List Oper → List (List Nat) → List (List Nat)
  | [], acc => acc
  | o :: r, acc => ancTab r (acc ++ [ancRow acc o.after.toList])
/-- a new variable, or a slice of one element, that may be laid ahead of what comes before it -/
def VI.isFl : VI → Bool
  | .ef (some _) none (.alloc _ _) => true
  | .ef (some _) none (.mkrow _ _ 1 _) => true
  | _ => false
/-- between how many effects each operation may come -/
def bnds (ops : Array Oper) (l : List VI) : List (Nat × Nat) :=
  let A := ancTab ops.toList []
  let es := (List.range l.length).filter fun e => match l[e]? with | some y => y.isEf | none => false
  (List.range l.length).map fun i =>
    (match es.find? fun e => !((A.getD i []).contains e) && !(decide (e = i)) with | some e => cnt l e | none => cnt l l.length,
     match es.find? fun e => (A.getD e []).contains i with | some e => cnt l e | none => cnt l l.length)
def okX (ops : Array Oper) (l : List VI) (b : List (Nat × Nat)) : Bool :=
  let A := ancTab ops.toList []
  let n := l.length
  (List.range n).all fun i => ((A.getD i []).all (fun j => decide (j < i)) && ((match ops[i]? with | some o => o.after.all (fun e => !Region.binds .any e || decide (e.on < i)) | none => true) && decide ((b.getD i (0, 0)).1 ≤ cnt l n))) &&
    (match l[i]? with
     | none => true
     | some x => (List.range n).all fun j => match l[j]? with
       | none => true
       | some y => (match y.ds with
           | none => true
           | some s => (decide (i = j) || !(x.ds == some s)) && (!(x.uses.contains s) || decide (i = j) || (A.getD i []).contains j || (A.getD j []).contains i)) &&
         ((!(x.isEf && y.isEf && decide (i < j)) || y.isFl || (A.getD j []).contains i) &&
          ((!(y.isFl && (A.getD i []).contains j) || (List.range j).all fun e => match l[e]? with | some z => !z.isEf || (A.getD i []).contains e | none => true) &&
          (!y.isEf || ((decide ((b.getD i (0, 0)).1 ≤ cnt l j) || (A.getD i []).contains j || decide (i = j)) && (!(decide (cnt l j = (b.getD i (0, 0)).2)) || (A.getD j []).contains i || decide (i = j)))))))

/-! ### the same operations in another order: a call, and what it waits for, come first -/
def permList (ops : Array Oper) (l : List VI) : List Nat :=
  match (List.range l.length).find? fun i => match l[i]? with | some x => x.isEf && !x.isFl | none => false with
  | some e =>
    let an := (ancTab ops.toList []).getD e []
    ((List.range ops.size).filter fun i => an.contains i || Nat.beq i e) ++ (List.range ops.size).filter fun i => !(an.contains i || Nat.beq i e)
  | none => List.range ops.size
def permInv (p : List Nat) : List Nat := (List.range p.length).map fun i => p.idxOf i
def permOper (q : List Nat) (o : Oper) : Oper := { o with after := o.after.map fun e => { e with on := q.getD e.on 0 }, guard := o.guard.map fun g => (q.getD g.1 0, g.2) }
def permOps (ops : Array Oper) (p q : List Nat) : Array Oper := (p.filterMap fun i => (ops[i]?).map (permOper q)).toArray
def permOk (ops : Array Oper) (p q : List Nat) : Bool :=
  Nat.beq p.length ops.size && (Nat.beq q.length ops.size &&
    (((List.range ops.size).all fun i => Nat.blt (q.getD i ops.size) ops.size && Nat.beq (p.getD (q.getD i ops.size) ops.size) i) &&
    (((List.range ops.size).all fun i => Nat.blt (p.getD i ops.size) ops.size && Nat.beq (q.getD (p.getD i ops.size) ops.size) i) &&
      ops.toList.all fun o => o.after.toList.all (fun e => Nat.blt e.on ops.size) && match o.guard with | some g => Nat.blt g.1 ops.size | none => true)))
/-- a region that draws its order, its operations in an order of our own -/
def compX (P : Program) (N : Nat) (ops : Array Oper) : Option (List VI) :=
  match compL P N ops ops.toList with
  | some l => if okX ops l (bnds ops l) = true then some l else
      let p := permList ops l
      let q := permInv p
      let ops2 := permOps ops p q
      if permOk ops p q = true then (match compL P N ops2 ops2.toList with
        | some l2 => if okX ops2 l2 (bnds ops2 l2) = true then some l2 else none
        | none => none) else none
  | none => none
def compXb (P : Program) (N : Nat) (ops : Array Oper) : List (Nat × Nat) :=
  match compL P N ops ops.toList with
  | some l => if okX ops l (bnds ops l) = true then bnds ops l else
      let p := permList ops l
      let q := permInv p
      let ops2 := permOps ops p q
      (match compL P N ops2 ops2.toList with
        | some l2 => bnds ops2 l2
        | none => [])
  | none => []

def compC (P : Program) (N : Nat) (K : Nat → Nat) : Code → Option VC
  | .skip => some .skip
  | .region id ops false => match compL P N ops ops.toList with | some l => some (.reg l (K id)) | none => none
  | .region id ops true => match compX P N ops with
    | some l => some (.dreg l (compXb P N ops) (K id))
    | none => none
  | .seq a b => match compC P N K a, compC P N K b with | some x, some y => some (.seq x y) | _, _ => none
  | .cond (.tmp s) a b => if s = dslot then none else match compC P N K a, compC P N K b with | some x, some y => some (.cond s x y) | _, _ => none
  | .cond (.const (.bool true)) a _ => compC P N K a
  | .cond (.const (.bool false)) _ b => compC P N K b
  | .block id a => match compC P N K a with | some x => some (.block id x) | none => none
  | .loop a => match compC P N K a with | some x => some (.loop x) | none => none
  | .exit id => some (.exit id)
  | .ret => some .ret
  | .scope a => match compC P N K a with | some x => some (.scope x) | none => none
  | .label _ => some .skip
  | .rangeFunc f ps a b => match compOd f, compC P N K a, compC P N K b with | some f, some x, some y => if ps.toList.all (fun s => decide (s < N)) = true then some (.rfunc f ps.toList x y) else none | _, _, _ => none
  | _ => some .bad
def compR (P : Program) : List ResultVar → Option (List RV)
  | [] => some []
  | .tmp s :: r => if s = dslot then none else match compR P r with | some l => some (.t s :: l) | none => none
  | .cell s t :: r => if s = dslot then none else match aggOf P t, compR P r with | some (n, b), some l => some (.c s n b :: l) | _, _ => none
end Go.Wm
