/- Texts as one: WmA WmB WmC. -/
import Derived.Calls
import Derived.Below
import Derived.Laws.World
import Derived.Laws.Sem
import Derived.Laws.Cells
import Derived.MapKept
import Derived.Laws.IdiomRangeMap
import Derived.Deep.Quiet
import Derived.StillTail
import Derived.KernelRfl
import Derived.CallsIn
import Derived.OrdersIn
import Derived.DefersIn
import Derived.RecoverIn
import Derived.RangeFuncIn
import Derived.RangeFuncLeaves
import Derived.TacticsIn
section
namespace Go.Wm
set_option linter.unusedSimpArgs false
set_option linter.unusedVariables false
open Go.RowKit
def GL:List Nat:=[0,1]
structure PA where
 blk:Nat
 idx:Nat
 off:Nat
inductive VV where
 |undef
 |bool (b:Bool)
 |int (k:IntKind) (n:Int)
 |str (s:List UInt8)
 |ptr (p:Option PA)
 |sl (p:Option PA) (len cap:Nat)
 |fn (f:FuncId) (caps:List VV)
 |nilFn
 |agg (cs:List VV)
 |tup (vs:List VV)
 |map (p:Option Nat)
 |nilI
 |yield (b:Nat)
 |ifc (t:TypeId) (v:VV)
 deriving Inhabited
def VV.cell:VV→Bool
 | .undef| .agg _| .tup _=>false
 |_=>true
def VV.cells:VV→List VV
 | .agg cs=>cs
 |v=>[v]
def VV.defd:VV→Bool
 | .undef=>false
 |_=>true
abbrev Fr:=List (Nat×VV)
def Fr.get:Fr→Nat→Option VV
 |[],_=>none
 |(k,v)::r,s=>bif Nat.beq k s then some v else Fr.get r s
def dslot:Nat:=1023
def Fr.filt:Fr→Nat→Fr
 |[],_=>[]
 |(k,v)::r,m=>bif Nat.beq (Nat.land (Nat.shiftRight m k) 1) 1 then (k,v)::Fr.filt r (Nat.xor m (Nat.shiftLeft 1 k)) else Fr.filt r m
def Fr.only (F:Fr) (m:Nat):Fr:=bif Nat.beq m 0 then F else Fr.filt F (Nat.lor m (Nat.shiftLeft 1 dslot))
inductive Od where
 |t (s:Nat)
 |c (v:VV)
 |mt (s:Nat) (tbl:List (Nat×Nat))
 |ri (s:Nat)
def tblGet:List (Nat×Nat)→Nat→Option Nat
 |[],_=>none
 |(k,f)::l,t=>bif Nat.beq k t then some f else tblGet l t
def Od.ev (E:Fr):Od→Option VV
 | .t s=>E.get s
 | .c v=>some v
 | .mt s tbl=>match E.get s with|some (.ifc ty _)=>(match tblGet tbl ty with|some f=>some (.fn f [])|none=>none)|_=>none
 | .ri s=>match E.get s with|some (.ifc _ v)=>some v|_=>none
def Od.evs (E:Fr):List Od→Option (List VV)
 |[]=>some []
 |x::r=>match x.ev E,Od.evs E r with|some v,some l=>some (v::l)|_,_=>none
def Od.oev (E:Fr) (d:Int):Option Od→Option Int
 |none=>some d
 |some x=>match x.ev E with|some (.int _ n)=>some n|_=>none
inductive KK where
 |int (k:IntKind)
 |str
 |bool
 |agg (ks:List Nat)
inductive VOp where
 |mv (x:Od)
 |pick (c a b:Od)
 |load (n:Nat) (ag:Bool) (x:Od)
 |nilck (x:Od)
 |bin (op:BinOp) (x y:Od)
 |sh (left:Bool) (x y:Od)
 |beq (neg:Bool) (x y:Od)
 |not (x:Od)
 |conv (k:IntKind) (x:Od)
 |mkfn (f:FuncId) (caps:List Od)
 |faddr (off:Nat) (x:Od)
 |fld (off n:Nat) (ag:Bool) (x:Od)
 |ixa (esz:Nat) (x i:Od)
 |ixar (len esz:Nat) (x i:Od)
 |lens (x:Od)
 |lent (x:Od)
 |lenm (x:Od)
 |min2 (x y:Od)
 |max2 (x y:Od)
 |ext (i:Nat) (x:Od)
 |build (zs:List VV) (ps:List (Nat×Nat×Od))
 |slc (esz:Nat) (x:Od) (lo hi mx:Option Od)
 |slstr (x:Od) (lo hi:Option Od)
 |ixs (x i:Od)
 |aeq (neg:Bool) (ks:List Nat) (x y:Od)
 |lkp (kk:KK) (zero:VV) (ok:Bool) (x k:Od)
 |ent (x:Od)
 |neq (kd:Nat) (neg:Bool) (x y:Od)
 |seq (op:BinOp) (x y:Od)
 |neg (x:Od)
 |chr (x:Od)
 |bstr (x:Od)
 |ixb (x y:Od)
 |mki (t:TypeId) (x:Od)
 |capm (x:Od)
 |s2a (n:Nat) (x:Od)
 |lda (n:Nat) (x:Od)
inductive VEf where
 |store (n:Nat) (x v:Od)
 |alloc (t:TypeId) (zs:List VV)
 |box (t:TypeId) (x:Od)
 |mkrow (t:TypeId) (zs:List VV) (m:Nat) (ps:List (Nat×Od))
 |mksl (t:TypeId) (bytes:Nat) (zs:List VV) (m c:Od)
 |app (t:TypeId) (z bytes:Nat) (s x:Od)
 |mkmap
 |mset (kk:KK) (x k v:Od)
 |rng (x:Od)
 |copy (z:Nat) (d s:Od)
 |ment (kk:KK) (zero:VV) (x k:Od)
 |mput (x s v:Od)
 |srng (x:Od)
 |snext (x:Od)
 |ustr (e:TypeId) (x n:Od)
 |appz (t:TypeId) (zs:List VV) (bytes:Nat) (s n:Od)
 |resl (m:Nat) (x:Od)
 |sbytes (x:Od)
inductive VI where
 |rd (d:Nat) (g:Option (Nat×Bool)) (x:VOp)
 |ef (d:Option Nat) (g:Option (Nat×Bool)) (x:VEf)
 |call (d:Option Nat) (g:Option (Nat×Bool)) (f:Od) (args:List Od)
 |nx (d:Nat) (g:Option (Nat×Bool)) (x:Od)
 |dfr (d:Option Nat) (g:Option (Nat×Bool)) (f:Od) (args:List Od)
 |rcv (d:Nat) (g:Option (Nat×Bool))
 |bad (d:Option Nat) (g:Option (Nat×Bool))
inductive VC where
 |skip
 |reg (l:List VI) (keep:Nat)
 |dreg (l:List VI) (b:List (Nat×Nat)) (keep:Nat)
 |seq (x y:VC)
 |cond (s:Nat) (x y:VC)
 |block (id:Nat) (x:VC)
 |loop (x:VC)
 |exit (id:Nat)
 |ret
 |scope (x:VC)
 |rfunc (f:Od) (ps:List Nat) (va vb:VC)
 |bad
 |dlm (a r:VC)
inductive RV where
 |t (s:Nat)
 |c (s n:Nat) (ag:Bool)
inductive VE where
 |normal
 |ret
 |exit (id:Nat)
def VE.to:VE→Exit
 | .normal=> .normal
 | .ret=> .ret
 | .exit i=> .exit i
inductive Mode where
 |ro|own|loose
 deriving DecidableEq,Inhabited
structure LoopR where
 st:Nat
 pend:Option VE
 f:FuncId
 n:Nat
 E:Fr
 ps:List Nat
 va:VC
 vb:VC
 db:Nat
inductive MOb where
 |map (es:List (VV×VV))
 |iter (m n:Nat) (seen:List Nat)
 |siter (s:List UInt8) (pos:Nat)
 |loop (r:LoopR)
 |defs (taken:Bool)
 |bytes (s:List UInt8)
inductive Blk where
 |dead
 |row (t:TypeId) (md:Mode) (es:List (List VV))
 |obj (o:MOb)
instance:Inhabited Blk:=⟨.dead⟩
abbrev Hp:=List Blk
abbrev Gt:=Nat→Option Blk
def constVV:Value→Option VV
 | .bool b=>some (.bool b)
 | .int k n=>some (.int k n)
 | .string s=>some (.str s.data.toList)
 | .pointer none=>some (.ptr none)
 | .slice none 0 0=>some (.sl none 0 0)
 | .map none=>some (.map none)
 | .nilFunc=>some .nilFn
 | .nilIface=>some .nilI
 |_=>none
def compOd:Operand→Option Od
 | .tmp t=>if t=dslot then none else some (.t t)
 | .const (.agg cs)=>(cs.toList.mapM constVV).map fun l=> .c (.agg l)
 | .const v=>(constVV v).map .c
 | .func f=>some (.c (.fn f []))
 | .global g=>(GL.idxOf? g).map fun i=> .c (.ptr (some ⟨i,0,0⟩))
def aggOf (P:Program) (t:TypeId):Option (Nat×Bool):=
 match P.info? t,P.underlying t with
 |some i,some u=>some (i.size,match u with| .struct _| .array _ _=>true|_=>false)
 |_,_=>none
def flatKinds (P:Program):Nat→List Field→Option (List Nat)
 |_,[]=>some []
 |i,f::fs=>if f.name≠ "_" ∧f.offset=i∧aggOf P f.type=some (1,false) then
  (match P.underlying f.type,flatKinds P (i+1) fs with
   |some (.int _),some l=>some (0::l)
   |some .bool,some l=>some (1::l)
   |some .string,some l=>some (2::l)
   |_,_=>none) else none
def flatStruct (P:Program) (t:TypeId):Option (List Nat):=
 match P.underlying t with
 |some (.struct fs)=>if P.stoodInHeld t=false∧P.eqGuardType P.depth t=false then flatKinds P 0 fs.toList else none
 |_=>none
def zerosOf (P:Program) (t:TypeId):Option (List VV):=
 match P.info? t with
 |some i=>match i.zero with|some z=>z.cells.toList.mapM constVV|none=>none
 |none=>none
def compParts (P:Program) (place:Nat→Option (Nat×Nat)):List (Nat×Operand)→Option (List (Nat×Nat×Od))
 |[]=>some []
 |(i,x)::r=>match place i,compOd x,compParts P place r with|some (o,n),some y,some l=>some ((o,n,y)::l)|_,_,_=>none
def structPlaces (P:Program) (fs:Array Field) (i:Nat):Option (Nat×Nat):=
 match fs[i]? with
 |some f=>match P.info? f.type with|some j=>some (f.offset,j.size)|none=>none
 |none=>none
def keyKind (P:Program) (t:TypeId):Option KK:=
 match P.underlying t with
 |some (.int k)=>some (.int k)
 |some .string=>some .str
 |some .bool=>some .bool
 |some (.struct _)=>(flatStruct P t).map .agg
 |_=>none
def zeroVV (P:Program) (t:TypeId):Option VV:=
 match P.info? t with
 |some i=>match i.zero with
  |some (.agg cs)=>(cs.toList.mapM constVV).map .agg
  |some z=>constVV z
  |none=>none
 |none=>none
def compO (x:Option Operand):Option (Option Od):=
 match x with|none=>some none|some y=>(compOd y).map some
def structField (P:Program) (t:TypeId) (f:Nat):Option Field:=
 match P.underlying t with
 |some (.struct fs)=>fs[f]?
 |_=>none
def bodyless (P:Program) (f:FuncId) (name:String):Bool:=
 match P.funcs[f]? with
 |some fn=>fn.body.isNone &&(fn.name==name &&(Extern.findNext fn).isNone)
 |none=>false
def bytesArr (P:Program) (t:TypeId):Bool:=
 match P.underlying t with
 |some (.array _ e)=>match P.underlying e,P.info? e with|some (.int .u8),some i=>Nat.beq i.size 1|_,_=>false
 |_=>false
def slArr (P:Program) (t:TypeId):Option (Nat×Nat):=
 match P.underlying t with
 |some (.array n e)=>some (n,e)
 |some (.pointer ar)=>match P.underlying ar with|some (.array n e)=>some (n,e)|_=>none
 |_=>none
def arrKinds (P:Program) (t:TypeId):Option (List Nat):=
 match P.underlying t with
 |some (.array n _)=>if bytesArr P t=true∧P.eqGuardType P.depth t=false then some (List.replicate n 0) else none
 |_=>none
def isConst:Operand→Bool
 | .const _=>true
 |_=>false
def compRead (P:Program):Op→Option VOp
 | .move x| .assign x=>(compOd x).map .mv
 | .pick c a b=>match compOd c,compOd a,compOd b with|some c,some a,some b=>some (.pick c a b)|_,_,_=>none
 | .load t x=>match aggOf P t,compOd x with|some (n,b),some x=>if bytesArr P t then some (.lda n x) else some (.load n b x)|_,_=>none
 | .nilCheck x=>(compOd x).map .nilck
 | .binOp op t x0 y0 _=>match compOd x0,compOd y0 with
   |some x,some y=>match P.underlying t,op with
    |some .bool,.eql=>some (.beq false x y)
    |some .bool,.neq=>some (.beq true x y)
    |some (.struct _),.eql=>match flatStruct P t with|some ks=>some (.aeq false ks x y)|none=>none
    |some (.struct _),.neq=>match flatStruct P t with|some ks=>some (.aeq true ks x y)|none=>none
    |some (.array _ _),.eql=>match arrKinds P t with|some ks=>some (.aeq false ks x y)|none=>none
    |some (.array _ _),.neq=>match arrKinds P t with|some ks=>some (.aeq true ks x y)|none=>none
    |some (.int _),.shl=>some (.sh true x y)
    |some (.int _),.shr=>some (.sh false x y)
    |some (.int _),op=>some (.bin op x y)
    |some .string,op=>some (.seq op x y)
    |some (.pointer e),.eql=>if ((P.info? e).map (·.size)).getD 0≠0 then some (.neq 0 false x y) else none
    |some (.slice _),.eql=>some (.neq 1 false x y)
    |some (.map _ _),.eql=>some (.neq 2 false x y)
    |some (.interface _),.eql=>if isConst y0=true then some (.neq 3 false x y) else none
    |some (.func _ _ _),.eql=>some (.neq 4 false x y)
    |some (.pointer e),.neq=>if ((P.info? e).map (·.size)).getD 0≠0 then some (.neq 0 true x y) else none
    |some (.slice _),.neq=>some (.neq 1 true x y)
    |some (.map _ _),.neq=>some (.neq 2 true x y)
    |some (.interface _),.neq=>if isConst y0=true then some (.neq 3 true x y) else none
    |some (.func _ _ _),.neq=>some (.neq 4 true x y)
    |_,_=>none
   |_,_=>none
 | .unOp .not _ x=>(compOd x).map .not
 | .unOp .neg _ x=>(compOd x).map .neg
 | .convert s d x=>match P.underlying s,P.underlying d,compOd x with
   |some (.int _),some (.int k),some x=>some (.conv k x)
   |some (.int _),some .string,some x=>some (.chr x)
   |some (.slice e),some .string,some x=>match P.underlying e with|some (.int .u8)=>some (.bstr x)|_=>none
   |_,_,_=>none
 | .makeFunc (.func f) first caps=>if first.size=0 then (match caps.toList.mapM compOd with|some l=>some (.mkfn f l)|none=>none) else none
 | .fieldAddr s x f=>match structField P s f,compOd x with
   |some g,some x=>match P.info? g.type with|some i=>if i.size=0 then none else some (.faddr g.offset x)|none=>none
   |_,_=>none
 | .field s x f=>match structField P s f,compOd x with
   |some g,some x=>match aggOf P g.type with|some (n,b)=>some (.fld g.offset n b x)|none=>none
   |_,_=>none
 | .indexAddr t x i=>match P.underlying t,compOd x,compOd i with
   |some (.slice e),some x,some i=>match P.info? e with|some j=>some (.ixa j.size x i)|none=>none
   |some (.array len e),some x,some i=>match P.info? e with|some j=>some (.ixar len j.size x i)|none=>none
   |_,_,_=>none
 | .extract x i=>(compOd x).map (.ext i)
 | .build t ps=>match zerosOf P t,P.underlying t with
   |some zs,some (.struct fs)=>if fs.all fun f=>(P.info? f.type).isSome then (match compParts P (structPlaces P fs) ps.toList with|some l=>some (.build zs l)|none=>none) else none
   |some zs,some (.array _ e)=>match P.info? e with
    |some j=>match compParts P (fun i=>some (i*j.size,j.size)) ps.toList with|some l=>some (.build zs l)|none=>none
    |none=>none
   |_,_=>none
 | .slice t x lo hi mx=>match P.underlying t,compOd x,compO lo,compO hi,compO mx with
   |some (.slice e),some x,some lo,some hi,some mx=>if mx.isSome &&hi.isNone then none else (match P.info? e with|some j=>some (.slc j.size x lo hi mx)|none=>none)
   |some .string,some x,some lo,some hi,some none=>some (.slstr x lo hi)
   |_,_,_,_,_=>none
 | .index t x i=>match P.underlying t,compOd x,compOd i with
   |some .string,some x,some i=>some (.ixs x i)
   |_,_,_=>none
 | .lookup t x k ok=>match P.underlying t,compOd x,compOd k with
   |some (.map kt et),some x,some k=>match keyKind P kt,zeroVV P et with
    |some kk,some z=>some (.lkp kk z ok x k)
    |_,_=>none
   |_,_,_=>none
 | .entry x=>(compOd x).map .ent
 | .call c=>match c.callee,c.args.toList,c.argTypes.toList with
   | .builtin .len,[x],[t]=>match P.underlying t,compOd x with
     |some (.slice _),some x=>some (.lens x)
     |some .string,some x=>some (.lent x)
     |some (.map _ _),some x=>some (.lenm x)
     |_,_=>none
   | .builtin .cap,[x],[t]=>match P.underlying t,compOd x with
     |some (.slice _),some x=>some (.capm x)
     |_,_=>none
   | .builtin .min,[x,y],_=>match compOd x,compOd y with|some x,some y=>some (.min2 x y)|_,_=>none
   | .builtin .max,[x,y],_=>match compOd x,compOd y with|some x,some y=>some (.max2 x y)|_,_=>none
   | .value (.func f),[x,y],_=>if bodyless P f "internal/bytealg.IndexByteString" =true then (match compOd x,compOd y with|some x,some y=>some (.ixb x y)|_,_=>none) else none
   |_,_,_=>none
 | .makeInterface t x=>match P.underlying t,compOd x with
   |some (.interface _),_=>none
   |some _,some x=>some (.mki t x)
   |_,_=>none
 | .sliceToArrayPointer t x=>match P.underlying t,compOd x with
   |some (.array n _),some x=>some (.s2a n x)
   |_,_=>none
 |_=>none
def okCells (l:List VV):Bool:=l.all VV.cell
def compRows (l:List (Nat×Operand)):Option (List (Nat×Od)):=
 match l with
 |[]=>some []
 |(i,x)::r=>match compOd x,compRows r with|some y,some l'=>some ((i,y)::l')|_,_=>none
def compEff (P:Program):Op→Option VEf
 | .store t x v=>match P.info? t,compOd x,compOd v with|some i,some x,some v=>some (.store i.size x v)|_,_,_=>none
 | .alloc t=>match zerosOf P t with|some zs=>if okCells zs then some (.alloc t zs) else none|none=>none
 | .box t x=>match compOd x with|some x=>some (.box t x)|none=>none
 | .buildSlice t len ps=>match P.underlying t with
   |some (.slice e)=>match zerosOf P e,P.info? e,compRows ps.toList with
    |some zs,some i,some l=>if okCells zs=true∧i.size=zs.length∧0<zs.length∧len*zs.length≤16777216 then some (.mkrow e zs len l) else none
    |_,_,_=>none
   |_=>none
 | .makeSlice t l c=>match P.underlying t with
   |some (.slice e)=>match zerosOf P e,P.info? e,compOd l,compOd c with
    |some zs,some i,some l,some c=>if okCells zs=true∧i.size=zs.length∧0<zs.length then some (.mksl e i.bytes zs l c) else none
    |_,_,_,_=>none
   |_=>none
 | .makeMap _ none=>some .mkmap
 | .mapUpdate t m k x| .insert t m k x=>match P.underlying t,compOd m,compOd k,compOd x with
   |some (.map kt _),some m,some k,some x=>match keyKind P kt with|some kk=>some (.mset kk m k x)|none=>none
   |_,_,_,_=>none
 | .mapEntry t m k=>match P.underlying t,compOd m,compOd k with
   |some (.map kt et),some m,some k=>match keyKind P kt,zeroVV P et with|some kk,some z=>some (.ment kk z m k)|_,_=>none
   |_,_,_=>none
 | .entryStore _ m s x=>match compOd m,compOd s,compOd x with
   |some m,some s,some x=>some (.mput m s x)
   |_,_,_=>none
 | .range t x=>match P.underlying t,compOd x with|some (.map _ _),some x=>some (.rng x)|some .string,some x=>some (.srng x)|_,_=>none
 | .next x true=>(compOd x).map .snext
 | .slice t x none none none=>match slArr P t,compOd x with
   |some (n,e),some x=>match P.info? e with|some i=>if i.size=1∧0<n then some (.resl n x) else none|none=>none
   |_,_=>none
 | .convert s d x=>match P.underlying s,P.underlying d,compOd x with
   |some .string,some (.slice e),some x=>match P.underlying e with|some (.int .u8)=>some (.sbytes x)|_=>none
   |_,_,_=>none
 | .call c=>match c.callee,c.args.toList,c.argTypes.toList with
   | .builtin .append,[s,x],[t,u]=>match P.underlying t,P.underlying u,compOd s,compOd x with
     |some (.slice e),some (.slice _),some s,some x|some (.slice e),some .string,some s,some x=>match P.info? e with
      |some i=>match i.zero with|some z=>if 0<i.size∧0<i.bytes∧z.cells.size=i.size then some (.app e i.size i.bytes s x) else none|none=>none
      |none=>none
     |some (.slice e),some (.int .i64),some s,some x=>match zerosOf P e,P.info? e with
      |some zs,some i=>if okCells zs=true∧i.size=zs.length∧0<zs.length∧0<i.bytes then some (.appz e zs i.bytes s x) else none
      |_,_=>none
     |_,_,_,_=>none
   | .builtin .copy,[d,s],[t,u]=>match P.underlying t,P.underlying u,compOd d,compOd s with
     |some (.slice e),some (.slice _),some d,some s|some (.slice e),some .string,some d,some s=>match P.info? e with|some i=>if 0<i.size then some (.copy i.size d s) else none|none=>none
     |_,_,_,_=>none
   | .builtin .unsafeString,[x,n],[t,_]=>match P.underlying t,compOd x,compOd n with|some (.pointer e),some x,some n=>if P.cellsOf e=1 then some (.ustr e x n) else none|_,_,_=>none
   |_,_,_=>none
 |_=>none
def compG (ops:Array Oper) (N:Nat):Option (Nat×Bool)→Option (Option (Nat×Bool))
 |none=>some none
 |some (j,b)=>match (ops[j]?).bind (·.dst) with|some s=>if s<N then some (some (s,b)) else none|none=>none
def dstOk (N:Nat):Option Nat→Bool
 |none=>true
 |some d=>decide (d<N)
def methF (P:Program) (t:TypeId) (name:String):Option FuncId:=
 match P.info? t with
 |some i=>match i.methods.find? (·.name==name) with
  |some m=>match m.path.toList,m.func,P.underlying t with
   |[],some (f,false),some (.pointer _)=>none
   |[],some (f,true),some (.pointer _)=>some f
   |[],some (f,false),some _=>some f
   |_,_,_=>none
  |none=>none
 |none=>none
def methTbl (P:Program) (name:String):Nat→List (Nat×Nat)
 |0=>[]
 |t+1=>match methF P t name with|some f=>(t,f)::methTbl P name t|none=>methTbl P name t
def compI (P:Program) (N:Nat) (ops:Array Oper) (o:Oper):Option VI:=
 match compG ops N o.guard with
 |none=>none
 |some g=>if dstOk N o.dst=false then none else
  match compRead P o.op,o.dst with
  |some x,some d=>some (.rd d g x)
  |some _,none=>none
  |none,_=>match compEff P o.op with
   |some x=>some (.ef o.dst g x)
   |none=>match o.op with
    | .call c=>match c.callee with
      | .value f=>match compOd f,c.args.toList.mapM compOd with
        |some f,some l=>some (.call o.dst g f l)
        |_,_=>some (.bad o.dst g)
      | .invoke (.tmp s) name=>if s=dslot then some (.bad o.dst g) else (match c.args.toList.mapM compOd with
        |some l=>some (.call o.dst g (.mt s (methTbl P name P.types.size)) (.ri s::l))
        |none=>some (.bad o.dst g))
      | .builtin .recover=>match o.dst with|some d=>some (.rcv d g)|none=>some (.bad o.dst g)
      |_=>some (.bad o.dst g)
    | .defer c=>match c.callee with
      | .value f=>match compOd f,c.args.toList.mapM compOd with
        |some f,some l=>some (.dfr o.dst g f l)
        |_,_=>some (.bad o.dst g)
      |_=>some (.bad o.dst g)
    | .next x false=>match compOd x,o.dst with|some x,some d=>some (.nx d g x)|_,_=>some (.bad o.dst g)
    |_=>some (.bad o.dst g)
def compL (P:Program) (N:Nat) (ops:Array Oper):List Oper→Option (List VI)
 |[]=>some []
 |o::r=>match compI P N ops o,compL P N ops r with|some x,some l=>some (x::l)|_,_=>none
def Od.uses:Od→List Nat
 | .t s| .mt s _| .ri s=>[s]
 | .c _=>[]
def usesL:List Od→List Nat
 |[]=>[]
 |x::l=>x.uses++usesL l
def usesO:Option Od→List Nat
 |none=>[]
 |some x=>x.uses
def usesP:List (Nat×Nat×Od)→List Nat
 |[]=>[]
 |(_,_,x)::l=>x.uses++usesP l
def usesR:List (Nat×Od)→List Nat
 |[]=>[]
 |(_,x)::l=>x.uses++usesR l
def VOp.uses:VOp→List Nat
 | .mv x| .load _ _ x| .nilck x| .not x| .conv _ x| .faddr _ x| .fld _ _ _ x| .lens x| .lent x| .lenm x| .ext _ x| .ent x| .neg x| .chr x| .bstr x| .mki _ x| .capm x| .s2a _ x| .lda _ x=>x.uses
 | .pick c a b=>c.uses++(a.uses++b.uses)
 | .bin _ x y| .sh _ x y| .beq _ x y| .ixa _ x y| .ixar _ _ x y| .min2 x y| .max2 x y| .ixs x y| .aeq _ _ x y| .lkp _ _ _ x y| .neq _ _ x y| .seq _ x y| .ixb x y=>x.uses++y.uses
 | .mkfn _ l=>usesL l
 | .build _ ps=>usesP ps
 | .slc _ x a b c=>x.uses++(usesO a++(usesO b++usesO c))
 | .slstr x a b=>x.uses++(usesO a++usesO b)
def VEf.uses:VEf→List Nat
 | .alloc _ _| .mkmap=>[]
 | .box _ x| .rng x| .srng x| .snext x| .resl _ x| .sbytes x=>x.uses
 | .mkrow _ _ _ ps=>usesR ps
 | .store _ x y| .mksl _ _ _ x y| .app _ _ _ x y| .copy _ x y| .ment _ _ x y| .ustr _ x y| .appz _ _ _ x y=>x.uses++y.uses
 | .mset _ x y z| .mput x y z=>x.uses++(y.uses++z.uses)
def usesG:Option (Nat×Bool)→List Nat
 |none=>[]
 |some (s,_)=>[s]
def VI.gd:VI→Option (Nat×Bool)
 | .rd _ g _| .ef _ g _| .call _ g _ _| .nx _ g _| .dfr _ g _ _| .rcv _ g| .bad _ g=>g
def VI.ds:VI→Option Nat
 | .rd d _ _| .nx d _ _| .rcv d _=>some d
 | .ef d _ _| .call d _ _ _| .dfr d _ _ _| .bad d _=>d
def VI.isEf:VI→Bool
 | .ef _ _ _| .call _ _ _ _=>true
 |_=>false
def VI.uses:VI→List Nat
 | .rd _ g x=>usesG g++x.uses
 | .ef _ g x=>usesG g++x.uses
 | .call _ g f l| .dfr _ g f l=>usesG g++(f.uses++usesL l)
 | .nx _ g x=>usesG g++x.uses
 | .rcv _ g=>usesG g
 | .bad _ g=>usesG g
def cnt (l:List VI) (k:Nat):Nat:=(l.take k).countP VI.isEf
def ancRow (acc:List (List Nat)) (es:List Edge):List Nat:=
 match es with
 |[]=>[]
 |e::r=>if Region.binds .any e then e.on::(acc.getD e.on []++(ancRow acc r).filter fun j=> !(acc.getD e.on []).contains j) else ancRow acc r
def ancTab:List Oper→List (List Nat)→List (List Nat)
 |[],acc=>acc
 |o::r,acc=>ancTab r (acc++[ancRow acc o.after.toList])
def VI.isFl:VI→Bool
 | .ef (some _) none (.alloc _ _)=>true
 | .ef (some _) none (.mkrow _ _ 1 _)=>true
 |_=>false
def bnds (ops:Array Oper) (l:List VI):List (Nat×Nat):=
 let A:=ancTab ops.toList []
 let es:=(List.range l.length).filter fun e=>match l[e]? with|some y=>y.isEf|none=>false
 (List.range l.length).map fun i=>
  (match es.find? fun e=> !((A.getD i []).contains e) && !(decide (e=i)) with|some e=>cnt l e|none=>cnt l l.length,
   match es.find? fun e=>(A.getD e []).contains i with|some e=>cnt l e|none=>cnt l l.length)
def okX (ops:Array Oper) (l:List VI) (b:List (Nat×Nat)):Bool:=
 let A:=ancTab ops.toList []
 let n:=l.length
 (List.range n).all fun i=>((A.getD i []).all (fun j=>decide (j<i)) &&((match ops[i]? with|some o=>o.after.all (fun e=> !Region.binds .any e||decide (e.on<i))|none=>true) &&decide ((b.getD i (0,0)).1≤cnt l n))) &&
  (match l[i]? with
   |none=>true
   |some x=>(List.range n).all fun j=>match l[j]? with
    |none=>true
    |some y=>(match y.ds with
     |none=>true
     |some s=>(decide (i=j)|| !(x.ds==some s)) &&(!(x.uses.contains s)||decide (i=j)||(A.getD i []).contains j||(A.getD j []).contains i)) &&
     ((!(x.isEf &&y.isEf &&decide (i<j))||y.isFl||(A.getD j []).contains i) &&
      ((!(y.isFl &&(A.getD i []).contains j)||(List.range j).all fun e=>match l[e]? with|some z=> !z.isEf||(A.getD i []).contains e|none=>true) &&
      (!y.isEf||((decide ((b.getD i (0,0)).1≤cnt l j)||(A.getD i []).contains j||decide (i=j)) &&(!(decide (cnt l j=(b.getD i (0,0)).2))||(A.getD j []).contains i||decide (i=j)))))))
def permList (ops:Array Oper) (l:List VI):List Nat:=
 match (List.range l.length).find? fun i=>match l[i]? with|some x=>x.isEf && !x.isFl|none=>false with
 |some e=>
  let an:=(ancTab ops.toList []).getD e []
  ((List.range ops.size).filter fun i=>an.contains i||Nat.beq i e)++(List.range ops.size).filter fun i=> !(an.contains i||Nat.beq i e)
 |none=>List.range ops.size
def permInv (p:List Nat):List Nat:=(List.range p.length).map fun i=>p.idxOf i
def permOper (q:List Nat) (o:Oper):Oper:={o with after:=o.after.map fun e=>{e with on:=q.getD e.on 0},guard:=o.guard.map fun g=>(q.getD g.1 0,g.2)}
def permOps (ops:Array Oper) (p q:List Nat):Array Oper:=(p.filterMap fun i=>(ops[i]?).map (permOper q)).toArray
def permOk (ops:Array Oper) (p q:List Nat):Bool:=
 Nat.beq p.length ops.size &&(Nat.beq q.length ops.size &&
  (((List.range ops.size).all fun i=>Nat.blt (q.getD i ops.size) ops.size &&Nat.beq (p.getD (q.getD i ops.size) ops.size) i) &&
  (((List.range ops.size).all fun i=>Nat.blt (p.getD i ops.size) ops.size &&Nat.beq (q.getD (p.getD i ops.size) ops.size) i) &&
    ops.toList.all fun o=>o.after.toList.all (fun e=>Nat.blt e.on ops.size) &&match o.guard with|some g=>Nat.blt g.1 ops.size|none=>true)))
def compX (P:Program) (N:Nat) (ops:Array Oper):Option (List VI):=
 match compL P N ops ops.toList with
 |some l=>if okX ops l (bnds ops l)=true then some l else
  let p:=permList ops l
  let q:=permInv p
  let ops2:=permOps ops p q
  if permOk ops p q=true then (match compL P N ops2 ops2.toList with
   |some l2=>if okX ops2 l2 (bnds ops2 l2)=true then some l2 else none
   |none=>none) else none
 |none=>none
def compXb (P:Program) (N:Nat) (ops:Array Oper):List (Nat×Nat):=
 match compL P N ops ops.toList with
 |some l=>if okX ops l (bnds ops l)=true then bnds ops l else
  let p:=permList ops l
  let q:=permInv p
  let ops2:=permOps ops p q
  (match compL P N ops2 ops2.toList with
   |some l2=>bnds ops2 l2
   |none=>[])
 |none=>[]
def compC (P:Program) (N:Nat) (K:Nat→Nat):Code→Option VC
 | .skip=>some .skip
 | .region id ops false=>match compL P N ops ops.toList with|some l=>some (.reg l (K id))|none=>none
 | .region id ops true=>match compX P N ops with
   |some l=>some (.dreg l (compXb P N ops) (K id))
   |none=>none
 | .seq a b=>match compC P N K a,compC P N K b with|some x,some y=>some (.seq x y)|_,_=>none
 | .cond (.tmp s) a b=>if s=dslot then none else match compC P N K a,compC P N K b with|some x,some y=>some (.cond s x y)|_,_=>none
 | .cond (.const (.bool true)) a _=>compC P N K a
 | .cond (.const (.bool false)) _ b=>compC P N K b
 | .block id a=>match compC P N K a with|some x=>some (.block id x)|none=>none
 | .loop a=>match compC P N K a with|some x=>some (.loop x)|none=>none
 | .exit id=>some (.exit id)
 | .ret=>some .ret
 | .scope a=>match compC P N K a with|some x=>some (.scope x)|none=>none
 | .label _=>some .skip
 | .rangeFunc f ps a b=>match compOd f,compC P N K a,compC P N K b with|some f,some x,some y=>if ps.toList.all (fun s=>decide (s<N))=true then some (.rfunc f ps.toList x y) else none|_,_,_=>none
 |_=>some .bad
def compR (P:Program):List ResultVar→Option (List RV)
 |[]=>some []
 | .tmp s::r=>if s=dslot then none else match compR P r with|some l=>some (.t s::l)|none=>none
 | .cell s t::r=>if s=dslot then none else match aggOf P t,compR P r with|some (n,b),some l=>some (.c s n b::l)|_,_=>none
end Go.Wm
end
section
namespace Go.Wm
set_option linter.unusedSimpArgs false
set_option linter.unusedVariables false
def ld (H:Gt) (p:PA):Option VV:=
 match H p.blk with
 |some (.row _ _ es)=>match es[p.idx]? with|some e=>e[p.off]? |none=>none
 |_=>none
def lds (H:Gt) (p:PA) (n:Nat):Option (List VV):=
 match H p.blk with
 |some (.row _ _ es)=>match es[p.idx]? with|some e=>if p.off+n≤e.length then some ((e.drop p.off).take n) else none|none=>none
 |_=>none
def padd (esz:Nat) (p:PA) (k s:Nat):PA:=if p.off=0∧esz=s then ⟨p.blk,p.idx+k,0⟩ else ⟨p.blk,p.idx,p.off+k*s⟩
def eszOf (H:Gt) (b:Nat):Option Nat:=
 match H b with
 |some (.row _ _ (e::_))=>some e.length
 |_=>none
def ixp (H:Gt) (p:PA) (k s:Nat):Option PA:=
 match eszOf H p.blk with
 |some z=>some (padd z p k s)
 |none=>none
def partOf (cs:List VV) (off n:Nat) (ag:Bool):Option VV:=
 if ag then (if off+n≤cs.length then some (.agg ((cs.drop off).take n)) else none) else cs[off]?
def modK:IntKind→Nat
 | .i8| .u8=>256
 | .i16| .u16=>65536
 | .i32| .u32=>4294967296
 | .i64| .u64=>18446744073709551616
def halfK:IntKind→Nat
 | .i8=>128
 | .i16=>32768
 | .i32=>2147483648
 | .i64=>9223372036854775808
 | .u8=>256
 | .u16=>65536
 | .u32=>4294967296
 | .u64=>18446744073709551616
def wrapK (k:IntKind):Int→Int
 | .ofNat m=>bif Nat.blt m (halfK k) then .ofNat m else (fun r=>bif Nat.blt r (halfK k) then .ofNat r else .negSucc (Nat.pred (Nat.sub (modK k) r))) (Nat.mod m (modK k))
 | .negSucc m=>bif Nat.blt m (Nat.sub (modK k) (halfK k)) then .negSucc m else k.wrap (.negSucc m)
def iadd:Int→Int→Int
 | .ofNat m,.ofNat n=> .ofNat (Nat.add m n)
 | .ofNat m,.negSucc n=>bif Nat.blt n m then .ofNat (Nat.sub m (Nat.succ n)) else .negSucc (Nat.sub n m)
 | .negSucc m,.ofNat n=>bif Nat.blt m n then .ofNat (Nat.sub n (Nat.succ m)) else .negSucc (Nat.sub m n)
 | .negSucc m,.negSucc n=> .negSucc (Nat.succ (Nat.add m n))
def ineg:Int→Int
 | .ofNat m=>bif Nat.beq m 0 then .ofNat 0 else .negSucc (Nat.pred m)
 | .negSucc m=> .ofNat (Nat.succ m)
def ilt:Int→Int→Bool
 | .ofNat m,.ofNat n=>Nat.blt m n
 | .ofNat _,.negSucc _=>false
 | .negSucc _,.ofNat _=>true
 | .negSucc m,.negSucc n=>Nat.blt n m
def ieq:Int→Int→Bool
 | .ofNat m,.ofNat n=>Nat.beq m n
 | .negSucc m,.negSucc n=>Nat.beq m n
 |_,_=>false
def iarith (op:BinOp) (k:IntKind) (x y:Int):Option VV:=
 match op with
 | .add=>some (.int k (wrapK k (iadd x y)))
 | .sub=>some (.int k (wrapK k (iadd x (ineg y))))
 | .mul=>some (.int k (wrapK k (x*y)))
 | .eql=>some (.bool (ieq x y))
 | .neq=>some (.bool (!(ieq x y)))
 | .lss=>some (.bool (ilt x y))
 | .leq=>some (.bool (!(ilt y x)))
 | .gtr=>some (.bool (ilt y x))
 | .geq=>some (.bool (!(ilt x y)))
 | .quo=>if y=0 then none else some (.int k (wrapK k (x.tdiv y)))
 | .rem=>if y=0 then none else some (.int k (x.tmod y))
 | .and=>some (.int k (wrapK k ((BitVec.ofInt k.bits x &&&BitVec.ofInt k.bits y).toNat:Nat)))
 | .or=>some (.int k (wrapK k ((BitVec.ofInt k.bits x|||BitVec.ofInt k.bits y).toNat:Nat)))
 | .xor=>some (.int k (wrapK k ((BitVec.ofInt k.bits x ^^^ BitVec.ofInt k.bits y).toNat:Nat)))
 | .andNot=>some (.int k (wrapK k ((BitVec.ofInt k.bits x &&&~~~(BitVec.ofInt k.bits y)).toNat:Nat)))
 |_=>none
def inRng:Int→Nat→Bool
 | .ofNat n,m=>Nat.blt n m
 |_,_=>false
def bin (op:BinOp) (x y:VV):Option VV:=
 match x,y with
 | .int k a,.int k' b=>if k=k' then iarith op k a b else none
 |_,_=>none
def strOp (op:BinOp) (a b:List UInt8):Option VV:=
 match op with
 | .add=>if a.length+b.length≤9223372036854775807 then some (.str (a++b)) else none
 | .eql=>some (.bool (a==b))
 | .neq=>some (.bool (!(a==b)))
 | .lss=>some (.bool (Op.bytesLess a b))
 | .leq=>some (.bool (Op.bytesLess a b||a==b))
 | .gtr=>some (.bool !(Op.bytesLess a b||a==b))
 | .geq=>some (.bool !(Op.bytesLess a b))
 |_=>none
def aeqK:List Nat→List VV→List VV→Option Bool
 |[],[],[]=>some true
 |0::ks,.int k x::l,.int k' y::m=>if k=k' then (match aeqK ks l m with|some b=>some ((x==y) &&b)|none=>none) else none
 |1::ks,.bool x::l,.bool y::m=>match aeqK ks l m with|some b=>some ((x==y) &&b)|none=>none
 |2::ks,.str x::l,.str y::m=>match aeqK ks l m with|some b=>some ((x==y) &&b)|none=>none
 |_,_,_=>none
def KK.is:KK→VV→Bool
 | .int k,.int k' _=>decide (k'=k)
 | .str,.str _=>true
 | .bool,.bool _=>true
 | .agg ks,.agg cs=>(aeqK ks cs cs).isSome
 |_,_=>false
def KK.same:VV→VV→Bool
 | .int _ a,.int _ b=>ieq a b
 | .str a,.str b=>a==b
 | .bool a,.bool b=>a==b
 |_,_=>false
def KK.cmp:KK→VV→VV→Option Bool
 | .agg ks,.agg cs,.agg ds=>aeqK ks cs ds
 | .agg _,_,_=>none
 |kk,k,e=>bif kk.is e then some (KK.same k e) else none
def findV (kk:KK) (k:VV):List (VV×VV)→Nat→Option (Option (Nat×VV))
 |[],_=>some none
 |e::es,i=>match kk.cmp k e.1 with
  |some true=>some (some (i,e.2))
  |some false=>findV kk k es (i+1)
  |none=>none
def mapOf (H:Gt):VV→Option (List (VV×VV))
 | .map none=>some []
 | .map (some b)=>match H b with|some (.obj (.map es))=>some es|_=>none
 |_=>none
def upd (e:List VV) (off:Nat):List VV→List VV
 |[]=>e
 |c::cs=>upd (e.set off c) (off+1) cs
def fillVV (E:Fr) (cs:List VV):List (Nat×Nat×Od)→Option (List VV)
 |[]=>some cs
 |(off,n,x)::r=>match x.ev E with
  |some v=>if v.cells.length=n∧v.defd=true∧off+n≤cs.length then fillVV E (upd cs off v.cells) r else none
  |none=>none
def slcV (H:Gt) (esz:Nat) (q:Option PA) (len cap:Nat) (l h m:Int) (three:Bool):Option VV:=
 if 0≤l∧l≤h∧h≤m∧m≤cap then
  match q with
  |none=>some (.sl none 0 0)
  |some p=>if cap=0 then some (.sl (some p) 0 0) else
   match H p.blk with
   |some (.row _ md (e::_))=>if md= .loose∧ ¬(p.off=0∧e.length=esz) then none else
    some (.sl (some (if l=0 then p else padd e.length p l.toNat esz)) (h-l).toNat (m-l).toNat)
   |_=>none
 else none
def roB:Mode→Bool
 | .ro=>true
 |_=>false
def neqV (H:Gt):Nat→VV→VV→Option Bool
 |0,.ptr none,.ptr q=>some q.isNone
 |0,.ptr (some _),.ptr none=>some false
 |0,.ptr (some p),.ptr (some q)=>if p.blk=q.blk∧p.idx=q.idx∧p.off=q.off then some true else if p.blk=q.blk then none else
  (match H p.blk,H q.blk with|some (.row _ m _),some (.row _ n _)=>if roB m=false∧roB n=false then some false else none|_,_=>none)
 |1,.sl none _ _,.sl q _ _=>some q.isNone
 |1,.sl (some _) _ _,.sl none _ _=>some false
 |2,.map none,.map q=>some q.isNone
 |2,.map (some _),.map none=>some false
 |3,.nilI,.nilI=>some true
 |4,.nilFn,.nilFn=>some true
 |4,.nilFn,.fn _ _=>some false
 |4,.fn _ _,.nilFn=>some false
 |_,_,_=>none
def bytesOf:List (List VV)→Option (List UInt8)
 |[]=>some []
 |[.int .u8 n]::r=>match bytesOf r with|some l=>some (UInt8.ofNat n.toNat::l)|none=>none
 |_=>none
def srcEls (H:Gt) (z:Nat):VV→Option (List (List VV))
 | .sl none 0 _=>some []
 | .sl (some p) len _=>if len=0 then some [] else
  match H p.blk with
  |some (.row _ _ (e::es))=>if p.off=0∧e.length=z∧p.idx+len≤es.length+1 then some (((e::es).drop p.idx).take len) else none
  |_=>none
 | .str s=>if z=1 then some (s.map fun b=>[.int .u8 b.toNat]) else none
 |_=>none
def idxOf8 (c:UInt8):List UInt8→Nat→Int
 |[],_=> -1
 |b::r,i=>if b=c then (i:Int) else idxOf8 c r (i+1)
def VOp.ev (E:Fr) (H:Gt):VOp→Option VV
 | .mv x=>x.ev E
 | .pick c a b=>match c.ev E with|some (.bool b')=>if b' then a.ev E else b.ev E|_=>none
 | .load n ag x=>match x.ev E with|some (.ptr (some p))=>if ag then (match lds H p n with|some l=>some (.agg l)|none=>none) else ld H p|_=>none
 | .nilck x=>match x.ev E with|some (.ptr (some p))=>some (.ptr (some p))|some (.fn f c)=>some (.fn f c)|some (.yield b)=>some (.yield b)|some (.ifc t v)=>some (.ifc t v)|_=>none
 | .bin op x y=>match x.ev E,y.ev E with|some u,some v=>Wm.bin op u v|_,_=>none
 | .sh left x y=>match x.ev E,y.ev E with
   |some (.int k a),some (.int _ b)=>if 0≤b then some (.int k (if left then wrapK k (a*((2 ^ (min b.toNat k.bits):Nat):Int)) else a.fdiv ((2 ^ (min b.toNat k.bits):Nat):Int))) else none
   |_,_=>none
 | .beq ng x y=>match x.ev E,y.ev E with|some (.bool b),some (.bool c)=>some (.bool (if ng then b !=c else b==c))|_,_=>none
 | .not x=>match x.ev E with|some (.bool b)=>some (.bool !b)|_=>none
 | .conv k x=>match x.ev E with|some (.int _ n)=>some (.int k (wrapK k n))|_=>none
 | .mkfn f caps=>match Od.evs E caps with|some l=>some (.fn f l)|none=>none
 | .faddr off x=>match x.ev E with|some (.ptr (some p))=>some (.ptr (some ⟨p.blk,p.idx,p.off+off⟩))|_=>none
 | .fld off n ag x=>match x.ev E with|some (.agg cs)=>partOf cs off n ag|_=>none
 | .ixa esz x i=>match x.ev E,i.ev E with
   |some (.sl (some p) m _),some (.int _ k)=>if inRng k m=true then (match ixp H p k.toNat esz with|some q=>some (.ptr (some q))|none=>none) else none
   |_,_=>none
 | .ixar m esz x i=>match x.ev E,i.ev E with
   |some (.ptr (some p)),some (.int _ k)=>if inRng k m=true then (match ixp H p k.toNat esz with|some q=>some (.ptr (some q))|none=>none) else none
   |_,_=>none
 | .lens x=>match x.ev E with|some (.sl _ m _)=>some (.int .i64 m)|_=>none
 | .lent x=>match x.ev E with|some (.str s)=>some (.int .i64 s.length)|_=>none
 | .lenm x=>match x.ev E with|some u=>(match mapOf H u with|some es=>some (.int .i64 es.length)|none=>none)|_=>none
 | .min2 x y=>match x.ev E,y.ev E with|some (.int k a),some (.int _ b)=>some (.int k (if b<a then b else a))|_,_=>none
 | .max2 x y=>match x.ev E,y.ev E with|some (.int k a),some (.int _ b)=>some (.int k (if b>a then b else a))|_,_=>none
 | .ext i x=>match x.ev E with|some (.tup vs)=>vs[i]? |_=>none
 | .build zs ps=>match fillVV E zs ps with|some cs=>some (.agg cs)|none=>none
 | .slc esz x lo hi mx=>match x.ev E with
   |some (.sl q m c)=>match Od.oev E 0 lo,Od.oev E m hi,Od.oev E c mx with
    |some l,some h,some k=>slcV H esz q m c l h k mx.isSome
    |_,_,_=>none
   |_=>none
 | .slstr x lo hi=>match x.ev E with
   |some (.str s)=>match Od.oev E 0 lo,Od.oev E s.length hi with
    |some l,some h=>if 0≤l∧l≤h∧h≤s.length then some (.str ((s.take h.toNat).drop l.toNat)) else none
    |_,_=>none
   |_=>none
 | .ixs x i=>match x.ev E,i.ev E with
   |some (.str s),some (.int _ k)=>if 0≤k then (match s[k.toNat]? with|some b=>some (.int .u8 b.toNat)|none=>none) else none
   |_,_=>none
 | .lkp kk z ok x k=>match x.ev E,k.ev E with
   |some u,some v=>match mapOf H u with
    |some es=>if kk.is v=true then (match findV kk v es 0 with
     |some (some (_,y))=>some (if ok then .tup [y,.bool true] else y)
     |some none=>some (if ok then .tup [z,.bool false] else z)
     |none=>none) else none
    |none=>none
   |_,_=>none
 | .ent x=>match x.ev E with
   |some (.ptr (some p))=>match H p.blk with
    |some (.obj (.iter m n seen))=>match seen.getLast?,H m with
     |some k,some (.obj (.map es))=>if es.length=n∧p.idx=0∧p.off=0 then (match es[k]? with|some e=>some (.tup [e.1,e.2])|none=>none) else none
     |_,_=>none
    |_=>none
   |_=>none
 | .aeq ng ks x y=>match x.ev E,y.ev E with
   |some (.agg cs),some (.agg ds)=>match aeqK ks cs ds with|some b=>some (.bool (if ng then !b else b))|none=>none
   |_,_=>none
 | .neq kd ng x y=>match x.ev E,y.ev E with
   |some u,some v=>match neqV H kd u v with|some b=>some (.bool (if ng then !b else b))|none=>none
   |_,_=>none
 | .seq op x y=>match x.ev E,y.ev E with
   |some (.str a),some (.str b)=>strOp op a b
   |_,_=>none
 | .neg x=>match x.ev E with|some (.int k n)=>some (.int k (wrapK k (ineg n)))|_=>none
 | .chr x=>match x.ev E with|some (.int _ n)=>if 0≤n∧n<128 then some (.str [UInt8.ofNat n.toNat]) else some (.str (Utf8.encode n).data.toList)|_=>none
 | .bstr x=>match x.ev E with
   |some (.sl q m c)=>match srcEls H 1 (.sl q m c) with
    |some l=>match bytesOf l with|some s=>some (.str s)|none=>none
    |none=>none
   |_=>none
 | .ixb x y=>match x.ev E,y.ev E with
   |some (.str s),some (.int .u8 c)=>some (.int .i64 (idxOf8 (UInt8.ofNat c.toNat) s 0))
   |_,_=>none
 | .mki t x=>match x.ev E with|some v=>some (.ifc t v)|none=>none
 | .capm x=>match x.ev E with
   |some (.sl none _ _)=>some (.int .i64 0)
   |some (.sl (some p) _ c)=>match H p.blk with
    |some (.row _ .ro _)|some (.row _ .own _)=>some (.int .i64 c)
    |_=>none
   |_=>none
 | .s2a n x=>match x.ev E with|some (.sl (some p) m _)=>if 0<n∧n≤m then some (.ptr (some p)) else none|_=>none
 | .lda n x=>match x.ev E with
   |some (.ptr (some p))=>match lds H p n with
    |some l=>some (.agg l)
    |none=>match H p.blk with
     |some (.obj (.bytes s))=>if p.idx=0∧p.off=0∧n≤s.length then some (.agg ((s.take n).map fun b=> .int .u8 b.toNat)) else none
     |_=>none
   |_=>none
abbrev Up:=List (Nat×Blk)
def stc (H:Gt) (p:PA) (cs:List VV):Option Up:=
 match H p.blk with
 |some (.row t md es)=>if md= .ro then none else
  match es[p.idx]? with
  |some e=>if p.off+cs.length≤e.length∧okCells cs=true then some [(p.blk,.row t md (es.set p.idx (upd e p.off cs)))] else none
  |none=>none
 |_=>none
def updRows (es:List (List VV)) (k:Nat):List (List VV)→List (List VV)
 |[]=>es
 |e::r=>updRows (es.set k e) (k+1) r
def fillRows (E:Fr) (z:Nat) (es:List (List VV)):List (Nat×Od)→Option (List (List VV))
 |[]=>some es
 |(i,x)::r=>match x.ev E with
  |some v=>if v.defd=true∧v.cells.length=z∧okCells v.cells=true∧i<es.length then fillRows E z (es.set i v.cells) r else none
  |none=>none
def appV (H:Gt) (n:Nat) (t:TypeId) (z bytes:Nat) (q:Option PA) (len cap:Nat) (news:List (List VV)):Option (VV×Up):=
 let need:=len+news.length
 if need≤cap then
  if news=[] then some (.sl q len cap,[]) else
  match q with
  |none=>none
  |some p=>match H p.blk with
   |some (.row t' md (e::es))=>if md≠ .ro∧p.off=0∧e.length=z∧p.idx+need≤es.length+1 then
    some (.sl (some p) need cap,[(p.blk,.row t' md (updRows (e::es) (p.idx+len) news))]) else none
   |_=>none
 else if need*bytes≤140737488355328∧need≤4611686018427387904 then
  match q with
  |none=>some (.sl (some ⟨n,0,0⟩) need need,[(n,.row t .loose news)])
  |some p=>match H p.blk,srcEls H z (.sl q len cap) with
   |some (.row t' md es),some olds=>
    if md= .loose then
     (if t'=t∧p.off=0∧es.head?.map List.length=some z then some (.sl (some ⟨n,0,0⟩) need need,[(p.blk,.dead),(n,.row t .loose (olds++news))]) else none)
    else some (.sl (some ⟨n,0,0⟩) need need,[(n,.row t .loose (olds++news))])
   |_,_=>none
 else none
def okBytes:List (List VV)→Bool
 |[]=>true
 |[.int .u8 n]::r=>inRng n 256 &&okBytes r
 |_=>false
def VEf.ev (E:Fr) (H:Gt) (n:Nat):VEf→Option (VV×Up)
 | .store m x v=>match x.ev E,v.ev E with
   |some (.ptr (some p)),some u=>if u.defd=true∧u.cells.length=m then (match stc H p u.cells with|some us=>some (.undef,us)|none=>none) else none
   |_,_=>none
 | .alloc t zs=>some (.ptr (some ⟨n,0,0⟩),[(n,.row t .own [zs])])
 | .box t x=>match x.ev E with
   |some u=>if u.defd=true∧okCells u.cells=true then some (.ptr (some ⟨n,0,0⟩),[(n,.row t .own [u.cells])]) else none
   |none=>none
 | .mkrow t zs m ps=>match fillRows E zs.length (List.replicate m zs) ps with
   |some es=>some (.sl (some ⟨n,0,0⟩) m m,[(n,.row t .own es)])
   |none=>none
 | .mksl t bytes zs m c=>match m.ev E,c.ev E with
   |some (.int .i64 l),some (.int .i64 k)=>if 0≤l∧l≤k∧(bytes:Int)*k≤281474976710656∧k≤4611686018427387904 then some (.sl (some ⟨n,0,0⟩) l.toNat k.toNat,[(n,.row t .own (List.replicate k.toNat zs))]) else none
   |_,_=>none
 | .app t z bytes s x=>match s.ev E,x.ev E with
   |some (.sl q len cap),some u=>match srcEls H z u with
    |some news=>appV H n t z bytes q len cap news
    |none=>none
   |_,_=>none
 | .mkmap=>some (.map (some n),[(n,.obj (.map []))])
 | .mset kk x k v=>match x.ev E,k.ev E,v.ev E with
   |some (.map (some b)),some kv,some u=>if kk.is kv=true then (match H b with
    |some (.obj (.map es))=>match findV kk kv es 0 with
     |some (some (i,_))=>some (.undef,[(b,.obj (.map (es.set i (kv,u))))])
     |some none=>some (.undef,[(b,.obj (.map (es++[(kv,u)])))])
     |none=>none
    |_=>none) else none
   |_,_,_=>none
 | .rng x=>match x.ev E with
   |some (.map (some b))=>match H b with
    |some (.obj (.map es))=>some (.ptr (some ⟨n,0,0⟩),[(n,.obj (.iter b es.length []))])
    |_=>none
   |_=>none
 | .copy z d s=>match d.ev E,s.ev E with
   |some (.sl q len cap),some u=>match srcEls H z u with
    |some els=>if els.length≤len then
     (match q with
     |none=>some (.int .i64 0,[])
     |some p=>match H p.blk with
      |some (.row t' md (e::es))=>if md≠ .ro∧p.off=0∧e.length=z∧p.idx+els.length≤es.length+1 then
       some (.int .i64 els.length,[(p.blk,.row t' md (updRows (e::es) p.idx els))]) else none
      |_=>none) else none
    |none=>none
   |_,_=>none
 | .ment kk z x k=>match x.ev E,k.ev E with
   |some (.map (some b)),some kv=>if kk.is kv=true then (match H b with
    |some (.obj (.map es))=>match findV kk kv es 0 with
     |some (some (i,v))=>some (.tup [v,.int .i64 i],[(b,.obj (.map (es.set i (kv,v))))])
     |some none=>some (.tup [z,.int .i64 es.length],[(b,.obj (.map (es++[(kv,z)])))])
     |none=>none
    |_=>none) else none
   |_,_=>none
 | .mput x s v=>match x.ev E,s.ev E,v.ev E with
   |some (.map (some b)),some (.int _ i),some u=>match H b with
    |some (.obj (.map es))=>if 0≤i then (match es[i.toNat]? with|some e=>some (.undef,[(b,.obj (.map (es.set i.toNat (e.1,u))))])|none=>none) else none
    |_=>none
   |_,_,_=>none
 | .srng x=>match x.ev E with
   |some (.str s)=>some (.ptr (some ⟨n,0,0⟩),[(n,.obj (.siter s 0))])
   |_=>none
 | .snext x=>match x.ev E with
   |some (.ptr (some p))=>match H p.blk with
    |some (.obj (.siter s pos))=>if p.idx=0∧p.off=0 then (match s[pos]? with
     |some b=>if b.toNat<128 then some (.tup [.bool true,.int .i64 pos,.int .i32 b.toNat],[(p.blk,.obj (.siter s (pos+1)))]) else some (.tup [.bool true,.int .i64 pos,.int .i32 (Utf8.decode ⟨s.toArray⟩ pos).1],[(p.blk,.obj (.siter s (pos+(Utf8.decode ⟨s.toArray⟩ pos).2)))])
     |none=>some (.tup [.bool false],[])) else none
    |_=>none
   |_=>none
 | .ustr e x m=>match x.ev E,m.ev E with
   |some (.ptr (some p)),some (.int .i64 k)=>if p.idx=0∧p.off=0∧0<k then (match H p.blk with
    |some (.row t .own es)=>if (es.length:Int)=k∧t=e∧k≤4611686018427387904∧okBytes es=true then (match bytesOf es with|some s=>some (.str s,[(p.blk,.dead)])|none=>none) else none
    |_=>none) else none
   |_,_=>none
 | .appz t zs bytes s m=>match s.ev E,m.ev E with
   |some (.sl none _ _),some (.int .i64 k)=>if 0<k∧k.toNat*bytes≤140737488355328∧k≤4611686018427387904 then some (.sl (some ⟨n,0,0⟩) k.toNat k.toNat,[(n,.row t .loose (List.replicate k.toNat zs))]) else none
   |_,_=>none
 | .resl m x=>match x.ev E with
   |some (.ptr (some p))=>if p.idx=0∧p.off=0 then (match H p.blk with
    |some (.row t .own [cs])=>if cs.length=m∧0<m then some (.sl (some ⟨n,0,0⟩) m m,[(p.blk,.dead),(n,.row t .own (cs.map fun c=>[c]))]) else none
    |_=>none) else none
   |_=>none
 | .sbytes x=>match x.ev E with
   |some (.str s)=>some (.sl (some ⟨n,0,0⟩) s.length s.length,[(n,.obj (.bytes s))])
   |_=>none
inductive Tree (α:Type) where
 |e
 |n (v:α) (l r:Tree α)
structure Tr where
 n:Nat
 t:Tree Blk
 j:List Nat
def want (E:Fr):Option (Nat×Bool)→Option Bool
 |none=>some true
 |some (s,b)=>match E.get s with|some (.bool c)=>some (c==b)|some (.tup [])=>some false|_=>none
def Fr.pt (E:Fr) (d:Option Nat) (v:VV):Fr:=match d with|some s=>(s,v)::E|none=>E
def Fr.defer (E:Fr) (v:VV):Fr:=match E.get dslot with
 |some (.tup l)=>(dslot,.tup (v::l))::E
 |_=>(dslot,.tup [v])::E
structure FRow where
 f:FuncId
 n:Nat
 vc:VC
 rs:List RV
def resL (F:Fr) (H:Gt):List RV→Option (List VV)
 |[]=>some []
 | .t s::r=>match F.get s,resL F H r with|some v,some l=>some (v::l)|_,_=>none
 | .c s n ag::r=>match (VOp.load n ag (.t s)).ev F H,resL F H r with|some v,some l=>some (v::l)|_,_=>none
def resV (F:Fr) (H:Gt) (l:List RV):Option VV:=
 match resL F H l with
 |some [v]=>some v
 |some vs=>some (.tup vs)
 |none=>none
def argsF:Nat→List VV→Fr
 |_,[]=>[]
 |k,v::r=>(k,v)::argsF (Nat.succ k) r
def zipF:List Nat→List VV→Fr→Option Fr
 |[],[],F=>some F
 |s::ps,v::vs,F=>zipF ps vs ((s,v)::F)
 |_,_,_=>none
end Go.Wm
end
section
namespace Go.Wm
set_option linter.unusedSimpArgs false
set_option linter.unusedVariables false
open Go.RowKit
structure Info where
 real:Nat
 base:Nat
 esz:Nat
 n:Nat
 room:Option Nat
abbrev Sg:=Nat→Option Info
def Sg.le (σ τ:Sg):Prop:= ∀i I,σ i=some I→τ i=some I
theorem Sg.le_refl (σ:Sg):σ.le σ:=fun _ _ h=>h
theorem Sg.le_trans {a b c:Sg} (h:a.le b) (k:b.le c):a.le c:=fun i I e=>k i I (h i I e)
def Sg.place (σ:Sg) (p:PA) (a:Addr):Prop:= ∃I,σ p.blk=some I∧a=⟨I.real,I.base+p.idx*I.esz+p.off,none⟩
def SlRel (σ:Sg) (p:PA) (len cap:Nat) (a:Addr) (cap':Nat):Prop:=
 len≤cap∧((σ.place p a∧cap'=cap)∨
  (∃I m,σ p.blk=some I∧I.room=some m∧p.off=0∧σ.place p a∧p.idx+cap=I.n∧p.idx+cap'=m∧cap≤cap')∨
  (cap=0∧cap'=0∧ ∃I,σ p.blk=some I))
mutual
inductive VRel (σ:Sg):VV→Value→Prop
 |undef (v:Value):VRel σ .undef v
 |bool (b:Bool):VRel σ (.bool b) (.bool b)
 |int (k:IntKind) (n:Int):VRel σ (.int k n) (.int k n)
 |str (s:List UInt8):VRel σ (.str s) (.string ⟨s.toArray⟩)
 |ptrNil:VRel σ (.ptr none) (.pointer none)
 |ptr {p:PA} {a:Addr} (h:σ.place p a):VRel σ (.ptr (some p)) (.pointer (some a))
 |slNil:VRel σ (.sl none 0 0) (.slice none 0 0)
 |sl {p:PA} {len cap:Nat} {a:Addr} {cap':Nat} (h:SlRel σ p len cap a cap'):VRel σ (.sl (some p) len cap) (.slice (some a) len cap')
 |fn {f:FuncId} {caps:List VV} {caps':Array Value} (h:LRel σ caps caps'.toList):VRel σ (.fn f caps) (.func (.func f) #[] caps')
 |nilFn:VRel σ .nilFn .nilFunc
 |agg {cs:List VV} {cs':Array Value} (h:LRel σ cs cs'.toList):VRel σ (.agg cs) (.agg cs')
 |tup {cs:List VV} {cs':Array Value} (h:LRel σ cs cs'.toList):VRel σ (.tup cs) (.tuple cs')
 |mapNil:VRel σ (.map none) (.map none)
 |map {b:Nat} {I:Info} (h:σ b=some I):VRel σ (.map (some b)) (.map (some I.real))
 |nilI:VRel σ .nilI .nilIface
 |yield {b:Nat} {I:Info} (h:σ b=some I):VRel σ (.yield b) (.func (.yield I.real) #[] #[])
 |ifc {t:TypeId} {v:VV} {v':Value} (h:VRel σ v v'):VRel σ (.ifc t v) (.iface t v')
inductive LRel (σ:Sg):List VV→List Value→Prop
 |nil:LRel σ [] []
 |cons {v:VV} {v':Value} {l:List VV} {l':List Value} (h:VRel σ v v') (t:LRel σ l l'):LRel σ (v::l) (v'::l')
end
theorem SlRel.mono {σ τ:Sg} (hl:σ.le τ) {p:PA} {len cap:Nat} {a:Addr} {cap':Nat} (h:SlRel σ p len cap a cap'):SlRel τ p len cap a cap':=by
 obtain ⟨h0,h⟩:=h
 refine ⟨h0,?_⟩
 rcases h with ⟨⟨I,h1,h2⟩,h3⟩|⟨I,m,h1,h2,h3,⟨J,h4,h5⟩,h6,h7,h8⟩|h
 ·exact .inl ⟨⟨I,hl _ _ h1,h2⟩,h3⟩
 ·exact .inr (.inl ⟨I,m,hl _ _ h1,h2,h3,⟨J,hl _ _ h4,h5⟩,h6,h7,h8⟩)
 ·exact .inr (.inr ⟨h.1,h.2.1,let ⟨I,e⟩:=h.2.2;⟨I,hl _ _ e⟩⟩)
mutual
theorem VRel.mono {σ τ:Sg} (hl:σ.le τ): ∀{v:VV} {v':Value},VRel σ v v'→VRel τ v v'
 |_,_,.undef v=> .undef v
 |_,_,.bool b=> .bool b
 |_,_,.int k n=> .int k n
 |_,_,.str s=> .str s
 |_,_,.ptrNil=> .ptrNil
 |_,_,.ptr h=> .ptr (let ⟨I,h1,h2⟩:=h;⟨I,hl _ _ h1,h2⟩)
 |_,_,.slNil=> .slNil
 |_,_,.sl h=> .sl (h.mono hl)
 |_,_,.fn h=> .fn (LRel.mono hl h)
 |_,_,.nilFn=> .nilFn
 |_,_,.agg h=> .agg (LRel.mono hl h)
 |_,_,.tup h=> .tup (LRel.mono hl h)
 |_,_,.mapNil=> .mapNil
 |_,_,.map h=> .map (hl _ _ h)
 |_,_,.nilI=> .nilI
 |_,_,.yield h=> .yield (hl _ _ h)
 |_,_,.ifc h=> .ifc (VRel.mono hl h)
theorem LRel.mono {σ τ:Sg} (hl:σ.le τ): ∀{v:List VV} {v':List Value},LRel σ v v'→LRel τ v v'
 |_,_,.nil=> .nil
 |_,_,.cons h t=> .cons (VRel.mono hl h) (LRel.mono hl t)
end
theorem LRel.length {σ:Sg}: ∀{l:List VV} {l':List Value},LRel σ l l'→l.length=l'.length
 |_,_,.nil=>rfl
 |_,_,.cons _ t=>by simp [LRel.length t]
theorem LRel.get {σ:Sg}: ∀{l:List VV} {l':List Value},LRel σ l l'→ ∀{i:Nat} {v:VV},l[i]? =some v→ ∃v',l'[i]? =some v'∧VRel σ v v'
 |_,_,.nil,i,v,h=>by simp at h
 |_,_,.cons h t,0,v,e=>by simp at e;subst e;exact ⟨_,by simp,h⟩
 |_,_,.cons h t,i+1,v,e=>by simp at e;obtain ⟨v',h1,h2⟩:=LRel.get t e;exact ⟨v',by simpa using h1,h2⟩
theorem LRel.of_get {σ:Sg}: ∀{l:List VV} {l':List Value},l.length=l'.length→(∀(i:Nat) v,l[i]? =some v→ ∃v',l'[i]? =some v'∧VRel σ v v')→LRel σ l l'
 |[],[],_,_=> .nil
 |v::l,v'::l',hl,h=> .cons (by obtain ⟨x,h1,h2⟩:=h 0 v (by simp);simp at h1;subst h1;exact h2)
   (LRel.of_get (by simpa using hl) fun i u hu=>by obtain ⟨x,h1,h2⟩:=h (i+1) u (by simpa using hu);exact ⟨x,by simpa using h1,h2⟩)
 |[],_::_,h,_=>by simp at h
 |_::_,[],h,_=>by simp at h
theorem LRel.append {σ:Sg}: ∀{l m:List VV} {l' m':List Value},LRel σ l l'→LRel σ m m'→LRel σ (l++m) (l'++m')
 |_,_,_,_,.nil,k=>k
 |_,_,_,_,.cons h t,k=> .cons h (LRel.append t k)
theorem VRel.oneCell {σ:Sg} {v:VV} {v':Value} (h:VRel σ v v') (hc:v.cell=true):v'.oneCell'=true:=by
 cases h<;>first|rfl|simp [VV.cell] at hc
def stOf:Nat→LoopState
 |0=> .ready
 |1=> .done
 |2=> .busy
 |_=> .exhausted
def pendOf:Option VE→Option Code
 |none=>none
 |some .normal=>some .skip
 |some .ret=>some .ret
 |some (.exit i)=>some (.exit i)
def LoopRel (P:Program) (σ:Sg) (r:LoopR) (R:Loop):Prop:=
 R.state=stOf r.st∧R.pending=pendOf r.pend∧R.params.toList=r.ps∧r.E.get dslot=none∧(∀s v,r.E.get s=some v→VRel σ v (R.tmps.getD s undef))∧
 (∃n,R.tmps.size=n∧n≤dslot∧(∀s∈r.ps,s<n)∧(∃K,compC P n K R.assign=some r.va)∧(∃K,compC P n K R.body=some r.vb))∧ ∃J,σ r.db=some J∧R.defers=J.real
def ObRel (P:Program) (σ:Sg):MOb→Obj→Prop
 | .map es,.map cur clk=>clk=es.length∧cur.size=es.length∧ ∀(k:Nat) e,es[k]? =some e→ ∃e',cur[k]? =some e'∧e'.born=k∧VRel σ e.1 e'.key∧VRel σ e.2 e'.val
 | .iter m n seen,.mapIter r since s st=>(∃J,σ m=some J∧r=some J.real)∧since=n∧st=n∧s.toList=seen
 | .siter s pos,.stringIter t q=>t.data.toList=s∧q=pos
 | .loop r,.loop R=>LoopRel P σ r R
 | .defs b,.deferred o=>o=if b then none else some []
 | .bytes s,.cells cur _ fr=>fr≠(0,0)∧ ∀(k:Nat) b,s[k]? =some b→cur[k]? =some (.int .u8 b.toNat)
 |_,_=>False
theorem LoopRel.mono {P:Program} {σ τ:Sg} (hl:σ.le τ) {r:LoopR} {R:Loop} (h:LoopRel P σ r R):LoopRel P τ r R:=
 let ⟨h1,h2,h3,h4,h5,h6,J,e,e'⟩:=h
 ⟨h1,h2,h3,h4,fun s v e=>(h5 s v e).mono hl,h6,J,hl _ _ e,e'⟩
theorem ObRel.mono {P:Program} {σ τ:Sg} (hl:σ.le τ) {o:MOb} {ho:Obj} (h:ObRel P σ o ho):ObRel P τ o ho:=by
 cases o<;>cases ho<;>simp only [ObRel] at h ⊢<;>try exact h
 ·obtain ⟨h1,h2,h3⟩:=h
  exact ⟨h1,h2,fun k e he=>let ⟨e',q1,q2,q3,q4⟩:=h3 k e he;⟨e',q1,q2,q3.mono hl,q4.mono hl⟩⟩
 ·obtain ⟨⟨J,h1,h2⟩,h3⟩:=h
  exact ⟨⟨J,hl _ _ h1,h2⟩,h3⟩
 ·exact h.mono hl
theorem ObRel.noCells {P:Program} {σ:Sg} {o:MOb} {cur:Array Value} {t:TypeId} (h:ObRel P σ o (.cells cur t (0,0))):False:=by
 cases o<;>simp [ObRel] at h
structure RowOk (σ:Sg) (B:Nat) (w:World) (i:Nat) (t:TypeId) (md:Mode) (es:List (List VV)) (I:Info):Prop where
 here:σ i=some I
 lt:I.real<w.heap.size
 len:es.length=I.n
 esz: ∀e∈es,e.length=I.esz
 cell: ∀k e j v,es[k]? =some e→e[j]? =some v→v.cell=true∧ ∃v',w.cell? ⟨I.real,I.base+k*I.esz+j,none⟩=some v'∧VRel σ v v'
 old:md= .ro→I.real<B∧I.room=none
 own:md≠ .ro→B≤I.real∧(md= .own→I.room=none∧I.base=0)∧(md= .loose→ ∃m,I.room=some m∧I.n≤m∧m≤9223372036854775807)∧
  ∃cur,w.heap[I.real]? =some (.cells cur t (0,0))∧cur.size=I.base+I.room.getD I.n*I.esz
def Gl (σ:Sg):Prop:= ∀i g,GL[i]? =some g→ ∃I,σ i=some I∧I.real=g∧I.base=0
theorem Gl.mono {σ τ:Sg} (hl:σ.le τ) (h:Gl σ):Gl τ:=fun i g e=>let ⟨I,h1,h2⟩:=h i g e;⟨I,hl _ _ h1,h2⟩
structure HRel (P:Program) (σ:Sg) (B:Nat) (H:Hp) (w:World):Prop where
 base:B≤w.heap.size
 dom: ∀i I,σ i=some I→i<H.length
 rows: ∀(i:Nat) t md es,H[i]? =some (Blk.row t md es)→ ∃I,RowOk σ B w i t md es I
 inj: ∀(i j:Nat) ti mi esi tj mj esj Ii Ij,H[i]? =some (Blk.row ti mi esi)→mi≠ .ro→H[j]? =some (Blk.row tj mj esj)→σ i=some Ii→σ j=some Ij→Ii.real=Ij.real→i=j
 objs: ∀(i:Nat) o,H[i]? =some (Blk.obj o)→ ∃I ho,σ i=some I∧B≤I.real∧I.base=0∧w.heap[I.real]? =some ho∧ObRel P σ o ho
 oinj: ∀(i j:Nat) o o' I J,H[i]? =some (Blk.obj o)→H[j]? =some (Blk.obj o')→σ i=some I→σ j=some J→I.real=J.real→i=j
 glob:Gl σ
 fit: ∀i I,σ i=some I→I.real<w.heap.size
def Fr.set:Fr→Nat→VV→Fr
 |[],s,v=>[(s,v)]
 |(k,u)::r,s,v=>if k=s then (s,v)::r else (k,u)::Fr.set r s v
inductive DItem (σ:Sg):VV→Deferred→Prop
 |call {f:FuncId} {caps args:List VV} {cap' arg':Array Value} (h:LRel σ caps cap'.toList) (h':LRel σ args arg'.toList):DItem σ (.tup (.fn f caps::args)) {target:= .fn (.func f) cap',args:=arg'}
 |mark {b:Nat} {I:Info} (h:σ b=some I):DItem σ (.map (some b)) {target:= .collected I.real,args:=#[]}
inductive DItems (σ:Sg):List VV→List Deferred→Prop
 |nil:DItems σ [] []
 |cons {v:VV} {d:Deferred} {l:List VV} {m:List Deferred} (h:DItem σ v d) (t:DItems σ l m):DItems σ (v::l) (d::m)
inductive DRel (σ:Sg):Option VV→List Deferred→Prop
 |none:DRel σ none []
 |some {l:List VV} {m:List Deferred} (h:DItems σ l m):DRel σ (some (.tup l)) m
theorem DItem.mono {σ τ:Sg} (hl:σ.le τ) {v:VV} {d:Deferred}:DItem σ v d→DItem τ v d
 | .call h h'=> .call (h.mono hl) (h'.mono hl)
 | .mark h=> .mark (hl _ _ h)
theorem DItems.mono {σ τ:Sg} (hl:σ.le τ): ∀{l:List VV} {m:List Deferred},DItems σ l m→DItems τ l m
 |_,_,.nil=> .nil
 |_,_,.cons h t=> .cons (h.mono hl) (DItems.mono hl t)
theorem DRel.mono {σ τ:Sg} (hl:σ.le τ) {o:Option VV} {m:List Deferred}:DRel σ o m→DRel τ o m
 | .none=> .none
 | .some h=> .some (h.mono hl)
def FRel (σ:Sg) (N:Nat) (F:Fr) (a:Act):Prop:=
 a.tmps.size=N∧(N≤dslot∧Gl σ)∧DRel σ (F.get dslot) a.defers∧ ∀s v,s≠dslot→F.get s=some v→VRel σ v (a.tmps.getD s undef)
theorem beq_of {k s:Nat} (h:k=s):Nat.beq k s=true:=by subst h;exact Nat.beq_refl k
theorem beq_of_ne {k s:Nat} (h:k≠s):Nat.beq k s=false:=by
 cases e:Nat.beq k s with
 |false=>rfl
 |true=>exact absurd (Nat.eq_of_beq_eq_true e) h
theorem Fr.get_cons (k:Nat) (v:VV) (F:Fr) (s:Nat):Fr.get ((k,v)::F) s=if k=s then some v else F.get s:=by
 simp only [Fr.get]
 by_cases h:k=s
 ·simp [beq_of h,h]
 ·simp [beq_of_ne h,h]
theorem Fr.get_filt: ∀(F:Fr) (m r:Nat) (v:VV),(Fr.filt F m).get r=some v→F.get r=some v∧Nat.testBit m r=true
 |[],m,r,v,h=>by simp [Fr.filt,Fr.get] at h
 |(k,u)::F,m,r,v,h=>by
  unfold Fr.filt at h
  have hb:Nat.beq (Nat.land (Nat.shiftRight m k) 1) 1=Nat.testBit m k:=by
   have e1:Nat.land (Nat.shiftRight m k) 1=(m>>>k) &&&1:=rfl
   rw [e1,Nat.and_one_is_mod,Nat.testBit_eq_decide_div_mod_eq,Nat.shiftRight_eq_div_pow]
   by_cases hx:m / 2 ^ k % 2=1
   ·rw [beq_of hx];simp [hx]
   ·rw [beq_of_ne hx];simp [hx]
  rw [hb] at h
  rw [Fr.get_cons]
  cases ht:Nat.testBit m k with
  |false=>
   rw [ht] at h
   obtain ⟨h1,h2⟩:=Fr.get_filt F m r v h
   have:k≠r:=by rintro rfl;rw [ht] at h2;cases h2
   rw [if_neg this]
   exact ⟨h1,h2⟩
  |true=>
   rw [ht] at h
   simp only [cond_true,Fr.get_cons] at h
   by_cases hk:k=r
   ·subst hk;simp at h;subst h;simp [ht]
   ·rw [if_neg hk] at h
    obtain ⟨h1,h2⟩:=Fr.get_filt F _ r v h
    rw [if_neg hk]
    refine ⟨h1,?_⟩
    have e2:Nat.xor m (Nat.shiftLeft 1 k)=m ^^^ (1<<<k):=rfl
    rw [e2,Nat.testBit_xor,Nat.one_shiftLeft,Nat.testBit_two_pow_of_ne hk] at h2
    simpa using h2
theorem Fr.filt_get: ∀(F:Fr) (m r:Nat) (v:VV),F.get r=some v→Nat.testBit m r=true→(Fr.filt F m).get r=some v
 |[],m,r,v,h,_=>by simp [Fr.get] at h
 |(k,u)::F,m,r,v,h,hm=>by
  unfold Fr.filt
  have hb:Nat.beq (Nat.land (Nat.shiftRight m k) 1) 1=Nat.testBit m k:=by
   have e1:Nat.land (Nat.shiftRight m k) 1=(m>>>k) &&&1:=rfl
   rw [e1,Nat.and_one_is_mod,Nat.testBit_eq_decide_div_mod_eq,Nat.shiftRight_eq_div_pow]
   by_cases hx:m / 2 ^ k % 2=1
   ·rw [beq_of hx];simp [hx]
   ·rw [beq_of_ne hx];simp [hx]
  rw [hb]
  rw [Fr.get_cons] at h
  by_cases hk:k=r
  ·subst hk
   rw [hm]
   simp only [cond_true,Fr.get_cons,if_true]
   simpa using h
  ·rw [if_neg hk] at h
   cases ht:Nat.testBit m k with
   |false=>exact Fr.filt_get F m r v h hm
   |true=>
    simp only [cond_true,Fr.get_cons]
    rw [if_neg hk]
    refine Fr.filt_get F _ r v h ?_
    have e2:Nat.xor m (Nat.shiftLeft 1 k)=m ^^^ (1<<<k):=rfl
    rw [e2,Nat.testBit_xor,Nat.one_shiftLeft,Nat.testBit_two_pow_of_ne hk,hm]
    rfl
theorem Fr.get_only (F:Fr) (m r:Nat) (v:VV) (h:(Fr.only F m).get r=some v):F.get r=some v:=by
 unfold Fr.only at h
 cases hm:Nat.beq m 0<;>rw [hm] at h
 ·exact (Fr.get_filt F _ r v h).1
 ·exact h
theorem Fr.only_dslot (F:Fr) (m:Nat):(Fr.only F m).get dslot=F.get dslot:=by
 unfold Fr.only
 cases hm:Nat.beq m 0
 ·simp only [cond_false]
  have hb:Nat.testBit (Nat.lor m (Nat.shiftLeft 1 dslot)) dslot=true:=by
   have e2:Nat.lor m (Nat.shiftLeft 1 dslot)=m|||(1<<<dslot):=rfl
   rw [e2,Nat.testBit_or,Nat.one_shiftLeft,Nat.testBit_two_pow_self];simp
  cases hd:Fr.get F dslot with
  |none=>
   cases he:(Fr.filt F (Nat.lor m (Nat.shiftLeft 1 dslot))).get dslot with
   |none=>rfl
   |some v=>rw [(Fr.get_filt F _ _ _ he).1] at hd;cases hd
  |some u=>exact Fr.filt_get F _ _ _ hd hb
 ·rfl
theorem FRel.mono {σ τ:Sg} (hl:σ.le τ) {N:Nat} {F:Fr} {a:Act} (h:FRel σ N F a):FRel τ N F a:=
 ⟨h.1,⟨h.2.1.1,h.2.1.2.mono hl⟩,h.2.2.1.mono hl,fun s v hs e=>(h.2.2.2 s v hs e).mono hl⟩
theorem FRel.only {σ:Sg} {N:Nat} {F:Fr} {a:Act} (h:FRel σ N F a) (l:Nat):FRel σ N (F.only l) a:=
 ⟨h.1,h.2.1,by rw [Fr.only_dslot];exact h.2.2.1,fun s v hs e=>h.2.2.2 s v hs (Fr.get_only F l s v e)⟩
theorem put_defers (a:Act) (d:Option Tmp) (v:Value):(a.put d v).defers=a.defers:=by cases d<;>rfl
theorem FRel.put {σ:Sg} {N:Nat} {F:Fr} {a:Act} (h:FRel σ N F a) {d:Nat} (hd:d<N) {v:VV} {v':Value} (hv:VRel σ v v'):FRel σ N ((d,v)::F) (a.put (some d) v'):=by
 refine ⟨by simp [Act.put,h.1],h.2.1,?_,fun s u hs e=> ?_⟩
 ·rw [put_defers,Fr.get_cons,if_neg (by have:=h.2.1.1;omega)];exact h.2.2.1
 simp only [Fr.get_cons] at e
 have hd':d<a.tmps.size:=by rw [h.1];exact hd
 by_cases hds:d=s
 ·subst hds
  simp at e
  subst e
  simpa [Act.put,hd'] using hv
 ·simp [hds] at e
  have:=h.2.2.2 s u hs e
  simpa [Act.put,Array.getD_eq_getD_getElem?,Array.getElem?_setIfInBounds,hds] using this
theorem FRel.sub {σ:Sg} {N:Nat} {F G:Fr} {a:Act} (h:FRel σ N F a) (hd:G.get dslot=F.get dslot) (hs: ∀s v,s≠dslot→G.get s=some v→F.get s=some v):FRel σ N G a:=
 ⟨h.1,h.2.1,by rw [hd];exact h.2.2.1,fun s v hn e=>h.2.2.2 s v hn (hs s v hn e)⟩
structure Mv (B:Nat) (σ τ:Sg) (w w':World):Prop where
 le:σ.le τ
 bl:Below B w w'
 out: ∀r,r<w.heap.size→(∀i I,σ i=some I→I.real≠r)→w'.heap[r]? =w.heap[r]?
 new: ∀i I,τ i=some I→(∃j J,σ j=some J∧J.real=I.real)∨w.heap.size≤I.real
theorem Mv.refl (B:Nat) (σ:Sg) (w:World):Mv B σ σ w w:=⟨Sg.le_refl _,Below.refl _ _,fun _ _ _=>rfl,fun i I h=> .inl ⟨i,I,h,rfl⟩⟩
theorem Mv.trans {B:Nat} {σ τ υ:Sg} {w w1 w2:World} (h:Mv B σ τ w w1) (k:Mv B τ υ w1 w2):Mv B σ υ w w2:=by
 refine ⟨Sg.le_trans h.le k.le,h.bl.trans k.bl,fun r hr hn=> ?_,fun i I hi=> ?_⟩
 ·rw [k.out r (Nat.lt_of_lt_of_le hr h.bl.size) fun i I hi=> ?_,h.out r hr hn]
  rcases h.new i I hi with ⟨j,J,h1,h2⟩|h1
  ·rw [←h2];exact hn j J h1
  ·omega
 ·rcases k.new i I hi with ⟨j,J,h1,h2⟩|h1
  ·rw [←h2];exact h.new j J h1
  ·exact .inr (Nat.le_trans h.bl.size h1)
theorem Mv.same {B:Nat} {σ:Sg} {w w':World} (hb:Below B w w') (h:w'.heap=w.heap):Mv B σ σ w w':=⟨Sg.le_refl _,hb,fun r _ _=>by rw [h],fun i I h=> .inl ⟨i,I,h,rfl⟩⟩
end Go.Wm
end
