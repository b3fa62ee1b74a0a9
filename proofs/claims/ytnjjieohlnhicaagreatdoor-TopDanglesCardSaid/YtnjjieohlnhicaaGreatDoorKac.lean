/- Texts as one: WmE WmF WmG WmH. -/
import Derived.Test.YtnjjieohlnhicaaGreatDoorKab
import Derived.ChangeKeysEq
import Derived.Laws.Externs
import Derived.Laws.Append
import Derived.Laws.CopyRow
section
namespace Go.Wm
set_option linter.unusedSimpArgs false
set_option linter.unusedVariables false
open Go.RowKit
section
variable {P:Program} {σ:Sg} {B N:Nat} {H:Hp} {w:World} {a:Act} {E:Fr} {o:Oper} {v:VV}
theorem read_lenm {c:Call} {x:Operand} {y:Od} {t k e:TypeId} (ho:o.op= .call c) (hc:c.callee= .builtin .len) (ha:c.args.toList=[x]) (hta:c.argTypes.toList=[t]) (ht:P.underlying t=some (.map k e)) (hx:compOd x=some y)
 (hH:HRel P σ B H w) (hF:FRel σ N E a) (he:(VOp.lenm y).ev E H.g=some v):ReadOk P σ w a o v:=by
 obtain ⟨ha',hta'⟩:=one_arg ha hta
 simp only [VOp.ev] at he
 cases h1:y.ev E with
 |none=>simp [h1] at he
 |some u=>
  simp only [h1] at he
  have r1:=compOd_ok hx hF h1
  cases hm:mapOf H.g u with
  |none=>simp [hm] at he
  |some es=>
   simp [hm] at he
   subst he
   cases u<;>simp [mapOf] at hm
   rename_i p
   rcases map_inv r1 with ⟨rfl,e1⟩|⟨b,I,rfl,hI,e1⟩
   ·simp at hm;subst hm
    exact .of (.int _ _) fun w2 _=>by simp [execOp,ho,resolve,hc,ha',invoke,builtin,Builtin.len_,hta',e1,underlying,ht,goInt]
   ·simp only at hm
    split at hm
    case h_2=>cases hm
    rename_i es' hb
    simp at hm;subst hm
    obtain ⟨_,hlt,cur,hcu,hent,_⟩:=obj_at hH hb hI
    refine .of (.int _ _) fun w2 hw2=> ?_
    have hc2:w2.heap[I.real]? =some (.map cur es'.length):=by rw [hw2.block _ hlt];exact hcu
    have hsz:cur.size=es'.length:=by have:=hent.1;simpa using this.symm
    simp [execOp,ho,resolve,hc,ha',invoke,builtin,Builtin.len_,hta',e1,underlying,ht,goInt,MapKept.run_getObj_map hc2,Result.andThen,hsz]
theorem read_neg {t:TypeId} {x:Operand} {y:Od} (ho:o.op= .unOp .neg t x) (hx:compOd x=some y)
 (hF:FRel σ N E a) (he:(VOp.neg y).ev E H.g=some v):ReadOk P σ w a o v:=by
 simp only [VOp.ev] at he
 cases h1:y.ev E with
 |none=>simp [h1] at he
 |some u=>
  have hu:=compOd_ok hx hF h1
  cases u<;>simp [h1] at he
  subst he
  have e1:=int_inv hu
  exact .of (.int _ _) fun w2 _=>by simp [execOp,ho,e1,Op.unary,Op.intArith,wrapK_eq,ineg_eq]
theorem read_mki {t:TypeId} {d:TypeDesc} {x:Operand} {y:Od} (ho:o.op= .makeInterface t x) (ht:P.underlying t=some d) (hd: ∀ms,d= .interface ms→False) (hx:compOd x=some y)
 (hF:FRel σ N E a) (he:(VOp.mki t y).ev E H.g=some v):ReadOk P σ w a o v:=by
 simp only [VOp.ev] at he
 cases h1:y.ev E with
 |none=>simp [h1] at he
 |some u=>
  simp [h1] at he
  subst he
  have r1:=compOd_ok hx hF h1
  refine .of (.ifc r1) fun w2 _=> ?_
  have hm:(Instr.makeInterface t (a.eval x)).run P w2= .ok (.iface t (a.eval x)) w2:=by
   simp only [Instr.makeInterface,underlying,Sem.run_bind,run_program,ht,Result.andThen_ok]
   cases d<;>first|rfl|exact (hd _ rfl).elim
  simp [execOp,ho,hm]
theorem read_capm {c:Call} {x:Operand} {y:Od} {t e:TypeId} (ho:o.op= .call c) (hc:c.callee= .builtin .cap) (ha:c.args.toList=[x]) (hta:c.argTypes.toList=[t]) (ht:P.underlying t=some (.slice e)) (hx:compOd x=some y)
 (hH:HRel P σ B H w) (hF:FRel σ N E a) (he:(VOp.capm y).ev E H.g=some v):ReadOk P σ w a o v:=by
 obtain ⟨ha',hta'⟩:=one_arg ha hta
 simp only [VOp.ev] at he
 have fin: ∀(ad:Option Addr) (m c:Nat),a.eval x= .slice ad m c→v= .int .i64 c→ReadOk P σ w a o v:=fun ad m c e1 e2=>by
  subst e2
  refine .of (.int _ _) fun w2 _=> ?_
  simp [execOp,ho,resolve,hc,ha',invoke,builtin,Builtin.cap_,hta',e1,underlying,ht,goInt]
 split at he
 ·rename_i h1
  have r1:=compOd_ok hx hF h1
  generalize hq:a.eval x=q at r1
  cases r1
  cases he
  exact fin _ _ _ hq rfl
 ·rename_i p m c h1
  have r1:=compOd_ok hx hF h1
  obtain ⟨ad,c',e1,hsl⟩:=sl_inv r1
  have key: ∀(t:TypeId) (md:Mode) (es:List (List VV)),H.g p.blk=some (.row t md es)→md≠ .loose→c'=c:=fun t md es hb hm=>by
   obtain ⟨I,hR⟩:=hH.rows _ _ _ _ hb
   obtain ⟨_,h⟩:=hsl
   rcases h with ⟨_,h⟩|⟨J,n,hJ,hn,_⟩|⟨h2,h3,_⟩
   ·exact h
   ·have eI:I=J:=Option.some.inj (hR.here.symm.trans hJ)
    subst eI
    cases md with
    |ro=>rw [(hR.old rfl).2] at hn;cases hn
    |own=>rw [((hR.own (by simp)).2.1 rfl).1] at hn;cases hn
    |loose=>exact absurd rfl hm
   ·omega
  split at he
  ·rename_i t es hb
   cases he
   exact fin _ _ _ e1 (by rw [key _ _ _ hb (by simp)])
  ·rename_i t es hb
   cases he
   exact fin _ _ _ e1 (by rw [key _ _ _ hb (by simp)])
  ·cases he
 ·cases he
theorem read_chr {s d:TypeId} {x:Operand} {y:Od} {k':IntKind} (ho:o.op= .convert s d x) (hs:P.underlying s=some (.int k')) (hd:P.underlying d=some .string) (hx:compOd x=some y)
 (hF:FRel σ N E a) (he:(VOp.chr y).ev E H.g=some v):ReadOk P σ w a o v:=by
 simp only [VOp.ev] at he
 cases h1:y.ev E with
 |none=>simp [h1] at he
 |some u=>
  have hu:=compOd_ok hx hF h1
  cases u<;>simp [h1] at he
  rename_i k n
  have e1:=int_inv hu
  have e2: ∀w2,(execOp a.eval o).run P w2= .ok (.value (.string (Utf8.encode n))) w2:=fun w2=>by
   simp [execOp,ho,e1,Go.convert,underlying,hs,hd,Conv.intToString]
  have e3:v= .str (Utf8.encode n).data.toList:=by
   split at he
   ·rename_i h
    obtain ⟨h0,h2⟩:=h
    simp at he
    subst he
    have hv:Utf8.valid n=true:=by simp [Utf8.valid];omega
    have hlt:n.toNat<128:=by omega
    simp [Utf8.encode,hv,hlt]
   ·simp at he;exact he.symm
  subst e3
  exact .of (.str _) fun w2 _=>e2 w2
structure Flat (σ:Sg) (z:Nat) (es:List (List VV)) (cur:Array Value):Prop where
 size:es.length*z≤cur.size
 esz: ∀e∈es,e.length=z
 cell: ∀(k:Nat) e (j:Nat) v,es[k]? =some e→e[j]? =some v→v.cell=true∧ ∃v',cur[k*z+j]? =some v'∧VRel σ v v'
structure SrcOk (P:Program) (σ:Sg) (w:World) (z:Nat) (news:List (List VV)) (x:Value) (cs:List Value):Prop where
 flat:Flat σ z news cs.toArray
 len:cs.length=news.length*z
 one: ∀u∈cs,u.oneCell'=true
 lenOf: ∀w2,(Builtin.lenOf x).run P w2= .ok news.length w2
 first: ∀w2,Below w.heap.size w w2→(Builtin.firstCells z news.length x).run P w2= .ok cs.toArray w2
 here: ∀ad m c,x= .slice (some ad) m c→ ∀(q:Nat) u,cs[q]? =some u→w.cell? (ad.add q)=some u
theorem flat_nil (z:Nat):Flat σ z [] #[]:=⟨by simp,by simp,by simp⟩
theorem src_ok (hH:HRel P σ B H w) {z:Nat} (hz:0<z) {u:VV} {u':Value} (hu:VRel σ u u') {news:List (List VV)} (hs:srcEls H.g z u=some news): ∃cs,SrcOk P σ w z news u' cs:=by
 unfold srcEls at hs
 split at hs
 ·simp at hs;subst hs
  cases hu
  exact ⟨[],flat_nil z,by simp,by simp,fun w2=>by simp [Builtin.lenOf],fun w2 _=>by simp [Builtin.firstCells],by simp⟩
 ·rename_i p len cap
  obtain ⟨ad,c',e1,hsl⟩:=sl_inv hu
  subst e1
  split at hs
  ·rename_i h0
   simp at hs;subst hs;subst h0
   exact ⟨[],flat_nil z,by simp,by simp,fun w2=>by simp [Builtin.lenOf],fun w2 _=>by simp [Builtin.firstCells,loadCells,loadCellsFrom],by simp⟩
  ·rename_i h0
   split at hs
   case h_2=>cases hs
   rename_i t md e es hb
   split at hs
   case isFalse=>cases hs
   rename_i hc
   obtain ⟨hoff,hez,hfit⟩:=hc
   simp at hs
   obtain ⟨I,hR⟩:=hH.rows _ _ _ _ hb
   obtain ⟨J,hJ,had⟩:=hsl.placed (by omega)
   have eI:I=J:=Option.some.inj (hR.here.symm.trans hJ)
   subst eI
   have hIz:I.esz=z:=by rw [←hez];exact (hR.esz e (by simp)).symm
   have hnl:news.length=len:=by rw [←hs];simp;omega
   have hget: ∀k:Nat,k<len→news[k]? =(e::es)[p.idx+k]? :=fun k hk=>by
    rw [←hs,List.getElem?_take,if_pos hk,List.getElem?_drop]
   have hcell: ∀(k:Nat) e2 (j:Nat) v,news[k]? =some e2→e2[j]? =some v→v.cell=true∧ ∃v',w.cell? (ad.add (k*z+j))=some v'∧VRel σ v v':=by
    intro k e2 j v hk hj
    have hkl:k<len:=by rw [←hnl];exact (List.getElem?_eq_some_iff.1 hk).1
    rw [hget k hkl] at hk
    obtain ⟨q0,v',q1,q2⟩:=hR.cell _ _ _ _ hk hj
    refine ⟨q0,v',?_,q2⟩
    rw [←q1,had,hIz]
    have:(I.base+p.idx*z+p.off+(k*z+j))=I.base+(p.idx+k)*z+j:=by rw [Nat.add_mul,hoff];omega
    unfold Addr.add
    split
    ·rename_i h0;rw [h0] at this;simp at this;simp [this]
    ·simp [this]
   have hesz: ∀e2∈news,e2.length=z:=fun e2 he2=>by
    obtain ⟨k,hk⟩:=List.getElem?_of_mem he2
    have hkl:k<len:=by rw [←hnl];exact (List.getElem?_eq_some_iff.1 hk).1
    rw [hget k hkl] at hk
    rw [←hIz];exact hR.esz e2 (List.mem_of_getElem? hk)
   let f:Nat→Value:=fun q=>(w.cell? (ad.add q)).getD undef
   have hall: ∀q,q<len*z→ ∃v v',w.cell? (ad.add q)=some v'∧VRel σ v v'∧v.cell=true:=by
    intro q hq
    have hk:q / z<len:=Nat.div_lt_of_lt_mul (by rw [Nat.mul_comm];exact hq)
    have hj:q % z<z:=Nat.mod_lt _ hz
    have hk':q / z<news.length:=by omega
    have hj':q % z<news[q / z].length:=by rw [hesz _ (List.getElem_mem hk')];exact hj
    obtain ⟨q0,v',q1,q2⟩:=hcell (q / z) news[q / z] (q % z) news[q / z][q % z] (List.getElem?_eq_getElem hk') (List.getElem?_eq_getElem hj')
    rw [show q / z*z+q % z=q by rw [Nat.mul_comm];exact Nat.div_add_mod q z] at q1
    exact ⟨_,v',q1,q2,q0⟩
   refine ⟨(List.range (len*z)).map f,⟨by simp [hnl],hesz,fun k e2 j v hk hj=> ?_⟩,by simp [hnl],?_,fun w2=>by simp [Builtin.lenOf,hnl],fun w2 hw2=> ?_,fun ad' m' c'' hx q u hq=> ?_⟩
   ·obtain ⟨q0,v',q1,q2⟩:=hcell k e2 j v hk hj
    refine ⟨q0,v',?_,q2⟩
    have hkl:k<len:=by rw [←hnl];exact (List.getElem?_eq_some_iff.1 hk).1
    have hjz:j<z:=by rw [←hesz e2 (List.mem_of_getElem? hk)];exact (List.getElem?_eq_some_iff.1 hj).1
    have hlt:k*z+j<len*z:=by
     have:(k+1)*z≤len*z:=Nat.mul_le_mul_right _ hkl
     rw [Nat.add_mul] at this;omega
    simp [hlt,f,q1]
   ·intro u hu
    obtain ⟨q,hq,rfl⟩:=List.mem_map.1 hu
    obtain ⟨v,v',q1,q2,q0⟩:=hall q (by simpa using hq)
    simp [f,q1]
    exact q2.oneCell q0
   ·have hr:=hR.lt
    have h3:=run_loadCells (P:=P) w2 ad (len*z) f (fun q hq=>by
     obtain ⟨v,v',q1,_⟩:=hall q hq
     rw [hw2.cell (p:=ad.add q) (by rw [had];unfold Addr.add;split<;>exact hr),q1]
     simp [f,q1])
    simp only [Builtin.firstCells,hnl,h3]
   ·obtain ⟨rfl,_,_⟩:ad=ad'∧len=m'∧c'=c'':=by simpa using hx
    have hql:q<len*z:=by have:=(List.getElem?_eq_some_iff.1 hq).1;simpa using this
    obtain ⟨v,v',q1,_⟩:=hall q hql
    rw [q1]
    simp [hql,f,q1] at hq
    rw [hq]
 ·rename_i s
  split at hs
  case isFalse=>cases hs
  rename_i hz1
  subst hz1
  simp at hs
  have e1:=str_inv hu
  subst e1
  have hnl:news.length=s.length:=by rw [←hs];simp
  refine ⟨s.map fun b=> .int .u8 b.toNat,⟨by simp [hnl],fun e he=> ?_,fun k e j v hk hj=> ?_⟩,by simp [hnl],fun u hu=> ?_,fun w2=> ?_,fun w2 _=> ?_,by simp⟩
  ·rw [←hs] at he;obtain ⟨b,_,rfl⟩:=List.mem_map.1 he;rfl
  ·rw [←hs] at hk
   rw [List.getElem?_map] at hk
   cases hsk:s[k]? with
   |none=>simp [hsk] at hk
   |some b=>
    simp [hsk] at hk;subst hk
    cases j with
    |succ j=>simp at hj
    |zero=>simp at hj;subst hj;exact ⟨rfl,_,by simp [hsk],.int _ _⟩
  ·obtain ⟨b,_,rfl⟩:=List.mem_map.1 hu;rfl
  ·simp [Builtin.lenOf,hnl];rfl
  ·simp only [Builtin.firstCells,Sem.run_pure,hnl]
   congr 1
   have:(⟨s.toArray⟩:ByteArray).extract 0 s.length=⟨s.toArray⟩:=by
    apply ByteArray.ext
    rw [ByteArray.data_extract]
    apply Array.ext'
    simp
   rw [this]
   apply Array.ext'
   simp
 ·cases hs
theorem run_bytes (g:Value→ByteArray→Sem (ForInStep ByteArray)) (hg: ∀n s,g (.int .u8 n) s=pure (ForInStep.yield (s.push (UInt8.ofNat n.toNat)))): ∀(ns:List Int) (s:ByteArray) (w:World),(forIn (m:=Sem) (ns.map (Value.int .u8)) s g).run P w= .ok ⟨s.data++(ns.map fun n=>UInt8.ofNat n.toNat).toArray⟩ w
 |[],s,w=>by simp
 |n::ns,s,w=>by
  rw [List.map_cons,List.forIn_cons,hg]
  simp only [Sem.run_bind,Sem.run_pure,Result.andThen_ok]
  rw [run_bytes g hg ns]
  congr 1
  simp [ByteArray.push]
theorem bytesOf_map: ∀{es:List (List VV)} {s:List UInt8},bytesOf es=some s→ ∃ns:List Int,es=ns.map (fun n=>[.int .u8 n])∧s=ns.map fun n=>UInt8.ofNat n.toNat
 |[],s,h=>by simp [bytesOf] at h;subst h;exact ⟨[],rfl,rfl⟩
 |e::es,s,h=>by
  unfold bytesOf at h
  split at h
  ·rename_i q;cases q
  ·rename_i n r q
   obtain ⟨rfl,rfl⟩:=List.cons.inj q
   split at h
   case h_2=>cases h
   rename_i s' hs'
   simp at h;subst h
   obtain ⟨ns,rfl,rfl⟩:=bytesOf_map hs'
   exact ⟨n::ns,rfl,rfl⟩
  ·cases h
theorem flat_bytes {ns:List Int} {cs:List Value} (h:Flat σ 1 (ns.map fun n=>[.int .u8 n]) cs.toArray) (hl:cs.length=ns.length):cs=ns.map (.int .u8):=by
 apply List.ext_getElem?
 intro k
 by_cases hk:k<ns.length
 ·obtain ⟨_,v',h1,h2⟩:=h.cell k [.int .u8 ns[k]] 0 (.int .u8 ns[k]) (by simp [hk]) rfl
  simp at h1
  rw [h1]
  cases h2
  simp [hk]
 ·rw [List.getElem?_eq_none (by omega),List.getElem?_eq_none (by simp;omega)]
theorem read_bstr {s d e:TypeId} {x:Operand} {y:Od} (ho:o.op= .convert s d x) (hs:P.underlying s=some (.slice e)) (hd:P.underlying d=some .string) (hx:compOd x=some y) (he8:P.underlying e=some (.int .u8))
 (hH:HRel P σ B H w) (hF:FRel σ N E a) (he:(VOp.bstr y).ev E H.g=some v):ReadOk P σ w a o v:=by
 simp only [VOp.ev] at he
 cases h1:y.ev E with
 |none=>simp [h1] at he
 |some u=>
  have hu:=compOd_ok hx hF h1
  cases u<;>simp [h1] at he
  rename_i q m c
  cases hsrc:srcEls H.g 1 (.sl q m c) with
  |none=>simp [hsrc] at he
  |some els=>
   simp [hsrc] at he
   cases hb:bytesOf els with
   |none=>simp [hb] at he
   |some bs=>
    simp [hb] at he
    subst he
    obtain ⟨cs,hsok⟩:=src_ok hH (by decide) hu hsrc
    obtain ⟨ns,rfl,rfl⟩:=bytesOf_map hb
    have hcs:cs=ns.map (.int .u8):=flat_bytes hsok.flat (by have:=hsok.len;simpa using this)
    obtain ⟨ad,c',e1⟩:=sl_inv' hu
    refine .of (.str _) fun w2 hw2=> ?_
    have hconv:(Conv.bytesToString (a.eval x)).run P w2= .ok (.string ⟨(ns.map fun n=>UInt8.ofNat n.toNat).toArray⟩) w2:=by
     have hf:=hsok.first w2 hw2
     have hl:=hsok.lenOf w2
     rw [e1] at hf hl ⊢
     have hm:m=ns.length:=by simpa [Builtin.lenOf] using hl
     cases ad with
     |none=>
      simp [Builtin.firstCells] at hf
      rw [hcs] at hf
      have:ns=[]:=by simpa using hf.symm
      subst this
      simp [Conv.bytesToString]
      rfl
     |some ad=>
      simp [Builtin.firstCells] at hf
      have hload:(loadCells ad m).run P w2= .ok cs.toArray w2:=by rw [hm];exact hf
      simp only [Conv.bytesToString,Sem.run_bind,hload,Result.andThen_ok,hcs,List.forIn_toArray]
      rw [run_bytes (P:=P) _ (fun _ _=>rfl) ns ByteArray.empty w2]
      simp
    have hrun:(execOp a.eval o).run P w2=((Conv.bytesToString (a.eval x)).run P w2).andThen fun v w=> .ok (.value v) w:=by
     simp [execOp,ho,Go.convert,underlying,hs,hd,he8,e1]
    rw [hrun,hconv]
    rfl
theorem read_seq {op:BinOp} {t t':TypeId} {x y:Operand} {x' y':Od} (ho:o.op= .binOp op t x y t') (hx:compOd x=some x') (hy:compOd y=some y')
 (hF:FRel σ N E a) (he:(VOp.seq op x' y').ev E H.g=some v):ReadOk P σ w a o v:=by
 simp only [VOp.ev] at he
 cases h1:x'.ev E with
 |none=>simp [h1] at he
 |some u=>
  cases h2:y'.ev E with
  |none=>cases u<;>simp [h1,h2] at he
  |some u2=>
   have r1:=compOd_ok hx hF h1
   have r2:=compOd_ok hy hF h2
   cases u<;>simp [h1,h2] at he
   rename_i s
   cases u2<;>simp at he
   rename_i r
   have e1:=str_inv r1
   have e2:=str_inv r2
   have hg: ∀w2,(eqGuard op t x y (.string ⟨s.toArray⟩) (.string ⟨r.toArray⟩)).run P w2= .ok () w2:=fun w2=>run_eqGuard_scalar (.inr (.inr ⟨_,rfl⟩)) w2
   have l1:(⟨s.toArray⟩:ByteArray).toList=s:=by rw [ByteArray.toList_eq]
   have l2:(⟨r.toArray⟩:ByteArray).toList=r:=by rw [ByteArray.toList_eq]
   have s1:(⟨s.toArray⟩:ByteArray).size=s.length:=rfl
   have s2:(⟨r.toArray⟩:ByteArray).size=r.length:=rfl
   cases op<;>simp [strOp] at he
   case add=>
    obtain ⟨hle,rfl⟩:=he
    have hcat:(⟨s.toArray⟩:ByteArray)++⟨r.toArray⟩=⟨(s++r).toArray⟩:=by
     apply ByteArray.ext;simp
    refine .of (.str (s++r)) fun w2 _=> ?_
    have hno: ¬(((⟨s.toArray⟩:ByteArray).size+(⟨r.toArray⟩:ByteArray).size:Nat):Int)>IntKind.i64.max:=by
     rw [s1,s2,show IntKind.i64.max=9223372036854775807 from rfl];omega
    simp only [execOp,ho,e1,e2,Sem.run_bind,hg,Result.andThen_ok,Go.binOp,Op.stringOp,if_neg hno,hcat,Sem.run_pure]
   all_goals
    subst he
    exact .of (.bool _) fun w2 _=>by simp [execOp,ho,e1,e2,hg,Result.andThen,Go.binOp,Op.stringOp,l1,l2]
def TyOf (P:Program) (t:TypeId):Nat→Prop
 |0=> ∃e,P.underlying t=some (.pointer e)∧((P.info? e).map (·.size)).getD 0≠0
 |1=> ∃e,P.underlying t=some (.slice e)
 |2=> ∃k e,P.underlying t=some (.map k e)
 |3=> ∃m,P.underlying t=some (.interface m)
 |_=> ∃p r b,P.underlying t=some (.func p r b)
theorem neqV_run {kd:Nat} {t:TypeId} (ht:TyOf P t kd) {u v:VV} {u' v':Value} (hu:VRel σ u u') (hv:VRel σ v v') {b:Bool} (hH:HRel P σ B H w) (hb:neqV H.g kd u v=some b):
 (∀w2,Below w.heap.size w w2→(Op.equal t u' v').run P w2= .ok b w2)∧(∀op w2,Below w.heap.size w w2→op= .eql∨op= .neq→(Go.binOp op t u' v').run P w2= .ok (.bool (if op= .neq then !b else b)) w2)∧
 (∀op x y w2,(kd=3→isConst y=true)→(eqGuard op t x y u' v').run P w2= .ok () w2):=by
 have gen: ∀d w2,Below w.heap.size w w2→(Op.equalIn (d+1) t u' v').run P w2= .ok b w2:=by
  intro d w2 hw2
  unfold neqV at hb
  split at hb
  ·obtain ⟨e,ht,hi⟩:=ht
   simp only [Option.some.injEq] at hb;subst hb
   cases hu
   cases hv<;>simp only [Op.equalIn,Sem.run_bind,run_underlying ht,Result.andThen_ok,Sem.run_pure,Option.isNone]
  ·obtain ⟨e,ht,hi⟩:=ht
   simp only [Option.some.injEq] at hb;subst hb
   cases hu;cases hv
   simp only [Op.equalIn,Sem.run_bind,run_underlying ht,Result.andThen_ok,Sem.run_pure,Option.isNone]
  ·obtain ⟨e,ht,hi⟩:=ht
   rename_i p q
   have hsz0: ∃i,P.info? e=some i∧i.size≠0:=by
    cases h0:P.info? e with
    |none=>simp [h0] at hi
    |some i=>exact ⟨i,rfl,by simpa [h0] using hi⟩
   obtain ⟨i,hi,hsz1⟩:=hsz0
   have hsz:(sizeOf e).run P w2= .ok i.size w2:=by simp [sizeOf,typeInfo,hi]
   split at hb
   case isFalse=>
    split at hb
    ·cases hb
    ·rename_i hne
     split at hb
     ·rename_i t1 m1 es1 t2 m2 es2 hm1 hm2
      split at hb
      ·rename_i hro
       simp only [Option.some.injEq] at hb;subst hb
       cases hu with|ptr h1=>cases hv with|ptr h2=>
       obtain ⟨I,i1,rfl⟩:=h1
       obtain ⟨J,j1,rfl⟩:=h2
       obtain ⟨I',hI⟩:=hH.rows _ _ _ _ hm1
       obtain ⟨J',hJ⟩:=hH.rows _ _ _ _ hm2
       obtain rfl:=Option.some.inj (i1.symm.trans hI.here)
       obtain rfl:=Option.some.inj (j1.symm.trans hJ.here)
       have q1:m1≠ .ro:=by intro h;rw [h] at hro;simp [roB] at hro
       have q2:m2≠ .ro:=by intro h;rw [h] at hro;simp [roB] at hro
       have hreal:I.real≠J.real:=fun h=>hne (hH.inj _ _ _ _ _ _ _ _ _ _ hm1 q1 hm2 i1 j1 h)
       obtain ⟨_,_,_,c1,e1,_⟩:=hI.own q1
       obtain ⟨_,_,_,c2,e2,_⟩:=hJ.own q2
       have e1':=hw2.block _ hI.lt
       have e2':=hw2.block _ hJ.lt
       rw [←e1'] at e1
       rw [←e2'] at e2
       simp only [Op.equalIn,Sem.run_bind,run_underlying ht,Result.andThen_ok,hsz,if_pos hsz1]
       have hbl:(I.real==J.real)=false:=by simpa using hreal
       simp [sameAddr,hreal,World.frozen?,e1,e2,noView,viewAt,World.shape?,mayBeOne,stringish]
      ·cases hb
     ·cases hb
   rename_i hpq
   simp only [Option.some.injEq] at hb;subst hb
   obtain ⟨pb,pi,po⟩:=p
   obtain ⟨qb,qi,qo⟩:=q
   obtain ⟨rfl,rfl,rfl⟩:=hpq
   cases hu with|ptr h1=>cases hv with|ptr h2=>
   obtain ⟨I,i1,rfl⟩:=h1
   obtain ⟨J,j1,rfl⟩:=h2
   have:I=J:=Option.some.inj (i1.symm.trans j1)
   subst this
   simp only [Op.equalIn,Sem.run_bind,run_underlying ht,Result.andThen_ok,hsz]
   split
   ·simp only [sameAddr,beq_self_eq_true,if_true,Sem.run_pure]
   ·rename_i hno;exact absurd hsz1 hno
  ·obtain ⟨e,ht⟩:=ht
   simp only [Option.some.injEq] at hb;subst hb
   cases hu
   cases hv<;>simp only [Op.equalIn,Sem.run_bind,run_underlying ht,Result.andThen_ok,Sem.run_pure,Option.isNone]
  ·obtain ⟨e,ht⟩:=ht
   simp only [Option.some.injEq] at hb;subst hb
   cases hu;cases hv
   simp only [Op.equalIn,Sem.run_bind,run_underlying ht,Result.andThen_ok,Sem.run_pure,Option.isNone]
  ·obtain ⟨k,e,ht⟩:=ht
   simp only [Option.some.injEq] at hb;subst hb
   cases hu
   cases hv<;>simp only [Op.equalIn,Sem.run_bind,run_underlying ht,Result.andThen_ok,Sem.run_pure,Option.isNone]
  ·obtain ⟨k,e,ht⟩:=ht
   simp only [Option.some.injEq] at hb;subst hb
   cases hu;cases hv
   simp only [Op.equalIn,Sem.run_bind,run_underlying ht,Result.andThen_ok,Sem.run_pure,Option.isNone]
  ·obtain ⟨m,ht⟩:=ht
   simp only [Option.some.injEq] at hb;subst hb
   cases hu;cases hv
   simp only [Op.equalIn,Sem.run_bind,run_underlying ht,Result.andThen_ok,Sem.run_pure]
  ·obtain ⟨p,r,b,ht⟩:=ht
   simp only [Option.some.injEq] at hb;subst hb
   cases hu;cases hv
   simp only [Op.equalIn,Sem.run_bind,run_underlying ht,Result.andThen_ok,Sem.run_pure]
  ·obtain ⟨p,r,b,ht⟩:=ht
   simp only [Option.some.injEq] at hb;subst hb
   cases hu;cases hv
   simp only [Op.equalIn,Sem.run_bind,run_underlying ht,Result.andThen_ok,Sem.run_pure]
  ·obtain ⟨p,r,b,ht⟩:=ht
   simp only [Option.some.injEq] at hb;subst hb
   cases hu;cases hv
   simp only [Op.equalIn,Sem.run_bind,run_underlying ht,Result.andThen_ok,Sem.run_pure]
  ·cases hb
 have key: ∀w2,Below w.heap.size w w2→(Op.equal t u' v').run P w2= .ok b w2:=fun w2=>gen 9999 w2
 refine ⟨key,fun op w2 hw2 hop=> ?_,fun op x y w2 hc=> ?_⟩
 ·have hs:(Go.binOp op t u' v').run P w2=((Op.equal t u' v').run P w2).andThen fun b w=> .ok (.bool (if op= .neq then !b else b)) w:=by
   unfold neqV at hb
   rcases hop with rfl|rfl<;>(split at hb<;>(try cases hb))<;>cases hu<;>cases hv<;>simp [Go.binOp]
  rw [hs,key w2 hw2,Result.andThen_ok]
 ·unfold neqV at hb
  split at hb<;>(try cases hb)<;>cases hu<;>cases hv<;>(try (unfold eqGuard;split<;>rfl))
  have hy:=hc rfl
  unfold isConst at hy
  split at hy
  ·unfold eqGuard;simp<;>(try (split<;>rfl))
  ·cases hy
theorem read_neq {kd:Nat} {ng:Bool} {t t':TypeId} {x y:Operand} {x' y':Od} (ho:o.op= .binOp (if ng then .neq else .eql) t x y t') (ht:TyOf P t kd) (hk:kd=3→isConst y=true)
 (hx:compOd x=some x') (hy:compOd y=some y') (hH:HRel P σ B H w)
 (hF:FRel σ N E a) (he:(VOp.neq kd ng x' y').ev E H.g=some v):ReadOk P σ w a o v:=by
 simp only [VOp.ev] at he
 cases h1:x'.ev E with
 |none=>simp [h1] at he
 |some u=>
  cases h2:y'.ev E with
  |none=>simp [h1,h2] at he
  |some u2=>
   simp only [h1,h2] at he
   cases h3:neqV H.g kd u u2 with
   |none=>simp [h3] at he
   |some b=>
    simp [h3] at he
    subst he
    obtain ⟨_,q2,q3⟩:=neqV_run ht (compOd_ok hx hF h1) (compOd_ok hy hF h2) hH h3
    refine .of (.bool _) fun w2 hw2=> ?_
    cases ng with
    |false=>
     simp only [Bool.false_eq_true,if_false] at ho
     have q4:=q2 .eql w2 hw2 (.inl rfl)
     simp only [execOp,ho,Sem.run_bind,q3 _ _ _ _ hk,Result.andThen_ok,q4,Sem.run_pure,reduceCtorEq,if_false]
     try rfl
    |true=>
     simp only [if_true] at ho
     have q4:=q2 .neq w2 hw2 (.inr rfl)
     simp only [execOp,ho,Sem.run_bind,q3 _ _ _ _ hk,Result.andThen_ok,q4,Sem.run_pure]
     try rfl
theorem idx_gen (c:UInt8): ∀(s:List UInt8) (k:Nat) (f:Nat→UInt8),(∀i,i<s.length→f (k+i)=s.getD i 0)→
 (match ((List.range' k s.length).find? fun i=>f i==c) with|some i=>(i:Int)|none=> -1)=idxOf8 c s k
 |[],k,f,_=>rfl
 |b::s,k,f,h=>by
  have h0:f k=b:=by simpa using h 0 (by simp)
  have ih:=idx_gen c s (k+1) f fun i hi=>by have:=h (i+1) (by simpa using hi);rw [show k+1+i=k+(i+1) by omega,this];rfl
  simp only [List.length_cons,List.range'_succ,List.find?_cons,h0,idxOf8]
  by_cases e:b=c
  ·subst e;simp
  ·rw [if_neg e]
   have:(b==c)=false:=by simpa using e
   simp only [this]
   exact ih
theorem firstIdx_eq (s:List UInt8) (n:Nat):firstIdx ⟨s.toArray⟩ n.toUInt8=idxOf8 (UInt8.ofNat n) s 0:=by
 have hc:n.toUInt8=UInt8.ofNat n:=rfl
 rw [hc]
 unfold firstIdx
 have:=idx_gen (UInt8.ofNat n) s 0 (fun i=>(⟨s.toArray⟩:ByteArray)[i]!) fun i hi=>by
  rw [Nat.zero_add]
  have hi':i<(⟨s.toArray⟩:ByteArray).size:=hi
  rw [getElem!_pos (⟨s.toArray⟩:ByteArray) i hi']
  show s.toArray[i]=_
  simp [List.getD,hi]
 rw [←List.range_eq_range'] at this
 exact this
theorem read_ixb {c:Call} {f:FuncId} {x y:Operand} {x' y':Od} (ho:o.op= .call c) (hc:c.callee= .value (.func f)) (ha:c.args.toList=[x,y]) (hb:bodyless P f "internal/bytealg.IndexByteString" =true) (hx:compOd x=some x') (hy:compOd y=some y')
 (hF:FRel σ N E a) (he:(VOp.ixb x' y').ev E H.g=some v):ReadOk P σ w a o v:=by
 simp only [VOp.ev] at he
 cases h1:x'.ev E with
 |none=>simp [h1] at he
 |some u=>
  cases h2:y'.ev E with
  |none=>cases u<;>simp [h1,h2] at he
  |some u2=>
   have r1:=compOd_ok hx hF h1
   have r2:=compOd_ok hy hF h2
   cases u<;>simp [h1,h2] at he
   rename_i s
   cases u2<;>try (cases he;done)
   rename_i k n
   cases k<;>try (cases he;done)
   cases he
   have e1:=str_inv r1
   have e2:=int_inv r2
   unfold bodyless at hb
   cases hf:P.funcs[f]? with
   |none=>simp [hf] at hb
   |some fn=>
    simp only [hf,Bool.and_eq_true,beq_iff_eq] at hb
    obtain ⟨hb1,hb2,hb3⟩:=hb
    have hfind:Extern.find fn=some Extern.BytealgIndexByte.indexByte:=by
     have q1:Extern.allGenericRows.lookup "internal/bytealg.IndexByteString" =none:=by kernel_rfl
     have q2:Extern.allTypedRows.lookup "internal/bytealg.IndexByteString" =none:=by kernel_rfl
     have q3:Extern.allRows.lookup "internal/bytealg.IndexByteString" =some Extern.BytealgIndexByte.indexByte:=by kernel_rfl
     simp [Extern.find,hb2,q1,q2,q3]
    have hargs:c.args=#[x,y]:=Array.toList_inj.1 (by simpa using ha)
    refine .of (.int _ _) fun w2 _=> ?_
    have hcall:=run_callFunc_extern (P:=P) hf (by rw [hb2];rfl) hb1 (by simpa using hb3) hfind #[.string ⟨s.toArray⟩,.int .u8 n] w2
    rw [run_indexByte_string] at hcall
    rw [firstIdx_eq] at hcall
    simp only [Result.andThen_ok] at hcall
    have hev:a.eval (.func f)= .func (.func f) #[] #[]:=rfl
    simp [execOp,ho,resolve,hc,hargs,hev,Deferred.ofValue,invoke,e1,e2]
    exact hcall
theorem cell?_of_heap' {w:World} {g o:Nat} {cur:Array Value} {t:TypeId} {fr:Nat×Nat} (h:w.heap[g]? =some (.cells cur t fr)):w.cell? ⟨g,o,none⟩=cur[o]? :=by
 simp [World.cell?,h]
theorem read_s2a {t e:TypeId} {n:Nat} {x:Operand} {y:Od} (ho:o.op= .sliceToArrayPointer t x) (ht:P.underlying t=some (.array n e)) (hx:compOd x=some y)
 (hF:FRel σ N E a) (he:(VOp.s2a n y).ev E H.g=some v):ReadOk P σ w a o v:=by
 simp only [VOp.ev] at he
 split at he
 case h_2=>cases he
 rename_i p m c h1
 split at he
 case isFalse=>cases he
 rename_i hn
 obtain ⟨hn0,hn⟩:=hn
 simp at he;subst he
 obtain ⟨ad,c',e1,hle,hsl⟩:=sl_inv (compOd_ok hx hF h1)
 have hpl:σ.place p ad:=by
  rcases hsl with ⟨h,_⟩|⟨_,_,_,_,_,h,_⟩|⟨h,_⟩
  ·exact h
  ·exact h
  ·omega
 refine .of (.ptr hpl) fun w2 _=> ?_
 have hlt: ¬m<n:=by omega
 simp [execOp,ho,e1,Instr.arrayAt,underlying,ht,hlt]
theorem read_lda {t:TypeId} {x:Operand} {y:Od} {n:Nat} {b:Bool} (ho:o.op= .load t x) (ht:aggOf P t=some (n,b)) (hb:bytesArr P t=true) (hx:compOd x=some y)
 (hH:HRel P σ B H w) (hF:FRel σ N E a) (he:(VOp.lda n y).ev E H.g=some v):ReadOk P σ w a o v:=by
 have hbt:b=true:=by
  unfold bytesArr at hb
  unfold aggOf at ht
  split at hb
  ·rename_i k e hu
   rw [hu] at ht
   split at ht
   ·rename_i i u _ hu2
    cases hu2
    simp at ht
    rw [←ht.2]
   ·cases ht
  ·cases hb
 subst hbt
 simp only [VOp.ev] at he
 split at he
 case h_2=>cases he
 rename_i p h1
 split at he
 ·rename_i l hl
  simp at he;subst he
  exact read_load ho ht hx hH hF (by simp [VOp.ev,h1,hl])
 ·split at he
  case h_2=>cases he
  rename_i s hbk
  split at he
  case isFalse=>cases he
  rename_i hc
  obtain ⟨h3,h4,h5⟩:=hc
  simp at he;subst he
  obtain ⟨ad,e1,J,hJ,had⟩:=ptr_inv (compOd_ok hx hF h1)
  obtain ⟨I,ho',i1,i2,i3,i4,i5⟩:=hH.objs _ _ hbk
  have:I=J:=Option.some.inj (i1.symm.trans hJ)
  subst this
  cases ho'<;>simp only [ObRel] at i5
  rename_i cur t' fr
  have had0:ad=⟨I.real,0,none⟩:=by rw [had,i3,h3,h4];simp
  have hlt:I.real<w.heap.size:=(Array.getElem?_eq_some_iff.1 i4).1
  have hL: ∀l:List UInt8,LRel σ (l.map fun b=>VV.int .u8 b.toNat) (l.map fun b=>Value.int .u8 b.toNat):=fun l=>by
   induction l with
   |nil=>exact .nil
   |cons b l ih=>exact .cons (.int _ _) ih
  refine .of (.agg (cs':=((s.take n).map fun b=>Value.int .u8 b.toNat).toArray) (by simpa using hL (s.take n))) fun w2 hw2=> ?_
  have h6:=run_loadCells_list (P:=P) w2 ad ((s.take n).map fun b=>Value.int .u8 b.toNat) (fun j v hj=>by
   have hblk:(ad.add j).block<w.heap.size:=by rw [had0];unfold Addr.add;split<;>exact hlt
   rw [hw2.cell (p:=ad.add j) hblk]
   simp only [List.getElem?_map,Option.map_eq_some_iff] at hj
   obtain ⟨c,hc,rfl⟩:=hj
   have hc':s[j]? =some c:=by
    rw [List.getElem?_take] at hc
    split at hc
    ·exact hc
    ·cases hc
   have:ad.add j=⟨I.real,j,none⟩:=by rw [had0];unfold Addr.add;split<;>simp_all
   rw [this,cell?_of_heap' i4]
   exact i5.2 j c hc')
  have hlen:((s.take n).map fun b=>Value.int .u8 b.toNat).length=n:=by simp;omega
  rw [hlen] at h6
  simp [execOp,ho,e1,Instr.loadAt,Instr.sureAddr,loadVar,aggOf_run ht,h6]
theorem items_run {d:Nat} {e:TypeId} {k:IntKind} (hu:P.underlying e=some (.int k)) (hag:aggOf P e=some (1,false)): ∀(m i:Nat) (cs ds:List VV) (cs' ds':Array Value) (b:Bool),LRel σ cs cs'.toList→LRel σ ds ds'.toList→
 aeqK (List.replicate m 0) (cs.drop i) (ds.drop i)=some b→ ∀w2,(Op.eqItems (d+1) e 1 cs' ds' (List.range' i m)).run P w2= .ok b w2
 |0,i,cs,ds,cs',ds',b,h1,h2,he,w2=>by
  cases hc:cs.drop i with
  |nil=>cases hd:ds.drop i with
   |nil=>rw [hc,hd] at he;simp [aeqK] at he;subst he;simp [Op.eqItems]
   |cons x l=>rw [hc,hd] at he;simp [aeqK] at he
  |cons x l=>rw [hc] at he;simp [aeqK] at he
 |m+1,i,cs,ds,cs',ds',b,h1,h2,he,w2=>by
  have part: ∀(es:List VV) (es':Array Value) (x:VV) (l:List VV),LRel σ es es'.toList→es.drop i=x::l→l=es.drop (i+1)∧ ∃u,VRel σ x u∧ ∀w2,(part e es' i).run P w2= .ok u w2:=by
   intro es es' x l hr hd
   have hi:i<es.length:=by
    rcases Nat.lt_or_ge i es.length with h|h
    ·exact h
    ·rw [List.drop_eq_nil_of_le h] at hd;cases hd
   rw [List.drop_eq_getElem_cons hi] at hd
   injection hd with hx hl
   obtain ⟨u,p1,p2⟩:=part_run (σ:=σ) (v:=x) hag hr (off:=i) (by simp [partOf,hi,hx])
   exact ⟨hl.symm,u,p1,p2⟩
  cases hc:cs.drop i with
  |nil=>rw [hc] at he;simp [aeqK,List.replicate_succ] at he
  |cons x l=>
   cases hd:ds.drop i with
   |nil=>rw [hc,hd] at he;cases x<;>simp [aeqK,List.replicate_succ] at he
   |cons y mm=>
    rw [hc,hd] at he
    cases x<;>cases y<;>simp [aeqK,List.replicate_succ] at he
    rename_i k1 n1 k2 n2
    obtain ⟨hkk,he⟩:=he
    subst hkk
    cases haq:aeqK (List.replicate m 0) l mm with
    |none=>rw [haq] at he;simp at he
    |some b'=>
     rw [haq] at he;simp at he
     obtain ⟨e1,u,p1,p2⟩:=part cs cs' _ l h1 hc
     obtain ⟨e2,u2,p3,p4⟩:=part ds ds' _ mm h2 hd
     have ih:=items_run (d:=d) hu hag m (i+1) cs ds cs' ds' b' h1 h2 (by rw [←e1,←e2];exact haq) w2
     rw [int_inv p1] at p2
     rw [int_inv p3] at p4
     simp only [List.range'_succ,Op.eqItems,Nat.mul_one,Sem.run_bind,p2,p4,Result.andThen_ok,run_equalIn_int w2 d e k1 k n1 n2 hu,Sem.run_ite,Sem.run_pure]
     subst he
     cases hq:n1==n2 with
     |true=>simpa using ih
     |false=>rfl
theorem read_aeqA {neg:Bool} {t t':TypeId} {ks:List Nat} {x y:Operand} {x' y':Od} (ho:o.op= .binOp (if neg then .neq else .eql) t x y t') (ht:arrKinds P t=some ks) (hx:compOd x=some x') (hy:compOd y=some y')
 (hF:FRel σ N E a) (he:(VOp.aeq neg ks x' y').ev E H.g=some v):ReadOk P σ w a o v:=by
 simp only [VOp.ev] at he
 cases h1:x'.ev E with
 |none=>simp [h1] at he
 |some u=>
  cases h2:y'.ev E with
  |none=>cases u<;>simp [h1,h2] at he
  |some u2=>
   have r1:=compOd_ok hx hF h1
   have r2:=compOd_ok hy hF h2
   cases u<;>simp [h1,h2] at he
   rename_i cs
   cases u2<;>simp at he
   rename_i ds
   cases haq:aeqK ks cs ds with
   |none=>simp [haq] at he
   |some b=>
    simp [haq] at he
    obtain ⟨cs',e1,l1⟩:=agg_inv r1
    obtain ⟨ds',e2,l2⟩:=agg_inv r2
    unfold arrKinds at ht
    split at ht
    case h_2=>cases ht
    rename_i n e hu
    split at ht
    case isFalse=>cases ht
    rename_i hg
    obtain ⟨hb,hg2⟩:=hg
    simp at ht;subst ht
    have hel:P.underlying e=some (.int .u8)∧ ∃i,P.info? e=some i∧i.size=1:=by
     unfold bytesArr at hb
     rw [hu] at hb
     simp only at hb
     split at hb
     ·rename_i i h3 h4;exact ⟨h3,i,h4,Nat.eq_of_beq_eq_true hb⟩
     ·cases hb
    obtain ⟨hue,i,hi,his⟩:=hel
    have hag:aggOf P e=some (1,false):=by simp [aggOf,hi,hue,his]
    have hce:P.cellsOf e=1:=by simp [Program.cellsOf,hi,his]
    have run: ∀w2,(Op.equalIn 10000 t (.agg cs') (.agg ds')).run P w2= .ok b w2:=fun w2=>by
     rw [run_equalIn_array w2 9999 cs' ds' hu hi,hce,List.range_eq_range']
     exact items_run (d:=9998) hue hag n 0 cs ds cs' ds' b l1 l2 (by simpa using haq) w2
    subst he
    cases neg with
    |false=>
     refine .of (.bool _) fun w2 _=> ?_
     simp only [Bool.false_eq_true,if_false] at ho
     simp only [execOp,ho,e1,e2,Sem.run_bind,run_eqGuard_agg w2 _ t x y cs' ds' hg2,Result.andThen_ok,run_eql_struct,run,Sem.run_pure,Bool.false_eq_true,if_false]
    |true=>
     refine .of (.bool _) fun w2 _=> ?_
     simp only [if_true] at ho
     simp only [execOp,ho,e1,e2,Sem.run_bind,run_eqGuard_agg w2 _ t x y cs' ds' hg2,Result.andThen_ok,run_neq_struct,run,Sem.run_pure,if_true]
theorem read_ok {vo:VOp} (hc:compRead P o.op=some vo) (hH:HRel P σ B H w) (hF:FRel σ N E a) (he:vo.ev E H.g=some v):ReadOk P σ w a o v:=by
 unfold compRead at hc
 split at hc
 case h_1 x ho|h_2 x ho=>
  cases h1:compOd x with
  |none=>simp [h1] at hc
  |some y=>simp [h1] at hc;subst hc;exact read_mv (by first|exact .inl ho|exact .inr ho) h1 hF he
 case h_3 c x y ho=>
  split at hc
  ·simp at hc;subst hc;exact read_pick ho (by assumption) (by assumption) (by assumption) hF he
  ·cases hc
 case h_4 t x ho=>
  split at hc
  ·split at hc
   ·rename_i hb
    simp at hc;subst hc;exact read_lda ho (by assumption) hb (by assumption) hH hF he
   ·simp at hc;subst hc;exact read_load ho (by assumption) (by assumption) hH hF he
  ·cases hc
 case h_5 x ho=>
  cases h1:compOd x with
  |none=>simp [h1] at hc
  |some y=>simp [h1] at hc;subst hc;exact read_nilck ho h1 hF he
 case h_6 op t x y t' ho=>
  split at hc
  case h_2=>cases hc
  rename_i x' y' hx hy
  split at hc
  ·simp at hc;subst hc;exact read_beq (neg:=false) (by simpa using ho) (by assumption) hx hy hF he
  ·simp at hc;subst hc;exact read_beq (neg:=true) (by simpa using ho) (by assumption) hx hy hF he
  ·split at hc
   ·simp at hc;subst hc;exact read_aeq (neg:=false) (by simpa using ho) (by assumption) hx hy hF he
   ·cases hc
  ·split at hc
   ·simp at hc;subst hc;exact read_aeq (neg:=true) (by simpa using ho) (by assumption) hx hy hF he
   ·cases hc
  ·split at hc
   ·simp at hc;subst hc;exact read_aeqA (neg:=false) (by simpa using ho) (by assumption) hx hy hF he
   ·cases hc
  ·split at hc
   ·simp at hc;subst hc;exact read_aeqA (neg:=true) (by simpa using ho) (by assumption) hx hy hF he
   ·cases hc
  ·simp at hc;subst hc;exact read_sh (left:=true) (by simpa using ho) hx hy hF he
  ·simp at hc;subst hc;exact read_sh (left:=false) (by simpa using ho) hx hy hF he
  ·simp at hc;subst hc;exact read_bin ho (by intro h;simp_all) (by intro h;simp_all) hx hy hF he
  ·simp at hc;subst hc;exact read_seq ho hx hy hF he
  ·split at hc
   ·simp at hc;subst hc;exact read_neq (kd:=0) (ng:=false) (by simpa using ho) ⟨_,by assumption,by assumption⟩ (fun h=>by cases h) hx hy hH hF he
   ·cases hc
  ·simp at hc;subst hc;exact read_neq (kd:=1) (ng:=false) (by simpa using ho) ⟨_,by assumption⟩ (fun h=>by cases h) hx hy hH hF he
  ·simp at hc;subst hc;exact read_neq (kd:=2) (ng:=false) (by simpa using ho) ⟨_,_,by assumption⟩ (fun h=>by cases h) hx hy hH hF he
  ·split at hc
   ·simp at hc;subst hc;exact read_neq (kd:=3) (ng:=false) (by simpa using ho) ⟨_,by assumption⟩ (fun _=>by assumption) hx hy hH hF he
   ·cases hc
  ·simp at hc;subst hc;exact read_neq (kd:=4) (ng:=false) (by simpa using ho) ⟨_,_,_,by assumption⟩ (fun h=>by cases h) hx hy hH hF he
  ·split at hc
   ·simp at hc;subst hc;exact read_neq (kd:=0) (ng:=true) (by simpa using ho) ⟨_,by assumption,by assumption⟩ (fun h=>by cases h) hx hy hH hF he
   ·cases hc
  ·simp at hc;subst hc;exact read_neq (kd:=1) (ng:=true) (by simpa using ho) ⟨_,by assumption⟩ (fun h=>by cases h) hx hy hH hF he
  ·simp at hc;subst hc;exact read_neq (kd:=2) (ng:=true) (by simpa using ho) ⟨_,_,by assumption⟩ (fun h=>by cases h) hx hy hH hF he
  ·split at hc
   ·simp at hc;subst hc;exact read_neq (kd:=3) (ng:=true) (by simpa using ho) ⟨_,by assumption⟩ (fun _=>by assumption) hx hy hH hF he
   ·cases hc
  ·simp at hc;subst hc;exact read_neq (kd:=4) (ng:=true) (by simpa using ho) ⟨_,_,_,by assumption⟩ (fun h=>by cases h) hx hy hH hF he
  ·cases hc
 case h_7 t x ho=>
  cases h1:compOd x with
  |none=>simp [h1] at hc
  |some y=>simp [h1] at hc;subst hc;exact read_not ho h1 hF he
 case h_8 t x ho=>
  cases h1:compOd x with
  |none=>simp [h1] at hc
  |some y=>simp [h1] at hc;subst hc;exact read_neg ho h1 hF he
 case h_9 s d x ho=>
  split at hc
  ·simp at hc;subst hc;exact read_conv ho (by assumption) (by assumption) (by assumption) hF he
  ·simp at hc;subst hc;exact read_chr ho (by assumption) (by assumption) (by assumption) hF he
  ·split at hc
   ·simp at hc;subst hc;exact read_bstr ho (by assumption) (by assumption) (by assumption) (by assumption) hH hF he
   ·cases hc
  ·cases hc
 case h_10 f first caps ho=>
  split at hc
  ·split at hc
   ·simp at hc;subst hc;exact read_mkfn ho (by assumption) (by assumption) hF he
   ·cases hc
  ·cases hc
 case h_11 s x f ho=>
  split at hc
  ·split at hc
   ·split at hc
    ·cases hc
    ·simp at hc;subst hc;exact read_faddr ho (by assumption) (by assumption) (by assumption) (by assumption) hF he
   ·cases hc
  ·cases hc
 case h_12 s x f ho=>
  split at hc
  ·split at hc
   ·simp at hc;subst hc;exact read_fld ho (by assumption) (by assumption) (by assumption) hF he
   ·cases hc
  ·cases hc
 case h_13 t x i ho=>
  split at hc
  ·split at hc
   ·simp at hc;subst hc;exact read_ixa ho (by assumption) (by assumption) (by assumption) (by assumption) hH hF he
   ·cases hc
  ·split at hc
   ·simp at hc;subst hc;exact read_ixar ho (by assumption) (by assumption) (by assumption) (by assumption) hH hF he
   ·cases hc
  ·cases hc
 case h_14 x i ho=>
  cases h1:compOd x with
  |none=>simp [h1] at hc
  |some y=>simp [h1] at hc;subst hc;exact read_ext ho h1 hF he
 case h_15 t ps ho=>
  split at hc
  ·split at hc
   ·split at hc
    ·simp at hc;subst hc;exact read_build_struct ho (by assumption) (by assumption) (by assumption) (by assumption) hF he
    ·cases hc
   ·cases hc
  ·split at hc
   ·split at hc
    ·simp at hc;subst hc;exact read_build_array ho (by assumption) (by assumption) (by assumption) (by assumption) hF he
    ·cases hc
   ·cases hc
  ·cases hc
 case h_16 t x lo hi mx ho=>
  split at hc
  ·split at hc
   ·cases hc
   ·rename_i hno
    split at hc
    ·simp at hc;subst hc
     exact read_slc ho (by assumption) (by assumption) (by assumption) (by assumption) (by assumption) (by assumption) (by intro h;simp [h] at hno;exact Option.isSome_iff_ne_none.2 hno) hH hF he
    ·cases hc
  ·simp at hc;subst hc;exact read_slstr ho (by assumption) (by assumption) (by assumption) (by assumption) (by assumption) hF he
  ·cases hc
 case h_17 t x i ho=>
  split at hc
  ·simp at hc;subst hc;exact read_ixs ho (by assumption) (by assumption) (by assumption) hF he
  ·cases hc
 case h_18 t x k ok ho=>
  split at hc
  ·split at hc
   ·simp at hc;subst hc;exact read_lkp ho (by assumption) (by assumption) (by assumption) (by assumption) (by assumption) hH hF he
   ·cases hc
  ·cases hc
 case h_19 x ho=>
  cases h1:compOd x with
  |none=>simp [h1] at hc
  |some y=>simp [h1] at hc;subst hc;exact read_ent ho h1 hH hF he
 case h_20 c ho=>
  split at hc
  ·split at hc
   ·simp at hc;subst hc;exact read_lens ho (by assumption) (by assumption) (by assumption) (by assumption) (by assumption) hF he
   ·simp at hc;subst hc;exact read_lent ho (by assumption) (by assumption) (by assumption) (by assumption) (by assumption) hF he
   ·simp at hc;subst hc;exact read_lenm ho (by assumption) (by assumption) (by assumption) (by assumption) (by assumption) hH hF he
   ·cases hc
  ·split at hc
   ·simp at hc;subst hc;exact read_capm ho (by assumption) (by assumption) (by assumption) (by assumption) (by assumption) hH hF he
   ·cases hc
  ·split at hc
   ·simp at hc;subst hc;exact read_min ho (by assumption) (by assumption) (by assumption) (by assumption) hF he
   ·cases hc
  ·split at hc
   ·simp at hc;subst hc;exact read_max ho (by assumption) (by assumption) (by assumption) (by assumption) hF he
   ·cases hc
  ·split at hc
   ·split at hc
    ·simp at hc;subst hc;exact read_ixb ho (by assumption) (by assumption) (by assumption) (by assumption) (by assumption) hF he
    ·cases hc
   ·cases hc
  ·cases hc
 case h_21 t x ho=>
  split at hc
  ·cases hc
  ·simp at hc;subst hc;exact read_mki ho (by assumption) (by assumption) (by assumption) hF he
  ·cases hc
 case h_22 t x ho=>
  split at hc
  ·simp at hc;subst hc;exact read_s2a ho (by assumption) (by assumption) hF he
  ·cases hc
 ·cases hc
end
end Go.Wm
end
section
namespace Go.Wm
set_option linter.unusedSimpArgs false
set_option linter.unusedVariables false
open Go.RowKit
theorem cell?_setRow_other (w:World) (g:Nat) (cs:Array Value) (a:Addr) (h:a.block≠g):(w.setRow g cs).cell? a=w.cell? a:=by
 simp only [World.setRow,World.cell?,Array.getElem?_modify]
 rw [if_neg (fun e=>h e.symm)]
theorem heap_setRow_other (w:World) (g:Nat) (cs:Array Value) (k:Nat) (h:k≠g):(w.setRow g cs).heap[k]? =w.heap[k]? :=by
 simp only [World.setRow,Array.getElem?_modify]
 rw [if_neg (fun e=>h e.symm)]
theorem size_setRow (w:World) (g:Nat) (cs:Array Value):(w.setRow g cs).heap.size=w.heap.size:=by simp [World.setRow]
theorem cell?_of_heap {w:World} {g o:Nat} {cur:Array Value} {t:TypeId} {fr:Nat×Nat} (h:w.heap[g]? =some (.cells cur t fr)):w.cell? ⟨g,o,none⟩=cur[o]? :=by
 simp [World.cell?,h]
theorem Below.setRow {B:Nat} {w:World} {g:Nat} (h:B≤g) (cs:Array Value):Below B w (w.setRow g cs):=
 ⟨rfl,rfl,rfl,by rw [size_setRow];exact Nat.le_refl _,fun k hk=>heap_setRow_other w g cs k (by omega)⟩
section
variable {P:Program} {σ:Sg} {B N:Nat} {H:Hp} {w:World}
theorem Mv.set {i:Nat} {I:Info} (hI:σ i=some I) {w':World} (hb:Below B w w') (h: ∀k,k≠I.real→w'.heap[k]? =w.heap[k]?):Mv B σ σ w w':=
 ⟨Sg.le_refl _,hb,fun r _ hn=>h r (Ne.symm (hn i I hI)),fun i I h=> .inl ⟨i,I,h,rfl⟩⟩
def Sg.push (σ:Sg) (i:Nat) (I:Info):Sg:=fun k=>if k=i then some I else σ k
theorem Sg.le_push {i:Nat} {I:Info} (h:σ i=none):σ.le (σ.push i I):=fun k K e=>by
 unfold Sg.push
 by_cases hk:k=i
 ·subst hk;rw [h] at e;cases e
 ·rw [if_neg hk];exact e
theorem fit_push {σ:Sg} {i:Nat} {I:Info} {n m:Nat} (h: ∀i I,σ i=some I→I.real<n) (hI:I.real<m) (hm:n≤m): ∀k K,σ.push i I k=some K→K.real<m:=fun k K hk=>by
 unfold Sg.push at hk
 by_cases e:k=i
 ·rw [if_pos e] at hk;cases hk;exact hI
 ·rw [if_neg e] at hk;exact Nat.lt_of_lt_of_le (h k K hk) hm
theorem Mv.alloc {i:Nat} {I:Info} (hi:σ i=none) (hI:I.real=w.heap.size) (hB:B≤w.heap.size) (ho:Obj):Mv B σ (σ.push i I) w (w.alloc ho):=
 ⟨Sg.le_push hi,(Below.refl _ _).alloc hB _,fun r hr _=>Below.heap_alloc _ _ _ hr,fun k K hk=>by
  unfold Sg.push at hk
  by_cases h:k=i
  ·rw [if_pos h] at hk;cases hk;exact .inr (by rw [hI];exact Nat.le_refl _)
  ·rw [if_neg h] at hk;exact .inl ⟨k,K,hk,rfl⟩⟩
theorem HRel.apart (h:HRel P σ B H w) {i j:Nat} {t:TypeId} {md:Mode} {es:List (List VV)} {o:MOb} {I J:Info} (hi:H[i]? =some (.row t md es)) (hj:H[j]? =some (.obj o)) (hI:σ i=some I) (hJ:σ j=some J):I.real≠J.real:=by
 intro e
 obtain ⟨I',hR⟩:=h.rows i t md es hi
 have:I'=I:=Option.some.inj (hR.here.symm.trans hI)
 subst this
 obtain ⟨J',ho,h1,h2,_,h4,h5⟩:=h.objs j o hj
 have:J'=J:=Option.some.inj (h1.symm.trans hJ)
 subst this
 by_cases hmd:md= .ro
 ·have:=(hR.old hmd).1;omega
 ·obtain ⟨_,_,_,cur,hc,_⟩:=hR.own hmd
  rw [e,h4] at hc
  cases hc
  exact h5.noCells
theorem HRel.store (h:HRel P σ B H w) {i:Nat} {t:TypeId} {md:Mode} {es es2:List (List VV)} (hb:H[i]? =some (.row t md es)) (hmd:md≠ .ro) {I:Info} (hI:σ i=some I)
 {cur cur2:Array Value} (hc:w.heap[I.real]? =some (.cells cur t (0,0))) (hs:cur2.size=cur.size) (hl:es2.length=es.length) (hz: ∀e∈es2,e.length=I.esz)
 (hcell: ∀(k:Nat) e (j:Nat) v,es2[k]? =some e→e[j]? =some v→v.cell=true∧ ∃v',cur2[I.base+k*I.esz+j]? =some v'∧VRel σ v v'):
 HRel P σ B (H.set i (.row t md es2)) (w.setRow I.real cur2)∧Mv B σ σ w (w.setRow I.real cur2):=by
 obtain ⟨I',hR⟩:=h.rows i t md es hb
 have e0:I'=I:=Option.some.inj (hR.here.symm.trans hI)
 subst e0
 obtain ⟨hB,ho1,ho2,cur',hc',hs'⟩:=hR.own hmd
 have e1:cur'=cur:=by have:=hc'.symm.trans hc;simpa using this
 subst e1
 have hil:i<H.length:=(List.getElem?_eq_some_iff.1 hb).1
 have backO: ∀(m:Nat) o,(H.set i (.row t md es2))[m]? =some (Blk.obj o)→H[m]? =some (Blk.obj o):=by
  intro m o hm
  by_cases hmi:m=i
  ·subst hmi;rw [List.getElem?_set_self hil] at hm;cases hm
  ·rwa [List.getElem?_set_ne (Ne.symm hmi)] at hm
 refine ⟨⟨by rw [size_setRow];exact h.base,fun k K hk=> ?_,fun k tk mk esk hk=> ?_,fun k j tk mk esk tj mj esj Ik Ij hk hmk hj hσk hσj hreal=> ?_,fun k o hk=> ?_,fun k j o o' Ik Ij hk hj=>h.oinj k j o o' Ik Ij (backO k o hk) (backO j o' hj),h.glob,by rw [size_setRow];exact h.fit⟩,Mv.set hI (Below.setRow hB _) fun k hk=>heap_setRow_other _ _ _ _ hk⟩
 rotate_right
 ·obtain ⟨J,ho,j1,j2,j3,j4,j5⟩:=h.objs k o (backO k o hk)
  exact ⟨J,ho,j1,j2,j3,by rw [heap_setRow_other _ _ _ _ (Ne.symm (h.apart hb (backO k o hk) hI j1))];exact j4,j5⟩
 ·rw [List.length_set];exact h.dom k K hk
 ·by_cases hki:k=i
  ·subst hki
   rw [List.getElem?_set_self hil] at hk
   obtain ⟨rfl,rfl,rfl⟩:t=tk∧md=mk∧es2=esk:=by simpa using hk
   refine ⟨I',hI,by rw [size_setRow];exact hR.lt,by rw [hl];exact hR.len,hz,fun k e j v he hv=> ?_,hR.old,fun _=>⟨hB,ho1,ho2,cur2,setRow_heap _ _ _ _ _ _ hc,by rw [hs];exact hs'⟩⟩
   obtain ⟨h1,v',h2,h3⟩:=hcell k e j v he hv
   refine ⟨h1,v',?_,h3⟩
   rw [cell?_of_heap (setRow_heap _ _ _ _ _ _ hc)]
   exact h2
  ·rw [List.getElem?_set_ne (Ne.symm hki)] at hk
   obtain ⟨K,hK⟩:=h.rows k tk mk esk hk
   have hne:K.real≠I'.real:=by
    intro e
    exact hki (h.inj i k t md es tk mk esk I' K hb hmd hk hI hK.here e.symm).symm
   refine ⟨K,hK.here,by rw [size_setRow];exact hK.lt,hK.len,hK.esz,fun a e j v he hv=> ?_,hK.old,fun hm=> ?_⟩
   ·obtain ⟨h1,v',h2,h3⟩:=hK.cell a e j v he hv
    exact ⟨h1,v',by rw [cell?_setRow_other _ _ _ _ hne];exact h2,h3⟩
   ·obtain ⟨q1,q3,q4,c,q5,q6⟩:=hK.own hm
    exact ⟨q1,q3,q4,c,by rw [heap_setRow_other _ _ _ _ hne];exact q5,q6⟩
 ·
  have back: ∀(m:Nat) tm mm em,(H.set i (.row t md es2))[m]? =some (Blk.row tm mm em)→ ∃em',H[m]? =some (Blk.row tm mm em'):=by
   intro m tm mm em hm
   by_cases hmi:m=i
   ·subst hmi
    rw [List.getElem?_set_self hil] at hm
    obtain ⟨rfl,rfl,rfl⟩:t=tm∧md=mm∧es2=em:=by simpa using hm
    exact ⟨es,hb⟩
   ·rw [List.getElem?_set_ne (Ne.symm hmi)] at hm
    exact ⟨em,hm⟩
  obtain ⟨ek,hk'⟩:=back k tk mk esk hk
  obtain ⟨ej,hj'⟩:=back j tj mj esj hj
  exact h.inj k j tk mk ek tj mj ej Ik Ij hk' hmk hj' hσk hσj hreal
theorem HRel.fresh (h:HRel P σ B H w):σ H.length=none:=by
 cases e:σ H.length with
 |none=>rfl
 |some I=>exact absurd (h.dom _ _ e) (Nat.lt_irrefl _)
theorem HRel.push (h:HRel P σ B H w) (t:TypeId) (md:Mode) (hmd:md≠ .ro) (es:List (List VV)) (cur:Array Value) (z:Nat) (room:Option Nat)
 (hz: ∀e∈es,e.length=z) (hs:cur.size=room.getD es.length*z) (hown:md= .own→room=none) (hloose:md= .loose→ ∃m,room=some m∧es.length≤m∧m≤9223372036854775807)
 (hcell: ∀(k:Nat) e (j:Nat) v,es[k]? =some e→e[j]? =some v→v.cell=true∧ ∃v',cur[k*z+j]? =some v'∧VRel (σ.push H.length ⟨w.heap.size,0,z,es.length,room⟩) v v'):
 HRel P (σ.push H.length ⟨w.heap.size,0,z,es.length,room⟩) B (H++[.row t md es]) (w.alloc (.cells cur t))∧Mv B σ (σ.push H.length ⟨w.heap.size,0,z,es.length,room⟩) w (w.alloc (.cells cur t)):=by
 have hle:=Sg.le_push (I:=⟨w.heap.size,0,z,es.length,room⟩) h.fresh
 have hself:σ.push H.length ⟨w.heap.size,0,z,es.length,room⟩ H.length=some ⟨w.heap.size,0,z,es.length,room⟩:=by simp [Sg.push]
 have hold: ∀k,k≠H.length→σ.push H.length ⟨w.heap.size,0,z,es.length,room⟩ k=σ k:=fun k hk=>by simp [Sg.push,hk]
 have hnew:(w.alloc (.cells cur t)).heap[w.heap.size]? =some (.cells cur t (0,0)):=by show (w.heap.push _)[w.heap.size]? =_;simp
 have hkeep: ∀k,k<w.heap.size→(w.alloc (.cells cur t)).heap[k]? =w.heap[k]? :=fun k hk=>Below.heap_alloc _ _ _ hk
 have part: ∀(k:Nat) tk mk ek,(H++[Blk.row t md es])[k]? =some (Blk.row tk mk ek)→(k=H.length∧tk=t∧mk=md∧ek=es)∨(k<H.length∧H[k]? =some (Blk.row tk mk ek)):=by
  intro k tk mk ek hk
  rcases Nat.lt_or_ge k H.length with hlt|hge
  ·rw [List.getElem?_append_left hlt] at hk;exact .inr ⟨hlt,hk⟩
  ·rw [List.getElem?_append_right hge] at hk
   have hk0:k-H.length=0:=by
    rcases Nat.eq_zero_or_pos (k-H.length) with h0|h0
    ·exact h0
    ·rw [List.getElem?_eq_none (by simp;omega)] at hk;cases hk
   rw [hk0] at hk
   obtain ⟨rfl,rfl,rfl⟩:t=tk∧md=mk∧es=ek:=by simpa using hk
   exact .inl ⟨by omega,rfl,rfl,rfl⟩
 have partO: ∀(k:Nat) o,(H++[Blk.row t md es])[k]? =some (Blk.obj o)→k<H.length∧H[k]? =some (Blk.obj o):=by
  intro k o hk
  rcases Nat.lt_or_ge k H.length with hlt|hge
  ·rw [List.getElem?_append_left hlt] at hk;exact ⟨hlt,hk⟩
  ·rw [List.getElem?_append_right hge] at hk
   cases hk0:k-H.length with
   |zero=>rw [hk0] at hk;simp at hk
   |succ z=>rw [hk0] at hk;simp at hk
 refine ⟨⟨by simp;exact Nat.le_succ_of_le h.base,fun k K hk=> ?_,fun k tk mk ek hk=> ?_,fun k j tk mk ek tj mj ej Ik Ij hk hmk hj hσk hσj hreal=> ?_,fun k o hk=> ?_,fun k j o o' Ik Ij hk hj hσk hσj hreal=> ?_,h.glob.mono hle,fit_push h.fit (by simp) (by simp)⟩,Mv.alloc h.fresh rfl h.base _⟩
 rotate_right 2
 ·obtain ⟨hlt,hk'⟩:=partO k o hk
  obtain ⟨J,ho,j1,j2,j3,j4,j5⟩:=h.objs k o hk'
  exact ⟨J,ho,hle _ _ j1,j2,j3,by rw [hkeep _ (Array.getElem?_eq_some_iff.1 j4).1];exact j4,j5.mono hle⟩
 ·obtain ⟨hlt,hk'⟩:=partO k o hk
  obtain ⟨hlt2,hj'⟩:=partO j o' hj
  rw [hold k (by omega)] at hσk
  rw [hold j (by omega)] at hσj
  exact h.oinj k j o o' Ik Ij hk' hj' hσk hσj hreal
 ·by_cases hkl:k=H.length
  ·subst hkl;rw [hself] at hk;cases hk;simp
  ·rw [hold k hkl] at hk
   have:=h.dom k K hk
   simp;omega
 ·rcases part k tk mk ek hk with ⟨rfl,rfl,rfl,rfl⟩|⟨hlt,hk'⟩
  ·refine ⟨_,hself,by simp,rfl,hz,fun a e j v he hv=> ?_,fun h'=>absurd h' hmd,fun _=>⟨h.base,fun hm=>⟨hown hm,rfl⟩,hloose,cur,hnew,by simpa using hs⟩⟩
   obtain ⟨h1,v',h2,h3⟩:=hcell a e j v he hv
   exact ⟨h1,v',by rw [cell?_of_heap hnew,Nat.zero_add];exact h2,h3⟩
  ·obtain ⟨K,hK⟩:=h.rows k tk mk ek hk'
   have hKr:=hK.lt
   refine ⟨K,hle _ _ hK.here,by simp;omega,hK.len,hK.esz,fun a e j v he hv=> ?_,hK.old,fun hm=> ?_⟩
   ·obtain ⟨h1,v',h2,h3⟩:=hK.cell a e j v he hv
    exact ⟨h1,v',by rw [World.cell?_alloc_lt _ _ _ hKr];exact h2,h3.mono hle⟩
   ·obtain ⟨q1,q3,q4,c,q5,q6⟩:=hK.own hm
    exact ⟨q1,q3,q4,c,by rw [hkeep _ hKr];exact q5,q6⟩
 ·rcases part k tk mk ek hk with ⟨rfl,_⟩|⟨hlt,hk'⟩<;>rcases part j tj mj ej hj with ⟨rfl,_⟩|⟨hlt',hj'⟩
  ·rfl
  ·rw [hself] at hσk;cases hσk
   rw [hold j (by omega)] at hσj
   obtain ⟨J,hJ⟩:=h.rows j tj mj ej hj'
   have hJI:J=Ij:=Option.some.inj (hJ.here.symm.trans hσj)
   have:=hJ.lt
   rw [hJI] at this
   simp at hreal;omega
  ·rw [hself] at hσj;cases hσj
   rw [hold k (by omega)] at hσk
   obtain ⟨J,hJ⟩:=h.rows k tk mk ek hk'
   have hJI:J=Ik:=Option.some.inj (hJ.here.symm.trans hσk)
   have:=hJ.lt
   rw [hJI] at this
   simp at hreal;omega
  ·rw [hold k (by omega)] at hσk
   rw [hold j (by omega)] at hσj
   exact h.inj k j tk mk ek tj mj ej Ik Ij hk' hmk hj' hσk hσj hreal
theorem HRel.kill (h:HRel P σ B H w) (i:Nat):HRel P σ B (H.set i .dead) w:=by
 have back: ∀(m:Nat) tm mm em,(H.set i .dead)[m]? =some (Blk.row tm mm em)→H[m]? =some (Blk.row tm mm em):=by
  intro m tm mm em hm
  by_cases hmi:m=i
  ·subst hmi
   rcases Nat.lt_or_ge m H.length with hlt|hge
   ·rw [List.getElem?_set_self hlt] at hm;cases hm
   ·rw [List.getElem?_eq_none (by simp;exact hge)] at hm;cases hm
  ·rwa [List.getElem?_set_ne (Ne.symm hmi)] at hm
 have backO: ∀(m:Nat) o,(H.set i .dead)[m]? =some (Blk.obj o)→H[m]? =some (Blk.obj o):=by
  intro m o hm
  by_cases hmi:m=i
  ·subst hmi
   rcases Nat.lt_or_ge m H.length with hlt|hge
   ·rw [List.getElem?_set_self hlt] at hm;cases hm
   ·rw [List.getElem?_eq_none (by simp;exact hge)] at hm;cases hm
  ·rwa [List.getElem?_set_ne (Ne.symm hmi)] at hm
 exact ⟨h.base,fun k K hk=>by rw [List.length_set];exact h.dom k K hk,fun k tk mk ek hk=>h.rows k tk mk ek (back _ _ _ _ hk),
  fun k j tk mk ek tj mj ej Ik Ij hk hmk hj=>h.inj k j tk mk ek tj mj ej Ik Ij (back _ _ _ _ hk) hmk (back _ _ _ _ hj),fun k o hk=>h.objs k o (backO _ _ hk),fun k j o o' Ik Ij hk hj=>h.oinj k j o o' Ik Ij (backO _ _ hk) (backO _ _ hj),h.glob,h.fit⟩
theorem HRel.heap_eq {w':World} (h:HRel P σ B H w) (he:w'.heap=w.heap):HRel P σ B H w':=by
 have hc: ∀a,w'.cell? a=w.cell? a:=fun a=>by simp [World.cell?,he]
 exact ⟨by rw [he];exact h.base,fun k K hk=>h.dom k K hk,fun k tk mk ek hk=>by
  obtain ⟨I,hI⟩:=h.rows k tk mk ek hk
  exact ⟨I,hI.here,by rw [he];exact hI.lt,hI.len,hI.esz,fun a e j v he hv=>by rw [hc];exact hI.cell a e j v he hv,hI.old,fun hm=>by rw [he];exact hI.own hm⟩,h.inj,fun k o hk=>by rw [he];exact h.objs k o hk,h.oinj,h.glob,by rw [he];exact h.fit⟩
theorem HRel.later {w':World} (h:HRel P σ B H w) (hb:Below w.heap.size w w'):HRel P σ B H w':=by
 refine ⟨Nat.le_trans h.base hb.size,fun k K hk=>h.dom k K hk,fun k tk mk ek hk=> ?_,h.inj,fun k o hk=> ?_,h.oinj,h.glob,fun k K hk=>Nat.lt_of_lt_of_le (h.fit k K hk) hb.size⟩
 rotate_right
 ·obtain ⟨J,ho,j1,j2,j3,j4,j5⟩:=h.objs k o hk
  exact ⟨J,ho,j1,j2,j3,by rw [hb.block _ (Array.getElem?_eq_some_iff.1 j4).1];exact j4,j5⟩
 obtain ⟨I,hI⟩:=h.rows k tk mk ek hk
 have hr:=hI.lt
 exact ⟨I,hI.here,Nat.lt_of_lt_of_le hr hb.size,hI.len,hI.esz,fun a e j v he hv=>by rw [hb.cell (p:=⟨I.real,_,none⟩) hr];exact hI.cell a e j v he hv,hI.old,
  fun hm=>by rw [hb.block _ hr];exact hI.own hm⟩
theorem HRel.pushObjI (h:HRel P σ B H w) (I:Info) (hI1:I.real=w.heap.size) (hI2:I.base=0) (o:MOb) (ho:Obj) (hr: ∀τ:Sg,σ.le τ→ObRel P τ o ho):
 HRel P (σ.push H.length I) B (H++[.obj o]) (w.alloc ho)∧Mv B σ (σ.push H.length I) w (w.alloc ho):=by
 have hle:=Sg.le_push (I:=I) h.fresh
 have hself:σ.push H.length I H.length=some I:=by simp [Sg.push]
 have hold: ∀k,k≠H.length→σ.push H.length I k=σ k:=fun k hk=>by simp [Sg.push,hk]
 have hnew:(w.alloc ho).heap[w.heap.size]? =some ho:=by show (w.heap.push _)[w.heap.size]? =_;simp
 have hkeep: ∀k,k<w.heap.size→(w.alloc ho).heap[k]? =w.heap[k]? :=fun k hk=>Below.heap_alloc _ _ _ hk
 have part: ∀(k:Nat) tk mk ek,(H++[Blk.obj o])[k]? =some (Blk.row tk mk ek)→k<H.length∧H[k]? =some (Blk.row tk mk ek):=by
  intro k tk mk ek hk
  rcases Nat.lt_or_ge k H.length with hlt|hge
  ·rw [List.getElem?_append_left hlt] at hk;exact ⟨hlt,hk⟩
  ·rw [List.getElem?_append_right hge] at hk
   cases hk0:k-H.length with
   |zero=>rw [hk0] at hk;simp at hk
   |succ z=>rw [hk0] at hk;simp at hk
 have partO: ∀(k:Nat) o',(H++[Blk.obj o])[k]? =some (Blk.obj o')→(k=H.length∧o'=o)∨(k<H.length∧H[k]? =some (Blk.obj o')):=by
  intro k o' hk
  rcases Nat.lt_or_ge k H.length with hlt|hge
  ·rw [List.getElem?_append_left hlt] at hk;exact .inr ⟨hlt,hk⟩
  ·rw [List.getElem?_append_right hge] at hk
   cases hk0:k-H.length with
   |zero=>rw [hk0] at hk;simp at hk;exact .inl ⟨by omega,hk.symm⟩
   |succ z=>rw [hk0] at hk;simp at hk
 refine ⟨⟨by simp;exact Nat.le_succ_of_le h.base,fun k K hk=> ?_,fun k tk mk ek hk=> ?_,fun k j tk mk ek tj mj ej Ik Ij hk hmk hj hσk hσj hreal=> ?_,fun k o' hk=> ?_,fun k j o1 o2 Ik Ij hk hj hσk hσj hreal=> ?_,h.glob.mono hle,fit_push h.fit (by rw [hI1];simp) (by simp)⟩,Mv.alloc h.fresh hI1 h.base _⟩
 ·by_cases hkl:k=H.length
  ·subst hkl;rw [hself] at hk;cases hk;simp
  ·rw [hold k hkl] at hk
   have:=h.dom k K hk
   simp;omega
 ·obtain ⟨hlt,hk'⟩:=part k tk mk ek hk
  obtain ⟨K,hK⟩:=h.rows k tk mk ek hk'
  have hKr:=hK.lt
  refine ⟨K,hle _ _ hK.here,by simp;omega,hK.len,hK.esz,fun a e j v he hv=> ?_,hK.old,fun hm=> ?_⟩
  ·obtain ⟨h1,v',h2,h3⟩:=hK.cell a e j v he hv
   exact ⟨h1,v',by rw [World.cell?_alloc_lt _ _ _ hKr];exact h2,h3.mono hle⟩
  ·obtain ⟨q1,q3,q4,c,q5,q6⟩:=hK.own hm
   exact ⟨q1,q3,q4,c,by rw [hkeep _ hKr];exact q5,q6⟩
 ·obtain ⟨hlt,hk'⟩:=part k tk mk ek hk
  obtain ⟨hlt',hj'⟩:=part j tj mj ej hj
  rw [hold k (by omega)] at hσk
  rw [hold j (by omega)] at hσj
  exact h.inj k j tk mk ek tj mj ej Ik Ij hk' hmk hj' hσk hσj hreal
 ·rcases partO k o' hk with ⟨rfl,rfl⟩|⟨hlt,hk'⟩
  ·exact ⟨I,ho,hself,by rw [hI1];exact h.base,hI2,by rw [hI1];exact hnew,hr _ hle⟩
  ·obtain ⟨J,ho',j1,j2,j3,j4,j5⟩:=h.objs k o' hk'
   exact ⟨J,ho',hle _ _ j1,j2,j3,by rw [hkeep _ (Array.getElem?_eq_some_iff.1 j4).1];exact j4,j5.mono hle⟩
 ·rcases partO k o1 hk with ⟨rfl,_⟩|⟨hlt,hk'⟩<;>rcases partO j o2 hj with ⟨rfl,_⟩|⟨hlt',hj'⟩
  ·rfl
  ·rw [hself] at hσk;cases hσk
   rw [hold j (by omega)] at hσj
   obtain ⟨J,ho',j1,_,_,j4,_⟩:=h.objs j o2 hj'
   have hJI:J=Ij:=Option.some.inj (j1.symm.trans hσj)
   have:=(Array.getElem?_eq_some_iff.1 j4).1
   rw [hJI] at this
   rw [hI1] at hreal;omega
  ·rw [hself] at hσj;cases hσj
   rw [hold k (by omega)] at hσk
   obtain ⟨J,ho',j1,_,_,j4,_⟩:=h.objs k o1 hk'
   have hJI:J=Ik:=Option.some.inj (j1.symm.trans hσk)
   have:=(Array.getElem?_eq_some_iff.1 j4).1
   rw [hJI] at this
   rw [hI1] at hreal;omega
  ·rw [hold k (by omega)] at hσk
   rw [hold j (by omega)] at hσj
   exact h.oinj k j o1 o2 Ik Ij hk' hj' hσk hσj hreal
theorem HRel.pushObj (h:HRel P σ B H w) (o:MOb) (ho:Obj) (hno: ∀cur t fr,ho≠ .cells cur t fr) (hr: ∀τ:Sg,σ.le τ→ObRel P τ o ho):
 HRel P (σ.push H.length ⟨w.heap.size,0,0,0,none⟩) B (H++[.obj o]) (w.alloc ho)∧Mv B σ (σ.push H.length ⟨w.heap.size,0,0,0,none⟩) w (w.alloc ho):=h.pushObjI _ rfl rfl o ho hr
theorem HRel.setObj (h:HRel P σ B H w) {i:Nat} {o o':MOb} {I:Info} (hb:H[i]? =some (.obj o)) (hI:σ i=some I) {w':World} {ho:Obj} (hsz:w'.heap.size=w.heap.size) (hnew:w'.heap[I.real]? =some ho) (hold: ∀k,k≠I.real→w'.heap[k]? =w.heap[k]?)
 (hos:w'.os=w.os) (hr:ObRel P σ o' ho) (hbl:Below B w w'):HRel P σ B (H.set i (.obj o')) w':=by
 have hil:i<H.length:=(List.getElem?_eq_some_iff.1 hb).1
 obtain ⟨I',ho0,i1,i2,i3,i4,i5⟩:=h.objs i o hb
 have:I'=I:=Option.some.inj (i1.symm.trans hI)
 subst this
 have back: ∀(m:Nat) tm mm em,(H.set i (.obj o'))[m]? =some (Blk.row tm mm em)→H[m]? =some (Blk.row tm mm em):=by
  intro m tm mm em hm
  by_cases hmi:m=i
  ·subst hmi;rw [List.getElem?_set_self hil] at hm;cases hm
  ·rwa [List.getElem?_set_ne (Ne.symm hmi)] at hm
 have cellq: ∀a:Addr,a.block≠I'.real→w'.cell? a=w.cell? a:=fun a ha=>by simp only [World.cell?,hold _ ha]
 refine ⟨by rw [hsz];exact h.base,fun k K hk=>by rw [List.length_set];exact h.dom k K hk,fun k tk mk ek hk=> ?_,fun k j tk mk ek tj mj ej Ik Ij hk hmk hj=>h.inj k j tk mk ek tj mj ej Ik Ij (back _ _ _ _ hk) hmk (back _ _ _ _ hj),fun k o1 hk=> ?_,fun k j o1 o2 Ik Ij hk hj=> ?_,h.glob,by rw [hsz];exact h.fit⟩
 ·have hk':=back _ _ _ _ hk
  obtain ⟨K,hK⟩:=h.rows k tk mk ek hk'
  have hne:=h.apart hk' hb hK.here hI
  refine ⟨K,hK.here,by rw [hsz];exact hK.lt,hK.len,hK.esz,fun a e j v he hv=> ?_,hK.old,fun hm=> ?_⟩
  ·obtain ⟨h1,v',h2,h3⟩:=hK.cell a e j v he hv
   exact ⟨h1,v',by rw [cellq _ hne];exact h2,h3⟩
  ·obtain ⟨q1,q3,q4,c,q5,q6⟩:=hK.own hm
   exact ⟨q1,q3,q4,c,by rw [hold _ hne];exact q5,q6⟩
 ·by_cases hki:k=i
  ·subst hki
   rw [List.getElem?_set_self hil] at hk
   cases hk
   exact ⟨I',ho,hI,i2,i3,hnew,hr⟩
  ·rw [List.getElem?_set_ne (Ne.symm hki)] at hk
   obtain ⟨J,ho',j1,j2,j3,j4,j5⟩:=h.objs k o1 hk
   have hne:J.real≠I'.real:=fun e=>hki (h.oinj k i o1 o J I' hk hb j1 hI e)
   exact ⟨J,ho',j1,j2,j3,by rw [hold _ hne];exact j4,j5⟩
 ·have b2: ∀(m:Nat) om,(H.set i (.obj o'))[m]? =some (Blk.obj om)→ ∃om',H[m]? =some (Blk.obj om'):=by
   intro m om hm
   by_cases hmi:m=i
   ·subst hmi;exact ⟨o,hb⟩
   ·rw [List.getElem?_set_ne (Ne.symm hmi)] at hm;exact ⟨om,hm⟩
  obtain ⟨ok,hk'⟩:=b2 k o1 hk
  obtain ⟨oj,hj'⟩:=b2 j o2 hj
  exact h.oinj k j ok oj Ik Ij hk' hj'
end
end Go.Wm
end
section
namespace Go.Wm
set_option linter.unusedSimpArgs false
set_option linter.unusedVariables false
open Go.RowKit
def applyU:Hp→Up→Hp
 |H,[]=>H
 |H,(i,b)::r=>applyU (if i<H.length then H.set i b else H++[b]) r
theorem applyU_nil (H:Hp):applyU H []=H:=rfl
theorem applyU_set {H:Hp} {i:Nat} (h:i<H.length) (b:Blk):applyU H [(i,b)]=H.set i b:=by simp [applyU,h]
theorem applyU_push (H:Hp) (b:Blk):applyU H [(H.length,b)]=H++[b]:=by simp [applyU]
def EffOk (P:Program) (σ:Sg) (B:Nat) (H':Hp) (w:World) (a:Act) (o:Oper) (v:VV):Prop:=
 ∃σ' v' w',Mv B σ σ' w w'∧HRel P σ' B H' w'∧VRel σ' v v'∧
  ((execOp a.eval o).run P w= .ok (.value v') w'∨((execOp a.eval o).run P w= .ok .skip w'∧v'=undef))
section
variable {P:Program} {σ:Sg} {B N:Nat} {H:Hp} {us:Up} {w:World} {a:Act} {E:Fr} {o:Oper} {v:VV}
theorem okCells_get {l:List VV} (h:okCells l=true) {i:Nat} {u:VV} (hu:l[i]? =some u):u.cell=true:=
 List.all_eq_true.1 h u (List.mem_of_getElem? hu)
theorem cells_one {l:List VV} {l':List Value} (h:okCells l=true) (hr:LRel σ l l'): ∀u∈l',u.oneCell'=true:=by
 intro u hu
 obtain ⟨i,hi⟩:=List.getElem?_of_mem hu
 have hlt:i<l.length:=by rw [hr.length];exact (List.getElem?_eq_some_iff.1 hi).1
 obtain ⟨u',h1,h2⟩:=hr.get (List.getElem?_eq_getElem hlt)
 have:u'=u:=by rw [h1] at hi;exact Option.some.inj hi
 subst this
 exact h2.oneCell (okCells_get h (List.getElem?_eq_getElem hlt))
theorem splice_get (cur:Array Value) (o:Nat) (vs:List Value) (h:o+vs.length≤cur.size):
 (cur.toList.take o++vs++cur.toList.drop (o+vs.length)).toArray.size=cur.size∧
 ∀k:Nat,(cur.toList.take o++vs++cur.toList.drop (o+vs.length)).toArray[k]? =if o≤k∧k<o+vs.length then vs[k-o]? else cur[k]? :=by
 refine ⟨by simp;omega,fun k=> ?_⟩
 rw [List.getElem?_toArray]
 by_cases h1:k<o
 ·rw [if_neg (by omega),List.append_assoc,List.getElem?_append_left (by simp;omega),List.getElem?_take,if_pos h1,Array.getElem?_toList]
 ·by_cases h2:k<o+vs.length
  ·rw [if_pos (by omega),List.getElem?_append_left (by simp;omega),List.getElem?_append_right (by simp;omega)]
   congr 1;simp;omega
  ·rw [if_neg (by omega),List.getElem?_append_right (by simp;omega),List.getElem?_drop,Array.getElem?_toList]
   congr 1;simp;omega
theorem eff_store {t:TypeId} {x y:Operand} {x' y':Od} {i:TypeInfo} (ho:o.op= .store t x y) (hi:P.info? t=some i) (hx:compOd x=some x') (hy:compOd y=some y')
 (hH:HRel P σ B H w) (hF:FRel σ N E a) (he:(VEf.store i.size x' y').ev E H.g H.length=some (v,us)):EffOk P σ B (applyU H us) w a o v:=by
 simp only [VEf.ev] at he
 cases h1:x'.ev E with
 |none=>simp [h1] at he
 |some p'=>
  cases h2:y'.ev E with
  |none=>cases p'<;>simp [h1,h2] at he
  |some u=>
   have r1:=compOd_ok hx hF h1
   have r2:=compOd_ok hy hF h2
   cases p'<;>simp [h1,h2] at he
   rename_i q
   cases q with
   |none=>simp at he
   |some p=>
    simp at he
    obtain ⟨⟨hd,hn⟩,he⟩:=he
    obtain ⟨ad,e1,J,hJ,had⟩:=ptr_inv r1
    cases hs:stc H.g p u.cells with
    |none=>simp [hs] at he
    |some K=>
     simp [hs] at he
     obtain ⟨rfl,rfl⟩:=he
     unfold stc at hs
     split at hs
     case h_2=>cases hs
     rename_i t' md es hb
     split at hs
     case isTrue=>cases hs
     rename_i hmd
     split at hs
     case h_2=>cases hs
     rename_i e hes
     split at hs
     case isFalse=>cases hs
     rename_i hfit
     obtain ⟨hfit,hok⟩:=hfit
     simp at hs;subst hs
     have hil:p.blk<H.length:=(List.getElem?_eq_some_iff.1 hb).1
     rw [applyU_set hil]
     obtain ⟨I,hR⟩:=hH.rows _ _ _ _ hb
     have eI:I=J:=Option.some.inj (hR.here.symm.trans hJ)
     subst eI
     obtain ⟨hB,_,hlo,cur,hcur,hsz⟩:=hR.own hmd
     have hel:=hR.esz e (List.mem_of_getElem? hes)
     have hidx:p.idx<I.n:=by rw [←hR.len];exact (List.getElem?_eq_some_iff.1 hes).1
     have hcr:=cells_rel r2 hd
     have hone:=cells_one hok hcr
     have hroom:I.n≤I.room.getD I.n:=by
      cases md with
      |ro=>exact absurd rfl hmd
      |own=>have:=((hR.own hmd).2.1 rfl).1;simp [this]
      |loose=>obtain ⟨m,hm,hle,_⟩:=hlo rfl;simp [hm];exact hle
     have hlen:(a.eval y).cells.toList.length=u.cells.length:=hcr.length.symm
     have hoff:I.base+p.idx*I.esz+p.off+(a.eval y).cells.toList.length≤cur.size:=by
      rw [hsz,hlen]
      have h3:(p.idx+1)*I.esz≤I.room.getD I.n*I.esz:=Nat.mul_le_mul_right _ (by omega)
      rw [Nat.add_mul,Nat.one_mul] at h3
      omega
     have hst:=run_storeCells_at P I.real (I.base+p.idx*I.esz+p.off) t' (a.eval y).cells.toList 0 cur w hcur (by omega) hone
     simp only [Nat.add_zero] at hst
     obtain ⟨g1,g2⟩:=splice_get cur (I.base+p.idx*I.esz+p.off) _ hoff
     obtain ⟨u1,u2⟩:=upd_get u.cells e p.off hfit
     have hset:=hH.store hb hmd hJ hcur g1 (es2:=es.set p.idx (upd e p.off u.cells)) (by simp) (fun e2 he2=>by
      rcases List.mem_or_eq_of_mem_set he2 with h'|h'
      ·exact hR.esz e2 h'
      ·rw [h',u1];exact hel) (fun k e2 j u' hk hj=>by
      rw [g2]
      by_cases hkp:k=p.idx
      ·subst hkp
       rw [List.getElem?_set_self (by rw [hR.len];exact hidx)] at hk
       simp at hk;subst hk
       rw [u2] at hj
       split at hj
       ·rename_i hjr
        obtain ⟨u'',q1,q2⟩:=hcr.get hj
        refine ⟨okCells_get hok hj,u'',?_,q2⟩
        rw [if_pos (by rw [hlen];omega),←q1]
        congr 1;omega
       ·rename_i hjr
        obtain ⟨q0,v',q1,q2⟩:=hR.cell _ _ _ _ hes hj
        refine ⟨q0,v',?_,q2⟩
        rw [if_neg (by rw [hlen];omega)]
        rw [cell?_of_heap hcur] at q1
        exact q1
      ·rw [List.getElem?_set_ne (Ne.symm hkp)] at hk
       obtain ⟨q0,v',q1,q2⟩:=hR.cell _ _ _ _ hk hj
       refine ⟨q0,v',?_,q2⟩
       rw [cell?_of_heap hcur] at q1
       have hj2:j<I.esz:=by rw [←hR.esz e2 (List.mem_of_getElem? hk)];exact (List.getElem?_eq_some_iff.1 hj).1
       rw [if_neg ?_]
       ·exact q1
       ·rw [hlen]
        intro ⟨c1,c2⟩
        rcases Nat.lt_or_gt_of_ne hkp with h'|h'
        ·have:(k+1)*I.esz≤p.idx*I.esz:=Nat.mul_le_mul_right _ h'
         rw [Nat.add_mul] at this;omega
        ·have:(p.idx+1)*I.esz≤k*I.esz:=Nat.mul_le_mul_right _ h'
         rw [Nat.add_mul] at this;omega)
     refine ⟨σ,undef,_,hset.2,hset.1,.undef _,.inr ⟨?_,rfl⟩⟩
     have hsize:(a.eval y).cells.size=i.size:=by rw [←hn,←hlen];simp
     have hst':(storeCells ad (a.eval y).cells.toList).run P w= .ok () (w.setRow I.real (cur.toList.take (I.base+p.idx*I.esz+p.off)++(a.eval y).cells.toList++cur.toList.drop (I.base+p.idx*I.esz+p.off+(a.eval y).cells.toList.length)).toArray):=by
      rw [had];exact hst
     simp only [execOp,ho,e1,Instr.storeAt,Instr.sureAddr,Sem.run_bind,Sem.run_pure,Result.andThen_ok,storeVar,sizeOf,typeInfo,run_program,hi,hsize,ne_eq,not_true_eq_false,if_false,hst']
theorem push_one (hH:HRel P σ B H w) (t:TypeId) {l:List VV} {l':Array Value} (hr:LRel σ l l'.toList) (hok:okCells l=true):
 ∃σ',Mv B σ σ' w (w.alloc (.cells l' t))∧HRel P σ' B (H++[.row t .own [l]]) (w.alloc (.cells l' t))∧VRel σ' (.ptr (some ⟨H.length,0,0⟩)) (.pointer (some ⟨w.heap.size,0,none⟩)):=by
 have hle:=Sg.le_push (I:=⟨w.heap.size,0,l.length,1,none⟩) hH.fresh
 have h:=hH.push t .own (by simp) [l] l' l.length none (by simp) (by simp [hr.length]) (fun _=>rfl) (by simp) (fun k e j v hk hj=>by
  cases k with
  |succ k=>simp at hk
  |zero=>
   simp at hk;subst hk
   obtain ⟨v',h1,h2⟩:=hr.get hj
   exact ⟨okCells_get hok hj,v',by simpa using h1,h2.mono hle⟩)
 exact ⟨_,h.2,h.1,.ptr ⟨_,by simp [Sg.push];rfl,by simp⟩⟩
theorem eff_alloc {t:TypeId} {zs:List VV} (ho:o.op= .alloc t) (hz:zerosOf P t=some zs) (hok:okCells zs=true)
 (hH:HRel P σ B H w) (he:(VEf.alloc t zs).ev E H.g H.length=some (v,us)):EffOk P σ B (applyU H us) w a o v:=by
 simp [VEf.ev] at he
 obtain ⟨rfl,rfl⟩:=he
 obtain ⟨z,hz1,_,hz2⟩:=zerosOf_run (σ:=σ) hz
 rw [applyU_push]
 obtain ⟨σ',q1,q2,q3⟩:=push_one hH t hz1 hok
 refine ⟨σ',_,_,q1,q2,q3,.inl ?_⟩
 simp [execOp,ho,Instr.alloc,hz2,newVar,newRow]
theorem eff_box {t:TypeId} {x:Operand} {x':Od} (ho:o.op= .box t x) (hx:compOd x=some x')
 (hH:HRel P σ B H w) (hF:FRel σ N E a) (he:(VEf.box t x').ev E H.g H.length=some (v,us)):EffOk P σ B (applyU H us) w a o v:=by
 simp only [VEf.ev] at he
 cases h1:x'.ev E with
 |none=>simp [h1] at he
 |some u=>
  have r1:=compOd_ok hx hF h1
  simp [h1] at he
  obtain ⟨⟨hd,hok⟩,rfl,rfl⟩:=he
  rw [applyU_push]
  obtain ⟨σ',q1,q2,q3⟩:=push_one hH t (cells_rel r1 hd) hok
  refine ⟨σ',_,_,q1,q2,q3,.inl ?_⟩
  simp [execOp,ho,Instr.box,newVar,newRow]
theorem push_rows (hH:HRel P σ B H w) (t:TypeId) {es:List (List VV)} {cur:Array Value} {z:Nat} (hf:Flat σ z es cur) (hs:cur.size=es.length*z) (m:Nat) (hm:m≤es.length):
 ∃σ',Mv B σ σ' w (w.alloc (.cells cur t))∧HRel P σ' B (H++[.row t .own es]) (w.alloc (.cells cur t))∧VRel σ' (.sl (some ⟨H.length,0,0⟩) m es.length) (.slice (some ⟨w.heap.size,0,none⟩) m es.length):=by
 have hle:=Sg.le_push (I:=⟨w.heap.size,0,z,es.length,none⟩) hH.fresh
 have h:=hH.push t .own (by simp) es cur z none hf.esz (by simp [hs]) (fun _=>rfl) (by simp) (fun k e j v hk hj=>by
  obtain ⟨q0,v',q1,q2⟩:=hf.cell k e j v hk hj
  exact ⟨q0,v',q1,q2.mono hle⟩)
 exact ⟨_,h.2,h.1,.sl ⟨hm,.inl ⟨⟨_,by simp [Sg.push];rfl,by simp⟩,rfl⟩⟩⟩
theorem Below.putObj {B r:Nat} {w:World} (h:B≤r) (o:Obj):Below B w {w with heap:=w.heap.setIfInBounds r o}:=
 ⟨rfl,rfl,rfl,by simp,fun k hk=>by rw [Array.getElem?_setIfInBounds_ne (by omega)]⟩
theorem eff_mkmap {t:TypeId} (ho:o.op= .makeMap t none) (hH:HRel P σ B H w) (he:VEf.mkmap.ev E H.g H.length=some (v,us)):EffOk P σ B (applyU H us) w a o v:=by
 simp [VEf.ev] at he
 obtain ⟨rfl,rfl⟩:=he
 obtain ⟨q1,q2⟩:=hH.pushObj (.map []) (.map #[] 0) (by intro cur t fr h;cases h) (fun τ _=>⟨rfl,rfl,fun k e he=>by simp at he⟩)
 rw [applyU_push]
 refine ⟨_,.map (some w.heap.size),_,q2,q1,?_,.inl ?_⟩
 ·exact VRel.map (I:=⟨w.heap.size,0,0,0,none⟩) (by simp [Sg.push])
 ·simp [execOp,ho,Instr.makeMap,newObj,Sem.run]
theorem eff_mset {t kt et:TypeId} {x k y:Operand} {x' k' y':Od} {kk:KK} (ho:o.op= .mapUpdate t x k y∨o.op= .insert t x k y) (ht:P.underlying t=some (.map kt et)) (hkk:keyKind P kt=some kk) (hx:compOd x=some x') (hk:compOd k=some k') (hy:compOd y=some y')
 (hH:HRel P σ B H w) (hF:FRel σ N E a) (he:(VEf.mset kk x' k' y').ev E H.g H.length=some (v,us)):EffOk P σ B (applyU H us) w a o v:=by
 simp only [VEf.ev] at he
 cases h1:x'.ev E with
 |none=>simp [h1] at he
 |some u=>
  cases h2:k'.ev E with
  |none=>simp [h1,h2] at he
  |some kv=>
   cases h3:y'.ev E with
   |none=>simp [h1,h2,h3] at he
   |some yv=>
    have r1:=compOd_ok hx hF h1
    have r2:=compOd_ok hk hF h2
    have r3:=compOd_ok hy hF h3
    cases u<;>simp [h1,h2,h3] at he
    rename_i p
    cases p with
    |none=>simp at he
    |some b=>
     simp only at he
     split at he
     case isFalse=>cases he
     rename_i hki
     split at he
     case h_2=>cases he
     rename_i es hb
     rcases map_inv r1 with ⟨hc,_⟩|⟨b',I,hc,hI,e1⟩
     ·cases hc
     ·cases hc
      obtain ⟨hB,hlt,cur,hc,hent,hborn⟩:=obj_at hH hb hI
      obtain ⟨kr1,kr2,kr3⟩:=key_run hkk hki r2
      have hil:b<H.length:=(List.getElem?_eq_some_iff.1 hb).1
      have hcs:cur.size=es.length:=by have:=hent.1;simpa using this.symm
      cases hf:findV kk kv es 0 with
      |none=>simp [hf] at he
      |some r=>
       obtain ⟨r',q1,q2⟩:=kr3 hent hf
       have hex: ∀w2,(execOp a.eval o).run P w= .ok .skip w2↔(Instr.mapUpdate t (a.eval x) (a.eval k) (a.eval y)).run P w= .ok () w2:=by
        intro w2
        rcases ho with ho|ho
        ·simp only [execOp,ho,Sem.run_bind]
         cases (Instr.mapUpdate t (a.eval x) (a.eval k) (a.eval y)).run P w<;>simp [Result.andThen]
        ·simp only [execOp,ho,Sem.run_bind]
         cases (Instr.mapUpdate t (a.eval x) (a.eval k) (a.eval y)).run P w<;>simp [Result.andThen]
       rcases q2 with ⟨rfl,rfl⟩|⟨j,y0,y0',rfl,rfl,a3,e,e',b1,b2,b3,b6⟩
       ·simp [hf] at he
        obtain ⟨rfl,rfl⟩:=he
        rw [applyU_set hil]
        have hrel:ObRel P σ (.map (es++[(kv,yv)])) (.map (cur.push {key:=a.eval k,val:=a.eval y,born:=es.length}) (es.length+1)):=by
         refine ⟨by simp,by simp [hcs],fun z e he=> ?_⟩
         by_cases hz:z<es.length
         ·rw [List.getElem?_append_left hz] at he
          obtain ⟨e',f1,f2,f3⟩:=hent.2 z e he
          rw [Array.getElem?_toList] at f1
          exact ⟨e',by rw [Array.getElem?_push_lt (by omega)];rw [Array.getElem?_eq_getElem (by omega)] at f1;exact f1,hborn z e' f1,f2,f3⟩
         ·rw [List.getElem?_append_right (by omega)] at he
          have hz0:z=es.length:=by
           have:=(List.getElem?_eq_some_iff.1 he).1
           simp at this;omega
          subst hz0
          simp at he;subst he
          exact ⟨{key:=a.eval k,val:=a.eval y,born:=es.length},by have:=Array.getElem?_push_size (xs:=cur) (x:=({key:=a.eval k,val:=a.eval y,born:=es.length}:MapEntry));rw [hcs] at this;exact this,rfl,r2,r3⟩
        refine ⟨σ,undef,{w with heap:=w.heap.setIfInBounds I.real (.map (cur.push {key:=a.eval k,val:=a.eval y,born:=es.length}) (es.length+1))},Mv.set hI (Below.putObj hB _) (fun z hz=>by rw [Array.getElem?_setIfInBounds_ne (Ne.symm hz)]),hH.setObj hb hI (by simp) (by simp [hlt]) (fun z hz=>by rw [Array.getElem?_setIfInBounds_ne (Ne.symm hz)]) rfl hrel (Below.putObj hB _),.undef _,.inr ⟨?_,rfl⟩⟩
        rw [hex]
        simp [Instr.mapUpdate,run_underlying ht,e1,MapKept.run_getObj_map hc,kr1,q1,MapKept.run_setObj_map _ hc,Result.andThen]
       ·simp [hf] at he
        obtain ⟨rfl,rfl⟩:=he
        rw [applyU_set hil]
        have hjl:j<es.length:=(List.getElem?_eq_some_iff.1 b1).1
        rw [Array.getElem?_toList] at b2
        have hrel:ObRel P σ (.map (es.set j (kv,yv))) (.map (cur.modify j fun e=>{e with key:=a.eval k,val:=a.eval y}) es.length):=by
         refine ⟨by simp,by simp [hcs],fun z e2 he=> ?_⟩
         by_cases hz:z=j
         ·subst hz
          rw [List.getElem?_set_self hjl] at he
          cases he
          exact ⟨{e' with key:=a.eval k,val:=a.eval y},by rw [Array.getElem?_modify,if_pos rfl,b2];rfl,hborn z e' b2,r2,r3⟩
         ·rw [List.getElem?_set_ne (Ne.symm hz)] at he
          obtain ⟨e3,f1,f2,f3⟩:=hent.2 z e2 he
          rw [Array.getElem?_toList] at f1
          exact ⟨e3,by rw [Array.getElem?_modify,if_neg (fun e=>hz e.symm)];exact f1,hborn z e3 f1,f2,f3⟩
        refine ⟨σ,undef,{w with heap:=w.heap.setIfInBounds I.real (.map (cur.modify j fun e=>{e with key:=a.eval k,val:=a.eval y}) es.length)},Mv.set hI (Below.putObj hB _) (fun z hz=>by rw [Array.getElem?_setIfInBounds_ne (Ne.symm hz)]),hH.setObj hb hI (by simp) (by simp [hlt]) (fun z hz=>by rw [Array.getElem?_setIfInBounds_ne (Ne.symm hz)]) rfl hrel (Below.putObj hB _),.undef _,.inr ⟨?_,rfl⟩⟩
        rw [hex]
        have hst:=kr2 w
        simp [Instr.mapUpdate,run_underlying ht,e1,MapKept.run_getObj_map hc,kr1,q1,MapKept.run_setObj_map _ hc,Result.andThen,b2,b6,hst]
theorem eff_rng {t kt et:TypeId} {x:Operand} {x':Od} (ho:o.op= .range t x) (ht:P.underlying t=some (.map kt et)) (hx:compOd x=some x') (hH:HRel P σ B H w) (hF:FRel σ N E a) (he:(VEf.rng x').ev E H.g H.length=some (v,us)):EffOk P σ B (applyU H us) w a o v:=by
 simp only [VEf.ev] at he
 cases h1:x'.ev E with
 |none=>simp [h1] at he
 |some u=>
  have r1:=compOd_ok hx hF h1
  cases u<;>simp [h1] at he
  rename_i p
  cases p with
  |none=>simp at he
  |some b=>
   simp only at he
   split at he
   case h_2=>cases he
   rename_i es hb
   simp at he
   obtain ⟨rfl,rfl⟩:=he
   rcases map_inv r1 with ⟨hc,_⟩|⟨b',I,hc,hI,e1⟩
   ·cases hc
   ·cases hc
    obtain ⟨hB,hlt,cur,hc,hent,hborn⟩:=obj_at hH hb hI
    obtain ⟨q1,q2⟩:=hH.pushObj (.iter b es.length []) (.mapIter (some I.real) es.length #[] es.length) (by intro cur t fr h;cases h) (fun τ hτ=>⟨⟨I,hτ _ _ hI,rfl⟩,rfl,rfl,rfl⟩)
    rw [applyU_push]
    refine ⟨_,.pointer (some ⟨w.heap.size,0,none⟩),_,q2,q1,?_,.inl ?_⟩
    ·exact .ptr ⟨⟨w.heap.size,0,0,0,none⟩,by simp [Sg.push],by simp⟩
    ·simp [execOp,ho,e1,run_range_map w t kt et I.real cur es.length ht hc]
end
end Go.Wm
end
section
namespace Go.Wm
set_option linter.unusedSimpArgs false
set_option linter.unusedVariables false
open Go.RowKit
section
variable {P:Program} {σ:Sg} {B N:Nat} {H:Hp} {us:Up} {w:World} {a:Act} {E:Fr} {o:Oper} {v:VV}
theorem foldl_set_get (off:Nat): ∀(vs:List Value) (k:Nat) (cur:Array Value),off+k+vs.length≤cur.size→
 ((vs.zipIdx k).foldl (fun (c:Array Value) (x:Value×Nat)=>c.setIfInBounds (off+x.2) x.1) cur).size=cur.size∧
 ∀q:Nat,((vs.zipIdx k).foldl (fun (c:Array Value) (x:Value×Nat)=>c.setIfInBounds (off+x.2) x.1) cur)[q]? =if off+k≤q∧q<off+k+vs.length then vs[q-(off+k)]? else cur[q]?
 |[],k,cur,h=>⟨rfl,fun q=>by
  have: ¬(off+k≤q∧q<off+k+([]:List Value).length):=by intro h;simp at h;omega
  rw [if_neg this];rfl⟩
 |x::vs,k,cur,h=>by
  simp only [List.zipIdx_cons,List.foldl_cons]
  obtain ⟨h1,h2⟩:=foldl_set_get off vs (k+1) (cur.setIfInBounds (off+k) x) (by simp at h ⊢;omega)
  refine ⟨by rw [h1];simp,fun q=> ?_⟩
  rw [h2,List.length_cons]
  by_cases hq:q=off+k
  ·subst hq
   rw [if_neg (by omega),if_pos (by omega),Array.getElem?_setIfInBounds_self_of_lt (by simp at h;omega)]
   simp
  ·by_cases hq2:off+(k+1)≤q∧q<off+(k+1)+vs.length
   ·rw [if_pos hq2,if_pos (by omega),show q-(off+k)=(q-(off+(k+1)))+1 by omega];rfl
   ·rw [if_neg hq2,if_neg (by omega),Array.getElem?_setIfInBounds_ne (Ne.symm hq)]
theorem Flat.set {z:Nat} {es:List (List VV)} {cur cur2:Array Value} (h:Flat σ z es cur) {i:Nat} (hi:i<es.length) {e:List VV} {vs:List Value} (hr:LRel σ e vs) (he:e.length=z) (hok:okCells e=true)
 (hs:cur2.size=cur.size) (hg: ∀q:Nat,cur2[q]? =if i*z≤q∧q<i*z+vs.length then vs[q-i*z]? else cur[q]?):Flat σ z (es.set i e) cur2:=by
 have hvl:vs.length=z:=by rw [←hr.length,he]
 refine ⟨by rw [List.length_set,hs];exact h.size,fun e2 he2=> ?_,fun k e2 j u hk hj=> ?_⟩
 ·rcases List.mem_or_eq_of_mem_set he2 with h'|h'
  ·exact h.esz e2 h'
  ·rw [h'];exact he
 ·rw [hg]
  by_cases hki:k=i
  ·subst hki
   rw [List.getElem?_set_self hi] at hk
   simp at hk;subst hk
   obtain ⟨u',q1,q2⟩:=hr.get hj
   have hjz:j<z:=by rw [←he];exact (List.getElem?_eq_some_iff.1 hj).1
   refine ⟨okCells_get hok hj,u',?_,q2⟩
   rw [if_pos (by omega),←q1]
   congr 1;omega
  ·rw [List.getElem?_set_ne (Ne.symm hki)] at hk
   obtain ⟨q0,u',q1,q2⟩:=h.cell k e2 j u hk hj
   refine ⟨q0,u',?_,q2⟩
   have hjz:j<z:=by rw [←h.esz e2 (List.mem_of_getElem? hk)];exact (List.getElem?_eq_some_iff.1 hj).1
   rw [if_neg ?_]
   ·exact q1
   ·rw [hvl]
    intro ⟨c1,c2⟩
    rcases Nat.lt_or_gt_of_ne hki with h'|h'
    ·have:(k+1)*z≤i*z:=Nat.mul_le_mul_right _ h'
     rw [Nat.add_mul] at this;omega
    ·have:(i+1)*z≤k*z:=Nat.mul_le_mul_right _ h'
     rw [Nat.add_mul] at this;omega
theorem fillRows_rel {z:Nat}: ∀(parts:List (Nat×Operand)) {l:List (Nat×Od)} {es es':List (List VV)} {cur:Array Value},FRel σ N E a→Flat σ z es cur→compRows parts=some l→fillRows E z es l=some es'→
 ∃cur',Instr.fill (fun i=>some (i*z,z)) cur (parts.map fun x=>(x.1,a.eval x.2))=some cur'∧Flat σ z es' cur'∧cur'.size=cur.size∧es'.length=es.length
 |[],l,es,es',cur,hF,h,hl,hr=>by
  simp [compRows] at hl;subst hl;simp [fillRows] at hr;subst hr
  exact ⟨cur,rfl,h,rfl,rfl⟩
 |(i,x)::parts,l,es,es',cur,hF,h,hl,hr=>by
  unfold compRows at hl
  split at hl
  case h_2=>cases hl
  rename_i y l' hy hrest
  simp at hl;subst hl
  simp only [fillRows] at hr
  cases hv:y.ev E with
  |none=>simp [hv] at hr
  |some u=>
   rw [hv] at hr
   simp only at hr
   split at hr
   case isFalse=>cases hr
   rename_i hc
   obtain ⟨hd,hn,hok,hi⟩:=hc
   have hcr:=cells_rel (compOd_ok hy hF hv) hd
   have hlen:(a.eval x).cells.toList.length=z:=by rw [←hcr.length];exact hn
   have hsz:(a.eval x).cells.size=z:=by simpa using hlen
   have hfit:i*z+0+(a.eval x).cells.toList.length≤cur.size:=by
    have h1:(i+1)*z≤es.length*z:=Nat.mul_le_mul_right _ hi
    have h2:=h.size
    rw [Nat.add_mul] at h1
    omega
   obtain ⟨f1,f2⟩:=foldl_set_get (i*z) (a.eval x).cells.toList 0 cur hfit
   have hset:=h.set hi hcr hn hok f1 (fun q=>by rw [f2];simp only [Nat.add_zero])
   obtain ⟨cur',q1,q2,q3,q4⟩:=fillRows_rel parts hF hset hrest hr
   refine ⟨cur',?_,q2,by rw [q3,f1],by rw [q4,List.length_set]⟩
   rw [←q1]
   have hsz2: ¬(i*z+z>cur.size):=by omega
   simp only [List.map_cons,Instr.fill,hsz,hsz2,ne_eq,not_true_eq_false,decide_false,Bool.or_self,bne_self_eq_false,Bool.false_eq_true,if_false]
   congr 1
   rw [←Array.foldl_toList,Array.toList_zipIdx]
theorem flat_zeros {zs:List VV} {zc:Array Value} (hr:LRel σ zs zc.toList) (hok:okCells zs=true) (hz:0<zs.length) (m:Nat) (cur:Array Value) (hs:cur.size=m*zs.length) (hc: ∀q,q<m*zs.length→cur[q]? =zc[q % zs.length]?):
 Flat σ zs.length (List.replicate m zs) cur:=by
 refine ⟨by simp [hs],fun e he=>by rw [(List.mem_replicate.1 he).2],fun k e j u hk hj=> ?_⟩
 have hkm:k<m:=by
  have:=(List.getElem?_eq_some_iff.1 hk).1
  simpa using this
 have he:e=zs:=by
  rw [List.getElem?_eq_getElem (by simpa using hkm)] at hk
  simpa using hk.symm
 subst he
 obtain ⟨u',q1,q2⟩:=hr.get hj
 have hj':=(List.getElem?_eq_some_iff.1 hj).1
 refine ⟨okCells_get hok hj,u',?_,q2⟩
 have hlt:k*e.length+j<m*e.length:=by
  have:(k+1)*e.length≤m*e.length:=Nat.mul_le_mul_right _ hkm
  rw [Nat.add_mul] at this;omega
 rw [hc _ hlt]
 have hmod:(k*e.length+j) % e.length=j:=by
  rw [Nat.mul_comm,Nat.mul_add_mod,Nat.mod_eq_of_lt hj']
 rw [hmod]
 simpa using q1
theorem zeroRow_get (zc:Array Value) (n z:Nat) (hz:zc.size=z) (hp:0<z):((Array.range n).map fun x=>zc[x % zc.size]!).size=n∧ ∀q,q<n→((Array.range n).map fun x=>zc[x % zc.size]!)[q]? =zc[q % z]? :=by
 refine ⟨by simp,fun q hq=> ?_⟩
 have:q % zc.size<zc.size:=Nat.mod_lt _ (by omega)
 simp [hq]
 rw [getElem!_pos zc (q % zc.size) this]
 subst hz
 rw [getElem?_pos zc (q % zc.size) this]
theorem eff_mkrow {t e:TypeId} {n:Nat} {ps:Array (Nat×Operand)} {zs:List VV} {i:TypeInfo} {l:List (Nat×Od)} (ho:o.op= .buildSlice t n ps) (ht:P.underlying t=some (.slice e)) (hz:zerosOf P e=some zs) (hi:P.info? e=some i)
 (hl:compRows ps.toList=some l) (hok:okCells zs=true) (his:i.size=zs.length) (hp:0<zs.length) (hbig:n*zs.length≤16777216)
 (hH:HRel P σ B H w) (hF:FRel σ N E a) (he:(VEf.mkrow e zs n l).ev E H.g H.length=some (v,us)):EffOk P σ B (applyU H us) w a o v:=by
 simp only [VEf.ev] at he
 cases hf:fillRows E zs.length (List.replicate n zs) l with
 |none=>simp [hf] at he
 |some es=>
  simp [hf] at he
  obtain ⟨rfl,rfl⟩:=he
  obtain ⟨zv,hz1,⟨i',hi',hiz⟩,hz2⟩:=zerosOf_run (σ:=σ) hz
  have hzs:zv.cells.size=zs.length:=by rw [hz1.length];simp
  obtain ⟨s1,s2⟩:=zeroRow_get zv.cells (n*zs.length) zs.length hzs hp
  have hflat:=flat_zeros hz1 hok hp n _ s1 s2
  obtain ⟨cur',q1,q2,q3,q4⟩:=fillRows_rel ps.toList hF hflat hl hf
  simp at q4
  rw [applyU_push]
  obtain ⟨σ',r1,r2,r3⟩:=push_rows hH e q2 (by rw [q3,s1,q4]) n (by omega)
  rw [q4] at r3
  refine ⟨σ',_,_,r1,r2,r3,.inl ?_⟩
  have hb: ¬(n*zs.length>16777216):=by omega
  by_cases hn:n*zs.length=0
  ·have:n=0:=by rcases Nat.mul_eq_zero.1 hn with h|h<;>omega
   subst this
   have hr0: ∀f:Nat→Value,(Array.range (0*zs.length)).map f=#[]:=fun f=>by simp
   rw [hr0] at q1
   have hr1: ∀f:Nat→Value,(Array.range 0).map f=#[]:=fun f=>by simp
   simp only [execOp,ho,Instr.buildSlice,underlying,Sem.run_bind,run_program,Result.andThen_ok,ht,Sem.run_pure,sizeOf,typeInfo,hi,his,Nat.zero_mul,hr1,Array.toList_map,q1,newRow]
   simp
  ·simp only [hzs] at q1
   simp [execOp,ho,Instr.buildSlice,underlying,ht,sizeOf,typeInfo,hi,his,hb,hn,hz2,hzs,newRow,q1]
theorem eff_mksl {t e:TypeId} {x y:Operand} {x' y':Od} {zs:List VV} {i:TypeInfo} (ho:o.op= .makeSlice t x y) (ht:P.underlying t=some (.slice e)) (hz:zerosOf P e=some zs) (hi:P.info? e=some i)
 (hx:compOd x=some x') (hy:compOd y=some y') (hok:okCells zs=true) (his:i.size=zs.length) (hp:0<zs.length)
 (hH:HRel P σ B H w) (hF:FRel σ N E a) (he:(VEf.mksl e i.bytes zs x' y').ev E H.g H.length=some (v,us)):EffOk P σ B (applyU H us) w a o v:=by
 simp only [VEf.ev] at he
 split at he
 case h_2=>cases he
 rename_i n1 n2 h1 h2
 have r1:=compOd_ok hx hF h1
 have r2:=compOd_ok hy hF h2
 split at he
 case isFalse=>cases he
 rename_i hc
 obtain ⟨c0,c1,c2,c3⟩:=hc
 simp at he
 obtain ⟨rfl,rfl⟩:=he
 have e1:=int_inv r1
 have e2:=int_inv r2
 obtain ⟨zv,hz1,_,hz2⟩:=zerosOf_run (σ:=σ) hz
 have hzs:zv.cells.size=zs.length:=by rw [hz1.length];simp
 obtain ⟨s1,s2⟩:=zeroRow_get zv.cells (n2.toNat*zs.length) zs.length hzs hp
 have hflat:=flat_zeros hz1 hok hp n2.toNat _ s1 s2
 rw [applyU_push]
 obtain ⟨σ',q1,q2,q3⟩:=push_rows hH e hflat (by rw [s1];simp) n1.toNat (by simp;omega)
 simp at q3
 refine ⟨σ',_,_,q1,q2,q3,.inl ?_⟩
 have w1:IntKind.i64.wrap n1=n1:=by
  simp only [IntKind.wrap,IntKind.signed,IntKind.bits];simp;omega
 have w2:IntKind.i64.wrap n2=n2:=by
  simp only [IntKind.wrap,IntKind.signed,IntKind.bits];simp;omega
 have g1: ¬(n2<0):=by omega
 have g2: ¬((i.bytes:Int)*n2>281474976710656):=by omega
 have g3: ¬(n1<0):=by omega
 have g4: ¬(n1>n2):=by omega
 by_cases hn:n2.toNat=0
 ·have hn2:n2=0:=by omega
  subst hn2
  simp [execOp,ho,e1,e2,Instr.makeSlice,underlying,ht,asInt,asIntOf,typeInfo,hi,w1,w2,g3,g4,sizeOf,his,newRow]
  have hr1: ∀f:Nat→Value,(Array.range 0).map f=#[]:=fun f=>by simp
  rw [hr1,hr1]
 ·have hn':n2.toNat*zs.length≠0:=Nat.mul_ne_zero hn (by omega)
  have hn3: ¬(n2≤0):=by omega
  have hp': ¬(zs=[]):=by intro h;subst h;simp at hp
  simp [execOp,ho,e1,e2,Instr.makeSlice,underlying,ht,asInt,asIntOf,typeInfo,hi,w1,w2,g1,g2,g3,g4,sizeOf,his,hn',hn3,hp',hz2,newRow,hzs]
end
end Go.Wm
end
