/- Texts as one: WmZg WmZh WmZi WmZj WmZk WmZl WmZm. -/
import Derived.Test.YtnjjieohlnhicaaGreatDoorKai
section
namespace Go.Wm
set_option linter.unusedSimpArgs false
set_option linter.unusedVariables false
open Go.RowKit
section
variable {P:Program} {B N:Nat} {rn:Bool} {F E:Fr} {H:Hp} {Q:VQ} {K:Fr→Hp→Prop} {l:List VI} {d:Nat} {g:Option (Nat×Bool)}
theorem VOps.sk {x:VOp} (hw:want E g=some false) (h:VOps P B N rn l ((d,.tup [])::E) H Q):VOps P B N rn (.rd d g x::l) E H Q:=VOps.skip (x:= .rd d g x) hw h
theorem VOps.fin {keep:Nat} (h:Q .normal (E.only keep) H):VOps P B N rn [] E H (atEnd Q keep):=VOps.nil ⟨rfl,h⟩
theorem VW.condT {s:Nat} {x y:VC} (hs:F.get s=some (.bool true)) (h:VW P B N rn x F H Q):VW P B N rn (.cond s x y) F H Q:=VW.cond hs (fun _=>h) (fun h=>by cases h)
theorem VW.condF {s:Nat} {x y:VC} (hs:F.get s=some (.bool false)) (h:VW P B N rn y F H Q):VW P B N rn (.cond s x y) F H Q:=VW.cond hs (fun h=>by cases h) (fun _=>h)
theorem FnV.enterRow {r:FRow} {args:List VV} {R:VV→Hp→Prop} (hr:RowFOk P r) (hl:args.length≤r.n)
 (h: ∀B,VW P B r.n false (strip r.vc) (argsF 0 args) H fun e F' H'=>(e= .ret∨e= .normal)∧F'.get dslot=none∧ ∃v,resV F' H'.g r.rs=some v∧R v H'):FnV P r.f args H R:=by
 obtain ⟨fn,c,K,e1,e2,e3,e4,e5,e6,e7⟩:=hr
 refine FnV.enter e1 e2 e3 e4 e5 (by rw [e6];exact hl) e7 fun B=> ?_
 rw [e6]
 refine (h B).mono ?_
 rintro e F' H' ⟨h1,h2,v,h3,h4⟩
 refine ⟨h1,?_⟩
 unfold Fr.dl
 rw [h2]
 exact ⟨v,h3,h4⟩
variable {G:Gt} {x y i:Od} {k:IntKind} {a b:Int}
theorem ev_bin {op:BinOp} (hx:x.ev E=some (.int k a)) (hy:y.ev E=some (.int k b)) {v:VV} (h:iarith op k a b=some v):(VOp.bin op x y).ev E G=some v:=by
 simp only [VOp.ev,hx,hy,bin,if_true,h]
theorem ev_add (hx:x.ev E=some (.int .i64 a)) (hy:y.ev E=some (.int .i64 b)) (h1: -9223372036854775808≤a+b) (h2:a+b≤9223372036854775807):(VOp.bin .add x y).ev E G=some (.int .i64 (a+b)):=
 ev_bin hx hy (by
  simp only [iarith,wrapK_eq,iadd_eq]
  rw [show IntKind.i64.wrap (a+b)=a+b by simp [IntKind.wrap,IntKind.bits,IntKind.signed];omega])
theorem ev_sub (hx:x.ev E=some (.int .i64 a)) (hy:y.ev E=some (.int .i64 b)) (h1: -9223372036854775808≤a-b) (h2:a-b≤9223372036854775807):(VOp.bin .sub x y).ev E G=some (.int .i64 (a-b)):=
 ev_bin hx hy (by
  simp only [iarith,wrapK_eq,iadd_eq,ineg_eq,←Int.sub_eq_add_neg]
  rw [show IntKind.i64.wrap (a-b)=a-b by simp [IntKind.wrap,IntKind.bits,IntKind.signed];omega])
theorem ev_eql (hx:x.ev E=some (.int k a)) (hy:y.ev E=some (.int k b)):(VOp.bin .eql x y).ev E G=some (.bool (decide (a=b))):=
 ev_bin hx hy (by simp only [iarith,ieq_eq];rfl)
theorem ev_neq (hx:x.ev E=some (.int k a)) (hy:y.ev E=some (.int k b)):(VOp.bin .neq x y).ev E G=some (.bool (decide (a≠b))):=
 ev_bin hx hy (by simp only [iarith,ieq_eq];by_cases h:a=b<;>simp [h])
theorem ev_lss (hx:x.ev E=some (.int k a)) (hy:y.ev E=some (.int k b)):(VOp.bin .lss x y).ev E G=some (.bool (decide (a<b))):=
 ev_bin hx hy (by simp only [iarith,ilt_eq])
theorem ev_leq (hx:x.ev E=some (.int k a)) (hy:y.ev E=some (.int k b)):(VOp.bin .leq x y).ev E G=some (.bool (decide (a≤b))):=
 ev_bin hx hy (by simp only [iarith,ilt_eq,nlt_eq])
theorem ev_gtr (hx:x.ev E=some (.int k a)) (hy:y.ev E=some (.int k b)):(VOp.bin .gtr x y).ev E G=some (.bool (decide (b<a))):=
 ev_bin hx hy (by simp only [iarith,ilt_eq])
theorem ev_geq (hx:x.ev E=some (.int k a)) (hy:y.ev E=some (.int k b)):(VOp.bin .geq x y).ev E G=some (.bool (decide (b≤a))):=
 ev_bin hx hy (by simp only [iarith,ilt_eq,nlt_eq])
theorem ev_ixs {s:List UInt8} {c:UInt8} (hx:x.ev E=some (.str s)) (hi:i.ev E=some (.int k a)) (h0:0≤a) (hc:s[a.toNat]? =some c):(VOp.ixs x i).ev E G=some (.int .u8 c.toNat):=by
 simp only [VOp.ev,hx,hi,h0,if_true,hc]
theorem ev_slstr {s:List UInt8} {lo hi:Option Od} {u v:Int} (hx:x.ev E=some (.str s)) (hl:Od.oev E 0 lo=some u) (hh:Od.oev E s.length hi=some v) (h0:0≤u) (h1:u≤v) (h2:v≤s.length):
 (VOp.slstr x lo hi).ev E G=some (.str ((s.take v.toNat).drop u.toNat)):=by
 simp only [VOp.ev,hx,hl,hh,h0,h1,h2,and_self,if_true]
theorem ev_seq {op:BinOp} {s t:List UInt8} {v:VV} (hx:x.ev E=some (.str s)) (hy:y.ev E=some (.str t)) (h:strOp op s t=some v):(VOp.seq op x y).ev E G=some v:=by
 simp only [VOp.ev,hx,hy,h]
theorem ev_cat {s t:List UInt8} (hx:x.ev E=some (.str s)) (hy:y.ev E=some (.str t)) (h:s.length+t.length≤9223372036854775807):(VOp.seq .add x y).ev E G=some (.str (s++t)):=ev_seq hx hy (by simp only [strOp,h,if_true])
theorem ev_seql {s t:List UInt8} (hx:x.ev E=some (.str s)) (hy:y.ev E=some (.str t)):(VOp.seq .eql x y).ev E G=some (.bool (decide (s=t))):=ev_seq hx hy (by simp only [strOp];by_cases h:s=t<;>simp [h])
theorem ev_sneq {s t:List UInt8} (hx:x.ev E=some (.str s)) (hy:y.ev E=some (.str t)):(VOp.seq .neq x y).ev E G=some (.bool (decide (s≠t))):=ev_seq hx hy (by simp only [strOp];by_cases h:s=t<;>simp [h])
end
def Sl (H:Hp) (p:Option PA) (z:Nat) (es:List (List VV)):Prop:=
 es=[]∨ ∃b i md t rows,p=some ⟨b,i,0⟩∧H[b]? =some (.row t md rows)∧(∀e∈rows,e.length=z)∧ ∀(k:Nat) e,es[k]? =some e→rows[i+k]? =some e
def elp (p:Option PA) (k:Nat):PA:=match p with|some q=>⟨q.blk,q.idx+k,0⟩|none=>⟨0,0,0⟩
section
variable {H:Hp} {p:Option PA} {z:Nat} {es:List (List VV)} {E:Fr} {x i:Od} {k:IntKind} {a:Int}
theorem Sl.mono (h:Sl H p z es) (G:Hp):Sl (H++G) p z es:=by
 rcases h with h|⟨b,i,md,t,rows,h1,h2,h3,h4⟩
 ·exact .inl h
 ·exact .inr ⟨b,i,md,t,rows,h1,by rw [List.getElem?_append_left (List.getElem?_eq_some_iff.1 h2).1];exact h2,h3,h4⟩
theorem Sl.ixp (h:Sl H p z es) {k:Nat} (hk:k<es.length): ∃q,p=some q∧Wm.ixp H.g q k z=some (elp p k):=by
 rcases h with rfl|⟨b,i,md,t,rows,rfl,h2,h3,h4⟩
 ·simp at hk
 ·refine ⟨_,rfl,?_⟩
  have h5:=h4 k _ (List.getElem?_eq_getElem hk)
  cases rows with
  |nil=>simp at h5
  |cons e rows=>
   have hz:=h3 e (by simp)
   have h2':H.g b=some (.row t md (e::rows)):=h2
   simp only [Wm.ixp,eszOf,h2',padd,hz,elp]
   simp
theorem Sl.ld (h:Sl H p z es) {k:Nat} {e:List VV} (he:es[k]? =some e) (o:Nat):Wm.ld H.g ⟨(elp p k).blk,(elp p k).idx,o⟩=e[o]? :=by
 rcases h with rfl|⟨b,i,md,t,rows,rfl,h2,h3,h4⟩
 ·simp at he
 ·have h2':H.g b=some (.row t md rows):=h2
  simp only [Wm.ld,elp,h2',h4 k e he]
theorem Sl.ld0 (h:Sl H p z es) {k:Nat} {e:List VV} (he:es[k]? =some e):Wm.ld H.g (elp p k)=e[0]? :=by
 have:=h.ld he 0
 cases p<;>simpa [elp] using this
theorem ev_ixa (hs:Sl H p z es) {m c:Nat} (hx:x.ev E=some (.sl p m c)) (hi:i.ev E=some (.int k a)) (h0:0≤a) (h1:a<m) (h2:m≤es.length):(VOp.ixa z x i).ev E H.g=some (.ptr (some (elp p a.toNat))):=by
 obtain ⟨q,rfl,e1⟩:=hs.ixp (k:=a.toNat) (by omega)
 simp only [VOp.ev,hx,hi,inRng_iff.2 ⟨h0,h1⟩,if_true,e1]
theorem ev_ld (hs:Sl H p z es) {j:Nat} {v:VV} {r:List VV} (hx:x.ev E=some (.ptr (some (elp p j)))) (he:es[j]? =some (v::r)):(VOp.load 1 false x).ev E H.g=some v:=by
 simp only [VOp.ev,hx,Bool.false_eq_true,if_false,hs.ld0 he,List.getElem?_cons_zero]
def intEs (l:List Int):List (List VV):=l.map fun n=>[.int .i64 n]
theorem intEs_len (l:List Int):(intEs l).length=l.length:=by simp [intEs]
theorem intEs_get (l:List Int) (k:Nat):(intEs l)[k]? =(l[k]?).map fun n=>[VV.int .i64 n]:=by simp [intEs]
def strEs (l:List (List UInt8)):List (List VV):=l.map fun n=>[.str n]
theorem strEs_len (l:List (List UInt8)):(strEs l).length=l.length:=by simp [strEs]
end
end Go.Wm
end
section
namespace Go.Wm
set_option linter.unusedSimpArgs false
set_option linter.unusedVariables false
open Go.RowKit
def Ext (L:Nat) (H H':Hp):Prop:=L≤H'.length∧ ∀i,i<L→H'[i]? =H[i]?
theorem Ext.refl {L:Nat} {H:Hp} (h:L≤H.length):Ext L H H:=⟨h,fun _ _=>rfl⟩
theorem Ext.trans {L:Nat} {A B C:Hp} (h:Ext L A B) (k:Ext L B C):Ext L A C:=⟨k.1,fun i hi=>(k.2 i hi).trans (h.2 i hi)⟩
theorem Ext.mono {L M:Nat} {A B:Hp} (h:Ext L A B) (hm:M≤L):Ext M A B:=⟨Nat.le_trans hm h.1,fun i hi=>h.2 i (by omega)⟩
theorem Ext.push {L:Nat} {A B:Hp} (h:Ext L A B) (x:Blk):Ext L A (B++[x]):=⟨by have:=h.1;simp;omega,fun i hi=>by rw [List.getElem?_append_left (by have:=h.1;omega)];exact h.2 i hi⟩
theorem Ext.set {L:Nat} {A B:Hp} (h:Ext L A B) {i:Nat} (hi:L≤i) (x:Blk):Ext L A (B.set i x):=⟨by simpa using h.1,fun j hj=>by rw [List.getElem?_set_ne (by omega)];exact h.2 j hj⟩
theorem Ext.garbage {A B:Hp} (h:Ext A.length A B): ∃G,B=A++G:=by
 refine ⟨B.drop A.length,?_⟩
 apply List.ext_getElem?
 intro i
 by_cases hi:i<A.length
 ·rw [List.getElem?_append_left hi];exact h.2 i hi
 ·rw [List.getElem?_append_right (by omega),List.getElem?_drop];congr 1;omega
theorem Ext.get {L:Nat} {A B:Hp} (h:Ext L A B) {i:Nat} {x:Blk} (hl:i<L) (hi:A[i]? =some x):B[i]? =some x:=by rw [h.2 i hl];exact hi
theorem Ext.sl {A B:Hp} (h:Ext A.length A B) {p:Option PA} {z:Nat} {es:List (List VV)} (hs:Sl A p z es):Sl B p z es:=by
 obtain ⟨G,rfl⟩:=h.garbage;exact hs.mono G
theorem Ext.sl' {A B:Hp} {L:Nat} (h:Ext L A B) {p:Option PA} {z:Nat} {es:List (List VV)} (hs:Sl A p z es) (hp: ∀q,p=some q→q.blk<L):Sl B p z es:=by
 rcases hs with hs|⟨b,i,md,t,rows,rfl,h2,h3,h4⟩
 ·exact .inl hs
 ·exact .inr ⟨b,i,md,t,rows,rfl,h.get (hp _ rfl) h2,h3,h4⟩
def Grow (L:Nat) (t:TypeId) (z:Nat) (H:Hp) (v:VV) (es:List (List VV)):Prop:=
 (es=[]∧v= .sl none 0 0)∨(es≠[]∧(∀e∈es,e.length=z)∧ ∃b,L≤b∧v= .sl (some ⟨b,0,0⟩) es.length es.length∧H[b]? =some (.row t .loose es))
theorem Grow.nil (L:Nat) (t:TypeId) (z:Nat) (H:Hp):Grow L t z H (.sl none 0 0) []:= .inl ⟨rfl,rfl⟩
theorem Grow.sl {L:Nat} {t:TypeId} {z:Nat} {H:Hp} {v:VV} {es:List (List VV)} (h:Grow L t z H v es): ∃p,v= .sl p es.length es.length∧Sl H p z es∧ ∀q,p=some q→q.blk<H.length:=by
 rcases h with ⟨rfl,rfl⟩|⟨h1,h2,b,h3,rfl,h4⟩
 ·exact ⟨none,rfl,.inl rfl,fun q h=>by cases h⟩
 ·exact ⟨_,rfl,.inr ⟨b,0,.loose,t,es,rfl,h4,h2,fun k e he=>by simpa using he⟩,fun q hq=>by cases hq;exact (List.getElem?_eq_some_iff.1 h4).1⟩
theorem Grow.push {L:Nat} {t:TypeId} {z:Nat} {H:Hp} {v:VV} {es:List (List VV)} (h:Grow L t z H v es) (x:Blk):Grow L t z (H++[x]) v es:=by
 rcases h with h|⟨h1,h2,b,h3,rfl,h4⟩
 ·exact .inl h
 ·exact .inr ⟨h1,h2,b,h3,rfl,by rw [List.getElem?_append_left (List.getElem?_eq_some_iff.1 h4).1];exact h4⟩
theorem Grow.app {L:Nat} {t:TypeId} {z bytes:Nat} {H:Hp} {v u:VV} {es news:List (List VV)} {E:Fr} {s x:Od} (h:Grow L t z H v es) (hL:L≤H.length) (hs:s.ev E=some v) (hx:x.ev E=some u) (hu:srcEls H.g z u=some news)
 (hne:news≠[]) (hz: ∀e∈news,e.length=z) (hb:(es.length+news.length)*bytes≤140737488355328) (hb2:es.length+news.length≤4611686018427387904):
 ∃v' us,(VEf.app t z bytes s x).ev E H.g H.length=some (v',us)∧Grow L t z (applyU H us) v' (es++news)∧Ext L H (applyU H us):=by
 have hpos:0<news.length:=List.length_pos_iff.2 hne
 have hall: ∀e∈es++news,es=[]∨(∀e∈es,e.length=z)→e.length=z:=fun e he ho=>by
  rcases List.mem_append.1 he with h1|h1
  ·rcases ho with h2|h2
   ·rw [h2] at h1;cases h1
   ·exact h2 e h1
  ·exact hz e h1
 rcases h with ⟨rfl,rfl⟩|⟨h1,h2,b,h3,rfl,h4⟩
 ·refine ⟨.sl (some ⟨H.length,0,0⟩) news.length news.length,[(H.length,.row t .loose news)],?_,?_,?_⟩
  ·simp only [VEf.ev,hs,hx,hu,appV]
   simp only [List.length_nil,Nat.zero_add] at hb hb2 ⊢
   rw [if_neg (by omega),if_pos ⟨hb,hb2⟩]
  ·rw [applyU_push]
   exact .inr ⟨by simpa using hne,fun e he=>hall e he (.inl rfl),H.length,hL,by simp,by simp⟩
  ·rw [applyU_push];exact (Ext.refl hL).push _
 ·have hbl:=(List.getElem?_eq_some_iff.1 h4).1
  have h4':H.g b=some (.row t .loose es):=h4
  obtain ⟨e0,es0,rfl⟩: ∃e0 es0,es=e0::es0:=by cases es with|nil=>exact absurd rfl h1|cons a l=>exact ⟨a,l,rfl⟩
  have ho:srcEls H.g z (.sl (some ⟨b,0,0⟩) (e0::es0).length (e0::es0).length)=some (e0::es0):=by
   simp only [srcEls,h4']
   rw [if_neg (by simp),if_pos ⟨by simp,h2 e0 (by simp),by simp⟩]
   simp
  have happ:applyU H [(b,Blk.dead),(H.length,Blk.row t .loose ((e0::es0)++news))]=H.set b .dead++[Blk.row t .loose ((e0::es0)++news)]:=by simp [applyU,hbl]
  refine ⟨.sl (some ⟨H.length,0,0⟩) ((e0::es0).length+news.length) ((e0::es0).length+news.length),[(b,.dead),(H.length,.row t .loose ((e0::es0)++news))],?_,?_,?_⟩
  ·simp only [VEf.ev,hs,hx,hu,appV]
   rw [if_neg (by omega),if_pos ⟨hb,hb2⟩]
   simp only [h4',ho,if_true]
   rw [if_pos ⟨trivial,trivial,by simp [h2 e0]⟩]
  ·rw [happ]
   exact .inr ⟨by simp,fun e he=>hall e he (.inr h2),H.length,hL,by simp;omega,by simp⟩
  ·rw [happ];exact ((Ext.refl hL).set h3 _).push _
end Go.Wm
end
section
namespace Go.Wm
set_option linter.unusedSimpArgs false
set_option linter.unusedVariables false
open Go.RowKit
mutual
def VV.flt:VV→Bool
 | .undef| .bool _| .int _ _| .str _| .ptr none| .sl none 0 0| .nilFn| .map none| .nilI=>true
 | .agg l=>VV.flts l
 | .tup l=>VV.flts l
 | .fn _ l=>VV.flts l
 | .ifc _ v=>v.flt
 |_=>false
def VV.flts:List VV→Bool
 |[]=>true
 |v::l=>v.flt &&VV.flts l
end
mutual
theorem VRel.flt {σ τ:Sg}: ∀{v:VV} {a:Value},VRel τ v a→v.flt=true→VRel σ v a
 |_,_,.undef v,_=> .undef v
 |_,_,.bool b,_=> .bool b
 |_,_,.int k n,_=> .int k n
 |_,_,.str s,_=> .str s
 |_,_,.ptrNil,_=> .ptrNil
 |_,_,.ptr h,hf=>by simp [VV.flt] at hf
 |_,_,.slNil,_=> .slNil
 |_,_,.sl h,hf=>by simp [VV.flt] at hf
 |_,_,.fn h,hf=> .fn (LRel.flt h (by simpa [VV.flt] using hf))
 |_,_,.nilFn,_=> .nilFn
 |_,_,.agg h,hf=> .agg (LRel.flt h (by simpa [VV.flt] using hf))
 |_,_,.tup h,hf=> .tup (LRel.flt h (by simpa [VV.flt] using hf))
 |_,_,.mapNil,_=> .mapNil
 |_,_,.map h,hf=>by simp [VV.flt] at hf
 |_,_,.nilI,_=> .nilI
 |_,_,.yield h,hf=>by simp [VV.flt] at hf
 |_,_,.ifc h,hf=> .ifc (VRel.flt h (by simpa [VV.flt] using hf))
theorem LRel.flt {σ τ:Sg}: ∀{v:List VV} {a:List Value},LRel τ v a→VV.flts v=true→LRel σ v a
 |_,_,.nil,_=> .nil
 |_,_,.cons h t,hf=>by
  simp only [VV.flts,Bool.and_eq_true] at hf
  exact .cons (VRel.flt h hf.1) (LRel.flt t hf.2)
end
mutual
theorem VRel.back {σ τ:Sg} (hl:σ.le τ): ∀{v:VV} {a b:Value},VRel σ v a→VRel τ v b→VRel σ v b
 |_,_,_,.undef v,.undef u=> .undef u
 |_,_,_,.bool b,.bool _=> .bool b
 |_,_,_,.int k n,.int _ _=> .int k n
 |_,_,_,.str s,.str _=> .str s
 |_,_,_,.ptrNil,.ptrNil=> .ptrNil
 |_,_,_,.ptr h,.ptr k=>by
  obtain ⟨I,h1,h2⟩:=h
  obtain ⟨J,k1,k2⟩:=k
  have:I=J:=Option.some.inj ((hl _ _ h1).symm.trans k1)
  subst this
  exact .ptr ⟨I,h1,k2⟩
 |_,_,_,.slNil,.slNil=> .slNil
 |_,_,_,.sl (p:=p) h,.sl k=>by
  obtain ⟨h0,h1⟩:=h
  obtain ⟨hc,k⟩:=k
  have hI: ∃I,σ p.blk=some I:=by
   rcases h1 with ⟨⟨I,e,_⟩,_⟩|⟨I,m,e,_⟩|⟨_,_,I,e⟩
   ·exact ⟨I,e⟩
   ·exact ⟨I,e⟩
   ·exact ⟨I,e⟩
  obtain ⟨I,hI⟩:=hI
  refine .sl ⟨hc,?_⟩
  rcases k with ⟨⟨J,e,e1⟩,e2⟩|⟨J,m,e1,e2,e3,⟨J',e4,e5⟩,e6⟩|⟨e1,e2,_⟩
  ·have:I=J:=Option.some.inj ((hl _ _ hI).symm.trans e)
   subst this
   exact .inl ⟨⟨I,hI,e1⟩,e2⟩
  ·have:I=J:=Option.some.inj ((hl _ _ hI).symm.trans e1)
   subst this
   have:I=J':=Option.some.inj ((hl _ _ hI).symm.trans e4)
   subst this
   exact .inr (.inl ⟨I,m,hI,e2,e3,⟨I,hI,e5⟩,e6⟩)
  ·exact .inr (.inr ⟨e1,e2,I,hI⟩)
 |_,_,_,.fn h,.fn k=> .fn (LRel.back hl h k)
 |_,_,_,.nilFn,.nilFn=> .nilFn
 |_,_,_,.agg h,.agg k=> .agg (LRel.back hl h k)
 |_,_,_,.tup h,.tup k=> .tup (LRel.back hl h k)
 |_,_,_,.mapNil,.mapNil=> .mapNil
 |_,_,_,.map h,.map k=>by
  have e:=Option.some.inj ((hl _ _ h).symm.trans k)
  rw [←e]
  exact .map h
 |_,_,_,.nilI,.nilI=> .nilI
 |_,_,_,.yield h,.yield k=>by
  have e:=Option.some.inj ((hl _ _ h).symm.trans k)
  rw [←e]
  exact .yield h
 |_,_,_,.ifc h,.ifc k=> .ifc (VRel.back hl h k)
theorem LRel.back {σ τ:Sg} (hl:σ.le τ): ∀{v:List VV} {a b:List Value},LRel σ v a→LRel τ v b→LRel σ v b
 |_,_,_,.nil,.nil=> .nil
 |_,_,_,.cons h t,.cons h' t'=> .cons (VRel.back hl h h') (LRel.back hl t t')
end
theorem ObRel.back {P:Program} {σ τ:Sg} (hl:σ.le τ) {o:MOb} {a b:Obj} (h:ObRel P σ o a) (k:ObRel P τ o b):ObRel P σ o b:=by
 cases o with
 |map es=>
  cases a<;>simp only [ObRel] at h
  cases b<;>simp only [ObRel] at k ⊢
  obtain ⟨h1,h2,h3⟩:=h
  obtain ⟨k1,k2,k3⟩:=k
  refine ⟨k1,k2,fun z e he=> ?_⟩
  obtain ⟨e1,a1,a2,a3,a4⟩:=h3 z e he
  obtain ⟨e2,b1,b2,b3,b4⟩:=k3 z e he
  exact ⟨e2,b1,b2,a3.back hl b3,a4.back hl b4⟩
 |iter m n seen=>
  cases a<;>simp only [ObRel] at h
  cases b<;>simp only [ObRel] at k ⊢
  obtain ⟨⟨J,h1,h2⟩,h3⟩:=h
  obtain ⟨⟨K,k1,k2⟩,k3⟩:=k
  have:J=K:=Option.some.inj ((hl _ _ h1).symm.trans k1)
  subst this
  exact ⟨⟨J,h1,k2⟩,k3⟩
 |siter s pos=>cases b<;>simp only [ObRel] at k ⊢<;>exact k
 |defs t=>cases b<;>simp only [ObRel] at k ⊢<;>exact k
 |bytes s=>cases b<;>simp only [ObRel] at k ⊢<;>exact k
 |loop r=>
  cases a<;>simp only [ObRel] at h
  cases b<;>simp only [ObRel] at k ⊢
  obtain ⟨h1,h2,h3,h4,h5,h6,J,h7,h8⟩:=h
  obtain ⟨k1,k2,k3,k4,k5,k6,K,k7,k8⟩:=k
  have:J=K:=Option.some.inj ((hl _ _ h7).symm.trans k7)
  subst this
  exact ⟨k1,k2,k3,k4,fun s v e=>(h5 s v e).back hl (k5 s v e),k6,J,h7,k8⟩
theorem HRel.drop {P:Program} {σ τ:Sg} {B:Nat} {H G:Hp} {w w':World} (h:HRel P σ B H w) (h':HRel P τ B (H++G) w') (hl:σ.le τ) (hb:Below B w w'):HRel P σ B H w':=by
 refine ⟨h'.base,h.dom,fun i t md es hi=> ?_,h.inj,fun i o hi=> ?_,h.oinj,h.glob,fun i I hi=>Nat.lt_of_lt_of_le (h.fit i I hi) hb.size⟩
 rotate_right
 ·obtain ⟨I,ho,i1,i2,i3,i4,i5⟩:=h.objs i o hi
  obtain ⟨J,ho',j1,j2,j3,j4,j5⟩:=h'.objs i o (by rw [List.getElem?_append_left (List.getElem?_eq_some_iff.1 hi).1];exact hi)
  have:I=J:=Option.some.inj ((hl _ _ i1).symm.trans j1)
  subst this
  exact ⟨I,ho',i1,i2,i3,j4,i5.back hl j5⟩
 obtain ⟨I,hR⟩:=h.rows i t md es hi
 obtain ⟨J,hS⟩:=h'.rows i t md es (by rw [List.getElem?_append_left (List.getElem?_eq_some_iff.1 hi).1];exact hi)
 have:I=J:=Option.some.inj ((hl _ _ hR.here).symm.trans hS.here)
 subst this
 refine ⟨I,hR.here,hS.lt,hS.len,hS.esz,fun k e j v h1 h2=> ?_,hS.old,hS.own⟩
 obtain ⟨q1,v1,q2,q3⟩:=hR.cell k e j v h1 h2
 obtain ⟨_,v2,q5,q6⟩:=hS.cell k e j v h1 h2
 exact ⟨q1,v2,q5,q3.back hl q6⟩
theorem FnV.tidy {P:Program} {f:FuncId} {args:List VV} {H:Hp} {r:VV} (hf:r.flt=true) (h:FnV P f args H fun r' H'=>r'=r∧ ∃G,H'=H++G):FnV P f args H fun r' H'=>r'=r∧H'=H:=by
 refine ⟨h.1,fun σ B w vs h1 h2=>(h.2 σ B w vs h1 h2).mono ?_⟩
 rintro e w' ⟨r',v',H',σ',q1,q2,⟨q3,G,q4⟩,q5,q6⟩
 subst q3 q4
 exact ⟨r',v',H,σ,q1,q2.flt hf,⟨rfl,rfl⟩,⟨Sg.le_refl _,q5.bl,q5.out,fun i I hi=> .inl ⟨i,I,hi,rfl⟩⟩,h1.drop q6 q5.le q5.bl⟩
section
variable {E:Fr} {G:Gt} {x y:Od} {k:IntKind} {a b:Int}
theorem ev_eqlT (hx:x.ev E=some (.int k a)) (hy:y.ev E=some (.int k b)) (h:a=b):(VOp.bin .eql x y).ev E G=some (.bool true):=by rw [ev_eql hx hy,decide_eq_true h]
theorem ev_eqlF (hx:x.ev E=some (.int k a)) (hy:y.ev E=some (.int k b)) (h: ¬a=b):(VOp.bin .eql x y).ev E G=some (.bool false):=by rw [ev_eql hx hy,decide_eq_false h]
theorem ev_neqT (hx:x.ev E=some (.int k a)) (hy:y.ev E=some (.int k b)) (h: ¬a=b):(VOp.bin .neq x y).ev E G=some (.bool true):=by rw [ev_neq hx hy,decide_eq_true h]
theorem ev_neqF (hx:x.ev E=some (.int k a)) (hy:y.ev E=some (.int k b)) (h:a=b):(VOp.bin .neq x y).ev E G=some (.bool false):=by rw [ev_neq hx hy,decide_eq_false (by simpa using h)]
theorem ev_lssT (hx:x.ev E=some (.int k a)) (hy:y.ev E=some (.int k b)) (h:a<b):(VOp.bin .lss x y).ev E G=some (.bool true):=by rw [ev_lss hx hy,decide_eq_true h]
theorem ev_lssF (hx:x.ev E=some (.int k a)) (hy:y.ev E=some (.int k b)) (h: ¬a<b):(VOp.bin .lss x y).ev E G=some (.bool false):=by rw [ev_lss hx hy,decide_eq_false h]
theorem ev_leqT (hx:x.ev E=some (.int k a)) (hy:y.ev E=some (.int k b)) (h:a≤b):(VOp.bin .leq x y).ev E G=some (.bool true):=by rw [ev_leq hx hy,decide_eq_true h]
theorem ev_leqF (hx:x.ev E=some (.int k a)) (hy:y.ev E=some (.int k b)) (h: ¬a≤b):(VOp.bin .leq x y).ev E G=some (.bool false):=by rw [ev_leq hx hy,decide_eq_false h]
theorem ev_gtrT (hx:x.ev E=some (.int k a)) (hy:y.ev E=some (.int k b)) (h:b<a):(VOp.bin .gtr x y).ev E G=some (.bool true):=by rw [ev_gtr hx hy,decide_eq_true h]
theorem ev_gtrF (hx:x.ev E=some (.int k a)) (hy:y.ev E=some (.int k b)) (h: ¬b<a):(VOp.bin .gtr x y).ev E G=some (.bool false):=by rw [ev_gtr hx hy,decide_eq_false h]
theorem ev_geqT (hx:x.ev E=some (.int k a)) (hy:y.ev E=some (.int k b)) (h:b≤a):(VOp.bin .geq x y).ev E G=some (.bool true):=by rw [ev_geq hx hy,decide_eq_true h]
theorem ev_geqF (hx:x.ev E=some (.int k a)) (hy:y.ev E=some (.int k b)) (h: ¬b≤a):(VOp.bin .geq x y).ev E G=some (.bool false):=by rw [ev_geq hx hy,decide_eq_false h]
theorem ev_seqlT {s t:List UInt8} (hx:x.ev E=some (.str s)) (hy:y.ev E=some (.str t)) (h:s=t):(VOp.seq .eql x y).ev E G=some (.bool true):=by rw [ev_seql hx hy,decide_eq_true h]
theorem ev_seqlF {s t:List UInt8} (hx:x.ev E=some (.str s)) (hy:y.ev E=some (.str t)) (h: ¬s=t):(VOp.seq .eql x y).ev E G=some (.bool false):=by rw [ev_seql hx hy,decide_eq_false h]
theorem ev_sneqT {s t:List UInt8} (hx:x.ev E=some (.str s)) (hy:y.ev E=some (.str t)) (h: ¬s=t):(VOp.seq .neq x y).ev E G=some (.bool true):=by rw [ev_sneq hx hy,decide_eq_true h]
theorem ev_sneqF {s t:List UInt8} (hx:x.ev E=some (.str s)) (hy:y.ev E=some (.str t)) (h:s=t):(VOp.seq .neq x y).ev E G=some (.bool false):=by rw [ev_sneq hx hy,decide_eq_false (by simpa using h)]
end
def cmpT:BinOp→Int→Int→Prop
 | .eql,a,b=>a=b
 | .neq,a,b=> ¬a=b
 | .lss,a,b=>a<b
 | .leq,a,b=>a≤b
 | .gtr,a,b=>b<a
 | .geq,a,b=>b≤a
 |_,_,_=>False
def cmpF:BinOp→Int→Int→Prop
 | .eql,a,b=> ¬a=b
 | .neq,a,b=>a=b
 | .lss,a,b=> ¬a<b
 | .leq,a,b=> ¬a≤b
 | .gtr,a,b=> ¬b<a
 | .geq,a,b=> ¬b≤a
 |_,_,_=>False
def scmT:BinOp→List UInt8→List UInt8→Prop
 | .eql,a,b=>a=b
 | .neq,a,b=> ¬a=b
 |_,_,_=>False
def scmF:BinOp→List UInt8→List UInt8→Prop
 | .eql,a,b=> ¬a=b
 | .neq,a,b=>a=b
 |_,_,_=>False
section
variable {E:Fr} {G:Gt} {x y:Od} {k:IntKind} {a b:Int} {op:BinOp} {s t:List UInt8}
theorem ev_cT (hx:x.ev E=some (.int k a)) (hy:y.ev E=some (.int k b)) (h:cmpT op a b):(VOp.bin op x y).ev E G=some (.bool true):=by
 cases op<;>first|exact h.elim|exact ev_eqlT hx hy h|exact ev_neqT hx hy h|exact ev_lssT hx hy h|exact ev_leqT hx hy h|exact ev_gtrT hx hy h|exact ev_geqT hx hy h
theorem ev_cF (hx:x.ev E=some (.int k a)) (hy:y.ev E=some (.int k b)) (h:cmpF op a b):(VOp.bin op x y).ev E G=some (.bool false):=by
 cases op<;>first|exact h.elim|exact ev_eqlF hx hy h|exact ev_neqF hx hy h|exact ev_lssF hx hy h|exact ev_leqF hx hy h|exact ev_gtrF hx hy h|exact ev_geqF hx hy h
theorem ev_sT (hx:x.ev E=some (.str s)) (hy:y.ev E=some (.str t)) (h:scmT op s t):(VOp.seq op x y).ev E G=some (.bool true):=by
 cases op<;>first|exact h.elim|exact ev_seqlT hx hy h|exact ev_sneqT hx hy h
theorem ev_sF (hx:x.ev E=some (.str s)) (hy:y.ev E=some (.str t)) (h:scmF op s t):(VOp.seq op x y).ev E G=some (.bool false):=by
 cases op<;>first|exact h.elim|exact ev_seqlF hx hy h|exact ev_sneqF hx hy h
end
theorem ev_slst3 {E:Fr} {G:Gt} {x:Od} {s:List UInt8} {lo hi:Option Od} {u v:Int} (hx:x.ev E=some (.str s)) (hl:Od.oev E 0 lo=some u) (hh:Od.oev E s.length hi=some v) (h:0≤u∧u≤v∧v≤s.length):
 (VOp.slstr x lo hi).ev E G=some (.str ((s.take v.toNat).drop u.toNat)):=ev_slstr hx hl hh h.1 h.2.1 h.2.2
theorem ev_add2 {E:Fr} {G:Gt} {x y:Od} {a b:Int} (hx:x.ev E=some (.int .i64 a)) (hy:y.ev E=some (.int .i64 b)) (h: -9223372036854775808≤a+b∧a+b≤9223372036854775807):(VOp.bin .add x y).ev E G=some (.int .i64 (a+b)):=ev_add hx hy h.1 h.2
theorem ev_sub2 {E:Fr} {G:Gt} {x y:Od} {a b:Int} (hx:x.ev E=some (.int .i64 a)) (hy:y.ev E=some (.int .i64 b)) (h: -9223372036854775808≤a-b∧a-b≤9223372036854775807):(VOp.bin .sub x y).ev E G=some (.int .i64 (a-b)):=ev_sub hx hy h.1 h.2
section
variable {P:Program} {B N:Nat} {rn:Bool} {F E:Fr} {H:Hp} {Q:VQ} {K:Fr→Hp→Prop}
theorem then_normal:Then K Q .normal F H=K F H:=rfl
theorem then_ret:Then K Q .ret F H=Q .ret F H:=rfl
theorem then_exit {i:Nat}:Then K Q (.exit i) F H=Q (.exit i) F H:=rfl
theorem inB_normal {i:Nat}:inB i Q .normal F H=Q .normal F H:=rfl
theorem inB_ret {i:Nat}:inB i Q .ret F H=Q .ret F H:=rfl
theorem inB_exit {i j:Nat}:inB i Q (.exit j) F H=if j=i then Q .normal F H else Q (.exit j) F H:=rfl
end
section
variable {P:Program} {B N:Nat} {rn:Bool} {F E:Fr} {H:Hp} {Q:VQ} {R:Fr→Hp→Prop} {hs:List Hp} {l:List VI} {b:List (Nat×Nat)} {m:Nat} {d:Nat} {g:Option (Nat×Bool)} {v:VV}
def Cst (hs:List Hp) (H:Hp):Prop:= ∀(j:Nat) H1,hs[j]? =some H1→H1=H
theorem Cst.rep (n:Nat) (H:Hp):Cst (List.replicate n H) H:=fun j H1 h=>by
 rw [List.getElem?_replicate] at h
 split at h
 ·exact (Option.some.inj h).symm
 ·cases h
theorem VX.nil (h:R E H):VX P hs [] b m E H R:=h
theorem VX.rdc {x:VOp} (hc:Cst hs H) (hw:want E g=some true) (he:x.ev E H.g=some v) (h:VX P hs l b.tail m ((d,v)::E) H R):VX P hs (.rd d g x::l) b m E H R:=
 .inr ⟨hw,v,H,⟨rfl,fun j H1 _ _ hj=>by rw [hc j H1 hj];exact he⟩,h⟩
theorem VX.sk1 {x:VOp} (hw:want E g=some false) (h:VX P hs l b.tail m ((d,.tup [])::E) H R):VX P hs (.rd d g x::l) b m E H R:= .inl ⟨hw,(fun e=>(by cases e)),h⟩
theorem VX.callc {d:Option Nat} {fo:Od} {ar:List Od} {f:FuncId} {caps vs:List VV} (hm:hs[m+1]? =some H) (hw:want E g=some true) (hf:fo.ev E=some (.fn f caps)) (hv:Od.evs E ar=some vs) (hc:FnV P f (vs++caps) H fun r H2=>r=v∧H2=H)
 (h:VX P hs l b.tail (m+1) (E.pt d v) H R):VX P hs (.call d g fo ar::l) b m E H R:=
 .inr ⟨hw,v,H,⟨⟨f,caps,vs,hf,hv,hc⟩,hm⟩,h⟩
theorem VX.rdp {x:VOp} (hw:want E g=some true) (he: ∀G,x.ev E G=some v) (h:VX P hs l b.tail m ((d,v)::E) H R):VX P hs (.rd d g x::l) b m E H R:=
 .inr ⟨hw,v,H,⟨rfl,fun j H1 _ _ _=>he _⟩,h⟩
theorem VX.ef1 {d:Option Nat} {x:VEf} {us:Up} {H':Hp} (hw:want E g=some true) (he:x.ev E H.g H.length=some (v,us)) (hH:applyU H us=H') (hm:hs[m+1]? =some H') (h:VX P hs l b.tail (m+1) (E.pt d v) H' R):VX P hs (.ef d g x::l) b m E H R:=
 .inr ⟨hw,v,H',⟨⟨us,he,hH.symm⟩,hm⟩,h⟩
def Cov:Fr→Fr→Prop
 |[],_=>True
 |(k,v)::G,F=>F.get k=some v∧Cov G F
theorem Cov.get: ∀{G F:Fr},Cov G F→ ∀{s:Nat} {v:VV},G.get s=some v→F.get s=some v
 |[],F,_,s,v,h=>by simp [Fr.get] at h
 |(k,u)::G,F,hc,s,v,h=>by
  rw [Fr.get_cons] at h
  split at h
  ·rename_i hk;subst hk;cases h;exact hc.1
  ·exact hc.2.get h
theorem VW.cov {vc:VC} {G:Fr} (hc:Cov G F) (hd:F.get dslot=none) (hg:G.get dslot=none) (h:VW P B N rn vc G H Q):VW P B N rn vc F H Q:=
 fun ro hro K c hcc σ w a hH hF=>h ro hro K c hcc σ w a hH (hF.sub (by rw [hd,hg]) fun s v _ e=>hc.get e)
end
theorem upd_all {e cs:List VV} (h:e.length=cs.length):upd e 0 cs=cs:=by
 apply List.ext_getElem?
 intro i
 rw [(upd_get cs e 0 (by omega)).2 i]
 by_cases hi:i<cs.length
 ·rw [if_pos ⟨Nat.zero_le _,by omega⟩,Nat.sub_zero]
 ·rw [if_neg (by omega),List.getElem?_eq_none (by omega),List.getElem?_eq_none (by omega)]
theorem last_get (H:Hp) (x:Blk):(H++[x])[H.length]? =some x:=by simp
theorem VX.fin {P:Program} {hs:List Hp} {b:List (Nat×Nat)} {m keep:Nat} {E F':Fr} {H:Hp} {Q:VQ} (hk:E.only keep=F') (h:Q .normal F' H):VX P hs [] b m E H (fun E H'=>Q .normal (E.only keep) H'):=by
 show Q .normal (E.only keep) H
 rw [hk];exact h
section
variable {E:Fr} {H:Hp} {n b:Nat} {x:Od} {s:List UInt8} {pos:Nat}
end
theorem src_one {H:Hp} {t:TypeId} {md:Mode} {e:List VV} {z:Nat} (he:e.length=z):srcEls (H++[Blk.row t md [e]]).g z (.sl (some ⟨H.length,0,0⟩) 1 1)=some [e]:=by
 have hb:(H++[Blk.row t md [e]]).g H.length=some (Blk.row t md [e]):=last_get _ _
 simp only [srcEls,hb]
 rw [if_neg (by decide),if_pos ⟨by trivial,he,by simp⟩]
 simp
theorem Grow.one {L:Nat} {H:Hp} {v:VV} {ws:List (List UInt8)} {t:TypeId} (h:Grow L t 1 H v (strEs ws)) (hL:L≤H.length) (y:List UInt8) (hb:(ws.length+1)*16≤140737488355328):
 ∃v' us,(∀(E:Fr) (s x:Od),s.ev E=some v→x.ev E=some (.sl (some ⟨H.length,0,0⟩) 1 1)→(VEf.app t 1 16 s x).ev E (H++[Blk.row t .own [[.str y]]]).g (H++[Blk.row t .own [[.str y]]]).length=some (v',us))∧Grow L t 1 (applyU (H++[Blk.row t .own [[.str y]]]) us) v' (strEs (ws++[y]))∧Ext L (H++[Blk.row t .own [[.str y]]]) (applyU (H++[Blk.row t .own [[.str y]]]) us):=by
 obtain ⟨v',us,e1,e2,e3⟩:=(h.push (.row t .own [[.str y]])).app (bytes:=16) (E:=[(0,v),(1,.sl (some ⟨H.length,0,0⟩) 1 1)]) (s:= .t 0) (x:= .t 1) (by simp;omega) rfl rfl (src_one rfl) (by simp) (fun e he=>by
  rcases List.mem_cons.1 he with rfl|he
  ·rfl
  ·cases he) (by simpa [strEs_len] using hb) (by simp [strEs_len];omega)
 refine ⟨v',us,fun E s x hs hx=> ?_,by simpa [strEs] using e2,e3⟩
 rw [←e1]
 simp only [VEf.ev,hs,hx]
 rfl
end Go.Wm
end
section
namespace Go.Wm
set_option linter.unusedSimpArgs false
set_option linter.unusedVariables false
open Go.RowKit
def Keep (M:List Nat) (H H':Hp):Prop:=H.length≤H'.length∧ ∀i,i<H.length→i∉M→H'[i]? =H[i]?
section
variable {M N:List Nat} {A B C:Hp}
theorem Keep.refl (H:Hp):Keep M H H:=⟨Nat.le_refl _,fun _ _ _=>rfl⟩
theorem Keep.trans (h:Keep M A B) (k:Keep N B C) (hm: ∀i∈N,i<A.length→i∈M):Keep M A C:=
 ⟨Nat.le_trans h.1 k.1,fun i hi hn=>(k.2 i (Nat.lt_of_lt_of_le hi h.1) fun x=>hn (hm i x hi)).trans (h.2 i hi hn)⟩
theorem Keep.mono (h:Keep M A B) (hm: ∀i∈M,i<A.length→i∈N):Keep N A B:=⟨h.1,fun i hi hn=>h.2 i hi fun x=>hn (hm i x hi)⟩
theorem Keep.push (h:Keep M A B) (x:Blk):Keep M A (B++[x]):=⟨by have:=h.1;simp;omega,fun i hi hn=>by rw [List.getElem?_append_left (by have:=h.1;omega)];exact h.2 i hi hn⟩
theorem Keep.set (h:Keep M A B) {i:Nat} (hi:i<A.length→i∈M) (x:Blk):Keep M A (B.set i x):=
 ⟨by simpa using h.1,fun j hj hn=>by rw [List.getElem?_set_ne (by rintro rfl;exact hn (hi hj))];exact h.2 j hj hn⟩
theorem Keep.get (h:Keep M A B) {i:Nat} {x:Blk} (hi:A[i]? =some x) (hn:i∉M):B[i]? =some x:=by rw [h.2 i (List.getElem?_eq_some_iff.1 hi).1 hn];exact hi
theorem Keep.garbage (h:Keep [] A B): ∃G,B=A++G:=Ext.garbage ⟨h.1,fun i hi=>h.2 i hi (by simp)⟩
theorem Keep.app (G:Hp):Keep M A (A++G):=⟨by simp,fun i hi _=>List.getElem?_append_left hi⟩
end
theorem updRows_eq {rows news:List (List VV)} {k:Nat} (h:k+news.length≤rows.length):updRows rows k news=rows.take k++news++rows.drop (k+news.length):=by
 obtain ⟨h1,h2⟩:=updRows_get news rows k h
 apply List.ext_getElem?
 intro i
 rw [h2]
 have ht:(rows.take k).length=k:=by rw [List.length_take];omega
 by_cases hi:i<k
 ·rw [if_neg (by omega),List.append_assoc,List.getElem?_append_left (by omega),List.getElem?_take,if_pos hi]
 ·by_cases hj:i<k+news.length
  ·rw [if_pos ⟨by omega,hj⟩,List.append_assoc,List.getElem?_append_right (by omega),List.getElem?_append_left (by omega),ht]
  ·rw [if_neg (by omega),List.getElem?_append_right (by simp [ht];omega),List.getElem?_drop]
   congr 1
   simp [ht];omega
def Buf (H:Hp) (bs:List Nat) (t:TypeId) (z:Nat) (v:VV) (es:List (List VV)):Prop:=
 (bs=[]∧es=[]∧v= .sl none 0 0)∨ ∃b md rows,bs=[b]∧v= .sl (some ⟨b,0,0⟩) es.length rows.length∧H[b]? =some (.row t md rows)∧md≠ .ro∧(rows=[]→md= .own)∧(∀e∈rows,e.length=z)∧es<+:rows
section
variable {M bs:List Nat} {H H':Hp} {t:TypeId} {z:Nat} {v:VV} {es:List (List VV)}
theorem Buf.nil (H:Hp) (t:TypeId) (z:Nat):Buf H [] t z (.sl none 0 0) []:= .inl ⟨rfl,rfl,rfl⟩
theorem Buf.sl (h:Buf H bs t z v es): ∃p c,v= .sl p es.length c∧Sl H p z es∧ ∀q,p=some q→q.blk∈bs:=by
 rcases h with ⟨rfl,rfl,rfl⟩|⟨b,md,rows,rfl,rfl,h1,h2,h3,h4,h5⟩
 ·exact ⟨none,0,rfl,.inl rfl,fun q h=>by cases h⟩
 ·refine ⟨_,_,rfl,.inr ⟨b,0,md,t,rows,rfl,h1,h4,fun k e he=> ?_⟩,fun q hq=>by cases hq;simp⟩
  obtain ⟨r,rfl⟩:=h5
  rw [Nat.zero_add,List.getElem?_append_left (List.getElem?_eq_some_iff.1 he).1];exact he
theorem Buf.lt (h:Buf H bs t z v es): ∀b∈bs,b<H.length:=by
 rcases h with ⟨rfl,rfl,rfl⟩|⟨b,md,rows,rfl,rfl,h1,_⟩
 ·intro b hb;cases hb
 ·intro c hc;simp at hc;subst hc;exact (List.getElem?_eq_some_iff.1 h1).1
theorem Buf.keep (h:Buf H bs t z v es) (k:Keep M H H') (hm: ∀b∈bs,b∉M):Buf H' bs t z v es:=by
 rcases h with h|⟨b,md,rows,rfl,rfl,h1,h2⟩
 ·exact .inl h
 ·exact .inr ⟨b,md,rows,rfl,rfl,k.get h1 (hm b (by simp)),h2⟩
theorem Buf.cells (h:Buf H bs t z v es): ∀e∈es,e.length=z:=by
 rcases h with ⟨rfl,rfl,rfl⟩|⟨b,md,rows,rfl,rfl,h1,_,_,h4,h5⟩
 ·intro e he;cases he
 ·intro e he;exact h4 e (h5.subset he)
theorem Buf.app {bytes:Nat} {u:VV} {news:List (List VV)} (h:Buf H bs t z v es) (hu:srcEls H.g z u=some news) (hne:news≠[]) (hz: ∀e∈news,e.length=z) (hb:(es.length+news.length)*bytes≤140737488355328) (hb2:es.length+news.length≤4611686018427387904):
 ∃v' us bs',(∀(E:Fr) (s x:Od),s.ev E=some v→x.ev E=some u→(VEf.app t z bytes s x).ev E H.g H.length=some (v',us))∧Buf (applyU H us) bs' t z v' (es++news)∧Keep bs H (applyU H us)∧ ∀b∈bs',b∈bs∨H.length≤b:=by
 have hpos:0<news.length:=List.length_pos_iff.2 hne
 have hall:=h.cells
 have hall2: ∀e∈es++news,e.length=z:=fun e he=>by
  rcases List.mem_append.1 he with h1|h1
  ·exact hall e h1
  ·exact hz e h1
 have fresh: ∀K:Hp,K.length=H.length→Buf (K++[.row t .loose (es++news)]) [H.length] t z (.sl (some ⟨H.length,0,0⟩) (es.length+news.length) (es.length+news.length)) (es++news):=fun K hK=>
  .inr ⟨H.length,.loose,es++news,rfl,by simp,by rw [←hK];simp,by simp,fun h0=>absurd h0 (by simp [hne]),hall2,List.prefix_refl _⟩
 rcases h with ⟨rfl,rfl,rfl⟩|⟨b,md,rows,rfl,rfl,h1,h2,h3,h4,h5⟩
 ·refine ⟨.sl (some ⟨H.length,0,0⟩) news.length news.length,[(H.length,.row t .loose news)],[H.length],fun E s x hs hx=> ?_,?_,?_,fun b hb=> .inr (by simp at hb;omega)⟩
  ·simp only [VEf.ev,hs,hx,hu,appV]
   simp only [List.length_nil,Nat.zero_add] at hb hb2 ⊢
   rw [if_neg (by omega),if_pos ⟨hb,hb2⟩]
  ·rw [applyU_push];simpa using fresh H rfl
  ·rw [applyU_push];exact Keep.app _
 ·have hbl:=(List.getElem?_eq_some_iff.1 h1).1
  have h1':H.g b=some (.row t md rows):=h1
  by_cases hr0:rows=[]
  ·subst hr0
   obtain rfl:=List.prefix_nil.1 h5
   obtain rfl:=h3 rfl
   refine ⟨.sl (some ⟨H.length,0,0⟩) news.length news.length,[(H.length,.row t .loose news)],[H.length],fun E s x hs hx=> ?_,?_,?_,fun b hb=> .inr (by simp at hb;omega)⟩
   ·simp only [VEf.ev,hs,hx,hu,appV]
    simp only [List.length_nil,Nat.zero_add] at hb hb2 ⊢
    rw [if_neg (by omega),if_pos ⟨hb,hb2⟩]
    simp [h1',srcEls]
   ·rw [applyU_push];simpa using fresh H rfl
   ·rw [applyU_push];exact Keep.app _
  obtain ⟨e0,rows0,rfl⟩: ∃e0 es0,rows=e0::es0:=by cases rows with|nil=>exact absurd rfl hr0|cons a l=>exact ⟨a,l,rfl⟩
  have hle:=h5.length_le
  by_cases hroom:es.length+news.length≤(e0::rows0).length
  ·have hup:=updRows_eq (rows:=e0::rows0) (news:=news) (k:=es.length) hroom
   have htk:(e0::rows0).take es.length=es:=(List.prefix_iff_eq_take.1 h5).symm
   rw [htk] at hup
   refine ⟨.sl (some ⟨b,0,0⟩) (es.length+news.length) (e0::rows0).length,[(b,.row t md (updRows (e0::rows0) (0+es.length) news))],[b],fun E s x hs hx=> ?_,?_,?_,fun b hb=> .inl hb⟩
   ·simp only [VEf.ev,hs,hx,hu,appV]
    rw [if_pos hroom,if_neg hne]
    simp only [h1']
    rw [if_pos ⟨h2,trivial,h4 e0 (by simp),by simp at hroom ⊢;omega⟩]
   ·rw [applyU_set hbl,Nat.zero_add,hup]
    have hlen:(es++news++(e0::rows0).drop (es.length+news.length)).length=(e0::rows0).length:=by rw [List.length_append,List.length_append,List.length_drop];omega
    refine .inr ⟨b,md,_,rfl,by rw [hlen];simp,by rw [List.getElem?_set_self hbl],h2,(by intro hnil;rw [hnil] at hlen;simp at hlen),fun e he=> ?_,List.prefix_append _ _⟩
    rcases List.mem_append.1 he with he|he
    ·exact hall2 e he
    ·exact h4 e (List.mem_of_mem_drop he)
   ·rw [applyU_set hbl];exact (Keep.refl _).set (fun _=>by simp) _
  ·have ho:srcEls H.g z (.sl (some ⟨b,0,0⟩) es.length (e0::rows0).length)=some es:=by
    simp only [srcEls,h1']
    by_cases he:es.length=0
    ·rw [if_pos he];rw [List.eq_nil_of_length_eq_zero he]
    ·rw [if_neg he,if_pos ⟨trivial,h4 e0 (by simp),by simp at hle ⊢;omega⟩]
     rw [List.drop_zero,←List.prefix_iff_eq_take.1 h5]
   by_cases hmd:md= .loose
   ·refine ⟨.sl (some ⟨H.length,0,0⟩) (es.length+news.length) (es.length+news.length),[(b,.dead),(H.length,.row t .loose (es++news))],[H.length],fun E s x hs hx=> ?_,?_,?_,fun b hb=> .inr (by simp at hb;omega)⟩
    ·simp only [VEf.ev,hs,hx,hu,appV]
     rw [if_neg hroom,if_pos ⟨hb,hb2⟩]
     simp only [h1',ho]
     rw [if_pos hmd,if_pos ⟨trivial,trivial,by simp [h4 e0]⟩]
    ·have happ:applyU H [(b,Blk.dead),(H.length,Blk.row t .loose (es++news))]=H.set b .dead++[Blk.row t .loose (es++news)]:=by simp [applyU,hbl]
     rw [happ];exact fresh _ (by simp)
    ·have happ:applyU H [(b,Blk.dead),(H.length,Blk.row t .loose (es++news))]=H.set b .dead++[Blk.row t .loose (es++news)]:=by simp [applyU,hbl]
     rw [happ];exact ((Keep.refl _).set (fun _=>by simp) _).push _
   ·refine ⟨.sl (some ⟨H.length,0,0⟩) (es.length+news.length) (es.length+news.length),[(H.length,.row t .loose (es++news))],[H.length],fun E s x hs hx=> ?_,?_,?_,fun b hb=> .inr (by simp at hb;omega)⟩
    ·simp only [VEf.ev,hs,hx,hu,appV]
     rw [if_neg hroom,if_pos ⟨hb,hb2⟩]
     simp only [h1',ho]
     rw [if_neg hmd]
    ·rw [applyU_push];exact fresh _ rfl
    ·rw [applyU_push];exact Keep.app _
theorem Buf.cut (h:Buf H bs t z v es) {E:Fr} {x y:Od} {k:Nat} {kd:IntKind} (hx:x.ev E=some v) (hy:y.ev E=some (.int kd k)) (hk:k≤es.length):
 ∃v',(VOp.slc z x none (some y) none).ev E H.g=some v'∧Buf H bs t z v' (es.take k):=by
 rcases h with ⟨rfl,rfl,rfl⟩|⟨b,md,rows,rfl,rfl,h1,h2,h3,h4,h5⟩
 ·obtain rfl:k=0:=by simpa using hk
  refine ⟨.sl none 0 0,?_,by simpa using Buf.nil H t z⟩
  simp [VOp.ev,hx,Od.oev,hy,slcV]
 ·have h1':H.g b=some (.row t md rows):=h1
  by_cases hr0:rows=[]
  ·subst hr0
   obtain rfl:=List.prefix_nil.1 h5
   obtain rfl:k=0:=by simpa using hk
   exact ⟨.sl (some ⟨b,0,0⟩) 0 0,by simp [VOp.ev,hx,Od.oev,hy,slcV],.inr ⟨b,md,[],rfl,rfl,h1,h2,h3,h4,by simp⟩⟩
  obtain ⟨e0,rows0,rfl⟩: ∃e0 es0,rows=e0::es0:=by cases rows with|nil=>exact absurd rfl hr0|cons a l=>exact ⟨a,l,rfl⟩
  have hle:=h5.length_le
  refine ⟨.sl (some ⟨b,0,0⟩) k (e0::rows0).length,?_,.inr ⟨b,md,e0::rows0,rfl,by rw [List.length_take,Nat.min_eq_left hk],h1,h2,h3,h4,(List.take_prefix _ _).trans h5⟩⟩
  simp only [VOp.ev,hx,Od.oev,hy,slcV]
  rw [if_pos ⟨by omega,by omega,by simp at hle ⊢;omega,by simp⟩]
  simp only [h1']
  rw [if_neg (by simp),if_neg (fun hh=>hh.2 ⟨trivial,h4 e0 (by simp)⟩),if_pos trivial]
  simp
theorem Buf.set (h:Buf H bs t z v es) {k:Nat} (hk:k<es.length) {cs:List VV} (hcs:cs.length=z) (hok:okCells cs=true):
 ∃b p,(∃c,v= .sl p es.length c)∧bs=[b]∧elp p k=⟨b,k,0⟩∧ ∃blk,stc H.g (elp p k) cs=some [(b,blk)]∧Buf (H.set b blk) bs t z v (es.set k cs):=by
 rcases h with ⟨rfl,rfl,rfl⟩|⟨b,md,rows,rfl,rfl,h1,h2,h3,h4,h5⟩
 ·simp at hk
 ·have h1':H.g b=some (.row t md rows):=h1
  have hbl:=(List.getElem?_eq_some_iff.1 h1).1
  have hle:=h5.length_le
  have hkr:k<rows.length:=by omega
  obtain ⟨r,hr⟩:=h5
  have hek:rows[k]? =some rows[k]:=List.getElem?_eq_getElem hkr
  have hez:rows[k].length=z:=h4 _ (List.getElem_mem hkr)
  refine ⟨b,some ⟨b,0,0⟩,⟨_,rfl⟩,rfl,by simp [elp],.row t md (rows.set k cs),?_,.inr ⟨b,md,rows.set k cs,rfl,by simp,List.getElem?_set_self hbl,h2,?_,fun e he=> ?_,?_⟩⟩
  ·simp only [stc,elp,h1',Nat.zero_add,hek]
   rw [if_neg h2,if_pos ⟨by omega,hok⟩,upd_all (by omega)]
  ·intro hnil
   have:=congrArg List.length hnil
   simp at this
   exact h3 this
  ·rcases List.mem_or_eq_of_mem_set he with he|rfl
   ·exact h4 e he
   ·exact hcs
  ·rw [←hr,List.set_append_left _ _ hk]
   exact List.prefix_append _ _
end
class Enc (α:Type) where
 sz:Nat
 rep:(Nat→Prop)→Hp→α→List VV→Prop
 len: ∀{ok:Nat→Prop} {H:Hp} {x:α} {v:List VV},rep ok H x v→v.length=sz
 keep: ∀{ok:Nat→Prop} {H H':Hp} {x:α} {v:List VV},rep ok H x v→(∀i,i<H.length→ok i→H'[i]? =H[i]?)→rep ok H' x v
 weak: ∀{ok ok':Nat→Prop} {H:Hp} {x:α} {v:List VV},rep ok H x v→(∀i,i<H.length→ok i→ok' i)→rep ok' H x v
instance:Enc Int:=⟨1,fun _ _ n v=>v=[.int .i64 n],fun h=>by rw [h];rfl,fun h _=>h,fun h _=>h⟩
instance:Enc Bool:=⟨1,fun _ _ b v=>v=[.bool b],fun h=>by rw [h];rfl,fun h _=>h,fun h _=>h⟩
instance:Enc (List UInt8):=⟨1,fun _ _ s v=>v=[.str s],fun h=>by rw [h];rfl,fun h _=>h,fun h _=>h⟩
instance {α β:Type} [Enc α] [Enc β]:Enc (α×β):=⟨Enc.sz α+Enc.sz β,fun ok H x v=> ∃a b,v=a++b∧Enc.rep ok H x.1 a∧Enc.rep ok H x.2 b,
 fun ⟨a,b,h1,h2,h3⟩=>by rw [h1,List.length_append,Enc.len h2,Enc.len h3],fun ⟨a,b,h1,h2,h3⟩ k=>⟨a,b,h1,Enc.keep h2 k,Enc.keep h3 k⟩,fun ⟨a,b,h1,h2,h3⟩ k=>⟨a,b,h1,Enc.weak h2 k,Enc.weak h3 k⟩⟩
def EsR {α:Type} [Enc α] (ok:Nat→Prop) (H:Hp) (l:List α) (es:List (List VV)):Prop:=es.length=l.length∧ ∀(i:Nat) x e,l[i]? =some x→es[i]? =some e→Enc.rep ok H x e
def SlR {α:Type} [Enc α] (ok:Nat→Prop) (H:Hp) (p:Option PA) (l:List α):Prop:= ∃es,Sl H p (Enc.sz α) es∧(∀q,p=some q→es≠[]→ok q.blk)∧EsR ok H l es
section
variable {α:Type} [Enc α] {ok ok':Nat→Prop} {H H':Hp} {p:Option PA} {l:List α} {es:List (List VV)}
theorem EsR.keep (h:EsR ok H l es) (k: ∀i,i<H.length→ok i→H'[i]? =H[i]?):EsR ok H' l es:=⟨h.1,fun i x e h1 h2=>Enc.keep (h.2 i x e h1 h2) k⟩
theorem EsR.weak (h:EsR ok H l es) (k: ∀i,i<H.length→ok i→ok' i):EsR ok' H l es:=⟨h.1,fun i x e h1 h2=>Enc.weak (h.2 i x e h1 h2) k⟩
theorem EsR.nil:EsR ok H ([]:List α) []:=⟨rfl,fun i x e h=>by simp at h⟩
theorem EsR.cells (h:EsR ok H l es): ∀e∈es,e.length=Enc.sz α:=fun e he=>by
 obtain ⟨i,hi,rfl⟩:=List.getElem_of_mem he
 exact Enc.len (h.2 i (l[i]'(by rw [←h.1];exact hi)) _ (List.getElem?_eq_getElem _) (List.getElem?_eq_getElem hi))
theorem EsR.snoc (h:EsR ok H l es) {x:α} {e:List VV} (hx:Enc.rep ok H x e):EsR ok H (l++[x]) (es++[e]):=by
 refine ⟨by simp [h.1],fun i y f h1 h2=> ?_⟩
 by_cases hi:i<l.length
 ·rw [List.getElem?_append_left hi] at h1
  rw [List.getElem?_append_left (by rw [h.1];exact hi)] at h2
  exact h.2 i y f h1 h2
 ·have hi2:i=l.length:=by
   have:=(List.getElem?_eq_some_iff.1 h1).1
   simp at this;omega
  subst hi2
  rw [List.getElem?_append_right (Nat.le_refl _)] at h1
  rw [List.getElem?_append_right (by rw [h.1];exact Nat.le_refl _)] at h2
  simp at h1;subst h1
  rw [h.1] at h2;simp at h2;subst h2
  exact hx
theorem EsR.take (h:EsR ok H l es) (k:Nat):EsR ok H (l.take k) (es.take k):=⟨by simp [h.1],fun i x e h1 h2=>by
 rw [List.getElem?_take] at h1 h2
 split at h1
 ·rename_i hi;rw [if_pos hi] at h2;exact h.2 i x e h1 h2
 ·cases h1⟩
theorem EsR.drop (h:EsR ok H l es) (k:Nat):EsR ok H (l.drop k) (es.drop k):=⟨by simp [h.1],fun i x e h1 h2=>by
 rw [List.getElem?_drop] at h1 h2
 exact h.2 _ x e h1 h2⟩
theorem EsR.set (h:EsR ok H l es) {k:Nat} {x:α} {e:List VV} (hx:Enc.rep ok H x e):EsR ok H (l.set k x) (es.set k e):=by
 refine ⟨by simp [h.1],fun i y f h1 h2=> ?_⟩
 by_cases hi:k=i
 ·subst hi
  have hl:k<l.length:=by have:=(List.getElem?_eq_some_iff.1 h1).1;simpa using this
  rw [List.getElem?_set_self hl] at h1
  rw [List.getElem?_set_self (by rw [h.1];exact hl)] at h2
  cases h1;cases h2;exact hx
 ·rw [List.getElem?_set_ne hi] at h1 h2
  exact h.2 i y f h1 h2
theorem EsR.get (h:EsR ok H l es) {i:Nat} {x:α} (hx:l[i]? =some x): ∃e,es[i]? =some e∧Enc.rep ok H x e:=by
 have hi:i<es.length:=by rw [h.1];exact (List.getElem?_eq_some_iff.1 hx).1
 exact ⟨_,List.getElem?_eq_getElem hi,h.2 i x _ hx (List.getElem?_eq_getElem hi)⟩
theorem EsR.ints {l:List Int} (h:EsR ok H l es):es=intEs l:=by
 apply List.ext_getElem?
 intro i
 rw [intEs_get]
 cases hl:l[i]? with
 |none=>rw [List.getElem?_eq_none (by rw [h.1];exact List.getElem?_eq_none_iff.1 hl)];rfl
 |some n=>
  obtain ⟨e,he,hr⟩:=h.get hl
  rw [he]
  exact congrArg some hr
theorem EsR.ofInts (ok:Nat→Prop) (H:Hp) (l:List Int):EsR ok H l (intEs l):=⟨intEs_len l,fun i x e h1 h2=>by rw [intEs_get,h1] at h2;exact (Option.some.inj h2).symm⟩
theorem SlR.keep (h:SlR ok H p l) (k: ∀i,i<H.length→ok i→H'[i]? =H[i]?):SlR ok H' p l:=by
 obtain ⟨es,h1,h2,h3⟩:=h
 refine ⟨es,?_,h2,h3.keep k⟩
 rcases h1 with h1|⟨b,i,md,t,rows,rfl,q2,q3,q4⟩
 ·exact .inl h1
 ·by_cases he:es=[]
  ·exact .inl he
  ·exact .inr ⟨b,i,md,t,rows,rfl,by rw [k b (List.getElem?_eq_some_iff.1 q2).1 (h2 _ rfl he)];exact q2,q3,q4⟩
theorem SlR.weak (h:SlR ok H p l) (k: ∀i,i<H.length→ok i→ok' i):SlR ok' H p l:=by
 obtain ⟨es,h1,h2,h3⟩:=h
 refine ⟨es,h1,fun q hq he=> ?_,h3.weak k⟩
 rcases h1 with h1|⟨b,i,md,t,rows,rfl,q2,q3,q4⟩
 ·exact absurd h1 he
 ·cases hq
  exact k _ (List.getElem?_eq_some_iff.1 q2).1 (h2 _ rfl he)
end
instance {α:Type} [Enc α]:Enc (List α):=⟨1,fun ok H l v=> ∃p c,v=[.sl p l.length c]∧SlR ok H p l,fun ⟨p,c,h,_⟩=>by rw [h];rfl,fun ⟨p,c,h,h1⟩ k=>⟨p,c,h,h1.keep k⟩,fun ⟨p,c,h,h1⟩ k=>⟨p,c,h,h1.weak k⟩⟩
theorem Keep.rep {α:Type} [Enc α] {M:List Nat} {ok:Nat→Prop} {H H':Hp} {x:α} {v:List VV} (k:Keep M H H') (h:Enc.rep ok H x v) (hm: ∀i,ok i→i∉M):Enc.rep ok H' x v:=Enc.keep h fun i hi ho=>k.2 i hi (hm i ho)
def BufR {α:Type} [Enc α] (ok:Nat→Prop) (H:Hp) (bs:List Nat) (t:TypeId) (v:VV) (l:List α):Prop:= ∃es,Buf H bs t (Enc.sz α) v es∧EsR ok H l es
section
variable {α:Type} [Enc α] {ok ok':Nat→Prop} {H H':Hp} {bs M:List Nat} {t:TypeId} {v:VV} {l:List α}
theorem BufR.nil (ok:Nat→Prop) (H:Hp) (t:TypeId):BufR ok H [] t (.sl none 0 0) ([]:List α):=⟨[],Buf.nil H t _,EsR.nil⟩
theorem BufR.keep (h:BufR ok H bs t v l) (k:Keep M H H') (hm: ∀b∈bs,b∉M) (ho: ∀i,ok i→i∉M):BufR ok H' bs t v l:=by
 obtain ⟨es,h1,h2⟩:=h
 exact ⟨es,h1.keep k hm,h2.keep fun i hi hk=>k.2 i hi (ho i hk)⟩
theorem BufR.lt (h:BufR ok H bs t v l): ∀b∈bs,b<H.length:=by obtain ⟨es,h1,_⟩:=h;exact h1.lt
theorem BufR.one {bytes:Nat} {x:α} {e:List VV} {t':TypeId} {n:Nat} (h:BufR ok H bs t v l) (hx:Enc.rep ok H x e) (ho: ∀i,ok i→i∉bs) (hn:n=H.length) (hb:(l.length+1)*bytes≤140737488355328) (hb2:l.length+1≤4611686018427387904):
 ∃v' us bs',(∀(E:Fr) (s y:Od),s.ev E=some v→y.ev E=some (.sl (some ⟨n,0,0⟩) 1 1)→(VEf.app t (Enc.sz α) bytes s y).ev E (H++[Blk.row t' .own [e]]).g (H++[Blk.row t' .own [e]]).length=some (v',us))∧
  BufR ok (applyU (H++[Blk.row t' .own [e]]) us) bs' t v' (l++[x])∧Keep bs H (applyU (H++[Blk.row t' .own [e]]) us)∧ ∀b∈bs',b∈bs∨H.length≤b:=by
 subst hn
 obtain ⟨es,h1,h2⟩:=h
 have hk:Keep [] H (H++[Blk.row t' .own [e]]):=Keep.app _
 have hl:=h2.1
 obtain ⟨v',us,bs',a1,a2,a3,a4⟩:=(h1.keep hk (by simp)).app (bytes:=bytes) (src_one (t:=t') (md:= .own) (e:=e) (z:=Enc.sz α) (Enc.len hx)) (by simp) (by intro f hf;simp at hf;rw [hf];exact Enc.len hx) (by simpa [hl] using hb) (by simpa [hl] using hb2)
 have hkk:Keep bs H (applyU (H++[Blk.row t' .own [e]]) us):=(hk.mono (by simp)).trans a3 (fun i hi _=>hi)
 refine ⟨v',us,bs',a1,⟨es++[e],a2,(h2.snoc hx).keep fun i hi hoi=>hkk.2 i hi (ho i hoi)⟩,hkk,fun b hb=> ?_⟩
 rcases a4 b hb with h|h
 ·exact .inl h
 ·right;simp at h;omega
theorem BufR.slr (h:BufR ok H bs t v l) (hb: ∀b∈bs,ok b): ∃p c,v= .sl p l.length c∧SlR ok H p l:=by
 obtain ⟨es,h1,h2⟩:=h
 obtain ⟨p,c,rfl,h3,h4⟩:=h1.sl
 exact ⟨p,c,by rw [h2.1],es,h3,fun q hq _=>hb _ (h4 q hq),h2⟩
end
section
variable {α:Type} [Enc α] {ok:Nat→Prop} {H:Hp} {p:Option PA} {l:List α} {E:Fr} {x i:Od} {k:IntKind} {a:Int} {c:Nat}
theorem Sl.lds {z:Nat} {es:List (List VV)} (h:Sl H p z es) {k:Nat} {e:List VV} (he:es[k]? =some e):Wm.lds H.g (elp p k) z=some e:=by
 rcases h with rfl|⟨b,i,md,t,rows,rfl,h2,h3,h4⟩
 ·simp at he
 ·have h5:=h3 e (List.mem_of_getElem? (h4 k e he))
  subst h5
  have h2':H.g b=some (.row t md rows):=h2
  show Wm.lds H.g ⟨b,i+k,0⟩ e.length=some e
  unfold Wm.lds
  rw [h2']
  show (match rows[i+k]? with|some e'=>if 0+e.length≤e'.length then some ((e'.drop 0).take e.length) else none|none=>none)=some e
  rw [h4 k e he]
  simp
theorem ev_ixR (hs:SlR ok H p l) (hx:x.ev E=some (.sl p l.length c)) (hi:i.ev E=some (.int k a)) (h0:0≤a) (h1:a<l.length) {z:Nat} (hz:z=Enc.sz α):(VOp.ixa z x i).ev E H.g=some (.ptr (some (elp p a.toNat))):=by
 subst hz
 obtain ⟨es,h2,_,h3⟩:=hs
 exact ev_ixa h2 hx hi h0 h1 (by rw [h3.1];exact Nat.le_refl _)
theorem SlR.get (hs:SlR ok H p l) {j:Nat} {y:α} (hy:l[j]? =some y): ∃e,Enc.rep ok H y e∧Wm.lds H.g (elp p j) (Enc.sz α)=some e:=by
 obtain ⟨es,h2,_,h3⟩:=hs
 obtain ⟨e,he,hr⟩:=h3.get hy
 exact ⟨e,hr,h2.lds he⟩
theorem SlR.ints {l:List Int} (hs:SlR ok H p l):Sl H p 1 (intEs l):=by
 obtain ⟨es,h2,_,h3⟩:=hs
 rw [←h3.ints];exact h2
theorem SlR.ofInts {l:List Int} (h:Sl H p 1 (intEs l)) (ho: ∀q,p=some q→l≠[]→ok q.blk):SlR ok H p l:=
 ⟨intEs l,h,fun q hq he=>ho q hq (by rintro rfl;exact he rfl),EsR.ofInts ok H l⟩
end
end Go.Wm
end
section
namespace Go.Wm
set_option linter.unusedSimpArgs false
set_option linter.unusedVariables false
open Go.RowKit
def Box (H:Hp) (b:Nat) (cs:List VV):Prop:= ∃t md,md≠ .ro∧H[b]? =some (.row t md [cs])
section
variable {H H':Hp} {b off n:Nat} {cs:List VV} {M:List Nat} {E:Fr} {x y:Od} {v:VV}
theorem Box.lt (h:Box H b cs):b<H.length:=by obtain ⟨t,md,_,h⟩:=h;exact (List.getElem?_eq_some_iff.1 h).1
theorem Box.keep (h:Box H b cs) (k:Keep M H H') (hb:b∉M):Box H' b cs:=by
 obtain ⟨t,md,h1,h2⟩:=h
 exact ⟨t,md,h1,k.get h2 hb⟩
theorem Box.last (H:Hp) (t:TypeId) (cs:List VV):Box (H++[.row t .own [cs]]) H.length cs:=⟨t,.own,by simp,by simp⟩
theorem ev_ldB (hx:x.ev E=some (.ptr (some ⟨b,0,off⟩))) (h:Box H b cs) (hc:cs[off]? =some v):(VOp.load 1 false x).ev E H.g=some v:=by
 obtain ⟨t,md,_,h⟩:=h
 have h':H.g b=some (.row t md [cs]):=h
 simp only [VOp.ev,hx,Bool.false_eq_true,if_false,ld,h',List.getElem?_cons_zero,hc]
theorem ev_ldBA {m:Nat} {l:List VV} (hx:x.ev E=some (.ptr (some ⟨b,0,off⟩))) (h:Box H b cs) (hc:off+m≤cs.length) (hl:(cs.drop off).take m=l):(VOp.load m true x).ev E H.g=some (.agg l):=by
 obtain ⟨t,md,_,h⟩:=h
 have h':H.g b=some (.row t md [cs]):=h
 simp only [VOp.ev,hx,if_true,lds,h',List.getElem?_cons_zero,hc,hl]
theorem ev_stB {k:Nat} {l:List VV} (hx:x.ev E=some (.ptr (some ⟨b,0,off⟩))) (hv:y.ev E=some v) (h:Box H b cs) (hd:v.defd=true) (hk:v.cells.length=k) (hok:okCells v.cells=true) (ho:off+k≤cs.length) (hl:upd cs off v.cells=l):
 ∃us,(VEf.store k x y).ev E H.g n=some (.undef,us)∧Box (applyU H us) b l∧Keep [b] H (applyU H us)∧(applyU H us).length=H.length:=by
 have hlt:=h.lt
 obtain ⟨t,md,h1,h⟩:=h
 have h':H.g b=some (.row t md [cs]):=h
 refine ⟨[(b,.row t md [l])],?_,?_,?_,?_⟩
 ·simp only [VEf.ev,hx,hv]
  rw [if_pos ⟨hd,hk⟩]
  simp only [stc,h',List.getElem?_cons_zero]
  rw [if_neg h1,if_pos ⟨by omega,hok⟩,hl]
  rfl
 ·rw [applyU_set hlt];exact ⟨t,md,h1,List.getElem?_set_self hlt⟩
 ·rw [applyU_set hlt];exact (Keep.refl _).set (fun _=>by simp) _
 ·rw [applyU_set hlt];simp
theorem ev_boxN {t:TypeId} {l:List VV} (hx:x.ev E=some v) (hd:v.defd=true) (hok:okCells v.cells=true) (hl:v.cells=l) {G:Gt}:(VEf.box t x).ev E G n=some (.ptr (some ⟨n,0,0⟩),[(n,.row t .own [l])]):=by
 subst hl
 simp [VEf.ev,hx,hd,hok]
end
theorem ev_mkint {E:Fr} {G:Gt} {n:Nat} {t:TypeId} {x:Od} {k:IntKind} {y z:Int} (hx:x.ev E=some (.int k y)):(VEf.mkrow t [.int k z] 1 [(0,x)]).ev E G n=some (.sl (some ⟨n,0,0⟩) 1 1,[(n,.row t .own [[.int k y]])]):=by
 simp [VEf.ev,fillRows,hx,VV.defd,VV.cells,okCells,VV.cell]
theorem ev_mkagg {E:Fr} {G:Gt} {n m:Nat} {t:TypeId} {x:Od} {l zs:List VV} (hx:x.ev E=some (.agg l)) (hl:l.length=zs.length) (hok:okCells l=true):(VEf.mkrow t zs 1 [(0,x)]).ev E G n=some (.sl (some ⟨n,0,0⟩) 1 1,[(n,.row t .own [l])]):=by
 have h1:(VV.agg l).defd=true:=rfl
 have h2:(VV.agg l).cells=l:=rfl
 simp [VEf.ev,fillRows,hx,h1,h2,hl,hok]
section
variable {P:Program} {hs:List Hp} {R:Fr→Hp→Prop} {l:List VI} {b:List (Nat×Nat)} {m d n:Nat} {g:Option (Nat×Bool)} {E:Fr} {H Hn:Hp} {x:VOp} {v:VV}
theorem VX.rdn (hb:b.headD (0,0)=(n,n)) (hn:hs[n]? =some Hn) (hw:want E g=some true) (he:x.ev E Hn.g=some v) (h:VX P hs l b.tail m ((d,v)::E) H R):VX P hs (.rd d g x::l) b m E H R:=
 .inr ⟨hw,v,H,⟨rfl,fun j H1 h1 h2 hj=>by
  rw [hb] at h1 h2
  obtain rfl:j=n:=by simp only at h1 h2;omega
  rw [hn] at hj
  cases hj
  exact he⟩,h⟩
theorem VX.ef2 {d:Option Nat} {x:VEf} {us:Up} (hw:want E g=some true) (he:x.ev E H.g H.length=some (v,us)) (hm:hs[m+1]? =some (applyU H us)) (h:VX P hs l b.tail (m+1) (E.pt d v) (applyU H us) R):VX P hs (.ef d g x::l) b m E H R:=
 .inr ⟨hw,v,_,⟨⟨us,he,rfl⟩,hm⟩,h⟩
theorem VX.call2 {d:Option Nat} {fo:Od} {ar:List Od} {f:FuncId} {caps vs:List VV} {H':Hp} (hm:hs[m+1]? =some H') (hw:want E g=some true) (hf:fo.ev E=some (.fn f caps)) (hv:Od.evs E ar=some vs) (hc:FnV P f (vs++caps) H fun r H2=>r=v∧H2=H')
 (h:VX P hs l b.tail (m+1) (E.pt d v) H' R):VX P hs (.call d g fo ar::l) b m E H R:=
 .inr ⟨hw,v,H',⟨⟨f,caps,vs,hf,hv,hc⟩,hm⟩,h⟩
end
section
variable {H:Hp} {bs:List Nat} {t:TypeId} {z:Nat} {v:VV} {es:List (List VV)}
theorem Buf.clip (h:Buf H bs t z v es): ∃p,(∀(E:Fr) (x y w:Od),x.ev E=some v→y.ev E=some (.int .i64 es.length)→w.ev E=some (.int .i64 es.length)→(VOp.slc z x none (some y) (some w)).ev E H.g=some (.sl p es.length es.length))∧Sl H p z es∧ ∀q,p=some q→q.blk∈bs:=by
 obtain ⟨p0,c0,e0,hs,hq⟩:=h.sl
 rcases h with ⟨rfl,rfl,rfl⟩|⟨b,md,rows,rfl,rfl,h1,h2,h3,h4,h5⟩
 ·exact ⟨none,fun E x y w hx hy hw=>by simp [VOp.ev,hx,hy,hw,Od.oev,slcV],.inl rfl,fun q h=>by cases h⟩
 ·cases e0
  have h1':H.g b=some (.row t md rows):=h1
  by_cases hr0:rows=[]
  ·subst hr0
   obtain rfl:=List.prefix_nil.1 h5
   exact ⟨_,fun E x y w hx hy hw=>by simp [VOp.ev,hx,hy,hw,Od.oev,slcV],hs,hq⟩
  obtain ⟨e0,rows0,rfl⟩: ∃e0 es0,rows=e0::es0:=by cases rows with|nil=>exact absurd rfl hr0|cons a l=>exact ⟨a,l,rfl⟩
  have hle:=h5.length_le
  refine ⟨_,fun E x y w hx hy hw=> ?_,hs,hq⟩
  simp only [VOp.ev,hx,Od.oev,hy,hw,slcV]
  rw [if_pos ⟨by omega,by omega,by omega,by simp at hle ⊢;omega⟩]
  simp only [h1']
  rw [if_neg (by simp),if_neg (fun hh=>hh.2 ⟨trivial,h4 e0 (by simp)⟩),if_pos trivial]
  simp
theorem Buf.tail (h:Buf H bs t z v es) {k:Nat} (hk:k≤es.length): ∃p c,(∀(E:Fr) (x y:Od),x.ev E=some v→y.ev E=some (.int .i64 k)→(VOp.slc z x (some y) none none).ev E H.g=some (.sl p (es.length-k) c))∧Sl H p z (es.drop k):=by
 rcases h with ⟨rfl,rfl,rfl⟩|⟨b,md,rows,rfl,rfl,h1,h2,h3,h4,h5⟩
 ·obtain rfl:k=0:=by simpa using hk
  exact ⟨none,0,fun E x y hx hy=>by simp [VOp.ev,hx,hy,Od.oev,slcV],.inl rfl⟩
 ·have h1':H.g b=some (.row t md rows):=h1
  by_cases hr0:rows=[]
  ·subst hr0
   obtain rfl:=List.prefix_nil.1 h5
   obtain rfl:k=0:=by simpa using hk
   exact ⟨some ⟨b,0,0⟩,0,fun E x y hx hy=>by simp [VOp.ev,hx,hy,Od.oev,slcV],.inl rfl⟩
  obtain ⟨e0,rows0,rfl⟩: ∃e0 es0,rows=e0::es0:=by cases rows with|nil=>exact absurd rfl hr0|cons a l=>exact ⟨a,l,rfl⟩
  have hle:=h5.length_le
  refine ⟨some (if (k:Int)=0 then ⟨b,0,0⟩ else padd e0.length ⟨b,0,0⟩ (k:Int).toNat z),((e0::rows0).length:Int).toNat-k,fun E x y hx hy=> ?_,?_⟩
  ·simp only [VOp.ev,hx,Od.oev,hy,slcV]
   rw [if_pos ⟨by omega,by omega,by simp at hle ⊢;omega,by simp⟩]
   simp only [h1']
   rw [if_neg (by simp),if_neg (fun hh=>hh.2 ⟨trivial,h4 e0 (by simp)⟩)]
   congr 2
   ·omega
   ·omega
  ·have hp:(if (k:Int)=0 then (⟨b,0,0⟩:PA) else padd e0.length ⟨b,0,0⟩ (k:Int).toNat z)=⟨b,k,0⟩:=by
    split
    ·rename_i h0;simp at h0;rw [h0]
    ·simp [padd,h4 e0]
   rw [hp]
   refine .inr ⟨b,k,md,t,e0::rows0,rfl,h1,h4,fun i e he=> ?_⟩
   rw [List.getElem?_drop] at he
   obtain ⟨r,hr⟩:=h5
   rw [←hr,List.getElem?_append_left (List.getElem?_eq_some_iff.1 he).1];exact he
end
theorem srcEls_of {H:Hp} {p:Option PA} {z:Nat} {es:List (List VV)} {c:Nat} (h:Sl H p z es) {m:Nat} (hm:es.length=m):srcEls H.g z (.sl p m c)=some es:=by
 subst hm
 by_cases he:es=[]
 ·subst he
  cases p<;>simp [srcEls]
 ·rcases h with h|⟨b,i,md,t,rows,rfl,h2,h3,h4⟩
  ·exact absurd h he
  ·have h2':H.g b=some (.row t md rows):=h2
   have hl:es.length≠0:=fun h=>he (List.eq_nil_of_length_eq_zero h)
   have hlast:=h4 (es.length-1) _ (List.getElem?_eq_getElem (by omega))
   have hlt:=(List.getElem?_eq_some_iff.1 hlast).1
   cases rows with
   |nil=>simp at hlt
   |cons e0 rows0=>
    simp only [srcEls,h2']
    rw [if_neg hl,if_pos ⟨trivial,h3 e0 (by simp),by simp at hlt ⊢;omega⟩]
    congr 1
    apply List.ext_getElem?
    intro k
    rw [List.getElem?_take]
    by_cases hk:k<es.length
    ·rw [if_pos hk,List.getElem?_drop,h4 k _ (List.getElem?_eq_getElem hk),List.getElem?_eq_getElem hk]
    ·rw [if_neg hk,List.getElem?_eq_none (by omega)]
section
variable {P:Program} {B N:Nat} {rn:Bool} {E:Fr} {H:Hp} {Q:VQ} {ops:List VI}
theorem VOps.st {g:Option (Nat×Bool)} {b off k:Nat} {x y:Od} {cs l:List VV} {v:VV} (hw:want E g=some true) (hx:x.ev E=some (.ptr (some ⟨b,0,off⟩))) (hv:y.ev E=some v) (h:Box H b cs) (hd:v.defd=true) (hk:v.cells.length=k) (hok:okCells v.cells=true) (ho:off+k≤cs.length) (hl:upd cs off v.cells=l)
 (hn: ∀H2,Box H2 b l→Keep [b] H H2→H2.length=H.length→VOps P B N rn ops E H2 Q):VOps P B N rn (.ef none g (.store k x y)::ops) E H Q:=by
 obtain ⟨us,h1,h2,h3,h4⟩:=ev_stB (n:=H.length) hx hv h hd hk hok ho hl
 exact VOps.ef hw h1 (hn _ h2 h3 h4)
theorem VOps.app1 {α:Type} [Enc α] {ok:Nat→Prop} {bs:List Nat} {t t':TypeId} {bytes d1 d2:Nat} {z:Nat} {mk:VEf} {s y:Od} {v:VV} {l:List α} {x:α} {e:List VV} (hz:z=Enc.sz α) (hmk:mk.ev E H.g H.length=some (.sl (some ⟨H.length,0,0⟩) 1 1,[(H.length,.row t' .own [e])]))
 (hx:Enc.rep ok H x e) (hb:BufR ok H bs t v l) (hs:s.ev ((d1,.sl (some ⟨H.length,0,0⟩) 1 1)::E)=some v) (hy:y.ev ((d1,.sl (some ⟨H.length,0,0⟩) 1 1)::E)=some (.sl (some ⟨H.length,0,0⟩) 1 1)) (ho: ∀i,ok i→i∉bs) (hn1:(l.length+1)*bytes≤140737488355328) (hn2:l.length+1≤4611686018427387904)
 (hn: ∀v' H2 bs',BufR ok H2 bs' t v' (l++[x])→Keep bs H H2→(∀b∈bs',b∈bs∨H.length≤b)→VOps P B N rn ops ((d2,v')::(d1,.sl (some ⟨H.length,0,0⟩) 1 1)::E) H2 Q):
 VOps P B N rn (.ef (some d1) none mk:: .ef (some d2) none (.app t z bytes s y)::ops) E H Q:=by
 subst hz
 obtain ⟨v',us,bs',a1,a2,a3,a4⟩:=hb.one (bytes:=bytes) (t':=t') hx ho rfl hn1 hn2
 refine VOps.ef rfl hmk ?_
 rw [applyU_push]
 exact VOps.ef rfl (a1 _ _ _ hs hy) (hn _ _ _ a2 a3 a4)
theorem BufR.sl {α:Type} [Enc α] {ok:Nat→Prop} {bs:List Nat} {t:TypeId} {v:VV} {l:List α} (h:BufR ok H bs t v l): ∃p c es,v= .sl p l.length c∧Sl H p (Enc.sz α) es∧EsR ok H l es:=by
 obtain ⟨es,h1,h2⟩:=h
 obtain ⟨p,c,rfl,h3,h4⟩:=h1.sl
 exact ⟨p,c,es,by rw [h2.1],h3,h2⟩
theorem BufR.ints {ok:Nat→Prop} {bs:List Nat} {t:TypeId} {v:VV} {l:List Int} (h:BufR ok H bs t v l):Buf H bs t 1 v (intEs l):=by
 obtain ⟨es,h1,h2⟩:=h
 rw [←h2.ints];exact h1
theorem BufR.ofInts {ok:Nat→Prop} {bs:List Nat} {t:TypeId} {v:VV} {l:List Int} (h:Buf H bs t 1 v (intEs l)):BufR ok H bs t v l:=⟨_,h,EsR.ofInts _ _ _⟩
end
section
variable {ok:Nat→Prop} {H:Hp} {bs:List Nat} {t:TypeId} {v:VV}
theorem intEs_drop (l:List Int) (k:Nat):(intEs l).drop k=intEs (l.drop k):=by simp [intEs,List.map_drop]
theorem BufR.tailI {l:List Int} (h:BufR ok H bs t v l) {k:Nat} (hk:k≤l.length): ∃p c,(∀(E:Fr) (x y:Od),x.ev E=some v→y.ev E=some (.int .i64 k)→(VOp.slc 1 x (some y) none none).ev E H.g=some (.sl p (l.drop k).length c))∧Sl H p 1 (intEs (l.drop k)):=by
 obtain ⟨p,c,h1,h2⟩:=h.ints.tail (k:=k) (by rw [intEs_len];exact hk)
 rw [intEs_len] at h1
 rw [intEs_drop] at h2
 exact ⟨p,c,by rw [List.length_drop];exact h1,h2⟩
theorem BufR.cut {α:Type} [Enc α] {l:List α} (h:BufR ok H bs t v l) {k:Nat} (hk:k≤l.length) {z:Nat} (hz:z=Enc.sz α): ∃v',(∀(E:Fr) (x y:Od),x.ev E=some v→y.ev E=some (.int .i64 k)→(VOp.slc z x none (some y) none).ev E H.g=some v')∧BufR ok H bs t v' (l.take k):=by
 subst hz
 obtain ⟨es,h1,h2⟩:=h
 have key:=h1.cut (E:=[(0,v),(1,.int .i64 k)]) (x:= .t 0) (y:= .t 1) (k:=k) (kd:= .i64) rfl rfl (by rw [h2.1];exact hk)
 obtain ⟨v',e1,e2⟩:=key
 refine ⟨v',fun E x y hx hy=> ?_,es.take k,e2,h2.take k⟩
 rw [←e1]
 simp only [VOp.ev,hx,Od.oev,hy]
 rfl
end
theorem Sl.keep {H H':Hp} {M:List Nat} {p:Option PA} {z:Nat} {es:List (List VV)} (h:Sl H p z es) (k:Keep M H H') (hp: ∀q,p=some q→q.blk∉M):Sl H' p z es:=by
 rcases h with h|⟨b,i,md,t,rows,rfl,h2,h3,h4⟩
 ·exact .inl h
 ·exact .inr ⟨b,i,md,t,rows,rfl,k.get h2 (hp _ rfl),h3,h4⟩
theorem Box.st {H:Hp} {b off k:Nat} {cs l:List VV} {v:VV} (h:Box H b cs) (hd:v.defd=true) (hk:v.cells.length=k) (hok:okCells v.cells=true) (ho:off+k≤cs.length) (hl:upd cs off v.cells=l):
 ∃us,(∀(E:Fr) (x y:Od) (n:Nat),x.ev E=some (.ptr (some ⟨b,0,off⟩))→y.ev E=some v→(VEf.store k x y).ev E H.g n=some (.undef,us))∧Box (applyU H us) b l∧Keep [b] H (applyU H us)∧(applyU H us).length=H.length:=by
 have hlt:=h.lt
 obtain ⟨t,md,h1,h⟩:=h
 have h':H.g b=some (.row t md [cs]):=h
 refine ⟨[(b,.row t md [l])],fun E x y n hx hv=> ?_,?_,?_,?_⟩
 ·simp only [VEf.ev,hx,hv]
  rw [if_pos ⟨hd,hk⟩]
  simp only [stc,h',List.getElem?_cons_zero]
  rw [if_neg h1,if_pos ⟨by omega,hok⟩,hl]
  rfl
 ·rw [applyU_set hlt];exact ⟨t,md,h1,List.getElem?_set_self hlt⟩
 ·rw [applyU_set hlt];exact (Keep.refl _).set (fun _=>by simp) _
 ·rw [applyU_set hlt];simp
theorem SlR.ldL {α:Type} [Enc α] {ok:Nat→Prop} {H:Hp} {p:Option PA} {ls:List (List α)} (hs:SlR ok H p ls) {j:Nat} {l:List α} (hj:ls[j]? =some l): ∃q c,(∀(E:Fr) (x:Od),x.ev E=some (.ptr (some (elp p j)))→(VOp.load 1 false x).ev E H.g=some (.sl q l.length c))∧SlR ok H q l:=by
 obtain ⟨es,h2,_,h3⟩:=hs
 obtain ⟨e,he,q,c,hr,h4⟩:=h3.get hj
 subst hr
 exact ⟨q,c,fun E x hx=>ev_ld (r:=[]) h2 hx he,h4⟩
theorem BufR.many {α:Type} [Enc α] {ok:Nat→Prop} {H:Hp} {bs:List Nat} {t:TypeId} {v:VV} {l m:List α} {p:Option PA} {c bytes z:Nat} {fs:List (List VV)} (h:BufR ok H bs t v l) (h3:Sl H p (Enc.sz α) fs) (h4:EsR ok H m fs) (ho: ∀i,ok i→i∉bs) (hz:z=Enc.sz α) (hb:(l.length+m.length)*bytes≤140737488355328) (hb2:l.length+m.length≤4611686018427387904):
 ∃v' us bs',(∀(E:Fr) (s y:Od),s.ev E=some v→y.ev E=some (.sl p m.length c)→(VEf.app t z bytes s y).ev E H.g H.length=some (v',us))∧BufR ok (applyU H us) bs' t v' (l++m)∧Keep bs H (applyU H us)∧ ∀b∈bs',b∈bs∨H.length≤b:=by
 subst hz
 obtain ⟨es,h1,h2⟩:=h
 have hsrc:srcEls H.g (Enc.sz α) (.sl p m.length c)=some fs:=srcEls_of h3 h4.1
 by_cases hn:fs=[]
 ·subst hn
  obtain rfl:m=[]:=List.eq_nil_of_length_eq_zero h4.1.symm
  obtain ⟨q,cq,e1,hq,hq2⟩:=h1.sl
  refine ⟨v,[],bs,fun E s y hs hy=> ?_,⟨es,by rw [applyU_nil];exact h1,by rw [List.append_nil,applyU_nil];exact h2⟩,by rw [applyU_nil];exact Keep.refl _,fun b hb=> .inl hb⟩
  have hle:es.length≤cq:=by
   rcases h1 with ⟨_,rfl,rfl⟩|⟨b,md,rows,_,rfl,_,_,_,_,h5⟩
   ·simp
   ·cases e1;exact h5.length_le
  subst e1
  simp only [VEf.ev,hs,hy,hsrc,appV]
  rw [if_pos (by simpa using hle),if_pos trivial]
 ·obtain ⟨v',us,bs',a1,a2,a3,a4⟩:=h1.app (bytes:=bytes) hsrc hn h4.cells (by rw [h2.1,h4.1];exact hb) (by rw [h2.1,h4.1];exact hb2)
  refine ⟨v',us,bs',a1,⟨es++fs,a2,?_⟩,a3,a4⟩
  have hk: ∀i,i<H.length→ok i→(applyU H us)[i]? =H[i]? :=fun i hi hoi=>a3.2 i hi (ho i hoi)
  refine ⟨by simp [h2.1,h4.1],fun i x e hx he=> ?_⟩
  by_cases hi:i<l.length
  ·rw [List.getElem?_append_left hi] at hx
   rw [List.getElem?_append_left (by rw [h2.1];exact hi)] at he
   exact Enc.keep (h2.2 i x e hx he) hk
  ·rw [List.getElem?_append_right (by omega)] at hx
   rw [List.getElem?_append_right (by rw [h2.1];omega),h2.1] at he
   exact Enc.keep (h4.2 _ x e hx he) hk
end Go.Wm
end
section
namespace Go.Wm
set_option linter.unusedSimpArgs false
set_option linter.unusedVariables false
open Go.RowKit
def FnX (P:Program) (f:FuncId) (args:List VV) (H:Hp) (R:VV→Hp→Prop):Prop:= ∃v H',R v H'∧FnV P f args H fun r H2=>r=v∧H2=H'
def OD (P:Program) (N:Nat) (rn:Bool) (l:List VI) (E:Fr) (H:Hp) (Q:VQ):Prop:= ∃e E' H',Q e E' H'∧ ∀B,VOps P B N rn l E H fun e2 E2 H2=>e2=e∧E2=E'∧H2=H'
def WD (P:Program) (N:Nat) (rn:Bool) (vc:VC) (F:Fr) (H:Hp) (Q:VQ):Prop:= ∃e F' H',Q e F' H'∧ ∀B,VW P B N rn vc F H fun e2 F2 H2=>e2=e∧F2=F'∧H2=H'
section
variable {P:Program} {f:FuncId} {args:List VV} {H:Hp} {R R':VV→Hp→Prop}
theorem FnX.fnv (h:FnX P f args H R):FnV P f args H R:=by
 obtain ⟨v,H',h1,h2⟩:=h
 exact h2.mono fun r H2 ⟨e1,e2⟩=>by rw [e1,e2];exact h1
theorem FnX.mono (h:FnX P f args H R) (k: ∀v H',R v H'→R' v H'):FnX P f args H R':=by
 obtain ⟨v,H',h1,h2⟩:=h
 exact ⟨v,H',k _ _ h1,h2⟩
theorem FnV.fnx {v:VV} {H':Hp} (h:FnV P f args H fun r H2=>r=v∧H2=H'):FnX P f args H fun r H2=>r=v∧H2=H':=⟨v,H',⟨rfl,rfl⟩,h⟩
end
section
variable {P:Program} {N:Nat} {rn:Bool} {E F:Fr} {H:Hp} {Q:VQ} {l:List VI} {d:Nat} {g:Option (Nat×Bool)} {v:VV}
theorem OD.sk {x:VOp} (hw:want E g=some false) (h:OD P N rn l ((d,.tup [])::E) H Q):OD P N rn (.rd d g x::l) E H Q:=
 let ⟨e,E',H',q,k⟩:=h;⟨e,E',H',q,fun B=>VOps.sk hw (k B)⟩
theorem OD.skip {x:VI} (hw:want E x.gd=some false) (h:OD P N rn l (E.pt x.ds (.tup [])) H Q):OD P N rn (x::l) E H Q:=
 let ⟨e,E',H',q,k⟩:=h;⟨e,E',H',q,fun B=>VOps.skip hw (k B)⟩
theorem OD.rd {x:VOp} (hw:want E g=some true) (he:x.ev E H.g=some v) (h:OD P N rn l ((d,v)::E) H Q):OD P N rn (.rd d g x::l) E H Q:=
 let ⟨e,E',H',q,k⟩:=h;⟨e,E',H',q,fun B=>VOps.rd hw he (k B)⟩
theorem OD.ef {d:Option Nat} {x:VEf} {us:Up} (hw:want E g=some true) (he:x.ev E H.g H.length=some (v,us)) (h:OD P N rn l (E.pt d v) (applyU H us) Q):OD P N rn (.ef d g x::l) E H Q:=
 let ⟨e,E',H',q,k⟩:=h;⟨e,E',H',q,fun B=>VOps.ef hw he (k B)⟩
theorem OD.call {d:Option Nat} {fo:Od} {ar:List Od} {f:FuncId} {caps vs:List VV} {R:VV→Hp→Prop} (hw:want E g=some true) (hf:fo.ev E=some (.fn f caps)) (hv:Od.evs E ar=some vs) (hc:FnX P f (vs++caps) H R)
 (h: ∀v H',R v H'→OD P N rn l (E.pt d v) H' Q):OD P N rn (.call d g fo ar::l) E H Q:=by
 obtain ⟨v,H',h1,h2⟩:=hc
 obtain ⟨e,E',H2,q,k⟩:=h v H' h1
 exact ⟨e,E',H2,q,fun B=>VOps.call hw hf hv (h2.mono fun r H3 ⟨e1,e2⟩=>by rw [e1,e2];exact k B)⟩
theorem OD.nil (h:Q .normal E H):OD P N rn [] E H Q:=⟨_,_,_,h,fun B=>VOps.nil ⟨rfl,rfl,rfl⟩⟩
theorem OD.fin {keep:Nat} (h:Q .normal (E.only keep) H):OD P N rn [] E H (atEnd Q keep):=OD.nil ⟨rfl,h⟩
theorem WD.reg {keep:Nat} (h:OD P N rn l F H (atEnd Q keep)):WD P N rn (.reg l keep) F H Q:=by
 obtain ⟨e,E',H',⟨rfl,q⟩,k⟩:=h
 exact ⟨_,_,_,q,fun B=>VW.reg ((k B).mono fun e2 E2 H2 ⟨h1,h2,h3⟩=>⟨h1,rfl,by rw [h2],h3⟩)⟩
theorem WD.skip (h:Q .normal F H):WD P N rn .skip F H Q:=⟨_,_,_,h,fun B=>VW.skip ⟨rfl,rfl,rfl⟩⟩
theorem WD.exit {id:Nat} (h:Q (.exit id) F H):WD P N rn (.exit id) F H Q:=⟨_,_,_,h,fun B=>VW.exit ⟨rfl,rfl,rfl⟩⟩
theorem WD.ret (h:Q .ret F H):WD P N rn .ret F H Q:=⟨_,_,_,h,fun B=>VW.ret ⟨rfl,rfl,rfl⟩⟩
theorem WD.mono {vc:VC} {Q':VQ} (h:WD P N rn vc F H Q) (k: ∀e F H,Q e F H→Q' e F H):WD P N rn vc F H Q':=
 let ⟨e,F',H',q,r⟩:=h;⟨e,F',H',k _ _ _ q,r⟩
theorem WD.seq {x y:VC} (h:WD P N rn x F H (Then (fun F' H'=>WD P N rn y F' H' Q) Q)):WD P N rn (.seq x y) F H Q:=by
 obtain ⟨e,F',H',q,k⟩:=h
 have other:Q e F' H'→e≠ .normal→WD P N rn (.seq x y) F H Q:=fun q hne=>⟨e,F',H',q,fun B=>VW.seq ((k B).mono fun e2 F2 H2 ⟨h1,h2,h3⟩=>by
  subst h1 h2 h3
  cases e2 with
  |normal=>exact absurd rfl hne
  |_=>exact ⟨rfl,rfl,rfl⟩)⟩
 cases e with
 |normal=>
  obtain ⟨e2,F2,H2,q2,k2⟩:=q
  exact ⟨e2,F2,H2,q2,fun B=>VW.seq ((k B).mono fun e3 F3 H3 ⟨h1,h2,h3⟩=>by subst h1 h2 h3;exact k2 B)⟩
 |_=>exact other q (by simp)
theorem WD.condT {s:Nat} {x y:VC} (hs:F.get s=some (.bool true)) (h:WD P N rn x F H Q):WD P N rn (.cond s x y) F H Q:=
 let ⟨e,F',H',q,k⟩:=h;⟨e,F',H',q,fun B=>VW.condT hs (k B)⟩
theorem WD.condF {s:Nat} {x y:VC} (hs:F.get s=some (.bool false)) (h:WD P N rn y F H Q):WD P N rn (.cond s x y) F H Q:=
 let ⟨e,F',H',q,k⟩:=h;⟨e,F',H',q,fun B=>VW.condF hs (k B)⟩
theorem WD.block {id:Nat} {x:VC} (h:WD P N rn x F H (inB id Q)):WD P N rn (.block id x) F H Q:=by
 obtain ⟨e,F',H',q,k⟩:=h
 have other:Q e F' H'→(∀i,e≠ .exit i)→WD P N rn (.block id x) F H Q:=fun q hne=>⟨e,F',H',q,fun B=>VW.block ((k B).mono fun e2 F2 H2 ⟨h1,h2,h3⟩=>by
  subst h1 h2 h3
  cases e2 with
  |exit i=>exact absurd rfl (hne i)
  |_=>exact ⟨rfl,rfl,rfl⟩)⟩
 cases e with
 |exit i=>
  simp only [inB] at q
  by_cases hi:i=id
  ·rw [if_pos hi] at q
   exact ⟨.normal,F',H',q,fun B=>VW.block ((k B).mono fun e2 F2 H2 ⟨h1,h2,h3⟩=>by subst h1 h2 h3;rw [inB_exit,if_pos hi];exact ⟨rfl,rfl,rfl⟩)⟩
  ·rw [if_neg hi] at q
   exact ⟨.exit i,F',H',q,fun B=>VW.block ((k B).mono fun e2 F2 H2 ⟨h1,h2,h3⟩=>by subst h1 h2 h3;rw [inB_exit,if_neg hi];exact ⟨rfl,rfl,rfl⟩)⟩
 |_=>exact other q (by simp)
theorem WD.cov {vc:VC} {G:Fr} (hc:Cov G F) (hd:F.get dslot=none) (hg:G.get dslot=none) (h:WD P N rn vc G H Q):WD P N rn vc F H Q:=
 let ⟨e,F',H',q,k⟩:=h;⟨e,F',H',q,fun B=>VW.cov hc hd hg (k B)⟩
end
theorem WD.loop {P:Program} {N:Nat} {rn:Bool} {x:VC} {F:Fr} {H:Hp} {Q:VQ} (I:Nat→Fr→Hp→Prop) (n0:Nat) (h0:I n0 F H)
 (round: ∀n F' H',I n F' H'→WD P N rn x F' H' (Then (fun F2 H2=> ∃m,m<n∧I m F2 H2) Q)):WD P N rn (.loop x) F H Q:=by
 have key: ∀(n:Nat) (F:Fr) (H:Hp),I n F H→ ∃e F' H',Q e F' H'∧ ∃T:Nat→Fr→Hp→Prop,T n F H∧(∀B m F1 H1,T m F1 H1→VW P B N rn x F1 H1 (Then (fun F2 H2=> ∃k,k<m∧T k F2 H2) fun e2 F2 H2=>e2=e∧F2=F'∧H2=H')):=by
  intro n
  induction n using Nat.strongRecOn with
  |_ n ih=>
   intro F H hI
   obtain ⟨e,F',H',q,k⟩:=round n F H hI
   have other:Q e F' H'→e≠ .normal→ ∃e F' H',Q e F' H'∧ ∃T:Nat→Fr→Hp→Prop,T n F H∧(∀B m F1 H1,T m F1 H1→VW P B N rn x F1 H1 (Then (fun F2 H2=> ∃k,k<m∧T k F2 H2) fun e2 F2 H2=>e2=e∧F2=F'∧H2=H')):=fun q hne=>
    ⟨e,F',H',q,fun m F1 H1=>m=n∧F1=F∧H1=H,⟨rfl,rfl,rfl⟩,fun B m F1 H1 ⟨h1,h2,h3⟩=>by
     subst h1 h2 h3
     refine (k B).mono fun e2 F2 H2 ⟨h1,h2,h3⟩=> ?_
     subst h1 h2 h3
     cases e2 with
     |normal=>exact absurd rfl hne
     |_=>exact ⟨rfl,rfl,rfl⟩⟩
   cases e with
   |normal=>
    obtain ⟨m,hm,hI'⟩:=q
    obtain ⟨e,F2,H2,q2,T,hT,hr⟩:=ih m hm F' H' hI'
    refine ⟨e,F2,H2,q2,fun j F1 H1=>(j=n∧F1=F∧H1=H)∨(j<n∧T j F1 H1),.inl ⟨rfl,rfl,rfl⟩,fun B j F1 H1 hj=> ?_⟩
    rcases hj with ⟨h1,h2,h3⟩|⟨hlt,hj⟩
    ·subst h1 h2 h3
     refine (k B).mono fun e2 F2 H2 ⟨h1,h2,h3⟩=> ?_
     subst h1 h2 h3
     exact ⟨m,hm,.inr ⟨hm,hT⟩⟩
    ·refine (hr B j F1 H1 hj).mono fun e2 F2 H2 hq=> ?_
     cases e2 with
     |normal=>obtain ⟨z,hz,hz2⟩:=hq;exact ⟨z,hz,.inr ⟨by omega,hz2⟩⟩
     |_=>exact hq
   |_=>exact other q (by simp)
 obtain ⟨e,F',H',q,T,hT,hr⟩:=key n0 F H h0
 exact ⟨e,F',H',q,fun B=>VW.loop T n0 hT (hr B)⟩
theorem VX.det {P:Program} {hs:List Hp} {Q:Fr→Hp→Prop}: ∀{l:List VI} {b:List (Nat×Nat)} {m:Nat} {E:Fr} {H:Hp},VX P hs l b m E H Q→ ∃E' H',Q E' H'∧VX P hs l b m E H fun E2 H2=>E2=E'∧H2=H'
 |[],b,m,E,H,h=>⟨E,H,h,rfl,rfl⟩
 |x::l,b,m,E,H,.inl ⟨h1,h2,h3⟩=>by
  obtain ⟨E',H',q,k⟩:=VX.det h3
  exact ⟨E',H',q,.inl ⟨h1,h2,k⟩⟩
 |x::l,b,m,E,H,.inr ⟨h1,v,H1,h2,h3⟩=>by
  obtain ⟨E',H',q,k⟩:=VX.det h3
  exact ⟨E',H',q,.inr ⟨h1,v,H1,h2,k⟩⟩
section
variable {P:Program} {N:Nat} {rn:Bool} {E F:Fr} {H:Hp} {Q:VQ}
theorem WD.dreg {l:List VI} {b:List (Nat×Nat)} {keep:Nat} (hs:List Hp) (hm:P.follows .mixedOrders=true) (hC:hs[0]? =some H) (h:VX P hs l b 0 F H fun E H'=>Q .normal (E.only keep) H'):WD P N rn (.dreg l b keep) F H Q:=by
 obtain ⟨E',H',q,k⟩:=VX.det h
 exact ⟨.normal,E'.only keep,H',q,fun B=>VW.dreg hs hm hC (VX.mono (fun E2 H2 ⟨h1,h2⟩=>⟨rfl,by rw [h1],h2⟩) k)⟩
theorem FnX.enterRow {r:FRow} {args:List VV} {R:VV→Hp→Prop} (hr:RowFOk P r) (hl:args.length≤r.n)
 (h:WD P r.n false (strip r.vc) (argsF 0 args) H fun e F' H'=>(e= .ret∨e= .normal)∧F'.get dslot=none∧ ∃v,resV F' H'.g r.rs=some v∧R v H'):FnX P r.f args H R:=by
 obtain ⟨e,F',H',⟨h1,h2,v,h3,h4⟩,k⟩:=h
 exact ⟨v,H',h4,FnV.enterRow hr hl fun B=>(k B).mono fun e2 F2 H2 ⟨a,b,c⟩=>by subst a b c;exact ⟨h1,h2,v,h3,rfl,rfl⟩⟩
theorem OD.st {ops:List VI} {g:Option (Nat×Bool)} {b off k:Nat} {x y:Od} {cs l:List VV} {v:VV} (hw:want E g=some true) (hx:x.ev E=some (.ptr (some ⟨b,0,off⟩))) (hv:y.ev E=some v) (h:Box H b cs) (hd:v.defd=true) (hk:v.cells.length=k) (hok:okCells v.cells=true) (ho:off+k≤cs.length) (hl:upd cs off v.cells=l)
 (hn: ∀H2,Box H2 b l→Keep [b] H H2→H2.length=H.length→OD P N rn ops E H2 Q):OD P N rn (.ef none g (.store k x y)::ops) E H Q:=by
 obtain ⟨us,h1,h2,h3,h4⟩:=ev_stB (n:=H.length) hx hv h hd hk hok ho hl
 exact OD.ef hw h1 (hn _ h2 h3 h4)
theorem OD.app1 {α:Type} [Enc α] {ops:List VI} {ok:Nat→Prop} {bs:List Nat} {t t':TypeId} {bytes d1 d2:Nat} {z:Nat} {mk:VEf} {s y:Od} {v:VV} {l:List α} {x:α} {e:List VV} (hz:z=Enc.sz α) (hmk:mk.ev E H.g H.length=some (.sl (some ⟨H.length,0,0⟩) 1 1,[(H.length,.row t' .own [e])]))
 (hx:Enc.rep ok H x e) (hb:BufR ok H bs t v l) (hs:s.ev ((d1,.sl (some ⟨H.length,0,0⟩) 1 1)::E)=some v) (hy:y.ev ((d1,.sl (some ⟨H.length,0,0⟩) 1 1)::E)=some (.sl (some ⟨H.length,0,0⟩) 1 1)) (ho: ∀i,ok i→i∉bs) (hn1:(l.length+1)*bytes≤140737488355328) (hn2:l.length+1≤4611686018427387904)
 (hn: ∀v' H2 bs',BufR ok H2 bs' t v' (l++[x])→Keep bs H H2→(∀b∈bs',b∈bs∨H.length≤b)→OD P N rn ops ((d2,v')::(d1,.sl (some ⟨H.length,0,0⟩) 1 1)::E) H2 Q):
 OD P N rn (.ef (some d1) none mk:: .ef (some d2) none (.app t z bytes s y)::ops) E H Q:=by
 subst hz
 obtain ⟨v',us,bs',a1,a2,a3,a4⟩:=hb.one (bytes:=bytes) (t':=t') hx ho rfl hn1 hn2
 refine OD.ef rfl hmk ?_
 rw [applyU_push]
 exact OD.ef rfl (a1 _ _ _ hs hy) (hn _ _ _ a2 a3 a4)
end
theorem VX.rdq {P:Program} {hs:List Hp} {R:Fr→Hp→Prop} {l:List VI} {b:List (Nat×Nat)} {m d n:Nat} {g:Option (Nat×Bool)} {E:Fr} {H H0:Hp} {x:VOp} {v:VV} {M:List Nat} (hK: ∀j H1,hs[j]? =some H1→j≤n→Keep M H0 H1) (hb:(b.headD (0,0)).2≤n) (hw:want E g=some true) (he: ∀H1,Keep M H0 H1→x.ev E H1.g=some v) (h:VX P hs l b.tail m ((d,v)::E) H R):VX P hs (.rd d g x::l) b m E H R:=
 .inr ⟨hw,v,H,⟨rfl,fun j H1 _ h2 hj=>he H1 (hK j H1 hj (Nat.le_trans h2 hb))⟩,h⟩
theorem BufR.cut2 {α:Type} [Enc α] {ok:Nat→Prop} {H:Hp} {bs:List Nat} {t:TypeId} {v:VV} {l:List α} (h:BufR ok H bs t v l) {k:Nat} (hk:k≤l.length) {z:Nat} (hz:z=Enc.sz α): ∃v',(∀(K:Gt),(∀b∈bs,K b=H.g b)→ ∀(E:Fr) (x y:Od),x.ev E=some v→y.ev E=some (.int .i64 k)→(VOp.slc z x none (some y) none).ev E K=some v')∧BufR ok H bs t v' (l.take k):=by
 obtain ⟨v',h1,h2⟩:=h.cut hk hz
 refine ⟨v',fun K hK E x y hx hy=> ?_,h2⟩
 rw [←h1 E x y hx hy]
 obtain ⟨es,h3,h4⟩:=h
 rcases h3 with ⟨rfl,rfl,rfl⟩|⟨b,md,rows,rfl,rfl,_⟩
 ·simp only [VOp.ev,hx,Od.oev,hy,slcV]
 ·simp only [VOp.ev,hx,Od.oev,hy,slcV,hK b (by simp)]
theorem Keep.g {M:List Nat} {H H':Hp} (k:Keep M H H') {bs:List Nat} (hb: ∀b∈bs,b<H.length∧b∉M): ∀b∈bs,H'.g b=H.g b:=fun b h=>k.2 b (hb b h).1 (hb b h).2
theorem SlR.last {α:Type} [Enc α] {ok:Nat→Prop} {H:Hp} {t:TypeId} {l:List α} {es:List (List VV)} (ho:ok H.length) (h:EsR ok (H++[.row t .own es]) l es):SlR ok (H++[.row t .own es]) (some ⟨H.length,0,0⟩) l:=
 ⟨es,.inr ⟨H.length,0,.own,t,es,rfl,by simp,h.cells,fun k e he=>by simpa using he⟩,fun q hq _=>by cases hq;exact ho,h⟩
theorem EsR.cons {α:Type} [Enc α] {ok:Nat→Prop} {H:Hp} {x:α} {l:List α} {e:List VV} {es:List (List VV)} (h:Enc.rep ok H x e) (k:EsR ok H l es):EsR ok H (x::l) (e::es):=⟨by simp [k.1],fun i y f h1 h2=>by
 match i,h1,h2 with
 |0,h1,h2=>cases h1;cases h2;exact h
 |i+1,h1,h2=>exact k.2 i y f h1 h2⟩
theorem BufR.slI {ok:Nat→Prop} {H:Hp} {bs:List Nat} {t:TypeId} {l:List Int} {p:Option PA} {n c:Nat} (h:BufR ok H bs t (.sl p n c) l):Sl H p 1 (intEs l):=by
 obtain ⟨p',c',e,hs,_⟩:=h.ints.sl
 injection e with e1 e2 e3
 rw [e1];exact hs
theorem FnX.tidy {P:Program} {f:FuncId} {args:List VV} {H:Hp} {v:VV} (hf:v.flt=true) (h:FnX P f args H fun r H'=>r=v∧Keep [] H H'):FnX P f args H fun r H'=>r=v∧H'=H:=
 ⟨v,H,⟨rfl,rfl⟩,FnV.tidy hf (h.fnv.mono fun r H' ⟨h1,h2⟩=>⟨h1,h2.garbage⟩)⟩
def Ints (H:Hp) (v:VV) (l:List Int):Prop:= ∃p c,v= .sl p l.length c∧Sl H p 1 (intEs l)
theorem Ints.mono {H:Hp} {v:VV} {l:List Int} (h:Ints H v l) (G:Hp):Ints (H++G) v l:=let ⟨p,c,h1,h2⟩:=h;⟨p,c,h1,h2.mono G⟩
theorem Ints.ext {H H':Hp} {v:VV} {l:List Int} (h:Ints H v l) (k:Keep [] H H'):Ints H' v l:=by
 obtain ⟨G,rfl⟩:=k.garbage;exact h.mono G
section
variable {P:Program} {N:Nat} {rn:Bool} {E:Fr} {H:Hp} {Q:VQ} {ops:List VI} {d:Nat}
theorem OD.bx {g:Option (Nat×Bool)} {t:TypeId} {x:Od} {v:VV} {l:List VV} (hw:want E g=some true) (hx:x.ev E=some v) (hd:v.defd=true) (hok:okCells v.cells=true) (hl:v.cells=l)
 (hn: ∀H2,Box H2 H.length l→Keep [] H H2→H2.length=H.length+1→OD P N rn ops ((d,.ptr (some ⟨H.length,0,0⟩))::E) H2 Q):OD P N rn (.ef (some d) g (.box t x)::ops) E H Q:=by
 refine OD.ef hw (ev_boxN hx hd hok hl) ?_
 rw [applyU_push]
 exact hn _ (Box.last _ _ _) (Keep.app _) (by simp)
theorem OD.al {g:Option (Nat×Bool)} {t:TypeId} {zs:List VV} (hw:want E g=some true)
 (hn: ∀H2,Box H2 H.length zs→Keep [] H H2→H2.length=H.length+1→OD P N rn ops ((d,.ptr (some ⟨H.length,0,0⟩))::E) H2 Q):OD P N rn (.ef (some d) g (.alloc t zs)::ops) E H Q:=by
 refine OD.ef hw (v:= .ptr (some ⟨H.length,0,0⟩)) (us:=[(H.length,.row t .own [zs])]) rfl ?_
 rw [applyU_push]
 exact hn _ (Box.last _ _ _) (Keep.app _) (by simp)
theorem resC {F:Fr} {s b n:Nat} {cs:List VV} (hs:F.get s=some (.ptr (some ⟨b,0,0⟩))) (h:Box H b cs) (hn:cs.length=n):resV F H.g [.c s n true]=some (.agg cs):=by
 have:=ev_ldBA (E:=F) (x:= .t s) (m:=n) (off:=0) hs h (by omega) rfl
 simp only [resV,resL,this]
 subst hn
 simp
theorem resC2 {F:Fr} {s b n s2:Nat} {cs:List VV} {v:VV} (hs:F.get s=some (.ptr (some ⟨b,0,0⟩))) (h:Box H b cs) (hn:cs.length=n) (h2:F.get s2=some v):resV F H.g [.c s n true,.t s2]=some (.tup [.agg cs,v]):=by
 have:=ev_ldBA (E:=F) (x:= .t s) (m:=n) (off:=0) hs h (by omega) rfl
 simp only [resV,resL,this,h2]
 subst hn
 simp
end
end Go.Wm
end
section
namespace Go.Wm
set_option linter.unusedSimpArgs false
set_option linter.unusedVariables false
theorem Buf.st {H:Hp} {bs:List Nat} {t:TypeId} {z:Nat} {v:VV} {es:List (List VV)} (h:Buf H bs t z v es) {j o k:Nat} {e:List VV} {w:VV} (he:es[j]? =some e) (hd:w.defd=true) (hk:w.cells.length=k) (hok:okCells w.cells=true) (ho:o+k≤z):
 ∃p c us,v= .sl p es.length c∧(∀(E:Fr) (x y:Od) (n:Nat),x.ev E=some (.ptr (some ⟨(elp p j).blk,(elp p j).idx,(elp p j).off+o⟩))→y.ev E=some w→(VEf.store k x y).ev E H.g n=some (.undef,us))∧Buf (applyU H us) bs t z v (es.set j (upd e o w.cells))∧Keep bs H (applyU H us)∧(applyU H us).length=H.length:=by
 have hj:=(List.getElem?_eq_some_iff.1 he).1
 have hez:=h.cells e (List.mem_of_getElem? he)
 rcases h with ⟨rfl,rfl,rfl⟩|⟨b,md,rows,rfl,rfl,h1,h2,h3,h4,h5⟩
 ·simp at he
 ·have h1':H.g b=some (.row t md rows):=h1
  have hbl:=(List.getElem?_eq_some_iff.1 h1).1
  have hle:=h5.length_le
  obtain ⟨r,hr⟩:=h5
  have hek:rows[j]? =some e:=by rw [←hr,List.getElem?_append_left hj];exact he
  have hul:(upd e o w.cells).length=z:=by rw [(upd_get w.cells e o (by omega)).1,hez]
  refine ⟨some ⟨b,0,0⟩,_,[(b,.row t md (rows.set j (upd e o w.cells)))],rfl,fun E x y n hx hy=> ?_,?_,?_,?_⟩
  ·simp only [VEf.ev,hx,hy]
   rw [if_pos ⟨hd,hk⟩]
   simp only [stc,elp,h1',Nat.zero_add,hek]
   rw [if_neg h2,if_pos ⟨by omega,hok⟩]
  ·rw [applyU_set hbl]
   refine .inr ⟨b,md,rows.set j (upd e o w.cells),rfl,by simp,List.getElem?_set_self hbl,h2,?_,fun e' he'=> ?_,?_⟩
   ·intro hnil
    have:=congrArg List.length hnil
    simp at this
    exact h3 this
   ·rcases List.mem_or_eq_of_mem_set he' with he'|rfl
    ·exact h4 e' he'
    ·exact hul
   ·rw [←hr,List.set_append_left _ _ hj]
    exact List.prefix_append _ _
  ·rw [applyU_set hbl];exact (Keep.refl _).set (fun _=>by simp) _
  ·rw [applyU_set hbl];simp
theorem ev_mkbool {E:Fr} {G:Gt} {n:Nat} {t:TypeId} {x:Od} {y z:Bool} (hx:x.ev E=some (.bool y)):(VEf.mkrow t [.bool z] 1 [(0,x)]).ev E G n=some (.sl (some ⟨n,0,0⟩) 1 1,[(n,.row t .own [[.bool y]])]):=by
 simp [VEf.ev,fillRows,hx,VV.defd,VV.cells,okCells,VV.cell]
theorem fldApp {α:Type} [Enc α] {H:Hp} {tr o bytes:Nat} {bs:List Nat} {t:TypeId} {v:VV} {l:List α} {x:α} {e cs:List VV} {ok:Nat→Prop} (hb:Box H tr cs) (ho:o+1≤cs.length) (hv:BufR ok H bs t v l) (hx:Enc.rep ok H x e) (htr:tr∉bs) (h1: ∀i,ok i→i∉bs) (h2: ∀i,ok i→i≠tr) (hn:(l.length+1)*bytes≤140737488355328) (hn2:l.length+1≤4611686018427387904):
 ∃v' us us2 bs',(∀(E:Fr) (s y:Od),s.ev E=some v→y.ev E=some (.sl (some ⟨H.length,0,0⟩) 1 1)→(VEf.app t (Enc.sz α) bytes s y).ev E (H++[Blk.row t .own [e]]).g (H++[Blk.row t .own [e]]).length=some (v',us))∧
  (∀(E:Fr) (x y:Od),x.ev E=some (.ptr (some ⟨tr,0,o⟩))→y.ev E=some v'→(VEf.store 1 x y).ev E (applyU (H++[Blk.row t .own [e]]) us).g (applyU (H++[Blk.row t .own [e]]) us).length=some (.undef,us2))∧
  Keep bs H (applyU (H++[Blk.row t .own [e]]) us)∧Keep (tr::bs) H (applyU (applyU (H++[Blk.row t .own [e]]) us) us2)∧
  Box (applyU (applyU (H++[Blk.row t .own [e]]) us) us2) tr (upd cs o [v'])∧BufR ok (applyU (applyU (H++[Blk.row t .own [e]]) us) us2) bs' t v' (l++[x])∧(∀b∈bs',b∈bs∨H.length≤b):=by
 obtain ⟨v',us,bs',a1,a2,a3,a4⟩:=hv.one (bytes:=bytes) (t':=t) hx h1 rfl hn hn2
 have hlt:=hb.lt
 have b1:=hb.keep a3 htr
 obtain ⟨p3,c,es3,rfl,_,_⟩:=a2.sl
 obtain ⟨us2,e2,b2,k2,l2⟩:=b1.st (off:=o) (k:=1) (v:= .sl p3 (l++[x]).length c) rfl rfl rfl ho rfl
 refine ⟨_,us,us2,bs',a1,fun E x y hx hy=>e2 _ _ _ _ hx hy,a3,(a3.mono (N:=tr::bs) (fun i hi _=>List.mem_cons_of_mem _ hi)).trans k2 (fun i hi _=>by simp at hi;simp [hi]),b2,a2.keep k2 (fun b' hb' hc=> ?_) (fun i hi hc=> ?_),a4⟩
 ·simp at hc
  subst hc
  rcases a4 _ hb' with h|h
  ·exact htr h
  ·omega
 ·simp at hc
  exact h2 i hi hc
theorem ev_fa {E:Fr} {x:Od} {p:PA} {o:Nat} {G:Gt} (hx:x.ev E=some (.ptr (some p))):(VOp.faddr o x).ev E G=some (.ptr (some ⟨p.blk,p.idx,p.off+o⟩)):=by
 simp only [VOp.ev,hx]
end Go.Wm
end
