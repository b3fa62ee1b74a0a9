/- Texts as one: SyC DrG DrH DrI SyD SyE DrP. -/
import Derived.Test.YtnjjieohlnhicaaGreatDoorKaz
section
namespace Go.Proofs.YtnjjieohlnhicaaGreatDoor
set_option linter.unusedSimpArgs false
set_option linter.unusedVariables false
open Go Go.Wm Go.Proofs Go.RowKit
set_option maxRecDepth 100000
set_option maxHeartbeats 4000000
namespace Dr
structure Sys where
 terms:List (List UInt8×Int)
 nons:List (List UInt8)
 levels:List Int
 start:Int
 prods:List (Int×(List Int×Int))
 acts:List (List (Int×Int))
 gotos:List (List Int)
 conf:List Cl
 p:PT
structure Sys.Sm (S:Sys):Prop where
 terms:S.terms.length≤1000000000
 nons:S.nons.length≤1000000000
 levels:S.levels.length≤1000000000
 prods:S.prods.length≤1000000000
 rights: ∀x∈S.prods,x.2.1.length≤1000000000
 acts:S.acts.length≤1000000000
 act: ∀l∈S.acts,l.length≤1000000000
 gotos:S.gotos.length≤1000000000
 got: ∀l∈S.gotos,l.length≤1000000000
 conf:S.conf.length≤1000000000
 cell: ∀l∈S.conf,l.2.2.length≤1000000000
 pl:S.p.1.length≤1000000000∧S.p.2.1.1.length≤1000000000∧S.p.2.1.2.1.length≤1000000000∧S.p.2.1.2.2.length≤1000000000∧S.p.2.2.1.length≤1000000000∧S.p.2.2.2.1.length≤1000000000∧S.p.2.2.2.2.1.length≤1000000000∧S.p.2.2.2.2.2.length≤1000000000
 pw: ∀n∈S.p.2.1.2.1,i64 n
def grAt (ok:Nat→Prop) (H:Hp) (v:VV) (S:Sys):Prop:= ∃p1 c1 p2 c2 p3 c3 p5 c5,v= .agg [.sl p1 S.terms.length c1,.sl p2 S.nons.length c2,.sl p3 S.levels.length c3,.int .i64 S.start,.sl p5 S.prods.length c5]∧SlR ok H p1 S.terms∧SlR ok H p2 S.nons∧SlR ok H p3 S.levels∧SlR ok H p5 S.prods
theorem gramCopy {H:Hp} {v:VV} {S:Sys} (h:grAt (fun _=>True) H v S) (hm:S.Sm):FnX Tryz.prog 39 [v] H fun r H'=>Keep [] H H'∧grAt (fun b=>H.length≤b∧b<H'.length) H' r S:=by
 refine FnX.enterRow ok39 (Nat.le_of_ble_eq_true rfl) ?_
 obtain ⟨p1,c1,p2,c2,p3,c3,p5,c5,rfl,h1,h2,h3,h5⟩:=h
 refine WD.seq ?_
 refine WD.reg ?_
 refine OD.bx rfl rfl rfl rfl rfl fun H1 b1 k1 n1=> ?_
 refine OD.al rfl fun H2 a2 k2 n2=> ?_
 have k02:=k1.trans k2 (by simp)
 have b2:=b1.keep k2 (by simp)
 have hl2:=k02.1
 repeat refine jj ?_
 obtain ⟨r1,K1,q1,f1a,f1b,kk1,s1⟩:=ccTm (c:=c1) (h1.keep (H':=H2) fun i hi _=>k02.2 i hi (by simp)) hm.terms
 have e1:=k02.trans kk1 (by simp)
 obtain ⟨r2,K2,q2,f2a,f2b,kk2,s2⟩:=ccSt (c:=c2) (h2.keep (H':=K1) fun i hi _=>e1.2 i hi (by simp)) hm.nons
 have e2:=e1.trans kk2 (by simp)
 obtain ⟨r3,K3,q3,f3a,f3b,kk3,s3⟩:=ccI (c:=c3) (h3.keep (H':=K2) fun i hi _=>e2.2 i hi (by simp)) hm.levels
 have e3:=e2.trans kk3 (by simp)
 obtain ⟨X,hX⟩: ∃X,X=K3++[Blk.row 51 .own [[.sl none 0 0,.sl none 0 0,.sl none 0 0,.int .i64 0,.sl none 0 0]]]:=⟨_,rfl⟩
 have hXk:Keep [] K3 X:=by rw [hX];exact Keep.app _
 have hXl:X.length=K3.length+1:=by rw [hX];simp
 obtain ⟨us,g1,g2,g3,g4⟩:=(show Box X K3.length [.sl none 0 0,.sl none 0 0,.sl none 0 0,.int .i64 0,.sl none 0 0] by rw [hX];exact Box.last _ _ _).st (off:=0) (k:=5) (v:= .agg [.sl q1 S.terms.length S.terms.length,.sl q2 S.nons.length S.nons.length,.sl q3 S.levels.length S.levels.length,.int .i64 S.start,.sl none 0 0]) rfl rfl rfl (Nat.le_of_ble_eq_true rfl) rfl
 have hK: ∀j H',[H2,K1,K1,K2,K2,K3,K3,X,applyU X us][j]? =some H'→j≤7→Keep [] H2 H':=fun j H' hj hj2=>by
  match j,hj with
  |0,hj=>cases hj;exact Keep.refl _
  |1,hj=>cases hj;exact kk1
  |2,hj=>cases hj;exact kk1
  |3,hj=>cases hj;exact kk1.trans kk2 (by simp)
  |4,hj=>cases hj;exact kk1.trans kk2 (by simp)
  |5,hj=>cases hj;exact (kk1.trans kk2 (by simp)).trans kk3 (by simp)
  |6,hj=>cases hj;exact (kk1.trans kk2 (by simp)).trans kk3 (by simp)
  |7,hj=>cases hj;exact ((kk1.trans kk2 (by simp)).trans kk3 (by simp)).trans hXk (by simp)
  |j+8,hj=>omega
 refine WD.dreg [H2,K1,K1,K2,K2,K3,K3,X,applyU X us] mixed rfl ?_
 repeat refine jk hK ?_
 refine VX.call2 rfl rfl rfl rfl f1a ?_
 refine VX.call2 rfl rfl rfl rfl f1b ?_
 repeat refine jk hK ?_
 refine VX.call2 rfl rfl rfl rfl f2a ?_
 refine VX.call2 rfl rfl rfl rfl f2b ?_
 repeat refine jk hK ?_
 refine VX.call2 rfl rfl rfl rfl f3a ?_
 refine VX.call2 rfl rfl rfl rfl f3b ?_
 repeat refine jk hK ?_
 refine VX.ef1 rfl rfl (by rw [applyU_push,hX]) rfl ?_
 refine VX.ef2 rfl (g1 _ _ _ _ rfl rfl) rfl ?_
 refine VX.fin rfl ?_
 have b9:Box (applyU X us) K3.length [.sl q1 S.terms.length S.terms.length,.sl q2 S.nons.length S.nons.length,.sl q3 S.levels.length S.levels.length,.int .i64 S.start,.sl none 0 0]:=g2
 have k39:Keep [] K3 (applyU X us):=hXk.trans g3 (fun i hi hl=>by simp at hi;omega)
 have n9:(applyU X us).length=K3.length+1:=by rw [g4,hXl]
 have k29:Keep [] H2 (applyU X us):=((kk1.trans kk2 (by simp)).trans kk3 (by simp)).trans k39 (by simp)
 clear hK g1 g2 g3 g4
 generalize applyU X us=H9 at*
 clear hX hXk hXl
 have b1':=(b1.keep k2 (by simp)).keep k29 (by simp)
 have a2':=a2.keep k29 (by simp)
 have h5':=h5.keep (H':=H9) fun i hi _=>by rw [k29.2 i (by omega) (by simp)];exact k02.2 i hi (by simp)
 have lk1:=kk1.1
 have lk2:=kk2.1
 have lk3:=kk3.1
 have t1:=((s1.keep (H':=K2) fun i hi _=>kk2.2 i hi (by simp)).keep (H':=K3) fun i hi _=>kk3.2 i hi (by simp)).keep (H':=H9) fun i hi _=>k39.2 i hi (by simp)
 have t2:=(s2.keep (H':=K3) fun i hi _=>kk3.2 i hi (by simp)).keep (H':=H9) fun i hi _=>k39.2 i hi (by simp)
 have t3:=s3.keep (H':=H9) fun i hi _=>k39.2 i hi (by simp)
 have hsm:=hm.prods
 repeat refine jj ?_
 refine WD.loop (fun n F H'=> ∃(k:Nat) (bs:List Nat) (v:VV),n=S.prods.length-k∧k≤S.prods.length∧Cov [(2,.ptr (some ⟨H1.length,0,0⟩)),(3,.ptr (some ⟨K3.length,0,0⟩)),(22,.sl p5 S.prods.length c5),(23,.int .i64 S.prods.length),(24,.int .i64 k)] F∧F.get dslot=none∧Keep [K3.length] H9 H'∧Box H' K3.length [.sl q1 S.terms.length S.terms.length,.sl q2 S.nons.length S.nons.length,.sl q3 S.levels.length S.levels.length,.int .i64 S.start,v]∧BufR (fun i=>H9.length≤i∧i<H'.length∧i∉bs) H' bs 161 v (S.prods.take k)∧ ∀b∈bs,H9.length≤b) S.prods.length ⟨0,[],_,rfl,Nat.zero_le _,⟨rfl,rfl,rfl,rfl,rfl,trivial⟩,rfl,Keep.refl _,b9,BufR.nil _ _ _,by simp⟩ ?_
 rintro n F H' ⟨k,bs,v,rfl,hk,hc,hd,kk,bx,hb,hbs⟩
 refine WD.cov hc hd rfl ?_
 have lkk:=kk.1
 have h6:=h5'.weak (ok':=fun _=>True) fun _ _ _=>trivial
 by_cases hkl:k<S.prods.length
 ·have hlk:S.prods[k]? =some S.prods[k]:=List.getElem?_eq_getElem hkl
  have htk:S.prods.take (k+1)=S.prods.take k++[S.prods[k]]:=by rw [List.take_add_one,hlk];rfl
  have hlm:=hm.rights S.prods[k] (List.getElem_mem hkl)
  generalize S.prods[k]=x at hlk htk hlm
  have lk29:=k29.1
  have h7:=h5.keep (H':=H') fun i hi _=>by rw [kk.2 i (by omega) (by simp;omega),k29.2 i (by omega) (by simp)];exact k02.2 i hi (by simp)
  obtain ⟨e,he,hlds⟩:=h7.get hlk
  obtain ⟨_,_,rfl,rfl,_,_,rfl,⟨q,cq,rfl,hq⟩,rfl⟩:=he
  repeat refine jj ?_
  refine OD.rd rfl (ev_ixR h7 rfl rfl (by omega) (by omega) rfl) ?_
  rw [Int.toNat_natCast]
  refine OD.rd rfl (ev_ldS rfl hlds) ?_
  refine OD.al rfl fun H6 a6 k6 n6=> ?_
  refine OD.st rfl rfl rfl a6 rfl rfl rfl (Nat.le_of_ble_eq_true rfl) rfl fun H7 a7 k7 n7=> ?_
  have k27:Keep [] H' H7:=k6.trans k7 (fun i hi hl=>by simp at hi;omega)
  have hl7:=k27.1
  repeat refine jj ?_
  obtain ⟨r8,H8,q8,f8a,f8b,k8,s8⟩:=ccI (c:=cq) (hq.keep (H':=H7) fun i hi _=>k27.2 i hi (by simp)) hlm
  refine OD.call rfl rfl rfl f8a.fnx ?_
  rintro r H8' ⟨rfl,rfl⟩
  refine OD.call rfl rfl rfl f8b.fnx ?_
  rintro r H9' ⟨rfl,rfl⟩
  have hl8:=k8.1
  have a8:=a7.keep k8 (by simp)
  repeat refine jj ?_
  refine OD.st rfl rfl rfl a8 rfl rfl rfl (Nat.le_of_ble_eq_true rfl) rfl fun H10 a10 k10 n10=> ?_
  have hbl:=hb.lt
  have hbxl:=bx.lt
  have k1a:Keep [] H' H10:=(k27.trans k8 (by simp)).trans k10 (fun i hi hl=>by simp at hi;omega)
  have bx10:=bx.keep k1a (by simp)
  have hb10:BufR (fun i=>H9.length≤i∧i<H10.length∧i∉bs) H10 bs 161 v (S.prods.take k):=by
   obtain ⟨es,x1,x2⟩:=hb.keep k1a (by simp) (by simp)
   exact ⟨es,x1,x2.weak fun i hi hik=>⟨hik.1,hi,hik.2.2⟩⟩
  have s10:=s8.keep (H':=H10) fun i hi hik=>k10.2 i hi (by simp;omega)
  have hkl2:(S.prods.take k).length=k:=by rw [List.length_take];omega
  repeat refine jj ?_
  refine OD.app1 (α:=Int×(List Int×Int)) (bytes:=40) (ok:=fun i=>H9.length≤i∧i<H10.length∧i∉bs) (x:=x) rfl (ev_mkagg (m:=0) (l:=[.int .i64 x.1,.sl q8 x.2.1.length x.2.1.length,.int .i64 x.2.2]) rfl rfl rfl) ⟨[_],_,rfl,rfl,[_],[_],rfl,⟨q8,_,rfl,s10.weak fun i hi hik=>⟨by omega,hi,fun hc=>by have:=hbl i hc;omega⟩⟩,rfl⟩ hb10 rfl rfl (fun i hi=>hi.2.2) (by omega) (by omega) fun v' H4 bs' g1 g2 g3=> ?_
  obtain ⟨pv,cv,ev,rfl,_,_⟩:=g1.sl
  have hl4:=g2.1
  have bx4:=bx10.keep g2 (fun hc=>by have:=hbs _ hc;omega)
  repeat refine jj ?_
  refine OD.st rfl rfl rfl bx4 rfl rfl rfl (Nat.le_of_ble_eq_true rfl) rfl fun H11 a11 k11 n11=> ?_
  repeat refine jj ?_
  refine ⟨_,by omega,k+1,bs',_,rfl,by omega,⟨rfl,rfl,rfl,rfl,by rw [Int.natCast_add];rfl,trivial⟩,rfl,((kk.trans k1a (by simp)).trans g2 (fun i hi hl=>by have:=hbs i hi;omega)).trans k11 (fun i hi hl=>hi),a11,?_,fun b hb=> ?_⟩
  ·have g1':=g1.keep k11 (fun b hb hc=>by
    simp at hc
    subst hc
    rcases g3 _ hb with h|h
    ·have:=hbs _ h;omega
    ·omega) (fun i hi hc=>by simp at hc;omega)
   rw [htk]
   obtain ⟨es,x1,x2⟩:=g1'
   exact ⟨es,x1,x2.weak fun i hi hik=>⟨hik.1,hi,fun hc=>by rcases g3 i hc with h|h;exact hik.2.2 h;omega⟩⟩
  ·rcases g3 b hb with h|h
   ·exact hbs b h
   ·omega
 ·have hall:S.prods.take k=S.prods:=List.take_of_length_le (by omega)
  rw [hall] at hb
  obtain ⟨pv,cv,ev,rfl,hsv,hev⟩:=hb.sl
  obtain ⟨es,hb1,he⟩:=id hb
  obtain ⟨p',c',e1,hs1,hq1⟩:=hb1.sl
  rw [he.1] at e1
  cases e1
  have aR:=a2'.keep kk (by simp;omega)
  repeat refine jj ?_
  refine OD.st rfl rfl rfl aR rfl rfl rfl (Nat.le_of_ble_eq_true rfl) rfl fun H11 a11 k11 n11=> ?_
  repeat refine jj ?_
  have lk29:=k29.1
  have hin: ∀i,i<H9.length→i≠K3.length→i≠H1.length→H11[i]? =H9[i]? :=fun i h1 h2 h3=>by rw [k11.2 i (by omega) (by simp [h3])];exact kk.2 i h1 (by simp [h2])
  have hkk:Keep [] H H11:=((k02.trans k29 (by simp)).trans kk (fun i hi hl=>by simp at hi;omega)).trans k11 (fun i hi hl=>by simp at hi;omega)
  refine ⟨.inl rfl,rfl,_,resC rfl a11 rfl,hkk,q1,_,q2,_,q3,_,pv,_,rfl,?_,?_,?_,?_⟩
  ·exact (t1.keep fun i hi hik=>hin i hi (by omega) (by omega)).weak fun i hi hik=>⟨by omega,hi⟩
  ·exact (t2.keep fun i hi hik=>hin i hi (by omega) (by omega)).weak fun i hi hik=>⟨by omega,hi⟩
  ·exact (t3.keep fun i hi hik=>hin i hi (by omega) (by omega)).weak fun i hi hik=>⟨by omega,hi⟩
  ·have hS:SlR (fun i=>H9.length≤i∧i<H'.length) H' pv S.prods:=⟨es,hs1,fun q hq _=>⟨hbs _ (hq1 q hq),hb.lt _ (hq1 q hq)⟩,he.weak fun i hi hik=>⟨hik.1,hi⟩⟩
   exact (hS.keep fun i hi hik=>k11.2 i hi (by simp;omega)).weak fun i hi hik=>⟨by omega,hi⟩
end Dr
end Go.Proofs.YtnjjieohlnhicaaGreatDoor
end
section
namespace Go.Proofs.YtnjjieohlnhicaaGreatDoor
set_option linter.unusedSimpArgs false
set_option linter.unusedVariables false
open Go Go.Wm Go.Proofs Go.RowKit
set_option maxRecDepth 100000
set_option maxHeartbeats 4000000
namespace Dr
theorem askAct {H:Hp} {T:Tab} {pk:Bool} {v:VV} {s t:Int} {a:Int×Int} (h:ifcAt H T pk v) (ha:tAct T pk s t=some a):
 ∃f ty cs,v= .ifc ty cs∧tblGet [(380,352),(377,350)] ty=some f∧FnX Tryz.prog f [cs,.int .i64 s,.int .i64 t] H fun r H'=>r=actV a∧H'=H:=by
 cases pk with
 |true=>
  obtain ⟨cs,rfl,h1⟩: ∃cs,v= .ifc 380 (.agg cs)∧PtAt H cs T.p:=h
  obtain rfl:pAct T.p s t=a:=by simpa [tAct] using ha
  exact ⟨_,_,_,rfl,rfl,packedAction h1⟩
 |false=>
  obtain ⟨cs,rfl,h1⟩: ∃cs,v= .ifc 377 (.agg cs)∧DtAt H cs T.d:=h
  exact ⟨_,_,_,rfl,rfl,denseAction h1 (by simpa [tAct] using ha)⟩
theorem askTgt {H:Hp} {T:Tab} {pk:Bool} {v:VV} {s t a:Int} (h:ifcAt H T pk v) (ha:tTgt T pk s t=some a):
 ∃f ty cs,v= .ifc ty cs∧tblGet [(380,353),(377,351)] ty=some f∧FnX Tryz.prog f [cs,.int .i64 s,.int .i64 t] H fun r H'=>r= .int .i64 a∧H'=H:=by
 cases pk with
 |true=>
  obtain ⟨cs,rfl,h1⟩: ∃cs,v= .ifc 380 (.agg cs)∧PtAt H cs T.p:=h
  obtain rfl:pGoto T.p s t=a:=by simpa [tTgt] using ha
  exact ⟨_,_,_,rfl,rfl,packedTarget h1⟩
 |false=>
  obtain ⟨cs,rfl,h1⟩: ∃cs,v= .ifc 377 (.agg cs)∧DtAt H cs T.d:=h
  exact ⟨_,_,_,rfl,rfl,denseTarget h1 (by simpa [tTgt] using ha)⟩
theorem ev_mt {E:Fr} {x:Nat} {ty f:Nat} {cs:VV} {tbl:List (Nat×Nat)} (h:E.get x=some (.ifc ty cs)) (hf:tblGet tbl ty=some f):(Od.mt x tbl).ev E=some (.fn f []):=by
 simp only [Od.ev,h,hf]
theorem addMove {H:Hp} {tr:Nat} {bs:List Nat} {v:VV} {mv:List (Int×Int)} {a:Int×Int} {c0 c1 c2 c3 c4 c5 c6:VV} {t:TypeId} (hb:Box H tr [c0,c1,c2,c3,c4,c5,c6,v]) (hv:BufR nok H bs t v mv) (htr:tr∉bs) (hl:mv.length≤100000):
 ∃v' us us2 bs',(∀(E:Fr) (s y:Od),s.ev E=some v→y.ev E=some (.sl (some ⟨H.length,0,0⟩) 1 1)→(VEf.app t 2 16 s y).ev E (H++[Blk.row t .own [[.int .i64 a.1,.int .i64 a.2]]]).g (H++[Blk.row t .own [[.int .i64 a.1,.int .i64 a.2]]]).length=some (v',us))∧
  (∀(E:Fr) (x y:Od),x.ev E=some (.ptr (some ⟨tr,0,7⟩))→y.ev E=some v'→(VEf.store 1 x y).ev E (applyU (H++[Blk.row t .own [[.int .i64 a.1,.int .i64 a.2]]]) us).g (applyU (H++[Blk.row t .own [[.int .i64 a.1,.int .i64 a.2]]]) us).length=some (.undef,us2))∧
  Keep bs H (applyU (H++[Blk.row t .own [[.int .i64 a.1,.int .i64 a.2]]]) us)∧Keep (tr::bs) H (applyU (applyU (H++[Blk.row t .own [[.int .i64 a.1,.int .i64 a.2]]]) us) us2)∧
  Box (applyU (applyU (H++[Blk.row t .own [[.int .i64 a.1,.int .i64 a.2]]]) us) us2) tr [c0,c1,c2,c3,c4,c5,c6,v']∧BufR nok (applyU (applyU (H++[Blk.row t .own [[.int .i64 a.1,.int .i64 a.2]]]) us) us2) bs' t v' (mv++[a])∧ ∀b∈bs',b∈bs∨H.length≤b:=by
 obtain ⟨v',us,bs',a1,a2,a3,a4⟩:=hv.one (bytes:=16) (t':=t) (x:=a) (e:=[.int .i64 a.1,.int .i64 a.2]) ⟨[_],[_],rfl,rfl,rfl⟩ (fun i h=>h.elim) rfl (by omega) (by omega)
 have hlt:=hb.lt
 have b1:=hb.keep a3 htr
 obtain ⟨p3,c,es3,rfl,_,_⟩:=a2.sl
 obtain ⟨us2,e2,b2,k2,l2⟩:=b1.st (off:=7) (k:=1) (v:= .sl p3 (mv++[a]).length c) rfl rfl rfl (Nat.le_of_ble_eq_true rfl) rfl
 refine ⟨_,us,us2,bs',a1,fun E x y hx hy=>e2 _ _ _ _ hx hy,a3,(a3.mono (N:=tr::bs) (by grind)).trans k2 (by grind),b2,a2.keep k2 (by grind) (fun i h=>h.elim),a4⟩
def TrAt (H0 H:Hp) (tr ob:Nat) (T:Tab) (pk:Bool) (bsM:List Nat) (mv:List (Int×Int)):Prop:=
 ∃vt n l s vp v m,Box H tr [.ptr (some ⟨ob,0,0⟩),vt,n,l,s,vp,v,m]∧GrAt H0 T vt vp∧ifcAt H0 T pk v∧BufR nok H bsM 114 m mv∧tr∉bsM∧tr≠ob
def goesF (T:Tab) (pk:Bool) (first term:Int):Nat→List Int→List (Int×Int)→Option (Bool×Int×List Int×List (Int×Int))
 |0,_,_=>none
 |f+1,st,mv=>
  match tAct T pk (topOf first st) term with
  |none=>none
  |some a=>
   if a.1=1 then (if 64≤st.length then some (false,15,st,mv) else some (true,0,st,mv++[a]))
   else if a.1=3 then some (true,0,st,mv++[a])
   else if a.1=2 then
    (if 1024≤mv.length then some (false,15,st,mv)
     else match idx T.prods a.2 with
      |none=>none
      |some pr=>
       if st.length<pr.2.1.length then none
       else match tTgt T pk (topOf first (st.take (st.length-pr.2.1.length))) (pr.1-T.nT) with
        |none=>none
        |some q=>if 64≤st.length-pr.2.1.length then some (false,15,st.take (st.length-pr.2.1.length),mv++[a])
         else goesF T pk first term f (st.take (st.length-pr.2.1.length)++[q]) (mv++[a]))
   else some (false,0,st,mv)
theorem GrAt.ext {H H':Hp} {T:Tab} {vt vp:VV} (h:GrAt H T vt vp) (k:Keep [] H H'):GrAt H' T vt vp:=by
 obtain ⟨h1,p,c,h2,h3⟩:=h
 exact ⟨h1,p,c,h2,h3.keep fun i hi _=>k.2 i hi (by simp)⟩
theorem ifcAt.ext {H H':Hp} {T:Tab} {pk:Bool} {v:VV} (h:ifcAt H T pk v) (k:Keep [] H H'):ifcAt H' T pk v:=by
 cases pk with
 |true=>
  obtain ⟨cs,h1,h2⟩: ∃cs,v= .ifc 380 (.agg cs)∧PtAt H cs T.p:=h
  exact (⟨cs,h1,h2.ext k⟩: ∃cs,v= .ifc 380 (.agg cs)∧PtAt H' cs T.p)
 |false=>
  obtain ⟨cs,h1,p,c,q,e,h2,h3,h4⟩: ∃cs,v= .ifc 377 (.agg cs)∧DtAt H cs T.d:=h
  exact (⟨cs,h1,p,c,q,e,h2,h3.keep fun i hi _=>k.2 i hi (by simp),h4.keep fun i hi _=>k.2 i hi (by simp)⟩: ∃cs,v= .ifc 377 (.agg cs)∧DtAt H' cs T.d)
theorem OvAt.lts {H:Hp} {ob sb:Nat} {bsA F:List Nat} {first:Int} {base ns:List Int} {kept:Nat} {above:List Int} (h:OvAt H ob sb bsA F first base ns kept above): ∀b∈ob::(bsA++F),b<H.length:=by
 obtain ⟨v,h1,h2,h3,h4⟩:=h
 have:=h1.lt
 have:=h2.lt
 have:=h3.lt
 grind
theorem OvAt.ke {H:Hp} {ob sb:Nat} {bsA F:List Nat} {first:Int} {base ns:List Int} {kept:Nat} {above:List Int} (h:OvAt H ob sb bsA F first base ns kept above):kept≤base.length:=by
 obtain ⟨v,h1,h2,h3,h4,_⟩:=h
 exact h4
theorem lds_ext {H H1:Hp} {p:PA} {n:Nat} {l:List VV} (k:Keep [] H H1) (h:Wm.lds H.g p n=some l):Wm.lds H1.g p n=some l:=by
 have hlt:p.blk<H.length:=by
  refine Nat.lt_of_not_le fun hc=> ?_
  unfold Wm.lds at h
  rw [show H.g p.blk=none from List.getElem?_eq_none hc] at h
  cases h
 have e:H1.g p.blk=H.g p.blk:=k.2 _ hlt (by simp)
 unfold Wm.lds at h ⊢
 rw [e];exact h
theorem ovPushFull {H:Hp} {ob sb:Nat} {bsA F:List Nat} {first:Int} {base ns:List Int} {kept:Nat} {above:List Int} {s:Int} (h:OvAt H ob sb bsA F first base ns kept above) (hl:64≤kept+above.length):
 FnX Tryz.prog 292 [.ptr (some ⟨ob,0,0⟩),.int .i64 s] H fun r H'=>r= .int .i64 15∧H'=H:=by
 refine FnX.enterRow ok292 (Nat.le_of_ble_eq_true rfl) ?_
 have hov:=h
 obtain ⟨v,g1,g2,g3,g4,g5,g6,g7,g8,g9⟩:=h
 repeat refine jj ?_
 refine OD.call rfl rfl rfl (there g1) ?_
 rintro r H1 ⟨rfl,rfl⟩
 repeat refine jj ?_
 refine OD.call rfl rfl rfl (height hov) ?_
 rintro r H2 ⟨rfl,rfl⟩
 repeat refine jj ?_
 exact ⟨.inl rfl,rfl,_,rfl,rfl,rfl⟩
def StAt (H0 H:Hp) (tr ob sb:Nat) (T:Tab) (pk:Bool) (F:List Nat) (first:Int) (base ns:List Int) (bsM bsA:List Nat) (st:List Int) (mv:List (Int×Int)):Prop:=
 Keep [] H0 H∧(∀b∈tr::ob::(bsM++(bsA++F)),H0.length≤b)∧TrAt H0 H tr ob T pk bsM mv∧(∃kept above,OvAt H ob sb bsA F first base ns kept above∧st=base.take kept++above)∧tr∉F∧tr∉bsA∧ob∉bsM∧(∀b∈bsM,b∉F∧b∉bsA)
theorem goes {H0 H:Hp} {tr ob sb:Nat} {T:Tab} {pk:Bool} {F:List Nat} {first term:Int} {base ns:List Int} {bsM bsA:List Nat} {st st':List Int} {mv mv':List (Int×Int)} {ok:Bool} {code:Int} {fuel:Nat} (h:StAt H0 H tr ob sb T pk F first base ns bsM bsA st mv)
 (hnT:T.nT≤1000000000) (hpr: ∀pr∈T.prods,-1000000000≤pr.1∧pr.1≤4000000000) (hmv:mv.length≤2000) (hg:goesF T pk first term fuel st mv=some (ok,code,st',mv')):
 FnX Tryz.prog 231 [.ptr (some ⟨tr,0,0⟩),.int .i64 term] H fun r H'=>r= .tup [.bool ok,.int .i64 code]∧Keep (tr::ob::(bsM++bsA)) H H'∧ ∃bsM' bsA',StAt H0 H' tr ob sb T pk F first base ns bsM' bsA' st' mv'∧(∀b∈bsM',b∈bsM∨H.length≤b)∧(∀b∈bsA',b∈bsA∨H.length≤b):=by
 refine FnX.enterRow ok231 (Nat.le_of_ble_eq_true rfl) ?_
 repeat refine jj ?_
 refine WD.loop (fun n F1 H2=> ∃(bsM2 bsA2:List Nat) (st2:List Int) (mv2:List (Int×Int)),goesF T pk first term n st2 mv2=some (ok,code,st',mv')∧StAt H0 H2 tr ob sb T pk F first base ns bsM2 bsA2 st2 mv2∧Cov [(0,.ptr (some ⟨tr,0,0⟩)),(1,.int .i64 term)] F1∧F1.get dslot=none∧Keep (tr::ob::(bsM++bsA)) H H2∧(∀b∈bsM2,b∈bsM∨H.length≤b)∧(∀b∈bsA2,b∈bsA∨H.length≤b)∧mv2.length≤2000) fuel ⟨bsM,bsA,st,mv,hg,h,⟨rfl,rfl,trivial⟩,rfl,Keep.refl _,fun b hb=> .inl hb,fun b hb=> .inl hb,hmv⟩ ?_
 rintro n F1 H2 ⟨bsM2,bsA2,st2,mv2,hg2,hS,hcov,hds,hk2,hM2,hA2,hmv2⟩
 cases n with
 |zero=>cases hg2
 |succ n=>
 refine WD.cov hcov hds rfl ?_
 obtain ⟨hk0,hn0,hT,⟨kept,above,hov,rfl⟩,n1,n2,n3,n4⟩:=hS
 obtain ⟨vt,w,l,s,vp,v,m,hb,hgr0,hif0,hm,n5,n6⟩:=hT
 have hgr:=hgr0.ext hk0
 have hif:=hif0.ext hk0
 unfold goesF at hg2
 split at hg2
 ·cases hg2
 rename_i a ha
 obtain ⟨fa,ty,cs,rfl,hta,hfa⟩:=askAct hif ha
 clear hif
 obtain ⟨r1,H3,⟨rfl,rfl⟩,hF1⟩:=ovTop hov
 obtain ⟨r2,H4,⟨rfl,rfl⟩,hF2⟩:=hfa
 obtain ⟨us,e1,b1,k1,l1⟩:=(Box.last H4 114 [.int .i64 0,.int .i64 0]).st (off:=0) (k:=2) (v:=actV a) rfl rfl rfl (Nat.le_of_ble_eq_true rfl) rfl
 have hK: ∀j H1,[H4,H4,H4,H4++[Blk.row 114 .own [[.int .i64 0,.int .i64 0]]],applyU (H4++[Blk.row 114 .own [[.int .i64 0,.int .i64 0]]]) us][j]? =some H1→j≤3→Keep [] H4 H1:=fun j H1 hj hj2=>by
  match j,hj with
  |0,hj=>cases hj;exact Keep.refl _
  |1,hj=>cases hj;exact Keep.refl _
  |2,hj=>cases hj;exact Keep.refl _
  |3,hj=>cases hj;exact Keep.app _
  |j+4,hj=>omega
 repeat refine jj ?_
 refine WD.dreg [H4,H4,H4,H4++[Blk.row 114 .own [[.int .i64 0,.int .i64 0]]],applyU (H4++[Blk.row 114 .own [[.int .i64 0,.int .i64 0]]]) us] mixed rfl ?_
 repeat refine jk hK ?_
 refine VX.call2 rfl rfl rfl rfl hF1 ?_
 repeat refine jk hK ?_
 refine VX.call2 (vs:=[_,_,_]) rfl rfl (ev_mt rfl hta) rfl hF2 ?_
 repeat refine jk hK ?_
 refine VX.ef1 rfl rfl (by rw [applyU_push]) rfl ?_
 repeat refine jk hK ?_
 refine VX.ef2 rfl (e1 _ _ _ _ rfl rfl) rfl ?_
 repeat refine jk hK ?_
 have k2:Keep [] H4 (applyU (H4++[Blk.row 114 .own [[.int .i64 0,.int .i64 0]]]) us):=(Keep.app _).trans k1 (fun i hi hl=>by simp at hi;omega)
 generalize applyU (H4++[Blk.row 114 .own [[.int .i64 0,.int .i64 0]]]) us=H5 at*
 have hb5:=hb.keep k2 (by simp)
 have hov5:=hov.keep k2 (by simp)
 have hm5:=hm.keep k2 (by simp) (fun i h=>h.elim)
 have hk05:Keep [] H0 H5:=hk0.trans k2 (by simp)
 have hle0:=hk0.1
 have b5:Box H5 H4.length [.int .i64 a.1,.int .i64 a.2]:=b1
 have l5:H5.length=H4.length+1:=by rw [l1];simp
 have hmlt:=hm.lt
 have hblt:=hb.lt
 have ho1:=hov.lts
 have hn01:H0.length≤tr:=hn0 _ (by simp)
 have hn02:H0.length≤ob:=hn0 _ (by simp)
 have hn03: ∀b∈bsM2,H0.length≤b:=fun b hb=>hn0 _ (by simp [hb])
 have hn04: ∀b∈bsA2,H0.length≤b:=fun b hb=>hn0 _ (by simp [hb])
 have hn05: ∀b∈F,H0.length≤b:=fun b hb=>hn0 _ (by simp [hb])
 have hobl:ob<H4.length:=ho1 _ (by simp)
 have hAl: ∀b∈bsA2,b<H4.length:=fun b hb=>ho1 _ (by simp [hb])
 have hFl: ∀b∈F,b<H4.length:=fun b hb=>ho1 _ (by simp [hb])
 have hact:H4.length∉bsM2:=fun h=>Nat.lt_irrefl _ (hmlt _ h)
 have hact2:H4.length≠tr:=by omega
 have hke:kept≤base.length:=hov.ke
 have hlen:(base.take kept++above).length=kept+above.length:=by rw [List.length_append,List.length_take,Nat.min_eq_left hke]
 have kA:Keep (tr::ob::(bsM++bsA)) H H5:=hk2.trans k2 (by simp)
 have e2:=hk2.1
 clear k1 b1 l1 e1 hF1 hF2 hk2
 by_cases ha1:a.1=1
 ·rw [if_pos ha1] at hg2
  repeat refine jj ?_
  refine OD.call rfl rfl rfl (height hov5) ?_
  rintro r H6 ⟨rfl,rfl⟩
  by_cases h64:64≤(base.take kept++above).length
  ·rw [if_pos h64] at hg2
   cases hg2
   repeat refine jj ?_
   refine ⟨.inl rfl,rfl,_,rfl,rfl,kA,bsM2,bsA2,⟨hk05,hn0,⟨vt,w,l,s,vp,_,_,hb5,hgr0,hif0,hm5,n5,n6⟩,⟨kept,above,hov5,rfl⟩,n1,n2,n3,n4⟩,hM2,hA2⟩
  ·rw [if_neg h64] at hg2
   cases hg2
   repeat refine jj ?_
   obtain ⟨v',us1,us2,bs',q1,q2,q3,q4,q5,q6,q7⟩:=addMove (a:=a) hb5 hm5 n5 (by omega)
   have hK2: ∀j H1,[H6,H6++[Blk.row 114 .own [[.int .i64 a.1,.int .i64 a.2]]],applyU (H6++[Blk.row 114 .own [[.int .i64 a.1,.int .i64 a.2]]]) us1,applyU (applyU (H6++[Blk.row 114 .own [[.int .i64 a.1,.int .i64 a.2]]]) us1) us2][j]? =some H1→j≤2→Keep bsM2 H6 H1:=fun j H1 hj hj2=>by
    match j,hj with
    |0,hj=>cases hj;exact Keep.refl _
    |1,hj=>cases hj;exact Keep.mono (M:=[]) (Keep.app _) (by simp)
    |2,hj=>cases hj;exact q3
    |j+3,hj=>omega
   clear hK
   have hK:=hK2
   clear hK2
   refine WD.dreg [H6,H6++[Blk.row 114 .own [[.int .i64 a.1,.int .i64 a.2]]],applyU (H6++[Blk.row 114 .own [[.int .i64 a.1,.int .i64 a.2]]]) us1,applyU (applyU (H6++[Blk.row 114 .own [[.int .i64 a.1,.int .i64 a.2]]]) us1) us2] mixed rfl ?_
   repeat refine jk hK ?_
   refine VX.ef1 rfl (ev_mkagg (m:=0) (l:=[.int .i64 a.1,.int .i64 a.2]) rfl rfl rfl) (by rw [applyU_push]) rfl ?_
   refine VX.ef2 rfl (q1 _ _ _ rfl rfl) rfl ?_
   repeat refine jk hK ?_
   refine VX.ef2 rfl (q2 _ _ _ rfl rfl) rfl ?_
   repeat refine jk hK ?_
   generalize applyU (applyU (H6++[Blk.row 114 .own [[.int .i64 a.1,.int .i64 a.2]]]) us1) us2=H7 at*
   repeat refine jj ?_
   refine ⟨.inl rfl,rfl,_,rfl,rfl,kA.trans q4 (by grind),bs',bsA2,⟨hk05.trans q4 (by grind),by grind,⟨vt,w,l,s,vp,_,_,q5,hgr0,hif0,q6,by grind,n6⟩,⟨kept,above,hov5.keep q4 (by grind),rfl⟩,n1,n2,by grind,by grind⟩,by grind,hA2⟩
 rw [if_neg ha1] at hg2
 by_cases ha3:a.1=3
 ·rw [if_pos ha3] at hg2
  cases hg2
  repeat refine jj ?_
  obtain ⟨v',us1,us2,bs',q1,q2,q3,q4,q5,q6,q7⟩:=addMove (a:=a) hb5 hm5 n5 (by omega)
  have hK2: ∀j H1,[H5,H5++[Blk.row 114 .own [[.int .i64 a.1,.int .i64 a.2]]],applyU (H5++[Blk.row 114 .own [[.int .i64 a.1,.int .i64 a.2]]]) us1,applyU (applyU (H5++[Blk.row 114 .own [[.int .i64 a.1,.int .i64 a.2]]]) us1) us2][j]? =some H1→j≤2→Keep bsM2 H5 H1:=fun j H1 hj hj2=>by
   match j,hj with
   |0,hj=>cases hj;exact Keep.refl _
   |1,hj=>cases hj;exact Keep.mono (M:=[]) (Keep.app _) (by simp)
   |2,hj=>cases hj;exact q3
   |j+3,hj=>omega
  clear hK
  have hK:=hK2
  clear hK2
  refine WD.dreg [H5,H5++[Blk.row 114 .own [[.int .i64 a.1,.int .i64 a.2]]],applyU (H5++[Blk.row 114 .own [[.int .i64 a.1,.int .i64 a.2]]]) us1,applyU (applyU (H5++[Blk.row 114 .own [[.int .i64 a.1,.int .i64 a.2]]]) us1) us2] mixed rfl ?_
  repeat refine jk hK ?_
  refine VX.ef1 rfl (ev_mkagg (m:=0) (l:=[.int .i64 a.1,.int .i64 a.2]) rfl rfl rfl) (by rw [applyU_push]) rfl ?_
  refine VX.ef2 rfl (q1 _ _ _ rfl rfl) rfl ?_
  repeat refine jk hK ?_
  refine VX.ef2 rfl (q2 _ _ _ rfl rfl) rfl ?_
  repeat refine jk hK ?_
  generalize applyU (applyU (H5++[Blk.row 114 .own [[.int .i64 a.1,.int .i64 a.2]]]) us1) us2=H7 at*
  repeat refine jj ?_
  refine ⟨.inl rfl,rfl,_,rfl,rfl,kA.trans q4 (by grind),bs',bsA2,⟨hk05.trans q4 (by grind),by grind,⟨vt,w,l,s,vp,_,_,q5,hgr0,hif0,q6,by grind,n6⟩,⟨kept,above,hov5.keep q4 (by grind),rfl⟩,n1,n2,by grind,by grind⟩,by grind,hA2⟩
 rw [if_neg ha3] at hg2
 by_cases ha2:a.1=2
 ·rw [if_pos ha2] at hg2
  by_cases h10:1024≤mv2.length
  ·rw [if_pos h10] at hg2
   cases hg2
   obtain ⟨pm,cm,esm,rfl,_,_⟩:=hm5.sl
   repeat refine jj ?_
   refine ⟨.inl rfl,rfl,_,rfl,rfl,kA,bsM2,bsA2,⟨hk05,hn0,⟨vt,w,l,s,vp,_,_,hb5,hgr0,hif0,hm5,n5,n6⟩,⟨kept,above,hov5,rfl⟩,n1,n2,n3,n4⟩,hM2,hA2⟩
  rw [if_neg h10] at hg2
  obtain ⟨pm,cm,esm,rfl,_,_⟩:=hm5.sl
  repeat refine jj ?_
  obtain ⟨v',us1,us2,bs',q1,q2,q3,q4,q5,q6,q7⟩:=addMove (a:=a) hb5 hm5 n5 (by omega)
  have hK2: ∀j H1,[H5,H5++[Blk.row 114 .own [[.int .i64 a.1,.int .i64 a.2]]],applyU (H5++[Blk.row 114 .own [[.int .i64 a.1,.int .i64 a.2]]]) us1,applyU (applyU (H5++[Blk.row 114 .own [[.int .i64 a.1,.int .i64 a.2]]]) us1) us2][j]? =some H1→j≤2→Keep bsM2 H5 H1:=fun j H1 hj hj2=>by
   match j,hj with
   |0,hj=>cases hj;exact Keep.refl _
   |1,hj=>cases hj;exact Keep.mono (M:=[]) (Keep.app _) (by simp)
   |2,hj=>cases hj;exact q3
   |j+3,hj=>omega
  clear hK
  have hK:=hK2
  clear hK2
  refine WD.dreg [H5,H5++[Blk.row 114 .own [[.int .i64 a.1,.int .i64 a.2]]],applyU (H5++[Blk.row 114 .own [[.int .i64 a.1,.int .i64 a.2]]]) us1,applyU (applyU (H5++[Blk.row 114 .own [[.int .i64 a.1,.int .i64 a.2]]]) us1) us2] mixed rfl ?_
  repeat refine jk hK ?_
  refine VX.ef1 rfl (ev_mkagg (m:=0) (l:=[.int .i64 a.1,.int .i64 a.2]) rfl rfl rfl) (by rw [applyU_push]) rfl ?_
  refine VX.ef2 rfl (q1 _ _ _ rfl rfl) rfl ?_
  repeat refine jk hK ?_
  refine VX.ef2 rfl (q2 _ _ _ rfl rfl) rfl ?_
  repeat refine jk hK ?_
  generalize applyU (applyU (H5++[Blk.row 114 .own [[.int .i64 a.1,.int .i64 a.2]]]) us1) us2=H7 at*
  cases hix:idx T.prods a.2 with
  |none=>rw [hix] at hg2;cases hg2
  |some pr=>
  rw [hix] at hg2
  obtain ⟨pm2,hpm2,hpm3⟩:=idx_inv hix
  simp only at hg2
  split at hg2
  ·cases hg2
  rename_i hlt
  have hk07:Keep [] H0 H7:=hk05.trans q4 (by grind)
  have hov7:=hov5.keep q4 (by grind)
  have b7:=b5.keep q4 (by grind)
  have hgr7:=hgr0.ext hk07
  have hif7:=hif0.ext hk07
  have k7:Keep (tr::ob::(bsM++bsA)) H H7:=kA.trans q4 (by grind)
  obtain ⟨⟨pt,ct,rfl⟩,pp,cp,rfl,hpp⟩:=hgr7
  obtain ⟨pr1,cr1,hp1,hp2⟩:=prodR hpp hpm3
  have hpl:=(List.getElem?_eq_some_iff.1 hpm3).1
  obtain ⟨us3,e3,b8,k8,l8⟩:=(Box.last H7 161 [.int .i64 0,.sl none 0 0,.int .i64 0]).st (off:=0) (k:=3) (v:= .agg [.int .i64 pr.1,.sl pr1 pr.2.1.length cr1,.int .i64 pr.2.2]) rfl rfl rfl (Nat.le_of_ble_eq_true rfl) rfl
  clear hK
  have hK: ∀j H1,[H7,H7++[Blk.row 161 .own [[.int .i64 0,.sl none 0 0,.int .i64 0]]],applyU (H7++[Blk.row 161 .own [[.int .i64 0,.sl none 0 0,.int .i64 0]]]) us3][j]? =some H1→j≤1→Keep [] H7 H1:=fun j H1 hj hj2=>by
   match j,hj with
   |0,hj=>cases hj;exact Keep.refl _
   |1,hj=>cases hj;exact Keep.app _
   |j+2,hj=>omega
  repeat refine jj ?_
  refine WD.dreg [H7,H7++[Blk.row 161 .own [[.int .i64 0,.sl none 0 0,.int .i64 0]]],applyU (H7++[Blk.row 161 .own [[.int .i64 0,.sl none 0 0,.int .i64 0]]]) us3] mixed rfl ?_
  repeat refine jk hK ?_
  refine VX.rdq hK (by decide) rfl (fun H1 k=>ev_ixR (hpp.keep fun i hi _=>k.2 i hi (by simp)) rfl rfl (by omega) (by omega) rfl) ?_
  rw [show a.2.toNat=pm2 by omega]
  refine VX.rdq hK (by decide) rfl (fun H1 k=>ev_ldS rfl (lds_ext k hp1)) ?_
  refine VX.ef1 rfl rfl (by rw [applyU_push]) rfl ?_
  refine VX.ef2 rfl (e3 _ _ _ _ rfl rfl) rfl ?_
  repeat refine jk hK ?_
  have k8':Keep [] H7 (applyU (H7++[Blk.row 161 .own [[.int .i64 0,.sl none 0 0,.int .i64 0]]]) us3):=(Keep.app _).trans k8 (fun i hi hl=>by simp at hi;omega)
  generalize applyU (H7++[Blk.row 161 .own [[.int .i64 0,.sl none 0 0,.int .i64 0]]]) us3=H8 at*
  repeat refine jj ?_
  have q41:=q4.1
  have b7':=b7.keep k8' (by simp)
  have hb8:=q5.keep k8' (by simp)
  have hm8:=q6.keep k8' (by simp) (fun i h=>h.elim)
  have hov8:=hov7.keep k8' (by simp)
  have l8':H8.length=H7.length+1:=by rw [l8];simp
  have b8':Box H8 H7.length [.int .i64 pr.1,.sl pr1 pr.2.1.length cr1,.int .i64 pr.2.2]:=b8
  obtain ⟨r9,H9,⟨k9,kept',above',hov9,hst9,hl9⟩,hF9⟩:=ovPop hov8 (k:=pr.2.1.length) (by omega)
  refine WD.dreg [H8,H9] mixed rfl ?_
  repeat refine jz ?_
  refine VX.call2 rfl rfl rfl rfl hF9 ?_
  refine VX.fin rfl ?_
  repeat refine jj ?_
  have hb9:=hb8.keep k9 (by grind)
  have b9:=b8'.keep k9 (by simp;omega)
  have hm9:=hm8.keep k9 (by grind) (fun i h=>h.elim)
  have hk09:Keep [] H0 H9:=(hk07.trans k8' (by simp)).trans k9 (by grind)
  have hif9:=hif0.ext hk09
  rw [hlen,←hst9] at hg2
  split at hg2
  ·cases hg2
  rename_i q hq
  obtain ⟨fa2,ty2,cs2,e9,hta2,hfa2⟩:=askTgt hif9 hq
  cases e9
  obtain ⟨r10,H10,⟨rfl,rfl⟩,hF10⟩:=ovTop hov9
  obtain ⟨r11,H11,⟨rfl,rfl⟩,hF11⟩:=hfa2
  have hprb:=hpr pr (List.mem_of_getElem? hpm3)
  by_cases hfull:64≤kept'+above'.length
  ·obtain ⟨r12,H12,⟨rfl,rfl⟩,hF12⟩:=ovPushFull (s:=q) hov9 hfull
   rw [if_pos (by omega)] at hg2
   cases hg2
   have hK9: ∀j H1,[H12,H12,H12,H12][j]? =some H1→j≤2→Keep [] H12 H1:=fun j H1 hj hj2=>by
    match j,hj with
    |0,hj=>cases hj;exact Keep.refl _
    |1,hj=>cases hj;exact Keep.refl _
    |2,hj=>cases hj;exact Keep.refl _
    |j+3,hj=>omega
   clear hK
   have hK:=hK9
   clear hK9
   refine WD.dreg [H12,H12,H12,H12] mixed rfl ?_
   repeat refine jk hK ?_
   refine VX.call2 rfl rfl rfl rfl hF10 ?_
   repeat refine jk hK ?_
   refine VX.call2 (vs:=[_,_,_]) rfl rfl (ev_mt rfl hta2) rfl hF11 ?_
   refine VX.call2 rfl rfl rfl rfl hF12 ?_
   refine VX.rdp rfl (fun _=>rfl) ?_
   refine VX.fin rfl ?_
   repeat refine jj ?_
   exact ⟨.inl rfl,rfl,_,rfl,rfl,(k7.trans k8' (by simp)).trans k9 (by grind),bs',bsA2,⟨hk09,by grind,⟨_,w,l,s,_,_,_,hb9,hgr0,hif0,hm9,by grind,n6⟩,⟨kept',above',hov9,rfl⟩,n1,n2,by grind,by grind⟩,by grind,hA2⟩
  ·obtain ⟨r12,H12,⟨rfl,k12,bsA3,hov12,hA12⟩,hF12⟩:=ovPush (s:=q) hov9 (by omega)
   rw [if_neg (by omega)] at hg2
   have hK9: ∀j H1,[H11,H11,H11,H12][j]? =some H1→j≤2→Keep [] H11 H1:=fun j H1 hj hj2=>by
    match j,hj with
    |0,hj=>cases hj;exact Keep.refl _
    |1,hj=>cases hj;exact Keep.refl _
    |2,hj=>cases hj;exact Keep.refl _
    |j+3,hj=>omega
   clear hK
   have hK:=hK9
   clear hK9
   refine WD.dreg [H11,H11,H11,H12] mixed rfl ?_
   repeat refine jk hK ?_
   refine VX.call2 rfl rfl rfl rfl hF10 ?_
   repeat refine jk hK ?_
   refine VX.call2 (vs:=[_,_,_]) rfl rfl (ev_mt rfl hta2) rfl hF11 ?_
   refine VX.call2 rfl rfl rfl rfl hF12 ?_
   refine VX.rdp rfl (fun _=>rfl) ?_
   refine VX.fin rfl ?_
   repeat refine jj ?_
   have e9:=k9.1
   have e8:=k8'.1
   have hm9lt:=hm9.lt
   exact ⟨n,Nat.lt_succ_self n,bs',bsA3,_,_,hg2,⟨hk09.trans k12 (by grind),by grind,⟨_,w,l,s,_,_,_,hb9.keep k12 (by grind),hgr0,hif0,hm9.keep k12 (by grind) (fun i h=>h.elim),by grind,n6⟩,⟨kept',above'++[q],hov12,by rw [List.append_assoc]⟩,n1,by grind,by grind,by grind⟩,⟨rfl,rfl,trivial⟩,rfl,((k7.trans k8' (by simp)).trans k9 (by grind)).trans k12 (by grind),by grind,by grind,by rw [List.length_append];simp;omega⟩
 ·rw [if_neg ha2] at hg2
  cases hg2
  repeat refine jj ?_
  refine ⟨.inl rfl,rfl,_,rfl,rfl,kA,bsM2,bsA2,⟨hk05,hn0,⟨vt,w,l,s,vp,_,_,hb5,hgr0,hif0,hm5,n5,n6⟩,⟨kept,above,hov5,rfl⟩,n1,n2,n3,n4⟩,hM2,hA2⟩
end Dr
end Go.Proofs.YtnjjieohlnhicaaGreatDoor
end
section
namespace Go.Proofs.YtnjjieohlnhicaaGreatDoor
set_option linter.unusedSimpArgs false
set_option linter.unusedVariables false
open Go Go.Wm Go.Proofs Go.RowKit
set_option maxRecDepth 100000
set_option maxHeartbeats 4000000
namespace Dr
theorem clipA {H:Hp} {bs:List Nat} {t:TypeId} {v:VV} {es:List (List VV)} (h:Buf H bs t 2 v es):FnX Tryz.prog 96 [v] H fun r H'=>H'=H∧ ∃p,r= .sl p es.length es.length∧Sl H p 2 es∧ ∀q,p=some q→q.blk∈bs:=by
 refine FnX.enterRow ok96 (Nat.le_of_ble_eq_true rfl) ?_
 obtain ⟨p0,c,rfl,_⟩:=h.sl
 obtain ⟨p,he,hs,hq⟩:=h.clip
 repeat refine jj ?_
 refine OD.rd rfl (he _ _ _ _ rfl rfl rfl) ?_
 repeat refine jj ?_
 exact ⟨.inl rfl,rfl,_,rfl,rfl,p,rfl,hs,hq⟩
def probeV (p q:Option PA) (ok:Bool) (st:List Int) (mv:List (Int×Int)):VV:= .tup [.agg [.bool ok,.sl p mv.length mv.length,.sl q st.length st.length],.int .i64 0]
theorem tries {H0 H:Hp} {tb sb:Nat} {T:Tab} {pk:Bool} {F:List Nat} {first term:Int} {ss ns:List Int} {st':List Int} {mv':List (Int×Int)} {ok:Bool} {code:Int} {fuel:Nat} (hk0:Keep [] H0 H) (ht:TabAt H0 tb T) (hs:StackAt H sb F first ss ns) (hF: ∀b∈F,H0.length≤b) (hl:ss.length≤64)
 (hpr: ∀pr∈T.prods,-1000000000≤pr.1∧pr.1≤4000000000) (hg:goesF T pk first term fuel ss []=some (ok,code,st',mv')):
 FnX Tryz.prog 171 [.ptr (some ⟨tb,0,0⟩),.bool pk,.ptr (some ⟨sb,0,0⟩),.int .i64 term] H fun r H'=>Keep [] H H'∧(code≠0→r= .tup [.agg [.bool false,.sl none 0 0,.sl none 0 0],.int .i64 code])∧(code=0→ ∃p q,r=probeV p q ok (first::st') mv'∧SlR (fun b=>H.length≤b∧b<H'.length) H' p mv'∧SlR (fun b=>H.length≤b∧b<H'.length) H' q (first::st')):=by
 refine FnX.enterRow ok171 (Nat.le_of_ble_eq_true rfl) ?_
 have ht2:=ht
 obtain ⟨vt,n,l,s,vp,v1,v2,hb0,hgr,hif1,hif2,hn1,hn2,hcn,hcl,hcs⟩:=ht
 have hb:=hb0.keep hk0 (by simp)
 have hlen0:=hk0.1
 have htb:=hb0.lt
 have hFl:=hs.lt
 have hgr2:=hgr
 obtain ⟨⟨pt,ct,rfl⟩,pp,cp,rfl,hpp⟩:=hgr2
 have hq1: ∃cs,v1= .ifc 377 (.agg cs)∧DtAt H0 cs T.d:=hif1
 have hq2: ∃cs,v2= .ifc 380 (.agg cs)∧PtAt H0 cs T.p:=hif2
 obtain ⟨cs1,rfl,_⟩:=hq1
 obtain ⟨cs2,rfl,_⟩:=hq2
 refine WD.seq ?_
 refine WD.reg ?_
 refine OD.al rfl fun H1 a1 k1 n1=> ?_
 repeat refine jj ?_
 have hs1:=hs.keep k1 (by simp)
 have hb1:=hb.keep k1 (by simp)
 obtain ⟨r2,H2,⟨rfl,k2,hov⟩,hF⟩:=over hs1 hl
 have hl2:=k2.1
 have hovl:=hov.lts
 have hobl:H1.length<H2.length:=hovl _ (by simp)
 have hokc:okCells [.ptr (some ⟨H1.length,0,0⟩),.sl pt T.nT ct,n,l,s,.sl pp T.prods.length cp,.ifc 377 (.agg cs1),.sl none 0 0]=true:=by simp only [okCells,List.all_cons,hcn,hcl,hcs];rfl
 have hK: ∀j H3,[H1,H2,H2++[Blk.row 389 .own [[.ptr (some ⟨H1.length,0,0⟩),.sl pt T.nT ct,n,l,s,.sl pp T.prods.length cp,.ifc 377 (.agg cs1),.sl none 0 0]]]][j]? =some H3→j≤1→Keep [] H1 H3:=fun j H3 hj hj2=>by
  match j,hj with
  |0,hj=>cases hj;exact Keep.refl _
  |1,hj=>cases hj;exact k2
  |j+2,hj=>omega
 refine WD.dreg [H1,H2,H2++[Blk.row 389 .own [[.ptr (some ⟨H1.length,0,0⟩),.sl pt T.nT ct,n,l,s,.sl pp T.prods.length cp,.ifc 377 (.agg cs1),.sl none 0 0]]]] mixed rfl ?_
 repeat refine jk hK ?_
 refine VX.call2 rfl rfl rfl rfl hF ?_
 repeat refine jk hK ?_
 refine VX.ef1 rfl (ev_boxN (v:= .agg [.ptr (some ⟨H1.length,0,0⟩),.sl pt T.nT ct,n,l,s,.sl pp T.prods.length cp,.ifc 377 (.agg cs1),.sl none 0 0]) (l:=[.ptr (some ⟨H1.length,0,0⟩),.sl pt T.nT ct,n,l,s,.sl pp T.prods.length cp,.ifc 377 (.agg cs1),.sl none 0 0]) rfl rfl hokc rfl) (by rw [applyU_push]) rfl ?_
 refine VX.rdp rfl (fun _=>rfl) ?_
 refine VX.fin rfl ?_
 have k3':Keep [] H2 (H2++[Blk.row 389 .own [[.ptr (some ⟨H1.length,0,0⟩),.sl pt T.nT ct,n,l,s,.sl pp T.prods.length cp,.ifc 377 (.agg cs1),.sl none 0 0]]]):=Keep.app _
 have b3:=Box.last H2 389 [.ptr (some ⟨H1.length,0,0⟩),.sl pt T.nT ct,n,l,s,.sl pp T.prods.length cp,.ifc 377 (.agg cs1),.sl none 0 0]
 have n3:(H2++[Blk.row 389 .own [[.ptr (some ⟨H1.length,0,0⟩),.sl pt T.nT ct,n,l,s,.sl pp T.prods.length cp,.ifc 377 (.agg cs1),.sl none 0 0]]]).length=H2.length+1:=by simp
 generalize H2++[Blk.row 389 .own [[.ptr (some ⟨H1.length,0,0⟩),.sl pt T.nT ct,n,l,s,.sl pp T.prods.length cp,.ifc 377 (.agg cs1),.sl none 0 0]]]=H3 at*
 have hov3:=hov.keep k3' (by simp)
 have k03:Keep [] H H3:=(k1.trans k2 (by simp)).trans k3' (by simp)
 have hb3:=hb.keep k03 (by simp)
 have a3:=(a1.keep k2 (by simp)).keep k3' (by simp)
 refine WD.seq (WD.mono (Q:=fun e F' H'=>e= .normal∧ ∃v,Cov [(8,.ptr (some ⟨H.length,0,0⟩)),(10,.ptr (some ⟨H2.length,0,0⟩)),(3,.int .i64 term)] F'∧F'.get dslot=none∧Keep [H2.length] H3 H'∧H'.length=H3.length∧Box H' H2.length [.ptr (some ⟨H1.length,0,0⟩),.sl pt T.nT ct,n,l,s,.sl pp T.prods.length cp,v,.sl none 0 0]∧ifcAt H0 T pk v) ?_ ?_)
 ·cases pk with
  |false=>
   repeat refine jj ?_
   exact ⟨rfl,_,⟨rfl,rfl,rfl,trivial⟩,rfl,Keep.refl _,rfl,b3,hif1⟩
  |true=>
   repeat refine jj ?_
   refine OD.st rfl rfl rfl b3 rfl rfl rfl (Nat.le_of_ble_eq_true rfl) rfl fun H4 b4 k4 n4=> ?_
   repeat refine jj ?_
   exact ⟨rfl,_,⟨rfl,rfl,rfl,trivial⟩,rfl,k4,n4,b4,hif2⟩
 rintro e F' H4 ⟨rfl,v,hc,hd,k4,n4,b4,hif⟩
 rw [then_normal]
 refine WD.cov hc hd rfl ?_
 have hov4:=hov3.keep k4 (by grind)
 have a4:=a3.keep k4 (by simp;omega)
 have k04:Keep [] H H4:=k03.trans k4 (by grind)
 have hS:StAt H0 H4 H2.length H1.length sb T pk F first ss ns [] [] ss []:=
  ⟨hk0.trans k04 (by simp),by grind,⟨_,n,l,s,_,_,_,b4,hgr,hif,BufR.nil _ _ 114,by simp,by omega⟩,⟨_,_,hov4,by simp⟩,by grind,by simp,by simp,by simp⟩
 repeat refine jj ?_
 refine OD.call rfl rfl rfl (goes hS hn1 hpr (by simp) hg) ?_
 rintro r5 H5 ⟨rfl,k5,bsM',bsA',hS5,hM5,hA5⟩
 have a5:=a4.keep k5 (by grind)
 have k05:Keep [] H H5:=k04.trans k5 (by grind)
 by_cases hcode:code=0
 ·subst hcode
  repeat refine jj ?_
  obtain ⟨_,_,⟨vt,w,l',s',vp,v',m,b6,_,_,hm,_,_⟩,⟨kept,above,hov5,rfl⟩,_⟩:=hS5
  obtain ⟨pm,cm,esm,rfl,_,_⟩:=hm.sl
  obtain ⟨esm2,hbm,hrm⟩:=id hm
  obtain ⟨rc,Hc,⟨rfl,p1,rfl,hs1,hq1⟩,hFc⟩:=clipA hbm
  obtain ⟨rs,H6,⟨k6,bs6,hb6,hbs6⟩,hFs⟩:=ovStates hov5
  have hlm:esm2.length=mv'.length:=hrm.1
  rw [hlm] at hFc
  obtain ⟨rc2,Hc2,⟨rfl,p2,rfl,hs2,hq2⟩,hFc2⟩:=clip hb6.ints
  rw [intEs_len] at hFc2
  have a6:=a5.keep k6 (by simp)
  obtain ⟨us,e7,b7,k7,l7⟩:=a6.st (off:=0) (k:=3) (v:= .agg [.bool ok,.sl p1 mv'.length mv'.length,.sl p2 (first::(ss.take kept++above)).length (first::(ss.take kept++above)).length]) rfl rfl rfl (Nat.le_of_ble_eq_true rfl) rfl
  clear hK
  have hK: ∀j H',[Hc,Hc,Hc2,Hc2,applyU Hc2 us][j]? =some H'→j≤3→Keep [] Hc H':=fun j H' hj hj2=>by
   match j,hj with
   |0,hj=>cases hj;exact Keep.refl _
   |1,hj=>cases hj;exact Keep.refl _
   |2,hj=>cases hj;exact k6
   |3,hj=>cases hj;exact k6
   |j+4,hj=>omega
  refine WD.dreg [Hc,Hc,Hc2,Hc2,applyU Hc2 us] mixed rfl ?_
  repeat refine jk hK ?_
  refine VX.call2 rfl rfl rfl rfl hFc ?_
  repeat refine jk hK ?_
  refine VX.call2 rfl rfl rfl rfl hFs ?_
  refine VX.call2 rfl rfl rfl rfl hFc2 ?_
  repeat refine jk hK ?_
  refine VX.ef2 rfl (e7 _ _ _ _ rfl rfl) rfl ?_
  refine VX.rdp rfl (fun _=>rfl) ?_
  refine VX.fin rfl ?_
  repeat refine jj ?_
  have e5:=k5.1
  have hlm5:=hm.lt
  have q1: ∀q,p1=some q→q.blk∉[H.length]:=fun q hq=>by have h1:=hM5 _ (hq1 q hq);simp at h1 ⊢;omega
  have q2: ∀q,p2=some q→q.blk∉[H.length]:=fun q hq=>by have:=hbs6 _ (hq2 q hq);simp;omega
  have hs1':Sl (applyU Hc2 us) p1 2 esm2:=(hs1.keep k6 (by simp)).keep k7 q1
  have hs2':=hs2.keep k7 q2
  refine ⟨.inl rfl,rfl,_,resC2 rfl b7 rfl rfl,(k05.trans k6 (by simp)).trans k7 (fun i hi hl=>by simp at hi;omega),fun h=>absurd rfl h,fun _=>⟨p1,p2,rfl,⟨esm2,hs1',fun q hq _=>⟨by have h1:=hM5 _ (hq1 q hq);simp at h1;omega,by have h1:=hlm5 _ (hq1 q hq);have h2:=k6.1;omega⟩,?_⟩,SlR.ofInts hs2' fun q hq _=>⟨by have h1:=hbs6 _ (hq2 q hq);omega,by have h1:=hb6.lt _ (hq2 q hq);omega⟩⟩⟩
  refine ⟨hrm.1,fun i x e h1 h2=> ?_⟩
  obtain ⟨e1,e2,e3,e4,e5⟩:=hrm.2 i x e h1 h2
  exact ⟨e1,e2,e3,e4,e5⟩
 ·repeat refine jj ?_
  refine OD.st rfl rfl rfl a5 rfl rfl rfl (Nat.le_of_ble_eq_true rfl) rfl fun H6 b6 k6 n6=> ?_
  repeat refine jj ?_
  exact ⟨.inl rfl,rfl,_,resC2 rfl b6 rfl rfl,k05.trans k6 (fun i hi hl=>by simp at hi;omega),fun _=>rfl,fun h=>absurd h hcode⟩
end Dr
end Go.Proofs.YtnjjieohlnhicaaGreatDoor
end
section
namespace Go.Proofs.YtnjjieohlnhicaaGreatDoor
set_option linter.unusedSimpArgs false
set_option linter.unusedVariables false
open Go Go.Wm Go.Proofs Go.RowKit
set_option maxRecDepth 100000
set_option maxHeartbeats 4000000
namespace Dr
def mightF (T:Tab) (pk:Bool) (first:Int) (fuel:Nat) (ss:List Int):Nat→Option (List Int×Int)
 |0=>some ([],0)
 |k+1=>
  match mightF T pk first fuel ss k with
  |none=>none
  |some (l,c)=>
   if c≠0 then some (l,c)
   else match goesF T pk first k fuel ss [] with
    |none=>none
    |some (ok,code,_,_)=>if code≠0 then some ([],code) else some (if ok then l++[(k:Int)] else l,0)
theorem mightF_le {T:Tab} {pk:Bool} {first:Int} {fuel:Nat} {ss:List Int} {k:Nat}: ∀{n:Nat} {r:List Int×Int},k≤n→mightF T pk first fuel ss n=some r→ ∃r',mightF T pk first fuel ss k=some r'∧(r'.2≠0→r'=r)
 |0,r,hk,h=>by obtain rfl:k=0:=by omega
               exact ⟨r,h,fun _=>rfl⟩
 |n+1,r,hk,h=>by
  by_cases hkn:k=n+1
  ·subst hkn;exact ⟨r,h,fun _=>rfl⟩
  unfold mightF at h
  cases hm:mightF T pk first fuel ss n with
  |none=>rw [hm] at h;cases h
  |some q=>
   obtain ⟨r',h1,h2⟩:=mightF_le (k:=k) (by omega) hm
   refine ⟨r',h1,fun hc=> ?_⟩
   have e:=h2 hc
   rw [hm] at h
   obtain ⟨l,c⟩:=q
   subst e
   simp only at h
   rw [if_pos hc] at h
   exact Option.some.inj h
theorem TabAt.ext {H H':Hp} {tb:Nat} {T:Tab} (h:TabAt H tb T) (k:Keep [] H H'):TabAt H' tb T:=by
 obtain ⟨vt,n,l,s,vp,v1,v2,h1,h2,h3,h4,h5,h6,h7⟩:=h
 exact ⟨vt,n,l,s,vp,v1,v2,h1.keep k (by simp),h2.ext k,h3.ext k,h4.ext k,h5,h6,h7⟩
theorem might {H0 H:Hp} {tb sb:Nat} {T:Tab} {pk:Bool} {F:List Nat} {first:Int} {ss ns:List Int} {l:List Int} {code:Int} {fuel:Nat} (hk0:Keep [] H0 H) (ht:TabAt H0 tb T) (hs:StackAt H sb F first ss ns) (hF: ∀b∈F,H0.length≤b) (hl:ss.length≤64)
 (hpr: ∀pr∈T.prods,-1000000000≤pr.1∧pr.1≤4000000000) (hg:mightF T pk first fuel ss T.nT=some (l,code)):
 FnX Tryz.prog 90 [.ptr (some ⟨tb,0,0⟩),.bool pk,.ptr (some ⟨sb,0,0⟩)] H fun r H'=>Keep [] H H'∧((code=0→ ∃p,r= .tup [.sl p l.length l.length,.int .i64 0]∧Sl H' p 1 (intEs l)∧ ∀q,p=some q→H.length≤q.blk)∧(code≠0→r= .tup [.sl none 0 0,.int .i64 code])):=by
 refine FnX.enterRow ok90 (Nat.le_of_ble_eq_true rfl) ?_
 have hnT:T.nT≤1000000000:=by obtain ⟨vt,n,l,s,vp,v1,v2,hb0,hgr,hif1,hif2,hn1,hn2,hcn⟩:=ht;exact hn1
 have hle0:=hk0.1
 have hFl:=hs.lt
 repeat refine jj ?_
 refine OD.call rfl rfl rfl (terms (ht.ext hk0)) ?_
 rintro r H1 ⟨rfl,rfl⟩
 repeat refine jj ?_
 refine WD.loop (fun n F1 H2=> ∃(k:Nat) (bs:List Nat) (v:VV) (lk:List Int),n=T.nT-k∧k≤T.nT∧mightF T pk first fuel ss k=some (lk,0)∧Cov [(0,.ptr (some ⟨tb,0,0⟩)),(1,.bool pk),(2,.ptr (some ⟨sb,0,0⟩)),(8,v),(13,.int .i64 T.nT),(14,.int .i64 k)] F1∧F1.get dslot=none∧Keep [] H1 H2∧BufR nok H2 bs 3 v lk∧(∀b∈bs,H1.length≤b)∧lk.length≤k) T.nT ⟨0,[],_,[],rfl,Nat.zero_le _,rfl,⟨rfl,rfl,rfl,rfl,rfl,rfl,trivial⟩,rfl,Keep.refl _,BufR.nil _ _ _,by simp,by simp⟩ ?_
 rintro n F1 H2 ⟨k,bs,v,lk,rfl,hkn,hm,hc,hd,k2,hb,hbs,hlk⟩
 refine WD.cov hc hd rfl ?_
 by_cases hkl:k<T.nT
 ·obtain ⟨r',hm1,hm2⟩:=mightF_le (k:=k+1) (by omega) hg
  have hm1':=hm1
  unfold mightF at hm1
  rw [hm] at hm1
  simp only [ne_eq,not_true_eq_false,if_false] at hm1
  cases hgo:goesF T pk first k fuel ss [] with
  |none=>rw [hgo] at hm1;cases hm1
  |some q=>
   obtain ⟨ok,code',st',mv'⟩:=q
   rw [hgo] at hm1
   simp only at hm1
   repeat refine jj ?_
   refine OD.call rfl rfl rfl (tries (hk0.trans k2 (by simp)) ht (hs.keep k2 (by simp)) hF hl hpr hgo) ?_
   rintro r H3 ⟨k3,hr1,hr2⟩
   have hb3:=hb.keep k3 (by simp) (fun i h=>h.elim)
   have hl2:=k2.1
   have hl3:=k3.1
   have k13:=k2.trans k3 (by simp)
   by_cases hcd:code'=0
   ·subst hcd
    obtain ⟨p,q,rfl,_,_⟩:=hr2 rfl
    unfold probeV
    simp only [not_true_eq_false,if_false] at hm1
    cases hm1
    repeat refine jj ?_
    refine OD.al rfl fun H4 a4 k4 n4=> ?_
    refine OD.st rfl rfl rfl a4 rfl rfl rfl (Nat.le_of_ble_eq_true rfl) rfl fun H5 a5 k5 n5=> ?_
    have k35:Keep [] H3 H5:=k4.trans k5 (fun i hi hl=>by simp at hi;omega)
    have hb5:=hb3.keep k35 (by simp) (fun i h=>h.elim)
    repeat refine jj ?_
    cases ok with
    |false=>
     repeat refine jj ?_
     exact ⟨_,by omega,k+1,bs,v,lk,rfl,by omega,hm1',⟨rfl,rfl,rfl,rfl,rfl,rfl,trivial⟩,rfl,k13.trans k35 (by simp),hb5,hbs,by omega⟩
    |true=>
     repeat refine jj ?_
     refine OD.app1 (α:=Int) (bytes:=8) (ok:=nok) (x:=(k:Int)) rfl (ev_mkint rfl) rfl hb5 rfl rfl (fun i h=>h.elim) (by omega) (by omega) fun v1' H6 bs1' c1 c2 c3=> ?_
     have hl5:=k35.1
     repeat refine jj ?_
     exact ⟨_,by omega,k+1,bs1',v1',_,rfl,by omega,hm1',⟨rfl,rfl,rfl,rfl,rfl,rfl,trivial⟩,rfl,(k13.trans k35 (by simp)).trans c2 (by grind),c1,by grind,by simp;omega⟩
   ·rw [if_pos hcd] at hm1
    cases hm1
    have e:=hm2 hcd
    cases e
    obtain rfl:=hr1 hcd
    repeat refine jj ?_
    refine OD.al rfl fun H4 a4 k4 n4=> ?_
    refine OD.st rfl rfl rfl a4 rfl rfl rfl (Nat.le_of_ble_eq_true rfl) rfl fun H5 a5 k5 n5=> ?_
    have k35:Keep [] H3 H5:=k4.trans k5 (fun i hi hl=>by simp at hi;omega)
    repeat refine jj ?_
    exact ⟨.inl rfl,rfl,_,rfl,k13.trans k35 (by simp),fun h=>absurd h hcd,fun _=>rfl⟩
 ·obtain rfl:k=T.nT:=by omega
  rw [hm] at hg
  cases hg
  repeat refine jj ?_
  refine OD.call rfl rfl rfl (clip hb.ints) ?_
  rintro r H3 ⟨rfl,p,rfl,hs3,hq3⟩
  rw [intEs_len]
  repeat refine jj ?_
  exact ⟨.inl rfl,rfl,_,rfl,k2,fun _=>⟨p,rfl,hs3,fun q hq=>hbs _ (hq3 q hq)⟩,fun h=>absurd rfl h⟩
end Dr
end Go.Proofs.YtnjjieohlnhicaaGreatDoor
end
section
namespace Go.Proofs.YtnjjieohlnhicaaGreatDoor
set_option linter.unusedSimpArgs false
set_option linter.unusedVariables false
open Go Go.Wm Go.Proofs Go.RowKit
set_option maxRecDepth 100000
set_option maxHeartbeats 4000000
namespace Dr
def Il (ok:Nat→Prop) (H:Hp) (v:VV) (l:List Int):Prop:= ∃p c,v= .sl p l.length c∧SlR ok H p l
theorem Il.keep {ok:Nat→Prop} {H H':Hp} {v:VV} {l:List Int} (h:Il ok H v l) (k: ∀i,i<H.length→ok i→H'[i]? =H[i]?):Il ok H' v l:=by
 obtain ⟨p,c,h1,h2⟩:=h
 exact ⟨p,c,h1,h2.keep k⟩
theorem Il.weak {ok ok':Nat→Prop} {H:Hp} {v:VV} {l:List Int} (h:Il ok H v l) (k: ∀i,i<H.length→ok i→ok' i):Il ok' H v l:=by
 obtain ⟨p,c,h1,h2⟩:=h
 exact ⟨p,c,h1,h2.weak k⟩
theorem Il.ints {ok:Nat→Prop} {H:Hp} {v:VV} {l:List Int} (h:Il ok H v l):Ints H v l:=by
 obtain ⟨p,c,h1,h2⟩:=h
 exact ⟨p,c,h1,h2.ints⟩
theorem sameIl {H:Hp} {v:VV} {l:List Int} (h:Il (fun _=>True) H v l) (hl:l.length≤1000000000):FnX Tryz.prog 36 [v] H fun r H'=>Keep [] H H'∧Il (fun b=>H.length≤b∧b<H'.length) H' r l:=by
 obtain ⟨p,c,rfl,h2⟩:=h
 refine (sameI h2 hl).mono ?_
 rintro r H' ⟨k,q,rfl,hs⟩
 exact ⟨k,q,_,rfl,hs⟩
def RwAt (ok:Nat→Prop) (H:Hp) (cs:List VV) (r:PR):Prop:= ∃b v o,cs=[b,v,o]∧Il ok H b r.1∧Il ok H v r.2.1∧Il ok H o r.2.2
theorem rowsIl {H:Hp} {cs:List VV} {r:PR} (h:RwAt (fun _=>True) H cs r) (l1:r.1.length≤1000000000) (l2:r.2.1.length≤1000000000) (l3:r.2.2.length≤1000000000):FnX Tryz.prog 319 [.agg cs] H fun x H'=>Keep [] H H'∧ ∃ds,x= .agg ds∧RwAt (fun b=>H.length≤b∧b<H'.length) H' ds r:=by
 refine FnX.enterRow ok319 (Nat.le_of_ble_eq_true rfl) ?_
 obtain ⟨b,v,o,rfl,h1,h2,h3⟩:=h
 obtain ⟨q1,d1,rfl,_⟩:=id h1
 obtain ⟨q2,d2,rfl,_⟩:=id h2
 obtain ⟨q3,d3,rfl,_⟩:=id h3
 refine WD.seq ?_
 refine WD.reg ?_
 refine OD.bx rfl rfl rfl rfl rfl fun H1 b1 k1 n1=> ?_
 refine OD.al rfl fun H2 a2 k2 n2=> ?_
 have k02:=k1.trans k2 (by simp)
 have b2:=b1.keep k2 (by simp)
 have hl2:=k02.1
 repeat refine jj ?_
 obtain ⟨r1,K1,⟨kk1,s1⟩,f1⟩:=sameIl (h1.keep (H':=H2) fun i hi _=>k02.2 i hi (by simp)) l1
 have e1:=k02.trans kk1 (by simp)
 obtain ⟨r2,K2,⟨kk2,s2⟩,f2⟩:=sameIl (h2.keep (H':=K1) fun i hi _=>e1.2 i hi (by simp)) l2
 have e2:=e1.trans kk2 (by simp)
 obtain ⟨r3,K3,⟨kk3,s3⟩,f3⟩:=sameIl (h3.keep (H':=K2) fun i hi _=>e2.2 i hi (by simp)) l3
 obtain ⟨p1,c1,rfl,_⟩:=id s1
 obtain ⟨p2,c2,rfl,_⟩:=id s2
 obtain ⟨p3,c3,rfl,_⟩:=id s3
 have k23:Keep [] H2 K3:=(kk1.trans kk2 (by simp)).trans kk3 (by simp)
 have a3:=a2.keep k23 (by simp)
 obtain ⟨us,g1,g2,g3,g4⟩:=a3.st (off:=0) (k:=3) (v:= .agg [.sl p1 r.1.length c1,.sl p2 r.2.1.length c2,.sl p3 r.2.2.length c3]) rfl rfl rfl (Nat.le_of_ble_eq_true rfl) rfl
 have hK: ∀j H',[H2,K1,K2,K3,applyU K3 us][j]? =some H'→j≤3→Keep [] H2 H':=fun j H' hj hj2=>by
  match j,hj with
  |0,hj=>cases hj;exact Keep.refl _
  |1,hj=>cases hj;exact kk1
  |2,hj=>cases hj;exact kk1.trans kk2 (by simp)
  |3,hj=>cases hj;exact k23
  |j+4,hj=>omega
 refine WD.dreg [H2,K1,K2,K3,applyU K3 us] mixed rfl ?_
 repeat refine jk hK ?_
 refine VX.call2 rfl rfl rfl rfl f1 ?_
 repeat refine jk hK ?_
 refine VX.call2 rfl rfl rfl rfl f2 ?_
 repeat refine jk hK ?_
 refine VX.call2 rfl rfl rfl rfl f3 ?_
 repeat refine jk hK ?_
 refine VX.ef2 rfl (g1 _ _ _ _ rfl rfl) rfl ?_
 refine VX.fin rfl ?_
 repeat refine jj ?_
 have lk1:=kk1.1
 have lk2:=kk2.1
 have lk3:=kk3.1
 have hin: ∀i,i<K3.length→i≠H1.length→(applyU K3 us)[i]? =K3[i]? :=fun i h1 h2=>g3.2 i h1 (by simp [h2])
 refine ⟨.inl rfl,rfl,_,resC rfl g2 rfl,(k02.trans k23 (by simp)).trans g3 (fun i hi hl=>by simp at hi;omega),_,rfl,_,_,_,rfl,?_,?_,?_⟩
 ·exact (((s1.keep (H':=K2) fun i hi _=>kk2.2 i hi (by simp)).keep (H':=K3) fun i hi _=>kk3.2 i hi (by simp)).keep fun i hi hik=>hin i hi (by omega)).weak fun i hi hik=>⟨by omega,by omega⟩
 ·exact ((s2.keep (H':=K3) fun i hi _=>kk3.2 i hi (by simp)).keep fun i hi hik=>hin i hi (by omega)).weak fun i hi hik=>⟨by omega,by omega⟩
 ·exact (s3.keep fun i hi hik=>hin i hi (by omega)).weak fun i hi hik=>⟨by omega,by omega⟩
def PkAt (ok:Nat→Prop) (H:Hp) (cs:List VV) (p:PT):Prop:= ∃d b v o t b2 v2 o2,cs=[d,b,v,o,t,b2,v2,o2]∧Il ok H d p.1∧RwAt ok H [b,v,o] p.2.1∧Il ok H t p.2.2.1∧RwAt ok H [b2,v2,o2] p.2.2.2
theorem PkAt.pt {ok:Nat→Prop} {H:Hp} {cs:List VV} {S:Sys} (h:PkAt ok H cs S.p) (hm:S.Sm):PtAt H cs S.p:=by
 obtain ⟨d,b,v,o,t,b2,v2,o2,rfl,h1,⟨_,_,_,e,h2,h3,h4⟩,h5,⟨_,_,_,e',h6,h7,h8⟩⟩:=h
 cases e
 cases e'
 exact ⟨⟨d,b,v,o,t,b2,v2,o2,rfl,h1.ints,h2.ints,h3.ints,h4.ints,h5.ints,h6.ints,h7.ints,h8.ints⟩,hm.pl,hm.pw⟩
def SysAt (H:Hp) (sp:Nat) (S:Sys):Prop:=
 ∃p1 c1 p2 c2 p3 c3 p5 c5 s1 s2 s3 s4 p6 c6 p7 c7 p8 c8 d b v o t b2 v2 o2 cl,
  Box H sp [.sl p1 S.terms.length c1,.sl p2 S.nons.length c2,.sl p3 S.levels.length c3,.int .i64 S.start,.sl p5 S.prods.length c5,s1,s2,s3,s4,.sl p6 S.acts.length c6,.sl p7 S.gotos.length c7,.sl p8 S.conf.length c8,d,b,v,o,t,b2,v2,o2,cl]∧
  SlR (fun _=>True) H p1 S.terms∧SlR (fun _=>True) H p2 S.nons∧SlR (fun _=>True) H p3 S.levels∧SlR (fun _=>True) H p5 S.prods∧SlR (fun _=>True) H p6 S.acts∧SlR (fun _=>True) H p7 S.gotos∧SlR (fun _=>True) H p8 S.conf∧PkAt (fun _=>True) H [d,b,v,o,t,b2,v2,o2] S.p
theorem RwAt.keep {ok:Nat→Prop} {H H':Hp} {cs:List VV} {r:PR} (h:RwAt ok H cs r) (k: ∀i,i<H.length→ok i→H'[i]? =H[i]?):RwAt ok H' cs r:=by
 obtain ⟨b,v,o,rfl,h1,h2,h3⟩:=h
 exact ⟨b,v,o,rfl,h1.keep k,h2.keep k,h3.keep k⟩
theorem RwAt.weak {ok ok':Nat→Prop} {H:Hp} {cs:List VV} {r:PR} (h:RwAt ok H cs r) (k: ∀i,i<H.length→ok i→ok' i):RwAt ok' H cs r:=by
 obtain ⟨b,v,o,rfl,h1,h2,h3⟩:=h
 exact ⟨b,v,o,rfl,h1.weak k,h2.weak k,h3.weak k⟩
theorem PkAt.keep {ok:Nat→Prop} {H H':Hp} {cs:List VV} {p:PT} (h:PkAt ok H cs p) (k: ∀i,i<H.length→ok i→H'[i]? =H[i]?):PkAt ok H' cs p:=by
 obtain ⟨d,b,v,o,t,b2,v2,o2,rfl,h1,h2,h3,h4⟩:=h
 exact ⟨d,b,v,o,t,b2,v2,o2,rfl,h1.keep k,h2.keep k,h3.keep k,h4.keep k⟩
theorem PkAt.weak {ok ok':Nat→Prop} {H:Hp} {cs:List VV} {p:PT} (h:PkAt ok H cs p) (k: ∀i,i<H.length→ok i→ok' i):PkAt ok' H cs p:=by
 obtain ⟨d,b,v,o,t,b2,v2,o2,rfl,h1,h2,h3,h4⟩:=h
 exact ⟨d,b,v,o,t,b2,v2,o2,rfl,h1.weak k,h2.weak k,h3.weak k,h4.weak k⟩
theorem SysAt.ext {H H':Hp} {sp:Nat} {S:Sys} (h:SysAt H sp S) (k:Keep [] H H'):SysAt H' sp S:=by
 obtain ⟨p1,c1,p2,c2,p3,c3,p5,c5,s1,s2,s3,s4,p6,c6,p7,c7,p8,c8,d,b,v,o,t,b2,v2,o2,cl,h1,h2,h3,h4,h5,h6,h7,h8,h9⟩:=h
 have kk: ∀i,i<H.length→True→H'[i]? =H[i]? :=fun i hi _=>k.2 i hi (by simp)
 exact ⟨p1,c1,p2,c2,p3,c3,p5,c5,s1,s2,s3,s4,p6,c6,p7,c7,p8,c8,d,b,v,o,t,b2,v2,o2,cl,h1.keep k (by simp),h2.keep kk,h3.keep kk,h4.keep kk,h5.keep kk,h6.keep kk,h7.keep kk,h8.keep kk,h9.keep kk⟩
theorem told {H:Hp} {sp:Nat}:FnX Tryz.prog 15 [.ptr (some ⟨sp,0,0⟩)] H fun r H'=>r= .ptr (some ⟨sp,0,0⟩)∧H'=H:=by
 refine FnX.enterRow ok15 (Nat.le_of_ble_eq_true rfl) ?_
 repeat refine jj ?_
 exact ⟨.inl rfl,rfl,_,rfl,rfl,rfl⟩
theorem grammar1 {H:Hp} {sp:Nat} {S:Sys} (h:SysAt H sp S) (hm:S.Sm):FnX Tryz.prog 17 [.ptr (some ⟨sp,0,0⟩)] H fun r H'=>Keep [] H H'∧grAt (fun b=>H.length≤b∧b<H'.length) H' r S:=by
 refine FnX.enterRow ok17 (Nat.le_of_ble_eq_true rfl) ?_
 refine WD.seq ?_
 refine WD.reg ?_
 refine OD.al rfl fun H1 a1 k1 n1=> ?_
 obtain ⟨p1,c1,p2,c2,p3,c3,p5,c5,s1,s2,s3,s4,p6,c6,p7,c7,p8,c8,d,b,v,o,t,b2,v2,o2,cl,h1,h2,h3,h4,h5,h6,h7,h8,h9⟩:=h.ext k1
 repeat refine jj ?_
 refine OD.call rfl rfl rfl (gramCopy (S:=S) ⟨p1,c1,p2,c2,p3,c3,p5,c5,rfl,h2,h3,h4,h5⟩ hm) ?_
 rintro r H2 ⟨k2,q1,d1,q2,d2,q3,d3,q5,d5,rfl,g1,g2,g3,g5⟩
 have a2:=a1.keep k2 (by simp)
 have hl2:=k2.1
 refine OD.st rfl rfl rfl a2 rfl rfl rfl (Nat.le_of_ble_eq_true rfl) rfl fun H3 a3 k3 n3=> ?_
 repeat refine jj ?_
 have hin: ∀i,i<H2.length→(H1.length≤i∧i<H2.length)→H3[i]? =H2[i]? :=fun i h1 h2=>k3.2 i h1 (by simp;omega)
 refine ⟨.inl rfl,rfl,_,resC rfl a3 rfl,(k1.trans k2 (by simp)).trans k3 (fun i hi hl=>by simp at hi;omega),q1,d1,q2,d2,q3,d3,q5,d5,rfl,(g1.keep hin).weak ?_,(g2.keep hin).weak ?_,(g3.keep hin).weak ?_,(g5.keep hin).weak ?_⟩<;>exact fun i hi hik=>⟨by omega,by omega⟩
theorem grammar {H:Hp} {sp:Nat} {S:Sys} (h:SysAt H sp S) (hm:S.Sm):FnX Tryz.prog 10 [.ptr (some ⟨sp,0,0⟩)] H fun r H'=>Keep [] H H'∧grAt (fun b=>H.length≤b∧b<H'.length) H' r S:=by
 refine FnX.enterRow ok10 (Nat.le_of_ble_eq_true rfl) ?_
 refine WD.seq ?_
 refine WD.reg ?_
 refine OD.al rfl fun H1 a1 k1 n1=> ?_
 repeat refine jj ?_
 refine OD.call rfl rfl rfl told ?_
 rintro r H1' ⟨rfl,rfl⟩
 repeat refine jj ?_
 refine OD.call rfl rfl rfl (grammar1 (h.ext k1) hm) ?_
 rintro r H2 ⟨k2,q1,d1,q2,d2,q3,d3,q5,d5,rfl,g1,g2,g3,g5⟩
 have a2:=a1.keep k2 (by simp)
 have hl2:=k2.1
 refine OD.st rfl rfl rfl a2 rfl rfl rfl (Nat.le_of_ble_eq_true rfl) rfl fun H3 a3 k3 n3=> ?_
 repeat refine jj ?_
 have hin: ∀i,i<H2.length→(H1'.length≤i∧i<H2.length)→H3[i]? =H2[i]? :=fun i h1 h2=>k3.2 i h1 (by simp;omega)
 refine ⟨.inl rfl,rfl,_,resC rfl a3 rfl,(k1.trans k2 (by simp)).trans k3 (fun i hi hl=>by simp at hi;omega),q1,d1,q2,d2,q3,d3,q5,d5,rfl,(g1.keep hin).weak ?_,(g2.keep hin).weak ?_,(g3.keep hin).weak ?_,(g5.keep hin).weak ?_⟩<;>exact fun i hi hik=>⟨by omega,by omega⟩
end Dr
end Go.Proofs.YtnjjieohlnhicaaGreatDoor
end
section
namespace Go.Proofs.YtnjjieohlnhicaaGreatDoor
set_option linter.unusedSimpArgs false
set_option linter.unusedVariables false
open Go Go.Wm Go.Proofs Go.RowKit
set_option maxRecDepth 100000
set_option maxHeartbeats 4000000
namespace Dr
def stAt (ok:Nat→Prop) (H:Hp) (v:VV) (S:Sys):Prop:= ∃p1 c1 p2 c2 p3 c3,v= .agg [.sl p1 S.acts.length c1,.sl p2 S.gotos.length c2,.sl p3 S.conf.length c3]∧SlR ok H p1 S.acts∧SlR ok H p2 S.gotos∧SlR ok H p3 S.conf
theorem settledT {H:Hp} {sp:Nat} {S:Sys} (h:SysAt H sp S) (hm:S.Sm):FnX Tryz.prog 16 [.ptr (some ⟨sp,0,9⟩)] H fun r H'=>Keep [] H H'∧stAt (fun b=>H.length≤b∧b<H'.length) H' r S:=by
 refine FnX.enterRow ok16 (Nat.le_of_ble_eq_true rfl) ?_
 refine WD.seq ?_
 refine WD.reg ?_
 refine OD.al rfl fun H1 a1 k1 n1=> ?_
 have hs:=h.ext k1
 obtain ⟨p1,c1,p2,c2,p3,c3,p5,c5,s1,s2,s3,s4,p6,c6,p7,c7,p8,c8,d,b,v,o,t,b2,v2,o2,cl,h1,h2,h3,h4,h5,h6,h7,h8,h9⟩:=hs
 repeat refine jj ?_
 obtain ⟨r1,K1,⟨kk1,q1,rfl,t1⟩,f1⟩:=copiesAA (c:=c6) h6 hm.acts hm.act
 obtain ⟨r2,K2,⟨kk2,q2,rfl,t2⟩,f2⟩:=copiesII (c:=c7) (h7.keep (H':=K1) fun i hi _=>kk1.2 i hi (by simp)) hm.gotos hm.got
 obtain ⟨X,hX⟩: ∃X,X=K2++[Blk.row 40 .own [[.sl none 0 0,.sl none 0 0]]]:=⟨_,rfl⟩
 have hXk:Keep [] K2 X:=by rw [hX];exact Keep.app _
 have hXl:X.length=K2.length+1:=by rw [hX];simp
 obtain ⟨us,g1,g2,g3,g4⟩:=(show Box X K2.length [.sl none 0 0,.sl none 0 0] by rw [hX];exact Box.last _ _ _).st (off:=0) (k:=2) (v:= .agg [.sl q1 S.acts.length S.acts.length,.sl q2 S.gotos.length S.gotos.length]) rfl rfl rfl (Nat.le_of_ble_eq_true rfl) rfl
 have hK: ∀j H',[H1,K1,K2,X,applyU X us][j]? =some H'→j≤3→Keep [] H1 H':=fun j H' hj hj2=>by
  match j,hj with
  |0,hj=>cases hj;exact Keep.refl _
  |1,hj=>cases hj;exact kk1
  |2,hj=>cases hj;exact kk1.trans kk2 (by simp)
  |3,hj=>cases hj;exact (kk1.trans kk2 (by simp)).trans hXk (by simp)
  |j+4,hj=>omega
 refine WD.dreg [H1,K1,K2,X,applyU X us] mixed rfl ?_
 repeat refine jk hK ?_
 refine VX.call2 rfl rfl rfl rfl f1 ?_
 repeat refine jk hK ?_
 refine VX.call2 rfl rfl rfl rfl f2 ?_
 repeat refine jk hK ?_
 refine VX.ef1 rfl rfl (by rw [applyU_push,hX]) rfl ?_
 refine VX.ef2 rfl (g1 _ _ _ _ rfl rfl) rfl ?_
 refine VX.fin rfl ?_
 have b9:Box (applyU X us) K2.length [.sl q1 S.acts.length S.acts.length,.sl q2 S.gotos.length S.gotos.length]:=g2
 have k39:Keep [] K2 (applyU X us):=hXk.trans g3 (fun i hi hl=>by simp at hi;omega)
 have n9:(applyU X us).length=K2.length+1:=by rw [g4,hXl]
 have k19:Keep [] H1 (applyU X us):=(kk1.trans kk2 (by simp)).trans k39 (by simp)
 clear hK g1 g2 g3 g4
 generalize applyU X us=H9 at*
 clear hX hXk hXl
 have h1':=h1.keep k19 (by simp)
 have a1':=a1.keep k19 (by simp)
 repeat refine jj ?_
 obtain ⟨r3,K3,⟨kk3,q3,rfl,t3⟩,f3⟩:=copiesCe (c:=c8) (h8.keep (H':=H9) fun i hi _=>k19.2 i hi (by simp)) hm.conf hm.cell
 refine OD.call rfl rfl rfl f3.fnx ?_
 rintro r H10 ⟨rfl,rfl⟩
 have b10:=b9.keep kk3 (by simp)
 have a10:=a1'.keep kk3 (by simp)
 repeat refine jj ?_
 refine OD.st rfl rfl rfl a10 rfl rfl rfl (Nat.le_of_ble_eq_true rfl) rfl fun H11 a11 k11 n11=> ?_
 repeat refine jj ?_
 have lk1:=kk1.1
 have lk2:=kk2.1
 have lk3:=kk3.1
 have hin: ∀i,i<H10.length→i≠H.length→H11[i]? =H10[i]? :=fun i h1 h2=>k11.2 i h1 (by simp [h2])
 refine ⟨.inl rfl,rfl,_,resC rfl a11 rfl,((k1.trans k19 (by simp)).trans kk3 (by simp)).trans k11 (fun i hi hl=>by simp at hi;omega),q1,_,q2,_,q3,_,rfl,?_,?_,?_⟩
 ·exact ((((t1.keep (H':=K2) fun i hi _=>kk2.2 i hi (by simp)).keep (H':=H9) fun i hi _=>k39.2 i hi (by simp)).keep (H':=H10) fun i hi _=>kk3.2 i hi (by simp)).keep fun i hi hik=>hin i hi (by omega)).weak fun i hi hik=>⟨by omega,by omega⟩
 ·exact (((t2.keep (H':=H9) fun i hi _=>k39.2 i hi (by simp)).keep (H':=H10) fun i hi _=>kk3.2 i hi (by simp)).keep fun i hi hik=>hin i hi (by omega)).weak fun i hi hik=>⟨by omega,by omega⟩
 ·exact (t3.keep fun i hi hik=>hin i hi (by omega)).weak fun i hi hik=>⟨by omega,by omega⟩
theorem settled {H:Hp} {sp:Nat} {S:Sys} (h:SysAt H sp S) (hm:S.Sm):FnX Tryz.prog 7 [.ptr (some ⟨sp,0,0⟩)] H fun r H'=>Keep [] H H'∧stAt (fun b=>H.length≤b∧b<H'.length) H' r S:=by
 refine FnX.enterRow ok7 (Nat.le_of_ble_eq_true rfl) ?_
 refine WD.seq ?_
 refine WD.reg ?_
 refine OD.al rfl fun H1 a1 k1 n1=> ?_
 repeat refine jj ?_
 refine OD.call rfl rfl rfl told ?_
 rintro r H1' ⟨rfl,rfl⟩
 repeat refine jj ?_
 refine OD.call rfl rfl rfl (settledT (h.ext k1) hm) ?_
 rintro r H2 ⟨k2,q1,d1,q2,d2,q3,d3,rfl,g1,g2,g3⟩
 have a2:=a1.keep k2 (by simp)
 have hl2:=k2.1
 refine OD.st rfl rfl rfl a2 rfl rfl rfl (Nat.le_of_ble_eq_true rfl) rfl fun H3 a3 k3 n3=> ?_
 repeat refine jj ?_
 have hin: ∀i,i<H2.length→(H1'.length≤i∧i<H2.length)→H3[i]? =H2[i]? :=fun i h1 h2=>k3.2 i h1 (by simp;omega)
 refine ⟨.inl rfl,rfl,_,resC rfl a3 rfl,(k1.trans k2 (by simp)).trans k3 (fun i hi hl=>by simp at hi;omega),q1,d1,q2,d2,q3,d3,rfl,(g1.keep hin).weak ?_,(g2.keep hin).weak ?_,(g3.keep hin).weak ?_⟩<;>exact fun i hi hik=>⟨by omega,by omega⟩
theorem packedT {H:Hp} {sp:Nat} {S:Sys} (h:SysAt H sp S) (hm:S.Sm):FnX Tryz.prog 287 [.ptr (some ⟨sp,0,9⟩)] H fun r H'=>Keep [] H H'∧ ∃cs,r= .agg cs∧PkAt (fun b=>H.length≤b∧b<H'.length) H' cs S.p:=by
 refine FnX.enterRow ok287 (Nat.le_of_ble_eq_true rfl) ?_
 refine WD.seq ?_
 refine WD.reg ?_
 refine OD.al rfl fun H1 a1 k1 n1=> ?_
 have hs:=h.ext k1
 obtain ⟨p1,c1,p2,c2,p3,c3,p5,c5,s1,s2,s3,s4,p6,c6,p7,c7,p8,c8,d,b,v,o,t,b2,v2,o2,cl,h1,h2,h3,h4,h5,h6,h7,h8,h9⟩:=hs
 obtain ⟨_,_,_,_,_,_,_,_,e,i1,i2,i3,i4⟩:=h9
 cases e
 obtain ⟨m1,m2,m3,m4,m5,m6,m7,m8⟩:=hm.pl
 repeat refine jj ?_
 obtain ⟨r1,K1,⟨kk1,t1⟩,f1⟩:=sameIl i1 m1
 obtain ⟨r2,K2,⟨kk2,ds2,rfl,t2⟩,f2⟩:=rowsIl (i2.keep (H':=K1) fun i hi _=>kk1.2 i hi (by simp)) m2 m3 m4
 have e2:=kk1.trans kk2 (by simp)
 obtain ⟨r3,K3,⟨kk3,t3⟩,f3⟩:=sameIl (i3.keep (H':=K2) fun i hi _=>e2.2 i hi (by simp)) m5
 have e3:=e2.trans kk3 (by simp)
 obtain ⟨r4,K4,⟨kk4,ds4,rfl,t4⟩,f4⟩:=rowsIl (i4.keep (H':=K3) fun i hi _=>e3.2 i hi (by simp)) m6 m7 m8
 have e4:=e3.trans kk4 (by simp)
 obtain ⟨x1,y1,rfl,_⟩:=id t1
 obtain ⟨b',v',o',rfl,u1,u2,u3⟩:=id t2
 obtain ⟨x3,y3,rfl,_⟩:=id t3
 obtain ⟨b'',v'',o'',rfl,w1,w2,w3⟩:=id t4
 obtain ⟨x21,y21,rfl,_⟩:=u1
 obtain ⟨x22,y22,rfl,_⟩:=u2
 obtain ⟨x23,y23,rfl,_⟩:=u3
 obtain ⟨x41,y41,rfl,_⟩:=w1
 obtain ⟨x42,y42,rfl,_⟩:=w2
 obtain ⟨x43,y43,rfl,_⟩:=w3
 have a5:=a1.keep e4 (by simp)
 obtain ⟨us,g1,g2,g3,g4⟩:=a5.st (off:=0) (k:=8) (v:= .agg [.sl x1 S.p.1.length y1,.sl x21 S.p.2.1.1.length y21,.sl x22 S.p.2.1.2.1.length y22,.sl x23 S.p.2.1.2.2.length y23,.sl x3 S.p.2.2.1.length y3,.sl x41 S.p.2.2.2.1.length y41,.sl x42 S.p.2.2.2.2.1.length y42,.sl x43 S.p.2.2.2.2.2.length y43]) rfl rfl rfl (Nat.le_of_ble_eq_true rfl) rfl
 have hK: ∀j H',[H1,K1,K2,K3,K4,applyU K4 us][j]? =some H'→j≤4→Keep [] H1 H':=fun j H' hj hj2=>by
  match j,hj with
  |0,hj=>cases hj;exact Keep.refl _
  |1,hj=>cases hj;exact kk1
  |2,hj=>cases hj;exact e2
  |3,hj=>cases hj;exact e3
  |4,hj=>cases hj;exact e4
  |j+5,hj=>omega
 refine WD.dreg [H1,K1,K2,K3,K4,applyU K4 us] mixed rfl ?_
 repeat refine jk hK ?_
 refine VX.call2 rfl rfl rfl rfl f1 ?_
 repeat refine jk hK ?_
 refine VX.call2 rfl rfl rfl rfl f2 ?_
 repeat refine jk hK ?_
 refine VX.call2 rfl rfl rfl rfl f3 ?_
 repeat refine jk hK ?_
 refine VX.call2 rfl rfl rfl rfl f4 ?_
 repeat refine jk hK ?_
 refine VX.ef2 rfl (g1 _ _ _ _ rfl rfl) rfl ?_
 refine VX.fin rfl ?_
 repeat refine jj ?_
 have lk1:=kk1.1
 have lk2:=kk2.1
 have lk3:=kk3.1
 have lk4:=kk4.1
 have hin: ∀i,i<K4.length→i≠H.length→(applyU K4 us)[i]? =K4[i]? :=fun i h1 h2=>g3.2 i h1 (by simp [h2])
 refine ⟨.inl rfl,rfl,_,resC rfl g2 rfl,(k1.trans e4 (by simp)).trans g3 (fun i hi hl=>by simp at hi;omega),_,rfl,_,_,_,_,_,_,_,_,rfl,?_,?_,?_,?_⟩
 ·exact ((((t1.keep (H':=K2) fun i hi _=>kk2.2 i hi (by simp)).keep (H':=K3) fun i hi _=>kk3.2 i hi (by simp)).keep (H':=K4) fun i hi _=>kk4.2 i hi (by simp)).keep fun i hi hik=>hin i hi (by omega)).weak fun i hi hik=>⟨by omega,by omega⟩
 ·exact (((t2.keep (H':=K3) fun i hi _=>kk3.2 i hi (by simp)).keep (H':=K4) fun i hi _=>kk4.2 i hi (by simp)).keep fun i hi hik=>hin i hi (by omega)).weak fun i hi hik=>⟨by omega,by omega⟩
 ·exact ((t3.keep (H':=K4) fun i hi _=>kk4.2 i hi (by simp)).keep fun i hi hik=>hin i hi (by omega)).weak fun i hi hik=>⟨by omega,by omega⟩
 ·exact (t4.keep fun i hi hik=>hin i hi (by omega)).weak fun i hi hik=>⟨by omega,by omega⟩
theorem packed {H:Hp} {sp:Nat} {S:Sys} (h:SysAt H sp S) (hm:S.Sm):FnX Tryz.prog 229 [.ptr (some ⟨sp,0,0⟩)] H fun r H'=>Keep [] H H'∧ ∃cs,r= .agg cs∧PkAt (fun b=>H.length≤b∧b<H'.length) H' cs S.p:=by
 refine FnX.enterRow ok229 (Nat.le_of_ble_eq_true rfl) ?_
 refine WD.seq ?_
 refine WD.reg ?_
 refine OD.al rfl fun H1 a1 k1 n1=> ?_
 repeat refine jj ?_
 refine OD.call rfl rfl rfl told ?_
 rintro r H1' ⟨rfl,rfl⟩
 repeat refine jj ?_
 refine OD.call rfl rfl rfl (packedT (h.ext k1) hm) ?_
 rintro r H2 ⟨k2,cs,rfl,g⟩
 obtain ⟨d,b,v,o,t,b2,v2,o2,rfl,⟨x1,y1,rfl,_⟩,⟨_,_,_,e2,⟨x2,y2,rfl,_⟩,⟨x3,y3,rfl,_⟩,⟨x4,y4,rfl,_⟩⟩,⟨x5,y5,rfl,_⟩,⟨_,_,_,e3,⟨x6,y6,rfl,_⟩,⟨x7,y7,rfl,_⟩,⟨x8,y8,rfl,_⟩⟩⟩:=id g
 cases e2
 cases e3
 have a2:=a1.keep k2 (by simp)
 have hl2:=k2.1
 refine OD.st rfl rfl rfl a2 rfl rfl rfl (Nat.le_of_ble_eq_true rfl) rfl fun H3 a3 k3 n3=> ?_
 repeat refine jj ?_
 refine ⟨.inl rfl,rfl,_,resC rfl a3 rfl,(k1.trans k2 (by simp)).trans k3 (fun i hi hl=>by simp at hi;omega),_,rfl,(g.keep fun i h1 h2=>k3.2 i h1 (by simp;omega)).weak fun i hi hik=>⟨by omega,by omega⟩⟩
def Sys.tab (S:Sys):Tab:=⟨S.terms.length,S.prods,(S.acts,S.gotos),S.p⟩
theorem trialOf {H:Hp} {sp:Nat} {S:Sys} (h:SysAt H sp S) (hm:S.Sm) (hp:S.prods≠[]):FnX Tryz.prog 166 [.ptr (some ⟨sp,0,0⟩)] H fun r H'=> ∃tb,r= .ptr (some ⟨tb,0,0⟩)∧Keep [] H H'∧TabAt H' tb S.tab:=by
 refine FnX.enterRow ok166 (Nat.le_of_ble_eq_true rfl) ?_
 have hp0:0<S.prods.length:=List.length_pos_iff.2 hp
 repeat refine jj ?_
 refine OD.call rfl rfl rfl (grammar h hm) ?_
 rintro r H1 ⟨k1,q1,d1,q2,d2,q3,d3,q5,d5,rfl,g1,g2,g3,g5⟩
 refine OD.al rfl fun H2 a2 k2 n2=> ?_
 refine OD.st rfl rfl rfl a2 rfl rfl rfl (Nat.le_of_ble_eq_true rfl) rfl fun H3 a3 k3 n3=> ?_
 have k13:Keep [] H1 H3:=k2.trans k3 (fun i hi hl=>by simp at hi;omega)
 have k03:=k1.trans k13 (by simp)
 repeat refine jj ?_
 obtain ⟨r1,K1,⟨kk1,x1,y1,x2,y2,x3,y3,rfl,t1,t2,t3⟩,f1⟩:=settled (h.ext k03) hm
 obtain ⟨r2,K2,⟨kk2,cs,rfl,t4⟩,f2⟩:=packed ((h.ext k03).ext kk1) hm
 obtain ⟨d,b,v,o,t,b2,v2,o2,rfl,⟨u1,w1,rfl,_⟩,⟨_,_,_,e2,⟨u2,w2,rfl,_⟩,⟨u3,w3,rfl,_⟩,⟨u4,w4,rfl,_⟩⟩,⟨u5,w5,rfl,_⟩,⟨_,_,_,e3,⟨u6,w6,rfl,_⟩,⟨u7,w7,rfl,_⟩,⟨u8,w8,rfl,_⟩⟩⟩:=id t4
 cases e2
 cases e3
 obtain ⟨X,hX⟩: ∃X,X=K2++[Blk.row 384 .own [[.sl q1 S.terms.length d1,.sl q2 S.nons.length d2,.sl q3 S.levels.length d3,.int .i64 S.start,.sl q5 S.prods.length d5,.ifc 377 (.agg [.sl x1 S.acts.length y1,.sl x2 S.gotos.length y2]),.ifc 380 (.agg [.sl u1 S.p.1.length w1,.sl u2 S.p.2.1.1.length w2,.sl u3 S.p.2.1.2.1.length w3,.sl u4 S.p.2.1.2.2.length w4,.sl u5 S.p.2.2.1.length w5,.sl u6 S.p.2.2.2.1.length w6,.sl u7 S.p.2.2.2.2.1.length w7,.sl u8 S.p.2.2.2.2.2.length w8])]]]:=⟨_,rfl⟩
 have hXk:Keep [] K2 X:=by rw [hX];exact Keep.app _
 have hK: ∀j H',[H3,K1,K2,X][j]? =some H'→j≤2→Keep [] H3 H':=fun j H' hj hj2=>by
  match j,hj with
  |0,hj=>cases hj;exact Keep.refl _
  |1,hj=>cases hj;exact kk1
  |2,hj=>cases hj;exact kk1.trans kk2 (by simp)
  |j+3,hj=>omega
 refine WD.dreg [H3,K1,K2,X] mixed rfl ?_
 repeat refine jk hK ?_
 refine VX.call2 rfl rfl rfl rfl f1 ?_
 repeat refine jk hK ?_
 refine VX.call2 rfl rfl rfl rfl f2 ?_
 repeat refine jk hK ?_
 refine VX.ef1 rfl (ev_boxN rfl rfl rfl rfl) (by rw [applyU_push,hX];rfl) rfl ?_
 refine VX.rdp rfl (fun _=>rfl) ?_
 refine VX.fin rfl ?_
 repeat refine jj ?_
 have hk2X:Keep [] K1 X:=kk2.trans hXk (by simp)
 have hl1:=k1.1
 have hk1X:Keep [] H3 X:=kk1.trans hk2X (by simp)
 have hkHX:Keep [] H1 X:=k13.trans hk1X (by simp)
 have g5':=(g5.keep (H':=X) fun i hi _=>hkHX.2 i hi (by simp)).weak (ok':=fun _=>True) fun _ _ _=>trivial
 refine ⟨.inl rfl,rfl,_,rfl,K2.length,rfl,k03.trans hk1X (by simp),_,_,_,_,_,_,_,by rw [hX];exact Box.last _ _ _,⟨⟨q1,d1,rfl⟩,q5,d5,rfl,g5'⟩,?_,?_,hm.terms,hm.prods,rfl,rfl,rfl⟩
 ·exact (⟨_,rfl,x1,y1,x2,y2,rfl,(t1.keep (H':=X) fun i hi _=>hk2X.2 i hi (by simp)).weak fun _ _ _=>trivial,(t2.keep (H':=X) fun i hi _=>hk2X.2 i hi (by simp)).weak fun _ _ _=>trivial⟩: ∃cs,_=VV.ifc 377 (.agg cs)∧DtAt X cs (S.acts,S.gotos))
 ·exact (⟨_,rfl,(t4.keep (H':=X) fun i hi _=>hXk.2 i hi (by simp)).pt hm⟩: ∃cs,_=VV.ifc 380 (.agg cs)∧PtAt X cs S.p)
end Dr
end Go.Proofs.YtnjjieohlnhicaaGreatDoor
end
section
namespace Go.Proofs.YtnjjieohlnhicaaGreatDoor
set_option linter.unusedSimpArgs false
set_option linter.unusedVariables false
open Go Go.Wm Go.Proofs Go.RowKit
set_option maxHeartbeats 4000000
namespace Dr
abbrev Nd:=Int×Int×Int×List Int
section
def goA (act:Int→Int→Option (Int×Int)) (tgt:Int→Int→Option Int) (prods:List (Int×(List Int×Int))) (nT:Int) (first term:Int):Nat→List Int→List (Int×Int)→Option (Bool×Int×List Int×List (Int×Int))
 |0,_,_=>none
 |f+1,st,mv=>
  match act (topOf first st) term with
  |none=>none
  |some a=>
   if a.1=1 then (if 64≤st.length then some (false,15,st,mv) else some (true,0,st,mv++[a]))
   else if a.1=3 then some (true,0,st,mv++[a])
   else if a.1=2 then
    (if 1024≤mv.length then some (false,15,st,mv)
     else match idx prods a.2 with
      |none=>none
      |some pr=>
       if st.length<pr.2.1.length then none
       else match tgt (topOf first (st.take (st.length-pr.2.1.length))) (pr.1-nT) with
        |none=>none
        |some q=>if 64≤st.length-pr.2.1.length then some (false,15,st.take (st.length-pr.2.1.length),mv++[a])
         else goA act tgt prods nT first term f (st.take (st.length-pr.2.1.length)++[q]) (mv++[a]))
   else some (false,0,st,mv)
structure Rn where
 st:List Int
 ns:List Int
 nodes:List Nd
 taken:List Bool
 moves:List ((Int×Int)×Int)
 count:Nat
 over:Bool
def freeF (n:Nat):List Bool→List Int→Option (List Bool)
 |tk,[]=>some tk
 |tk,k::ks=>if 0≤k∧k<n∧tk[k.toNat]? =some false then freeF n (tk.set k.toNat true) ks else none
def doesF (prods:List (Int×(List Int×Int))) (nT:Int) (tgt:Int→Int→Option Int) (term:Int) (S:Rn) (a:Int×Int):Option Rn:=
 let mv:=S.moves++[(a,(S.count:Int))]
 if a.1=1 then
  (if term<0∨64≤S.st.length then none
   else some {S with moves:=mv,nodes:=S.nodes++[(term,-1,(S.count:Int),[])],taken:=S.taken++[false],st:=S.st++[a.2],ns:=S.ns++[(S.nodes.length:Int)]})
 else if a.1=2 then
  match idx prods a.2 with
  |none=>none
  |some pr=>
   if S.st.length<pr.2.1.length∨pr.1<0∨64≤S.st.length-pr.2.1.length then none else
   match freeF S.nodes.length S.taken (S.ns.drop (S.ns.length-pr.2.1.length)) with
   |none=>none
   |some tk=>
    match tgt (topOf 0 (S.st.take (S.st.length-pr.2.1.length))) (pr.1-nT) with
    |none=>none
    |some q=>some {S with moves:=mv,nodes:=S.nodes++[(pr.1,a.2,0,S.ns.drop (S.ns.length-pr.2.1.length))],taken:=tk++[false],
                          st:=S.st.take (S.st.length-pr.2.1.length)++[q],ns:=S.ns.take (S.ns.length-pr.2.1.length)++[(S.nodes.length:Int)]}
 else if a.1=3 then some {S with moves:=mv,over:=true}
 else some {S with moves:=mv}
end
def Ok (S:Rn):Prop:=S.ns.Nodup∧S.taken.length=S.nodes.length∧S.st.length=S.ns.length∧ ∀k∈S.ns,0≤k∧k<S.nodes.length∧S.taken[k.toNat]? =some false
theorem freeF_ok {n:Nat}: ∀{ks:List Int} {tk:List Bool},ks.Nodup→(∀k∈ks,0≤k∧k<n∧tk[k.toNat]? =some false)→ ∃tk',freeF n tk ks=some tk'∧tk'.length=tk.length∧ ∀j,0≤j→j∉ks→tk'[j.toNat]? =tk[j.toNat]?
 |[],tk,_,_=>⟨tk,rfl,rfl,fun _ _ _=>rfl⟩
 |k::ks,tk,hn,h=>by
  have h0:=h k (by simp)
  obtain ⟨hk,hn2⟩:=List.nodup_cons.1 hn
  obtain ⟨tk',e1,e2,e3⟩:=freeF_ok (ks:=ks) (tk:=tk.set k.toNat true) hn2 fun j hj=>by
   have:=h j (by simp [hj])
   refine ⟨this.1,this.2.1,?_⟩
   rw [List.getElem?_set_ne (by have:j≠k:=fun e=>hk (e ▸hj);omega)]
   exact this.2.2
  refine ⟨tk',by unfold freeF;rw [if_pos h0];exact e1,by rw [e2,List.length_set],fun j hj hj2=> ?_⟩
  simp at hj2
  rw [e3 j hj hj2.2,List.getElem?_set_ne (by omega)]
variable {prods:List (Int×(List Int×Int))} {nT:Int} {tgt:Int→Int→Option Int}
theorem Ok.shift {S:Rn} {q:Int} (h:Ok S) {mv:List ((Int×Int)×Int)} {nd:Nd}:Ok {S with moves:=mv,nodes:=S.nodes++[nd],taken:=S.taken++[false],st:=S.st++[q],ns:=S.ns++[(S.nodes.length:Int)]}:=by
 obtain ⟨h1,h2,h3,h4⟩:=h
 refine ⟨?_,by simp [h2],by simp [h3],?_⟩
 ·refine List.nodup_append.2 ⟨h1,by simp,?_⟩
  intro a ha b hb
  simp at hb
  have:=h4 a ha
  omega
 ·intro k hk
  simp at hk
  rcases hk with hk|rfl
  ·obtain ⟨q1,q2,q3⟩:=h4 k hk
   refine ⟨q1,by simp;omega,?_⟩
   simp only
   rw [List.getElem?_append_left (by omega)];exact q3
  ·refine ⟨by simp,by simp;omega,?_⟩
   simp [←h2]
theorem does_reduce {S:Rn} {term:Int} {a:Int×Int} {pr:Int×(List Int×Int)} {q:Int} (h:Ok S) (ha:a.1=2) (hp:idx prods a.2=some pr) (hl:pr.2.1.length≤S.st.length) (h0:0≤pr.1) (h64:S.st.length-pr.2.1.length<64) (hq:tgt (topOf 0 (S.st.take (S.st.length-pr.2.1.length))) (pr.1-nT)=some q):
 ∃tk,doesF prods nT tgt term S a=some {S with moves:=S.moves++[(a,(S.count:Int))],nodes:=S.nodes++[(pr.1,a.2,0,S.ns.drop (S.ns.length-pr.2.1.length))],taken:=tk,st:=S.st.take (S.st.length-pr.2.1.length)++[q],ns:=S.ns.take (S.ns.length-pr.2.1.length)++[(S.nodes.length:Int)]}∧
  Ok {S with moves:=S.moves++[(a,(S.count:Int))],nodes:=S.nodes++[(pr.1,a.2,0,S.ns.drop (S.ns.length-pr.2.1.length))],taken:=tk,st:=S.st.take (S.st.length-pr.2.1.length)++[q],ns:=S.ns.take (S.ns.length-pr.2.1.length)++[(S.nodes.length:Int)]}:=by
 obtain ⟨h1,h2,h3,h4⟩:=h
 have hsplit:=List.take_append_drop (S.ns.length-pr.2.1.length) S.ns
 rw [←hsplit] at h1
 obtain ⟨n1,n2,n3⟩:=List.nodup_append.1 h1
 obtain ⟨tk,e1,e2,e3⟩:=freeF_ok (n:=S.nodes.length) (ks:=S.ns.drop (S.ns.length-pr.2.1.length)) (tk:=S.taken) n2 fun k hk=>h4 k (List.mem_of_mem_drop hk)
 refine ⟨tk++[false],?_,?_,by simp [e2,h2],by simp [h3],?_⟩
 ·unfold doesF
  simp only [ha,hp,show ¬(2:Int)=1 by omega,if_false,if_true]
  rw [if_neg (by omega),e1]
  simp only
  rw [hq]
 ·refine List.nodup_append.2 ⟨n1,by simp,?_⟩
  intro a ha b hb
  simp at hb
  have:=h4 a (List.mem_of_mem_take ha)
  omega
 ·intro k hk
  simp at hk
  rcases hk with hk|rfl
  ·obtain ⟨q1,q2,q3⟩:=h4 k (List.mem_of_mem_take hk)
   refine ⟨q1,by simp;omega,?_⟩
   simp only
   rw [List.getElem?_append_left (by omega),e3 k q1 fun hc=>n3 k hk k hc rfl]
   exact q3
  ·refine ⟨by simp,by simp;omega,?_⟩
   simp [←h2,←e2]
abbrev Str:=List UInt8
def grp (nm:Int→Option Str) (nodes:List Nd):Nat→Int→Option Str
 |0,_=>none
 |f+1,k=>
  match idx nodes k with
  |none=>none
  |some x=>
   if x.2.1<0 then nm x.1
   else if x.2.2.2.all (fun j=>decide (j<k)) then
    (match x.2.2.2.mapM (grp nm nodes f) with
     |none=>none
     |some ss=>some (if 1<x.2.2.2.length then [40]++ss.flatten++[41] else ss.flatten))
   else none
theorem mapM_mono {f g:Int→Option Str} (h: ∀k s,f k=some s→g k=some s): ∀{l:List Int} {ss:List Str},l.mapM f=some ss→l.mapM g=some ss
 |[],ss,e=>by simpa using e
 |k::l,ss,e=>by
  rw [List.mapM_cons] at e ⊢
  obtain ⟨s,e1,e2⟩:=Option.bind_eq_some_iff.1 e
  obtain ⟨ss2,e3,e4⟩:=Option.bind_eq_some_iff.1 e2
  rw [h k s e1]
  simp only [Option.bind_eq_bind,Option.bind_some]
  rw [mapM_mono h e3]
  exact e4
theorem idx_app {α:Type} {l m:List α} {k:Int} {x:α} (h:idx l k=some x):idx (l++m) k=some x:=by
 unfold idx at h ⊢
 split at h
 ·cases h
 ·rename_i hn
  rw [if_neg hn,List.getElem?_append_left (List.getElem?_eq_some_iff.1 h).1];exact h
theorem idx_last {α:Type} (l:List α) (x:α):idx (l++[x]) (l.length:Int)=some x:=by
 unfold idx
 rw [if_neg (by omega)];simp
theorem grp_mono {nm:Int→Option Str} {nodes ext:List Nd}: ∀{f g:Nat} {k:Int} {s:Str},f≤g→grp nm nodes f k=some s→grp nm (nodes++ext) g k=some s
 |0,_,k,s,_,h=>by cases h
 |f+1,0,k,s,hg,_=>by omega
 |f+1,g+1,k,s,hg,h=>by
  unfold grp at h ⊢
  cases hx:idx nodes k with
  |none=>rw [hx] at h;cases h
  |some x=>
   rw [hx] at h
   rw [idx_app hx]
   simp only at h ⊢
   split
   ·rename_i hc;rw [if_pos hc] at h;exact h
   ·rename_i hc
    rw [if_neg hc] at h
    split at h
    ·rename_i ha
     rw [if_pos ha]
     cases hm:x.2.2.2.mapM (grp nm nodes f) with
     |none=>rw [hm] at h;cases h
     |some ss=>
      rw [hm] at h
      rw [mapM_mono (fun k s e=>grp_mono (by omega:f≤g) e) hm]
      exact h
    ·cases h
def G (nm:Int→Option Str) (nodes:List Nd) (k:Int) (s:Str):Prop:= ∃f,grp nm nodes f k=some s
theorem G.mono {nm:Int→Option Str} {nodes ext:List Nd} {k:Int} {s:Str} (h:G nm nodes k s):G nm (nodes++ext) k s:=by
 obtain ⟨f,h⟩:=h
 exact ⟨f,grp_mono (Nat.le_refl f) h⟩
theorem G.lt {nm:Int→Option Str} {nodes:List Nd} {k:Int} {s:Str} (h:G nm nodes k s):k<nodes.length:=by
 obtain ⟨f,h⟩:=h
 cases f with
 |zero=>cases h
 |succ f=>
  unfold grp at h
  cases hx:idx nodes k with
  |none=>rw [hx] at h;cases h
  |some x=>
   unfold idx at hx
   split at hx
   ·cases hx
   ·have:=(List.getElem?_eq_some_iff.1 hx).1
    omega
theorem G.leaf {nm:Int→Option Str} {nodes:List Nd} {sym tok:Int} {s:Str} (h:nm sym=some s):G nm (nodes++[(sym,-1,tok,[])]) nodes.length s:=by
 refine ⟨1,?_⟩
 unfold grp
 rw [idx_last]
 simp only
 rw [if_pos (by omega)]
 exact h
theorem grp_all {nm:Int→Option Str} {nodes:List Nd}: ∀{ks:List Int} {ss:List Str},ks.length=ss.length→(∀(i:Nat) k s,ks[i]? =some k→ss[i]? =some s→G nm nodes k s)→ ∃f,ks.mapM (grp nm nodes f)=some ss
 |[],[],_,_=>⟨0,rfl⟩
 |k::ks,s::ss,hl,h=>by
  obtain ⟨f1,h1⟩:=h 0 k s rfl rfl
  obtain ⟨f2,h2⟩:=grp_all (ks:=ks) (ss:=ss) (by simpa using hl) fun i k s a b=>h (i+1) k s a b
  refine ⟨max f1 f2,?_⟩
  rw [List.mapM_cons]
  have e1:=grp_mono (ext:=[]) (Nat.le_max_left f1 f2) h1
  have e2:=mapM_mono (fun k s e=>grp_mono (ext:=[]) (Nat.le_max_right f1 f2) e) h2
  rw [List.append_nil] at e1 e2
  rw [e1,e2];rfl
 |[],_::_,hl,_=>by simp at hl
 |_::_,[],hl,_=>by simp at hl
theorem G.join {nm:Int→Option Str} {nodes:List Nd} {left prod:Int} {ks:List Int} {ss:List Str} (hp:0≤prod) (hl:ks.length=ss.length) (h: ∀(i:Nat) k s,ks[i]? =some k→ss[i]? =some s→G nm nodes k s):
 G nm (nodes++[(left,prod,0,ks)]) nodes.length (if 1<ks.length then [40]++ss.flatten++[41] else ss.flatten):=by
 obtain ⟨f,hf⟩:=grp_all hl h
 refine ⟨f+1,?_⟩
 unfold grp
 rw [idx_last]
 simp only
 rw [if_neg (by omega),if_pos,mapM_mono (fun k s e=>grp_mono (ext:=_) (Nat.le_refl f) e) hf]
 rw [List.all_eq_true]
 intro k hk
 obtain ⟨i,hi⟩:=List.getElem?_of_mem hk
 have hi2:=(List.getElem?_eq_some_iff.1 hi).1
 have:=(h i k ss[i] hi (List.getElem?_eq_getElem (by omega))).lt
 simpa using this
def takeF (act:Int→Int→Option (Int×Int)) (tg dt:Int→Int→Option Int) (prods:List (Int×(List Int×Int))) (nT:Int) (fuel:Nat) (S:Rn) (t:Int):Option (Bool×Int×Rn):=
 match goA act tg prods nT 0 t fuel S.st [] with
 |none=>none
 |some (ok,code,_,mv)=>
  if code≠0 then some (false,code,S)
  else if ok=false then some (false,0,S)
  else match mv.foldlM (doesF prods nT dt t) S with
   |none=>none
   |some S2=>some (true,0,if 0<t then {S2 with count:=S2.count+1} else S2)
inductive Run where
 |err (e:Int)
 |refused (i:Nat) (S:Rn)
 |done (S:Rn)
def allF (take:Rn→Int→Option (Bool×Int×Rn)):Nat→Rn→List Int→Option Run
 |_,S,[]=>some (.done S)
 |i,S,t::l=>
  match take S t with
  |none=>none
  |some (fits,e,S2)=>if e≠0 then some (.err e) else if fits then allF take (i+1) S2 l else some (.refused i S2)
def Rn.new:Rn:=⟨[],[],[],[],[],0,false⟩
end Dr
end Go.Proofs.YtnjjieohlnhicaaGreatDoor
end
