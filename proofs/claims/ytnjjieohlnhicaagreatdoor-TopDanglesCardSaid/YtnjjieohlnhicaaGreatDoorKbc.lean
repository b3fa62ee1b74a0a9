/- Texts as one: DrM DrN DrO DrQ DlW DlV DlP DlF. -/
import Derived.Test.YtnjjieohlnhicaaGreatDoorKbb
import Derived.Test.YtnjjieohlnhicaaGreatDoorKba
import Derived.Test.YtnjjieohlnhicaaGreatDoorKak
section
namespace Go.Proofs.YtnjjieohlnhicaaGreatDoor
set_option linter.unusedSimpArgs false
set_option linter.unusedVariables false
open Go Go.Wm Go.Proofs Go.RowKit
set_option maxRecDepth 100000
set_option maxHeartbeats 4000000
namespace Dr
theorem goesF_goA {T:Tab} {pk:Bool} {first term:Int} {f:Nat} {st:List Int} {mv:List (Int×Int)}:goesF T pk first term f st mv=goA (tAct T pk) (tTgt T pk) T.prods T.nT first term f st mv:=by
 induction f generalizing st mv with
 |zero=>rfl
 |succ f ih=>
  unfold goesF goA
  simp only [ih]<;>rfl
theorem goA_len {act:Int→Int→Option (Int×Int)} {tg:Int→Int→Option Int} {prods:List (Int×(List Int×Int))} {nT first term:Int}: ∀{f:Nat} {st st':List Int} {mv mv':List (Int×Int)} {ok:Bool} {c:Int},goA act tg prods nT first term f st mv=some (ok,c,st',mv')→mv.length≤1024→mv'.length≤1025
 |0,_,_,_,_,_,_,h,_=>by cases h
 |f+1,st,st',mv,mv',ok,c,h,hl=>by
  unfold goA at h
  split at h
  ·cases h
  ·split at h
   ·split at h
    ·cases h;omega
    ·cases h;simp;omega
   ·split at h
    ·cases h;simp;omega
    ·split at h
     ·split at h
      ·cases h;omega
      ·split at h
       ·cases h
       ·split at h
        ·cases h
        ·split at h
         ·cases h
         ·split at h
          ·cases h;simp;omega
          ·exact goA_len h (by simp;omega)
     ·cases h;omega
def Rn.Wf (S:Rn):Prop:=S.taken.length=S.nodes.length∧S.st.length=S.ns.length∧S.st.length≤64
theorem doesF_wf {prods:List (Int×(List Int×Int))} {nT term:Int} {dt:Int→Int→Option Int} {S S':Rn} {a:Int×Int} (h:doesF prods nT dt term S a=some S') (hw:S.Wf):S'.Wf∧S'.nodes.length≤S.nodes.length+1∧S'.moves.length=S.moves.length+1∧S'.count=S.count:=by
 obtain ⟨h1,h2,h3⟩:=hw
 unfold doesF at h
 simp only at h
 split at h
 ·split at h
  ·cases h
  ·cases h
   refine ⟨⟨by simp [h1],by simp [h2],by simp;omega⟩,by simp,by simp,rfl⟩
 ·split at h
  ·split at h
   ·cases h
   ·split at h
    ·cases h
    ·split at h
     ·cases h
     ·rename_i tk htk
      split at h
      ·cases h
      ·cases h
       have:=(freeF_all htk).2
       refine ⟨⟨by simp [this,h1],by simp [h2],by simp;omega⟩,by simp,by simp,rfl⟩
  ·split at h
   ·cases h
    exact ⟨⟨h1,h2,h3⟩,by simp,by simp,rfl⟩
   ·cases h
    exact ⟨⟨h1,h2,h3⟩,by simp,by simp,rfl⟩
theorem take {H0 H:Hp} {rb tb:Nat} {T:Tab} {pk:Bool} {W:List Nat} {S S':Rn} {fits:Bool} {code term:Int} {fuel:Nat} (h:RunAt H0 H rb tb T pk W S) (hg:takeF (tAct T pk) (tTgt T pk) (dtF T) T.prods T.nT fuel S term=some (fits,code,S')) (hpr: ∀pr∈T.prods,-1000000000≤pr.1∧pr.1≤4000000000∧pr.2.1.length≤1000000000)
 (hw:S.Wf) (hl3:S.nodes.length≤800000000) (hl4:S.moves.length≤800000000) (hl5:S.count≤800000000):
 FnX Tryz.prog 89 [.ptr (some ⟨rb,0,0⟩),.int .i64 term] H fun r H'=>r= .tup [.bool fits,.int .i64 code]∧Keep W H H'∧ ∃W',RunAt H0 H' rb tb T pk W' S'∧ ∀b∈W',b∈W∨H.length≤b:=by
 refine FnX.enterRow ok89 (Nat.le_of_ble_eq_true rfl) ?_
 have hWl:=h.lt
 have hR:=h
 obtain ⟨sb,ab,F,A,bsV,vm,rfl,g1,g2,g3,g4,h5,h6,h7,h8,h9,h10,h11,h12⟩:=h
 unfold takeF at hg
 cases hgo:goA (tAct T pk) (tTgt T pk) T.prods T.nT 0 term fuel S.st [] with
 |none=>rw [hgo] at hg;cases hg
 |some x=>
 obtain ⟨ok,cd,st',mv⟩:=x
 rw [hgo] at hg
 simp only at hg
 have hml:=goA_len hgo (by simp)
 obtain ⟨pm,cm,esm,rfl,_,_⟩:=g2.sl
 obtain ⟨r1,H1,⟨k1,hr1,hr2⟩,hF1⟩:=tries h11 h10 g3 (fun b hb=>h12 _ (by simp [hb])) hw.2.2 (fun pr hp=>⟨(hpr pr hp).1,(hpr pr hp).2.1⟩) (by rw [goesF_goA];exact hgo)
 have hr: ∃b p1 n1 p2 n2,r1= .tup [.agg [.bool b,.sl p1 n1 n1,.sl p2 n2 n2],.int .i64 cd]∧(cd≠0→b=false)∧(cd=0→b=ok∧n1=mv.length∧SlR (fun b=>H.length≤b∧b<H1.length) H1 p1 mv):=by
  by_cases hc:cd=0
  ·subst hc
   obtain ⟨p,q,e,e1,e2⟩:=hr2 rfl
   exact ⟨_,_,_,_,_,e,fun hx=>absurd rfl hx,fun _=>⟨rfl,rfl,e1⟩⟩
  ·exact ⟨_,_,_,_,_,hr1 hc,fun _=>rfl,fun hx=>absurd hx hc⟩
 obtain ⟨b,p1,n1,p2,n2,rfl,hb1,hb2⟩:=hr
 clear hr1 hr2
 obtain ⟨X,hX⟩: ∃X,X=H1++[Blk.row 319 .own [[.bool false,.sl none 0 0,.sl none 0 0]]]:=⟨_,rfl⟩
 have hXk:Keep [] H1 X:=by rw [hX];exact Keep.app _
 have hXl:X.length=H1.length+1:=by rw [hX];simp
 obtain ⟨us,e1,b3,k3,l3⟩:=(show Box X H1.length [.bool false,.sl none 0 0,.sl none 0 0] by rw [hX];exact Box.last _ _ _).st (off:=0) (k:=3) (v:= .agg [.bool b,.sl p1 n1 n1,.sl p2 n2 n2]) rfl rfl rfl (Nat.le_of_ble_eq_true rfl) rfl
 repeat refine jj ?_
 refine WD.dreg [H,H1,X,applyU X us] mixed rfl ?_
 repeat refine jz ?_
 refine VX.call2 rfl rfl rfl rfl hF1 ?_
 refine VX.rdp rfl (fun _=>rfl) ?_
 refine VX.rdp rfl (fun _=>rfl) ?_
 refine VX.rdp rfl (fun _=>rfl) ?_
 refine VX.ef1 rfl rfl (by rw [applyU_push,hX]) rfl ?_
 refine VX.ef2 rfl (e1 _ _ _ _ rfl rfl) rfl ?_
 refine VX.rdp rfl (fun _=>rfl) ?_
 refine VX.fin rfl ?_
 have b4:Box (applyU X us) H1.length [.bool b,.sl p1 n1 n1,.sl p2 n2 n2]:=b3
 have k13:Keep [] H1 (applyU X us):=hXk.trans k3 (fun i hi hl=>by simp at hi;omega)
 have k03:Keep [] H (applyU X us):=k1.trans k13 (by simp)
 have hR3:=hR.keep k03 (by simp) (by simp)
 have hl1:=k1.1
 have hl13:=k13.1
 generalize applyU X us=H3 at*
 clear hX hXk k3 l3 b3
 have hk3:Keep (rb::(bsV++(F++A))) H H3:=k03.mono (by simp)
 by_cases hcd:cd=0
 rotate_left
 ·obtain rfl:=hb1 hcd
  rw [if_pos hcd] at hg
  cases hg
  repeat refine jj ?_
  exact ⟨.inl rfl,rfl,_,rfl,rfl,hk3,_,hR3,fun b hb=> .inl hb⟩
 subst hcd
 obtain ⟨rfl,rfl,hs1⟩:=hb2 rfl
 simp only [ne_eq,not_true_eq_false,if_false] at hg
 cases b with
 |false=>
  simp only [if_true] at hg
  cases hg
  repeat refine jj ?_
  exact ⟨.inl rfl,rfl,_,rfl,rfl,hk3,_,hR3,fun b hb=> .inl hb⟩
 |true=>
 simp only [Bool.true_eq_false,if_false] at hg
 cases hfo:List.foldlM (doesF T.prods (T.nT:Int) (dtF T) term) S mv with
 |none=>rw [hfo] at hg;cases hg
 |some S2=>
 rw [hfo] at hg
 cases hg
 repeat refine jj ?_
 refine WD.loop (fun n F1 H5=> ∃(k:Nat) (W2:List Nat) (S3:Rn),n=mv.length-k∧k≤mv.length∧List.foldlM (doesF T.prods (T.nT:Int) (dtF T) term) S3 (mv.drop k)=some S2∧S3.Wf∧S3.nodes.length≤S.nodes.length+k∧S3.moves.length≤S.moves.length+k∧S3.count=S.count∧Cov [(0,.ptr (some ⟨rb,0,0⟩)),(1,.int .i64 term),(36,.sl p1 mv.length mv.length),(37,.int .i64 mv.length),(38,.int .i64 k)] F1∧F1.get dslot=none∧RunAt H0 H5 rb tb T pk W2 S3∧Keep (rb::(bsV++(F++A))) H H5∧H3.length≤H5.length∧SlR (fun b=>H.length≤b∧b<H1.length) H5 p1 mv∧(∀b∈W2,b∈rb::(bsV++(F++A))∨H1.length≤b)) mv.length ⟨0,_,S,rfl,Nat.zero_le _,hfo,hw,by omega,by omega,rfl,⟨rfl,rfl,rfl,rfl,rfl,trivial⟩,rfl,hR3,hk3,Nat.le_refl _,hs1.keep (fun i hi _=>k13.2 i hi (by simp)),fun b hb=> .inl hb⟩ ?_
 rintro n F1 H5 ⟨k,W2,S3,rfl,hk,hfk,hw3,hn3,hm3,hcnt,hc,hd,hR5,k5,hl5',hs5,hW2⟩
 refine WD.cov hc hd rfl ?_
 have hW2l:=hR5.lt
 by_cases hkl:k<mv.length
 ·have hlk:mv[k]? =some mv[k]:=List.getElem?_eq_getElem hkl
  rw [List.drop_eq_getElem_cons hkl,List.foldlM_cons] at hfk
  generalize mv[k]=a at hlk hfk
  obtain ⟨S4,hd4,hfk⟩:=Option.bind_eq_some_iff.1 hfk
  obtain ⟨hw4,hn4,hm4,hc4⟩:=doesF_wf hd4 hw3
  obtain ⟨e,he,hlds⟩:=hs5.get hlk
  obtain ⟨_,_,rfl,rfl,rfl⟩:=he
  repeat refine jj ?_
  refine OD.rd rfl (ev_ixR hs5 rfl rfl (by omega) (by omega) rfl) ?_
  rw [Int.toNat_natCast]
  refine OD.rd rfl (ev_ldS rfl hlds) ?_
  refine OD.al rfl fun H6 a6 k6 n6=> ?_
  refine OD.st rfl rfl rfl a6 rfl rfl rfl (Nat.le_of_ble_eq_true rfl) rfl fun H7 a7 k7 n7=> ?_
  have k57:Keep [] H5 H7:=k6.trans k7 (fun i hi hl=>by simp at hi;omega)
  have hl57:=k57.1
  have hR7:=hR5.keep k57 (by simp) (by simp)
  have hs7:=hs5.keep (H':=H7) fun i hi _=>k57.2 i hi (by simp)
  repeat refine jj ?_
  refine OD.call rfl rfl rfl (does (a:=a) hR7 hd4 hpr hw3.1 hw3.2.1 (by omega) (by omega) hw3.2.2) ?_
  rintro r8 H8 ⟨k8,W8,hR8,hW8⟩
  have hl8:=k8.1
  repeat refine jj ?_
  refine ⟨_,by omega,k+1,W8,S4,rfl,by omega,hfk,hw4,by omega,by omega,by omega,⟨rfl,rfl,rfl,rfl,by rw [Int.natCast_add];rfl,trivial⟩,rfl,hR8,(k5.trans k57 (by simp)).trans k8 (fun i hi hl=> ?_),by omega,hs7.keep fun i hi hik=>k8.2 i hi fun hc=> ?_,fun b hb=> ?_⟩
  ·rcases hW2 i hi with h|h
   ·exact h
   ·omega
  ·rcases hW2 i hc with h|h
   ·have:=hWl i h;omega
   ·omega
  ·rcases hW8 b hb with h|h
   ·exact hW2 b h
   ·right;omega
 ·obtain rfl:k=mv.length:=by omega
  rw [List.drop_length] at hfk
  cases hfk
  have hfin: ∀b∈W2,b∈rb::(bsV++(F++A))∨H.length≤b:=fun b hb=>by
   rcases hW2 b hb with h|h
   ·exact .inl h
   ·right;omega
  by_cases ht:0<term
  ·rw [if_pos ht]
   obtain ⟨sb2,ab2,F2,A2,bsV2,vm2,rfl,m1,m2,m3,m4,m5,m6,m7,m8,m9,m10,m11,m12⟩:=hR5
   repeat refine jj ?_
   refine OD.st rfl rfl rfl m1 rfl rfl rfl (Nat.le_of_ble_eq_true rfl) rfl fun H6 b6 k6 n6=> ?_
   repeat refine jj ?_
   exact ⟨.inl rfl,rfl,_,rfl,rfl,k5.trans k6 (by grind),_,⟨sb2,ab2,F2,A2,bsV2,_,rfl,by rw [Int.natCast_add];exact b6,m2.keep k6 (by grind) (fun i h=>h.elim),m3.keep k6 (by grind),m4.keep k6 (by grind),m5,m6,m7,m8,m9,m10,m11.trans k6 (fun i hi hl=>by have:=m12 rb (by simp);simp at hi;omega),m12⟩,hfin⟩
  ·rw [if_neg ht]
   repeat refine jj ?_
   exact ⟨.inl rfl,rfl,_,rfl,rfl,k5,_,hR5,hfin⟩
end Dr
end Go.Proofs.YtnjjieohlnhicaaGreatDoor
end
section
namespace Go.Proofs.YtnjjieohlnhicaaGreatDoor
set_option linter.unusedSimpArgs false
set_option linter.unusedVariables false
open Go Go.Wm Go.Proofs Go.RowKit
set_option maxRecDepth 100000
set_option maxHeartbeats 4000000
namespace Dr
theorem clipM {H:Hp} {bs:List Nat} {t:TypeId} {v:VV} {es:List (List VV)} (h:Buf H bs t 3 v es):FnX Tryz.prog 93 [v] H fun r H'=>H'=H∧ ∃p,r= .sl p es.length es.length∧Sl H p 3 es∧ ∀q,p=some q→q.blk∈bs:=by
 refine FnX.enterRow ok93 (Nat.le_of_ble_eq_true rfl) ?_
 obtain ⟨p0,c,rfl,_⟩:=h.sl
 obtain ⟨p,he,hs,hq⟩:=h.clip
 repeat refine jj ?_
 refine OD.rd rfl (he _ _ _ _ rfl rfl rfl) ?_
 repeat refine jj ?_
 exact ⟨.inl rfl,rfl,_,rfl,rfl,p,rfl,hs,hq⟩
theorem stStates {H:Hp} {sb:Nat} {F:List Nat} {first:Int} {ss ns:List Int} (h:StackAt H sb F first ss ns) (hl:ss.length≤64):FnX Tryz.prog 91 [.ptr (some ⟨sb,0,0⟩)] H fun r H'=>Keep [] H H'∧ ∃p,r= .sl p (first::ss).length (first::ss).length∧SlR (fun b=>H.length≤b∧b<H'.length) H' p (first::ss):=by
 refine FnX.enterRow ok91 (Nat.le_of_ble_eq_true rfl) ?_
 obtain ⟨bs1,bs2,v1,v2,rfl,h1,h2,h3,h4,h5,h6⟩:=h
 obtain ⟨p1,c1,es1,rfl,_,_⟩:=h5.sl
 have hs1:=h5.slI
 obtain ⟨X,hX⟩: ∃X,X=H++[Blk.row 3 .own [[.int .i64 first]]]:=⟨_,rfl⟩
 have hXk:Keep [] H X:=by rw [hX];exact Keep.app _
 have hXl:X.length=H.length+1:=by rw [hX];simp
 have hb:BufR nok X [H.length] 3 (.sl (some ⟨H.length,0,0⟩) 1 1) [first]:=⟨intEs [first],.inr ⟨H.length,.own,[[.int .i64 first]],rfl,rfl,by rw [hX];simp,by simp,by simp,(by intro e he;simp at he;subst he;rfl),List.prefix_refl _⟩,EsR.ofInts _ _ _⟩
 obtain ⟨v',us,bs',q1,q2,q3,q4⟩:=hb.many (c:=c1) (bytes:=8) (z:=1) (hs1.keep hXk (by simp)) (EsR.ofInts nok X ss) (fun i h=>h.elim) rfl (by simp;omega) (by simp;omega)
 obtain ⟨r2,H2,⟨rfl,p3,rfl,a3,a4⟩,hF2⟩:=clip q2.ints
 rw [intEs_len] at hF2
 have hk2:Keep [] H (applyU X us):=hXk.trans q3 (fun i hi hl=>by simp at hi;omega)
 have hK: ∀j H1,[H,X,applyU X us,applyU X us][j]? =some H1→j≤1→Keep [] H H1:=fun j H1 hj hj2=>by
  match j,hj with
  |0,hj=>cases hj;exact Keep.refl _
  |1,hj=>cases hj;exact hXk
  |j+2,hj=>omega
 repeat refine jj ?_
 refine WD.dreg [H,X,applyU X us,applyU X us] mixed rfl ?_
 repeat refine jk hK ?_
 refine VX.ef1 rfl (ev_mkint rfl) (by rw [applyU_push,hX]) rfl ?_
 repeat refine jk hK ?_
 refine VX.ef2 rfl (q1 _ _ _ rfl rfl) rfl ?_
 refine VX.call2 rfl rfl rfl rfl hF2 ?_
 refine VX.rdp rfl (fun _=>rfl) ?_
 refine VX.fin rfl ?_
 repeat refine jj ?_
 have hbl:=q2.lt
 exact ⟨.inl rfl,rfl,_,rfl,hk2,p3,rfl,SlR.ofInts a3 fun q hq _=>⟨by rcases q4 _ (a4 q hq) with h|h;(simp at h;omega);omega,hbl _ (a4 q hq)⟩⟩
theorem treeNew {H:Hp}:FnX Tryz.prog 168 [] H fun r H'=>r= .ptr (some ⟨H.length,0,0⟩)∧ArAt H' H.length [H.length] [] []∧Keep [] H H':=by
 refine FnX.enterRow ok168 (Nat.le_of_ble_eq_true rfl) ?_
 repeat refine jj ?_
 refine OD.bx rfl rfl rfl rfl rfl fun H1 b1 k1 n1=> ?_
 repeat refine jj ?_
 exact ⟨.inl rfl,rfl,_,rfl,rfl,⟨[],[],[],_,_,rfl,b1,BufR.nil _ _ _,BufR.nil _ _ _,by simp,by simp,by simp,by simp,by simp,by simp⟩,k1⟩
theorem begin {H H1:Hp} {tb:Nat} {T:Tab} {pk:Bool} {sv:VV} (hof:FnV Tryz.prog 166 [sv] H fun r H2=>r= .ptr (some ⟨tb,0,0⟩)∧H2=H1) (hk:Keep [] H H1) (ht:TabAt H1 tb T):
 FnX Tryz.prog 87 [sv,.bool pk] H fun r H'=> ∃rb,r= .ptr (some ⟨rb,0,0⟩)∧Keep [] H H'∧ ∃W,RunAt H1 H' rb tb T pk W Rn.new∧ ∀b∈W,H1.length≤b:=by
 refine FnX.enterRow ok87 (Nat.le_of_ble_eq_true rfl) ?_
 repeat refine jj ?_
 refine OD.call rfl rfl rfl hof.fnx ?_
 rintro r H2 ⟨rfl,rfl⟩
 repeat refine jj ?_
 refine OD.call rfl rfl rfl (newStack (n:=0)) ?_
 rintro r H3 ⟨rfl,h3,k3⟩
 refine OD.call rfl rfl rfl treeNew ?_
 rintro r H4 ⟨rfl,h4,k4⟩
 repeat refine jj ?_
 refine OD.bx rfl rfl rfl rfl rfl fun H5 b5 k5 n5=> ?_
 repeat refine jj ?_
 have h3':=(h3.keep k4 (by simp)).keep k5 (by simp)
 have h4':=h4.keep k5 (by simp)
 have hl3:=h3.lt H2.length (by simp)
 have hl4:=h4.lt H3.length (by simp)
 have hk4:=k4.1
 refine ⟨Or.inl rfl,rfl,_,rfl,?_⟩
 refine ⟨H4.length,rfl,((hk.trans k3 (by simp)).trans k4 (by simp)).trans k5 (by simp),H4.length::([]++([H2.length]++[H3.length])),⟨H2.length,H3.length,[H2.length],[H3.length],[],_,rfl,b5,BufR.nil _ _ _,h3',h4',by simp,by simp;omega,by simp;omega,by simp,by simp;omega,ht,(k3.trans k4 (by simp)).trans k5 (by simp),by simp;omega⟩,by simp;omega⟩
def badTok (n:Nat) (t:Int):Bool:=decide (t<1)||decide ((n:Int)≤t)
theorem row1 {H0 H:Hp} {vb rb tb:Nat} {T:Tab} {pk:Bool} {W:List Nat} {S:Rn} {t:Int} (hv:Box H vb [.ptr (some ⟨rb,0,0⟩)]) (h:RunAt H0 H rb tb T pk W S):
 FnX Tryz.prog 169 [.int .i64 t,.ptr (some ⟨vb,0,0⟩)] H fun r H'=>r= .bool (badTok T.nT t)∧H'=H:=by
 refine FnX.enterRow ok169 (Nat.le_of_ble_eq_true rfl) ?_
 obtain ⟨sb,ab,F,A,bsV,vm,rfl,g1,g2,g3,g4,h5,h6,h7,h8,h9,h10,h11,h12⟩:=h
 obtain ⟨pm,cm,esm,rfl,_,_⟩:=g2.sl
 by_cases h1:t<1
 ·have hb:badTok T.nT t=true:=by unfold badTok;simp [h1]
  rw [hb]
  repeat refine jj ?_
  refine OD.skip rfl ?_
  repeat refine jj ?_
  exact ⟨.inl rfl,rfl,_,rfl,rfl,rfl⟩
 ·repeat refine jj ?_
  refine OD.call rfl rfl rfl (terms (h10.ext h11)) ?_
  rintro r H2 ⟨rfl,rfl⟩
  by_cases h2:(T.nT:Int)≤t
  ·have hb:badTok T.nT t=true:=by unfold badTok;simp [h2]
   rw [hb]
   repeat refine jj ?_
   exact ⟨.inl rfl,rfl,_,rfl,rfl,rfl⟩
  ·have hb:badTok T.nT t=false:=by unfold badTok;simp [h2];omega
   rw [hb]
   repeat refine jj ?_
   exact ⟨.inl rfl,rfl,_,rfl,rfl,rfl⟩
theorem rowOf {H0 H:Hp} {rb tb:Nat} {T:Tab} {pk:Bool} {W:List Nat} {S:Rn} {p:Option PA} {c:Nat} {l:List Int} (h:RunAt H0 H rb tb T pk W S) (hs:Sl H p 1 (intEs l)) (hl:l.length≤1000000000):
 FnX Tryz.prog 88 [.ptr (some ⟨rb,0,0⟩),.sl p l.length c] H fun r H'=>r= .bool (!l.any (badTok T.nT))∧H'=H:=by
 refine FnX.tidy rfl (FnX.enterRow ok88 (Nat.le_of_ble_eq_true rfl) ?_)
 refine WD.seq ?_
 refine WD.reg ?_
 refine OD.bx rfl rfl rfl rfl rfl fun H1 b1 k1 n1=> ?_
 have h1:=h.keep k1 (by simp) (by simp)
 repeat refine jj ?_
 refine OD.call rfl rfl rfl (containsFunc (badTok T.nT) (hs.keep k1 (by simp)) (by omega) fun n _=>row1 b1 h1) ?_
 rintro r H2 ⟨rfl,rfl⟩
 cases l.any (badTok T.nT)
 ·repeat refine jj ?_
  exact ⟨.inl rfl,rfl,_,rfl,rfl,k1⟩
 ·repeat refine jj ?_
  exact ⟨.inl rfl,rfl,_,rfl,rfl,k1⟩
end Dr
end Go.Proofs.YtnjjieohlnhicaaGreatDoor
end
section
namespace Go.Proofs.YtnjjieohlnhicaaGreatDoor
set_option linter.unusedSimpArgs false
set_option linter.unusedVariables false
open Go Go.Wm Go.Proofs Go.RowKit
set_option maxRecDepth 100000
set_option maxHeartbeats 4000000
namespace Dr
structure Outc where
 verdict:Int
 pos:Int
 expected:List Int
 states:List Int
 nodes:List Nd
 root:Int
 moves:List ((Int×Int)×Int)
def Outc.zero:Outc:=⟨0,0,[],[],[],0,[]⟩
def outAt (ok:Nat→Prop) (H:Hp) (v:VV) (o:Outc):Prop:= ∃p1 c1 p2 c2 p3 c3 p4 c4,v= .agg [.int .i64 o.verdict,.int .i64 o.pos,.sl p1 o.expected.length c1,.sl p2 o.states.length c2,.sl p3 o.nodes.length c3,.int .i64 o.root,.sl p4 o.moves.length c4]∧
 SlR ok H p1 o.expected∧SlR ok H p2 o.states∧SlR ok H p3 o.nodes∧SlR ok H p4 o.moves
theorem outAt.keep {ok ok':Nat→Prop} {M:List Nat} {H H':Hp} {v:VV} {o:Outc} (h:outAt ok H v o) (k:Keep M H H') (hM: ∀i,ok i→i∉M) (hw: ∀i,ok i→ok' i):outAt ok' H' v o:=by
 obtain ⟨p1,c1,p2,c2,p3,c3,p4,c4,rfl,h1,h2,h3,h4⟩:=h
 have kk: ∀i,i<H.length→ok i→H'[i]? =H[i]? :=fun i hi ho=>k.2 i hi (hM i ho)
 exact ⟨p1,c1,p2,c2,p3,c3,p4,c4,rfl,(h1.keep kk).weak fun i _=>hw i,(h2.keep kk).weak fun i _=>hw i,(h3.keep kk).weak fun i _=>hw i,(h4.keep kk).weak fun i _=>hw i⟩
theorem SlR.none' {α:Type} [Enc α] {ok:Nat→Prop} {H:Hp}:SlR ok H none ([]:List α):=⟨[],.inl rfl,(fun q hq=>by cases hq),EsR.nil⟩
theorem outAt.zero (ok:Nat→Prop) (H:Hp):outAt ok H (.agg [.int .i64 0,.int .i64 0,.sl none 0 0,.sl none 0 0,.sl none 0 0,.int .i64 0,.sl none 0 0]) Outc.zero:=
 ⟨none,0,none,0,none,0,none,0,rfl,SlR.none',SlR.none',SlR.none',SlR.none'⟩
def outF (T:Tab) (pk:Bool) (fuel:Nat):Run→Option (Outc×Int)
 | .err e=>some (Outc.zero,e)
 | .done S=>some (⟨1,0,[],0::S.st,S.nodes,S.nodes.length-1,S.moves⟩,0)
 | .refused i S=>
   match mightF T pk 0 fuel S.st T.nT with
   |none=>none
   |some (l,c)=>if c≠0 then some (Outc.zero,c) else some (⟨2,i,l,0::S.st,S.nodes,0,S.moves⟩,0)
def Rn.Kd (S:Rn):Prop:= ∀x∈S.nodes,x.2.2.2.length≤64
theorem doesF_kd {prods:List (Int×(List Int×Int))} {nT term:Int} {dt:Int→Int→Option Int} {S S':Rn} {a:Int×Int} (h:doesF prods nT dt term S a=some S') (hw:S.Wf) (hk:S.Kd):S'.Kd:=by
 obtain ⟨h1,h2,h3⟩:=hw
 unfold doesF at h
 simp only at h
 split at h
 ·split at h
  ·cases h
  ·cases h
   intro x hx
   simp at hx
   rcases hx with hx|rfl
   ·exact hk x hx
   ·simp
 ·split at h
  ·split at h
   ·cases h
   ·split at h
    ·cases h
    ·split at h
     ·cases h
     ·rename_i tk htk
      split at h
      ·cases h
      ·cases h
       intro x hx
       simp at hx
       rcases hx with hx|rfl
       ·exact hk x hx
       ·simp;omega
  ·split at h
   ·cases h;exact hk
   ·cases h;exact hk
theorem fold_wf {prods:List (Int×(List Int×Int))} {nT term:Int} {dt:Int→Int→Option Int}: ∀{mv:List (Int×Int)} {S S':Rn},mv.foldlM (doesF prods nT dt term) S=some S'→S.Wf→S.Kd→S'.Wf∧S'.Kd∧S'.nodes.length≤S.nodes.length+mv.length∧S'.moves.length=S.moves.length+mv.length∧S'.count=S.count
 |[],S,S',h,hw,hk=>by cases h;exact ⟨hw,hk,by simp,by simp,rfl⟩
 |a::mv,S,S',h,hw,hk=>by
  rw [List.foldlM_cons] at h
  obtain ⟨S1,h1,h2⟩:=Option.bind_eq_some_iff.1 h
  obtain ⟨w1,w2,w3,w4⟩:=doesF_wf h1 hw
  obtain ⟨v1,v2,v3,v4,v5⟩:=fold_wf h2 w1 (doesF_kd h1 hw hk)
  exact ⟨v1,v2,by simp;omega,by simp;omega,by rw [v5,w4]⟩
theorem takeF_wf {act:Int→Int→Option (Int×Int)} {tg dt:Int→Int→Option Int} {prods:List (Int×(List Int×Int))} {nT t:Int} {fuel:Nat} {S S':Rn} {fits:Bool} {e:Int} (h:takeF act tg dt prods nT fuel S t=some (fits,e,S')) (hw:S.Wf) (hk:S.Kd):S'.Wf∧S'.Kd∧S'.nodes.length≤S.nodes.length+1025∧S'.moves.length≤S.moves.length+1025∧S'.count≤S.count+1:=by
 unfold takeF at h
 split at h
 ·cases h
 ·rename_i ok code st' mv hgo
  have hml:=goA_len hgo (by simp)
  split at h
  ·cases h;exact ⟨hw,hk,by omega,by omega,by omega⟩
  ·split at h
   ·cases h;exact ⟨hw,hk,by omega,by omega,by omega⟩
   ·split at h
    ·cases h
    ·rename_i S2 hf
     cases h
     obtain ⟨v1,v2,v3,v4,v5⟩:=fold_wf hf hw hk
     split
     ·exact ⟨v1,v2,by simp only;omega,by simp only;omega,by simp only;omega⟩
     ·exact ⟨v1,v2,by omega,by omega,by omega⟩
theorem all {H:Hp} {T:Tab} {pk:Bool} {fuel:Nat} {sv:VV} {p:Option PA} {c:Nat} {row:List Int} {out:Run} {o:Outc} {e:Int} (hof: ∀H1,Keep [] H H1→ ∃tb H2,FnV Tryz.prog 166 [sv] H1 (fun r H'=>r= .ptr (some ⟨tb,0,0⟩)∧H'=H2)∧Keep [] H1 H2∧TabAt H2 tb T)
 (hs:Sl H p 1 (intEs row)) (hrl:row.length≤500000) (hpr: ∀pr∈T.prods,-1000000000≤pr.1∧pr.1≤4000000000∧pr.2.1.length≤1000000000)
 (hg:allF (takeF (tAct T pk) (tTgt T pk) (dtF T) T.prods T.nT fuel) 0 Rn.new (row++[0])=some out) (ho:outF T pk fuel out=some (o,e)) (hrow:row.any (badTok T.nT)=false):
 FnX Tryz.prog 32 [sv,.bool pk,.sl p row.length c] H fun r H'=>Keep [] H H'∧ ∃v,r= .tup [v,.int .i64 e]∧outAt (fun b=>H.length≤b) H' v o:=by
 refine FnX.enterRow ok32 (Nat.le_of_ble_eq_true rfl) ?_
 refine WD.seq ?_
 refine WD.reg ?_
 refine OD.al rfl fun H1 b1 k1 n1=> ?_
 repeat refine jj ?_
 obtain ⟨tb,H2,hOf,k2,ht⟩:=hof H1 k1
 refine OD.call rfl rfl rfl (begin hOf k2 ht) ?_
 rintro r H3 ⟨rb,rfl,k3,W,hR,hW⟩
 have k13:Keep [] H H3:=k1.trans k3 (by simp)
 have b3:=b1.keep k3 (by simp)
 have hs3:=hs.keep k13 (by simp)
 have hWl:=hR.lt
 have hle2:=k2.1
 have hle3:=k3.1
 repeat refine jj ?_
 refine OD.call rfl rfl rfl (rowOf hR hs3 (by omega)) ?_
 rintro r H4 ⟨rfl,rfl⟩
 rw [hrow]
 repeat refine jj ?_
 refine OD.call rfl rfl rfl (clone hs3 (by omega)) ?_
 rintro r H5 ⟨k5,bs,hb,hbs⟩
 obtain ⟨pb,cb,esb,rfl,_,_⟩:=hb.sl
 refine OD.app1 (α:=Int) (bytes:=8) (ok:=nok) (x:=(0:Int)) rfl (ev_mkint rfl) rfl hb rfl rfl (fun i h=>h.elim) (by omega) (by omega) fun v6 H6 bs6 h6 k6 hb6=> ?_
 have hle5:=k5.1
 have hle6:=k6.1
 have k46:Keep [] H4 H6:=k5.trans k6 (fun i hi hl=>by have:=hbs i hi;omega)
 have hR6:=hR.keep k46 (by simp) (by simp)
 have b6:=b3.keep k46 (by simp)
 obtain ⟨pl,cl,esl,rfl,_,_⟩:=h6.sl
 have hll:(row++[0]).length=row.length+1:=by simp
 have hbs6: ∀b∈bs6,H4.length≤b∧b<H6.length:=fun b hb=>⟨by rcases hb6 b hb with h|h;exact hbs b h;omega,h6.lt b hb⟩
 have h16:Keep [] H H6:=k13.trans k46 (by simp)
 generalize hlr:row++[0]=l at*
 repeat refine jj ?_
 have hW0:Rn.new.Wf:=⟨rfl,rfl,by simp [Rn.new]⟩
 refine WD.loop (fun n F1 H7=> ∃(k:Nat) (W2:List Nat) (S2:Rn),n=l.length-k∧k≤l.length∧allF (takeF (tAct T pk) (tTgt T pk) (dtF T) T.prods T.nT fuel) k S2 (l.drop k)=some out∧S2.Wf∧S2.Kd∧S2.nodes.length≤1025*k∧S2.moves.length≤1025*k∧S2.count≤k∧Cov [(1,.bool pk),(6,.ptr (some ⟨H.length,0,0⟩)),(8,.ptr (some ⟨rb,0,0⟩)),(29,.sl pl l.length cl),(30,.int .i64 l.length),(31,.int .i64 k)] F1∧F1.get dslot=none∧RunAt H2 H7 rb tb T pk W2 S2∧Keep W H6 H7∧(∀b∈W2,b∈W∨H6.length≤b)) l.length ⟨0,W,Rn.new,rfl,Nat.zero_le _,hg,hW0,by intro x hx;simp [Rn.new] at hx,by simp [Rn.new],by simp [Rn.new],by simp [Rn.new],⟨rfl,rfl,rfl,rfl,rfl,rfl,trivial⟩,rfl,hR6,Keep.refl _,fun b hb=> .inl hb⟩ ?_
 rintro n F1 H7 ⟨k,W2,S2,rfl,hk,hgk,hw2,hkd2,hn2,hm2,hc2,hc,hd,hR7,k7,hW2⟩
 refine WD.cov hc hd rfl ?_
 have hle7:=k7.1
 have h17:Keep [] H H7:=h16.trans k7 (fun i hi hl=>by have:=hW i hi;have:=k1.1;omega)
 have b7:=b6.keep k7 (fun hc=>by have:=hW _ hc;omega)
 have h7:=h6.keep k7 (fun b hb hc=>by have:=hbs6 b hb;have:=hWl b hc;omega) (fun i h=>h.elim)
 have hsl:=h7.slI
 by_cases hkl:k<l.length
 ·have hlk:l[k]? =some l[k]:=List.getElem?_eq_getElem hkl
  rw [List.drop_eq_getElem_cons hkl] at hgk
  generalize l[k]=t at hlk hgk
  unfold allF at hgk
  cases htk:takeF (tAct T pk) (tTgt T pk) (dtF T) T.prods T.nT fuel S2 t with
  |none=>rw [htk] at hgk;cases hgk
  |some x=>
  obtain ⟨fits,e',S3⟩:=x
  rw [htk] at hgk
  simp only at hgk
  obtain ⟨hw3,hkd3,hn3,hm3,hc3⟩:=takeF_wf htk hw2 hkd2
  repeat refine jj ?_
  refine OD.rd rfl (ev_ixI hsl rfl rfl rfl hkl) ?_
  refine OD.rd rfl (ev_ldI hsl rfl hlk) ?_
  repeat refine jj ?_
  refine OD.call rfl rfl rfl (take hR7 htk hpr hw2 (by omega) (by omega) (by omega)) ?_
  rintro r H8 ⟨rfl,k8,W3,hR8,hW3⟩
  have hle8:=k8.1
  have h18:Keep [] H H8:=h17.trans k8 (fun i hi hl=>by
   rcases hW2 i hi with h|h
   ·have:=hW i h;have:=k1.1;omega
   ·omega)
  have b8:=b7.keep k8 (fun hc=>by
   rcases hW2 _ hc with h|h
   ·have:=hW _ h;omega
   ·omega)
  by_cases he:e'=0
  rotate_left
  ·rw [if_pos he] at hgk
   cases hgk
   cases ho
   repeat refine jj ?_
   refine OD.st rfl rfl rfl b8 rfl rfl rfl (Nat.le_of_ble_eq_true rfl) rfl fun H9 b9 k9 n9=> ?_
   repeat refine jj ?_
   exact ⟨.inl rfl,rfl,_,resC2 rfl b9 rfl rfl,h18.trans k9 (fun i hi hl=>by simp at hi;omega),_,rfl,outAt.zero _ _⟩
  subst he
  simp only [ne_eq,not_true_eq_false,if_false] at hgk
  cases fits with
  |true=>
   simp only [if_true] at hgk
   repeat refine jj ?_
   refine ⟨_,by omega,k+1,W3,S3,rfl,by omega,hgk,hw3,hkd3,by omega,by omega,by omega,⟨rfl,rfl,rfl,rfl,rfl,by rw [Int.natCast_add];rfl,trivial⟩,rfl,hR8,k7.trans k8 (fun i hi hl=> ?_),fun b hb=> ?_⟩
   ·rcases hW2 i hi with h|h
    ·exact h
    ·omega
   ·rcases hW3 b hb with h|h
    ·exact hW2 b h
    ·right;omega
  |false=>
   simp only [Bool.false_eq_true,if_false] at hgk
   cases hgk
   simp only [outF] at ho
   cases hmi:mightF T pk 0 fuel S3.st T.nT with
   |none=>rw [hmi] at ho;cases ho
   |some x=>
   obtain ⟨ex,cm⟩:=x
   rw [hmi] at ho
   simp only at ho
   obtain ⟨sb,ab,F,A,bsV,vm,rfl,g1,g2,g3,g4,h5',h6',h7',h8',h9',h10',h11',h12'⟩:=hR8
   obtain ⟨r9,H9,⟨k9,hr1,hr2⟩,hF9⟩:=might h11' h10' g3 (fun b hb=>h12' _ (by simp [hb])) hw3.2.2 (fun pr hp=>⟨(hpr pr hp).1,(hpr pr hp).2.1⟩) hmi
   have hr: ∃p9 n9 c9,r9= .tup [.sl p9 n9 c9,.int .i64 cm]∧(cm=0→n9=ex.length∧Sl H9 p9 1 (intEs ex)∧ ∀q,p9=some q→H8.length≤q.blk):=by
    by_cases hcm:cm=0
    ·subst hcm
     obtain ⟨p9,e1,e2,e3⟩:=hr1 rfl
     exact ⟨_,_,_,e1,fun _=>⟨rfl,e2,e3⟩⟩
    ·exact ⟨_,_,_,hr2 hcm,fun h=>absurd h hcm⟩
   obtain ⟨p9,n9,c9,rfl,hr9⟩:=hr
   clear hr1 hr2
   have h19:Keep [] H H9:=h18.trans k9 (by simp)
   have b9:=b8.keep k9 (by simp)
   have m1:=g1.keep k9 (by simp)
   have m2:=g2.keep k9 (by simp) (fun i h=>h.elim)
   have m3:=g3.keep k9 (by simp)
   have m4:=g4.keep k9 (by simp)
   obtain ⟨pm,cmm,esm,rfl,_,_⟩:=m2.sl
   repeat refine jj ?_
   refine WD.dreg [H8,H9] mixed rfl ?_
   repeat refine jz ?_
   refine VX.call2 rfl rfl rfl rfl hF9 ?_
   repeat refine jz ?_
   by_cases hcm:cm=0
   rotate_left
   ·rw [if_pos hcm] at ho
    cases ho
    repeat refine jj ?_
    refine OD.st rfl rfl rfl b9 rfl rfl rfl (Nat.le_of_ble_eq_true rfl) rfl fun H10 b10 k10 n10=> ?_
    repeat refine jj ?_
    exact ⟨.inl rfl,rfl,_,resC2 rfl b10 rfl rfl,h19.trans k10 (fun i hi hl=>by simp at hi;omega),_,rfl,outAt.zero _ _⟩
   subst hcm
   obtain ⟨rfl,hsx,hqx⟩:=hr9 rfl
   simp only [ne_eq,not_true_eq_false,if_false] at ho
   cases ho
   repeat refine jj ?_
   obtain ⟨r10,H10,⟨k10,p10,rfl,hs10⟩,hF10⟩:=stStates m3 hw3.2.2
   obtain ⟨r11,H11,⟨k11,p11,c11,rfl,hs11⟩,hF11⟩:=nodesOf (m4.keep k10 (by simp)) (by omega) (fun x hx=>by have:=hkd3 x hx;omega)
   obtain ⟨esm2,hbm,hrm⟩:=(m2.keep k10 (by simp) (fun i h=>h.elim)).keep k11 (by simp) (fun i h=>h.elim)
   obtain ⟨r12,H12,⟨rfl,p12,rfl,hs12,hq12⟩,hF12⟩:=clipM hbm
   have hlm:esm2.length=S3.moves.length:=hrm.1
   rw [hlm] at hF12
   have k9b:Keep [] H9 H12:=k10.trans k11 (by simp)
   have b12:=b9.keep k9b (by simp)
   obtain ⟨us,e13,b13,k13',l13⟩:=b12.st (off:=0) (k:=7) (v:= .agg [.int .i64 2,.int .i64 (k:Int),.sl p9 ex.length c9,.sl p10 (0::S3.st).length (0::S3.st).length,.sl p11 S3.nodes.length c11,.int .i64 0,.sl p12 S3.moves.length S3.moves.length]) rfl rfl rfl (Nat.le_of_ble_eq_true rfl) rfl
   have hK: ∀j H',[H9,H10,H12,H12,applyU H12 us][j]? =some H'→j≤3→Keep [] H9 H':=fun j H' hj hj2=>by
    match j,hj with
    |0,hj=>cases hj;exact Keep.refl _
    |1,hj=>cases hj;exact k10
    |2,hj=>cases hj;exact k9b
    |3,hj=>cases hj;exact k9b
    |j+4,hj=>omega
   refine WD.dreg [H9,H10,H12,H12,applyU H12 us] mixed rfl ?_
   repeat refine jk hK ?_
   refine VX.call2 rfl rfl rfl rfl hF10 ?_
   repeat refine jk hK ?_
   refine VX.call2 rfl rfl rfl rfl hF11 ?_
   repeat refine jk hK ?_
   refine VX.call2 rfl rfl rfl rfl hF12 ?_
   repeat refine jk hK ?_
   refine VX.ef2 rfl (e13 _ _ _ _ rfl rfl) rfl ?_
   refine VX.rdp rfl (fun _=>rfl) ?_
   refine VX.fin rfl ?_
   repeat refine jj ?_
   have hl1':=k1.1
   have hle9:=k9.1
   have hl10:=k10.1
   have hl11:=k11.1
   have hLW: ∀b∈rb::(bsV++(F++A)),b≠H.length:=fun b hb hc=>by have:=h12' b hb;omega
   have hLW2: ∀b∈rb::(bsV++(F++A)),H.length<b:=fun b hb=>by have:=h12' b hb;omega
   have hin: ∀i,i<H12.length→i≠H.length→(applyU H12 us)[i]? =H12[i]? :=fun i hi hn=>k13'.2 i hi (by simp [hn])
   have t2:SlR (fun b=>H.length≤b) (applyU H12 us) p10 (0::S3.st):=((hs10.keep fun i hi _=>k11.2 i hi (by simp)).keep fun i hi hik=>hin i hi (by omega)).weak fun i hi hik=>by omega
   have t3:SlR (fun b=>H.length≤b) (applyU H12 us) p11 S3.nodes:=(hs11.keep fun i hi hik=>hin i hi (by
    rcases hik with h|h
    ·exact hLW i (by simp [h])
    ·omega)).weak fun i hi hik=>by
     rcases hik with h|h
     ·have:=hLW2 i (by simp [h]);omega
     ·omega
   have t4:SlR (fun b=>H.length≤b) (applyU H12 us) p12 S3.moves:=⟨esm2,hs12.keep k13' (fun q hq=>by have:=hLW q.blk (by simp [hq12 q hq]);simpa using this),fun q hq _=>(by have:=hLW2 q.blk (by simp [hq12 q hq]);omega),(hrm.keep (H':=applyU H12 us) fun i _ h=>h.elim).weak fun _ _ h=>h.elim⟩
   have t1:SlR (fun b=>H.length≤b) (applyU H12 us) p9 ex:=SlR.ofInts ((hsx.keep k9b (by simp)).keep k13' fun q hq=>by have:=hqx q hq;simp;omega) fun q hq _=>by have:=hqx q hq;omega
   exact ⟨.inl rfl,rfl,_,resC2 rfl b13 rfl rfl,(h19.trans k9b (by simp)).trans k13' (fun i hi hl=>by simp at hi;omega),_,rfl,p9,c9,p10,_,p11,c11,p12,_,rfl,t1,t2,t3,t4⟩
 ·obtain rfl:k=l.length:=by omega
  rw [List.drop_length] at hgk
  cases hgk
  cases ho
  obtain ⟨sb,ab,F,A,bsV,vm,rfl,m1,m2,m3,m4,h5',h6',h7',h8',h9',h10',h11',h12'⟩:=hR7
  obtain ⟨pm,cmm,esm,rfl,_,_⟩:=m2.sl
  repeat refine jj ?_
  obtain ⟨r10,H10,⟨k10,p10,rfl,hs10⟩,hF10⟩:=stStates m3 hw2.2.2
  obtain ⟨r11,H11,⟨k11,p11,c11,rfl,hs11⟩,hF11⟩:=nodesOf (m4.keep k10 (by simp)) (by omega) (fun x hx=>by have:=hkd2 x hx;omega)
  obtain ⟨r14,H14,⟨rfl,rfl⟩,hF14⟩:=len ((m4.keep k10 (by simp)).keep k11 (by simp))
  obtain ⟨esm2,hbm,hrm⟩:=(m2.keep k10 (by simp) (fun i h=>h.elim)).keep k11 (by simp) (fun i h=>h.elim)
  obtain ⟨r12,H12,⟨rfl,p12,rfl,hs12,hq12⟩,hF12⟩:=clipM hbm
  have hlm:esm2.length=S2.moves.length:=hrm.1
  rw [hlm] at hF12
  have k9b:Keep [] H7 H12:=k10.trans k11 (by simp)
  have b12:=b7.keep k9b (by simp)
  obtain ⟨us,e13,b13,k13',l13⟩:=b12.st (off:=0) (k:=7) (v:= .agg [.int .i64 1,.int .i64 0,.sl none 0 0,.sl p10 (0::S2.st).length (0::S2.st).length,.sl p11 S2.nodes.length c11,.int .i64 ((S2.nodes.length:Int)-1),.sl p12 S2.moves.length S2.moves.length]) rfl rfl rfl (Nat.le_of_ble_eq_true rfl) rfl
  have hK: ∀j H',[H7,H10,H12,H12,H12,applyU H12 us][j]? =some H'→j≤4→Keep [] H7 H':=fun j H' hj hj2=>by
   match j,hj with
   |0,hj=>cases hj;exact Keep.refl _
   |1,hj=>cases hj;exact k10
   |2,hj=>cases hj;exact k9b
   |3,hj=>cases hj;exact k9b
   |4,hj=>cases hj;exact k9b
   |j+5,hj=>omega
  refine WD.dreg [H7,H10,H12,H12,H12,applyU H12 us] mixed rfl ?_
  repeat refine jk hK ?_
  refine VX.call2 rfl rfl rfl rfl hF10 ?_
  repeat refine jk hK ?_
  refine VX.call2 rfl rfl rfl rfl hF11 ?_
  repeat refine jk hK ?_
  refine VX.call2 rfl rfl rfl rfl hF14 ?_
  repeat refine jk hK ?_
  refine VX.call2 rfl rfl rfl rfl hF12 ?_
  repeat refine jk hK ?_
  refine VX.ef2 rfl (e13 _ _ _ _ rfl rfl) rfl ?_
  refine VX.rdp rfl (fun _=>rfl) ?_
  refine VX.fin rfl ?_
  repeat refine jj ?_
  have hl1':=k1.1
  have hl10:=k10.1
  have hl11:=k11.1
  have hLW: ∀b∈rb::(bsV++(F++A)),b≠H.length:=fun b hb hc=>by have:=h12' b hb;omega
  have hLW2: ∀b∈rb::(bsV++(F++A)),H.length<b:=fun b hb=>by have:=h12' b hb;omega
  have hin: ∀i,i<H12.length→i≠H.length→(applyU H12 us)[i]? =H12[i]? :=fun i hi hn=>k13'.2 i hi (by simp [hn])
  have t2:SlR (fun b=>H.length≤b) (applyU H12 us) p10 (0::S2.st):=((hs10.keep fun i hi _=>k11.2 i hi (by simp)).keep fun i hi hik=>hin i hi (by omega)).weak fun i hi hik=>by omega
  have t3:SlR (fun b=>H.length≤b) (applyU H12 us) p11 S2.nodes:=(hs11.keep fun i hi hik=>hin i hi (by
   rcases hik with h|h
   ·exact hLW i (by simp [h])
   ·omega)).weak fun i hi hik=>by
    rcases hik with h|h
    ·have:=hLW2 i (by simp [h]);omega
    ·omega
  have t4:SlR (fun b=>H.length≤b) (applyU H12 us) p12 S2.moves:=⟨esm2,hs12.keep k13' (fun q hq=>by have:=hLW q.blk (by simp [hq12 q hq]);simpa using this),fun q hq _=>(by have:=hLW2 q.blk (by simp [hq12 q hq]);omega),(hrm.keep (H':=applyU H12 us) fun i _ h=>h.elim).weak fun _ _ h=>h.elim⟩
  exact ⟨.inl rfl,rfl,_,resC2 rfl b13 rfl rfl,(h17.trans k9b (by simp)).trans k13' (fun i hi hl=>by simp at hi;omega),_,rfl,none,0,p10,_,p11,c11,p12,_,rfl,SlR.none',t2,t3,t4⟩
end Dr
end Go.Proofs.YtnjjieohlnhicaaGreatDoor
end
section
namespace Go.Proofs.YtnjjieohlnhicaaGreatDoor
set_option linter.unusedSimpArgs false
set_option linter.unusedVariables false
open Go Go.Wm Go.Proofs Go.RowKit
set_option maxRecDepth 100000
set_option maxHeartbeats 4000000
namespace Dr
theorem known {H:Hp} {sp:Nat} {S:Sys} (h:SysAt H sp S) (hm:S.Sm):FnX Tryz.prog 31 [.ptr (some ⟨sp,0,0⟩)] H fun r H'=>Keep [] H H'∧ ∃q c,r= .sl q S.terms.length c∧SlR (fun b=>H.length≤b∧b<H'.length) H' q S.terms:=by
 refine FnX.enterRow ok31 (Nat.le_of_ble_eq_true rfl) ?_
 repeat refine jj ?_
 refine OD.call rfl rfl rfl (grammar h hm) ?_
 rintro r H1 ⟨k1,q1,d1,q2,d2,q3,d3,q5,d5,rfl,g1,g2,g3,g5⟩
 repeat refine jj ?_
 exact ⟨.inl rfl,rfl,_,rfl,k1,q1,d1,rfl,g1⟩
abbrev Tm:=List UInt8×Int
def tixN (ts:List Tm):Nat→List UInt8→Option Nat
 |0,_=>none
 |i+1,s=>if (ts[i]?).map (·.1)=some s then some i else tixN ts i s
def tmF (ts:List Tm):Nat→List (List UInt8×VV)
 |0=>[]
 |i+1=>match ts[i]? with|some t=>mput (tmF ts i) t.1 (.int .i64 (i:Int))|none=>tmF ts i
theorem tmF_get (ts:List Tm) (s:List UInt8): ∀i,mget (tmF ts i) s=(tixN ts i s).map (fun n:Nat=>VV.int .i64 (Int.ofNat n))
 |0=>rfl
 |i+1=>by
  unfold tmF tixN
  cases h:ts[i]? with
  |none=>simp;exact tmF_get ts s i
  |some t=>
   simp only [Option.map_some,Option.some.injEq]
   rw [mget_mput,tmF_get ts s i]
   by_cases e:s=t.1
   ·rw [if_pos e,if_pos e.symm];rfl
   ·rw [if_neg e,if_neg (fun h=>e h.symm)]
def tok (ts:List Tm) (s:List UInt8):Int:=(((tixN ts ts.length s).getD 0:Nat):Int)
theorem tok_lk (ts:List Tm) (s:List UInt8):(mget (tmF ts ts.length) s).getD (.int .i64 0)= .int .i64 (tok ts s):=by
 rw [tmF_get]
 unfold tok
 cases tixN ts ts.length s<;>rfl
theorem tmap {H:Hp} {sp:Nat} {S:Sys} {pr:Option PA} {cr:Nat} {raws:List (List UInt8)} (h:SysAt H sp S) (hm:S.Sm) (hne:S.terms≠[]) (hr:SlR (fun _=>True) H pr raws) (hl:raws.length≤1000000000) (hall: ∀s∈raws,tok S.terms s≠0):
 FnX Tryz.prog 13 [.ptr (some ⟨sp,0,0⟩),.sl pr raws.length cr] H fun r H'=>Keep [] H H'∧ ∃p c,r= .tup [.sl p raws.length c,.int .i64 0,.int .i64 0]∧Sl H' p 1 (intEs (raws.map (tok S.terms))):=by
 refine FnX.enterRow ok13 (Nat.le_of_ble_eq_true rfl) ?_
 have hn0:0<S.terms.length:=List.length_pos_iff.2 hne
 have hnT:=hm.terms
 repeat refine jj ?_
 refine OD.call rfl rfl rfl (known h hm) ?_
 rintro r H1 ⟨k1,q1,d1,rfl,g1⟩
 repeat refine jj ?_
 refine OD.mk (α:=List UInt8) rfl fun H2 m2 k2 n2=> ?_
 have hl1:=k1.1
 have k02:=k1.trans k2 (by simp)
 repeat refine jj ?_
 refine WD.loop (fun n F H'=> ∃k:Nat,n=S.terms.length-k∧k≤S.terms.length∧Cov [(1,.sl pr raws.length cr),(8,.map (some H1.length)),(21,.sl q1 S.terms.length d1),(22,.int .i64 S.terms.length),(23,.int .i64 k)] F∧F.get dslot=none∧Keep [H1.length] H2 H'∧MpR H' H1.length (tmF S.terms k)) S.terms.length ⟨0,rfl,Nat.zero_le _,⟨rfl,rfl,rfl,rfl,rfl,trivial⟩,rfl,Keep.refl _,m2⟩ ?_
 rintro n F H3 ⟨k,rfl,hk,hc,hd,k3,m3⟩
 refine WD.cov hc hd rfl ?_
 have hl3:=k3.1
 have g3:=(g1.keep (H':=H2) fun i hi _=>k2.2 i hi (by simp)).keep (H':=H3) fun i hi hik=>k3.2 i hi (by simp;omega)
 by_cases hkl:k<S.terms.length
 ·have hlk:S.terms[k]? =some S.terms[k]:=List.getElem?_eq_getElem hkl
  generalize S.terms[k]=t at hlk
  obtain ⟨e,he,hlds⟩:=g3.get hlk
  obtain ⟨_,_,rfl,rfl,rfl⟩:=he
  have hmt:=m3.lt
  repeat refine jj ?_
  refine OD.rd rfl (ev_ixR g3 rfl rfl (by omega) (by omega) rfl) ?_
  rw [Int.toNat_natCast]
  refine OD.rd rfl (ev_ldS rfl hlds) ?_
  refine OD.al rfl fun H6 a6 k6 n6=> ?_
  repeat refine jj ?_
  refine OD.st rfl rfl rfl a6 rfl rfl rfl (Nat.le_of_ble_eq_true rfl) rfl fun H7 a7 k7 n7=> ?_
  have m7:=(m3.keep k6 (by simp)).keep k7 (by simp;omega)
  obtain ⟨us,e1,e2,e3,e4⟩:=ev_mset (k:=t.1) (u:= .int .i64 (k:Int)) m7
  repeat refine jj ?_
  refine OD.ef rfl (e1 _ _ _ _ _ rfl rfl rfl) ?_
  repeat refine jj ?_
  refine ⟨_,by omega,k+1,rfl,by omega,⟨rfl,rfl,rfl,rfl,by rw [Int.natCast_add];rfl,trivial⟩,rfl,((k3.trans k6 (by simp)).trans k7 (fun i hi hl=>by simp at hi;omega)).trans e3 (fun i hi hl=>hi),?_⟩
  have:tmF S.terms (k+1)=mput (tmF S.terms k) t.1 (.int .i64 (k:Int)):=by simp only [tmF,hlk]
  rw [this];exact e2
 ·obtain rfl:k=S.terms.length:=by omega
  have hr3:=hr.keep (H':=H3) fun i hi _=>by rw [k3.2 i (by omega) (by simp;omega)];exact k02.2 i hi (by simp)
  have k03:Keep [] H H3:=k02.trans k3 (fun i hi hl=>by simp at hi;omega)
  repeat refine jj ?_
  refine WD.loop (fun n F H'=> ∃(k:Nat) (bs:List Nat) (v:VV),n=raws.length-k∧k≤raws.length∧Cov [(8,.map (some H1.length)),(11,v),(33,.sl pr raws.length cr),(34,.int .i64 raws.length),(35,.int .i64 k)] F∧F.get dslot=none∧Keep [] H3 H'∧BufR nok H' bs 3 v ((raws.take k).map (tok S.terms))∧ ∀b∈bs,H3.length≤b) raws.length ⟨0,[],_,rfl,Nat.zero_le _,⟨rfl,rfl,rfl,rfl,rfl,trivial⟩,rfl,Keep.refl _,BufR.nil _ _ _,by simp⟩ ?_
  rintro n F H4 ⟨k,bs,v,rfl,hk,hc,hd,k4,hb,hbs⟩
  refine WD.cov hc hd rfl ?_
  have hr4:=hr3.keep (H':=H4) fun i hi _=>k4.2 i hi (by simp)
  have m4:=m3.keep k4 (by simp)
  have hl4:=k4.1
  by_cases hkl:k<raws.length
  ·have hlk:raws[k]? =some raws[k]:=List.getElem?_eq_getElem hkl
   have htk:raws.take (k+1)=raws.take k++[raws[k]]:=by rw [List.take_add_one,hlk];rfl
   have hnz:=hall raws[k] (List.getElem_mem hkl)
   generalize raws[k]=s at hlk htk hnz
   obtain ⟨es,hs4,_,he4⟩:=id hr4
   obtain ⟨e,he,hrep⟩:=he4.get hlk
   obtain rfl:e=[.str s]:=hrep
   have hkl2:((raws.take k).map (tok S.terms)).length=k:=by rw [List.length_map,List.length_take];omega
   repeat refine jj ?_
   refine OD.rd rfl (ev_ixR hr4 rfl rfl (by omega) (by omega) rfl) ?_
   rw [Int.toNat_natCast]
   refine OD.rd rfl (ev_ld (r:=[]) hs4 rfl he) ?_
   repeat refine jj ?_
   refine OD.rd rfl (v:= .int .i64 (tok S.terms s)) (by rw [←tok_lk];exact ev_lkp m4 rfl rfl) ?_
   repeat refine jj ?_
   refine OD.app1 (α:=Int) (bytes:=8) (ok:=nok) (x:=tok S.terms s) rfl (ev_mkint rfl) rfl hb rfl rfl (fun i h=>h.elim) (by omega) (by omega) fun v' H5 bs' a1 a2 a3=> ?_
   repeat refine jj ?_
   refine ⟨_,by omega,k+1,bs',v',rfl,by omega,⟨rfl,rfl,rfl,rfl,by rw [Int.natCast_add];rfl,trivial⟩,rfl,k4.trans a2 (fun i hi hl=>by have:=hbs i hi;omega),by rw [htk,List.map_append];exact a1,fun b hb=> ?_⟩
   rcases a3 b hb with h|h
   ·exact hbs b h
   ·omega
  ·obtain rfl:k=raws.length:=by omega
   rw [List.take_length] at hb
   obtain ⟨p,c,es,rfl,_,_⟩:=hb.sl
   have hsl:=hb.slI
   repeat refine jj ?_
   refine ⟨.inl rfl,rfl,_,rfl,k03.trans k4 (by simp),p,c,by rw [List.length_map],hsl⟩
theorem packedRun {H:Hp} {sp:Nat} {S:Sys} {fuel:Nat} {p:Option PA} {c:Nat} {row:List Int} {out:Run} {o:Outc} {e:Int} (h:SysAt H sp S) (hm:S.Sm) (hp:S.prods≠[])
 (hs:Sl H p 1 (intEs row)) (hrl:row.length≤500000) (hpr: ∀pr∈S.prods,-1000000000≤pr.1∧pr.1≤4000000000)
 (hg:allF (takeF (tAct S.tab true) (tTgt S.tab true) (dtF S.tab) S.prods S.terms.length fuel) 0 Rn.new (row++[0])=some out) (ho:outF S.tab true fuel out=some (o,e)) (hrow:row.any (badTok S.terms.length)=false):
 FnX Tryz.prog 14 [.ptr (some ⟨sp,0,0⟩),.sl p row.length c] H fun r H'=>Keep [] H H'∧ ∃v,r= .tup [v,.int .i64 e]∧outAt (fun b=>H.length≤b) H' v o:=by
 refine FnX.enterRow ok14 (Nat.le_of_ble_eq_true rfl) ?_
 refine WD.seq ?_
 refine WD.reg ?_
 refine OD.al rfl fun H1 a1 k1 n1=> ?_
 repeat refine jj ?_
 refine OD.call rfl rfl rfl (all (T:=S.tab) (pk:=true) (fuel:=fuel) (out:=out) (o:=o) (e:=e) (fun H1' k=> ?_) (hs.keep k1 (by simp)) hrl (fun pr hpr'=>⟨(hpr pr hpr').1,(hpr pr hpr').2,hm.rights pr hpr'⟩) hg ho hrow) ?_
 ·obtain ⟨r,H2,⟨tb,rfl,h1,h2⟩,hF⟩:=trialOf ((h.ext k1).ext k) hm hp
  exact ⟨tb,H2,hF,h1,h2⟩
 rintro r H2 ⟨k2,v,rfl,hv⟩
 have a2:=a1.keep k2 (by simp)
 obtain ⟨p1,c1,p2,c2,p3,c3,p4,c4,rfl,h1,h2,h3,h4⟩:=id hv
 repeat refine jj ?_
 refine OD.st rfl rfl rfl a2 rfl rfl rfl (Nat.le_of_ble_eq_true rfl) rfl fun H3 a3 k3 n3=> ?_
 repeat refine jj ?_
 exact ⟨.inl rfl,rfl,_,resC2 rfl a3 rfl rfl,(k1.trans k2 (by simp)).trans k3 (fun i hi hl=>by simp at hi;omega),_,rfl,hv.keep k3 (fun i hi=>by simp;omega) fun i hi=>by omega⟩
theorem resC3 {H:Hp} {F:Fr} {s b n s2 s3:Nat} {cs:List VV} {v v2:VV} (hs:F.get s=some (.ptr (some ⟨b,0,0⟩))) (h:Box H b cs) (hn:cs.length=n) (h2:F.get s2=some v) (h3:F.get s3=some v2):resV F H.g [.c s n true,.t s2,.t s3]=some (.tup [.agg cs,v,v2]):=by
 have:=ev_ldBA (E:=F) (x:= .t s) (m:=n) (off:=0) hs h (by omega) rfl
 simp only [resV,resL,this,h2,h3]
 subst hn
 simp
theorem parse {H:Hp} {sp:Nat} {S:Sys} {fuel:Nat} {pr:Option PA} {cr:Nat} {raws:List (List UInt8)} {out:Run} {o:Outc} {e:Int} (h:SysAt H sp S) (hm:S.Sm) (hp:S.prods≠[]) (hne:S.terms≠[]) (hr:SlR (fun _=>True) H pr raws) (hall: ∀s∈raws,tok S.terms s≠0)
 (hrl:raws.length≤500000) (hpr: ∀pr∈S.prods,-1000000000≤pr.1∧pr.1≤4000000000)
 (hg:allF (takeF (tAct S.tab true) (tTgt S.tab true) (dtF S.tab) S.prods S.terms.length fuel) 0 Rn.new (raws.map (tok S.terms)++[0])=some out) (ho:outF S.tab true fuel out=some (o,e)) (hrow:(raws.map (tok S.terms)).any (badTok S.terms.length)=false):
 FnX Tryz.prog 6 [.ptr (some ⟨sp,0,0⟩),.sl pr raws.length cr] H fun r H'=>Keep [] H H'∧ ∃v,r= .tup [v,.int .i64 0,.int .i64 e]∧outAt (fun b=>H.length≤b) H' v o:=by
 refine FnX.enterRow ok6 (Nat.le_of_ble_eq_true rfl) ?_
 refine WD.seq ?_
 refine WD.reg ?_
 refine OD.al rfl fun H1 a1 k1 n1=> ?_
 repeat refine jj ?_
 refine OD.call rfl rfl rfl (tmap (h.ext k1) hm hne (hr.keep (H':=H1) fun i hi _=>k1.2 i hi (by simp)) (by omega) hall) ?_
 rintro r H2 ⟨k2,p,c,rfl,hs⟩
 have hlm:raws.length=(raws.map (tok S.terms)).length:=by simp
 repeat refine jj ?_
 refine OD.call rfl rfl (by rw [hlm];rfl) (packedRun ((h.ext k1).ext k2) hm hp hs (by rw [←hlm];exact hrl) hpr hg ho hrow) ?_
 rintro r H3 ⟨k3,v,rfl,hv⟩
 obtain ⟨p1,c1,p2,c2,p3,c3,p4,c4,rfl,h1,h2,h3,h4⟩:=id hv
 have a3:=(a1.keep k2 (by simp)).keep k3 (by simp)
 repeat refine jj ?_
 refine OD.al rfl fun H4 a4 k4 n4=> ?_
 refine OD.st rfl rfl rfl a4 rfl rfl rfl (Nat.le_of_ble_eq_true rfl) rfl fun H5 a5 k5 n5=> ?_
 have k35:Keep [] H3 H5:=k4.trans k5 (fun i hi hl=>by simp at hi;omega)
 have b5:=a3.keep k35 (by simp)
 have hl2:=k2.1
 have hl3:=k3.1
 repeat refine jj ?_
 refine OD.st rfl rfl rfl b5 rfl rfl rfl (Nat.le_of_ble_eq_true rfl) rfl fun H6 a6 k6 n6=> ?_
 repeat refine jj ?_
 exact ⟨.inl rfl,rfl,_,resC3 rfl a6 rfl rfl rfl,(((k1.trans k2 (by simp)).trans k3 (by simp)).trans k35 (by simp)).trans k6 (fun i hi hl=>by simp at hi;omega),_,rfl,(hv.keep k35 (by simp) fun i hi=>hi).keep k6 (fun i hi=>by simp;omega) fun i hi=>by omega⟩
end Dr
end Go.Proofs.YtnjjieohlnhicaaGreatDoor
end
section
namespace Go.Proofs.YtnjjieohlnhicaaGreatDoor
set_option linter.unusedSimpArgs false
set_option linter.unusedVariables false
open Go Go.Wm Go.Proofs Go.RowKit
set_option maxRecDepth 100000
set_option maxHeartbeats 4000000
namespace Dr
theorem wneg {a:Int} (h: -9223372036854775808≤ -a∧ -a≤9223372036854775807):wrapK .i64 (ineg a)= -a:=by
 rw [ineg_eq,wrapK_eq,IntKind.wrap_i64]
 omega
theorem wsub1 {a:Int} (h: -9223372036854775808≤a-1∧a-1≤9223372036854775807):wrapK .i64 (iadd a (ineg 1))=a-1:=by
 rw [ineg_eq,iadd_eq,wrapK_eq,IntKind.wrap_i64]
 omega
def atF (c:Int):Int:=(if c<0 then-(c+1) else c).tmod 3
theorem atF_lt (c:Int):0≤atF c∧atF c<3:=by
 unfold atF
 split
 ·exact ⟨Int.tmod_nonneg _ (by omega),Int.tmod_lt_of_pos _ (by omega)⟩
 ·exact ⟨Int.tmod_nonneg _ (by omega),Int.tmod_lt_of_pos _ (by omega)⟩
theorem atFn {H:Hp} {c:Int} (h1: -9223372036854775808≤c) (h2:c≤9223372036854775807):FnX Tryz.prog 5 [.int .i64 c,.int .i64 3] H fun r H'=>r= .int .i64 (atF c)∧H'=H:=by
 refine FnX.enterRow ok5 (Nat.le_of_ble_eq_true rfl) ?_
 by_cases hc:c<0
 ·have e:atF c=(-(c+1)).tmod 3:=by unfold atF;rw [if_pos hc]
  rw [e]
  repeat refine jj ?_
  rw [wneg (by omega)]
  repeat refine jj ?_
  exact ⟨.inl rfl,rfl,_,rfl,rfl,rfl⟩
 ·have e:atF c=c.tmod 3:=by unfold atF;rw [if_neg hc]
  rw [e]
  repeat refine jj ?_
  exact ⟨.inl rfl,rfl,_,rfl,rfl,rfl⟩
theorem dangF_bd {l:List Int}: ∀{f i:Nat} {w:List UInt8} {n:Int},dangF f l i=some (w,n)→i≤l.length→(-(l.length:Int)-1≤n∧n≤l.length)∧(0≤n→(w.length:Int)≤8*(n-i))∧(w.length:Int)≤8*((l.length:Int)+1-i)
 |0,i,w,n,h,_=>by cases h
 |f+1,i,w,n,h,hi=>by
  unfold dangF at h
  cases hli:l[i]? with
  |none=>
   rw [hli] at h
   cases h
   simp only [List.length_nil]
   omega
  |some x=>
   rw [hli] at h
   simp only at h
   have hil:=(List.getElem?_eq_some_iff.1 hli).1
   split at h
   ·cases h
    simp only [List.length_nil]
    omega
   ·split at h
    ·cases h
     simp only [List.length_cons,List.length_nil]
     omega
    ·cases hd:dangF f l (i+1) with
     |none=>rw [hd] at h;cases h
     |some r=>
      obtain ⟨a,m⟩:=r
      rw [hd] at h
      simp only at h
      have hb:=dangF_bd hd (by omega)
      split at h
      ·cases h
       simp only [List.length_append,List.length_cons,List.length_nil]
       omega
      ·rename_i hc
       obtain ⟨k,hk,hk2⟩:=idx_inv (l:=l) (i:=m) (x:=1) (by
        cases e:idx l m with
        |none=>exact absurd (.inr (by rw [e];simp)) hc
        |some y=>
         by_cases hy:y=1
         ·rw [hy]
         ·exact absurd (.inr (by rw [e];simp [hy])) hc)
       have hkl:=(List.getElem?_eq_some_iff.1 hk2).1
       cases hd2:dangF f l (m.toNat+1) with
       |none=>rw [hd2] at h;cases h
       |some r=>
        obtain ⟨b,e⟩:=r
        rw [hd2] at h
        cases h
        have hb2:=dangF_bd hd2 (by omega)
        simp only [List.length_append,List.length_cons,List.length_nil]
        omega
theorem dangling {H:Hp} {p:Option PA} {c:Nat} {l:List Int} (hs:Sl H p 1 (intEs l)) (hl:l.length≤1000): ∀(f i:Nat) (w:List UInt8) (n:Int),dangF f l i=some (w,n)→i≤l.length→FnX Tryz.prog 8 [.sl p l.length c,.int .i64 i] H fun r H'=>r= .tup [.str w,.int .i64 n]∧H'=H
 |0,i,w,n,h,_=>by cases h
 |f+1,i,w,n,h,hi=>by
  have hbd:=dangF_bd h hi
  refine FnX.enterRow ok8 (Nat.le_of_ble_eq_true rfl) ?_
  unfold dangF at h
  cases hli:l[i]? with
  |none=>
   rw [hli] at h
   cases h
   have hil:l.length≤i:=List.getElem?_eq_none_iff.1 hli
   repeat refine jj ?_
   rw [wneg (by omega),wsub1 (by omega)]
   exact ⟨.inl rfl,rfl,_,rfl,rfl,rfl⟩
  |some x=>
   rw [hli] at h
   simp only at h
   have hil:=(List.getElem?_eq_some_iff.1 hli).1
   by_cases h1:x=1
   ·subst h1
    cases h
    repeat refine jj ?_
    refine OD.rd rfl (ev_ixI hs rfl rfl rfl hil) ?_
    refine OD.rd rfl (ev_ldI hs rfl hli) ?_
    repeat refine jj ?_
    rw [wneg (by omega),wsub1 (by omega)]
    exact ⟨.inl rfl,rfl,_,rfl,rfl,rfl⟩
   rw [if_neg h1] at h
   by_cases h2:x=2
   ·subst h2
    cases h
    repeat refine jj ?_
    refine OD.rd rfl (ev_ixI hs rfl rfl rfl hil) ?_
    refine OD.rd rfl (ev_ldI hs rfl hli) ?_
    repeat refine jj ?_
    refine OD.rd rfl (ev_ixI hs rfl rfl rfl hil) ?_
    refine OD.rd rfl (ev_ldI hs rfl hli) ?_
    repeat refine jj ?_
    exact ⟨.inl rfl,rfl,_,rfl,rfl,rfl⟩
   rw [if_neg h2] at h
   cases hd:dangF f l (i+1) with
   |none=>rw [hd] at h;cases h
   |some r=>
   obtain ⟨a,m⟩:=r
   rw [hd] at h
   simp only at h
   have hm:=dangF_bd hd (by omega)
   have hrec:=dangling (c:=c) hs hl f (i+1) a m hd (by omega)
   rw [Int.natCast_add] at hrec
   repeat refine jj ?_
   refine OD.rd rfl (ev_ixI hs rfl rfl rfl hil) ?_
   refine OD.rd rfl (ev_ldI hs rfl hli) ?_
   repeat refine jj ?_
   refine OD.rd rfl (ev_ixI hs rfl rfl rfl hil) ?_
   refine OD.rd rfl (ev_ldI hs rfl hli) ?_
   repeat refine jj ?_
   refine OD.call rfl rfl rfl hrec ?_
   rintro r H2 ⟨rfl,rfl⟩
   by_cases hm0:m<0
   ·rw [if_pos (.inl hm0)] at h
    cases h
    repeat refine jj ?_
    refine OD.rd rfl (ev_cat rfl rfl (by simp only [List.length_append,List.length_cons,List.length_nil];omega)) ?_
    refine OD.rd rfl (ev_cat rfl rfl (by simp only [List.length_append,List.length_cons,List.length_nil];omega)) ?_
    repeat refine jj ?_
    exact ⟨.inl rfl,rfl,_,rfl,by simp,rfl⟩
   obtain ⟨k,rfl⟩: ∃k:Nat,m=k:=⟨m.toNat,by omega⟩
   by_cases hkl:k<l.length
   ·have hlk:l[k]? =some l[k]:=List.getElem?_eq_getElem hkl
    have hidx:idx l (k:Int)=some l[k]:=by unfold idx;rw [if_neg (by omega),Int.toNat_natCast];exact hlk
    generalize l[k]=y at hlk hidx
    by_cases hy:y=1
    ·subst hy
     rw [if_neg (by rw [hidx];simp),Int.toNat_natCast] at h
     cases hd2:dangF f l (k+1) with
     |none=>rw [hd2] at h;cases h
     |some r=>
     obtain ⟨b,m2⟩:=r
     rw [hd2] at h
     cases h
     have hrec2:=dangling (c:=c) hs hl f (k+1) b _ hd2 (by omega)
     rw [Int.natCast_add] at hrec2
     repeat refine jj ?_
     refine OD.rd rfl (ev_ixI hs rfl rfl rfl hkl) ?_
     refine OD.rd rfl (ev_ldI hs rfl hlk) ?_
     repeat refine jj ?_
     refine OD.call rfl rfl rfl hrec2 ?_
     rintro r H3 ⟨rfl,rfl⟩
     have hb2:=dangF_bd hd2 (by omega)
     repeat refine jj ?_
     refine OD.rd rfl (ev_cat rfl rfl (by simp only [List.length_append,List.length_cons,List.length_nil];omega)) ?_
     refine OD.rd rfl (ev_cat rfl rfl (by simp only [List.length_append,List.length_cons,List.length_nil];omega)) ?_
     repeat refine jj ?_
     refine OD.rd rfl (ev_cat rfl rfl (by simp only [List.length_append,List.length_cons,List.length_nil];omega)) ?_
     refine OD.rd rfl (ev_cat rfl rfl (by simp only [List.length_append,List.length_cons,List.length_nil];omega)) ?_
     repeat refine jj ?_
     exact ⟨.inl rfl,rfl,_,rfl,by simp,rfl⟩
    ·rw [if_pos (.inr (by rw [hidx];simp [hy]))] at h
     cases h
     repeat refine jj ?_
     refine OD.rd rfl (ev_ixI hs rfl rfl rfl hkl) ?_
     refine OD.rd rfl (ev_ldI hs rfl hlk) ?_
     repeat refine jj ?_
     refine OD.rd rfl (ev_cat rfl rfl (by simp only [List.length_append,List.length_cons,List.length_nil];omega)) ?_
     refine OD.rd rfl (ev_cat rfl rfl (by simp only [List.length_append,List.length_cons,List.length_nil];omega)) ?_
     repeat refine jj ?_
     exact ⟨.inl rfl,rfl,_,rfl,by simp,rfl⟩
   ·rw [if_pos (.inr (by unfold idx;rw [if_neg (by omega),Int.toNat_natCast,List.getElem?_eq_none (by omega)];simp))] at h
    cases h
    repeat refine jj ?_
    refine OD.rd rfl (ev_cat rfl rfl (by simp only [List.length_append,List.length_cons,List.length_nil];omega)) ?_
    refine OD.rd rfl (ev_cat rfl rfl (by simp only [List.length_append,List.length_cons,List.length_nil];omega)) ?_
    repeat refine jj ?_
    exact ⟨.inl rfl,rfl,_,rfl,by simp,rfl⟩
end Dr
end Go.Proofs.YtnjjieohlnhicaaGreatDoor
end
section
namespace Go.Proofs.YtnjjieohlnhicaaGreatDoor
set_option linter.unusedSimpArgs false
set_option linter.unusedVariables false
open Go Go.Wm Go.Proofs Go.RowKit
set_option maxRecDepth 100000
set_option maxHeartbeats 4000000
namespace Dr
theorem mapM_get {g:Int→Option Str}: ∀{l:List Int} {ss:List Str},l.mapM g=some ss→l.length=ss.length∧ ∀(j:Nat) q,l[j]? =some q→ ∃s,ss[j]? =some s∧g q=some s
 |[],ss,h=>by
  obtain rfl:[]=ss:=by simpa using h
  exact ⟨rfl,fun j q h=>by simp at h⟩
 |x::l,ss,h=>by
  rw [List.mapM_cons] at h
  obtain ⟨s,h1,h2⟩:=Option.bind_eq_some_iff.1 h
  obtain ⟨ss2,h3,h4⟩:=Option.bind_eq_some_iff.1 h2
  cases h4
  obtain ⟨e1,e2⟩:=mapM_get h3
  refine ⟨by simp [e1],fun j q hq=> ?_⟩
  cases j with
  |zero=>cases hq;exact ⟨s,rfl,h1⟩
  |succ j=>exact e2 j q hq
def nmD (S:Sys) (sym:Int):Option Str:=(idx S.terms sym).map (·.1)
theorem grouped {S:Sys} (hm:S.Sm) {nodes:List Nd} (hn:nodes.length≤1000000) (hk: ∀x∈nodes,x.2.2.2.length≤1000000): ∀(f:Nat) (k:Int) (s:Str) {H:Hp} {gv:VV} {pn:Option PA} {cn:Nat},grp (nmD S) nodes f k=some s→grAt (fun _=>True) H gv S→SlR (fun _=>True) H pn nodes→s.length≤1000000→
 FnX Tryz.prog 9 [gv,.sl pn nodes.length cn,.int .i64 k] H fun r H'=>r= .str s∧H'=H
 |0,k,s,H,gv,pn,cn,h,_,_,_=>by cases h
 |f+1,k,s,H,gv,pn,cn,h,hg,hs,hsl=>by
  refine FnX.tidy rfl (FnX.enterRow ok9 (Nat.le_of_ble_eq_true rfl) ?_)
  obtain ⟨p1,c1,p2,c2,p3,c3,p5,c5,rfl,g1,g2,g3,g5⟩:=id hg
  unfold grp at h
  cases hx:idx nodes k with
  |none=>rw [hx] at h;cases h
  |some x=>
  rw [hx] at h
  simp only at h
  obtain ⟨m,rfl,hxm⟩:=idx_inv hx
  have hml:=(List.getElem?_eq_some_iff.1 hxm).1
  have hkx:=hk x (List.mem_of_getElem? hxm)
  refine WD.seq ?_
  refine WD.reg ?_
  refine OD.bx rfl rfl rfl rfl rfl fun H1 b1 k1 n1=> ?_
  have s1:=hs.keep (H':=H1) fun i hi _=>k1.2 i hi (by simp)
  obtain ⟨e,he,hlds⟩:=s1.get hxm
  obtain ⟨_,_,rfl,rfl,_,_,rfl,rfl,_,_,rfl,rfl,q,cq,rfl,hq⟩:=he
  repeat first|refine OD.sk rfl ?_|(refine OD.rd (x:= .mv _) rfl (by first|exact rfl|assumption) ?_)|(refine OD.rd rfl (by first|exact ev_add2 rfl rfl (by omega)|exact ev_sub2 rfl rfl (by omega)|exact ev_cT rfl rfl (by first|exact rfl|(dsimp only [cmpT];omega))|exact ev_cF rfl rfl (by first|exact rfl|(dsimp only [cmpF];omega))|exact ev_sT rfl rfl (by assumption)|exact ev_sF rfl rfl (by assumption)|exact ev_slst3 rfl rfl rfl (by omega)|exact ev_ixs rfl rfl (by omega) (by assumption)|exact ev_ldB rfl (by assumption) (by exact rfl)|exact ev_ldBA rfl (by assumption) (by exact Nat.le_of_ble_eq_true rfl) (by exact rfl)|exact rfl|assumption) ?_)|refine OD.fin ?_|refine WD.seq ?_|refine WD.reg ?_|refine WD.skip ?_|refine WD.exit ?_|refine WD.ret ?_|refine WD.condT rfl ?_|refine WD.condF rfl ?_|refine WD.block ?_|rw [then_normal]|rw [then_ret]|rw [then_exit]|rw [inB_normal]|rw [inB_ret]|rw [inB_exit,if_pos rfl]|rw [inB_exit,if_neg (by decide)]
  refine OD.rd rfl (ev_ixR s1 rfl rfl (by omega) (by omega) rfl) ?_
  rw [Int.toNat_natCast]
  refine OD.rd rfl (ev_ldS rfl hlds) ?_
  refine OD.al rfl fun H2 a2 k2 n2=> ?_
  refine OD.st rfl rfl rfl a2 rfl rfl rfl (Nat.le_of_ble_eq_true rfl) rfl fun H3 a3 k3 n3=> ?_
  have k13:Keep [] H1 H3:=k2.trans k3 (fun i hi hl=>by simp at hi;omega)
  have k03:=k1.trans k13 (by simp)
  have b3:=b1.keep k13 (by simp)
  have q3:=hq.keep (H':=H3) fun i hi _=>k13.2 i hi (by simp)
  have t3:=g1.keep (H':=H3) fun i hi _=>k03.2 i hi (by simp)
  have n3':=hs.keep (H':=H3) fun i hi _=>k03.2 i hi (by simp)
  have hq0:cq=cq:=rfl
  by_cases hp:x.2.1<0
  ·rw [if_pos hp] at h
   obtain ⟨y,hy,rfl⟩:=Option.map_eq_some_iff.1 h
   obtain ⟨j,hj,hyj⟩:=idx_inv hy
   have hjl:=(List.getElem?_eq_some_iff.1 hyj).1
   have htl:=hm.terms
   obtain ⟨e,he,hlt⟩:=t3.get hyj
   obtain ⟨_,_,rfl,rfl,rfl⟩:=he
   repeat first|refine OD.sk rfl ?_|(refine OD.rd (x:= .mv _) rfl (by first|exact rfl|assumption) ?_)|(refine OD.rd rfl (by first|exact ev_add2 rfl rfl (by omega)|exact ev_sub2 rfl rfl (by omega)|exact ev_cT rfl rfl (by first|exact rfl|(dsimp only [cmpT];omega))|exact ev_cF rfl rfl (by first|exact rfl|(dsimp only [cmpF];omega))|exact ev_sT rfl rfl (by assumption)|exact ev_sF rfl rfl (by assumption)|exact ev_slst3 rfl rfl rfl (by omega)|exact ev_ixs rfl rfl (by omega) (by assumption)|exact ev_ldB rfl (by assumption) (by exact rfl)|exact ev_ldBA rfl (by assumption) (by exact Nat.le_of_ble_eq_true rfl) (by exact rfl)|exact rfl|assumption) ?_)|refine OD.fin ?_|refine WD.seq ?_|refine WD.reg ?_|refine WD.skip ?_|refine WD.exit ?_|refine WD.ret ?_|refine WD.condT rfl ?_|refine WD.condF rfl ?_|refine WD.block ?_|rw [then_normal]|rw [then_ret]|rw [then_exit]|rw [inB_normal]|rw [inB_ret]|rw [inB_exit,if_pos rfl]|rw [inB_exit,if_neg (by decide)]
   refine OD.rd rfl (ev_ixR t3 rfl rfl (by omega) (by omega) rfl) ?_
   rw [show x.1.toNat=j by omega]
   refine OD.rd rfl (ev_fa rfl) ?_
   refine OD.rd rfl (ev_ldO rfl hlt rfl) ?_
   repeat first|refine OD.sk rfl ?_|(refine OD.rd (x:= .mv _) rfl (by first|exact rfl|assumption) ?_)|(refine OD.rd rfl (by first|exact ev_add2 rfl rfl (by omega)|exact ev_sub2 rfl rfl (by omega)|exact ev_cT rfl rfl (by first|exact rfl|(dsimp only [cmpT];omega))|exact ev_cF rfl rfl (by first|exact rfl|(dsimp only [cmpF];omega))|exact ev_sT rfl rfl (by assumption)|exact ev_sF rfl rfl (by assumption)|exact ev_slst3 rfl rfl rfl (by omega)|exact ev_ixs rfl rfl (by omega) (by assumption)|exact ev_ldB rfl (by assumption) (by exact rfl)|exact ev_ldBA rfl (by assumption) (by exact Nat.le_of_ble_eq_true rfl) (by exact rfl)|exact rfl|assumption) ?_)|refine OD.fin ?_|refine WD.seq ?_|refine WD.reg ?_|refine WD.skip ?_|refine WD.exit ?_|refine WD.ret ?_|refine WD.condT rfl ?_|refine WD.condF rfl ?_|refine WD.block ?_|rw [then_normal]|rw [then_ret]|rw [then_exit]|rw [inB_normal]|rw [inB_ret]|rw [inB_exit,if_pos rfl]|rw [inB_exit,if_neg (by decide)]
   exact ⟨.inl rfl,rfl,_,rfl,rfl,k03⟩
  rw [if_neg hp] at h
  split at h
  rotate_left
  ·cases h
  rename_i hall
  cases hmm:x.2.2.2.mapM (grp (nmD S) nodes f) with
  |none=>rw [hmm] at h;cases h
  |some ss=>
  rw [hmm] at h
  obtain ⟨hsl2,hget⟩:=mapM_get hmm
  simp only [Option.some.injEq] at h
  have hfl:ss.flatten.length≤s.length:=by
   rw [←h]
   split
   ·simp;omega
   ·exact Nat.le_refl _
  repeat first|refine OD.sk rfl ?_|(refine OD.rd (x:= .mv _) rfl (by first|exact rfl|assumption) ?_)|(refine OD.rd rfl (by first|exact ev_add2 rfl rfl (by omega)|exact ev_sub2 rfl rfl (by omega)|exact ev_cT rfl rfl (by first|exact rfl|(dsimp only [cmpT];omega))|exact ev_cF rfl rfl (by first|exact rfl|(dsimp only [cmpF];omega))|exact ev_sT rfl rfl (by assumption)|exact ev_sF rfl rfl (by assumption)|exact ev_slst3 rfl rfl rfl (by omega)|exact ev_ixs rfl rfl (by omega) (by assumption)|exact ev_ldB rfl (by assumption) (by exact rfl)|exact ev_ldBA rfl (by assumption) (by exact Nat.le_of_ble_eq_true rfl) (by exact rfl)|exact rfl|assumption) ?_)|refine OD.fin ?_|refine WD.seq ?_|refine WD.reg ?_|refine WD.skip ?_|refine WD.exit ?_|refine WD.ret ?_|refine WD.condT rfl ?_|refine WD.condF rfl ?_|refine WD.block ?_|rw [then_normal]|rw [then_ret]|rw [then_exit]|rw [inB_normal]|rw [inB_ret]|rw [inB_exit,if_pos rfl]|rw [inB_exit,if_neg (by decide)]
  refine WD.loop (fun n F H'=> ∃j:Nat,n=x.2.2.2.length-j∧j≤x.2.2.2.length∧Cov [(1,.sl pn nodes.length cn),(2,.int .i64 m),(3,.ptr (some ⟨H.length,0,0⟩)),(7,.ptr (some ⟨H1.length,0,0⟩)),(8,.str (ss.take j).flatten),(9,.int .i64 j)] F∧F.get dslot=none∧H'=H3) x.2.2.2.length ⟨0,rfl,Nat.zero_le _,⟨rfl,rfl,rfl,rfl,rfl,rfl,trivial⟩,rfl,rfl⟩ ?_
  rintro n F H' ⟨j,rfl,hj,hc,hd,rfl⟩
  refine WD.cov hc hd rfl ?_
  by_cases hjl:j<x.2.2.2.length
  ·have hlj:x.2.2.2[j]? =some x.2.2.2[j]:=List.getElem?_eq_getElem hjl
   have hlt:x.2.2.2[j]<m:=by
    have:=List.all_eq_true.1 hall x.2.2.2[j] (List.getElem_mem hjl)
    simpa using this
   generalize x.2.2.2[j]=y at hlj hlt
   obtain ⟨sj,hsj,hgj⟩:=hget j y hlj
   have htk:(ss.take (j+1)).flatten=(ss.take j).flatten++sj:=flat_take hsj
   have hfj:=flat_len ss (j+1)
   rw [htk,List.length_append] at hfj
   have hrec:=grouped hm hn hk f y sj (H:=H') (gv:= .agg [.sl p1 S.terms.length c1,.sl p2 S.nons.length c2,.sl p3 S.levels.length c3,.int .i64 S.start,.sl p5 S.prods.length c5]) (pn:=pn) (cn:=cn) hgj ⟨p1,c1,p2,c2,p3,c3,p5,c5,rfl,t3,g2.keep fun i hi _=>k03.2 i hi (by simp),g3.keep fun i hi _=>k03.2 i hi (by simp),g5.keep fun i hi _=>k03.2 i hi (by simp)⟩ n3' (by omega)
   obtain ⟨r,H4,⟨rfl,rfl⟩,hF⟩:=hrec
   repeat first|refine OD.sk rfl ?_|(refine OD.rd (x:= .mv _) rfl (by first|exact rfl|assumption) ?_)|(refine OD.rd rfl (by first|exact ev_add2 rfl rfl (by omega)|exact ev_sub2 rfl rfl (by omega)|exact ev_cT rfl rfl (by first|exact rfl|(dsimp only [cmpT];omega))|exact ev_cF rfl rfl (by first|exact rfl|(dsimp only [cmpF];omega))|exact ev_sT rfl rfl (by assumption)|exact ev_sF rfl rfl (by assumption)|exact ev_slst3 rfl rfl rfl (by omega)|exact ev_ixs rfl rfl (by omega) (by assumption)|exact ev_ldB rfl (by assumption) (by exact rfl)|exact ev_ldBA rfl (by assumption) (by exact Nat.le_of_ble_eq_true rfl) (by exact rfl)|exact rfl|assumption) ?_)|refine OD.fin ?_|refine WD.seq ?_|refine WD.reg ?_|refine WD.skip ?_|refine WD.exit ?_|refine WD.ret ?_|refine WD.condT rfl ?_|refine WD.condF rfl ?_|refine WD.block ?_|rw [then_normal]|rw [then_ret]|rw [then_exit]|rw [inB_normal]|rw [inB_ret]|rw [inB_exit,if_pos rfl]|rw [inB_exit,if_neg (by decide)]
   refine OD.rd rfl (ev_ixI q3.ints rfl rfl rfl hjl) ?_
   refine OD.rd rfl (ev_ldI q3.ints rfl hlj) ?_
   repeat first|refine OD.sk rfl ?_|(refine OD.rd (x:= .mv _) rfl (by first|exact rfl|assumption) ?_)|(refine OD.rd rfl (by first|exact ev_add2 rfl rfl (by omega)|exact ev_sub2 rfl rfl (by omega)|exact ev_cT rfl rfl (by first|exact rfl|(dsimp only [cmpT];omega))|exact ev_cF rfl rfl (by first|exact rfl|(dsimp only [cmpF];omega))|exact ev_sT rfl rfl (by assumption)|exact ev_sF rfl rfl (by assumption)|exact ev_slst3 rfl rfl rfl (by omega)|exact ev_ixs rfl rfl (by omega) (by assumption)|exact ev_ldB rfl (by assumption) (by exact rfl)|exact ev_ldBA rfl (by assumption) (by exact Nat.le_of_ble_eq_true rfl) (by exact rfl)|exact rfl|assumption) ?_)|refine OD.fin ?_|refine WD.seq ?_|refine WD.reg ?_|refine WD.skip ?_|refine WD.exit ?_|refine WD.ret ?_|refine WD.condT rfl ?_|refine WD.condF rfl ?_|refine WD.block ?_|rw [then_normal]|rw [then_ret]|rw [then_exit]|rw [inB_normal]|rw [inB_ret]|rw [inB_exit,if_pos rfl]|rw [inB_exit,if_neg (by decide)]
   refine WD.dreg [H4,H4] mixed rfl ?_
   have hcst:=cst2 H4
   repeat first|refine VX.sk1 rfl ?_|(refine VX.rdc (by assumption) (x:= .mv _) rfl (by first|exact rfl|assumption) ?_)|(refine VX.rdc (by assumption) rfl (by first|exact ev_add2 rfl rfl (by omega)|exact ev_sub2 rfl rfl (by omega)|exact ev_cT rfl rfl (by first|exact rfl|(dsimp only [cmpT];omega))|exact ev_cF rfl rfl (by first|exact rfl|(dsimp only [cmpF];omega))|exact ev_sT rfl rfl (by assumption)|exact ev_sF rfl rfl (by assumption)|exact ev_slst3 rfl rfl rfl (by omega)|exact ev_ixs rfl rfl (by omega) (by assumption)|exact ev_ldB rfl (by assumption) (by exact rfl)|exact ev_ldBA rfl (by assumption) (by exact Nat.le_of_ble_eq_true rfl) (by exact rfl)|exact rfl|assumption) ?_)|refine VX.fin rfl ?_
   refine VX.rdc hcst rfl (ev_ixI q3.ints rfl rfl rfl hjl) ?_
   refine VX.rdc hcst rfl (ev_ldI q3.ints rfl hlj) ?_
   repeat first|refine VX.sk1 rfl ?_|(refine VX.rdc (by assumption) (x:= .mv _) rfl (by first|exact rfl|assumption) ?_)|(refine VX.rdc (by assumption) rfl (by first|exact ev_add2 rfl rfl (by omega)|exact ev_sub2 rfl rfl (by omega)|exact ev_cT rfl rfl (by first|exact rfl|(dsimp only [cmpT];omega))|exact ev_cF rfl rfl (by first|exact rfl|(dsimp only [cmpF];omega))|exact ev_sT rfl rfl (by assumption)|exact ev_sF rfl rfl (by assumption)|exact ev_slst3 rfl rfl rfl (by omega)|exact ev_ixs rfl rfl (by omega) (by assumption)|exact ev_ldB rfl (by assumption) (by exact rfl)|exact ev_ldBA rfl (by assumption) (by exact Nat.le_of_ble_eq_true rfl) (by exact rfl)|exact rfl|assumption) ?_)|refine VX.fin rfl ?_
   refine VX.call2 rfl rfl rfl rfl hF ?_
   refine VX.rdp rfl (fun _=>ev_cat rfl rfl (by omega)) ?_
   repeat first|refine VX.sk1 rfl ?_|(refine VX.rdc (by assumption) (x:= .mv _) rfl (by first|exact rfl|assumption) ?_)|(refine VX.rdc (by assumption) rfl (by first|exact ev_add2 rfl rfl (by omega)|exact ev_sub2 rfl rfl (by omega)|exact ev_cT rfl rfl (by first|exact rfl|(dsimp only [cmpT];omega))|exact ev_cF rfl rfl (by first|exact rfl|(dsimp only [cmpF];omega))|exact ev_sT rfl rfl (by assumption)|exact ev_sF rfl rfl (by assumption)|exact ev_slst3 rfl rfl rfl (by omega)|exact ev_ixs rfl rfl (by omega) (by assumption)|exact ev_ldB rfl (by assumption) (by exact rfl)|exact ev_ldBA rfl (by assumption) (by exact Nat.le_of_ble_eq_true rfl) (by exact rfl)|exact rfl|assumption) ?_)|refine VX.fin rfl ?_
   repeat first|refine OD.sk rfl ?_|(refine OD.rd (x:= .mv _) rfl (by first|exact rfl|assumption) ?_)|(refine OD.rd rfl (by first|exact ev_add2 rfl rfl (by omega)|exact ev_sub2 rfl rfl (by omega)|exact ev_cT rfl rfl (by first|exact rfl|(dsimp only [cmpT];omega))|exact ev_cF rfl rfl (by first|exact rfl|(dsimp only [cmpF];omega))|exact ev_sT rfl rfl (by assumption)|exact ev_sF rfl rfl (by assumption)|exact ev_slst3 rfl rfl rfl (by omega)|exact ev_ixs rfl rfl (by omega) (by assumption)|exact ev_ldB rfl (by assumption) (by exact rfl)|exact ev_ldBA rfl (by assumption) (by exact Nat.le_of_ble_eq_true rfl) (by exact rfl)|exact rfl|assumption) ?_)|refine OD.fin ?_|refine WD.seq ?_|refine WD.reg ?_|refine WD.skip ?_|refine WD.exit ?_|refine WD.ret ?_|refine WD.condT rfl ?_|refine WD.condF rfl ?_|refine WD.block ?_|rw [then_normal]|rw [then_ret]|rw [then_exit]|rw [inB_normal]|rw [inB_ret]|rw [inB_exit,if_pos rfl]|rw [inB_exit,if_neg (by decide)]
   repeat first|refine OD.sk rfl ?_|(refine OD.rd (x:= .mv _) rfl (by first|exact rfl|assumption) ?_)|(refine OD.rd rfl (by first|exact ev_add2 rfl rfl (by omega)|exact ev_sub2 rfl rfl (by omega)|exact ev_cT rfl rfl (by first|exact rfl|(dsimp only [cmpT];omega))|exact ev_cF rfl rfl (by first|exact rfl|(dsimp only [cmpF];omega))|exact ev_sT rfl rfl (by assumption)|exact ev_sF rfl rfl (by assumption)|exact ev_slst3 rfl rfl rfl (by omega)|exact ev_ixs rfl rfl (by omega) (by assumption)|exact ev_ldB rfl (by assumption) (by exact rfl)|exact ev_ldBA rfl (by assumption) (by exact Nat.le_of_ble_eq_true rfl) (by exact rfl)|exact rfl|assumption) ?_)|refine OD.fin ?_|refine WD.seq ?_|refine WD.reg ?_|refine WD.skip ?_|refine WD.exit ?_|refine WD.ret ?_|refine WD.condT rfl ?_|refine WD.condF rfl ?_|refine WD.block ?_|rw [then_normal]|rw [then_ret]|rw [then_exit]|rw [inB_normal]|rw [inB_ret]|rw [inB_exit,if_pos rfl]|rw [inB_exit,if_neg (by decide)]
   exact ⟨_,by omega,j+1,rfl,hjl,⟨rfl,rfl,rfl,rfl,by rw [htk];rfl,by rw [Int.natCast_add];rfl,trivial⟩,rfl,rfl⟩
  ·obtain rfl:j=x.2.2.2.length:=by omega
   rw [show ss.take x.2.2.2.length=ss by rw [hsl2,List.take_length]]
   by_cases hm1:1<x.2.2.2.length
   ·rw [if_pos hm1] at h
    subst h
    simp only [List.length_append,List.length_cons,List.length_nil] at hsl
    repeat first|refine OD.sk rfl ?_|(refine OD.rd (x:= .mv _) rfl (by first|exact rfl|assumption) ?_)|(refine OD.rd rfl (by first|exact ev_add2 rfl rfl (by omega)|exact ev_sub2 rfl rfl (by omega)|exact ev_cT rfl rfl (by first|exact rfl|(dsimp only [cmpT];omega))|exact ev_cF rfl rfl (by first|exact rfl|(dsimp only [cmpF];omega))|exact ev_sT rfl rfl (by assumption)|exact ev_sF rfl rfl (by assumption)|exact ev_slst3 rfl rfl rfl (by omega)|exact ev_ixs rfl rfl (by omega) (by assumption)|exact ev_ldB rfl (by assumption) (by exact rfl)|exact ev_ldBA rfl (by assumption) (by exact Nat.le_of_ble_eq_true rfl) (by exact rfl)|exact rfl|assumption) ?_)|refine OD.fin ?_|refine WD.seq ?_|refine WD.reg ?_|refine WD.skip ?_|refine WD.exit ?_|refine WD.ret ?_|refine WD.condT rfl ?_|refine WD.condF rfl ?_|refine WD.block ?_|rw [then_normal]|rw [then_ret]|rw [then_exit]|rw [inB_normal]|rw [inB_ret]|rw [inB_exit,if_pos rfl]|rw [inB_exit,if_neg (by decide)]
    refine OD.rd rfl (ev_cat rfl rfl (by simp only [List.length_append,List.length_cons,List.length_nil];omega)) ?_
    refine OD.rd rfl (ev_cat rfl rfl (by simp only [List.length_append,List.length_cons,List.length_nil];omega)) ?_
    repeat first|refine OD.sk rfl ?_|(refine OD.rd (x:= .mv _) rfl (by first|exact rfl|assumption) ?_)|(refine OD.rd rfl (by first|exact ev_add2 rfl rfl (by omega)|exact ev_sub2 rfl rfl (by omega)|exact ev_cT rfl rfl (by first|exact rfl|(dsimp only [cmpT];omega))|exact ev_cF rfl rfl (by first|exact rfl|(dsimp only [cmpF];omega))|exact ev_sT rfl rfl (by assumption)|exact ev_sF rfl rfl (by assumption)|exact ev_slst3 rfl rfl rfl (by omega)|exact ev_ixs rfl rfl (by omega) (by assumption)|exact ev_ldB rfl (by assumption) (by exact rfl)|exact ev_ldBA rfl (by assumption) (by exact Nat.le_of_ble_eq_true rfl) (by exact rfl)|exact rfl|assumption) ?_)|refine OD.fin ?_|refine WD.seq ?_|refine WD.reg ?_|refine WD.skip ?_|refine WD.exit ?_|refine WD.ret ?_|refine WD.condT rfl ?_|refine WD.condF rfl ?_|refine WD.block ?_|rw [then_normal]|rw [then_ret]|rw [then_exit]|rw [inB_normal]|rw [inB_ret]|rw [inB_exit,if_pos rfl]|rw [inB_exit,if_neg (by decide)]
    exact ⟨.inl rfl,rfl,_,rfl,by simp,k03⟩
   ·rw [if_neg hm1] at h
    subst h
    repeat first|refine OD.sk rfl ?_|(refine OD.rd (x:= .mv _) rfl (by first|exact rfl|assumption) ?_)|(refine OD.rd rfl (by first|exact ev_add2 rfl rfl (by omega)|exact ev_sub2 rfl rfl (by omega)|exact ev_cT rfl rfl (by first|exact rfl|(dsimp only [cmpT];omega))|exact ev_cF rfl rfl (by first|exact rfl|(dsimp only [cmpF];omega))|exact ev_sT rfl rfl (by assumption)|exact ev_sF rfl rfl (by assumption)|exact ev_slst3 rfl rfl rfl (by omega)|exact ev_ixs rfl rfl (by omega) (by assumption)|exact ev_ldB rfl (by assumption) (by exact rfl)|exact ev_ldBA rfl (by assumption) (by exact Nat.le_of_ble_eq_true rfl) (by exact rfl)|exact rfl|assumption) ?_)|refine OD.fin ?_|refine WD.seq ?_|refine WD.reg ?_|refine WD.skip ?_|refine WD.exit ?_|refine WD.ret ?_|refine WD.condT rfl ?_|refine WD.condF rfl ?_|refine WD.block ?_|rw [then_normal]|rw [then_ret]|rw [then_exit]|rw [inB_normal]|rw [inB_ret]|rw [inB_exit,if_pos rfl]|rw [inB_exit,if_neg (by decide)]
    exact ⟨.inl rfl,rfl,_,rfl,rfl,k03⟩
end Dr
end Go.Proofs.YtnjjieohlnhicaaGreatDoor
end
section
namespace Go.Proofs.YtnjjieohlnhicaaGreatDoor
set_option linter.unusedSimpArgs false
set_option linter.unusedVariables false
open Go Go.Wm Go.Proofs Go.RowKit
set_option maxRecDepth 100000
set_option maxHeartbeats 4000000
namespace Dr
theorem dgD:DgT (nmD sysD) (tAct sysD.tab true) (tTgt sysD.tab true) (dtF sysD.tab) sysD.prods where
 aif:=by rintro s (rfl|rfl|rfl)<;>rfl
 ax:=by rintro s (rfl|rfl|rfl)<;>rfl
 ano:=by rintro s t (rfl|rfl|rfl) (rfl|rfl)<;>exact ⟨_,rfl,by unfold bad;decide⟩
 a2:=by
  intro t h0 h4
  obtain rfl|rfl|rfl|rfl:t=0∨t=1∨t=2∨t=3:=by omega
  all_goals rfl
 a3:=rfl
 a3n:=by
  intro t h0 h4
  obtain rfl|rfl|rfl:t=1∨t=2∨t=3:=by omega
  all_goals exact ⟨_,rfl,by unfold bad;decide⟩
 a4:=rfl
 a4n:=by rintro t (rfl|rfl|rfl)<;>rfl
 a6:=by
  intro t h0 h4
  obtain rfl|rfl|rfl|rfl:t=0∨t=1∨t=2∨t=3:=by omega
  all_goals rfl
 t0:=rfl
 t1:=rfl
 t5:=rfl
 d0:=rfl
 d1:=rfl
 d5:=rfl
 p1:=⟨_,rfl⟩
 p2:=⟨_,rfl⟩
 p3:=⟨_,rfl⟩
 n1:=rfl
 n2:=rfl
 n3:=rfl
theorem might0 {T:Tab} {pk:Bool} {fuel:Nat} {ss:List Int}: ∀{n:Nat},(∀k:Nat,k<n→ ∃ok st' mv,goesF T pk 0 k fuel ss []=some (ok,0,st',mv))→ ∃l,mightF T pk 0 fuel ss n=some (l,0)
 |0,_=>⟨[],rfl⟩
 |n+1,h=>by
  obtain ⟨l,e⟩:=might0 (n:=n) fun k hk=>h k (by omega)
  obtain ⟨ok,st',mv,e2⟩:=h n (by omega)
  unfold mightF
  rw [e]
  simp only [ne_eq,not_true_eq_false,if_false]
  rw [e2]
  exact ⟨_,rfl⟩
theorem outRef {S:Rn} (hr:RefT (nmD sysD) S) (i:Nat): ∃l,outF sysD.tab true 70 (.refused i S)=some (⟨2,i,l,0::S.st,S.nodes,0,S.moves⟩,0):=by
 obtain ⟨l,e⟩:=might0 (T:=sysD.tab) (pk:=true) (fuel:=70) (ss:=S.st) (n:=4) fun k hk=>by
  obtain ⟨ok,st',mv,e⟩:=ref_goA dgD hr (t:=k) (by omega) (by omega) (f:=69) (by omega)
  exact ⟨ok,st',mv,by rw [goesF_goA];exact e⟩
 refine ⟨l,?_⟩
 show (match mightF sysD.tab true 0 70 S.st 4 with|none=>none|some (l,c)=>if c≠0 then some (Outc.zero,c) else some (⟨2,i,l,0::S.st,S.nodes,0,S.moves⟩,0))=_
 rw [e]
 rfl
theorem allF_wf {act:Int→Int→Option (Int×Int)} {tg dt:Int→Int→Option Int} {prods:List (Int×(List Int×Int))} {nT:Int} {fuel:Nat}: ∀{l:List Int} {i:Nat} {S S':Rn},allF (takeF act tg dt prods nT fuel) i S l=some (.done S')→S.Wf→S.Kd→S'.Wf∧S'.Kd∧S'.nodes.length≤S.nodes.length+1025*l.length
 |[],i,S,S',h,hw,hk=>by cases h;exact ⟨hw,hk,by simp⟩
 |t::l,i,S,S',h,hw,hk=>by
  unfold allF at h
  split at h
  ·cases h
  ·rename_i fits e S2 ht
   obtain ⟨w1,w2,w3,w4,w5⟩:=takeF_wf ht hw hk
   split at h
   ·cases h
   ·split at h
    ·obtain ⟨v1,v2,v3⟩:=allF_wf h w1 w2
     exact ⟨v1,v2,by simp only [List.length_cons];omega⟩
    ·cases h
theorem dangF_ok (l:List Int): ∀(f i:Nat),i≤l.length→l.length-i<f→ ∃w n,dangF f l i=some (w,n)∧((i:Int)<n∨n<0)∧n≤l.length
 |0,i,_,h=>by omega
 |f+1,i,hi,h=>by
  unfold dangF
  cases hli:l[i]? with
  |none=>exact ⟨_,_,rfl,.inr (by omega),by omega⟩
  |some c=>
   have hil:=(List.getElem?_eq_some_iff.1 hli).1
   simp only
   by_cases h1:c=1
   ·rw [if_pos h1];exact ⟨_,_,rfl,.inr (by omega),by omega⟩
   rw [if_neg h1]
   by_cases h2:c=2
   ·rw [if_pos h2];exact ⟨_,_,rfl,.inl (by omega),by omega⟩
   rw [if_neg h2]
   obtain ⟨a,n,e,hn,hn2⟩:=dangF_ok l f (i+1) (by omega) (by omega)
   rw [e]
   simp only
   by_cases hx:n<0∨idx l n≠some 1
   ·rw [if_pos hx];exact ⟨_,_,rfl,by omega,hn2⟩
   ·rw [if_neg hx]
    have hx1: ¬n<0:=fun e=>hx (.inl e)
    have hx2:idx l n=some 1:=Classical.byContradiction fun e=>hx (.inr e)
    have hnl:n<l.length:=by
     obtain ⟨m,rfl,hm⟩:=idx_inv hx2
     have:=(List.getElem?_eq_some_iff.1 hm).1
     omega
    obtain ⟨b,n2,e2,hn3,hn4⟩:=dangF_ok l f (n.toNat+1) (by omega) (by omega)
    rw [e2]
    exact ⟨_,_,rfl,by omega,hn4⟩
def wordOf (c:Int):List UInt8:=if c=0 then [105,102] else if c=1 then [101,108,115,101] else [120]
theorem word_get {c:Int} (h:c=0∨c=1∨c=2): ∃k:Nat,c=k∧[[105,102],[101,108,115,101],[(120:UInt8)]][k]? =some (wordOf c):=by
 obtain rfl|rfl|rfl:=h
 ·exact ⟨0,rfl,rfl⟩
 ·exact ⟨1,rfl,rfl⟩
 ·exact ⟨2,rfl,rfl⟩
theorem tok_word {c:Int} (h:c=0∨c=1∨c=2):tok sysD.terms (wordOf c)=c+1:=by
 obtain rfl|rfl|rfl:=h<;>rfl
theorem toks {l:List Int} (h3: ∀c∈l,c=0∨c=1∨c=2):(l.map wordOf).map (tok sysD.terms)++[0]=rest l 0:=by
 unfold rest
 rw [List.map_map,List.drop_zero]
 congr 1
 exact List.map_congr_left fun c hc=>tok_word (h3 c hc)
theorem key {l:List Int} (hl:l.length≤60) (h3: ∀c∈l,c=0∨c=1∨c=2) {w:Str} {next:Int} {f:Nat} (hd:dangF f l 0=some (w,next)):
 ∃out o,allF (takeF (tAct sysD.tab true) (tTgt sysD.tab true) (dtF sysD.tab) sysD.prods sysD.terms.length 70) 0 Rn.new ((l.map wordOf).map (tok sysD.terms)++[0])=some out∧outF sysD.tab true 70 out=some (o,0)∧
  ((next<0∧o.verdict=2∧o.pos= -next-1)∨(0≤next∧next<l.length∧o.verdict=2∧o.pos=next)∨
    (next=l.length∧o.verdict=1∧o.nodes.length≤1000000∧(∀x∈o.nodes,x.2.2.2.length≤1000000)∧ ∃f,grp (nmD sysD) o.nodes f o.root=some w)):=by
 rw [toks h3]
 have hbd:=dangF_bd hd (Nat.zero_le _)
 rcases dang_all dgD hl h3 (fl:=69) (by omega) hd with ⟨h1,S',hr,h2⟩|⟨h1,h2,S',hr,h4⟩|⟨h1,S',k,h2,⟨f,hG⟩,hk⟩
 ·obtain ⟨l',e⟩:=outRef hr (-next-1).toNat
  exact ⟨_,_,h2,e,.inl ⟨h1,rfl,by simp only;omega⟩⟩
 ·obtain ⟨l',e⟩:=outRef hr next.toNat
  exact ⟨_,_,h4,e,.inr (.inl ⟨h1,h2,rfl,by simp only;omega⟩)⟩
 ·obtain ⟨w1,w2,w3⟩:=allF_wf h2 ⟨rfl,rfl,by simp [Rn.new]⟩ (by intro x hx;simp [Rn.new] at hx)
  have hlr:(rest l 0).length=l.length+1:=by simp [rest]
  have hn:Rn.new.nodes.length=0:=rfl
  refine ⟨_,_,h2,rfl,.inr (.inr ⟨h1,rfl,by simp only;omega,fun x hx=>by have:=w2 x hx;omega,f,?_⟩)⟩
  rw [show ((S'.nodes.length:Int)-1)=k by omega]
  exact hG
end Dr
end Go.Proofs.YtnjjieohlnhicaaGreatDoor
end
section
namespace Go.Proofs.YtnjjieohlnhicaaGreatDoor
set_option linter.unusedSimpArgs false
set_option linter.unusedVariables false
open Go Go.Wm Go.Proofs Go.RowKit
set_option maxRecDepth 100000
set_option maxHeartbeats 4000000
namespace Dr
theorem ev_mkstr {E:Fr} {G:Gt} {n:Nat} {t:TypeId} {x:Od} {y z:List UInt8} (hx:x.ev E=some (.str y)):(VEf.mkrow t [.str z] 1 [(0,x)]).ev E G n=some (.sl (some ⟨n,0,0⟩) 1 1,[(n,.row t .own [[.str y]])]):=by
 simp [VEf.ev,fillRows,hx,VV.defd,VV.cells,okCells,VV.cell]
theorem lawF (X:Blk) (hX:X= .dead∨ ∃t es,X= .row t .ro es) {p:Option PA} {raw:List Int} {c:Nat} (hs:Sl (H0++[X]) p 1 (intEs raw)) (hwf: ∀n∈raw,-9223372036854775808≤n∧n≤9223372036854775807) (hl:raw.length≤9223372036854775807):
 FnX Tryz.prog 3 [.sl p raw.length c] (H0++[X]) fun r _=>r= .bool true:=by
 refine FnX.enterRow ok3 (Nat.le_of_ble_eq_true rfl) ?_
 obtain ⟨HF,hF,kF,hS⟩:=forgeRead X hX
 have hFX:FnX Tryz.prog 4 [.str txt] (H0++[X]) (fun r H'=>r= .tup [.ptr (some ⟨351,0,0⟩),.agg [.int .i64 0,.int .i64 0,.sl none 0 0]]∧H'=HF):=⟨_,_,⟨rfl,rfl⟩,hF⟩
 repeat refine jj ?_
 refine OD.call rfl rfl rfl hFX ?_
 rintro r H1 ⟨rfl,rfl⟩
 repeat refine jj ?_
 refine OD.al rfl fun H2 a2 k2 n2=> ?_
 repeat refine jj ?_
 refine OD.st rfl rfl rfl a2 rfl rfl rfl (Nat.le_of_ble_eq_true rfl) rfl fun H3 a3 k3 n3=> ?_
 have k13:Keep [] H1 H3:=k2.trans k3 (fun i hi hl=>by simp at hi;omega)
 repeat refine jj ?_
 refine OD.ef (us:=[(H3.length,.row 9 .own [[.str [105,102]],[.str [101,108,115,101]],[.str [120]]])]) (v:= .sl (some ⟨H3.length,0,0⟩) 3 3) rfl rfl ?_
 rw [applyU_push]
 obtain ⟨H4,hH4⟩: ∃H4,H4=H3++[Blk.row 9 .own [[.str [105,102]],[.str [101,108,115,101]],[.str [120]]]]:=⟨_,rfl⟩
 rw [←hH4]
 have k34:Keep [] H3 H4:=by rw [hH4];exact ⟨by simp,fun i hi _=>List.getElem?_append_left hi⟩
 have n4:H4.length=H3.length+1:=by rw [hH4];simp
 have hwd:SlR (fun _=>True) H4 (some ⟨H3.length,0,0⟩) [[105,102],[101,108,115,101],[(120:UInt8)]]:=slrow (by rw [hH4];exact last_get _ _) trivial (EsR.cons rfl (EsR.cons rfl (EsR.cons rfl EsR.nil)))
 have k04:=(kF.trans k13 (by simp)).trans k34 (by simp)
 obtain ⟨n,hn⟩: ∃n,n=min raw.length 60:=⟨_,rfl⟩
 obtain ⟨l,hll⟩: ∃l,l=(raw.take n).map atF:=⟨_,rfl⟩
 have hln:l.length=n:=by rw [hll,List.length_map,List.length_take];omega
 have h3: ∀c∈l,c=0∨c=1∨c=2:=fun c hc=>by
  rw [hll] at hc
  obtain ⟨x,_,rfl⟩:=List.mem_map.1 hc
  have:=atF_lt x
  omega
 obtain ⟨w,next,hd,_,hnx⟩:=dangF_ok l (l.length+1) 0 (Nat.zero_le _) (by omega)
 obtain ⟨out,o,hall,hout,hcase⟩:=key (by omega) h3 hd
 have hbd:=dangF_bd hd (Nat.zero_le _)
 repeat refine jj ?_
 refine WD.mono (Q:=fun e F H'=>e= .exit 0∧ ∃(bI bS:List Nat) (v6 v7:VV),Cov [(3,.ptr (some ⟨351,0,0⟩)),(6,v6),(7,v7)] F∧F.get dslot=none∧Keep [] H4 H'∧BufR nok H' bI 3 v6 l∧BufR nok H' bS 9 v7 (l.map wordOf)) ?_ ?_
 rotate_left
 ·rintro e F H5 ⟨rfl,bI,bS,v6,v7,hc,hdn,k5,hbI,hbS⟩
  have hl5:=k5.1
  have hS5:=hS.ext ((k13.trans k34 (by simp)).trans k5 (by simp))
  obtain ⟨pS,cS,hv7,hsS⟩: ∃p c,v7= .sl p (l.map wordOf).length c∧SlR (fun _=>True) H5 p (l.map wordOf):=by
   obtain ⟨es,h1,h2⟩:=hbS
   exact BufR.slr ⟨es,h1,h2.weak (ok':=fun _=>True) fun _ _ _=>trivial⟩ fun _ _=>trivial
  subst hv7
  obtain ⟨pI,cI,esI,rfl,hsI,heI⟩:=hbI.sl
  rw [heI.ints] at hsI
  have hnz: ∀s∈l.map wordOf,tok sysD.terms s≠0:=fun s hs=>by
   obtain ⟨c,hc,rfl⟩:=List.mem_map.1 hs
   have:=h3 c hc
   rw [tok_word this];omega
  have hbt:((l.map wordOf).map (tok sysD.terms)).any (badTok sysD.terms.length)=false:=by
   rw [List.any_eq_false]
   intro t ht
   rw [List.map_map] at ht
   obtain ⟨c,hc,rfl⟩:=List.mem_map.1 ht
   have h:=h3 c hc
   rw [Function.comp,tok_word h]
   have e4:((sysD.terms.length:Nat):Int)=4:=rfl
   simp only [badTok,Bool.or_eq_true,decide_eq_true_eq]
   omega
  have hpar:=parse (cr:=cS) hS5 smD (by simp [sysD]) (by simp [sysD]) hsS hnz (by rw [List.length_map];omega) (by intro pr hpr;simp [sysD] at hpr;rcases hpr with rfl|rfl|rfl|rfl<;>simp) hall hout hbt
  rw [inB_exit,if_pos rfl,then_normal]
  refine WD.cov hc hdn rfl ?_
  repeat refine jj ?_
  refine OD.call rfl rfl rfl hpar ?_
  rintro r H6 ⟨k6,v,rfl,hv⟩
  obtain ⟨p1,c1,p2,c2,p3,c3,p4,c4,rfl,g1,g2,g3,g4⟩:=hv
  have hl6:=k6.1
  repeat refine jj ?_
  refine OD.al rfl fun H7 a7 k7 n7=> ?_
  repeat refine jj ?_
  refine OD.st rfl rfl rfl a7 rfl rfl rfl (Nat.le_of_ble_eq_true rfl) rfl fun H8 a8 k8 n8=> ?_
  have k68:Keep [] H6 H8:=k7.trans k8 (fun i hi hl=>by simp at hi;omega)
  have k58:=k6.trans k68 (by simp)
  repeat refine jj ?_
  refine OD.call rfl rfl rfl (settled (hS5.ext k58) smD) ?_
  rintro r H9 ⟨k9,q1,d1,q2,d2,q3,d3,rfl,_,_,_⟩
  have b9:=a8.keep k9 (by simp)
  have k59:=k58.trans k9 (by simp)
  have s9:Sl H9 pI 1 (intEs l):=((SlR.ofInts (ok:=fun _=>True) hsI fun _ _ _=>trivial).keep (H':=H9) fun i hi _=>k59.2 i hi (by simp)).ints
  repeat refine jj ?_
  refine OD.call rfl rfl rfl (dangling (c:=cI) s9 (by omega) (l.length+1) 0 w next hd (Nat.zero_le _)) ?_
  rintro r H10 ⟨rfl,rfl⟩
  rcases hcase with ⟨hn1,hv1,hp1⟩|⟨hn1,hn2,hv1,hp1⟩|⟨hn1,hv1,hnl,hnk,f,hgr⟩
  ·rw [hv1,hp1] at b9
   repeat refine jj ?_
   rw [wneg (by omega),wsub1 (by omega)]
   repeat refine jj ?_
   exact ⟨.inl rfl,rfl,_,rfl,by rw [ieq_eq];simp⟩
  ·rw [hv1,hp1] at b9
   repeat refine jj ?_
   exact ⟨.inl rfl,rfl,_,rfl,rfl⟩
  ·rw [hv1] at b9
   subst hn1
   obtain ⟨rG,HG,⟨kG,hGA⟩,hFG⟩:=grammar (hS5.ext k59) smD
   have g3':=(g3.weak (ok':=fun _=>True) fun _ _ _=>trivial).keep (H':=HG) fun i hi _=>((k68.trans k9 (by simp)).trans kG (by simp)).2 i hi (by simp)
   have hwl:w.length≤1000000:=by omega
   obtain ⟨rW,HW,⟨hrW,hHW⟩,hFW⟩:=grouped (cn:=c3) smD hnl hnk f o.root w hgr (show grAt (fun _=>True) HG rG sysD from by
    obtain ⟨z1,e1,z2,e2,z3,e3,z5,e5,rfl,y1,y2,y3,y5⟩:=hGA
    exact ⟨z1,e1,z2,e2,z3,e3,z5,e5,rfl,y1.weak fun _ _ _=>trivial,y2.weak fun _ _ _=>trivial,y3.weak fun _ _ _=>trivial,y5.weak fun _ _ _=>trivial⟩) g3' hwl
   subst hrW
   subst hHW
   have hK: ∀j H2,[H10,HW,HW][j]? =some H2→j≤2→Keep [] H10 H2:=fun j H2 hj hj2=>by
    match j,hj with
    |0,hj=>cases hj;exact Keep.refl _
    |1,hj=>cases hj;exact kG
    |2,hj=>cases hj;exact kG
   repeat refine jj ?_
   refine WD.dreg [H10,HW,HW] mixed rfl ?_
   repeat refine jk hK ?_
   refine VX.call2 rfl rfl rfl rfl hFG ?_
   repeat refine jk hK ?_
   refine VX.call2 rfl rfl rfl rfl hFW ?_
   repeat refine jk hK ?_
   repeat refine jj ?_
   exact ⟨.inl rfl,rfl,_,rfl,by simp⟩
 refine WD.loop (fun m F H'=> ∃(j:Nat) (bI bS:List Nat) (v6 v7:VV),m=n-j∧j≤n∧Cov [(0,.sl p raw.length c),(3,.ptr (some ⟨351,0,0⟩)),(5,.sl (some ⟨H3.length,0,0⟩) 3 3),(6,v6),(7,v7),(8,.int .i64 j)] F∧F.get dslot=none∧Keep [] H4 H'∧BufR nok H' bI 3 v6 (l.take j)∧BufR nok H' bS 9 v7 ((l.take j).map wordOf)∧(∀b∈bI,H4.length≤b)∧(∀b∈bS,H4.length≤b)∧ ∀b∈bI,b∉bS) n ⟨0,[],[],_,_,rfl,Nat.zero_le _,⟨rfl,rfl,rfl,rfl,rfl,rfl,trivial⟩,rfl,Keep.refl _,BufR.nil _ _ _,BufR.nil _ _ _,by simp,by simp,by simp⟩ ?_
 rintro m F H5 ⟨j,bI,bS,v6,v7,rfl,hj,hc,hdn,k5,hbI,hbS,hI,hS2,hIS⟩
 refine WD.cov hc hdn rfl ?_
 have hs5:=(SlR.ofInts (ok:=fun _=>True) hs fun _ _ _=>trivial).keep (H':=H5) fun i hi _=>(k04.trans k5 (by simp)).2 i hi (by simp)
 have hw5:=hwd.keep (H':=H5) fun i hi _=>k5.2 i hi (by simp)
 have hl5:=k5.1
 have hjl:(l.take j).length=j:=by rw [List.length_take];omega
 have hjm:((l.take j).map wordOf).length=j:=by rw [List.length_map,hjl]
 by_cases hjn:j<n
 ·have hjr:j<raw.length:=by omega
  have hj60:j<60:=by omega
  have hrj:raw[j]? =some raw[j]:=List.getElem?_eq_getElem hjr
  have hwj:=hwf raw[j] (List.getElem_mem hjr)
  have hlj:l[j]? =some (atF raw[j]):=by rw [hll,List.getElem?_map,List.getElem?_take,if_pos hjn,hrj];rfl
  generalize raw[j]=x at hrj hwj hlj
  have htk:l.take (j+1)=l.take j++[atF x]:=by rw [List.take_add_one,hlj];rfl
  have hx3:=h3 _ (List.mem_of_getElem? hlj)
  obtain ⟨q,hq1,hq2⟩:=word_get hx3
  repeat refine jj ?_
  refine OD.rd rfl (ev_ixI hs5.ints rfl rfl rfl hjr) ?_
  refine OD.rd rfl (ev_ldI hs5.ints rfl hrj) ?_
  repeat refine jj ?_
  refine OD.call rfl rfl rfl (atFn hwj.1 hwj.2) ?_
  rintro r H6 ⟨rfl,rfl⟩
  refine OD.app1 (α:=Int) (bytes:=8) (ok:=nok) (x:=atF x) rfl (ev_mkint rfl) rfl hbI rfl rfl (fun i h=>h.elim) (by omega) (by omega) fun v6' H7 bI' a1 a2 a3=> ?_
  repeat refine jj ?_
  have k47:Keep [] H4 H7:=k5.trans a2 (fun i hi hl=>by have:=hI i hi;omega)
  have hl7:=a2.1
  have hw7:=hwd.keep (H':=H7) fun i hi _=>k47.2 i hi (by simp)
  have hbS7:BufR nok H7 bS 9 v7 ((l.take j).map wordOf):=hbS.keep a2 (fun b hb hb2=>hIS b hb2 hb) (fun i h=>h.elim)
  obtain ⟨p6,c6,es6,rfl,hs6,he6⟩:=id a1.sl
  rw [he6.ints] at hs6
  have hgj:(l.take j++[atF x])[j]? =some (atF x):=by rw [List.getElem?_append_right (by omega),hjl];simp
  obtain ⟨es,hsw,_,hew⟩:=id hw7
  obtain ⟨e,he,hrep⟩:=hew.get hq2
  obtain rfl:e=[.str (wordOf (atF x))]:=hrep
  refine OD.rd rfl (ev_ixI hs6 rfl rfl rfl (by simp;omega)) ?_
  refine OD.rd rfl (ev_ldI hs6 rfl hgj) ?_
  refine OD.rd rfl (ev_ixR hw7 rfl rfl (by omega) (by show atF x<3;omega) rfl) ?_
  rw [show (atF x).toNat=q by omega]
  refine OD.rd rfl (ev_ld (r:=[]) hsw rfl he) ?_
  refine OD.app1 (α:=List UInt8) (bytes:=16) (ok:=nok) (x:=wordOf (atF x)) rfl (ev_mkstr rfl) rfl hbS7 rfl rfl (fun i h=>h.elim) (by omega) (by omega) fun v7' H8 bS' b1 b2 b3=> ?_
  repeat refine jj ?_
  refine ⟨_,by omega,j+1,bI',bS',_,v7',rfl,by omega,⟨rfl,rfl,rfl,rfl,rfl,by rw [Int.natCast_add];rfl,trivial⟩,rfl,k47.trans b2 (fun i hi hl=>by have:=hS2 i hi;omega),?_,?_,?_,?_,?_⟩
  ·rw [htk]
   refine a1.keep b2 (fun b hb hb2=> ?_) (fun i h=>h.elim)
   rcases a3 b hb with h|h
   ·exact hIS b h hb2
   ·have:=hbS.lt b hb2;omega
  ·rw [htk,List.map_append];exact b1
  ·intro b hb
   rcases a3 b hb with h|h
   ·exact hI b h
   ·omega
  ·intro b hb
   rcases b3 b hb with h|h
   ·exact hS2 b h
   ·omega
  ·intro b hb hb2
   rcases b3 b hb2 with h|h
   ·rcases a3 b hb with h2|h2
    ·exact hIS b h2 h
    ·have:=hbS.lt b h;omega
   ·have:=a1.lt b hb;omega
 ·obtain rfl:j=n:=by omega
  rw [show l.take j=l by rw [←hln,List.take_length]] at hbI hbS
  by_cases hr60:raw.length<60
  ·obtain rfl:j=raw.length:=by omega
   repeat refine jj ?_
   exact ⟨rfl,bI,bS,v6,v7,⟨rfl,rfl,rfl,trivial⟩,rfl,k5,hbI,hbS⟩
  ·obtain rfl:j=60:=by omega
   by_cases hr61:60<raw.length
   ·repeat refine jj ?_
    exact ⟨rfl,bI,bS,v6,v7,⟨rfl,rfl,rfl,trivial⟩,rfl,k5,hbI,hbS⟩
   ·repeat refine jj ?_
    exact ⟨rfl,bI,bS,v6,v7,⟨rfl,rfl,rfl,trivial⟩,rfl,k5,hbI,hbS⟩
end Dr
end Go.Proofs.YtnjjieohlnhicaaGreatDoor
end
