/- Texts as one: WmZq DrA DrB DrC DrD DrE DrF SyA SyB. -/
import Derived.Test.YtnjjieohlnhicaaGreatDoorKaj
import Derived.Test.YtnjjieohlnhicaaGreatDoorKam
section
namespace Go.Wm
set_option linter.unusedSimpArgs false
set_option linter.unusedVariables false
set_option maxRecDepth 100000
variable {P:Program} {N:Nat} {rn:Bool} {F E:Fr} {H:Hp} {Q K:VQ} {l:List VI} {d:Nat} {g:Option (Nat×Bool)} {v:VV}
section
theorem jA {x:VOp} (h:OD P N rn l ((d,.tup [])::E) H Q) (hw:want E g=some false:=by exact rfl):OD P N rn (.rd d g x::l) E H Q:=OD.sk hw h
theorem jB {y:Od} (h:OD P N rn l ((d,v)::E) H Q) (hw:want E g=some true:=by exact rfl) (he:(VOp.mv y).ev E H.g=some v:=by first|exact rfl|assumption):OD P N rn (.rd d g (.mv y)::l) E H Q:=OD.rd hw he h
theorem jC {x:VOp} (h:OD P N rn l ((d,v)::E) H Q) (hw:want E g=some true:=by exact rfl) (he:x.ev E H.g=some v:=by first|exact ev_add2 rfl rfl (by omega)|exact ev_sub2 rfl rfl (by omega)|exact ev_cT rfl rfl (by first|exact rfl|(dsimp only [cmpT];omega))|exact ev_cF rfl rfl (by first|exact rfl|(dsimp only [cmpF];omega))|exact ev_sT rfl rfl (by assumption)|exact ev_sF rfl rfl (by assumption)|exact ev_slst3 rfl rfl rfl (by omega)|exact ev_ixs rfl rfl (by omega) (by assumption)|exact ev_ldB rfl (by assumption) (by exact rfl)|exact ev_ldBA rfl (by assumption) (by exact Nat.le_of_ble_eq_true rfl) (by exact rfl)|exact rfl|assumption):OD P N rn (.rd d g x::l) E H Q:=OD.rd hw he h
theorem jD {k:Nat} (h:Q .normal (E.only k) H):OD P N rn [] E H (atEnd Q k):=OD.fin h
theorem jE {x y:VC} (h:WD P N rn x F H (Then (fun F' H'=>WD P N rn y F' H' Q) Q)):WD P N rn (.seq x y) F H Q:=WD.seq h
theorem jF {k:Nat} (h:OD P N rn l F H (atEnd Q k)):WD P N rn (.reg l k) F H Q:=WD.reg h
theorem jG (h:Q .normal F H):WD P N rn .skip F H Q:=WD.skip h
theorem jH {i:Nat} (h:Q (.exit i) F H):WD P N rn (.exit i) F H Q:=WD.exit h
theorem jI (h:Q .ret F H):WD P N rn .ret F H Q:=WD.ret h
theorem jJ {s:Nat} {x y:VC} (h:WD P N rn x F H Q) (hs:F.get s=some (.bool true):=by exact rfl):WD P N rn (.cond s x y) F H Q:=WD.condT hs h
theorem jK {s:Nat} {x y:VC} (h:WD P N rn y F H Q) (hs:F.get s=some (.bool false):=by exact rfl):WD P N rn (.cond s x y) F H Q:=WD.condF hs h
theorem jL {i:Nat} {x:VC} (h:WD P N rn x F H (inB i Q)):WD P N rn (.block i x) F H Q:=WD.block h
theorem jM {K:Fr→Hp→Prop} (h:K F H):Then K Q .normal F H:=h
theorem jN {K:Fr→Hp→Prop} (h:Q .ret F H):Then K Q .ret F H:=h
theorem jO {K:Fr→Hp→Prop} {i:Nat} (h:Q (.exit i) F H):Then K Q (.exit i) F H:=h
theorem jP {i:Nat} (h:Q .normal F H):inB i Q .normal F H:=h
theorem jQ {i:Nat} (h:Q .ret F H):inB i Q .ret F H:=h
theorem jR {i:Nat} (h:Q .normal F H):inB i Q (.exit i) F H:=by rw [inB_exit,if_pos rfl];exact h
theorem jS {i j:Nat} (h:Q (.exit j) F H) (hn: ¬j=i:=by decide):inB i Q (.exit j) F H:=by rw [inB_exit,if_neg hn];exact h
end
section
variable {hs:List Hp} {R:Fr→Hp→Prop} {b:List (Nat×Nat)} {m n:Nat} {H0 Hn:Hp} {M:List Nat} {x:VOp}
theorem jT (h:VX P hs l b.tail m ((d,.tup [])::E) H R) (hw:want E g=some false:=by exact rfl):VX P hs (.rd d g x::l) b m E H R:=VX.sk1 hw h
theorem jU {y:Od} (h:VX P hs l b.tail m ((d,v)::E) H R) (hc:Cst hs H:=by assumption) (hw:want E g=some true:=by exact rfl) (he:(VOp.mv y).ev E H.g=some v:=by first|exact rfl|assumption):VX P hs (.rd d g (.mv y)::l) b m E H R:=VX.rdc hc hw he h
theorem jV (h:VX P hs l b.tail m ((d,v)::E) H R) (hc:Cst hs H:=by assumption) (hw:want E g=some true:=by exact rfl) (he:x.ev E H.g=some v:=by first|exact ev_add2 rfl rfl (by omega)|exact ev_sub2 rfl rfl (by omega)|exact ev_cT rfl rfl (by first|exact rfl|(dsimp only [cmpT];omega))|exact ev_cF rfl rfl (by first|exact rfl|(dsimp only [cmpF];omega))|exact ev_sT rfl rfl (by assumption)|exact ev_sF rfl rfl (by assumption)|exact ev_slst3 rfl rfl rfl (by omega)|exact ev_ixs rfl rfl (by omega) (by assumption)|exact ev_ldB rfl (by assumption) (by exact rfl)|exact ev_ldBA rfl (by assumption) (by exact Nat.le_of_ble_eq_true rfl) (by exact rfl)|exact rfl|assumption):VX P hs (.rd d g x::l) b m E H R:=VX.rdc hc hw he h
theorem jW {k:Nat} (h:Q .normal (E.only k) H):VX P hs [] b m E H (fun E H'=>Q .normal (E.only k) H'):=VX.fin rfl h
theorem jX {y:Od} (h:VX P hs l b.tail m ((d,v)::E) H R) (hb:b.headD (0,0)=(n,n):=by exact rfl) (hn:hs[n]? =some Hn:=by exact rfl) (hw:want E g=some true:=by exact rfl) (he:(VOp.mv y).ev E Hn.g=some v:=by first|exact rfl|assumption):VX P hs (.rd d g (.mv y)::l) b m E H R:=VX.rdn hb hn hw he h
theorem jY (h:VX P hs l b.tail m ((d,v)::E) H R) (hb:b.headD (0,0)=(n,n):=by exact rfl) (hn:hs[n]? =some Hn:=by exact rfl) (hw:want E g=some true:=by exact rfl) (he:x.ev E Hn.g=some v:=by first|exact ev_add2 rfl rfl (by omega)|exact ev_sub2 rfl rfl (by omega)|exact ev_cT rfl rfl (by first|exact rfl|(dsimp only [cmpT];omega))|exact ev_cF rfl rfl (by first|exact rfl|(dsimp only [cmpF];omega))|exact ev_sT rfl rfl (by assumption)|exact ev_sF rfl rfl (by assumption)|exact ev_slst3 rfl rfl rfl (by omega)|exact ev_ixs rfl rfl (by omega) (by assumption)|exact ev_ldB rfl (by assumption) (by exact rfl)|exact ev_ldBA rfl (by assumption) (by exact Nat.le_of_ble_eq_true rfl) (by exact rfl)|exact rfl|assumption):VX P hs (.rd d g x::l) b m E H R:=VX.rdn hb hn hw he h
theorem jZ {y:Od} (hK: ∀j H1,hs[j]? =some H1→j≤n→Keep M H0 H1) (h:VX P hs l b.tail m ((d,v)::E) H R) (hb:(b.headD (0,0)).2≤n:=by decide) (hw:want E g=some true:=by exact rfl) (he: ∀H1,Keep M H0 H1→(VOp.mv y).ev E H1.g=some v:=by intro H1 k;exact rfl):VX P hs (.rd d g (.mv y)::l) b m E H R:=VX.rdq hK hb hw he h
theorem j0 (hK: ∀j H1,hs[j]? =some H1→j≤n→Keep M H0 H1) (h:VX P hs l b.tail m ((d,v)::E) H R) (hb:(b.headD (0,0)).2≤n:=by decide) (hw:want E g=some true:=by exact rfl) (he: ∀H1,Keep M H0 H1→x.ev E H1.g=some v:=by intro H1 k;first|exact ev_add2 rfl rfl (by omega)|exact ev_sub2 rfl rfl (by omega)|exact ev_cT rfl rfl (by first|exact rfl|(dsimp only [cmpT];omega))|exact ev_cF rfl rfl (by first|exact rfl|(dsimp only [cmpF];omega))|exact ev_sT rfl rfl (by assumption)|exact ev_sF rfl rfl (by assumption)|exact ev_slst3 rfl rfl rfl (by omega)|exact ev_ixs rfl rfl (by omega) (by assumption)|exact ev_ldB rfl (Box.keep (by assumption) k (by grind)) (by exact rfl)|exact ev_ldBA rfl (Box.keep (by assumption) k (by grind)) (by exact Nat.le_of_ble_eq_true rfl) (by exact rfl)|exact rfl):VX P hs (.rd d g x::l) b m E H R:=VX.rdq hK hb hw he h
end
theorem jj {p q:Prop} (h:q) (e:q→p:=by first|exact fun h=>jA h|exact fun h=>jB h|exact fun h=>jC h|exact fun h=>jD h|exact fun h=>jE h|exact fun h=>jF h|exact fun h=>jG h|exact fun h=>jH h|exact fun h=>jI h|exact fun h=>jJ h|exact fun h=>jK h|exact fun h=>jL h|exact fun h=>jM h|exact fun h=>jN h|exact fun h=>jO h|exact fun h=>jP h|exact fun h=>jQ h|exact fun h=>jR h|exact fun h=>jS h):p:=e h
theorem jy {p q:Prop} (h:q) (e:q→p:=by first|exact fun h=>jT h|exact fun h=>jU h|exact fun h=>jV h|exact fun h=>jW h):p:=e h
theorem jz {p q:Prop} (h:q) (e:q→p:=by first|exact fun h=>jT h|exact fun h=>jX h|exact fun h=>jY h|exact fun h=>jW h):p:=e h
theorem jk {p q k:Prop} (hK:k) (h:q) (e:k→q→p:=by first|exact fun _ h=>jT h|exact fun k h=>jZ k h|exact fun k h=>j0 k h|exact fun _ h=>jW h):p:=e hK h
end Go.Wm
end
section
namespace Go.Proofs.YtnjjieohlnhicaaGreatDoor
set_option linter.unusedSimpArgs false
set_option linter.unusedVariables false
open Go Go.Wm Go.Proofs Go.RowKit
set_option maxRecDepth 100000
set_option maxHeartbeats 4000000
theorem mixed:Tryz.prog.follows .mixedOrders=true:=by kernel_rfl
namespace Dr
abbrev nok:Nat→Prop:=fun _=>False
theorem clip {H:Hp} {bs:List Nat} {t:TypeId} {v:VV} {es:List (List VV)} (h:Buf H bs t 1 v es):FnX Tryz.prog 99 [v] H fun r H'=>H'=H∧ ∃p,r= .sl p es.length es.length∧Sl H p 1 es∧ ∀q,p=some q→q.blk∈bs:=by
 refine FnX.enterRow ok99 (Nat.le_of_ble_eq_true rfl) ?_
 obtain ⟨p0,c,rfl,_⟩:=h.sl
 obtain ⟨p,he,hs,hq⟩:=h.clip
 repeat refine jj ?_
 refine OD.rd rfl (he _ _ _ _ rfl rfl rfl) ?_
 repeat refine jj ?_
 exact ⟨.inl rfl,rfl,_,rfl,rfl,p,rfl,hs,hq⟩
theorem clone {H:Hp} {p:Option PA} {c:Nat} {l:List Int} (hs:Sl H p 1 (intEs l)) (hl:l.length≤1000000000000):FnX Tryz.prog 52 [.sl p l.length c] H fun r H'=>Keep [] H H'∧ ∃bs,BufR nok H' bs 3 r l∧ ∀b∈bs,H.length≤b:=by
 refine FnX.enterRow ok52 (Nat.le_of_ble_eq_true rfl) ?_
 by_cases hp:p=none
 ·subst hp
  have hnil:l=[]:=by
   rcases hs with hs|⟨b,i,md,t,rows,h,_⟩
   ·exact List.eq_nil_of_length_eq_zero (by rw [←intEs_len,hs];rfl)
   ·cases h
  subst hnil
  repeat refine jj ?_
  exact ⟨.inl rfl,rfl,_,rfl,Keep.refl _,[],BufR.nil _ _ _,by simp⟩
 ·obtain ⟨q,rfl⟩:=Option.ne_none_iff_exists'.1 hp
  have hk:Keep [] H (H++[Blk.row 3 .own []]):=Keep.app _
  have hsrc:srcEls (H++[Blk.row 3 .own []]).g 1 (.sl (some q) l.length c)=some (intEs l):=srcEls_of (hs.mono _) (intEs_len l)
  have hbuf:Buf (H++[Blk.row 3 .own []]) [H.length] 3 1 (.sl (some ⟨H.length,0,0⟩) 0 0) []:= .inr ⟨H.length,.own,[],rfl,rfl,by simp,by simp,fun _=>rfl,by simp,List.prefix_refl _⟩
  repeat refine jj ?_
  refine OD.ef rfl (v:= .sl (some ⟨H.length,0,0⟩) 0 0) (us:=[(H.length,.row 3 .own [])]) rfl ?_
  rw [applyU_push]
  repeat refine jj ?_
  by_cases hn:l=[]
  ·subst hn
   have happ: ∀(E:Fr) (s x:Od),s.ev E=some (.sl (some ⟨H.length,0,0⟩) 0 0)→x.ev E=some (.sl (some q) 0 c)→(VEf.app 3 1 8 s x).ev E (H++[Blk.row 3 .own []]).g (H++[Blk.row 3 .own []]).length=some (.sl (some ⟨H.length,0,0⟩) 0 0,[]):=fun E s x h1 h2=>by
    simp [VEf.ev,h1,h2,srcEls,appV]
   refine OD.ef rfl (happ _ _ _ rfl rfl) ?_
   repeat refine jj ?_
   exact ⟨.inl rfl,rfl,_,rfl,hk,[H.length],⟨[],hbuf,EsR.nil⟩,by simp⟩
  ·have hin:intEs l≠[]:=fun h=>hn (List.eq_nil_of_length_eq_zero (by rw [←intEs_len,h];rfl))
   obtain ⟨v',us,bs',a1,a2,a3,a4⟩:=hbuf.app (bytes:=8) hsrc hin (by intro e he;obtain ⟨n,_,rfl⟩:=List.mem_map.1 he;rfl) (by rw [intEs_len];simp;omega) (by rw [intEs_len];simp;omega)
   refine OD.ef rfl (a1 _ _ _ rfl rfl) ?_
   repeat refine jj ?_
   refine ⟨.inl rfl,rfl,_,rfl,hk.trans a3 (fun i hi hl=>by simp at hi;omega),bs',⟨intEs l,a2,EsR.ofInts _ _ _⟩,fun b hb=> ?_⟩
   rcases a4 b hb with h|h
   ·simp at h;omega
   ·simp at h;omega
def StackAt (H:Hp) (sb:Nat) (F:List Nat) (first:Int) (ss ns:List Int):Prop:=
 ∃bs1 bs2 v1 v2,F=sb::(bs1++bs2)∧sb∉bs1∧sb∉bs2∧(∀b∈bs1,b∉bs2)∧Box H sb [.int .i64 first,v1,v2]∧BufR nok H bs1 3 v1 ss∧BufR nok H bs2 3 v2 ns
theorem StackAt.lt {H:Hp} {sb:Nat} {F:List Nat} {first:Int} {ss ns:List Int} (h:StackAt H sb F first ss ns): ∀b∈F,b<H.length:=by
 obtain ⟨bs1,bs2,v1,v2,rfl,h1,h2,h3,h4,h5,h6⟩:=h
 intro b hb
 simp at hb
 rcases hb with rfl|hb|hb
 ·exact h4.lt
 ·exact h5.lt b hb
 ·exact h6.lt b hb
theorem StackAt.keep {H H':Hp} {M:List Nat} {sb:Nat} {F:List Nat} {first:Int} {ss ns:List Int} (h:StackAt H sb F first ss ns) (k:Keep M H H') (hm: ∀b∈F,b∉M):StackAt H' sb F first ss ns:=by
 obtain ⟨bs1,bs2,v1,v2,rfl,h1,h2,h3,h4,h5,h6⟩:=h
 exact ⟨bs1,bs2,v1,v2,rfl,h1,h2,h3,h4.keep k (hm _ (by simp)),h5.keep k (fun b hb=>hm b (by simp [hb])) (fun i h=>h.elim),h6.keep k (fun b hb=>hm b (by simp [hb])) (fun i h=>h.elim)⟩
theorem newStack {H:Hp} {n:Int}:FnX Tryz.prog 167 [.int .i64 n] H fun r H'=>r= .ptr (some ⟨H.length,0,0⟩)∧StackAt H' H.length [H.length] n [] []∧Keep [] H H':=by
 refine FnX.enterRow ok167 (Nat.le_of_ble_eq_true rfl) ?_
 repeat refine jj ?_
 refine OD.ef rfl (ev_boxN rfl rfl rfl rfl) ?_
 rw [applyU_push]
 repeat refine jj ?_
 exact ⟨.inl rfl,rfl,_,rfl,rfl,⟨[],[],_,_,rfl,by simp,by simp,by simp,Box.last _ _ _,BufR.nil _ _ _,BufR.nil _ _ _⟩,Keep.app _⟩
theorem push {H:Hp} {sb:Nat} {F:List Nat} {first s n:Int} {ss ns:List Int} (h:StackAt H sb F first ss ns) (hl:ss.length<64) (hn:ns.length<64):
 FnX Tryz.prog 234 [.ptr (some ⟨sb,0,0⟩),.int .i64 s,.int .i64 n] H fun r H'=>r= .int .i64 0∧Keep F H H'∧ ∃F',StackAt H' sb F' first (ss++[s]) (ns++[n])∧ ∀b∈F',b∈F∨H.length≤b:=by
 refine FnX.enterRow ok234 (Nat.le_of_ble_eq_true rfl) ?_
 obtain ⟨bs1,bs2,v1,v2,rfl,h1,h2,h3,h4,h5,h6⟩:=h
 have hsb:=h4.lt
 have hb1:=h5.lt
 have hb2:=h6.lt
 obtain ⟨p1,c1,es1,rfl,_,_⟩:=h5.sl
 repeat refine jj ?_
 refine OD.app1 (α:=Int) (bytes:=8) (ok:=nok) (x:=s) rfl (ev_mkint rfl) rfl h5 rfl rfl (fun i h=>h.elim) (by omega) (by omega) fun v1' H1 bs1' a1 a2 a3=> ?_
 have g4:=h4.keep a2 h1
 have g6:=h6.keep a2 (by grind) (fun i h=>h.elim)
 repeat refine jj ?_
 obtain ⟨p3,c3,es3,rfl,_,_⟩:=a1.sl
 refine OD.st rfl rfl rfl g4 rfl rfl rfl (Nat.le_of_ble_eq_true rfl) rfl fun H2 g5 k2 l2=> ?_
 have e1:=a2.1
 have g7:=a1.keep k2 (by grind) (fun i h=>h.elim)
 have g8:=g6.keep k2 (by grind) (fun i h=>h.elim)
 obtain ⟨p2,c2,es2,rfl,_,_⟩:=g8.sl
 repeat refine jj ?_
 refine OD.app1 (α:=Int) (bytes:=8) (ok:=nok) (x:=n) rfl (ev_mkint rfl) rfl g8 rfl rfl (fun i h=>h.elim) (by omega) (by omega) fun v2' H3 bs2' b1 b2 b3=> ?_
 have g9:=g5.keep b2 h2
 repeat refine jj ?_
 obtain ⟨p4,c4,es4,rfl,_,_⟩:=b1.sl
 refine OD.st rfl rfl rfl g9 rfl rfl rfl (Nat.le_of_ble_eq_true rfl) rfl fun H4 g10 k4 l4=> ?_
 repeat refine jj ?_
 have e2:=b2.1
 have hb3:=g7.lt
 have k14:Keep (sb::(bs1++bs2)) H H4:=((((a2.mono (N:=sb::(bs1++bs2)) (by grind)).trans k2 (by grind)).trans b2 (by grind)).trans k4 (by grind))
 exact ⟨.inl rfl,rfl,_,rfl,rfl,k14,sb::(bs1'++bs2'),⟨bs1',bs2',_,_,rfl,by grind,by grind,by grind,g10,(g7.keep b2 (by grind) (fun i h=>h.elim)).keep k4 (by grind) (fun i h=>h.elim),b1.keep k4 (by grind) (fun i h=>h.elim)⟩,by grind⟩
theorem pop {H:Hp} {sb:Nat} {F:List Nat} {first:Int} {ss ns:List Int} {k:Nat} (h:StackAt H sb F first ss ns) (hk:k≤ss.length) (hl:ns.length=ss.length) (h64:ss.length≤64):
 FnX Tryz.prog 236 [.ptr (some ⟨sb,0,0⟩),.int .i64 k] H fun r H'=>Keep [sb] H H'∧StackAt H' sb F first (ss.take (ss.length-k)) (ns.take (ss.length-k))∧ ∃p,r= .tup [.sl p k k,.int .i64 0]∧Sl H' p 1 (intEs (ns.drop (ss.length-k)))∧ ∀q,p=some q→H.length≤q.blk:=by
 refine FnX.enterRow ok236 (Nat.le_of_ble_eq_true rfl) ?_
 obtain ⟨bs1,bs2,v1,v2,rfl,h1,h2,h3,h4,h5,h6⟩:=h
 have hsb:=h4.lt
 have hb1:=h5.lt
 have hb2:=h6.lt
 obtain ⟨p1,c1,es1,rfl,_,_⟩:=h5.sl
 obtain ⟨p2,c2,es2,rfl,_,_⟩:=h6.sl
 have hat:(ss.length:Int)-k=((ss.length-k:Nat):Int):=by omega
 obtain ⟨pt,ct,e1,e2⟩:=h6.tailI (k:=ss.length-k) (by omega)
 repeat refine jj ?_
 rw [hat]
 repeat refine jj ?_
 refine OD.rd rfl (e1 _ _ _ rfl rfl) ?_
 refine OD.call rfl rfl rfl (clone e2 (by rw [List.length_drop];omega)) ?_
 rintro r H1 ⟨k1,bs3,a1,a2⟩
 refine OD.call rfl rfl rfl (clip a1.ints) ?_
 rintro r2 H2 ⟨rfl,p3,rfl,a3,a4⟩
 have g4:=h4.keep k1 (by simp)
 have g5:=h5.keep k1 (by simp) (fun i h=>h.elim)
 have g6:=h6.keep k1 (by simp) (fun i h=>h.elim)
 obtain ⟨v1',e3,g7⟩:=g5.cut (k:=ss.length-k) (by omega) rfl
 repeat refine jj ?_
 refine OD.rd rfl (e3 _ _ _ rfl rfl) ?_
 obtain ⟨p7,c7,es7,rfl,_,_⟩:=g7.sl
 repeat refine jj ?_
 refine OD.st rfl rfl rfl g4 rfl rfl rfl (Nat.le_of_ble_eq_true rfl) rfl fun H3 g9 k3 l3=> ?_
 have g10:=g6.keep k3 (by grind) (fun i h=>h.elim)
 obtain ⟨v2',e4,g8⟩:=g10.cut (k:=ss.length-k) (by omega) rfl
 obtain ⟨p8,c8,es8,rfl,_,_⟩:=g8.sl
 repeat refine jj ?_
 refine OD.rd rfl (e4 _ _ _ rfl rfl) ?_
 repeat refine jj ?_
 refine OD.st rfl rfl rfl g9 rfl rfl rfl (Nat.le_of_ble_eq_true rfl) rfl fun H4 g11 k4 l4=> ?_
 repeat refine jj ?_
 have hlen:(ns.drop (ss.length-k)).length=k:=by rw [List.length_drop];omega
 have k04:Keep [sb] H H4:=((k1.mono (N:=[sb]) (by simp)).trans k3 (by simp)).trans k4 (by simp)
 have hb3:=a1.lt
 have hk1:=k1.1
 rw [intEs_len,hlen]
 refine ⟨.inl rfl,rfl,_,rfl,k04,⟨bs1,bs2,_,_,rfl,h1,h2,h3,g11,(g7.keep k3 (by grind) (fun i h=>h.elim)).keep k4 (by grind) (fun i h=>h.elim),g8.keep k4 (by grind) (fun i h=>h.elim)⟩,p3,rfl,?_,fun q hq=>a2 _ (a4 q hq)⟩
 have q1: ∀q,p3=some q→q.blk∉[sb]:=fun q hq=>by have:=a2 _ (a4 q hq);simp;omega
 exact (a3.keep k3 q1).keep k4 q1
end Dr
end Go.Proofs.YtnjjieohlnhicaaGreatDoor
end
section
namespace Go.Proofs.YtnjjieohlnhicaaGreatDoor
set_option linter.unusedSimpArgs false
set_option linter.unusedVariables false
open Go Go.Wm Go.Proofs Go.RowKit
set_option maxRecDepth 100000
set_option maxHeartbeats 4000000
namespace Dr
def topOf (first:Int) (st:List Int):Int:=st.getLastD first
theorem topOf_ne {first:Int} {st:List Int} (h:st≠[]): ∃j:Nat,(st.length:Int)-1=j∧st[j]? =some (topOf first st):=by
 have hl:0<st.length:=List.length_pos_iff.2 h
 refine ⟨st.length-1,by omega,?_⟩
 unfold topOf
 rw [List.getLastD_eq_getLast?,List.getLast?_eq_getElem?,List.getElem?_eq_getElem (by omega)]
 rfl
theorem ev_ldI {H:Hp} {p:Option PA} {l:List Int} {E:Fr} {x:Od} {j:Nat} {n:Int} (hs:Sl H p 1 (intEs l)) (hx:x.ev E=some (.ptr (some (elp p j)))) (hj:l[j]? =some n):(VOp.load 1 false x).ev E H.g=some (.int .i64 n):=by
 refine ev_ld (r:=[]) hs hx ?_
 rw [intEs_get,hj];rfl
theorem ev_ixI {H:Hp} {p:Option PA} {l:List Int} {E:Fr} {x i:Od} {j:Nat} {c:Nat} {k:IntKind} {a:Int} (hs:Sl H p 1 (intEs l)) (hx:x.ev E=some (.sl p l.length c)) (hi:i.ev E=some (.int k a)) (hj:a=j) (hl:j<l.length):(VOp.ixa 1 x i).ev E H.g=some (.ptr (some (elp p j))):=by
 subst hj
 have:=ev_ixa hs hx hi (by omega) (by omega) (by rw [intEs_len];exact Nat.le_refl _)
 rwa [Int.toNat_natCast] at this
theorem cst1 (H:Hp):Cst [H] H:=Cst.rep 1 H
theorem cst2 (H:Hp):Cst [H,H] H:=Cst.rep 2 H
theorem top {H:Hp} {sb:Nat} {F:List Nat} {first:Int} {ss ns:List Int} (h:StackAt H sb F first ss ns) (h64:ss.length≤64):FnX Tryz.prog 239 [.ptr (some ⟨sb,0,0⟩)] H fun r H'=>r= .int .i64 (topOf first ss)∧H'=H:=by
 refine FnX.enterRow ok239 (Nat.le_of_ble_eq_true rfl) ?_
 obtain ⟨bs1,bs2,v1,v2,rfl,h1,h2,h3,h4,h5,h6⟩:=h
 obtain ⟨p1,c1,es1,rfl,hs,he⟩:=h5.sl
 rw [he.ints] at hs
 have hcst:=cst1 H
 by_cases hn:ss=[]
 ·subst hn
  repeat refine jj ?_
  exact ⟨.inl rfl,rfl,_,rfl,rfl,rfl⟩
 ·have hl:0<ss.length:=List.length_pos_iff.2 hn
  obtain ⟨j,hj1,hj2⟩:=topOf_ne (first:=first) hn
  have hjl:=(List.getElem?_eq_some_iff.1 hj2).1
  repeat refine jj ?_
  refine WD.dreg [H] mixed rfl ?_
  repeat refine jy ?_
  refine VX.rdc hcst rfl (ev_ixI hs rfl rfl hj1 hjl) ?_
  refine VX.rdc hcst rfl (ev_ldI hs rfl hj2) ?_
  repeat refine jy ?_
  repeat refine jj ?_
  exact ⟨.inl rfl,rfl,_,rfl,rfl,rfl⟩
def OvAt (H:Hp) (ob sb:Nat) (bsA F:List Nat) (first:Int) (base ns:List Int) (kept:Nat) (above:List Int):Prop:=
 ∃v,Box H ob [.ptr (some ⟨sb,0,0⟩),.int .i64 kept,v]∧BufR nok H bsA 3 v above∧StackAt H sb F first base ns∧kept≤base.length∧base.length≤64∧kept+above.length≤64∧ob∉F∧ob∉bsA∧(∀b∈bsA,b∉F)
theorem OvAt.keep {H H':Hp} {M:List Nat} {ob sb:Nat} {bsA F:List Nat} {first:Int} {base ns:List Int} {kept:Nat} {above:List Int} (h:OvAt H ob sb bsA F first base ns kept above) (k:Keep M H H') (hm: ∀b∈ob::(bsA++F),b∉M):OvAt H' ob sb bsA F first base ns kept above:=by
 obtain ⟨v,h1,h2,h3,h4⟩:=h
 exact ⟨v,h1.keep k (by grind),h2.keep k (by grind) (fun i h=>h.elim),h3.keep k (by grind),h4⟩
theorem there {H:Hp} {ob sb:Nat} {x y:VV} (h:Box H ob [.ptr (some ⟨sb,0,0⟩),x,y]):FnX Tryz.prog 293 [.ptr (some ⟨ob,0,0⟩)] H fun r H'=>r= .bool true∧H'=H:=by
 refine FnX.enterRow ok293 (Nat.le_of_ble_eq_true rfl) ?_
 repeat refine jj ?_
 exact ⟨.inl rfl,rfl,_,rfl,rfl,rfl⟩
theorem under {H:Hp} {ob sb:Nat} {bsA F:List Nat} {first:Int} {base ns:List Int} {kept:Nat} {above:List Int} (h:OvAt H ob sb bsA F first base ns kept above):FnX Tryz.prog 295 [.ptr (some ⟨ob,0,0⟩)] H fun r H'=>r= .int .i64 kept∧H'=H:=by
 refine FnX.enterRow ok295 (Nat.le_of_ble_eq_true rfl) ?_
 obtain ⟨v,g1,g2,⟨bs1,bs2,v1,v2,rfl,h1,h2,h3,h4,h5,h6⟩,g4,g5,g6,g7⟩:=h
 obtain ⟨p1,c1,es1,rfl,hs,he⟩:=h5.sl
 have hcst:=cst1 H
 repeat refine jj ?_
 refine WD.dreg [H] mixed rfl ?_
 repeat refine jy ?_
 rw [if_neg (by omega)]
 repeat refine jj ?_
 exact ⟨.inl rfl,rfl,_,rfl,rfl,rfl⟩
theorem height {H:Hp} {ob sb:Nat} {bsA F:List Nat} {first:Int} {base ns:List Int} {kept:Nat} {above:List Int} (h:OvAt H ob sb bsA F first base ns kept above):FnX Tryz.prog 290 [.ptr (some ⟨ob,0,0⟩)] H fun r H'=>r= .int .i64 (kept+above.length)∧H'=H:=by
 refine FnX.enterRow ok290 (Nat.le_of_ble_eq_true rfl) ?_
 obtain ⟨v,g1,g2,g3,g4,g5,g6,g7⟩:=h
 obtain ⟨p1,c1,es1,rfl,hs,he⟩:=g2.sl
 have hcst:=cst1 H
 repeat refine jj ?_
 refine OD.call rfl rfl rfl (there g1) ?_
 rintro r H1 ⟨rfl,rfl⟩
 repeat refine jj ?_
 refine WD.dreg [H1] mixed rfl ?_
 repeat refine jy ?_
 repeat refine jj ?_
 exact ⟨.inl rfl,rfl,_,rfl,rfl,rfl⟩
theorem topOf_app {first:Int} {l m:List Int} (h:m≠[]):topOf first (l++m)=topOf first m:=by
 unfold topOf
 rw [List.getLastD_eq_getLast?,List.getLastD_eq_getLast?,List.getLast?_append,List.getLast?_eq_some_getLast h]
 rfl
theorem topOf_take {first:Int} {l:List Int} {k:Nat} (h0:0<k) (hk:k≤l.length):l[k-1]? =some (topOf first (l.take k)):=by
 unfold topOf
 rw [List.getLastD_eq_getLast?,List.getLast?_eq_getElem?,List.length_take,Nat.min_eq_left hk,List.getElem?_take,if_pos (by omega),List.getElem?_eq_getElem (by omega)]
 rfl
theorem ovTop {H:Hp} {ob sb:Nat} {bsA F:List Nat} {first:Int} {base ns:List Int} {kept:Nat} {above:List Int} (h:OvAt H ob sb bsA F first base ns kept above):FnX Tryz.prog 289 [.ptr (some ⟨ob,0,0⟩)] H fun r H'=>r= .int .i64 (topOf first (base.take kept++above))∧H'=H:=by
 refine FnX.enterRow ok289 (Nat.le_of_ble_eq_true rfl) ?_
 have hov:=h
 obtain ⟨v,g1,g2,⟨bs1,bs2,v1,v2,rfl,h1,h2,h3,h4,h5,h6⟩,g4,g5,g6,g7⟩:=h
 obtain ⟨p1,c1,es1,rfl,hs,he⟩:=g2.sl
 rw [he.ints] at hs
 obtain ⟨p2,c2,es2,rfl,hs2,he2⟩:=h5.sl
 rw [he2.ints] at hs2
 have hcst:=cst1 H
 repeat refine jj ?_
 refine OD.call rfl rfl rfl (there g1) ?_
 rintro r H1 ⟨rfl,rfl⟩
 by_cases hn:above=[]
 ·subst hn
  rw [List.append_nil]
  repeat refine jj ?_
  refine OD.call rfl rfl rfl (under hov) ?_
  rintro r H2 ⟨rfl,rfl⟩
  by_cases hk:kept=0
  ·subst hk
   repeat refine jj ?_
   exact ⟨.inl rfl,rfl,_,rfl,rfl,rfl⟩
  ·have hj:=topOf_take (first:=first) (l:=base) (k:=kept) (by omega) g4
   have hcst2:=cst2 H2
   repeat refine jj ?_
   refine WD.dreg [H2,H2] mixed rfl ?_
   repeat refine jy ?_
   refine VX.callc rfl rfl rfl rfl (under hov).fnv ?_
   repeat refine jy ?_
   refine VX.rdc hcst2 rfl (ev_ixI (j:=kept-1) hs2 rfl rfl (by omega) (by omega)) ?_
   refine VX.rdc hcst2 rfl (ev_ldI hs2 rfl hj) ?_
   repeat refine jy ?_
   repeat refine jj ?_
   exact ⟨.inl rfl,rfl,_,rfl,rfl,rfl⟩
 ·have hl:0<above.length:=List.length_pos_iff.2 hn
  obtain ⟨j,hj1,hj2⟩:=topOf_ne (first:=first) hn
  have hjl:=(List.getElem?_eq_some_iff.1 hj2).1
  rw [topOf_app hn]
  repeat refine jj ?_
  refine WD.dreg [H1] mixed rfl ?_
  repeat refine jy ?_
  refine VX.rdc hcst rfl (ev_ixI hs rfl rfl hj1 hjl) ?_
  refine VX.rdc hcst rfl (ev_ldI hs rfl hj2) ?_
  repeat refine jy ?_
  repeat refine jj ?_
  exact ⟨.inl rfl,rfl,_,rfl,rfl,rfl⟩
theorem ovPush {H:Hp} {ob sb:Nat} {bsA F:List Nat} {first:Int} {base ns:List Int} {kept:Nat} {above:List Int} {s:Int} (h:OvAt H ob sb bsA F first base ns kept above) (hl:kept+above.length<64):
 FnX Tryz.prog 292 [.ptr (some ⟨ob,0,0⟩),.int .i64 s] H fun r H'=>r= .int .i64 0∧Keep (ob::bsA) H H'∧ ∃bsA',OvAt H' ob sb bsA' F first base ns kept (above++[s])∧ ∀b∈bsA',b∈bsA∨H.length≤b:=by
 refine FnX.enterRow ok292 (Nat.le_of_ble_eq_true rfl) ?_
 have hov:=h
 obtain ⟨v,g1,g2,g3,g4,g5,g6,g7,g8,g9⟩:=h
 have hob:=g1.lt
 have hlt:=g2.lt
 have hF:=g3.lt
 obtain ⟨p1,c1,es1,rfl,hs,he⟩:=g2.sl
 repeat refine jj ?_
 refine OD.call rfl rfl rfl (there g1) ?_
 rintro r H1 ⟨rfl,rfl⟩
 repeat refine jj ?_
 refine OD.call rfl rfl rfl (height hov) ?_
 rintro r H2 ⟨rfl,rfl⟩
 repeat refine jj ?_
 refine OD.app1 (α:=Int) (bytes:=8) (ok:=nok) (x:=s) rfl (ev_mkint rfl) rfl g2 rfl rfl (fun i h=>h.elim) (by omega) (by omega) fun v1' H3 bs1' a1 a2 a3=> ?_
 have e1:=a2.1
 have b1:=g1.keep a2 g8
 obtain ⟨p3,c3,es3,rfl,_,_⟩:=a1.sl
 repeat refine jj ?_
 refine OD.st rfl rfl rfl b1 rfl rfl rfl (Nat.le_of_ble_eq_true rfl) rfl fun H4 b2 k2 l2=> ?_
 repeat refine jj ?_
 refine ⟨.inl rfl,rfl,_,rfl,rfl,(a2.mono (N:=ob::bsA) (by grind)).trans k2 (by grind),bs1',⟨_,b2,a1.keep k2 (by grind) (fun i h=>h.elim),(g3.keep a2 (by grind)).keep k2 (by grind),g4,g5,by simp;omega,g7,by grind,by grind⟩,a3⟩
theorem ovPop {H:Hp} {ob sb:Nat} {bsA F:List Nat} {first:Int} {base ns:List Int} {kept:Nat} {above:List Int} {k:Nat} (h:OvAt H ob sb bsA F first base ns kept above) (hk:k≤kept+above.length):
 FnX Tryz.prog 291 [.ptr (some ⟨ob,0,0⟩),.int .i64 k] H fun r H'=>Keep [ob] H H'∧ ∃kept' above',OvAt H' ob sb bsA F first base ns kept' above'∧base.take kept'++above'=(base.take kept++above).take (kept+above.length-k)∧kept'+above'.length=kept+above.length-k:=by
 refine FnX.enterRow ok291 (Nat.le_of_ble_eq_true rfl) ?_
 have hov:=h
 obtain ⟨v,g1,g2,g3,g4,g5,g6,g7,g8,g9⟩:=h
 obtain ⟨p1,c1,es1,rfl,hs,he⟩:=g2.sl
 obtain ⟨own,ho⟩: ∃own,own=min k above.length:=⟨_,rfl⟩
 have hmin:(if (above.length:Int)<k then (above.length:Int) else k)=(own:Int):=by split<;>omega
 have hsub:(above.length:Int)-own=((above.length-own:Nat):Int):=by omega
 have hsub2:(kept:Int)-((k:Int)-own)=((kept-(k-own):Nat):Int):=by omega
 obtain ⟨v',e1,g10⟩:=g2.cut (k:=above.length-own) (by omega) rfl
 obtain ⟨p3,c3,es3,rfl,_,_⟩:=g10.sl
 obtain ⟨us,e2,b1,k1,l1⟩:=g1.st (off:=2) (k:=1) (v:= .sl p3 (above.take (above.length-own)).length c3) rfl rfl rfl (Nat.le_of_ble_eq_true rfl) rfl
 repeat refine jj ?_
 refine OD.call rfl rfl rfl (there g1) ?_
 rintro r H1 ⟨rfl,rfl⟩
 repeat refine jj ?_
 refine OD.call rfl rfl rfl (height hov) ?_
 rintro r H2 ⟨rfl,rfl⟩
 repeat refine jj ?_
 rw [hmin]
 repeat refine jj ?_
 refine WD.dreg [H2,applyU H2 us] mixed rfl ?_
 repeat refine jz ?_
 rw [hsub]
 refine VX.rdn rfl rfl rfl (e1 _ _ _ rfl rfl) ?_
 repeat refine jz ?_
 refine VX.ef2 rfl (e2 _ _ _ _ rfl rfl) rfl ?_
 repeat refine jz ?_
 repeat refine jj ?_
 rw [hsub2]
 repeat refine jj ?_
 refine OD.st rfl rfl rfl b1 rfl rfl rfl (Nat.le_of_ble_eq_true rfl) rfl fun H4 b2 k2 l2=> ?_
 repeat refine jj ?_
 have hp1:base.take (kept-(k-own))++above.take (above.length-own)=(base.take kept++above).take (kept+above.length-k):=by
  rw [List.take_append,List.take_take,List.length_take,Nat.min_eq_left g4]
  by_cases hq:k≤above.length
  ·obtain rfl:own=k:=by omega
   rw [show kept-(own-own)=kept by omega,show min (kept+above.length-own) kept=kept by omega,show kept+above.length-own-kept=above.length-own by omega]
  ·obtain rfl:own=above.length:=by omega
   rw [show above.length-above.length=0 by omega,show kept+above.length-k-kept=0 by omega,show min (kept+above.length-k) kept=kept-(k-above.length) by omega]
 refine ⟨.inl rfl,rfl,_,rfl,k1.trans k2 (by simp),kept-(k-own),above.take (above.length-own),⟨_,b2,(g10.keep k1 (by grind) (fun i h=>h.elim)).keep k2 (by grind) (fun i h=>h.elim),(g3.keep k1 (by grind)).keep k2 (by grind),by omega,g5,by rw [List.length_take];omega,g7,g8,g9⟩,hp1,by rw [List.length_take];omega⟩
end Dr
end Go.Proofs.YtnjjieohlnhicaaGreatDoor
end
section
namespace Go.Proofs.YtnjjieohlnhicaaGreatDoor
set_option linter.unusedSimpArgs false
set_option linter.unusedVariables false
open Go Go.Wm Go.Proofs Go.RowKit
set_option maxRecDepth 100000
set_option maxHeartbeats 4000000
namespace Dr
theorem grow {H:Hp} {n:Nat} (hn:n≤1000000000000):FnX Tryz.prog 320 [.sl none 0 0,.int .i64 n] H fun r H'=>Keep [] H H'∧ ∃bs,BufR nok H' bs 3 r ([]:List Int)∧ ∀b∈bs,H.length≤b:=by
 refine FnX.enterRow ok320 (Nat.le_of_ble_eq_true rfl) ?_
 have e1:((n:Nat):Int)-((0:Int)-((0:Nat):Int))=n:=by omega
 by_cases h0:n=0
 ·subst h0
  repeat refine jj ?_
  exact ⟨.inl rfl,rfl,_,rfl,Keep.refl _,[],BufR.nil _ _ _,by simp⟩
 ·repeat refine jj ?_
  rw [e1]
  repeat refine jj ?_
  have happ: ∀(E:Fr) (K:Gt) (N:Nat) (s m:Od),s.ev E=some (.sl none 0 0)→m.ev E=some (.int .i64 n)→(VEf.appz 3 [.int .i64 0] 8 s m).ev E K N=some (.sl (some ⟨N,0,0⟩) n n,[(N,.row 3 .loose (List.replicate n [.int .i64 0]))]):=fun E K N s m h1 h2=>by
   simp only [VEf.ev,h1,h2,Int.toNat_natCast]
   rw [if_pos ⟨by omega,by omega,by omega⟩]
  refine OD.ef rfl (happ _ _ _ _ _ rfl rfl) ?_
  rw [applyU_push]
  have hbuf:Buf (H++[Blk.row 3 .loose (List.replicate n [.int .i64 0])]) [H.length] 3 1 (.sl (some ⟨H.length,0,0⟩) n n) (List.replicate n [.int .i64 0]):=
   .inr ⟨H.length,.loose,_,rfl,by simp,by simp,by simp,fun h=>absurd h (by simp;exact h0),fun e he=>by rw [List.eq_of_mem_replicate he];rfl,List.prefix_refl _⟩
  obtain ⟨v',e2,e3⟩:=(BufR.cut (α:=Int) (ok:=nok) ⟨_,hbuf,by
   have:List.replicate n [VV.int .i64 0]=intEs (List.replicate n 0):=by simp [intEs]
   rw [this];exact EsR.ofInts _ _ _⟩ (k:=0) (by omega) rfl)
  repeat refine jj ?_
  refine OD.rd rfl (e2 _ _ _ rfl rfl) ?_
  repeat refine jj ?_
  exact ⟨.inl rfl,rfl,_,rfl,Keep.app _,[H.length],e3,by simp⟩
theorem flat_take {α:Type} {ls:List (List α)} {k:Nat} {l:List α} (h:ls[k]? =some l):(ls.take (k+1)).flatten=(ls.take k).flatten++l:=by
 rw [List.take_add_one,h,List.flatten_append];simp
theorem flat_len {α:Type} (ls:List (List α)) (k:Nat):(ls.take k).flatten.length≤ls.flatten.length:=by
 conv=>rhs;rw [←List.take_append_drop k ls,List.flatten_append,List.length_append]
 omega
theorem concat {H:Hp} {ok:Nat→Prop} {p:Option PA} {c:Nat} {ls:List (List Int)} (h:SlR ok H p ls) (hl:ls.flatten.length≤1000000000) (hll:ls.length≤1000000000):FnX Tryz.prog 294 [.sl p ls.length c] H fun r H'=>Keep [] H H'∧ ∃bs,BufR nok H' bs 3 r ls.flatten∧ ∀b∈bs,H.length≤b:=by
 refine FnX.enterRow ok294 (Nat.le_of_ble_eq_true rfl) ?_
 repeat refine jj ?_
 refine WD.loop (fun n F H'=> ∃k:Nat,n=ls.length-k∧k≤ls.length∧Cov [(0,.sl p ls.length c),(3,.int .i64 (ls.take k).flatten.length),(9,.sl p ls.length c),(10,.int .i64 ls.length),(11,.int .i64 k)] F∧F.get dslot=none∧H'=H) ls.length ⟨0,rfl,Nat.zero_le _,⟨rfl,rfl,rfl,rfl,rfl,trivial⟩,rfl,rfl⟩ ?_
 rintro n F H' ⟨k,rfl,hk,hc,hd,rfl⟩
 refine WD.cov hc hd rfl ?_
 by_cases hkl:k<ls.length
 ·have hlk:ls[k]? =some ls[k]:=List.getElem?_eq_getElem hkl
  generalize ls[k]=l at hlk
  obtain ⟨q,cq,e1,_⟩:=h.ldL hlk
  have hft:=flat_take hlk
  have hfl:=flat_len ls (k+1)
  rw [hft,List.length_append] at hfl
  repeat refine jj ?_
  refine OD.rd rfl (ev_ixR h rfl rfl (by omega) (by omega) rfl) ?_
  rw [Int.toNat_natCast]
  refine OD.rd rfl (e1 _ _ rfl) ?_
  repeat refine jj ?_
  refine ⟨_,by omega,k+1,rfl,by omega,⟨rfl,?_,rfl,rfl,by rw [Int.natCast_add];rfl,trivial⟩,rfl,rfl⟩
  rw [hft,List.length_append,Int.natCast_add];rfl
 ·have hall:ls.take k=ls:=List.take_of_length_le (by omega)
  rw [hall] at*
  repeat refine jj ?_
  refine OD.call rfl rfl rfl (grow (by omega)) ?_
  rintro r H1 ⟨k1,bs1,a1,a2⟩
  have hh1:=h.keep (H':=H1) (fun i hi _=>k1.2 i hi (by simp))
  obtain ⟨pr,cr,er,rfl,_,_⟩:=a1.sl
  repeat refine jj ?_
  refine WD.loop (fun n F H2=> ∃(k:Nat) (bs:List Nat) (v:VV),n=ls.length-k∧k≤ls.length∧Cov [(6,v),(25,.sl p ls.length c),(26,.int .i64 ls.length),(27,.int .i64 k)] F∧F.get dslot=none∧Keep [] H' H2∧BufR nok H2 bs 3 v (ls.take k).flatten∧ ∀b∈bs,H'.length≤b) ls.length ⟨0,bs1,_,rfl,Nat.zero_le _,⟨rfl,rfl,rfl,rfl,trivial⟩,rfl,k1,a1,a2⟩ ?_
  rintro n F H2 ⟨k,bs,v,rfl,hk,hc,hd,k2,b1,b2⟩
  refine WD.cov hc hd rfl ?_
  have hh2:=h.keep (H':=H2) (fun i hi _=>k2.2 i hi (by simp))
  by_cases hkl:k<ls.length
  ·have hlk:ls[k]? =some ls[k]:=List.getElem?_eq_getElem hkl
   generalize ls[k]=l at hlk
   obtain ⟨q,cq,e1,hl1⟩:=hh2.ldL hlk
   have hft:=flat_take hlk
   have hfl:=flat_len ls (k+1)
   rw [hft,List.length_append] at hfl
   obtain ⟨v',us,bs',c1,c2,c3,c4⟩:=b1.many (c:=cq) (bytes:=8) (z:=1) hl1.ints (EsR.ofInts nok H2 l) (fun i h=>h.elim) rfl (by omega) (by omega)
   have e2:=k2.1
   repeat refine jj ?_
   refine OD.rd rfl (ev_ixR hh2 rfl rfl (by omega) (by omega) rfl) ?_
   rw [Int.toNat_natCast]
   refine OD.rd rfl (e1 _ _ rfl) ?_
   repeat refine jj ?_
   refine OD.ef rfl (c1 _ _ _ rfl rfl) ?_
   repeat refine jj ?_
   exact ⟨_,by omega,k+1,bs',v',rfl,by omega,⟨rfl,rfl,rfl,by rw [Int.natCast_add];rfl,trivial⟩,rfl,k2.trans c3 (by grind),by rw [hft];exact c2,by grind⟩
  ·have hall:ls.take k=ls:=List.take_of_length_le (by omega)
   rw [hall] at b1
   repeat refine jj ?_
   exact ⟨.inl rfl,rfl,_,rfl,k2,bs,b1,b2⟩
theorem ovStates {H:Hp} {ob sb:Nat} {bsA F:List Nat} {first:Int} {base ns:List Int} {kept:Nat} {above:List Int} (h:OvAt H ob sb bsA F first base ns kept above):FnX Tryz.prog 232 [.ptr (some ⟨ob,0,0⟩)] H fun r H'=>Keep [] H H'∧ ∃bs,BufR nok H' bs 3 r (first::(base.take kept++above))∧ ∀b∈bs,H.length≤b:=by
 refine FnX.enterRow ok232 (Nat.le_of_ble_eq_true rfl) ?_
 have hov:=h
 obtain ⟨v,g1,g2,⟨bs1,bs2,v1,v2,rfl,h1,h2,h3,h4,h5,h6⟩,g4,g5,g6,g7,g8,g9⟩:=h
 obtain ⟨p1,c1,es1,rfl,_,_⟩:=g2.sl
 obtain ⟨p2,c2,es2,rfl,_,_⟩:=h5.sl
 repeat refine jj ?_
 refine OD.call rfl rfl rfl (there g1) ?_
 rintro r H1 ⟨rfl,rfl⟩
 repeat refine jj ?_
 obtain ⟨v',e1,b1⟩:=h5.cut2 (k:=kept) g4 rfl
 obtain ⟨p3,c3,es3,rfl,_,_⟩:=b1.sl
 have hlt:=h5.lt
 have k1:Keep [] H1 (H1++[Blk.row 3 .own [[.int .i64 first]]]):=Keep.app _
 obtain ⟨K1,hK1⟩: ∃K1,K1=H1++[Blk.row 3 .own [[VV.int .i64 first]]]:=⟨_,rfl⟩
 have hlen1:K1.length=H1.length+1:=by rw [hK1];simp
 have s1:SlR (fun _=>True) K1 (some ⟨H1.length,0,0⟩) [first]:=by rw [hK1];exact SlR.last trivial (EsR.ofInts _ _ [first])
 rw [←hK1] at k1
 obtain ⟨rows,hrows⟩: ∃rows:List (List VV),rows=[[.sl (some ⟨H1.length,0,0⟩) 1 1],[.sl p3 (base.take kept).length c3],[.sl p1 above.length c1]]:=⟨_,rfl⟩
 have k2:Keep [] K1 (K1++[Blk.row 22 .own rows]):=Keep.app _
 obtain ⟨K2,hK2⟩: ∃K2,K2=K1++[Blk.row 22 .own rows]:=⟨_,rfl⟩
 have s2:SlR (fun _=>True) K2 (some ⟨K1.length,0,0⟩) [[first],base.take kept,above]:=by
  rw [hK2,hrows]
  rw [hrows] at k2
  refine SlR.last trivial (EsR.cons ⟨_,_,rfl,s1.keep fun i hi _=>k2.2 i hi (by simp)⟩ (EsR.cons ⟨_,c3,rfl,?_⟩ (EsR.cons ⟨_,c1,rfl,?_⟩ EsR.nil)))
  ·exact SlR.ofInts ((b1.keep k1 (by simp) (fun i h=>h.elim)).keep k2 (by simp) (fun i h=>h.elim)).slI (fun q _ _=>trivial)
  ·exact SlR.ofInts ((g2.keep k1 (by simp) (fun i h=>h.elim)).keep k2 (by simp) (fun i h=>h.elim)).slI (fun q _ _=>trivial)
 rw [←hK2] at k2
 have hfl:([[first],base.take kept,above]:List (List Int)).flatten=first::(base.take kept++above):=by simp
 obtain ⟨r,H4,⟨k3,bs,a1,a2⟩,hF⟩:=concat (c:=3) s2 (by rw [hfl];simp;omega) (by simp)
 rw [hfl] at a1
 have hK: ∀j H2,[H1,H1,K1,K2,H4][j]? =some H2→j≤2→Keep [] H1 H2:=fun j H2 hj hj2=>by
  match j,hj with
  |0,hj=>cases hj;exact Keep.refl _
  |1,hj=>cases hj;exact Keep.refl _
  |2,hj=>cases hj;exact k1
  |j+3,hj=>omega
 refine WD.dreg [H1,H1,K1,K2,H4] mixed rfl ?_
 repeat refine jk hK ?_
 refine VX.callc rfl rfl rfl rfl (under hov).fnv ?_
 repeat refine jk hK ?_
 refine VX.ef1 rfl (ev_mkint rfl) (by rw [applyU_push,hK1]) rfl ?_
 repeat refine jk hK ?_
 refine VX.rdq hK (by decide) rfl (fun K k=>e1 _ (k.g fun b hb=>⟨hlt b hb,by simp⟩) _ _ _ rfl rfl) ?_
 repeat refine jk hK ?_
 have hmk: ∀(E:Fr) (G:Gt) (n:Nat),E.get 13=some (.sl (some ⟨H1.length,0,0⟩) 1 1)→E.get 23=some (.sl p3 (base.take kept).length c3)→E.get 27=some (.sl p1 above.length c1)→
  (VEf.mkrow 22 [.sl none 0 0] 3 [(0,.t 13),(1,.t 23),(2,.t 27)]).ev E G n=some (.sl (some ⟨n,0,0⟩) 3 3,[(n,.row 22 .own rows)]):=fun E G n q1 q2 q3=>by
  simp [VEf.ev,fillRows,Od.ev,q1,q2,q3,VV.defd,VV.cells,okCells,VV.cell,hrows]
 refine VX.ef1 rfl (hmk _ _ _ rfl rfl rfl) (by rw [applyU_push,hK2]) rfl ?_
 refine VX.call2 rfl rfl rfl rfl hF ?_
 refine VX.rdp rfl (fun _=>rfl) ?_
 refine VX.fin rfl ?_
 repeat refine jj ?_
 have q1:=k1.1
 have q2:=k2.1
 exact ⟨.inl rfl,rfl,_,rfl,(k1.trans k2 (by simp)).trans k3 (by simp),bs,a1,fun b hb=>by have:=a2 b hb;omega⟩
theorem ovReset {H:Hp} {ob sb:Nat} {F:List Nat} {first:Int} {base ns:List Int} {x y:VV} (h:StackAt H sb F first base ns) (hb:Box H ob [.ptr (some ⟨sb,0,0⟩),x,y]) (hob:ob∉F) (hl:base.length≤64):FnX Tryz.prog 288 [.ptr (some ⟨ob,0,0⟩)] H fun r H'=>Keep [ob] H H'∧OvAt H' ob sb [] F first base ns base.length []:=by
 refine FnX.enterRow ok288 (Nat.le_of_ble_eq_true rfl) ?_
 have hst:=h
 obtain ⟨bs1,bs2,v1,v2,rfl,h1,h2,h3,h4,h5,h6⟩:=h
 obtain ⟨p2,c2,es2,rfl,_,_⟩:=h5.sl
 repeat refine jj ?_
 refine OD.call rfl rfl rfl (there hb) ?_
 rintro r H1 ⟨rfl,rfl⟩
 repeat refine jj ?_
 refine OD.st rfl rfl rfl hb rfl rfl rfl (Nat.le_of_ble_eq_true rfl) rfl fun H2 g1 k1 l1=> ?_
 repeat refine jj ?_
 refine OD.st rfl rfl rfl g1 rfl rfl rfl (Nat.le_of_ble_eq_true rfl) rfl fun H3 g2 k2 l2=> ?_
 repeat refine jj ?_
 exact ⟨.inr rfl,rfl,_,rfl,k1.trans k2 (by simp),_,g2,BufR.nil _ _ _,(hst.keep k1 (by grind)).keep k2 (by grind),Nat.le_refl _,hl,by simpa using hl,hob,by simp,by simp⟩
theorem over {H:Hp} {sb:Nat} {F:List Nat} {first:Int} {base ns:List Int} (h:StackAt H sb F first base ns) (hl:base.length≤64):FnX Tryz.prog 230 [.ptr (some ⟨sb,0,0⟩)] H fun r H'=>r= .ptr (some ⟨H.length,0,0⟩)∧Keep [] H H'∧OvAt H' H.length sb [] F first base ns base.length []:=by
 refine FnX.enterRow ok230 (Nat.le_of_ble_eq_true rfl) ?_
 have hF:=h.lt
 repeat refine jj ?_
 refine OD.ef rfl (ev_boxN rfl rfl rfl rfl) ?_
 rw [applyU_push]
 have k1:Keep [] H (H++[Blk.row 439 .own [[.ptr (some ⟨sb,0,0⟩),.int .i64 0,.sl none 0 0]]]):=Keep.app _
 repeat refine jj ?_
 refine OD.call rfl rfl rfl (ovReset (h.keep k1 (by simp)) (Box.last _ _ _) (fun hb=>by have:=hF _ hb;omega) hl) ?_
 rintro r H2 ⟨k2,h2⟩
 repeat refine jj ?_
 exact ⟨.inl rfl,rfl,_,rfl,rfl,k1.trans k2 (by grind),h2⟩
end Dr
end Go.Proofs.YtnjjieohlnhicaaGreatDoor
end
section
namespace Go.Proofs.YtnjjieohlnhicaaGreatDoor
set_option linter.unusedSimpArgs false
set_option linter.unusedVariables false
open Go Go.Wm Go.Proofs Go.RowKit
set_option maxRecDepth 100000
set_option maxHeartbeats 4000000
namespace Dr
abbrev PR:=List Int×List Int×List Int
def at? (r:PR) (row place:Int):Option Int:=
 if row<0∨(r.1.length:Int)≤row∨place<0 then none else
 match r.1[row.toNat]? with
 |none=>none
 |some base=>if base<0∨((min r.2.1.length r.2.2.length:Nat):Int)<base∨((min r.2.1.length r.2.2.length:Nat):Int)-base≤place then none else
  match r.2.2[(base+place).toNat]? with
  |some o=>if o=row then r.2.1[(base+place).toNat]? else none
  |none=>none
def optV (o:Option Int):VV:= .tup [.int .i64 (o.getD 0),.bool o.isSome]
theorem packAt {H:Hp} {v1 v2 v3:VV} {r:PR} {row place:Int} (h1:Ints H v1 r.1) (h2:Ints H v2 r.2.1) (h3:Ints H v3 r.2.2) (l1:r.1.length≤1000000000) (l2:r.2.1.length≤1000000000) (l3:r.2.2.length≤1000000000):
 FnX Tryz.prog 356 [.agg [v1,v2,v3],.int .i64 row,.int .i64 place] H fun x H'=>x=optV (at? r row place)∧H'=H:=by
 refine FnX.tidy rfl (FnX.enterRow ok356 (Nat.le_of_ble_eq_true rfl) ?_)
 obtain ⟨p1,c1,rfl,s1⟩:=h1
 obtain ⟨p2,c2,rfl,s2⟩:=h2
 obtain ⟨p3,c3,rfl,s3⟩:=h3
 refine WD.seq ?_
 refine WD.reg ?_
 refine OD.ef rfl (ev_boxN rfl rfl rfl rfl) ?_
 rw [applyU_push]
 obtain ⟨H1,hH1⟩: ∃H1,H1=H++[Blk.row 70 .own [[VV.sl p1 r.1.length c1,.sl p2 r.2.1.length c2,.sl p3 r.2.2.length c3]]]:=⟨_,rfl⟩
 have k1:Keep [] H H1:=by rw [hH1];exact Keep.app _
 have hb:Box H1 H.length [VV.sl p1 r.1.length c1,.sl p2 r.2.1.length c2,.sl p3 r.2.2.length c3]:=by rw [hH1];exact Box.last _ _ _
 have t1:Sl H1 p1 1 (intEs r.1):=by rw [hH1];exact s1.mono _
 have t2:Sl H1 p2 1 (intEs r.2.1):=by rw [hH1];exact s2.mono _
 have t3:Sl H1 p3 1 (intEs r.2.2):=by rw [hH1];exact s3.mono _
 refine Eq.mp (congrArg (fun K=>OD Tryz.prog _ _ _ _ K _) hH1) ?_
 clear hH1
 have hcst:=cst1 H1
 by_cases q1:row<0
 ·have hn:at? r row place=none:=by unfold at?;rw [if_pos (.inl q1)]
  rw [hn]
  repeat refine jj ?_
  exact ⟨.inl rfl,rfl,_,rfl,rfl,k1⟩
 by_cases q2:(r.1.length:Int)≤row
 ·have hn:at? r row place=none:=by unfold at?;rw [if_pos (.inr (.inl q2))]
  rw [hn]
  repeat refine jj ?_
  exact ⟨.inl rfl,rfl,_,rfl,rfl,k1⟩
 by_cases q3:place<0
 ·have hn:at? r row place=none:=by unfold at?;rw [if_pos (.inr (.inr q3))]
  rw [hn]
  repeat refine jj ?_
  exact ⟨.inl rfl,rfl,_,rfl,rfl,k1⟩
 obtain ⟨j,rfl⟩: ∃j:Nat,row=j:=⟨row.toNat,by omega⟩
 obtain ⟨base,hbase⟩: ∃base,r.1[j]? =some base:=⟨_,List.getElem?_eq_getElem (by omega)⟩
 obtain ⟨n,hn⟩: ∃n,n=min r.2.1.length r.2.2.length:=⟨_,rfl⟩
 have hmin:(if (r.2.2.length:Int)<r.2.1.length then (r.2.2.length:Int) else r.2.1.length)=(n:Int):=by split<;>omega
 have hat:at? r j place=if base<0∨(n:Int)<base∨(n:Int)-base≤place then none else
  match r.2.2[(base+place).toNat]? with
  |some o=>if o=j then r.2.1[(base+place).toNat]? else none
  |none=>none:=by
  unfold at?
  rw [if_neg (by omega),Int.toNat_natCast,hbase,←hn]
 repeat refine jj ?_
 refine WD.dreg [H1] mixed rfl ?_
 repeat refine jy ?_
 refine VX.rdc hcst rfl (ev_ixI t1 rfl rfl rfl (by omega)) ?_
 refine VX.rdc hcst rfl (ev_ldI t1 rfl hbase) ?_
 repeat refine jy ?_
 rw [hmin]
 by_cases q4:base<0
 ·rw [if_pos (.inl q4)] at hat
  rw [hat]
  repeat refine jj ?_
  exact ⟨.inl rfl,rfl,_,rfl,rfl,k1⟩
 by_cases q5:(n:Int)<base
 ·rw [if_pos (.inr (.inl q5))] at hat
  rw [hat]
  repeat refine jj ?_
  exact ⟨.inl rfl,rfl,_,rfl,rfl,k1⟩
 by_cases q6:(n:Int)-base≤place
 ·rw [if_pos (.inr (.inr q6))] at hat
  rw [hat]
  repeat refine jj ?_
  exact ⟨.inl rfl,rfl,_,rfl,rfl,k1⟩
 rw [if_neg (by omega)] at hat
 obtain ⟨i,hi⟩: ∃i:Nat,base+place=i:=⟨(base+place).toNat,by omega⟩
 obtain ⟨o,ho⟩: ∃o,r.2.2[i]? =some o:=⟨_,List.getElem?_eq_getElem (by omega)⟩
 obtain ⟨v,hv⟩: ∃v,r.2.1[i]? =some v:=⟨_,List.getElem?_eq_getElem (by omega)⟩
 rw [hi,Int.toNat_natCast,ho] at hat
 simp only at hat
 repeat refine jj ?_
 refine OD.rd rfl (ev_ixI (j:=i) t3 rfl rfl hi (by omega)) ?_
 refine OD.rd rfl (ev_ldI t3 rfl ho) ?_
 by_cases q7:o=j
 ·rw [if_pos q7,hv] at hat
  rw [hat]
  repeat refine jj ?_
  refine OD.rd rfl (ev_ixI (j:=i) t2 rfl rfl hi (by omega)) ?_
  refine OD.rd rfl (ev_ldI t2 rfl hv) ?_
  repeat refine jj ?_
  exact ⟨.inl rfl,rfl,_,rfl,rfl,k1⟩
 ·rw [if_neg q7] at hat
  rw [hat]
  repeat refine jj ?_
  exact ⟨.inl rfl,rfl,_,rfl,rfl,k1⟩
abbrev PT:=List Int×PR×List Int×PR
def pAct (p:PT) (state term:Int):Int×Int:=
 match at? p.2.1 state term with
 |some v=>if 0<v then (1,v-1) else if v< -1 then (2,-1-v) else if v<0 then (3,0) else (4,0)
 |none=>if 0≤state∧state<p.1.length then (match p.1[state.toNat]? with|some d=>if 0<d then (2,d) else (0,0)|none=>(0,0)) else (0,0)
def pGoto (p:PT) (state non:Int):Int:=
 match at? p.2.2.2 non state with
 |some v=>v
 |none=>if 0≤non∧non<p.2.2.1.length then (p.2.2.1[non.toNat]?).getD (-1) else-1
def i64 (n:Int):Prop:= -9223372036854775808≤n∧n≤9223372036854775807
structure PtAt (H:Hp) (cs:List VV) (p:PT):Prop where
 ex: ∃d b v o t b2 v2 o2,cs=[d,b,v,o,t,b2,v2,o2]∧Ints H d p.1∧Ints H b p.2.1.1∧Ints H v p.2.1.2.1∧Ints H o p.2.1.2.2∧Ints H t p.2.2.1∧Ints H b2 p.2.2.2.1∧Ints H v2 p.2.2.2.2.1∧Ints H o2 p.2.2.2.2.2
 ln:p.1.length≤1000000000∧p.2.1.1.length≤1000000000∧p.2.1.2.1.length≤1000000000∧p.2.1.2.2.length≤1000000000∧p.2.2.1.length≤1000000000∧p.2.2.2.1.length≤1000000000∧p.2.2.2.2.1.length≤1000000000∧p.2.2.2.2.2.length≤1000000000
 wf: ∀n∈p.2.1.2.1,i64 n
theorem at?_mem {r:PR} {row place v:Int} (h:at? r row place=some v):v∈r.2.1:=by
 unfold at? at h
 split at h
 ·cases h
 ·split at h
  ·cases h
  ·split at h
   ·cases h
   ·split at h
    ·split at h
     ·exact List.mem_of_getElem? h
     ·cases h
    ·cases h
def actV (a:Int×Int):VV:= .agg [.int .i64 a.1,.int .i64 a.2]
theorem packAction {H:Hp} {cs:List VV} {p:PT} {state term:Int} (h:PtAt H cs p):FnX Tryz.prog 354 [.agg cs,.int .i64 state,.int .i64 term] H fun x H'=>x=actV (pAct p state term)∧H'=H:=by
 refine FnX.tidy rfl (FnX.enterRow ok354 (Nat.le_of_ble_eq_true rfl) ?_)
 obtain ⟨⟨d,b,v,o,t,b2,v2,o2,rfl,i1,i2,i3,i4,i5,i6,i7,i8⟩,⟨l1,l2,l3,l4,l5,l6,l7,l8⟩,wf⟩:=h
 obtain ⟨p1,c1,rfl,s1⟩:=i1
 obtain ⟨p2,c2,rfl,s2⟩:=i2
 obtain ⟨p3,c3,rfl,s3⟩:=i3
 obtain ⟨p4,c4,rfl,s4⟩:=i4
 obtain ⟨p5,c5,rfl,s5⟩:=i5
 obtain ⟨p6,c6,rfl,s6⟩:=i6
 obtain ⟨p7,c7,rfl,s7⟩:=i7
 obtain ⟨p8,c8,rfl,s8⟩:=i8
 refine WD.seq ?_
 refine WD.reg ?_
 refine OD.bx rfl rfl rfl rfl rfl fun H1 b1 k1 n1=> ?_
 refine OD.al rfl fun H2 a2 k2 n2=> ?_
 have b2:=b1.keep k2 (by simp)
 have k02:=k1.trans k2 (by simp)
 have t1:Sl H2 p1 1 (intEs p.1):=s1.keep k02 (by simp)
 repeat refine jj ?_
 refine OD.call rfl rfl rfl (packAt ⟨p2,c2,rfl,s2.keep k02 (by simp)⟩ ⟨p3,c3,rfl,s3.keep k02 (by simp)⟩ ⟨p4,c4,rfl,s4.keep k02 (by simp)⟩ l2 l3 l4) ?_
 rintro r H3 ⟨rfl,rfl⟩
 have fin: ∀(x y:Int) (H4:Hp),Box H4 H1.length [.int .i64 x,.int .i64 y]→Keep [H1.length] H3 H4→Keep [] H H4:=fun x y H4 _ k4=>(k02.trans k4 (fun i hi hl=>by simp at hi;omega))
 cases hat:at? p.2.1 state term with
 |some w=>
  have hw:=wf w (at?_mem hat)
  unfold i64 at hw
  rw [show optV (some w)= .tup [.int .i64 w,.bool true] from rfl]
  by_cases q1:0<w
  ·have hp:pAct p state term=(1,w-1):=by unfold pAct;rw [hat];simp only;rw [if_pos q1]
   rw [hp]
   repeat refine jj ?_
   refine OD.st rfl rfl rfl a2 rfl rfl rfl (Nat.le_of_ble_eq_true rfl) rfl fun H4 a4 k4 n4=> ?_
   repeat refine jj ?_
   exact ⟨.inl rfl,rfl,_,resC rfl a4 rfl,rfl,fin _ _ _ a4 k4⟩
  by_cases q2:w< -1
  ·have hp:pAct p state term=(2,-1-w):=by unfold pAct;rw [hat];simp only;rw [if_neg q1,if_pos q2]
   rw [hp]
   repeat refine jj ?_
   refine OD.st rfl rfl rfl a2 rfl rfl rfl (Nat.le_of_ble_eq_true rfl) rfl fun H4 a4 k4 n4=> ?_
   repeat refine jj ?_
   exact ⟨.inl rfl,rfl,_,resC rfl a4 rfl,rfl,fin _ _ _ a4 k4⟩
  by_cases q3:w<0
  ·have hp:pAct p state term=(3,0):=by unfold pAct;rw [hat];simp only;rw [if_neg q1,if_neg q2,if_pos q3]
   rw [hp]
   repeat refine jj ?_
   refine OD.st rfl rfl rfl a2 rfl rfl rfl (Nat.le_of_ble_eq_true rfl) rfl fun H4 a4 k4 n4=> ?_
   repeat refine jj ?_
   exact ⟨.inl rfl,rfl,_,resC rfl a4 rfl,rfl,fin _ _ _ a4 k4⟩
  ·have hp:pAct p state term=(4,0):=by unfold pAct;rw [hat];simp only;rw [if_neg q1,if_neg q2,if_neg q3]
   rw [hp]
   repeat refine jj ?_
   refine OD.st rfl rfl rfl a2 rfl rfl rfl (Nat.le_of_ble_eq_true rfl) rfl fun H4 a4 k4 n4=> ?_
   repeat refine jj ?_
   exact ⟨.inl rfl,rfl,_,resC rfl a4 rfl,rfl,fin _ _ _ a4 k4⟩
 |none=>
  rw [show optV none= .tup [.int .i64 0,.bool false] from rfl]
  have fin0:Keep [H1.length] H3 H3:=Keep.refl _
  by_cases q1:0≤state
  ·by_cases q2:state<p.1.length
   ·obtain ⟨j,rfl⟩: ∃j:Nat,state=j:=⟨state.toNat,by omega⟩
    obtain ⟨d,hd⟩: ∃d,p.1[j]? =some d:=⟨_,List.getElem?_eq_getElem (by omega)⟩
    by_cases q3:0<d
    ·have hp:pAct p j term=(2,d):=by unfold pAct;rw [hat];simp only;rw [if_pos ⟨q1,q2⟩,Int.toNat_natCast,hd];simp only;rw [if_pos q3]
     rw [hp]
     repeat refine jj ?_
     refine OD.rd rfl (ev_ixI (j:=j) t1 rfl rfl rfl (by omega)) ?_
     refine OD.rd rfl (ev_ldI t1 rfl hd) ?_
     repeat refine jj ?_
     refine OD.rd rfl (ev_ixI (j:=j) t1 rfl rfl rfl (by omega)) ?_
     refine OD.rd rfl (ev_ldI t1 rfl hd) ?_
     repeat refine jj ?_
     refine OD.st rfl rfl rfl a2 rfl rfl rfl (Nat.le_of_ble_eq_true rfl) rfl fun H4 a4 k4 n4=> ?_
     repeat refine jj ?_
     exact ⟨.inl rfl,rfl,_,resC rfl a4 rfl,rfl,fin _ _ _ a4 k4⟩
    ·have hp:pAct p j term=(0,0):=by unfold pAct;rw [hat];simp only;rw [if_pos ⟨q1,q2⟩,Int.toNat_natCast,hd];simp only;rw [if_neg q3]
     rw [hp]
     repeat refine jj ?_
     refine OD.rd rfl (ev_ixI (j:=j) t1 rfl rfl rfl (by omega)) ?_
     refine OD.rd rfl (ev_ldI t1 rfl hd) ?_
     repeat refine jj ?_
     refine OD.st rfl rfl rfl a2 rfl rfl rfl (Nat.le_of_ble_eq_true rfl) rfl fun H4 a4 k4 n4=> ?_
     repeat refine jj ?_
     exact ⟨.inl rfl,rfl,_,resC rfl a4 rfl,rfl,fin _ _ _ a4 k4⟩
   ·have hp:pAct p state term=(0,0):=by unfold pAct;rw [hat];simp only;rw [if_neg (by omega)]
    rw [hp]
    repeat refine jj ?_
    refine OD.st rfl rfl rfl a2 rfl rfl rfl (Nat.le_of_ble_eq_true rfl) rfl fun H4 a4 k4 n4=> ?_
    repeat refine jj ?_
    exact ⟨.inl rfl,rfl,_,resC rfl a4 rfl,rfl,fin _ _ _ a4 k4⟩
  ·have hp:pAct p state term=(0,0):=by unfold pAct;rw [hat];simp only;rw [if_neg (by omega)]
   rw [hp]
   repeat refine jj ?_
   refine OD.st rfl rfl rfl a2 rfl rfl rfl (Nat.le_of_ble_eq_true rfl) rfl fun H4 a4 k4 n4=> ?_
   repeat refine jj ?_
   exact ⟨.inl rfl,rfl,_,resC rfl a4 rfl,rfl,fin _ _ _ a4 k4⟩
end Dr
end Go.Proofs.YtnjjieohlnhicaaGreatDoor
end
section
namespace Go.Proofs.YtnjjieohlnhicaaGreatDoor
set_option linter.unusedSimpArgs false
set_option linter.unusedVariables false
open Go Go.Wm Go.Proofs Go.RowKit
set_option maxRecDepth 100000
set_option maxHeartbeats 4000000
namespace Dr
theorem PtAt.ext {H H':Hp} {cs:List VV} {p:PT} (h:PtAt H cs p) (k:Keep [] H H'):PtAt H' cs p:=by
 obtain ⟨⟨d,b,v,o,t,b2,v2,o2,rfl,i1,i2,i3,i4,i5,i6,i7,i8⟩,h2,h3⟩:=h
 exact ⟨⟨d,b,v,o,t,b2,v2,o2,rfl,i1.ext k,i2.ext k,i3.ext k,i4.ext k,i5.ext k,i6.ext k,i7.ext k,i8.ext k⟩,h2,h3⟩
theorem packGoto {H:Hp} {cs:List VV} {p:PT} {state non:Int} (h:PtAt H cs p):FnX Tryz.prog 355 [.agg cs,.int .i64 state,.int .i64 non] H fun x H'=>x= .int .i64 (pGoto p state non)∧H'=H:=by
 refine FnX.tidy rfl (FnX.enterRow ok355 (Nat.le_of_ble_eq_true rfl) ?_)
 obtain ⟨⟨d,b,v,o,t,b2,v2,o2,rfl,i1,i2,i3,i4,i5,i6,i7,i8⟩,⟨l1,l2,l3,l4,l5,l6,l7,l8⟩,wf⟩:=h
 obtain ⟨p1,c1,rfl,s1⟩:=i1
 obtain ⟨p2,c2,rfl,s2⟩:=i2
 obtain ⟨p3,c3,rfl,s3⟩:=i3
 obtain ⟨p4,c4,rfl,s4⟩:=i4
 obtain ⟨p5,c5,rfl,s5⟩:=i5
 obtain ⟨p6,c6,rfl,s6⟩:=i6
 obtain ⟨p7,c7,rfl,s7⟩:=i7
 obtain ⟨p8,c8,rfl,s8⟩:=i8
 refine WD.seq ?_
 refine WD.reg ?_
 refine OD.bx rfl rfl rfl rfl rfl fun H1 b1 k1 n1=> ?_
 have t5:Sl H1 p5 1 (intEs p.2.2.1):=s5.keep k1 (by simp)
 repeat refine jj ?_
 refine OD.call rfl rfl rfl (packAt ⟨p6,c6,rfl,s6.keep k1 (by simp)⟩ ⟨p7,c7,rfl,s7.keep k1 (by simp)⟩ ⟨p8,c8,rfl,s8.keep k1 (by simp)⟩ l6 l7 l8) ?_
 rintro r H3 ⟨rfl,rfl⟩
 cases hat:at? p.2.2.2 non state with
 |some w=>
  have hp:pGoto p state non=w:=by unfold pGoto;rw [hat]
  rw [hp,show optV (some w)= .tup [.int .i64 w,.bool true] from rfl]
  repeat refine jj ?_
  exact ⟨.inl rfl,rfl,_,rfl,rfl,k1⟩
 |none=>
  rw [show optV none= .tup [.int .i64 0,.bool false] from rfl]
  by_cases q1:0≤non
  ·by_cases q2:non<p.2.2.1.length
   ·obtain ⟨j,rfl⟩: ∃j:Nat,non=j:=⟨non.toNat,by omega⟩
    obtain ⟨d,hd⟩: ∃d,p.2.2.1[j]? =some d:=⟨_,List.getElem?_eq_getElem (by omega)⟩
    have hp:pGoto p state j=d:=by unfold pGoto;rw [hat];simp only;rw [if_pos ⟨q1,q2⟩,Int.toNat_natCast,hd];rfl
    rw [hp]
    repeat refine jj ?_
    refine OD.rd rfl (ev_ixI (j:=j) t5 rfl rfl rfl (by omega)) ?_
    refine OD.rd rfl (ev_ldI t5 rfl hd) ?_
    repeat refine jj ?_
    exact ⟨.inl rfl,rfl,_,rfl,rfl,k1⟩
   ·have hp:pGoto p state non= -1:=by unfold pGoto;rw [hat];simp only;rw [if_neg (by omega)]
    rw [hp]
    repeat refine jj ?_
    exact ⟨.inl rfl,rfl,_,rfl,rfl,k1⟩
  ·have hp:pGoto p state non= -1:=by unfold pGoto;rw [hat];simp only;rw [if_neg (by omega)]
   rw [hp]
   repeat refine jj ?_
   exact ⟨.inl rfl,rfl,_,rfl,rfl,k1⟩
theorem packedAction {H:Hp} {cs:List VV} {p:PT} {state term:Int} (h:PtAt H cs p):FnX Tryz.prog 352 [.agg cs,.int .i64 state,.int .i64 term] H fun x H'=>x=actV (pAct p state term)∧H'=H:=by
 refine FnX.tidy rfl (FnX.enterRow ok352 (Nat.le_of_ble_eq_true rfl) ?_)
 have hp:=h
 obtain ⟨⟨d,b,v,o,t,b2,v2,o2,rfl,⟨p1,c1,rfl,s1⟩,⟨p2,c2,rfl,s2⟩,⟨p3,c3,rfl,s3⟩,⟨p4,c4,rfl,s4⟩,⟨p5,c5,rfl,s5⟩,⟨p6,c6,rfl,s6⟩,⟨p7,c7,rfl,s7⟩,⟨p8,c8,rfl,s8⟩⟩,h2,h3⟩:=h
 refine WD.seq ?_
 refine WD.reg ?_
 refine OD.bx rfl rfl rfl rfl rfl fun H1 b1 k1 n1=> ?_
 refine OD.al rfl fun H2 a2 k2 n2=> ?_
 have b2:=b1.keep k2 (by simp)
 have k02:=k1.trans k2 (by simp)
 repeat refine jj ?_
 refine OD.call rfl rfl rfl (packAction (hp.ext k02)) ?_
 rintro r H3 ⟨rfl,rfl⟩
 refine OD.st rfl rfl rfl a2 rfl rfl rfl (Nat.le_of_ble_eq_true rfl) rfl fun H4 a4 k4 n4=> ?_
 repeat refine jj ?_
 exact ⟨.inl rfl,rfl,_,resC rfl a4 rfl,rfl,k02.trans k4 (fun i hi hl=>by simp at hi;omega)⟩
theorem packedTarget {H:Hp} {cs:List VV} {p:PT} {state non:Int} (h:PtAt H cs p):FnX Tryz.prog 353 [.agg cs,.int .i64 state,.int .i64 non] H fun x H'=>x= .int .i64 (pGoto p state non)∧H'=H:=by
 refine FnX.tidy rfl (FnX.enterRow ok353 (Nat.le_of_ble_eq_true rfl) ?_)
 have hp:=h
 obtain ⟨⟨d,b,v,o,t,b2,v2,o2,rfl,⟨p1,c1,rfl,s1⟩,⟨p2,c2,rfl,s2⟩,⟨p3,c3,rfl,s3⟩,⟨p4,c4,rfl,s4⟩,⟨p5,c5,rfl,s5⟩,⟨p6,c6,rfl,s6⟩,⟨p7,c7,rfl,s7⟩,⟨p8,c8,rfl,s8⟩⟩,h2,h3⟩:=h
 refine WD.seq ?_
 refine WD.reg ?_
 refine OD.bx rfl rfl rfl rfl rfl fun H1 b1 k1 n1=> ?_
 repeat refine jj ?_
 refine OD.call rfl rfl rfl (packGoto (hp.ext k1)) ?_
 rintro r H3 ⟨rfl,rfl⟩
 repeat refine jj ?_
 exact ⟨.inl rfl,rfl,_,rfl,rfl,k1⟩
theorem ev_ldS {E:Fr} {H:Hp} {x:Od} {p:PA} {n:Nat} {l:List VV} (hx:x.ev E=some (.ptr (some p))) (h:Wm.lds H.g p n=some l):(VOp.load n true x).ev E H.g=some (.agg l):=by
 simp only [VOp.ev,hx,if_true,h]
abbrev DT:=List (List (Int×Int))×List (List Int)
def cell? {α:Type} (l:List (List α)) (i j:Int):Option α:=if i<0∨j<0 then none else (l[i.toNat]?).bind (·[j.toNat]?)
def DtAt (H:Hp) (cs:List VV) (d:DT):Prop:= ∃p c q e,cs=[.sl p d.1.length c,.sl q d.2.length e]∧SlR (fun _=>True) H p d.1∧SlR (fun _=>True) H q d.2
theorem cell?_inv {α:Type} {l:List (List α)} {i j:Int} {x:α} (h:cell? l i j=some x): ∃(m n:Nat) (r:List α),i=m∧j=n∧l[m]? =some r∧r[n]? =some x:=by
 unfold cell? at h
 split at h
 ·cases h
 ·rename_i hn
  obtain ⟨r,h1,h2⟩:=Option.bind_eq_some_iff.1 h
  exact ⟨i.toNat,j.toNat,r,by omega,by omega,h1,h2⟩
theorem denseAction {H:Hp} {cs:List VV} {d:DT} {state term:Int} {a:Int×Int} (h:DtAt H cs d) (ha:cell? d.1 state term=some a):FnX Tryz.prog 350 [.agg cs,.int .i64 state,.int .i64 term] H fun x H'=>x=actV a∧H'=H:=by
 refine FnX.tidy rfl (FnX.enterRow ok350 (Nat.le_of_ble_eq_true rfl) ?_)
 obtain ⟨p,c,q,e,rfl,h1,h2⟩:=h
 obtain ⟨m,n,r,rfl,rfl,hr,hx⟩:=cell?_inv ha
 refine WD.seq ?_
 refine WD.reg ?_
 refine OD.bx rfl rfl rfl rfl rfl fun H1 b1 k1 n1=> ?_
 refine OD.al rfl fun H2 a2 k2 n2=> ?_
 have b2:=b1.keep k2 (by simp)
 have k02:=k1.trans k2 (by simp)
 have t1:=h1.keep (H':=H2) fun i hi _=>k02.2 i hi (by simp)
 obtain ⟨pr,cr,e1,t2⟩:=t1.ldL hr
 obtain ⟨x,hx1,hx2⟩:=t2.get hx
 obtain ⟨_,_,rfl,rfl,rfl⟩:=hx1
 have hm:=(List.getElem?_eq_some_iff.1 hr).1
 have hn:=(List.getElem?_eq_some_iff.1 hx).1
 repeat refine jj ?_
 refine OD.rd rfl (ev_ixR t1 rfl rfl (by omega) (by omega) rfl) ?_
 rw [Int.toNat_natCast]
 refine OD.rd rfl (e1 _ _ rfl) ?_
 repeat refine jj ?_
 refine OD.rd rfl (ev_ixR t2 rfl rfl (by omega) (by omega) rfl) ?_
 rw [Int.toNat_natCast]
 refine OD.rd rfl (ev_ldS rfl hx2) ?_
 refine OD.st rfl rfl rfl a2 rfl rfl rfl (Nat.le_of_ble_eq_true rfl) rfl fun H4 a4 k4 n4=> ?_
 repeat refine jj ?_
 exact ⟨.inl rfl,rfl,_,resC rfl a4 rfl,rfl,k02.trans k4 (fun i hi hl=>by simp at hi;omega)⟩
theorem denseTarget {H:Hp} {cs:List VV} {d:DT} {state non a:Int} (h:DtAt H cs d) (ha:cell? d.2 state non=some a):FnX Tryz.prog 351 [.agg cs,.int .i64 state,.int .i64 non] H fun x H'=>x= .int .i64 a∧H'=H:=by
 refine FnX.tidy rfl (FnX.enterRow ok351 (Nat.le_of_ble_eq_true rfl) ?_)
 obtain ⟨p,c,q,e,rfl,h1,h2⟩:=h
 obtain ⟨m,n,r,rfl,rfl,hr,hx⟩:=cell?_inv ha
 refine WD.seq ?_
 refine WD.reg ?_
 refine OD.bx rfl rfl rfl rfl rfl fun H1 b1 k1 n1=> ?_
 have t1:=h2.keep (H':=H1) fun i hi _=>k1.2 i hi (by simp)
 obtain ⟨pr,cr,e1,t2⟩:=t1.ldL hr
 have hm:=(List.getElem?_eq_some_iff.1 hr).1
 have hn:=(List.getElem?_eq_some_iff.1 hx).1
 repeat refine jj ?_
 refine OD.rd rfl (ev_ixR t1 rfl rfl (by omega) (by omega) rfl) ?_
 rw [Int.toNat_natCast]
 refine OD.rd rfl (e1 _ _ rfl) ?_
 repeat refine jj ?_
 refine OD.rd rfl (ev_ixI t2.ints rfl rfl rfl (by omega)) ?_
 refine OD.rd rfl (ev_ldI t2.ints rfl hx) ?_
 repeat refine jj ?_
 exact ⟨.inl rfl,rfl,_,rfl,rfl,k1⟩
end Dr
end Go.Proofs.YtnjjieohlnhicaaGreatDoor
end
section
namespace Go.Proofs.YtnjjieohlnhicaaGreatDoor
set_option linter.unusedSimpArgs false
set_option linter.unusedVariables false
open Go Go.Wm Go.Proofs Go.RowKit
set_option maxRecDepth 100000
set_option maxHeartbeats 4000000
namespace Dr
structure Tab where
 nT:Nat
 prods:List (Int×(List Int×Int))
 d:DT
 p:PT
def tAct (T:Tab) (pk:Bool) (s t:Int):Option (Int×Int):=if pk then some (pAct T.p s t) else cell? T.d.1 s t
def tTgt (T:Tab) (pk:Bool) (s n:Int):Option Int:=if pk then some (pGoto T.p s n) else cell? T.d.2 s n
def ifcAt (H:Hp) (T:Tab) (pk:Bool) (v:VV):Prop:=if pk then ∃cs,v= .ifc 380 (.agg cs)∧PtAt H cs T.p else ∃cs,v= .ifc 377 (.agg cs)∧DtAt H cs T.d
def GrAt (H:Hp) (T:Tab) (vt vp:VV):Prop:=(∃p c,vt= .sl p T.nT c)∧ ∃p c,vp= .sl p T.prods.length c∧SlR (fun _=>True) H p T.prods
def TabAt (H:Hp) (tb:Nat) (T:Tab):Prop:= ∃vt n l s vp v1 v2,Box H tb [vt,n,l,s,vp,v1,v2]∧GrAt H T vt vp∧ifcAt H T false v1∧ifcAt H T true v2∧T.nT≤1000000000∧T.prods.length≤1000000000∧(n.cell=true∧l.cell=true∧s.cell=true)
theorem terms {H:Hp} {tb:Nat} {T:Tab} (h:TabAt H tb T):FnX Tryz.prog 170 [.ptr (some ⟨tb,0,0⟩)] H fun r H'=>r= .int .i64 T.nT∧H'=H:=by
 refine FnX.enterRow ok170 (Nat.le_of_ble_eq_true rfl) ?_
 obtain ⟨vt,n,l,s,vp,v1,v2,hb,⟨⟨p,c,rfl⟩,_⟩,_⟩:=h
 repeat refine jj ?_
 exact ⟨.inl rfl,rfl,_,rfl,rfl,rfl⟩
def idx {α:Type} (l:List α) (i:Int):Option α:=if i<0 then none else l[i.toNat]?
theorem idx_inv {α:Type} {l:List α} {i:Int} {x:α} (h:idx l i=some x): ∃m:Nat,i=m∧l[m]? =some x:=by
 unfold idx at h
 split at h
 ·cases h
 ·exact ⟨i.toNat,by omega,h⟩
theorem prodR {H:Hp} {p:Option PA} {l:List (Int×(List Int×Int))} {m:Nat} {x:Int×(List Int×Int)} (h:SlR (fun _=>True) H p l) (hx:l[m]? =some x): ∃q c,Wm.lds H.g (elp p m) 3=some [.int .i64 x.1,.sl q x.2.1.length c,.int .i64 x.2.2]∧SlR (fun _=>True) H q x.2.1:=by
 obtain ⟨e,h1,h2⟩:=h.get hx
 obtain ⟨_,_,rfl,rfl,_,_,rfl,⟨q,c,rfl,h3⟩,rfl⟩:=h1
 exact ⟨q,c,h2,h3⟩
theorem lds_ld {H:Hp} {p:PA} {n o:Nat} {l:List VV} {v:VV} (h:Wm.lds H.g p n=some l) (hv:l[o]? =some v):Wm.ld H.g ⟨p.blk,p.idx,p.off+o⟩=some v:=by
 unfold Wm.lds at h
 unfold Wm.ld
 cases hb:H.g p.blk with
 |none=>rw [hb] at h;cases h
 |some b=>
  rw [hb] at h
  cases b with
  |row t md es=>
   simp only at h ⊢
   cases he:es[p.idx]? with
   |none=>rw [he] at h;cases h
   |some e=>
    rw [he] at h
    simp only at h ⊢
    split at h
    ·cases h
     rw [List.getElem?_take] at hv
     split at hv
     ·rw [List.getElem?_drop] at hv;exact hv
     ·cases hv
    ·cases h
  |_=>cases h
theorem ev_ldO {E:Fr} {H:Hp} {x:Od} {p:PA} {n o:Nat} {l:List VV} {v:VV} (hx:x.ev E=some (.ptr (some ⟨p.blk,p.idx,p.off+o⟩))) (h:Wm.lds H.g p n=some l) (hv:l[o]? =some v):(VOp.load 1 false x).ev E H.g=some v:=by
 simp only [VOp.ev,hx,Bool.false_eq_true,if_false]
 exact lds_ld h hv
theorem length {H:Hp} {tb:Nat} {T:Tab} {i:Int} {x:Int×(List Int×Int)} (h:TabAt H tb T) (hx:idx T.prods i=some x):FnX Tryz.prog 235 [.ptr (some ⟨tb,0,0⟩),.int .i64 i] H fun r H'=>r= .tup [.int .i64 x.2.1.length,.int .i64 x.1]∧H'=H:=by
 refine FnX.enterRow ok235 (Nat.le_of_ble_eq_true rfl) ?_
 obtain ⟨vt,n,l,s,vp,v1,v2,hb,⟨⟨p,c,rfl⟩,q,e,rfl,hp⟩,_⟩:=h
 obtain ⟨m,rfl,hm⟩:=idx_inv hx
 obtain ⟨pr,cr,h1,h2⟩:=prodR hp hm
 have hml:=(List.getElem?_eq_some_iff.1 hm).1
 have hcst:=cst1 H
 repeat refine jj ?_
 refine WD.dreg [H] mixed rfl ?_
 repeat refine jy ?_
 refine VX.rdc hcst rfl (ev_ixR hp rfl rfl (by omega) (by omega) rfl) ?_
 rw [Int.toNat_natCast]
 repeat refine jy ?_
 refine VX.rdc hcst rfl (ev_ldO rfl h1 rfl) ?_
 repeat refine jy ?_
 refine VX.rdc hcst rfl (ev_ixR hp rfl rfl (by omega) (by omega) rfl) ?_
 rw [Int.toNat_natCast]
 repeat refine jy ?_
 refine VX.rdc hcst rfl (ev_ldO rfl h1 rfl) ?_
 repeat refine jy ?_
 repeat refine jj ?_
 exact ⟨.inl rfl,rfl,_,rfl,rfl,rfl⟩
theorem target {H:Hp} {tb:Nat} {T:Tab} {st n a:Int} (h:TabAt H tb T) (hn1: -1000000000≤n) (hn2:n≤4000000000) (ha:cell? T.d.2 st (n-T.nT)=some a):FnX Tryz.prog 238 [.ptr (some ⟨tb,0,0⟩),.int .i64 st,.int .i64 n] H fun r H'=>r= .int .i64 a∧H'=H:=by
 refine FnX.enterRow ok238 (Nat.le_of_ble_eq_true rfl) ?_
 obtain ⟨vt,w,l,s,vp,v1,v2,hb,⟨⟨p,c,rfl⟩,q,e,rfl,hp⟩,h1,h2,h3,h4,h5⟩:=h
 obtain ⟨cs,rfl,hd⟩: ∃cs,v1= .ifc 377 (.agg cs)∧DtAt H cs T.d:=h1
 obtain ⟨r,H4,⟨rfl,rfl⟩,hF⟩:=denseTarget hd ha
 repeat refine jj ?_
 refine WD.dreg [H4,H4] mixed rfl ?_
 repeat refine jz ?_
 refine VX.call2 rfl rfl rfl rfl hF ?_
 repeat refine jz ?_
 repeat refine jj ?_
 exact ⟨.inl rfl,rfl,_,rfl,rfl,rfl⟩
end Dr
end Go.Proofs.YtnjjieohlnhicaaGreatDoor
end
section
namespace Go.Proofs.YtnjjieohlnhicaaGreatDoor
set_option linter.unusedSimpArgs false
set_option linter.unusedVariables false
open Go Go.Wm Go.Proofs Go.RowKit
set_option maxRecDepth 100000
set_option maxHeartbeats 4000000
namespace Dr
theorem cloneI {H:Hp} {ok:Nat→Prop} {p:Option PA} {c:Nat} {l:List (Int)} (h:SlR ok H p l) (hl:l.length≤1000000000):FnX Tryz.prog 52 [.sl p l.length c] H fun r H'=>Keep [] H H'∧ ∃bs',BufR ok H' bs' 3 r l∧ ∀b∈bs',H.length≤b:=by
 refine FnX.enterRow ok52 (Nat.le_of_ble_eq_true rfl) ?_
 obtain ⟨es,hs,_,he⟩:=h
 by_cases hp:p=none
 ·subst hp
  have hnil:l=[]:=by
   rcases hs with hs|⟨b,i,md,t,rows,h,_⟩
   ·exact List.eq_nil_of_length_eq_zero (by rw [←he.1,hs];rfl)
   ·cases h
  subst hnil
  repeat refine jj ?_
  exact ⟨.inl rfl,rfl,_,rfl,Keep.refl _,[],BufR.nil _ _ _,by simp⟩
 ·obtain ⟨q,rfl⟩:=Option.ne_none_iff_exists'.1 hp
  have hk:Keep [] H (H++[Blk.row 3 .own []]):=Keep.app _
  have hsrc:srcEls (H++[Blk.row 3 .own []]).g 1 (.sl (some q) l.length c)=some es:=srcEls_of (hs.mono _) he.1
  have hbuf:Buf (H++[Blk.row 3 .own []]) [H.length] 3 1 (.sl (some ⟨H.length,0,0⟩) 0 0) []:= .inr ⟨H.length,.own,[],rfl,rfl,by simp,by simp,fun _=>rfl,by simp,List.prefix_refl _⟩
  repeat refine jj ?_
  refine OD.ef rfl (v:= .sl (some ⟨H.length,0,0⟩) 0 0) (us:=[(H.length,.row 3 .own [])]) rfl ?_
  rw [applyU_push]
  repeat refine jj ?_
  by_cases hn:l=[]
  ·subst hn
   have happ: ∀(E:Fr) (s x:Od),s.ev E=some (.sl (some ⟨H.length,0,0⟩) 0 0)→x.ev E=some (.sl (some q) 0 c)→(VEf.app 3 1 8 s x).ev E (H++[Blk.row 3 .own []]).g (H++[Blk.row 3 .own []]).length=some (.sl (some ⟨H.length,0,0⟩) 0 0,[]):=fun E s x h1 h2=>by
    simp [VEf.ev,h1,h2,srcEls,appV]
   refine OD.ef rfl (happ _ _ _ rfl rfl) ?_
   repeat refine jj ?_
   exact ⟨.inl rfl,rfl,_,rfl,hk,[H.length],⟨[],hbuf,EsR.nil⟩,by simp⟩
  ·have hin:es≠[]:=fun h=>hn (List.eq_nil_of_length_eq_zero (by rw [←he.1,h];rfl))
   obtain ⟨v',us,bs',a1,a2,a3,a4⟩:=hbuf.app (bytes:=8) hsrc hin he.cells (by rw [he.1];simp;omega) (by rw [he.1];simp;omega)
   refine OD.ef rfl (a1 _ _ _ rfl rfl) ?_
   repeat refine jj ?_
   have k2:=hk.trans a3 (fun i hi hl=>by simp at hi;omega)
   refine ⟨.inl rfl,rfl,_,rfl,k2,bs',⟨es,a2,he.keep fun i hi _=>k2.2 i hi (by simp)⟩,fun b hb=> ?_⟩
   rcases a4 b hb with h|h
   ·simp at h;omega
   ·simp at h;omega
theorem clipI {H:Hp} {bs:List Nat} {t:TypeId} {v:VV} {es:List (List VV)} (h:Buf H bs t 1 v es):FnX Tryz.prog 99 [v] H fun r H'=>H'=H∧ ∃p,r= .sl p es.length es.length∧Sl H p 1 es∧ ∀q,p=some q→q.blk∈bs:=by
 refine FnX.enterRow ok99 (Nat.le_of_ble_eq_true rfl) ?_
 obtain ⟨p0,c,rfl,_⟩:=h.sl
 obtain ⟨p,he,hs,hq⟩:=h.clip
 repeat refine jj ?_
 refine OD.rd rfl (he _ _ _ _ rfl rfl rfl) ?_
 repeat refine jj ?_
 exact ⟨.inl rfl,rfl,_,rfl,rfl,p,rfl,hs,hq⟩
theorem ccI {H:Hp} {p:Option PA} {c:Nat} {l:List (Int)} (h:SlR (fun _=>True) H p l) (hl:l.length≤1000000000): ∃r1 H1 q,FnV Tryz.prog 52 [.sl p l.length c] H (fun r H'=>r=r1∧H'=H1)∧FnV Tryz.prog 99 [r1] H1 (fun r H'=>r= .sl q l.length l.length∧H'=H1)∧Keep [] H H1∧SlR (fun b=>H.length≤b∧b<H1.length) H1 q l:=by
 obtain ⟨r1,H1,⟨k1,bs,hb,hbs⟩,hF1⟩:=cloneI (c:=c) h hl
 obtain ⟨es,hb1,he⟩:=id hb
 obtain ⟨r2,H2,⟨rfl,q,rfl,hs,hq⟩,hF2⟩:=clipI hb1
 rw [he.1] at hF2
 exact ⟨r1,H2,q,hF1,hF2,k1,es,hs,fun q' hq' _=>⟨hbs _ (hq q' hq'),hb.lt _ (hq q' hq')⟩,he⟩
theorem cloneAc {H:Hp} {ok:Nat→Prop} {p:Option PA} {c:Nat} {l:List (Int×Int)} (h:SlR ok H p l) (hl:l.length≤1000000000):FnX Tryz.prog 97 [.sl p l.length c] H fun r H'=>Keep [] H H'∧ ∃bs',BufR ok H' bs' 114 r l∧ ∀b∈bs',H.length≤b:=by
 refine FnX.enterRow ok97 (Nat.le_of_ble_eq_true rfl) ?_
 obtain ⟨es,hs,_,he⟩:=h
 by_cases hp:p=none
 ·subst hp
  have hnil:l=[]:=by
   rcases hs with hs|⟨b,i,md,t,rows,h,_⟩
   ·exact List.eq_nil_of_length_eq_zero (by rw [←he.1,hs];rfl)
   ·cases h
  subst hnil
  repeat refine jj ?_
  exact ⟨.inl rfl,rfl,_,rfl,Keep.refl _,[],BufR.nil _ _ _,by simp⟩
 ·obtain ⟨q,rfl⟩:=Option.ne_none_iff_exists'.1 hp
  have hk:Keep [] H (H++[Blk.row 114 .own []]):=Keep.app _
  have hsrc:srcEls (H++[Blk.row 114 .own []]).g 2 (.sl (some q) l.length c)=some es:=srcEls_of (hs.mono _) he.1
  have hbuf:Buf (H++[Blk.row 114 .own []]) [H.length] 114 2 (.sl (some ⟨H.length,0,0⟩) 0 0) []:= .inr ⟨H.length,.own,[],rfl,rfl,by simp,by simp,fun _=>rfl,by simp,List.prefix_refl _⟩
  repeat refine jj ?_
  refine OD.ef rfl (v:= .sl (some ⟨H.length,0,0⟩) 0 0) (us:=[(H.length,.row 114 .own [])]) rfl ?_
  rw [applyU_push]
  repeat refine jj ?_
  by_cases hn:l=[]
  ·subst hn
   have happ: ∀(E:Fr) (s x:Od),s.ev E=some (.sl (some ⟨H.length,0,0⟩) 0 0)→x.ev E=some (.sl (some q) 0 c)→(VEf.app 114 2 16 s x).ev E (H++[Blk.row 114 .own []]).g (H++[Blk.row 114 .own []]).length=some (.sl (some ⟨H.length,0,0⟩) 0 0,[]):=fun E s x h1 h2=>by
    simp [VEf.ev,h1,h2,srcEls,appV]
   refine OD.ef rfl (happ _ _ _ rfl rfl) ?_
   repeat refine jj ?_
   exact ⟨.inl rfl,rfl,_,rfl,hk,[H.length],⟨[],hbuf,EsR.nil⟩,by simp⟩
  ·have hin:es≠[]:=fun h=>hn (List.eq_nil_of_length_eq_zero (by rw [←he.1,h];rfl))
   obtain ⟨v',us,bs',a1,a2,a3,a4⟩:=hbuf.app (bytes:=16) hsrc hin he.cells (by rw [he.1];simp;omega) (by rw [he.1];simp;omega)
   refine OD.ef rfl (a1 _ _ _ rfl rfl) ?_
   repeat refine jj ?_
   have k2:=hk.trans a3 (fun i hi hl=>by simp at hi;omega)
   refine ⟨.inl rfl,rfl,_,rfl,k2,bs',⟨es,a2,he.keep fun i hi _=>k2.2 i hi (by simp)⟩,fun b hb=> ?_⟩
   rcases a4 b hb with h|h
   ·simp at h;omega
   ·simp at h;omega
theorem clipAc {H:Hp} {bs:List Nat} {t:TypeId} {v:VV} {es:List (List VV)} (h:Buf H bs t 2 v es):FnX Tryz.prog 96 [v] H fun r H'=>H'=H∧ ∃p,r= .sl p es.length es.length∧Sl H p 2 es∧ ∀q,p=some q→q.blk∈bs:=by
 refine FnX.enterRow ok96 (Nat.le_of_ble_eq_true rfl) ?_
 obtain ⟨p0,c,rfl,_⟩:=h.sl
 obtain ⟨p,he,hs,hq⟩:=h.clip
 repeat refine jj ?_
 refine OD.rd rfl (he _ _ _ _ rfl rfl rfl) ?_
 repeat refine jj ?_
 exact ⟨.inl rfl,rfl,_,rfl,rfl,p,rfl,hs,hq⟩
theorem ccAc {H:Hp} {p:Option PA} {c:Nat} {l:List (Int×Int)} (h:SlR (fun _=>True) H p l) (hl:l.length≤1000000000): ∃r1 H1 q,FnV Tryz.prog 97 [.sl p l.length c] H (fun r H'=>r=r1∧H'=H1)∧FnV Tryz.prog 96 [r1] H1 (fun r H'=>r= .sl q l.length l.length∧H'=H1)∧Keep [] H H1∧SlR (fun b=>H.length≤b∧b<H1.length) H1 q l:=by
 obtain ⟨r1,H1,⟨k1,bs,hb,hbs⟩,hF1⟩:=cloneAc (c:=c) h hl
 obtain ⟨es,hb1,he⟩:=id hb
 obtain ⟨r2,H2,⟨rfl,q,rfl,hs,hq⟩,hF2⟩:=clipAc hb1
 rw [he.1] at hF2
 exact ⟨r1,H2,q,hF1,hF2,k1,es,hs,fun q' hq' _=>⟨hbs _ (hq q' hq'),hb.lt _ (hq q' hq')⟩,he⟩
theorem cloneTm {H:Hp} {ok:Nat→Prop} {p:Option PA} {c:Nat} {l:List (List UInt8×Int)} (h:SlR ok H p l) (hl:l.length≤1000000000):FnX Tryz.prog 102 [.sl p l.length c] H fun r H'=>Keep [] H H'∧ ∃bs',BufR ok H' bs' 81 r l∧ ∀b∈bs',H.length≤b:=by
 refine FnX.enterRow ok102 (Nat.le_of_ble_eq_true rfl) ?_
 obtain ⟨es,hs,_,he⟩:=h
 by_cases hp:p=none
 ·subst hp
  have hnil:l=[]:=by
   rcases hs with hs|⟨b,i,md,t,rows,h,_⟩
   ·exact List.eq_nil_of_length_eq_zero (by rw [←he.1,hs];rfl)
   ·cases h
  subst hnil
  repeat refine jj ?_
  exact ⟨.inl rfl,rfl,_,rfl,Keep.refl _,[],BufR.nil _ _ _,by simp⟩
 ·obtain ⟨q,rfl⟩:=Option.ne_none_iff_exists'.1 hp
  have hk:Keep [] H (H++[Blk.row 81 .own []]):=Keep.app _
  have hsrc:srcEls (H++[Blk.row 81 .own []]).g 2 (.sl (some q) l.length c)=some es:=srcEls_of (hs.mono _) he.1
  have hbuf:Buf (H++[Blk.row 81 .own []]) [H.length] 81 2 (.sl (some ⟨H.length,0,0⟩) 0 0) []:= .inr ⟨H.length,.own,[],rfl,rfl,by simp,by simp,fun _=>rfl,by simp,List.prefix_refl _⟩
  repeat refine jj ?_
  refine OD.ef rfl (v:= .sl (some ⟨H.length,0,0⟩) 0 0) (us:=[(H.length,.row 81 .own [])]) rfl ?_
  rw [applyU_push]
  repeat refine jj ?_
  by_cases hn:l=[]
  ·subst hn
   have happ: ∀(E:Fr) (s x:Od),s.ev E=some (.sl (some ⟨H.length,0,0⟩) 0 0)→x.ev E=some (.sl (some q) 0 c)→(VEf.app 81 2 24 s x).ev E (H++[Blk.row 81 .own []]).g (H++[Blk.row 81 .own []]).length=some (.sl (some ⟨H.length,0,0⟩) 0 0,[]):=fun E s x h1 h2=>by
    simp [VEf.ev,h1,h2,srcEls,appV]
   refine OD.ef rfl (happ _ _ _ rfl rfl) ?_
   repeat refine jj ?_
   exact ⟨.inl rfl,rfl,_,rfl,hk,[H.length],⟨[],hbuf,EsR.nil⟩,by simp⟩
  ·have hin:es≠[]:=fun h=>hn (List.eq_nil_of_length_eq_zero (by rw [←he.1,h];rfl))
   obtain ⟨v',us,bs',a1,a2,a3,a4⟩:=hbuf.app (bytes:=24) hsrc hin he.cells (by rw [he.1];simp;omega) (by rw [he.1];simp;omega)
   refine OD.ef rfl (a1 _ _ _ rfl rfl) ?_
   repeat refine jj ?_
   have k2:=hk.trans a3 (fun i hi hl=>by simp at hi;omega)
   refine ⟨.inl rfl,rfl,_,rfl,k2,bs',⟨es,a2,he.keep fun i hi _=>k2.2 i hi (by simp)⟩,fun b hb=> ?_⟩
   rcases a4 b hb with h|h
   ·simp at h;omega
   ·simp at h;omega
theorem clipTm {H:Hp} {bs:List Nat} {t:TypeId} {v:VV} {es:List (List VV)} (h:Buf H bs t 2 v es):FnX Tryz.prog 101 [v] H fun r H'=>H'=H∧ ∃p,r= .sl p es.length es.length∧Sl H p 2 es∧ ∀q,p=some q→q.blk∈bs:=by
 refine FnX.enterRow ok101 (Nat.le_of_ble_eq_true rfl) ?_
 obtain ⟨p0,c,rfl,_⟩:=h.sl
 obtain ⟨p,he,hs,hq⟩:=h.clip
 repeat refine jj ?_
 refine OD.rd rfl (he _ _ _ _ rfl rfl rfl) ?_
 repeat refine jj ?_
 exact ⟨.inl rfl,rfl,_,rfl,rfl,p,rfl,hs,hq⟩
theorem ccTm {H:Hp} {p:Option PA} {c:Nat} {l:List (List UInt8×Int)} (h:SlR (fun _=>True) H p l) (hl:l.length≤1000000000): ∃r1 H1 q,FnV Tryz.prog 102 [.sl p l.length c] H (fun r H'=>r=r1∧H'=H1)∧FnV Tryz.prog 101 [r1] H1 (fun r H'=>r= .sl q l.length l.length∧H'=H1)∧Keep [] H H1∧SlR (fun b=>H.length≤b∧b<H1.length) H1 q l:=by
 obtain ⟨r1,H1,⟨k1,bs,hb,hbs⟩,hF1⟩:=cloneTm (c:=c) h hl
 obtain ⟨es,hb1,he⟩:=id hb
 obtain ⟨r2,H2,⟨rfl,q,rfl,hs,hq⟩,hF2⟩:=clipTm hb1
 rw [he.1] at hF2
 exact ⟨r1,H2,q,hF1,hF2,k1,es,hs,fun q' hq' _=>⟨hbs _ (hq q' hq'),hb.lt _ (hq q' hq')⟩,he⟩
theorem cloneSt {H:Hp} {ok:Nat→Prop} {p:Option PA} {c:Nat} {l:List (List UInt8)} (h:SlR ok H p l) (hl:l.length≤1000000000):FnX Tryz.prog 104 [.sl p l.length c] H fun r H'=>Keep [] H H'∧ ∃bs',BufR ok H' bs' 9 r l∧ ∀b∈bs',H.length≤b:=by
 refine FnX.enterRow ok104 (Nat.le_of_ble_eq_true rfl) ?_
 obtain ⟨es,hs,_,he⟩:=h
 by_cases hp:p=none
 ·subst hp
  have hnil:l=[]:=by
   rcases hs with hs|⟨b,i,md,t,rows,h,_⟩
   ·exact List.eq_nil_of_length_eq_zero (by rw [←he.1,hs];rfl)
   ·cases h
  subst hnil
  repeat refine jj ?_
  exact ⟨.inl rfl,rfl,_,rfl,Keep.refl _,[],BufR.nil _ _ _,by simp⟩
 ·obtain ⟨q,rfl⟩:=Option.ne_none_iff_exists'.1 hp
  have hk:Keep [] H (H++[Blk.row 9 .own []]):=Keep.app _
  have hsrc:srcEls (H++[Blk.row 9 .own []]).g 1 (.sl (some q) l.length c)=some es:=srcEls_of (hs.mono _) he.1
  have hbuf:Buf (H++[Blk.row 9 .own []]) [H.length] 9 1 (.sl (some ⟨H.length,0,0⟩) 0 0) []:= .inr ⟨H.length,.own,[],rfl,rfl,by simp,by simp,fun _=>rfl,by simp,List.prefix_refl _⟩
  repeat refine jj ?_
  refine OD.ef rfl (v:= .sl (some ⟨H.length,0,0⟩) 0 0) (us:=[(H.length,.row 9 .own [])]) rfl ?_
  rw [applyU_push]
  repeat refine jj ?_
  by_cases hn:l=[]
  ·subst hn
   have happ: ∀(E:Fr) (s x:Od),s.ev E=some (.sl (some ⟨H.length,0,0⟩) 0 0)→x.ev E=some (.sl (some q) 0 c)→(VEf.app 9 1 16 s x).ev E (H++[Blk.row 9 .own []]).g (H++[Blk.row 9 .own []]).length=some (.sl (some ⟨H.length,0,0⟩) 0 0,[]):=fun E s x h1 h2=>by
    simp [VEf.ev,h1,h2,srcEls,appV]
   refine OD.ef rfl (happ _ _ _ rfl rfl) ?_
   repeat refine jj ?_
   exact ⟨.inl rfl,rfl,_,rfl,hk,[H.length],⟨[],hbuf,EsR.nil⟩,by simp⟩
  ·have hin:es≠[]:=fun h=>hn (List.eq_nil_of_length_eq_zero (by rw [←he.1,h];rfl))
   obtain ⟨v',us,bs',a1,a2,a3,a4⟩:=hbuf.app (bytes:=16) hsrc hin he.cells (by rw [he.1];simp;omega) (by rw [he.1];simp;omega)
   refine OD.ef rfl (a1 _ _ _ rfl rfl) ?_
   repeat refine jj ?_
   have k2:=hk.trans a3 (fun i hi hl=>by simp at hi;omega)
   refine ⟨.inl rfl,rfl,_,rfl,k2,bs',⟨es,a2,he.keep fun i hi _=>k2.2 i hi (by simp)⟩,fun b hb=> ?_⟩
   rcases a4 b hb with h|h
   ·simp at h;omega
   ·simp at h;omega
theorem clipSt {H:Hp} {bs:List Nat} {t:TypeId} {v:VV} {es:List (List VV)} (h:Buf H bs t 1 v es):FnX Tryz.prog 103 [v] H fun r H'=>H'=H∧ ∃p,r= .sl p es.length es.length∧Sl H p 1 es∧ ∀q,p=some q→q.blk∈bs:=by
 refine FnX.enterRow ok103 (Nat.le_of_ble_eq_true rfl) ?_
 obtain ⟨p0,c,rfl,_⟩:=h.sl
 obtain ⟨p,he,hs,hq⟩:=h.clip
 repeat refine jj ?_
 refine OD.rd rfl (he _ _ _ _ rfl rfl rfl) ?_
 repeat refine jj ?_
 exact ⟨.inl rfl,rfl,_,rfl,rfl,p,rfl,hs,hq⟩
theorem ccSt {H:Hp} {p:Option PA} {c:Nat} {l:List (List UInt8)} (h:SlR (fun _=>True) H p l) (hl:l.length≤1000000000): ∃r1 H1 q,FnV Tryz.prog 104 [.sl p l.length c] H (fun r H'=>r=r1∧H'=H1)∧FnV Tryz.prog 103 [r1] H1 (fun r H'=>r= .sl q l.length l.length∧H'=H1)∧Keep [] H H1∧SlR (fun b=>H.length≤b∧b<H1.length) H1 q l:=by
 obtain ⟨r1,H1,⟨k1,bs,hb,hbs⟩,hF1⟩:=cloneSt (c:=c) h hl
 obtain ⟨es,hb1,he⟩:=id hb
 obtain ⟨r2,H2,⟨rfl,q,rfl,hs,hq⟩,hF2⟩:=clipSt hb1
 rw [he.1] at hF2
 exact ⟨r1,H2,q,hF1,hF2,k1,es,hs,fun q' hq' _=>⟨hbs _ (hq q' hq'),hb.lt _ (hq q' hq')⟩,he⟩
theorem sameI {H:Hp} {p:Option PA} {c:Nat} {l:List (Int)} (h:SlR (fun _=>True) H p l) (hl:l.length≤1000000000):FnX Tryz.prog 36 [.sl p l.length c] H fun r H'=>Keep [] H H'∧ ∃q,r= .sl q l.length l.length∧SlR (fun b=>H.length≤b∧b<H'.length) H' q l:=by
 refine FnX.enterRow ok36 (Nat.le_of_ble_eq_true rfl) ?_
 obtain ⟨r1,H1,q,hF1,hF2,k1,hs⟩:=ccI (c:=c) h hl
 repeat refine jj ?_
 refine OD.call rfl rfl rfl hF1.fnx ?_
 rintro r H2 ⟨rfl,rfl⟩
 refine OD.call rfl rfl rfl hF2.fnx ?_
 rintro r H2 ⟨rfl,rfl⟩
 repeat refine jj ?_
 exact ⟨.inl rfl,rfl,_,rfl,k1,q,rfl,hs⟩
theorem sameAc {H:Hp} {p:Option PA} {c:Nat} {l:List (Int×Int)} (h:SlR (fun _=>True) H p l) (hl:l.length≤1000000000):FnX Tryz.prog 34 [.sl p l.length c] H fun r H'=>Keep [] H H'∧ ∃q,r= .sl q l.length l.length∧SlR (fun b=>H.length≤b∧b<H'.length) H' q l:=by
 refine FnX.enterRow ok34 (Nat.le_of_ble_eq_true rfl) ?_
 obtain ⟨r1,H1,q,hF1,hF2,k1,hs⟩:=ccAc (c:=c) h hl
 repeat refine jj ?_
 refine OD.call rfl rfl rfl hF1.fnx ?_
 rintro r H2 ⟨rfl,rfl⟩
 refine OD.call rfl rfl rfl hF2.fnx ?_
 rintro r H2 ⟨rfl,rfl⟩
 repeat refine jj ?_
 exact ⟨.inl rfl,rfl,_,rfl,k1,q,rfl,hs⟩
theorem clipAA {H:Hp} {bs:List Nat} {t:TypeId} {v:VV} {es:List (List VV)} (h:Buf H bs t 1 v es):FnX Tryz.prog 95 [v] H fun r H'=>H'=H∧ ∃p,r= .sl p es.length es.length∧Sl H p 1 es∧ ∀q,p=some q→q.blk∈bs:=by
 refine FnX.enterRow ok95 (Nat.le_of_ble_eq_true rfl) ?_
 obtain ⟨p0,c,rfl,_⟩:=h.sl
 obtain ⟨p,he,hs,hq⟩:=h.clip
 repeat refine jj ?_
 refine OD.rd rfl (he _ _ _ _ rfl rfl rfl) ?_
 repeat refine jj ?_
 exact ⟨.inl rfl,rfl,_,rfl,rfl,p,rfl,hs,hq⟩
theorem clipII {H:Hp} {bs:List Nat} {t:TypeId} {v:VV} {es:List (List VV)} (h:Buf H bs t 1 v es):FnX Tryz.prog 98 [v] H fun r H'=>H'=H∧ ∃p,r= .sl p es.length es.length∧Sl H p 1 es∧ ∀q,p=some q→q.blk∈bs:=by
 refine FnX.enterRow ok98 (Nat.le_of_ble_eq_true rfl) ?_
 obtain ⟨p0,c,rfl,_⟩:=h.sl
 obtain ⟨p,he,hs,hq⟩:=h.clip
 repeat refine jj ?_
 refine OD.rd rfl (he _ _ _ _ rfl rfl rfl) ?_
 repeat refine jj ?_
 exact ⟨.inl rfl,rfl,_,rfl,rfl,p,rfl,hs,hq⟩
theorem clipCe {H:Hp} {bs:List Nat} {t:TypeId} {v:VV} {es:List (List VV)} (h:Buf H bs t 3 v es):FnX Tryz.prog 100 [v] H fun r H'=>H'=H∧ ∃p,r= .sl p es.length es.length∧Sl H p 3 es∧ ∀q,p=some q→q.blk∈bs:=by
 refine FnX.enterRow ok100 (Nat.le_of_ble_eq_true rfl) ?_
 obtain ⟨p0,c,rfl,_⟩:=h.sl
 obtain ⟨p,he,hs,hq⟩:=h.clip
 repeat refine jj ?_
 refine OD.rd rfl (he _ _ _ _ rfl rfl rfl) ?_
 repeat refine jj ?_
 exact ⟨.inl rfl,rfl,_,rfl,rfl,p,rfl,hs,hq⟩
end Dr
end Go.Proofs.YtnjjieohlnhicaaGreatDoor
end
section
namespace Go.Proofs.YtnjjieohlnhicaaGreatDoor
set_option linter.unusedSimpArgs false
set_option linter.unusedVariables false
open Go Go.Wm Go.Proofs Go.RowKit
set_option maxRecDepth 100000
set_option maxHeartbeats 4000000
namespace Dr
theorem ev_mksl1 {E:Fr} {G:Gt} {n:Nat} {t:TypeId} {x:Od} {p:Option PA} {a b:Nat} {z:VV} (hx:x.ev E=some (.sl p a b)) (hz:z= .sl none 0 0:=by rfl):(VEf.mkrow t [z] 1 [(0,x)]).ev E G n=some (.sl (some ⟨n,0,0⟩) 1 1,[(n,.row t .own [[.sl p a b]])]):=by
 subst hz
 simp [VEf.ev,fillRows,hx,VV.defd,VV.cells,okCells,VV.cell]
theorem copiesAA {H:Hp} {p:Option PA} {c:Nat} {ll:List (List (Int×Int))} (h:SlR (fun _=>True) H p ll) (hl:ll.length≤1000000000) (hll: ∀l∈ll,l.length≤1000000000):FnX Tryz.prog 33 [.sl p ll.length c,.fn 34 []] H fun r H'=>Keep [] H H'∧ ∃q,r= .sl q ll.length ll.length∧SlR (fun b=>H.length≤b∧b<H'.length) H' q ll:=by
 refine FnX.enterRow ok33 (Nat.le_of_ble_eq_true rfl) ?_
 repeat refine jj ?_
 refine WD.loop (fun n F H2=> ∃(k:Nat) (bs:List Nat) (v:VV),n=ll.length-k∧k≤ll.length∧Cov [(1,.fn 34 []),(5,v),(8,.sl p ll.length c),(9,.int .i64 ll.length),(10,.int .i64 k)] F∧F.get dslot=none∧Keep [] H H2∧BufR (fun i=>H.length≤i∧i<H2.length∧i∉bs) H2 bs 111 v (ll.take k)∧ ∀b∈bs,H.length≤b) ll.length ⟨0,[],_,rfl,Nat.zero_le _,⟨rfl,rfl,rfl,rfl,rfl,trivial⟩,rfl,Keep.refl _,BufR.nil _ _ _,by simp⟩ ?_
 rintro n F H2 ⟨k,bs,v,rfl,hk,hc,hd,k2,hb,hbs⟩
 refine WD.cov hc hd rfl ?_
 have h2:=h.keep (H':=H2) fun i hi _=>k2.2 i hi (by simp)
 have hl2:=k2.1
 by_cases hkl:k<ll.length
 ·have hlk:ll[k]? =some ll[k]:=List.getElem?_eq_getElem hkl
  have htk:ll.take (k+1)=ll.take k++[ll[k]]:=by rw [List.take_add_one,hlk];rfl
  have hlm:=hll ll[k] (List.getElem_mem hkl)
  generalize ll[k]=l at hlk htk hlm
  obtain ⟨q,cq,e1,hq⟩:=h2.ldL hlk
  repeat refine jj ?_
  refine OD.rd rfl (ev_ixR h2 rfl rfl (by omega) (by omega) rfl) ?_
  rw [Int.toNat_natCast]
  refine OD.rd rfl (e1 _ _ rfl) ?_
  repeat refine jj ?_
  refine OD.call rfl rfl rfl (sameAc hq (by omega)) ?_
  rintro r H3 ⟨k3,q5,rfl,hs5⟩
  have hl3:=k3.1
  have hbl:=hb.lt
  have hb3:BufR (fun i=>H.length≤i∧i<H3.length∧i∉bs) H3 bs 111 v (ll.take k):=by
   obtain ⟨es,x1,x2⟩:=hb.keep k3 (by simp) (by simp)
   exact ⟨es,x1,x2.weak fun i hi hik=>⟨hik.1,hi,hik.2.2⟩⟩
  have hkl2:(ll.take k).length=k:=by rw [List.length_take];omega
  refine OD.app1 (α:=List (Int×Int)) (bytes:=24) (ok:=fun i=>H.length≤i∧i<H3.length∧i∉bs) (x:=l) rfl (ev_mksl1 rfl) ⟨q5,_,rfl,hs5.weak fun i hi hik=>⟨by omega,hi,fun hc=>by have:=hbl i hc;omega⟩⟩ hb3 rfl rfl (fun i hi=>hi.2.2) (by omega) (by omega) fun v' H4 bs' g1 g2 g3=> ?_
  have hl4:=g2.1
  repeat refine jj ?_
  refine ⟨_,by omega,k+1,bs',v',rfl,by omega,⟨rfl,rfl,rfl,rfl,by rw [Int.natCast_add];rfl,trivial⟩,rfl,(k2.trans k3 (by simp)).trans g2 (fun i hi hl=>by have:=hbs i hi;omega),?_,fun b hb=> ?_⟩
  ·rw [htk]
   obtain ⟨es,x1,x2⟩:=g1
   exact ⟨es,x1,x2.weak fun i hi hik=>⟨hik.1,by omega,fun hc=>by rcases g3 i hc with h|h;exact hik.2.2 h;omega⟩⟩
  ·rcases g3 b hb with h|h
   ·exact hbs b h
   ·omega
 ·have hall:ll.take k=ll:=List.take_of_length_le (by omega)
  rw [hall] at hb
  obtain ⟨es,hb1,he⟩:=id hb
  repeat refine jj ?_
  refine OD.call rfl rfl rfl (clipAA hb1) ?_
  rintro r H3 ⟨rfl,q,rfl,hs,hq⟩
  rw [he.1]
  repeat refine jj ?_
  exact ⟨.inl rfl,rfl,_,rfl,k2,q,rfl,es,hs,fun q' hq' _=>⟨hbs _ (hq q' hq'),hb.lt _ (hq q' hq')⟩,he.weak fun i hi hik=>⟨hik.1,hi⟩⟩
theorem copiesII {H:Hp} {p:Option PA} {c:Nat} {ll:List (List (Int))} (h:SlR (fun _=>True) H p ll) (hl:ll.length≤1000000000) (hll: ∀l∈ll,l.length≤1000000000):FnX Tryz.prog 35 [.sl p ll.length c,.fn 36 []] H fun r H'=>Keep [] H H'∧ ∃q,r= .sl q ll.length ll.length∧SlR (fun b=>H.length≤b∧b<H'.length) H' q ll:=by
 refine FnX.enterRow ok35 (Nat.le_of_ble_eq_true rfl) ?_
 repeat refine jj ?_
 refine WD.loop (fun n F H2=> ∃(k:Nat) (bs:List Nat) (v:VV),n=ll.length-k∧k≤ll.length∧Cov [(1,.fn 36 []),(5,v),(8,.sl p ll.length c),(9,.int .i64 ll.length),(10,.int .i64 k)] F∧F.get dslot=none∧Keep [] H H2∧BufR (fun i=>H.length≤i∧i<H2.length∧i∉bs) H2 bs 22 v (ll.take k)∧ ∀b∈bs,H.length≤b) ll.length ⟨0,[],_,rfl,Nat.zero_le _,⟨rfl,rfl,rfl,rfl,rfl,trivial⟩,rfl,Keep.refl _,BufR.nil _ _ _,by simp⟩ ?_
 rintro n F H2 ⟨k,bs,v,rfl,hk,hc,hd,k2,hb,hbs⟩
 refine WD.cov hc hd rfl ?_
 have h2:=h.keep (H':=H2) fun i hi _=>k2.2 i hi (by simp)
 have hl2:=k2.1
 by_cases hkl:k<ll.length
 ·have hlk:ll[k]? =some ll[k]:=List.getElem?_eq_getElem hkl
  have htk:ll.take (k+1)=ll.take k++[ll[k]]:=by rw [List.take_add_one,hlk];rfl
  have hlm:=hll ll[k] (List.getElem_mem hkl)
  generalize ll[k]=l at hlk htk hlm
  obtain ⟨q,cq,e1,hq⟩:=h2.ldL hlk
  repeat refine jj ?_
  refine OD.rd rfl (ev_ixR h2 rfl rfl (by omega) (by omega) rfl) ?_
  rw [Int.toNat_natCast]
  refine OD.rd rfl (e1 _ _ rfl) ?_
  repeat refine jj ?_
  refine OD.call rfl rfl rfl (sameI hq (by omega)) ?_
  rintro r H3 ⟨k3,q5,rfl,hs5⟩
  have hl3:=k3.1
  have hbl:=hb.lt
  have hb3:BufR (fun i=>H.length≤i∧i<H3.length∧i∉bs) H3 bs 22 v (ll.take k):=by
   obtain ⟨es,x1,x2⟩:=hb.keep k3 (by simp) (by simp)
   exact ⟨es,x1,x2.weak fun i hi hik=>⟨hik.1,hi,hik.2.2⟩⟩
  have hkl2:(ll.take k).length=k:=by rw [List.length_take];omega
  refine OD.app1 (α:=List (Int)) (bytes:=24) (ok:=fun i=>H.length≤i∧i<H3.length∧i∉bs) (x:=l) rfl (ev_mksl1 rfl) ⟨q5,_,rfl,hs5.weak fun i hi hik=>⟨by omega,hi,fun hc=>by have:=hbl i hc;omega⟩⟩ hb3 rfl rfl (fun i hi=>hi.2.2) (by omega) (by omega) fun v' H4 bs' g1 g2 g3=> ?_
  have hl4:=g2.1
  repeat refine jj ?_
  refine ⟨_,by omega,k+1,bs',v',rfl,by omega,⟨rfl,rfl,rfl,rfl,by rw [Int.natCast_add];rfl,trivial⟩,rfl,(k2.trans k3 (by simp)).trans g2 (fun i hi hl=>by have:=hbs i hi;omega),?_,fun b hb=> ?_⟩
  ·rw [htk]
   obtain ⟨es,x1,x2⟩:=g1
   exact ⟨es,x1,x2.weak fun i hi hik=>⟨hik.1,by omega,fun hc=>by rcases g3 i hc with h|h;exact hik.2.2 h;omega⟩⟩
  ·rcases g3 b hb with h|h
   ·exact hbs b h
   ·omega
 ·have hall:ll.take k=ll:=List.take_of_length_le (by omega)
  rw [hall] at hb
  obtain ⟨es,hb1,he⟩:=id hb
  repeat refine jj ?_
  refine OD.call rfl rfl rfl (clipII hb1) ?_
  rintro r H3 ⟨rfl,q,rfl,hs,hq⟩
  rw [he.1]
  repeat refine jj ?_
  exact ⟨.inl rfl,rfl,_,rfl,k2,q,rfl,es,hs,fun q' hq' _=>⟨hbs _ (hq q' hq'),hb.lt _ (hq q' hq')⟩,he.weak fun i hi hik=>⟨hik.1,hi⟩⟩
abbrev Cl:=Int×(Int×List (Int×Int))
theorem settled1 {H:Hp} {q:Option PA} {c:Nat} {x:Cl} (h:SlR (fun _=>True) H q x.2.2) (hl:x.2.2.length≤1000000000):FnX Tryz.prog 38 [.agg [.int .i64 x.1,.int .i64 x.2.1,.sl q x.2.2.length c]] H fun r H'=>Keep [] H H'∧ ∃q',r= .agg [.int .i64 x.1,.int .i64 x.2.1,.sl q' x.2.2.length x.2.2.length]∧SlR (fun b=>H.length≤b∧b<H'.length) H' q' x.2.2:=by
 refine FnX.enterRow ok38 (Nat.le_of_ble_eq_true rfl) ?_
 refine WD.seq ?_
 refine WD.reg ?_
 refine OD.bx rfl rfl rfl rfl rfl fun H1 b1 k1 n1=> ?_
 refine OD.al rfl fun H2 a2 k2 n2=> ?_
 have k02:=k1.trans k2 (by simp)
 have b2:=b1.keep k2 (by simp)
 repeat refine jj ?_
 refine OD.call rfl rfl rfl (sameAc (h.keep (H':=H2) fun i hi _=>k02.2 i hi (by simp)) hl) ?_
 rintro r H3 ⟨k3,q5,rfl,hs5⟩
 have b3:=b2.keep k3 (by simp)
 have a3:=a2.keep k3 (by simp)
 have hl2:=k02.1
 repeat refine jj ?_
 refine OD.st rfl rfl rfl b3 rfl rfl rfl (Nat.le_of_ble_eq_true rfl) rfl fun H4 b4 k4 n4=> ?_
 have a4:=a3.keep k4 (by simp;omega)
 repeat refine jj ?_
 refine OD.st rfl rfl rfl a4 rfl rfl rfl (Nat.le_of_ble_eq_true rfl) rfl fun H5 a5 k5 n5=> ?_
 repeat refine jj ?_
 have hl3:=k3.1
 refine ⟨.inl rfl,rfl,_,resC rfl a5 rfl,((k02.trans k3 (by simp)).trans k4 (fun i hi hl=>by simp at hi;omega)).trans k5 (fun i hi hl=>by simp at hi;omega),q5,rfl,?_⟩
 refine ((hs5.keep fun i hi hik=>k4.2 i hi (by simp;omega)).keep fun i hi hik=>k5.2 i hi (by simp;omega)).weak fun i hi hik=>⟨by omega,hi⟩
theorem copiesCe {H:Hp} {p:Option PA} {c:Nat} {ll:List Cl} (h:SlR (fun _=>True) H p ll) (hl:ll.length≤1000000000) (hll: ∀l∈ll,l.2.2.length≤1000000000):FnX Tryz.prog 37 [.sl p ll.length c,.fn 38 []] H fun r H'=>Keep [] H H'∧ ∃q,r= .sl q ll.length ll.length∧SlR (fun b=>H.length≤b∧b<H'.length) H' q ll:=by
 refine FnX.enterRow ok37 (Nat.le_of_ble_eq_true rfl) ?_
 repeat refine jj ?_
 refine WD.loop (fun n F H2=> ∃(k:Nat) (bs:List Nat) (v:VV),n=ll.length-k∧k≤ll.length∧Cov [(1,.fn 38 []),(5,v),(8,.sl p ll.length c),(9,.int .i64 ll.length),(10,.int .i64 k)] F∧F.get dslot=none∧Keep [] H H2∧BufR (fun i=>H.length≤i∧i<H2.length∧i∉bs) H2 bs 119 v (ll.take k)∧ ∀b∈bs,H.length≤b) ll.length ⟨0,[],_,rfl,Nat.zero_le _,⟨rfl,rfl,rfl,rfl,rfl,trivial⟩,rfl,Keep.refl _,BufR.nil _ _ _,by simp⟩ ?_
 rintro n F H2 ⟨k,bs,v,rfl,hk,hc,hd,k2,hb,hbs⟩
 refine WD.cov hc hd rfl ?_
 have h2:=h.keep (H':=H2) fun i hi _=>k2.2 i hi (by simp)
 have hl2:=k2.1
 by_cases hkl:k<ll.length
 ·have hlk:ll[k]? =some ll[k]:=List.getElem?_eq_getElem hkl
  have htk:ll.take (k+1)=ll.take k++[ll[k]]:=by rw [List.take_add_one,hlk];rfl
  have hlm:=hll ll[k] (List.getElem_mem hkl)
  generalize ll[k]=l at hlk htk hlm
  obtain ⟨e,he,hlds⟩:=h2.get hlk
  obtain ⟨_,_,rfl,rfl,_,_,rfl,rfl,q,cq,rfl,hq⟩:=he
  repeat refine jj ?_
  refine OD.rd rfl (ev_ixR h2 rfl rfl (by omega) (by omega) rfl) ?_
  rw [Int.toNat_natCast]
  refine OD.rd rfl (ev_ldS rfl hlds) ?_
  refine OD.al rfl fun H6 a6 k6 n6=> ?_
  refine OD.st rfl rfl rfl a6 rfl rfl rfl (Nat.le_of_ble_eq_true rfl) rfl fun H7 a7 k7 n7=> ?_
  have k27:Keep [] H2 H7:=k6.trans k7 (fun i hi hl=>by simp at hi;omega)
  have hl7:=k27.1
  repeat refine jj ?_
  refine OD.call rfl rfl rfl (settled1 (x:=l) (hq.keep (H':=H7) fun i hi _=>k27.2 i hi (by simp)) (by omega)) ?_
  rintro r H3 ⟨k3,q5,rfl,hs5⟩
  have hl3:=k3.1
  have hbl:=hb.lt
  have k23:=k27.trans k3 (by simp)
  have hb3:BufR (fun i=>H.length≤i∧i<H3.length∧i∉bs) H3 bs 119 v (ll.take k):=by
   obtain ⟨es,x1,x2⟩:=hb.keep k23 (by simp) (by simp)
   exact ⟨es,x1,x2.weak fun i hi hik=>⟨hik.1,hi,hik.2.2⟩⟩
  have hkl2:(ll.take k).length=k:=by rw [List.length_take];omega
  refine OD.app1 (α:=Cl) (bytes:=40) (ok:=fun i=>H.length≤i∧i<H3.length∧i∉bs) (x:=l) rfl (ev_mkagg (m:=0) (l:=[.int .i64 l.1,.int .i64 l.2.1,.sl q5 l.2.2.length l.2.2.length]) rfl rfl rfl) ⟨[_],_,rfl,rfl,[_],_,rfl,rfl,q5,_,rfl,hs5.weak fun i hi hik=>⟨by omega,hi,fun hc=>by have:=hbl i hc;omega⟩⟩ hb3 rfl rfl (fun i hi=>hi.2.2) (by omega) (by omega) fun v' H4 bs' g1 g2 g3=> ?_
  have hl4:=g2.1
  repeat refine jj ?_
  refine ⟨_,by omega,k+1,bs',v',rfl,by omega,⟨rfl,rfl,rfl,rfl,by rw [Int.natCast_add];rfl,trivial⟩,rfl,(k2.trans k23 (by simp)).trans g2 (fun i hi hl=>by have:=hbs i hi;omega),?_,fun b hb=> ?_⟩
  ·rw [htk]
   obtain ⟨es,x1,x2⟩:=g1
   exact ⟨es,x1,x2.weak fun i hi hik=>⟨hik.1,by omega,fun hc=>by rcases g3 i hc with h|h;exact hik.2.2 h;omega⟩⟩
  ·rcases g3 b hb with h|h
   ·exact hbs b h
   ·omega
 ·have hall:ll.take k=ll:=List.take_of_length_le (by omega)
  rw [hall] at hb
  obtain ⟨es,hb1,he⟩:=id hb
  repeat refine jj ?_
  refine OD.call rfl rfl rfl (clipCe hb1) ?_
  rintro r H3 ⟨rfl,q,rfl,hs,hq⟩
  rw [he.1]
  repeat refine jj ?_
  exact ⟨.inl rfl,rfl,_,rfl,k2,q,rfl,es,hs,fun q' hq' _=>⟨hbs _ (hq q' hq'),hb.lt _ (hq q' hq')⟩,he.weak fun i hi hik=>⟨hik.1,hi⟩⟩
end Dr
end Go.Proofs.YtnjjieohlnhicaaGreatDoor
end
