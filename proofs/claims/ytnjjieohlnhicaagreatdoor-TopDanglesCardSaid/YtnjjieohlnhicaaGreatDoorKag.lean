/- Texts as one: WmO WmP WmQ. -/
import Derived.Test.YtnjjieohlnhicaaGreatDoorKaf
import Derived.Scope
import Derived.Deep.LoopGhost
import Derived.Test.YtnjjieohlnhicaaGreatDoorKaa
section
namespace Go.Wm
set_option linter.unusedSimpArgs false
set_option linter.unusedVariables false
open Go.RowKit
def VW (P:Program) (B N:Nat) (rn:Bool) (vc:VC) (F:Fr) (H:Hp) (Q:VQ):Prop:=
 ∀ro,(rn=false→ro=none)→ ∀(K:Nat→Nat) (c:Code),compC P N K c=some vc→ ∀σ w a,HRel P σ B H w→FRel σ N F a→c.wpIn (Wd ro) 0 P (Post P B N σ w Q) a w
section
variable {P:Program} {b:Frame} {a:Act} {k:List Item} {cs:List Frame} {w:World} {Q:Exit→Act→World→Prop} {G:Fence} {n:Nat}
theorem stepR_scope {c:Code}:step P (lone (b.atR a (.code (.scope c)::k)) cs w)= .next (lone (b.atR a (.code c:: .inScope c::k)) cs w):=
 step_lone_go (by simp [stepG,stepG.exec,Frame.atR])
theorem stepR_inScope {c:Code}:step P (lone (b.atR a (.inScope c::k)) cs w)= .next (lone (b.atR a k) cs w):=
 step_lone_go (by simp [stepG,stepG.exec,Frame.atR])
theorem wpIn_scope {c:Code} (h:c.wpIn G n P (Exit.noGoto Q) a w):(Code.scope c).wpIn G n P Q a w:=by
 intro b k cs hro hb hr
 have h0:(lone (b.atR a (.code (.scope c)::k)) cs w).fenced P G:=fenced_calm hb hr rfl
 obtain ⟨e,a₁,w₁,hq,harr⟩:=h b (.inScope c::k) cs hro hb hr
 cases e with
 |normal=>exact ⟨.normal,a₁,w₁,hq,.head h0 stepR_scope (StepsIn.trans harr (.one (fenced_calm hb hr rfl) stepR_inScope))⟩
 |exit id=>
  have hx:exitTo id (.inScope c::k)=exitTo id k:=by simp [exitTo]
  exact ⟨.exit id,a₁,w₁,hq,fun k' hk=> .head h0 stepR_scope (harr.1 k' (by rw [hx];exact hk)),fun hr' hk=>let ⟨k₁,h1,h2⟩:=harr.2 hr' (by rw [hx];exact hk);⟨k₁,h1,.head h0 stepR_scope h2⟩⟩
 |goto l=>exact hq.elim
 |ret=>exact ⟨_,a₁,w₁,hq,.of_steps (.one h0 stepR_scope) harr⟩
 |panic ch=>exact ⟨_,a₁,w₁,hq,.of_steps (.one h0 stepR_scope) harr⟩
 |outgrown=>exact ⟨_,a₁,w₁,hq,.of_steps (.one h0 stepR_scope) harr⟩
theorem wpIn_loop_ghost {c:Code} (I:Nat→Act→World→Prop) (n₀:Nat) (h₀:I n₀ a w)
 (round: ∀m a w,I m a w→c.wpIn G n P (Exit.then (fun a' w'=> ∃n',n'<m∧I n' a' w') Q) a w):(Code.loop c).wpIn G n P Q a w:=by
 refine wpIn_loop (fun a w=> ∃n,I n a w) (fun a w=>leastOf (fun n=>I n a w)) ⟨n₀,h₀⟩ ?_
 intro a w hI
 refine wpIn_mono (round _ a w (leastOf_spec hI).1) ?_
 intro e a' w' hq
 cases e with
 |normal=>
  obtain ⟨n',hlt,hI'⟩:=hq
  exact show (∃n,I n a' w')∧leastOf (fun n=>I n a' w')<leastOf (fun n=>I n a w) from ⟨⟨n',hI'⟩,Nat.lt_of_le_of_lt ((leastOf_spec ⟨n',hI'⟩).2 n' hI') hlt⟩
 |exit id=>exact hq
 |goto l=>exact hq
 |ret=>exact hq
 |panic ch=>exact hq
 |outgrown=>exact hq
end
section
variable {P:Program} {B N:Nat} {rn:Bool} {F:Fr} {H:Hp} {Q:VQ}
theorem VW.mono {vc:VC} {Q':VQ} (h:VW P B N rn vc F H Q) (hq: ∀e F H,Q e F H→Q' e F H):VW P B N rn vc F H Q':=
 fun ro hro K c hc σ w a hH hF=>wpIn_mono (h ro hro K c hc σ w a hH hF) fun _ _ _ hp=>hp.mono hq
theorem VW.up {vc:VC} (h:VW P B N true vc F H Q):VW P B N rn vc F H Q:=fun ro _=>h ro (fun e=>by cases e)
theorem compX_inv {ops:Array Oper} {l:List VI} (h:compX P N ops=some l): ∃ops2,PermOf ops ops2∧compL P N ops2 ops2.toList=some l∧okX ops2 l (compXb P N ops)=true:=by
 unfold compX at h
 unfold compXb
 split at h
 ·rename_i l1 h1
  simp only [h1]
  split at h
  ·rename_i hok
   cases h
   exact ⟨ops,.inl rfl,h1,by rw [if_pos hok];exact hok⟩
  ·rename_i hok
   simp only at h
   split at h
   ·rename_i hp
    split at h
    ·rename_i l2 h2
     split at h
     ·rename_i hok2
      cases h
      exact ⟨_,.inr ⟨_,_,permOk_spec hp⟩,h2,by rw [if_neg hok];first|exact hok2|(rw [h2];exact hok2)|(simp [h2];exact hok2)⟩
     ·cases h
    ·cases h
   ·cases h
 ·cases h
def CInv (P:Program) (N:Nat) (K:Nat→Nat) (c':Code):VC→Prop
 | .skip=>c'= .skip∨ ∃l,c'= .label l
 | .reg l keep=> ∃id ops,c'= .region id ops false∧compL P N ops ops.toList=some l
 | .dreg l b keep=> ∃id ops ops2,c'= .region id ops true∧PermOf ops ops2∧compL P N ops2 ops2.toList=some l∧okX ops2 l b=true
 | .seq x y=> ∃a b,c'= .seq a b∧compC P N K a=some x∧compC P N K b=some y
 | .cond s x y=> ∃a b,c'= .cond (.tmp s) a b∧s≠dslot∧compC P N K a=some x∧compC P N K b=some y
 | .block id x=> ∃a,c'= .block id a∧compC P N K a=some x
 | .loop x=> ∃a,c'= .loop a∧compC P N K a=some x
 | .exit id=>c'= .exit id
 | .ret=>c'= .ret
 | .scope x=> ∃a,c'= .scope a∧compC P N K a=some x
 | .rfunc f ps x y=> ∃g ps' a b,c'= .rangeFunc g ps' a b∧compOd g=some f∧ps'.toList=ps∧(∀s∈ps,s<N)∧compC P N K a=some x∧compC P N K b=some y
 | .bad=>True
 | .dlm _ _=>False
def Peel (P:Program) (c' c:Code):Prop:=(∀G n Q a w,c'.wpIn G n P Q a w→c.wpIn G n P Q a w)∧(∀G n Q a cs w,c'.wpSIn G n P Q a cs w→c.wpSIn G n P Q a cs w)
theorem Peel.refl (c:Code):Peel P c c:=⟨fun _ _ _ _ _ h=>h,fun _ _ _ _ _ _ h=>h⟩
theorem Peel.cond {c' c x y:Code} {t:Bool} {o:Operand} (h:Peel P c' c) (ho:o= .const (.bool t)) (hc:c=if t then x else y):Peel P c' (.cond o x y):=by
 subst ho
 exact ⟨fun G n Q a w hw=>wpIn_cond (t:=t) rfl (hc ▸h.1 G n Q a w hw),fun G n Q a cs w hw=>wpSIn_cond (t:=t) rfl (hc ▸h.2 G n Q a cs w hw)⟩
theorem compC_inv {K:Nat→Nat}: ∀{c:Code} {vc:VC},compC P N K c=some vc→ ∃c',Peel P c' c∧CInv P N K c' vc
 | .skip,vc,h=>by simp only [compC] at h;cases h;exact ⟨_,.refl _,.inl rfl⟩
 | .region id ops false,vc,h=>by
   simp only [compC] at h
   split at h
   ·cases h;exact ⟨_,.refl _,_,_,rfl,by assumption⟩
   ·cases h
 | .region id ops true,vc,h=>by
   simp only [compC] at h
   split at h
   ·rename_i l hl
    cases h
    obtain ⟨ops2,h1,h2,h3⟩:=compX_inv hl
    exact ⟨_,.refl _,_,_,ops2,rfl,h1,h2,h3⟩
   ·cases h
 | .seq a b,vc,h=>by
   simp only [compC] at h
   split at h
   ·cases h;exact ⟨_,.refl _,_,_,rfl,by assumption,by assumption⟩
   ·cases h
 | .cond (.tmp s) a b,vc,h=>by
   simp only [compC] at h
   split at h
   ·cases h
   ·split at h
    ·cases h;exact ⟨_,.refl _,_,_,rfl,by assumption,by assumption,by assumption⟩
    ·cases h
 | .cond (.const (.bool true)) a b,vc,h=>by
   simp only [compC] at h
   obtain ⟨c',h1,h2⟩:=compC_inv h
   exact ⟨c',h1.cond rfl rfl,h2⟩
 | .cond (.const (.bool false)) a b,vc,h=>by
   simp only [compC] at h
   obtain ⟨c',h1,h2⟩:=compC_inv h
   exact ⟨c',h1.cond (t:=false) rfl rfl,h2⟩
 | .cond (.func _) a b,vc,h| .cond (.global _) a b,vc,h| .goto _,vc,h| .refuse _,vc,h=>by
   simp only [compC] at h;cases h;exact ⟨_,.refl _,trivial⟩
 | .block id a,vc,h| .loop a,vc,h| .scope a,vc,h=>by
   simp only [compC] at h
   split at h
   ·cases h;exact ⟨_,.refl _,_,rfl,by assumption⟩
   ·cases h
 | .exit id,vc,h| .ret,vc,h=>by simp only [compC] at h;cases h;exact ⟨_,.refl _,rfl⟩
 | .label l,vc,h=>by simp only [compC] at h;cases h;exact ⟨_,.refl _,.inr ⟨_,rfl⟩⟩
 | .rangeFunc f ps a b,vc,h=>by
   simp only [compC] at h
   split at h
   ·split at h
    ·rename_i hall
     cases h;exact ⟨_,.refl _,_,_,_,_,rfl,by assumption,rfl,fun s hs=>by simpa using List.all_eq_true.1 hall s hs,by assumption,by assumption⟩
    ·cases h
   ·cases h
 | .cond (.const v) a b,vc,h=>by
   cases v
   case bool t=>
    cases t
    ·simp only [compC] at h
     obtain ⟨c',h1,h2⟩:=compC_inv h
     exact ⟨c',h1.cond (t:=false) rfl rfl,h2⟩
    ·simp only [compC] at h
     obtain ⟨c',h1,h2⟩:=compC_inv h
     exact ⟨c',h1.cond rfl rfl,h2⟩
   all_goals (simp only [compC] at h;cases h;exact ⟨_,.refl _,trivial⟩)
theorem post_self {σ:Sg} {w:World} {a:Act} {e:Exit} (hH:HRel P σ B H w) (hF:FRel σ N F a) (h:Q e F H):Post P B N σ w Q e a w:=
 ⟨F,H,σ,h,Mv.refl _ _ _,hH,hF⟩
theorem VW.skip (h:Q .normal F H):VW P B N rn .skip F H Q:=by
 intro ro hro K c hc σ w a hH hF
 obtain ⟨c',h0,h1⟩:=compC_inv hc
 refine h0.1 _ _ _ _ _ ?_
 rcases h1 with rfl|⟨l,rfl⟩
 ·exact wpIn_skip (post_self hH hF h)
 ·exact wpIn_label (post_self hH hF h)
theorem VW.exit {id:Nat} (h:Q (.exit id) F H):VW P B N rn (.exit id) F H Q:=by
 intro ro hro K c hc σ w a hH hF
 obtain ⟨c',h0,rfl⟩:=compC_inv hc
 exact h0.1 _ _ _ _ _ (wpIn_exit (post_self hH hF h))
theorem VW.ret (h:Q .ret F H):VW P B N rn .ret F H Q:=by
 intro ro hro K c hc σ w a hH hF
 obtain ⟨c',h0,rfl⟩:=compC_inv hc
 exact h0.1 _ _ _ _ _ (wpIn_ret (post_self hH hF h))
def atEnd (Q:VQ) (keep:Nat):VQ:=fun e E H=>e= .normal∧Q .normal (E.only keep) H
theorem atEnd_post {σ:Sg} {w w':World} {keep:Nat} {e:Exit} {a':Act} (h:Post P B N σ w (atEnd Q keep) e a' w'):Post P B N σ w Q e a' w':=by
 obtain ⟨E,H',σ',⟨he,hq⟩,h1,h2,h3⟩:=h
 subst he
 exact ⟨E.only keep,H',σ',hq,h1,h2,h3.only keep⟩
theorem VW.reg {l:List VI} {keep:Nat} (h:VOps P B N rn l F H (atEnd Q keep)):VW P B N rn (.reg l keep) F H Q:=fun ro hro K c hc σ w a hH hF=>by
 obtain ⟨c',h0,id,ops,rfl,h1⟩:=compC_inv hc
 exact h0.1 _ _ _ _ _ (wpIn_region_list (wpListIn_mono (fun _ _ _ hp=>atEnd_post hp) _ _ _ (h ro hro ops _ h1 σ w a hH hF)))
def Then (Q1:Fr→Hp→Prop) (Q:VQ):VQ:=fun e F H=>match e with| .normal=>Q1 F H|e=>Q e F H
theorem VW.seq {x y:VC} (h:VW P B N rn x F H (Then (fun F' H'=>VW P B N rn y F' H' Q) Q)):VW P B N rn (.seq x y) F H Q:=fun ro hro K c hc σ w a hH hF=>by
 obtain ⟨c',h0,c1,c2,rfl,h1,h2⟩:=compC_inv hc
 refine h0.1 _ _ _ _ _ (wpIn_seq (wpIn_mono (h ro hro K c1 h1 σ w a hH hF) ?_))
 intro e a' w' hp
 obtain ⟨F',H',σ',hq,q1,q2,q3⟩:=hp
 cases e with
 |normal=>exact wpIn_mono (hq ro hro K c2 h2 σ' w' a' q2 q3) fun _ _ _ hp=>hp.lift q1
 |exit id=>exact ⟨F',H',σ',hq,q1,q2,q3⟩
 |goto l=>exact ⟨F',H',σ',hq,q1,q2,q3⟩
 |ret=>exact ⟨F',H',σ',hq,q1,q2,q3⟩
 |panic ch=>exact ⟨F',H',σ',hq,q1,q2,q3⟩
 |outgrown=>exact ⟨F',H',σ',hq,q1,q2,q3⟩
theorem VW.cond {s:Nat} {x y:VC} {b:Bool} (hg:F.get s=some (.bool b)) (h1:b=true→VW P B N rn x F H Q) (h2:b=false→VW P B N rn y F H Q):VW P B N rn (.cond s x y) F H Q:=fun ro hro K c hc σ w a hH hF=>by
 obtain ⟨c',h0,c1,c2,rfl,hs,k1,k2⟩:=compC_inv hc
 have r:=hF.2.2.2 _ _ hs hg
 have e:=bool_inv r
 refine h0.1 _ _ _ _ _ ?_
 cases b with
 |true=>exact wpIn_cond_true (by simpa [Act.eval] using e) (h1 rfl ro hro K c1 k1 σ w a hH hF)
 |false=>exact wpIn_cond_false (by simpa [Act.eval] using e) (h2 rfl ro hro K c2 k2 σ w a hH hF)
def inB (id:Nat) (Q:VQ):VQ:=fun e F H=>match e with| .exit i=>if i=id then Q .normal F H else Q (.exit i) F H|e=>Q e F H
theorem VW.block {id:Nat} {x:VC} (h:VW P B N rn x F H (inB id Q)):VW P B N rn (.block id x) F H Q:=fun ro hro K c hc σ w a hH hF=>by
 obtain ⟨c',h0,c1,rfl,h1⟩:=compC_inv hc
 refine h0.1 _ _ _ _ _ (wpIn_block (wpIn_mono (h ro hro K c1 h1 σ w a hH hF) ?_))
 intro e a' w' hp
 obtain ⟨F',H',σ',hq,q1,q2,q3⟩:=hp
 cases e with
 |exit i=>
  simp only [inB] at hq
  simp only [Exit.inBlock]
  split
  ·rename_i hi;rw [if_pos hi] at hq;exact ⟨F',H',σ',hq,q1,q2,q3⟩
  ·rename_i hi;rw [if_neg hi] at hq;exact ⟨F',H',σ',hq,q1,q2,q3⟩
 |normal=>exact ⟨F',H',σ',hq,q1,q2,q3⟩
 |goto l=>exact ⟨F',H',σ',hq,q1,q2,q3⟩
 |ret=>exact ⟨F',H',σ',hq,q1,q2,q3⟩
 |panic ch=>exact ⟨F',H',σ',hq,q1,q2,q3⟩
 |outgrown=>exact ⟨F',H',σ',hq,q1,q2,q3⟩
def noGo (Q:VQ):VQ:=fun e F H=>match e with| .goto _=>False|e=>Q e F H
theorem VW.scope {x:VC} (h:VW P B N rn x F H (noGo Q)):VW P B N rn (.scope x) F H Q:=fun ro hro K c hc σ w a hH hF=>by
 obtain ⟨c',h0,c1,rfl,h1⟩:=compC_inv hc
 refine h0.1 _ _ _ _ _ (wpIn_scope (wpIn_mono (h ro hro K c1 h1 σ w a hH hF) ?_))
 intro e a' w' hp
 obtain ⟨F',H',σ',hq,q1,q2,q3⟩:=hp
 cases e with
 |goto l=>exact hq.elim
 |exit i=>exact ⟨F',H',σ',hq,q1,q2,q3⟩
 |normal=>exact ⟨F',H',σ',hq,q1,q2,q3⟩
 |ret=>exact ⟨F',H',σ',hq,q1,q2,q3⟩
 |panic ch=>exact ⟨F',H',σ',hq,q1,q2,q3⟩
 |outgrown=>exact ⟨F',H',σ',hq,q1,q2,q3⟩
theorem VW.loop {x:VC} (I:Nat→Fr→Hp→Prop) (n0:Nat) (h0:I n0 F H)
 (round: ∀n F' H',I n F' H'→VW P B N rn x F' H' (Then (fun F2 H2=> ∃m,m<n∧I m F2 H2) Q)):VW P B N rn (.loop x) F H Q:=fun ro hro K c hc σ w a hH hF=>by
 obtain ⟨c',hz,c1,rfl,h1⟩:=compC_inv hc
 refine hz.1 _ _ _ _ _ (wpIn_loop_ghost (fun n a' w'=> ∃F' H' σ',I n F' H'∧Mv B σ σ' w w'∧HRel P σ' B H' w'∧FRel σ' N F' a') n0 ⟨F,H,σ,h0,Mv.refl _ _ _,hH,hF⟩ ?_)
 intro n a1 w1 ⟨F1,H1,σ1,hI,q1,q2,q3⟩
 refine wpIn_mono (round n F1 H1 hI ro hro K c1 h1 σ1 w1 a1 q2 q3) ?_
 intro e a' w' hp
 obtain ⟨F',H',σ',hq,r1,r2,r3⟩:=hp
 cases e with
 |normal=>
  obtain ⟨m,hm,hI'⟩:=hq
  exact ⟨m,hm,F',H',σ',hI',q1.trans r1,r2,r3⟩
 |exit id=>exact ⟨F',H',σ',hq,q1.trans r1,r2,r3⟩
 |goto l=>exact ⟨F',H',σ',hq,q1.trans r1,r2,r3⟩
 |ret=>exact ⟨F',H',σ',hq,q1.trans r1,r2,r3⟩
 |panic ch=>exact ⟨F',H',σ',hq,q1.trans r1,r2,r3⟩
 |outgrown=>exact ⟨F',H',σ',hq,q1.trans r1,r2,r3⟩
theorem VW.dreg {l:List VI} {b:List (Nat×Nat)} {keep:Nat} (hs:List Hp) (hm:P.follows .mixedOrders=true) (hC:hs[0]? =some H) (h:VX P hs l b 0 F H fun E H'=>Q .normal (E.only keep) H'):VW P B N rn (.dreg l b keep) F H Q:=fun ro hro K c hc σ w a hH hF=>by
 obtain ⟨c',h0,id,ops,ops2,rfl,hp,h1,h2⟩:=compC_inv hc
 exact h0.1 _ _ _ _ _ (x_region_perm hm hp h1 h2 hC h hH hF fun E' H' a' w' σ' q1 q2 q3 q4=>⟨E'.only keep,H',σ',q1,q2,q4,q3.only keep⟩)
theorem argsF_get: ∀(l:List VV) (k s:Nat) (v:VV),(argsF k l).get s=some v→k≤s∧l[s-k]? =some v
 |[],k,s,v,h=>by simp [argsF,Fr.get] at h
 |x::l,k,s,v,h=>by
  simp only [argsF,Fr.get_cons] at h
  split at h
  ·rename_i hk;subst hk;simp at h;subst h;simp
  ·rename_i hk
   obtain ⟨h1,h2⟩:=argsF_get l (k+1) s v h
   refine ⟨by omega,?_⟩
   rw [show s-k=(s-(k+1))+1 by omega]
   simpa using h2
def resSem (tmps:Array Value):ResultVar→Sem Value
 | .tmp t=>pure (tmps.getD t undef)
 | .cell a t=>do loadVar t (←asAddr (tmps.getD a undef))
theorem results_eq (fn:Func) (tmps:Array Value):results fn tmps=(do let vs←fn.results.mapM (resSem tmps);pure (if h:vs.size=1 then vs[0] else .tuple vs)):=by
 unfold results
 refine congrArg (fun g=>(Array.mapM g fn.results>>=fun vs=>(pure (if h:vs.size=1 then vs[0] else Value.tuple vs):Sem Value))) ?_
 funext r
 cases r<;>rfl
theorem resL_ok {σ:Sg} {w:World} {a:Act} (hH:HRel P σ B H w) (hF:FRel σ N F a): ∀(rs:List ResultVar) (l:List RV) (vs:List VV),compR P rs=some l→resL F H.g l=some vs→
 ∃vs',LRel σ vs vs'∧(rs.mapM (resSem a.tmps)).run P w= .ok vs' w
 |[],l,vs,hc,hr=>by simp [compR] at hc;subst hc;simp [resL] at hr;subst hr;exact ⟨[],.nil,by simp⟩
 | .tmp s::rs,l,vs,hc,hr=>by
   simp only [compR] at hc
   by_cases hsd:s=dslot
   ·rw [if_pos hsd] at hc;cases hc
   rw [if_neg hsd] at hc
   cases h1:compR P rs with
   |none=>simp [h1] at hc
   |some l'=>
    simp [h1] at hc;subst hc
    simp only [resL] at hr
    cases h2:F.get s with
    |none=>simp [h2] at hr
    |some v=>
     cases h3:resL F H.g l' with
     |none=>simp [h2,h3] at hr
     |some vs0=>
      simp [h2,h3] at hr;subst hr
      obtain ⟨vs',q1,q2⟩:=resL_ok hH hF rs l' vs0 h1 h3
      refine ⟨a.tmps.getD s undef::vs',.cons (hF.2.2.2 _ _ hsd h2) q1,?_⟩
      rw [List.mapM_cons]
      simp only [resSem,Sem.run_bind,Sem.run_pure,Result.andThen_ok,q2]
 | .cell s t::rs,l,vs,hc,hr=>by
   simp only [compR] at hc
   by_cases hsd:s=dslot
   ·rw [if_pos hsd] at hc;cases hc
   rw [if_neg hsd] at hc
   cases h0:aggOf P t with
   |none=>simp [h0] at hc
   |some nb=>
    obtain ⟨n,b⟩:=nb
    cases h1:compR P rs with
    |none=>simp [h0,h1] at hc
    |some l'=>
     simp [h0,h1] at hc;subst hc
     simp only [resL] at hr
     cases h2:(VOp.load n b (.t s)).ev F H.g with
     |none=>simp [h2] at hr
     |some v=>
      cases h3:resL F H.g l' with
      |none=>simp [h2,h3] at hr
      |some vs0=>
       simp [h2,h3] at hr;subst hr
       obtain ⟨vs',q1,q2⟩:=resL_ok hH hF rs l' vs0 h1 h3
       have hl:=read_load (P:=P) (o:={dst:=none,op:= .load t (.tmp s),type:=0,pos:= "",after:=#[],guard:=none}) rfl h0 (y:= .t s) (by simp [compOd,hsd]) hH hF h2
       obtain ⟨v',r1,r2⟩:=hl
       have r3:=r2 w (Below.refl _ _)
       have hp: ∃ad,a.tmps.getD s undef= .pointer (some ad):=by
        simp only [VOp.ev,Od.ev] at h2
        cases h4:F.get s with
        |none=>simp [h4] at h2
        |some u=>
         cases u<;>simp [h4] at h2
         rename_i p
         cases p with
         |none=>simp at h2
         |some p=>obtain ⟨ad,e,_⟩:=ptr_inv (hF.2.2.2 _ _ hsd h4);exact ⟨ad,e⟩
       obtain ⟨ad,had⟩:=hp
       have r4:(loadVar t ad).run P w= .ok v' w:=by
        have:(execOp a.eval {dst:=none,op:= .load t (.tmp s),type:=0,pos:= "",after:=#[],guard:=none}).run P w=((loadVar t ad).run P w).andThen fun v w'=> .ok (.value v) w':=by
         simp only [execOp,Act.eval,had,Instr.loadAt,Instr.sureAddr,Sem.run_bind,Sem.run_pure,Result.andThen_ok]
        rw [this] at r3
        cases hx:(loadVar t ad).run P w with
        |ok x w'=>rw [hx] at r3;simp at r3;rw [r3.1,r3.2]
        |halt x w'=>rw [hx] at r3;simp at r3
       refine ⟨v'::vs',.cons r1 q1,?_⟩
       rw [List.mapM_cons]
       simp only [resSem,had,asAddr,Sem.run_bind,Sem.run_pure,Result.andThen_ok,r4,q2]
theorem resV_ok {σ:Sg} {w:World} {a:Act} {fn:Func} {l:List RV} {v:VV} (hH:HRel P σ B H w) (hF:FRel σ N F a) (hc:compR P fn.results.toList=some l) (hr:resV F H.g l=some v):
 ∃v',VRel σ v v'∧(results fn a.tmps).run P w= .ok v' w:=by
 unfold resV at hr
 have key: ∀vs,resL F H.g l=some vs→ ∃vs':Array Value,LRel σ vs vs'.toList∧(results fn a.tmps).run P w= .ok (if h:vs'.size=1 then vs'[0] else .tuple vs') w:=by
  intro vs hvs
  obtain ⟨vs',q1,q2⟩:=resL_ok hH hF fn.results.toList l vs hc hvs
  refine ⟨vs'.toArray,by simpa using q1,?_⟩
  rw [results_eq,Array.mapM_eq_mapM_toList]
  simp only [Sem.run_bind,Sem.run_map,q2,Result.andThen_ok,Sem.run_pure]
 split at hr
 ·rename_i v0 h0
  simp at hr;subst hr
  obtain ⟨vs',q1,q2⟩:=key _ h0
  have hsz:vs'.size=1:=by have:=q1.length;simpa using this.symm
  rw [dif_pos hsz] at q2
  refine ⟨_,?_,q2⟩
  obtain ⟨u,r1,r2⟩:=q1.get (i:=0) (v:=v0) (by simp)
  have:vs'[0]=u:=by simp at r1;rw [Array.getElem?_eq_getElem (by omega)] at r1;simpa using r1
  rw [this];exact r2
 ·rename_i vs h0 h1
  simp at hr;subst hr
  obtain ⟨vs',q1,q2⟩:=key _ h1
  have hsz: ¬vs'.size=1:=by
   intro hsz
   have hl:vs.length=vs'.size:=by have:=q1.length;rw [Array.length_toList] at this;exact this
   rw [hsz] at hl
   match vs,hl with
   |[x],_=>exact h0 x rfl
  rw [dif_neg hsz] at q2
  exact ⟨_,.tup q1,q2⟩
 ·cases hr
end
end Go.Wm
end
section
namespace Go.Wm
set_option linter.unusedSimpArgs false
set_option linter.unusedVariables false
open Go.RowKit
section
variable {P:Program} {B N:Nat} {rn:Bool} {E:Fr} {H:Hp} {Q:VQ} {l:List VI}
theorem run_next_at (w:World) (ty:TypeId) (r bm since:Nat) (seen:Array Nat) (es:Array MapEntry) (clock:Nat) (hr:w.heap[r]? =some (.mapIter (some bm) since seen since)) (hb:w.heap[bm]? =some (.map es clock)) (hold: ∀x∈es.toList,x.born<since):
 ((leftOf es seen).size=0∧(Instr.next (.pointer (some ⟨r,0,none⟩)) false ty).run P w= .ok (.tuple #[.bool false]) w)∨
 ∃e∈(leftOf es seen).toList,∃w1:World,(w1=w∨w1=w.drew)∧(Instr.next (.pointer (some ⟨r,0,none⟩)) false ty).run P w= .ok (.tuple #[.bool true,e.key,e.val]) {w1 with heap:=w1.heap.setIfInBounds r (.mapIter (some bm) since (seen.push e.born) clock)}:=by
 simp only [Instr.next,getObj,Sem.run_bind,Sem.run,hr,hb,Result.andThen,next_test_false seen es since since hold (Nat.le_refl _),Bool.false_eq_true,if_false]
 unfold leftOf
 have hmem: ∀x∈(Array.filter (fun e=> !seen.contains e.born) es).toList,x.born<since:=fun x hx=>hold x (by simp at hx ⊢;exact hx.1)
 generalize Array.filter (fun e=> !seen.contains e.born) es=L at hmem ⊢
 have e1:L.filter (fun x=>decide (x.born<since))=L:=Array.filter_eq_self.2 (fun x hx=>by simpa using hmem x (by simpa using hx))
 have e2:L.filter (fun x=>decide (x.born≥since))=#[]:=by
  rw [Array.filter_eq_empty_iff]
  intro x hx
  have:=hmem x (by simpa using hx)
  simp
  omega
 simp only [e1,e2,Array.append_empty]
 by_cases h0:L.size=0
 ·left
  have:L=#[]:=Array.eq_empty_of_size_eq_zero h0
  subst this
  refine ⟨rfl,?_⟩
  simp [choose,Sem.run,Question.forced]
 ·right
  have hne:L.isEmpty=false:=by simp [Array.isEmpty,h0]
  simp only [hne,Bool.false_eq_true,if_false,Array.empty_append,Array.size_map]
  have hch: ∃(j:Nat) (w1:World),j<L.size∧(w1=w∨w1=w.drew)∧(choose (Question.mapNext L.size)).run P w= .ok j w1:=by
   by_cases hf:L.size≤1
   ·exact ⟨0,w,by omega,.inl rfl,by simp [choose,Sem.run,Question.forced,hf]⟩
   ·exact ⟨_,w.drew,Nat.mod_lt _ (by omega),.inr rfl,by
     simp only [choose,Sem.run,Question.forced,decide_eq_true_eq,hf,if_false,Question.cut]
     rfl⟩
  obtain ⟨j,w1,hj,hal,hrun⟩:=hch
  refine ⟨L[j],by simp,w1,hal,?_⟩
  have hr1:w1.heap[r]? =some (.mapIter (some bm) since seen since):=by rcases hal with rfl|rfl<;>exact hr
  simp only [hrun,Array.getElem?_map,Array.getElem?_eq_getElem hj,Option.map_some,Sem.run_bind,setObj,Sem.run,hr1,Result.andThen]
  rfl
theorem VOps.nx {d:Nat} {g:Option (Nat×Bool)} {x:Od} {b m n:Nat} {seen:List Nat} {es:List (VV×VV)} (hw:want E g=some true) (hx:x.ev E=some (.ptr (some ⟨b,0,0⟩))) (hb:H[b]? =some (.obj (.iter m n seen))) (hm:H[m]? =some (.obj (.map es))) (hn:es.length=n)
 (hover:(∀i,i<n→i∈seen)→VOps P B N rn l ((d,.tup [.bool false])::E) H Q)
 (hnext: ∀i e,i∉seen→es[i]? =some e→VOps P B N rn l ((d,.tup [.bool true,e.1,e.2])::E) (H.set b (.obj (.iter m n (seen++[i])))) Q):VOps P B N rn (.nx d g x::l) E H Q:=by
 intro ro hro ops os hc σ w a hH hF
 obtain ⟨o,os',rfl,h1,h2⟩:=compL_cons hc
 obtain ⟨hd,hg,hdst,xo,ho,hxo⟩:=compI_inv h1
 have hnd:=noDefer h1 (by intro _ _ _ _ h;cases h) (by intro _ _ h;cases h)
 have hdN:d<N:=by rw [hdst] at hd;simpa [dstOk,VI.ds] using hd
 obtain ⟨ad,e1,J,hJ,had⟩:=ptr_inv (compOd_ok hxo hF hx)
 obtain ⟨I,hob,i1,i2,i3,i4,i5⟩:=hH.objs _ _ hb
 have:I=J:=Option.some.inj (i1.symm.trans hJ)
 subst this
 cases hob<;>simp only [ObRel] at i5
 rename_i rm since s st
 obtain ⟨⟨K,k1,rfl⟩,k2,k3,k4⟩:=i5
 rw [k2,k3] at i4
 obtain ⟨hBm,hlt,cur,hcur,hent,hborn⟩:=obj_at hH hm k1
 have had0:ad=⟨I.real,0,none⟩:=by rw [had,i3];simp
 have hcs:cur.size=es.length:=by have:=hent.1;simpa using this.symm
 have hold: ∀x∈cur.toList,x.born<n:=fun x hx=>by
  obtain ⟨k,hk,rfl⟩:=List.getElem_of_mem hx
  have:=hborn k cur.toList[k] (by rw [←Array.getElem?_toList];exact List.getElem?_eq_getElem hk)
  rw [this];simp at hk;omega
 have hex: ∀u w2,(Instr.next (.pointer (some ⟨I.real,0,none⟩)) false o.type).run P w= .ok u w2→(execOp a.eval o).run P w= .ok (.value u) w2:=fun u w2 h=>by
  simp [execOp,ho,e1,had0,h,Result.andThen]
 unfold wpListIn
 rw [if_pos (want_ok hg hF hw)]
 refine ⟨fun _ _=>trivial,?_⟩
 rw [Oper.semAt_eq _ _ _ hnd]
 rcases run_next_at (P:=P) w o.type I.real K.real n s cur es.length i4 hcur hold with ⟨h0,hrun⟩|⟨en,hen,w1,hw1,hrun⟩
 ·rw [hex _ _ hrun]
  simp only [Oper.uponIn,hdst,VI.ds]
  refine hover (fun i hi=> ?_) ro hro ops os' h2 σ w _ hH (hF.put hdN (.tup (cs':=#[.bool false]) (.cons (.bool _) .nil)))
  have hemp:leftOf cur s=#[]:=Array.eq_empty_of_size_eq_zero h0
  unfold leftOf at hemp
  rw [Array.filter_eq_empty_iff] at hemp
  have hi2:i<cur.size:=by omega
  have:=hemp cur[i] (Array.getElem_mem hi2)
  rw [hborn i cur[i] (Array.getElem?_eq_getElem hi2)] at this
  rw [←k4]
  simpa using this
 ·rw [hex _ _ hrun]
  simp only [Oper.uponIn,hdst,VI.ds]
  have hen2:en∈cur.toList∧en.born∉s.toList:=by
   unfold leftOf at hen
   simp at hen
   exact ⟨by simpa using hen.1,by simpa using hen.2⟩
  obtain ⟨k,hk,hke⟩:=List.getElem_of_mem hen2.1
  have hk2:k<es.length:=by simp at hk;omega
  obtain ⟨e',f1,f2,f3⟩:=hent.2 k _ (List.getElem?_eq_getElem hk2)
  rw [List.getElem?_eq_getElem hk] at f1
  have:e'=en:=by simp at f1;rw [←f1];simpa using hke
  subst this
  have hbk:e'.born=k:=hborn k e' (by rw [←Array.getElem?_toList,List.getElem?_eq_getElem hk,hke])
  have hH1:HRel P σ B H w1:=by rcases hw1 with rfl|rfl;exact hH;exact hH.heap_eq rfl
  have hB1:Below B w w1:=by rcases hw1 with rfl|rfl;exact Below.refl _ _;exact (Below.refl _ _).drew
  have hsz1:w1.heap=w.heap:=by rcases hw1 with rfl|rfl<;>rfl
  have hlt1:I.real<w1.heap.size:=by rw [hsz1];exact (Array.getElem?_eq_some_iff.1 i4).1
  have hset:=hH1.setObj (o':= .iter m n (seen++[k])) hb i1 (w':={w1 with heap:=w1.heap.setIfInBounds I.real (.mapIter (some K.real) n (s.push e'.born) es.length)}) (ho:= .mapIter (some K.real) n (s.push e'.born) es.length) (by simp) (by simp [hlt1]) (fun z hz=>by rw [Array.getElem?_setIfInBounds_ne (Ne.symm hz)]) rfl
   ⟨⟨K,k1,rfl⟩,rfl,hn,by simp [k4,hbk]⟩ (Below.putObj i2 _)
  exact wpListIn_mono (fun e a w hp=>hp.lift (Mv.set i1 (hB1.trans (Below.putObj i2 _)) fun z hz=>by show (w1.heap.setIfInBounds _ _)[z]? =_;rw [Array.getElem?_setIfInBounds_ne (Ne.symm hz),hsz1])) _ _ _ (hnext k _ (by rw [←k4,←hbk];exact hen2.2) (List.getElem?_eq_getElem hk2) ro hro ops os' h2 σ _ _ hset (hF.put hdN (.tup (cs':=#[.bool true,e'.key,e'.val]) (.cons (.bool _) (.cons f2 (.cons f3 .nil))))))
end
def FnD (P:Program) (f:FuncId) (args:List VV) (H:Hp) (R:VV→Hp→Prop):Prop:=
 (∃fn,P.funcs[f]? =some fn∧(fn.name== "runtime.NumGoroutine")=false∧fn.body.isSome=true)∧
 ∀σ B w (vs:Array Value),HRel P σ B H w→LRel σ args vs.toList→CallsDIn Fence.wide 0 P f vs .returning w fun e u w'=>u= .returning∧Ret P B σ w R e w'
def DRun (P:Program):List VV→Hp→(Hp→Prop)→Prop
 |[],H,Q=>Q H
 | .tup (.fn f caps::as)::ds,H,Q=>FnD P f (as++caps) H fun _ H'=>DRun P ds H' Q
 | .map (some b)::ds,H,Q=>H[b]? =some (.obj (.defs false))∧DRun P ds (H.set b (.obj (.defs true))) Q
 |_::_,_,_=>False
def Fr.dl (F:Fr):List VV:=match F.get dslot with|some (.tup l)=>l|_=>[]
section
variable {P:Program} {B N:Nat} {H:Hp} {w:World} {σ:Sg}
theorem invoke_run {f:FuncId} {fn:Func} {cap args:Array Value} {w:World} (hf:P.funcs[f]? =some fn) (hn:(fn.name== "runtime.NumGoroutine")=false) (hb:fn.body.isSome=true):(invoke (.fn (.func f) cap) args).run P w= .ok (.enter f (args++cap)) w:=by
 have hb': ¬fn.body=none:=by intro hh;rw [hh] at hb;cases hb
 have hn': ¬fn.name= "runtime.NumGoroutine" :=by simpa using hn
 simp [invoke,callFunc,hf,hn',hb']
theorem leaves_ok {fn:Func} {tmps:Array Value} {R:Ending→World→Prop} {Q:Hp→Prop} {σ0:Sg} {w0:World} (hfin: ∀σ H w,Mv B σ0 σ w0 w→HRel P σ B H w→Q H→ ∃v,(results fn tmps).run P w= .ok v w∧R (.returned v) w):
 ∀(l:List VV) (m:List Deferred) (H:Hp) (w:World) (σ:Sg),Mv B σ0 σ w0 w→HRel P σ B H w→DItems σ l m→DRun P l H Q→LeavesInM Fence.wide 0 P fn tmps R m .returning w
 |[],m,H,w,σ,hm,hH,hi,hd=>by
  cases hi
  exact hfin σ H w hm hH hd
 |v::l,m,H,w,σ,hm,hH,hi,hd=>by
  cases hi with
  |cons hx ht=>
  refine ⟨by simp,?_⟩
  cases hx with
  |mark hb=>
   rename_i ms b I
   left
   obtain ⟨h1,h2⟩:=hd
   obtain ⟨J,ho,j1,j2,j3,j4,j5⟩:=hH.objs _ _ h1
   have:J=I:=Option.some.inj (j1.symm.trans hb)
   subst this
   cases ho<;>simp only [ObRel] at j5
   rename_i o
   subst j5
   simp only [Bool.false_eq_true,if_false] at j4
   have hlt:J.real<w.heap.size:=(Array.getElem?_eq_some_iff.1 j4).1
   have hset:=hH.setObj (o':= .defs true) h1 hb (w':={w with heap:=w.heap.setIfInBounds J.real (.deferred none)}) (ho:= .deferred none) (by simp) (by simp [hlt]) (fun z hz=>by rw [Array.getElem?_setIfInBounds_ne (Ne.symm hz)]) rfl rfl (Below.putObj j2 _)
   have hmv:Mv B σ σ w {w with heap:=w.heap.setIfInBounds J.real (.deferred none)}:=Mv.set hb (Below.putObj j2 _) fun z hz=>by rw [Array.getElem?_setIfInBounds_ne (Ne.symm hz)]
   refine ⟨J.real,_,rfl,?_,leaves_ok hfin l ms _ _ σ (hm.trans hmv) hset ht h2⟩
   simp [Instr.takeDeferred,getObj,setObj,Sem.run,j4,Result.andThen]
  |call hc ha=>
   rename_i ms f caps args cap' arg'
   right
   refine ⟨by simp [Fence.wide],?_⟩
   obtain ⟨⟨fn',hf,hn,hb⟩,hcall⟩:=hd
   have hl:LRel σ (args++caps) (arg'++cap').toList:=by rw [Array.toList_append];exact ha.append hc
   refine ⟨.func f,cap',f,arg'++cap',rfl,invoke_run hf hn hb,fun g _=>trivial,?_⟩
   refine CallsDIn.mono (hcall σ B w _ hH hl) fun e u w' ⟨hu,r,v',H',σ',q1,q2,q3,q4,q5⟩=> ?_
   subst hu;subst q1
   exact leaves_ok hfin l ms H' w' σ' (hm.trans q4) q5 (ht.mono q4.le) q3
theorem DRel.items {F:Fr} {m:List Deferred} (h:DRel σ (F.get dslot) m):DItems σ F.dl m:=by
 unfold Fr.dl
 generalize F.get dslot=x at h
 cases h with
 |none=>exact .nil
 |some h=>exact h
theorem entry_frame {n:Nat} {args:List VV} {vs:Array Value} (hH:HRel P σ B H w) (hargs:LRel σ args vs.toList) (hl:args.length≤n) (hN:n≤dslot):FRel σ n (argsF 0 args) {tmps:=vs++Array.replicate (n-vs.size) undef,defers:=[]}:=by
 have hvl:vs.size=args.length:=by have:=hargs.length;simpa using this.symm
 refine ⟨by simp;omega,⟨hN,hH.glob⟩,?_,fun s v _ e=> ?_⟩
 ·cases h:(argsF 0 args).get dslot with
  |none=>exact .none
  |some v=>
   obtain ⟨_,h2⟩:=argsF_get args 0 dslot v h
   have:=(List.getElem?_eq_some_iff.1 h2).1
   omega
 ·obtain ⟨_,h2⟩:=argsF_get args 0 s v e
  obtain ⟨v',r1,r2⟩:=hargs.get h2
  simp at r1
  have hs:s<vs.size:=(Array.getElem?_eq_some_iff.1 r1).1
  rw [Array.getD_eq_getD_getElem?,Array.getElem?_append_left hs,r1]
  exact r2
theorem FnV.enter {f:FuncId} {fn:Func} {c:Code} {vc:VC} {K:Nat→Nat} {args:List VV} {rs:List RV} {R:VV→Hp→Prop} (hf:P.funcs[f]? =some fn) (hn:(fn.name== "runtime.NumGoroutine")=false) (hb:fn.body=some c)
 (hc:compC P fn.ntmps K c=some vc) (hr:compR P fn.results.toList=some rs) (hl:args.length≤fn.ntmps) (hN:fn.ntmps≤dslot)
 (h: ∀B,VW P B fn.ntmps false vc (argsF 0 args) H fun e F' H'=>(e= .ret∨e= .normal)∧DRun P F'.dl H' fun H2=> ∃r,resV F' H2.g rs=some r∧R r H2):FnV P f args H R:=by
 refine ⟨⟨fn,hf,hn,by rw [hb];rfl⟩,fun σ B w vs hH hargs=> ?_⟩
 refine callsIn_wide.1 (callsIn_of_wp_marks (F:=Fence.wide) (n:=0) hf hb trivial (wpIn_mono (h B none (fun _=>rfl) K c hc σ w _ hH (entry_frame hH hargs hl hN)) ?_))
 intro e a' w' hp
 obtain ⟨F',H',σ',⟨he,hd⟩,q1,q2,q3⟩:=hp
 have key:LeavesInM Fence.wide 0 P fn a'.tmps (Ret P B σ w R) a'.defers .returning w':=by
  refine leaves_ok (σ0:=σ') (w0:=w') (fun σ2 H2 w2 hm hH2 hq=> ?_) _ _ H' w' σ' (Mv.refl _ _ _) q2 q3.2.2.1.items hd
  obtain ⟨r,hr1,hr2⟩:=hq
  have hF2:FRel σ2 fn.ntmps F' a':=q3.mono hm.le
  obtain ⟨v',s1,s2⟩:=resV_ok hH2 hF2 hr hr1
  exact ⟨v',s2,r,v',H2,σ2,rfl,s1,hr2,q1.trans hm,hH2⟩
 rcases he with rfl|rfl<;>exact key
theorem FnD.enter {f:FuncId} {fn:Func} {c:Code} {vc:VC} {K:Nat→Nat} {args:List VV} {rs:List RV} {R:VV→Hp→Prop} (hf:P.funcs[f]? =some fn) (hn:(fn.name== "runtime.NumGoroutine")=false) (hb:fn.body=some c)
 (hc:compC P fn.ntmps K c=some vc) (hr:compR P fn.results.toList=some rs) (hl:args.length≤fn.ntmps) (hN:fn.ntmps≤dslot)
 (h: ∀B,VW P B fn.ntmps false vc (argsF 0 args) H fun e F' H'=>(e= .ret∨e= .normal)∧F'.get dslot=none∧ ∃r,resV F' H'.g rs=some r∧R r H'):FnD P f args H R:=by
 refine ⟨⟨fn,hf,hn,by rw [hb];rfl⟩,fun σ B w vs hH hargs=> ?_⟩
 refine callsDIn_of_wp hf hb trivial (wpIn_mono (h B none (fun _=>rfl) K c hc σ w _ hH (entry_frame hH hargs hl hN)) ?_)
 intro e a' w' hp
 obtain ⟨F',H',σ',⟨he,hd,r,hr1,hr2⟩,q1,q2,q3⟩:=hp
 have hdef:a'.defers=[]:=by
  have:=q3.2.2.1
  rw [hd] at this
  cases hx:a'.defers with
  |nil=>rfl
  |cons _ _=>rw [hx] at this;cases this
 obtain ⟨v',s1,s2⟩:=resV_ok q2 q3 hr hr1
 rcases he with rfl|rfl<;>exact ⟨hdef,v',s2,r,v',H',σ',rfl,s1,hr2,q1,q2⟩
theorem FnD.rcv {f:FuncId} {fn:Func} {c:Code} {y:VC} {d d2 keep:Nat} {K:Nat→Nat} {args:List VV} {rs:List RV} {R:VV→Hp→Prop} (hf:P.funcs[f]? =some fn) (hn:(fn.name== "runtime.NumGoroutine")=false) (hb:fn.body=some c)
 (hc:compC P fn.ntmps K c=some (.seq (.reg [.rcv d none,.rd d2 none (.mv (.t d))] keep) y)) (hr:compR P fn.results.toList=some rs) (hl:args.length≤fn.ntmps) (hN:fn.ntmps≤dslot)
 (h: ∀B,VW P B fn.ntmps false y (Fr.only ((d2,.nilI)::(d,.nilI)::argsF 0 args) keep) H fun e F' H'=>(e= .ret∨e= .normal)∧F'.get dslot=none∧ ∃r,resV F' H'.g rs=some r∧R r H'):FnD P f args H R:=by
 refine ⟨⟨fn,hf,hn,by rw [hb];rfl⟩,fun σ B w vs hH hargs=> ?_⟩
 refine callsDIn_of_wpSIn hf hb trivial fun c₀ cs hmode=> ?_
 obtain ⟨c',hp,c1,c2,rfl,h1,h2⟩:=compC_inv hc
 refine hp.2 _ _ _ _ _ _ (wpSIn_seq ?_)
 obtain ⟨c1',hp1,id,ops,rfl,hcl⟩:=compC_inv h1
 refine hp1.2 _ _ _ _ _ _ (wpSIn_region ?_)
 have hfr:=entry_frame hH hargs hl hN
 generalize hA:({tmps:=vs++Array.replicate (fn.ntmps-vs.size) undef,defers:=[]}:Act)=a at hfr ⊢
 obtain ⟨o1,os1,e1,i1,hcl1⟩:=compL_cons hcl
 obtain ⟨o2,os2,e2,i2,hcl2⟩:=compL_cons hcl1
 have e3:os2=[]:=by
  cases os2 with
  |nil=>rfl
  |cons o os=>unfold compL at hcl2;split at hcl2<;>cases hcl2
 have hops:ops=#[o1,o2]:=by
  have:ops.toList=[o1,o2]:=by rw [e1,e2,e3]
  rw [←Array.toArray_toList (xs:=ops),this]
 subst hops
 obtain ⟨hd1,hg1,hdst1,cc,hop1,hcal1⟩:=compI_inv i1
 obtain ⟨hd2,hg2,hdst2,hop2⟩:=compI_inv i2
 have hop2:compRead P o2.op=some (.mv (.t d)):=hop2
 have hdN:d<fn.ntmps:=by rw [hdst1] at hd1;simpa [dstOk,VI.ds] using hd1
 have hd2N:d2<fn.ntmps:=by rw [hdst2] at hd2;simpa [dstOk,VI.ds] using hd2
 have hdd:d≠dslot:=by omega
 have hrec:recoverD (c₀::cs)=none:=by simp [recoverD,hmode]
 have hrange:List.range (#[o1,o2]:Array Oper).size=[0,1]:=rfl
 rw [hrange]
 have hF1:FRel σ fn.ntmps ((d,.nilI)::argsF 0 args) (a.put o1.dst .nilIface):=by rw [hdst1];exact hfr.put hdN .nilI
 obtain ⟨v',hv',hrun2⟩:=read_ok hop2 hH hF1 (v:= .nilI) (by simp [VOp.ev,Od.ev,Fr.get_cons])
 have hF2:FRel σ fn.ntmps ((d2,.nilI)::(d,.nilI)::argsF 0 args) ((a.put o1.dst .nilIface).put o2.dst v'):=by rw [hdst2];exact hF1.put hd2N hv'
 have hrun1:(execOp a.eval o1).run P w= .ok .recover w:=by
  simp [execOp,hop1,resolve,hcal1,Deferred.ofValue,invoke,builtin]
 have hw1:Region.wanted o1 (yielded #[o1,o2] a.tmps)=true:=want_ok hg1 hfr rfl
 have hw2:Region.wanted o2 (yielded #[o1,o2] (a.put o1.dst .nilIface).tmps)=true:=want_ok hg2 hF1 rfl
 simp only [wpOpsSIn,List.getElem?_toArray,List.getElem?_cons_zero,List.getElem?_cons_succ,hw1,hw2,if_true,hrun1,hrec,hrun2 w (Below.refl _ _)]
 refine ⟨fun _ _=>trivial,fun _ _=>trivial,?_⟩
 refine wpSIn_of_wpIn rfl (wpIn_mono (h B none (fun _=>rfl) K c2 h2 σ w _ hH (hF2.only keep)) ?_)
 intro e a' w' hp
 obtain ⟨F',H',σ',⟨he,hd,r,hr1,hr2⟩,q1,q2,q3⟩:=hp
 have hdef:a'.defers=[]:=by
  have:=q3.2.2.1
  rw [hd] at this
  cases hx:a'.defers with
  |nil=>rfl
  |cons _ _=>rw [hx] at this;cases this
 obtain ⟨v',s1,s2⟩:=resV_ok q2 q3 hr hr1
 have hc0:c₀::cs={c₀ with mode:= .returning}::cs:=by rw [←hmode]
 rcases he with rfl|rfl<;>exact ⟨hdef,.returning,hc0,v',s2,rfl,r,v',H',σ',rfl,s1,hr2,q1,q2⟩
end
section
variable {P:Program} {B N:Nat} {H:Hp} {w:World} {σ:Sg}
theorem getLoop_run {l:Nat} {R:Loop} {w:World} (h:w.heap[l]? =some (.loop R)):(Instr.getLoop l).run P w= .ok R w:=by
 simp [Instr.getLoop,getObj,Sem.run,h,Result.andThen]
theorem setObj_run {l:Nat} {R:Loop} {o':Obj} {w:World} (h:w.heap[l]? =some (.loop R)):(setObj l o').run P w= .ok () {w with heap:=w.heap.setIfInBounds l o'}:=by
 simp [setObj,Sem.run,h]
theorem loop_at (hH:HRel P σ B H w) {b:Nat} {r:LoopR} {I:Info} (hb:H[b]? =some (.obj (.loop r))) (hI:σ b=some I):B≤I.real∧ ∃R,w.heap[I.real]? =some (.loop R)∧LoopRel P σ r R:=by
 obtain ⟨J,ho,j1,j2,j3,j4,j5⟩:=hH.objs _ _ hb
 have:J=I:=Option.some.inj (j1.symm.trans hI)
 subst this
 cases ho<;>simp only [ObRel] at j5
 exact ⟨j2,_,j4,j5⟩
theorem loop_set (hH:HRel P σ B H w) {b:Nat} {r r':LoopR} {I:Info} (hb:H[b]? =some (.obj (.loop r))) (hI:σ b=some I) {R':Loop} (hR:LoopRel P σ r' R') (hB:B≤I.real) {R0:Loop} (h0:w.heap[I.real]? =some (.loop R0)):
 HRel P σ B (H.set b (.obj (.loop r'))) {w with heap:=w.heap.setIfInBounds I.real (.loop R')}∧Mv B σ σ w {w with heap:=w.heap.setIfInBounds I.real (.loop R')}:=by
 have hlt:I.real<w.heap.size:=(Array.getElem?_eq_some_iff.1 h0).1
 exact ⟨hH.setObj hb hI (ho:= .loop R') (by simp) (by simp [hlt]) (fun z hz=>by rw [Array.getElem?_setIfInBounds_ne (Ne.symm hz)]) rfl hR (Below.putObj hB _),Mv.set hI (Below.putObj hB _) fun z hz=>by rw [Array.getElem?_setIfInBounds_ne (Ne.symm hz)]⟩
theorem zip_frame: ∀(ps:List Nat) (vs:List VV) (vs':List Value) (E F:Fr) (a:Act) (n:Nat),zipF ps vs E=some F→(∀s∈ps,s<n)→LRel σ vs vs'→FRel σ n E a→
 vs'.length=ps.length∧FRel σ n F {a with tmps:=(ps.zip vs').foldl (fun t p=>t.setIfInBounds p.1 p.2) a.tmps}
 |[],[],vs',E,F,a,n,h,hp,hl,hF=>by cases hl;simp [zipF] at h;subst h;exact ⟨rfl,hF⟩
 |[],_::_,_,_,_,_,_,h,_,_,_=>by simp [zipF] at h
 |_::_,[],_,_,_,_,_,h,_,_,_=>by simp [zipF] at h
 |s::ps,v::vs,vs',E,F,a,n,h,hp,hl,hF=>by
  cases hl with
  |cons h1 h2=>
   simp only [zipF] at h
   obtain ⟨q1,q2⟩:=zip_frame ps vs _ ((s,v)::E) F (a.put (some s) _) n h (fun t ht=>hp t (by simp [ht])) h2 (hF.put (hp s (by simp)) h1)
   refine ⟨by simp [q1],?_⟩
   simpa [Act.put] using q2
theorem YldV.round {b:Nat} {r:LoopR} {args:List VV} {F:Fr} {R:VV→Hp→Prop} (hb:H[b]? =some (.obj (.loop r))) (hst:r.st=0) (hz:zipF r.ps args r.E=some F)
 (h: ∀B N,VW P B N true r.va F H fun e F1 H1=>e= .normal∧ ∃r1,H1[b]? =some (.obj (.loop r1))∧r1.st=0∧VW P B N true r.vb F1 (H1.set b (.obj (.loop {r1 with st:=2}))) fun e F2 H2=> ∃r2,H2[b]? =some (.obj (.loop r2))∧
  ((e= .normal∧R (.bool true) (H2.set b (.obj (.loop {r2 with st:=0,pend:=none}))))∨(e= .ret∧R (.bool false) (H2.set b (.obj (.loop {r2 with st:=1,pend:=some .ret}))))∨
    ∃i,e= .exit i∧R (.bool false) (H2.set b (.obj (.loop {r2 with st:=1,pend:=some (.exit i)}))))):YldV P b args H R:=by
 intro σ B w vs I hH hargs hI
 obtain ⟨hB,R0,g1,hR0⟩:=loop_at hH hb hI
 obtain ⟨l1,l2,l3,l4,l5,⟨n,n1,n2,n3,⟨Ka,n4⟩,⟨Kb,n5⟩⟩,l6⟩:=hR0
 have hF0:FRel σ n r.E {tmps:=R0.tmps,defers:=[]}:=⟨n1,⟨n2,hH.glob⟩,by rw [l4];exact .none,fun s v _ e=>l5 s v e⟩
 obtain ⟨z1,z2⟩:=zip_frame r.ps args vs.toList r.E F _ n hz n3 hargs hF0
 have hsz:vs.size=R0.params.size:=by
  have:R0.params.size=r.ps.length:=by rw [←l3];simp
  rw [this,←z1];simp
 refine ⟨R0.fn,(R0.params.zip vs).foldl (fun tmps (t,a)=>tmps.setIfInBounds t a) R0.tmps,R0.assign,R0.body,?_,?_⟩
 ·simp [Instr.yield,getLoop_run g1,hsz,Result.andThen]
 have htm:(R0.params.zip vs).foldl (fun tmps (t,a)=>tmps.setIfInBounds t a) R0.tmps=(r.ps.zip vs.toList).foldl (fun t p=>t.setIfInBounds p.1 p.2) R0.tmps:=by
  rw [←l3,←Array.toList_zip,Array.foldl_toList]
 refine roundIn_of_wpIn trivial ?_
 rw [htm]
 refine wpIn_mono (h B n (some I.real) (fun e=>by cases e) Ka _ n4 σ w _ hH z2) ?_
 intro e a1 w1 hp
 obtain ⟨F1,H1,σ1,⟨he,r1,hb1,hst1,hbody⟩,q1,q2,q3⟩:=hp
 subst he
 have hI1:=q1.le _ _ hI
 obtain ⟨hB1,R1,g2,hR1⟩:=loop_at q2 hb1 hI1
 obtain ⟨m1,m2,m3,m4,m5,m6,m7⟩:=hR1
 have hRb:LoopRel P σ1 {r1 with st:=2} {R1 with state:= .busy}:=⟨rfl,m2,m3,m4,m5,m6,m7⟩
 obtain ⟨s1,s2⟩:=loop_set q2 hb1 hI1 hRb hB1 g2
 refine ⟨_,?_,wpIn_mono (hbody (some I.real) (fun e=>by cases e) Kb _ n5 σ1 _ a1 s1 (q3.mono s2.le)) ?_⟩
 ·have:R1.state= .ready:=by rw [m1,hst1];rfl
  simp only [Instr.beginRound,Sem.run_bind,getLoop_run g2,Result.andThen_ok,setObj_run g2,this,Sem.run_pure]
 intro e a2 w2 hp
 obtain ⟨F2,H2,σ2,⟨r2,hb2,hcase⟩,t1,t2,t3⟩:=hp
 have hI2:=t1.le _ _ (s2.le _ _ hI1)
 obtain ⟨hB2,R2,g3,hR2⟩:=loop_at t2 hb2 hI2
 obtain ⟨k1,k2,k3,k4,k5,k6,k7⟩:=hR2
 have fin: ∀(pe:Option VE) (jump:Option Code),jump=pendOf pe→R (.bool jump.isNone) (H2.set b (.obj (.loop {r2 with st:=if jump.isNone then 0 else 1,pend:=pe})))→ ∃v w',(Instr.endRound I.real jump).run P w2= .ok v w'∧Ret P B σ w R (.returned v) w':=by
  intro pe jump hj hR
  have hRe:LoopRel P σ2 {r2 with st:=if jump.isNone then 0 else 1,pend:=pe} {R2 with state:=if jump.isNone then .ready else .done,pending:=jump}:=⟨by cases jump<;>rfl,hj,k3,k4,k5,k6,k7⟩
  obtain ⟨u1,u2⟩:=loop_set t2 hb2 hI2 hRe hB2 g3
  refine ⟨.bool jump.isNone,_,?_,.bool jump.isNone,.bool jump.isNone,_,σ2,rfl,.bool _,hR,((q1.trans s2).trans t1).trans u2,u1⟩
  simp only [Instr.endRound,Sem.run_bind,getLoop_run g3,Result.andThen_ok,setObj_run g3,Sem.run_pure]
 rcases hcase with ⟨rfl,hR⟩|⟨rfl,hR⟩|⟨i,rfl,hR⟩
 ·exact fin none none rfl hR
 ·exact fin (some .ret) (some .ret) rfl hR
 ·exact fin (some (.exit i)) (some (.exit i)) rfl hR
def exOf:Option VE→Exit
 |none=> .normal
 |some e=>e.to
theorem VW.rfunc {f:Od} {ps:List Nat} {va vb:VC} {F:Fr} {Q:VQ} {fid:FuncId} {caps:List VV} (hf:f.ev F=some (.fn fid caps))
 (h:FnV P fid (.yield (H.length+1)::caps) ((H++[.obj (.defs false)])++[.obj (.loop ⟨0,none,0,0,F.del dslot,ps,va,vb,H.length⟩)]) fun _ H'=> ∃r,H'[H.length+1]? =some (.obj (.loop r))∧(r.st==2)=false∧
  Q (exOf r.pend) (F.defer (.map (some H.length))) (H'.set (H.length+1) (.obj (.loop {r with st:=3})))):VW P B N false (.rfunc f ps va vb) F H Q:=fun ro hro K c hc σ w a hH hF=>by
 obtain ⟨c',h0,g,ps',ca,cb,rfl,hg,hps,hlt,hca,hcb⟩:=compC_inv hc
 have:=hro rfl
 subst this
 refine h0.1 _ _ _ _ _ (wpIn_rangeFunc fun fn _=> ?_)
 obtain ⟨caps',e1,hcaps⟩:=fn_inv (compOd_ok hg hF hf)
 obtain ⟨p1,p2⟩:=hH.pushObj (.defs false) (.deferred (some [])) (by intro cur t fr h;cases h) (fun τ _=>rfl)
 have hs1:(w.alloc (.deferred (some []))).heap.size=w.heap.size+1:=by simp
 obtain ⟨p3,p4⟩:=p1.pushObj (.loop ⟨0,none,0,0,F.del dslot,ps,va,vb,H.length⟩) (.loop {state:= .ready,pending:=none,fn:=fn,tmps:=a.tmps,params:=ps',assign:=ca,body:=cb,defers:=w.heap.size}) (by intro cur t fr h;cases h) (fun τ hτ=>by
  refine ⟨rfl,rfl,hps,by rw [Fr.get_del,if_pos rfl],fun s v e=> ?_,⟨N,hF.1,hF.2.1.1,hlt,⟨K,hca⟩,⟨K,hcb⟩⟩,⟨w.heap.size,0,0,0,none⟩,hτ _ _ (Sg.push_self _ _ _),rfl⟩
  rw [Fr.get_del] at e
  split at e
  ·cases e
  ·rename_i hs
   exact (hF.2.2.2 s v (Ne.symm hs) e).mono (Sg.le_trans p2.le hτ))
 have hlen:(H++[Blk.obj (.defs false)]).length=H.length+1:=by simp
 rw [hlen,hs1] at p3 p4
 have hy:VRel _ (.yield (H.length+1)) (.func (.yield (w.heap.size+1)) #[] #[]):=VRel.yield (Sg.push_self (σ.push H.length ⟨w.heap.size,0,0,0,none⟩) (H.length+1) ⟨w.heap.size+1,0,0,0,none⟩)
 obtain ⟨⟨fn',hfn,hnm,hbody⟩,hcall⟩:=h
 have hle2:=p2.trans p4
 obtain ⟨W,hW⟩: ∃W,W=(w.alloc (.deferred (some []))).alloc (.loop {state:= .ready,pending:=none,fn:=fn,tmps:=a.tmps,params:=ps',assign:=ca,body:=cb,defers:=w.heap.size}):=⟨_,rfl⟩
 rw [←hW] at p3 p4 hle2
 refine ⟨w.heap.size+1,[{target:= .collected w.heap.size,args:=#[]}],W,{target:= .fn (.func fid) caps',args:=#[.func (.yield (w.heap.size+1)) #[] #[]]},W,fid,#[.func (.yield (w.heap.size+1)) #[] #[]]++caps',W,?_,?_,fun _ _=>trivial,?_,by simp [Fence.wide],?_⟩
 ·rw [hW];simp [Instr.enterLoop,newObj,Sem.run,Result.andThen];rfl
 ·simp [resolve,rangeCall,e1,Deferred.ofValue];simp [Act.eval]
 ·exact invoke_run hfn hnm hbody
 refine callsIn_wd.2 ((hcall _ B _ _ p3 (by rw [Array.toList_append];exact .cons hy (hcaps.mono hle2.le))).mono fun e w' ⟨r,v',H',σ',q1,q2,q3,q4,q5⟩=> ?_)
 subst q1
 obtain ⟨lr,hb,hst,hq⟩:=q3
 have hI:σ' (H.length+1)=some ⟨w.heap.size+1,0,0,0,none⟩:=q4.le _ _ (Sg.push_self _ _ _)
 obtain ⟨hB,R,g1,hR⟩:=loop_at q5 hb hI
 obtain ⟨l1,l2,l3,l4,l5,l6,l7⟩:=hR
 have hnb:(R.state== .busy)=false:=by
  rw [l1]
  have hne:lr.st≠2:=by simpa using hst
  unfold stOf
  split<;>first|rfl|(exfalso;omega)|skip
  all_goals first|rfl|exact absurd rfl hne
 have hRe:LoopRel P σ' {lr with st:=3} {R with state:= .exhausted}:=⟨rfl,l2,l3,l4,l5,l6,l7⟩
 obtain ⟨u1,u2⟩:=loop_set q5 hb hI hRe hB g1
 have hmv:=(hle2.trans q4).trans u2
 have hF':FRel σ' N (F.defer (.map (some H.length))) {a with defers:=[{target:= .collected w.heap.size,args:=#[]}]++a.defers}:=by
  have hF2:=hF.mono hmv.le
  have hitem:DItem σ' (.map (some H.length)) {target:= .collected w.heap.size,args:=#[]}:=DItem.mark (I:=⟨w.heap.size,0,0,0,none⟩) (q4.le _ _ (p4.le _ _ (Sg.push_self _ _ _)))
  refine ⟨hF2.1,hF2.2.1,?_,fun s v hs hv=> ?_⟩
  ·have hD:=hF2.2.2.1
   unfold Fr.defer
   cases hx:F.get dslot with
   |none=>rw [hx] at hD;simp only [Fr.get_cons,if_true];cases hD':a.defers with
    |nil=>exact .some (.cons hitem .nil)
    |cons _ _=>rw [hD'] at hD;cases hD
   |some u=>rw [hx] at hD;cases hD with|some hi=>simp only [Fr.get_cons,if_true];exact .some (.cons hitem hi)
  ·refine hF2.2.2.2 s v hs ?_
   unfold Fr.defer at hv
   split at hv<;>(rw [Fr.get_cons,if_neg (Ne.symm hs)] at hv;exact hv)
 have hend:(Instr.endLoop (w.heap.size+1)).run P w'= .ok R.pending {w' with heap:=w'.heap.setIfInBounds (w.heap.size+1) (.loop {R with state:= .exhausted})}:=by
  simp only [Instr.endLoop,Sem.run_bind,getLoop_run g1,Result.andThen_ok,hnb,Bool.false_eq_true,if_false,setObj_run g1,Sem.run_pure]
 refine ⟨R.pending,_,hend,?_⟩
 have post: ∀e,Q e (F.defer (.map (some H.length))) (H'.set (H.length+1) (.obj (.loop {lr with st:=3})))→Post P B N σ w Q e {a with defers:=[{target:= .collected w.heap.size,args:=#[]}]++a.defers} {w' with heap:=w'.heap.setIfInBounds (w.heap.size+1) (.loop {R with state:= .exhausted})}:=fun e hq=>⟨_,_,σ',hq,hmv,u1,hF'⟩
 generalize {w' with heap:=w'.heap.setIfInBounds (w.heap.size+1) (.loop {R with state:= .exhausted})}=w4 at post ⊢
 generalize H'.set (H.length+1) (.obj (.loop {lr with st:=3}))=H4 at post hq
 rw [l2]
 generalize lr.pend=pe at hq
 cases pe with
 |none=>exact post _ hq
 |some e=>
  cases e with
  |normal=>exact wpIn_skip (post _ hq)
  |ret=>exact wpIn_ret (post _ hq)
  |exit i=>exact wpIn_exit (post _ hq)
end
end Go.Wm
end
section
namespace Go.Wm
set_option linter.unusedVariables false
set_option linter.unusedSimpArgs false
def VOp.evF:VOp→Fr→Gt→Option VV
 | .mv x=>fun E H=>x.ev E
 | .pick c a b=>fun E H=>match c.ev E with|some (.bool b')=>if b' then a.ev E else b.ev E|_=>none
 | .load n ag x=>fun E H=>match x.ev E with|some (.ptr (some p))=>if ag then (match lds H p n with|some l=>some (.agg l)|none=>none) else ld H p|_=>none
 | .nilck x=>fun E H=>match x.ev E with|some (.ptr (some p))=>some (.ptr (some p))|some (.fn f c)=>some (.fn f c)|some (.yield b)=>some (.yield b)|some (.ifc t v)=>some (.ifc t v)|_=>none
 | .bin op x y=>fun E H=>match x.ev E,y.ev E with|some u,some v=>Wm.bin op u v|_,_=>none
 | .sh left x y=>fun E H=>match x.ev E,y.ev E with
   |some (.int k a),some (.int _ b)=>if 0≤b then some (.int k (if left then wrapK k (a*((2 ^ (min b.toNat k.bits):Nat):Int)) else a.fdiv ((2 ^ (min b.toNat k.bits):Nat):Int))) else none
   |_,_=>none
 | .beq ng x y=>fun E H=>match x.ev E,y.ev E with|some (.bool b),some (.bool c)=>some (.bool (if ng then b !=c else b==c))|_,_=>none
 | .not x=>fun E H=>match x.ev E with|some (.bool b)=>some (.bool !b)|_=>none
 | .conv k x=>fun E H=>match x.ev E with|some (.int _ n)=>some (.int k (wrapK k n))|_=>none
 | .mkfn f caps=>fun E H=>match Od.evs E caps with|some l=>some (.fn f l)|none=>none
 | .faddr off x=>fun E H=>match x.ev E with|some (.ptr (some p))=>some (.ptr (some ⟨p.blk,p.idx,p.off+off⟩))|_=>none
 | .fld off n ag x=>fun E H=>match x.ev E with|some (.agg cs)=>partOf cs off n ag|_=>none
 | .ixa esz x i=>fun E H=>match x.ev E,i.ev E with
   |some (.sl (some p) m _),some (.int _ k)=>if inRng k m=true then (match ixp H p k.toNat esz with|some q=>some (.ptr (some q))|none=>none) else none
   |_,_=>none
 | .ixar m esz x i=>fun E H=>match x.ev E,i.ev E with
   |some (.ptr (some p)),some (.int _ k)=>if inRng k m=true then (match ixp H p k.toNat esz with|some q=>some (.ptr (some q))|none=>none) else none
   |_,_=>none
 | .lens x=>fun E H=>match x.ev E with|some (.sl _ m _)=>some (.int .i64 m)|_=>none
 | .lent x=>fun E H=>match x.ev E with|some (.str s)=>some (.int .i64 s.length)|_=>none
 | .lenm x=>fun E H=>match x.ev E with|some u=>(match mapOf H u with|some es=>some (.int .i64 es.length)|none=>none)|_=>none
 | .min2 x y=>fun E H=>match x.ev E,y.ev E with|some (.int k a),some (.int _ b)=>some (.int k (if b<a then b else a))|_,_=>none
 | .max2 x y=>fun E H=>match x.ev E,y.ev E with|some (.int k a),some (.int _ b)=>some (.int k (if b>a then b else a))|_,_=>none
 | .ext i x=>fun E H=>match x.ev E with|some (.tup vs)=>vs[i]? |_=>none
 | .build zs ps=>fun E H=>match fillVV E zs ps with|some cs=>some (.agg cs)|none=>none
 | .slc esz x lo hi mx=>fun E H=>match x.ev E with
   |some (.sl q m c)=>match Od.oev E 0 lo,Od.oev E m hi,Od.oev E c mx with
    |some l,some h,some k=>slcV H esz q m c l h k mx.isSome
    |_,_,_=>none
   |_=>none
 | .slstr x lo hi=>fun E H=>match x.ev E with
   |some (.str s)=>match Od.oev E 0 lo,Od.oev E s.length hi with
    |some l,some h=>if 0≤l∧l≤h∧h≤s.length then some (.str ((s.take h.toNat).drop l.toNat)) else none
    |_,_=>none
   |_=>none
 | .ixs x i=>fun E H=>match x.ev E,i.ev E with
   |some (.str s),some (.int _ k)=>if 0≤k then (match s[k.toNat]? with|some b=>some (.int .u8 b.toNat)|none=>none) else none
   |_,_=>none
 | .lkp kk z ok x k=>fun E H=>match x.ev E,k.ev E with
   |some u,some v=>match mapOf H u with
    |some es=>if kk.is v=true then (match findV kk v es 0 with
     |some (some (_,y))=>some (if ok then .tup [y,.bool true] else y)
     |some none=>some (if ok then .tup [z,.bool false] else z)
     |none=>none) else none
    |none=>none
   |_,_=>none
 | .ent x=>fun E H=>match x.ev E with
   |some (.ptr (some p))=>match H p.blk with
    |some (.obj (.iter m n seen))=>match seen.getLast?,H m with
     |some k,some (.obj (.map es))=>if es.length=n∧p.idx=0∧p.off=0 then (match es[k]? with|some e=>some (.tup [e.1,e.2])|none=>none) else none
     |_,_=>none
    |_=>none
   |_=>none
 | .aeq ng ks x y=>fun E H=>match x.ev E,y.ev E with
   |some (.agg cs),some (.agg ds)=>match aeqK ks cs ds with|some b=>some (.bool (if ng then !b else b))|none=>none
   |_,_=>none
 | .neq kd ng x y=>fun E H=>match x.ev E,y.ev E with
   |some u,some v=>match neqV H kd u v with|some b=>some (.bool (if ng then !b else b))|none=>none
   |_,_=>none
 | .seq op x y=>fun E H=>match x.ev E,y.ev E with
   |some (.str a),some (.str b)=>strOp op a b
   |_,_=>none
 | .neg x=>fun E H=>match x.ev E with|some (.int k n)=>some (.int k (wrapK k (ineg n)))|_=>none
 | .chr x=>fun E H=>match x.ev E with|some (.int _ n)=>if 0≤n∧n<128 then some (.str [UInt8.ofNat n.toNat]) else some (.str (Utf8.encode n).data.toList)|_=>none
 | .bstr x=>fun E H=>match x.ev E with
   |some (.sl q m c)=>match srcEls H 1 (.sl q m c) with
    |some l=>match bytesOf l with|some s=>some (.str s)|none=>none
    |none=>none
   |_=>none
 | .ixb x y=>fun E H=>match x.ev E,y.ev E with
   |some (.str s),some (.int .u8 c)=>some (.int .i64 (idxOf8 (UInt8.ofNat c.toNat) s 0))
   |_,_=>none
 | .mki t x=>fun E H=>match x.ev E with|some v=>some (.ifc t v)|none=>none
 | .capm x=>fun E H=>match x.ev E with
   |some (.sl none _ _)=>some (.int .i64 0)
   |some (.sl (some p) _ c)=>match H p.blk with
    |some (.row _ .ro _)|some (.row _ .own _)=>some (.int .i64 c)
    |_=>none
   |_=>none
 | .s2a n x=>fun E H=>match x.ev E with|some (.sl (some p) m _)=>if 0<n∧n≤m then some (.ptr (some p)) else none|_=>none
 | .lda n x=>fun E H=>match x.ev E with
   |some (.ptr (some p))=>match lds H p n with
    |some l=>some (.agg l)
    |none=>match H p.blk with
     |some (.obj (.bytes s))=>if p.idx=0∧p.off=0∧n≤s.length then some (.agg ((s.take n).map fun b=> .int .u8 b.toNat)) else none
     |_=>none
   |_=>none
def VEf.evF:VEf→Fr→Gt→Nat→Option (VV×Up)
 | .store m x v=>fun E H n=>match x.ev E,v.ev E with
   |some (.ptr (some p)),some u=>if u.defd=true∧u.cells.length=m then (match stc H p u.cells with|some us=>some (.undef,us)|none=>none) else none
   |_,_=>none
 | .alloc t zs=>fun E H n=>some (.ptr (some ⟨n,0,0⟩),[(n,.row t .own [zs])])
 | .box t x=>fun E H n=>match x.ev E with
   |some u=>if u.defd=true∧okCells u.cells=true then some (.ptr (some ⟨n,0,0⟩),[(n,.row t .own [u.cells])]) else none
   |none=>none
 | .mkrow t zs m ps=>fun E H n=>match fillRows E zs.length (List.replicate m zs) ps with
   |some es=>some (.sl (some ⟨n,0,0⟩) m m,[(n,.row t .own es)])
   |none=>none
 | .mksl t bytes zs m c=>fun E H n=>match m.ev E,c.ev E with
   |some (.int .i64 l),some (.int .i64 k)=>if 0≤l∧l≤k∧(bytes:Int)*k≤281474976710656∧k≤4611686018427387904 then some (.sl (some ⟨n,0,0⟩) l.toNat k.toNat,[(n,.row t .own (List.replicate k.toNat zs))]) else none
   |_,_=>none
 | .app t z bytes s x=>fun E H n=>match s.ev E,x.ev E with
   |some (.sl q len cap),some u=>match srcEls H z u with
    |some news=>appV H n t z bytes q len cap news
    |none=>none
   |_,_=>none
 | .mkmap=>fun E H n=>some (.map (some n),[(n,.obj (.map []))])
 | .mset kk x k v=>fun E H n=>match x.ev E,k.ev E,v.ev E with
   |some (.map (some b)),some kv,some u=>if kk.is kv=true then (match H b with
    |some (.obj (.map es))=>match findV kk kv es 0 with
     |some (some (i,_))=>some (.undef,[(b,.obj (.map (es.set i (kv,u))))])
     |some none=>some (.undef,[(b,.obj (.map (es++[(kv,u)])))])
     |none=>none
    |_=>none) else none
   |_,_,_=>none
 | .rng x=>fun E H n=>match x.ev E with
   |some (.map (some b))=>match H b with
    |some (.obj (.map es))=>some (.ptr (some ⟨n,0,0⟩),[(n,.obj (.iter b es.length []))])
    |_=>none
   |_=>none
 | .copy z d s=>fun E H n=>match d.ev E,s.ev E with
   |some (.sl q len cap),some u=>match srcEls H z u with
    |some els=>if els.length≤len then
     (match q with
     |none=>some (.int .i64 0,[])
     |some p=>match H p.blk with
      |some (.row t' md (e::es))=>if md≠ .ro∧p.off=0∧e.length=z∧p.idx+els.length≤es.length+1 then
       some (.int .i64 els.length,[(p.blk,.row t' md (updRows (e::es) p.idx els))]) else none
      |_=>none) else none
    |none=>none
   |_,_=>none
 | .ment kk z x k=>fun E H n=>match x.ev E,k.ev E with
   |some (.map (some b)),some kv=>if kk.is kv=true then (match H b with
    |some (.obj (.map es))=>match findV kk kv es 0 with
     |some (some (i,v))=>some (.tup [v,.int .i64 i],[(b,.obj (.map (es.set i (kv,v))))])
     |some none=>some (.tup [z,.int .i64 es.length],[(b,.obj (.map (es++[(kv,z)])))])
     |none=>none
    |_=>none) else none
   |_,_=>none
 | .mput x s v=>fun E H n=>match x.ev E,s.ev E,v.ev E with
   |some (.map (some b)),some (.int _ i),some u=>match H b with
    |some (.obj (.map es))=>if 0≤i then (match es[i.toNat]? with|some e=>some (.undef,[(b,.obj (.map (es.set i.toNat (e.1,u))))])|none=>none) else none
    |_=>none
   |_,_,_=>none
 | .srng x=>fun E H n=>match x.ev E with
   |some (.str s)=>some (.ptr (some ⟨n,0,0⟩),[(n,.obj (.siter s 0))])
   |_=>none
 | .snext x=>fun E H n=>match x.ev E with
   |some (.ptr (some p))=>match H p.blk with
    |some (.obj (.siter s pos))=>if p.idx=0∧p.off=0 then (match s[pos]? with
     |some b=>if b.toNat<128 then some (.tup [.bool true,.int .i64 pos,.int .i32 b.toNat],[(p.blk,.obj (.siter s (pos+1)))]) else some (.tup [.bool true,.int .i64 pos,.int .i32 (Utf8.decode ⟨s.toArray⟩ pos).1],[(p.blk,.obj (.siter s (pos+(Utf8.decode ⟨s.toArray⟩ pos).2)))])
     |none=>some (.tup [.bool false],[])) else none
    |_=>none
   |_=>none
 | .ustr e x m=>fun E H n=>match x.ev E,m.ev E with
   |some (.ptr (some p)),some (.int .i64 k)=>if p.idx=0∧p.off=0∧0<k then (match H p.blk with
    |some (.row t .own es)=>if (es.length:Int)=k∧t=e∧k≤4611686018427387904∧okBytes es=true then (match bytesOf es with|some s=>some (.str s,[(p.blk,.dead)])|none=>none) else none
    |_=>none) else none
   |_,_=>none
 | .appz t zs bytes s m=>fun E H n=>match s.ev E,m.ev E with
   |some (.sl none _ _),some (.int .i64 k)=>if 0<k∧k.toNat*bytes≤140737488355328∧k≤4611686018427387904 then some (.sl (some ⟨n,0,0⟩) k.toNat k.toNat,[(n,.row t .loose (List.replicate k.toNat zs))]) else none
   |_,_=>none
 | .resl m x=>fun E H n=>match x.ev E with
   |some (.ptr (some p))=>if p.idx=0∧p.off=0 then (match H p.blk with
    |some (.row t .own [cs])=>if cs.length=m∧0<m then some (.sl (some ⟨n,0,0⟩) m m,[(p.blk,.dead),(n,.row t .own (cs.map fun c=>[c]))]) else none
    |_=>none) else none
   |_=>none
 | .sbytes x=>fun E H n=>match x.ev E with
   |some (.str s)=>some (.sl (some ⟨n,0,0⟩) s.length s.length,[(n,.obj (.bytes s))])
   |_=>none
theorem VOp.evF_eq (x:VOp) (E:Fr) (H:Gt):x.evF E H=x.ev E H:=by cases x<;>rfl
theorem VEf.evF_eq (x:VEf) (E:Fr) (H:Gt) (n:Nat):x.evF E H n=x.ev E H n:=by cases x<;>rfl
section
variable {R:Type}
noncomputable def obK {α:Type} (o:Option α) (k:α→Option R):Option R:=Option.rec none k o
noncomputable def natK (n:Nat) (k:Nat→R):R:=Nat.rec (k 0) (fun m _=>k (Nat.succ m)) n
noncomputable def intK (x:Int) (k:Int→R):R:=Int.rec (fun n=>natK n fun n=>k (.ofNat n)) (fun n=>natK n fun n=>k (.negSucc n)) x
noncomputable def listK {α:Type} (f:α→(α→R)→R) (l:List α):(List α→R)→R:=
 List.rec (motive:=fun _=>(List α→R)→R) (fun k=>k []) (fun x _ ih k=>f x fun x'=>ih fun l'=>k (x'::l')) l
noncomputable def kindK (k:IntKind) (f:IntKind→R):R:=IntKind.rec (f .i8) (f .i16) (f .i32) (f .i64) (f .u8) (f .u16) (f .u32) (f .u64) k
noncomputable def paK (p:PA) (k:PA→R):R:=PA.rec (fun a b c=>natK a fun a=>natK b fun b=>natK c fun c=>k ⟨a,b,c⟩) p
noncomputable def opaK (p:Option PA) (k:Option PA→R):R:=Option.rec (k none) (fun p=>paK p fun p=>k (some p)) p
noncomputable def byteK (b:UInt8) (k:UInt8→R):R:=natK b.toNat fun n=>k (UInt8.ofNat n)
theorem obK_some {α:Type} {o:Option α} {k:α→Option R} {a:R} (h:obK o k=some a): ∃x,o=some x∧k x=some a:=by
 cases o with
 |none=>cases h
 |some x=>exact ⟨x,rfl,h⟩
@[simp] theorem natK_eq (n:Nat) (k:Nat→R):natK n k=k n:=by cases n<;>rfl
@[simp] theorem intK_eq (x:Int) (k:Int→R):intK x k=k x:=by
 cases x<;>simp [intK]
theorem listK_eq {α:Type} (f:α→(α→R)→R) (hf: ∀x k,f x k=k x): ∀(l:List α) (k:List α→R),listK f l k=k l
 |[],k=>rfl
 |x::l,k=>by
  show f x (fun x'=>listK f l fun l'=>k (x'::l'))=_
  rw [hf,listK_eq f hf l]
@[simp] theorem kindK_eq (t:IntKind) (f:IntKind→R):kindK t f=f t:=by cases t<;>rfl
@[simp] theorem paK_eq (p:PA) (k:PA→R):paK p k=k p:=by
 obtain ⟨a,b,c⟩:=p
 simp [paK]
@[simp] theorem opaK_eq (p:Option PA) (k:Option PA→R):opaK p k=k p:=by
 cases p<;>simp [opaK]
@[simp] theorem byteK_eq (b:UInt8) (k:UInt8→R):byteK b k=k b:=by
 unfold byteK
 rw [natK_eq,UInt8.ofNat_toNat]
@[simp] theorem bytesK_eq (l:List UInt8) (k:List UInt8→R):listK byteK l k=k l:=listK_eq _ (fun _ _=>byteK_eq _ _) l k
@[simp] theorem natsK_eq (l:List Nat) (k:List Nat→R):listK natK l k=k l:=listK_eq _ (fun _ _=>natK_eq _ _) l k
section
variable (R)
noncomputable abbrev vk1:(VV→R)→R:=fun k=>k .undef
noncomputable abbrev vk2:Bool→(VV→R)→R:=fun b k=>Bool.rec (k (.bool false)) (k (.bool true)) b
noncomputable abbrev vk3:IntKind→Int→(VV→R)→R:=fun t n k=>kindK t fun t=>intK n fun n=>k (.int t n)
noncomputable abbrev vk4:List UInt8→(VV→R)→R:=fun s k=>listK byteK s fun s=>k (.str s)
noncomputable abbrev vk5:Option PA→(VV→R)→R:=fun p k=>opaK p fun p=>k (.ptr p)
noncomputable abbrev vk6:Option PA→Nat→Nat→(VV→R)→R:=fun p a b k=>opaK p fun p=>natK a fun a=>natK b fun b=>k (.sl p a b)
noncomputable abbrev vk7:FuncId→List VV→((List VV→R)→R)→(VV→R)→R:=fun f _ ih k=>ih fun l=>k (.fn f l)
noncomputable abbrev vk8:(VV→R)→R:=fun k=>k .nilFn
noncomputable abbrev vk9:List VV→((List VV→R)→R)→(VV→R)→R:=fun _ ih k=>ih fun l=>k (.agg l)
noncomputable abbrev vk10:List VV→((List VV→R)→R)→(VV→R)→R:=fun _ ih k=>ih fun l=>k (.tup l)
noncomputable abbrev vk11:Option Nat→(VV→R)→R:=fun p k=>Option.rec (k (.map none)) (fun b=>natK b fun b=>k (.map (some b))) p
noncomputable abbrev vk12:(VV→R)→R:=fun k=>k .nilI
noncomputable abbrev vk13:Nat→(VV→R)→R:=fun b k=>natK b fun b=>k (.yield b)
noncomputable abbrev vki:TypeId→VV→((VV→R)→R)→(VV→R)→R:=fun t _ ih k=>natK t fun t=>ih fun v=>k (.ifc t v)
noncomputable abbrev vk14:(List VV→R)→R:=fun k=>k []
noncomputable abbrev vk15:VV→List VV→((VV→R)→R)→((List VV→R)→R)→(List VV→R)→R:=fun _ _ ih1 ih2 k=>ih1 fun v=>ih2 fun l=>k (v::l)
end
noncomputable def vvK (v:VV):(VV→R)→R:=
 VV.rec (motive_1:=fun _=>(VV→R)→R) (motive_2:=fun _=>(List VV→R)→R) (vk1 R) (vk2 R) (vk3 R) (vk4 R) (vk5 R) (vk6 R) (vk7 R) (vk8 R) (vk9 R) (vk10 R) (vk11 R) (vk12 R) (vk13 R) (vki R) (vk14 R) (vk15 R) v
noncomputable def vvsK (v:List VV):(List VV→R)→R:=
 VV.rec_1 (motive_1:=fun _=>(VV→R)→R) (motive_2:=fun _=>(List VV→R)→R) (vk1 R) (vk2 R) (vk3 R) (vk4 R) (vk5 R) (vk6 R) (vk7 R) (vk8 R) (vk9 R) (vk10 R) (vk11 R) (vk12 R) (vk13 R) (vki R) (vk14 R) (vk15 R) v
@[simp] theorem vvK_eq (v:VV): ∀k:VV→R,vvK v k=k v:=by
 refine VV.rec (motive_1:=fun v=> ∀k:VV→R,vvK v k=k v) (motive_2:=fun l=> ∀k:List VV→R,vvsK l k=k l) ?_ ?_ ?_ ?_ ?_ ?_ ?_ ?_ ?_ ?_ ?_ ?_ ?_ ?_ ?_ ?_ v
 ·intro k;rfl
 ·intro b k;cases b<;>rfl
 ·intro t n k;show kindK t (fun t=>intK n fun n=>k (.int t n))=_;simp
 ·intro s k;show listK byteK s (fun s=>k (.str s))=_;simp
 ·intro p k;show opaK p (fun p=>k (.ptr p))=_;simp
 ·intro p a b k;show opaK p (fun p=>natK a fun a=>natK b fun b=>k (.sl p a b))=_;simp
 ·intro f l ih k;show vvsK l (fun l=>k (.fn f l))=_;rw [ih]
 ·intro k;rfl
 ·intro l ih k;show vvsK l (fun l=>k (.agg l))=_;rw [ih]
 ·intro l ih k;show vvsK l (fun l=>k (.tup l))=_;rw [ih]
 ·intro p k;cases p with
  |none=>rfl
  |some b=>show natK b (fun b=>k (.map (some b)))=_;simp
 ·intro k;rfl
 ·intro b k;show natK b (fun b=>k (.yield b))=_;simp
 ·intro t v ih k;show natK t (fun t=>vvK v fun v=>k (.ifc t v))=_;rw [natK_eq,ih]
 ·intro k;rfl
 ·intro v l ih1 ih2 k;show vvK v (fun v=>vvsK l fun l=>k (v::l))=_;rw [ih1,ih2]
@[simp] theorem vvlK_eq (l:List VV) (k:List VV→R):listK vvK l k=k l:=listK_eq _ (fun v k=>vvK_eq v k) l k
noncomputable def nthK {α:Type} (l:List α):Nat→(α→Option R)→Option R:=
 List.rec (motive:=fun _=>Nat→(α→Option R)→Option R) (fun _ _=>none) (fun x _ ih i k=>Nat.rec (k x) (fun m _=>ih m k) i) l
theorem nthK_some {α:Type}: ∀{l:List α} {i:Nat} {k:α→Option R} {a:R},nthK l i k=some a→ ∃x,l[i]? =some x∧k x=some a
 |[],i,k,a,h=>by cases h
 |x::l,0,k,a,h=>⟨x,rfl,h⟩
 |x::l,i+1,k,a,h=>nthK_some (l:=l) (i:=i) h
noncomputable def setK {α:Type} (l:List α):Nat→α→(List α→R)→R:=
 List.rec (motive:=fun _=>Nat→α→(List α→R)→R) (fun _ _ k=>k []) (fun x r ih i v k=>Nat.rec (k (v::r)) (fun m _=>ih m v fun l=>k (x::l)) i) l
@[simp] theorem setK_eq {α:Type}: ∀(l:List α) (i:Nat) (v:α) (k:List α→R),setK l i v k=k (l.set i v)
 |[],i,v,k=>rfl
 |x::l,0,v,k=>rfl
 |x::l,i+1,v,k=>by show setK l i v (fun l=>k (x::l))=_;rw [setK_eq l];rfl
noncomputable def getK (F:Fr) (s:Nat) (k:VV→Option R):Option R:=
 List.rec (motive:=fun _=>Option R) none (fun p _ ih=>Prod.rec (fun a v=>Bool.rec ih (k v) (Nat.beq a s)) p) F
theorem getK_eq: ∀(F:Fr) (s:Nat) (k:VV→Option R),getK F s k=(F.get s).bind k
 |[],s,k=>rfl
 |(a,v)::F,s,k=>by
  have e:getK ((a,v)::F) s k=Bool.rec (motive:=fun _=>Option R) (getK F s k) (k v) (Nat.beq a s):=rfl
  rw [e]
  unfold Fr.get
  cases Nat.beq a s
  ·exact getK_eq F s k
  ·rfl
theorem getK_some {F:Fr} {s:Nat} {k:VV→Option R} {a:R} (h:getK F s k=some a): ∃v,F.get s=some v∧k v=some a:=by
 rw [getK_eq] at h
 exact Option.bind_eq_some_iff.1 h
noncomputable def geto (F:Fr) (s:Nat):Option VV:=
 List.rec (motive:=fun _=>Option VV) none (fun p _ ih=>Prod.rec (fun a v=>Bool.rec ih (some v) (Nat.beq a s)) p) F
theorem geto_eq: ∀(F:Fr) (s:Nat),geto F s=F.get s
 |[],s=>rfl
 |(a,v)::F,s=>by
  have e:geto ((a,v)::F) s=Bool.rec (motive:=fun _=>Option VV) (geto F s) (some v) (Nat.beq a s):=rfl
  rw [e]
  unfold Fr.get
  cases Nat.beq a s
  ·exact geto_eq F s
  ·rfl
noncomputable def ifcOf (v:VV) (k:TypeId→VV→Option R):Option R:=match v with| .ifc t v=>k t v|_=>none
theorem ifcOf_some {v:VV} {k:TypeId→VV→Option R} {a:R} (h:ifcOf v k=some a): ∃t u,v= .ifc t u∧k t u=some a:=by
 cases v with
 |ifc t u=>exact ⟨t,u,rfl,h⟩
 |_=>cases h
noncomputable def odK (x:Od):Fr→(VV→Option R)→Option R:=Od.rec (fun s E k=>getK E s k) (fun v _ k=>k v) (fun s tbl E k=>getK E s fun v=>ifcOf v fun t _=>obK (tblGet tbl t) fun f=>natK f fun f=>k (.fn f [])) (fun s E k=>getK E s fun v=>ifcOf v fun _ u=>k u) x
theorem odK_some {x:Od} {E:Fr} {k:VV→Option R} {a:R} (h:odK x E k=some a): ∃v,x.ev E=some v∧k v=some a:=by
 cases x with
 |t s=>exact getK_some h
 |c v=>exact ⟨v,rfl,h⟩
 |mt s tbl=>
  obtain ⟨v,h1,h2⟩:=getK_some (show getK E s (fun v=>ifcOf v fun t _=>obK (tblGet tbl t) fun f=>natK f fun f=>k (.fn f []))=some a from h)
  obtain ⟨t,u,rfl,h3⟩:=ifcOf_some h2
  obtain ⟨f,h4,h5⟩:=obK_some h3
  rw [natK_eq] at h5
  exact ⟨.fn f [],by simp [Od.ev,h1,h4],h5⟩
 |ri s=>
  obtain ⟨v,h1,h2⟩:=getK_some (show getK E s (fun v=>ifcOf v fun _ u=>k u)=some a from h)
  obtain ⟨t,u,rfl,h3⟩:=ifcOf_some h2
  exact ⟨u,by simp [Od.ev,h1],h3⟩
noncomputable def odsK (l:List Od):Fr→(List VV→Option R)→Option R:=
 List.rec (motive:=fun _=>Fr→(List VV→Option R)→Option R) (fun _ k=>k []) (fun x _ ih E k=>odK x E fun v=>ih E fun l=>k (v::l)) l
theorem odsK_some: ∀{l:List Od} {E:Fr} {k:List VV→Option R} {a:R},odsK l E k=some a→ ∃vs,Od.evs E l=some vs∧k vs=some a
 |[],E,k,a,h=>⟨[],rfl,h⟩
 |x::l,E,k,a,h=>by
  obtain ⟨v,h1,h2⟩:=odK_some (show odK x E (fun v=>odsK l E fun l=>k (v::l))=some a from h)
  obtain ⟨vs,h3,h4⟩:=odsK_some h2
  exact ⟨v::vs,by simp [Od.evs,h1,h3],h4⟩
noncomputable def treeG {α:Type} (t:Tree α):Nat→Option α:=
 Tree.rec (motive:=fun _=>Nat→Option α) (fun _=>none) (fun v _ _ il ir i=>Bool.rec (Bool.rec (natK (Nat.div i 2) fun j=>natK (Nat.pred j) ir) (natK (Nat.div i 2) il) (Nat.beq (Nat.mod i 2) 1)) (some v) (Nat.beq i 0)) t
noncomputable def treeS {α:Type} (t:Tree α):Nat→α→(Tree α→Option R)→Option R:=
 Tree.rec (motive:=fun _=>Nat→α→(Tree α→Option R)→Option R) (fun i b k=>Bool.rec none (k (.n b .e .e)) (Nat.beq i 0))
  (fun v l r il ir i b k=>Bool.rec (Bool.rec (natK (Nat.div i 2) fun j=>natK (Nat.pred j) fun j=>ir j b fun r'=>k (.n v l r')) (natK (Nat.div i 2) fun j=>il j b fun l'=>k (.n v l' r)) (Nat.beq (Nat.mod i 2) 1)) (k (.n b l r)) (Nat.beq i 0)) t
theorem treeG_n {α:Type} (v:α) (l r:Tree α) (i:Nat):treeG (.n v l r) i=if i=0 then some v else if i % 2=1 then treeG l (i / 2) else treeG r (i / 2-1):=by
 have e:treeG (.n v l r) i=Bool.rec (motive:=fun _=>Option α) (Bool.rec (motive:=fun _=>Option α) (natK (Nat.div i 2) fun j=>natK (Nat.pred j) (treeG r)) (natK (Nat.div i 2) (treeG l)) (Nat.beq (Nat.mod i 2) 1)) (some v) (Nat.beq i 0):=rfl
 rw [e]
 by_cases h:i=0
 ·subst h;rfl
 ·have hb:Nat.beq i 0=false:=by cases i with|zero=>exact absurd rfl h|succ i=>rfl
  rw [hb,if_neg h]
  by_cases h1:i % 2=1
  ·have:Nat.beq (Nat.mod i 2) 1=true:=by show Nat.beq (i % 2) 1=true;rw [h1];rfl
   rw [this,if_pos h1];simp only [cond_true,cond_false,natK_eq];rfl
  ·have:Nat.beq (Nat.mod i 2) 1=false:=by show Nat.beq (i % 2) 1=false;rw [show i % 2=0 by omega];rfl
   rw [this,if_neg h1]
   simp only [cond_true,cond_false,natK_eq];rfl
theorem treeS_some {α:Type}: ∀{t:Tree α} {i:Nat} {b:α} {k:Tree α→Option R} {a:R},treeS t i b k=some a→ ∃t',(∀j,treeG t' j=if j=i then some b else treeG t j)∧k t'=some a
 | .e,i,b,k,a,h=>by
   cases i with
   |zero=>
    refine ⟨_,fun j=> ?_,h⟩
    rw [treeG_n]
    by_cases hj:j=0
    ·simp [hj]
    ·rw [if_neg hj,if_neg hj];split<;>rfl
   |succ i=>cases h
 | .n v l r,i,b,k,a,h=>by
   by_cases h0:i=0
   ·subst h0
    refine ⟨_,fun j=> ?_,h⟩
    rw [treeG_n,treeG_n]
    split<;>rfl
   ·have hb:Nat.beq i 0=false:=by cases i with|zero=>exact absurd rfl h0|succ i=>rfl
    by_cases h1:i % 2=1
    ·have hm:Nat.beq (Nat.mod i 2) 1=true:=by show Nat.beq (i % 2) 1=true;rw [h1];rfl
     have h':treeS l (i / 2) b (fun l'=>k (.n v l' r))=some a:=by
      have:treeS (.n v l r) i b k=natK (Nat.div i 2) fun j=>treeS l j b fun l'=>k (.n v l' r):=by
       have e:treeS (.n v l r) i b k=Bool.rec (motive:=fun _=>Option R) (Bool.rec (motive:=fun _=>Option R) (natK (Nat.div i 2) fun j=>natK (Nat.pred j) fun j=>treeS r j b fun r'=>k (.n v l r')) (natK (Nat.div i 2) fun j=>treeS l j b fun l'=>k (.n v l' r)) (Nat.beq (Nat.mod i 2) 1)) (k (.n b l r)) (Nat.beq i 0):=rfl
       rw [e,hb,hm]
      rw [this,natK_eq] at h;exact h
     obtain ⟨l',q1,q2⟩:=treeS_some h'
     refine ⟨_,fun j=> ?_,q2⟩
     rw [treeG_n,treeG_n]
     by_cases hj:j=0
     ·subst hj;rw [if_pos rfl,if_neg (Ne.symm h0),if_pos rfl]
     ·rw [if_neg hj,if_neg hj]
      by_cases hj1:j % 2=1
      ·rw [if_pos hj1,if_pos hj1,q1]
       by_cases hji:j=i
       ·rw [if_pos hji,if_pos (by rw [hji])]
       ·rw [if_neg hji,if_neg (by omega)]
      ·rw [if_neg hj1,if_neg hj1,if_neg (by rintro rfl;exact hj1 h1)]
    ·have hm:Nat.beq (Nat.mod i 2) 1=false:=by show Nat.beq (i % 2) 1=false;rw [show i % 2=0 by omega];rfl
     have h':treeS r (i / 2-1) b (fun r'=>k (.n v l r'))=some a:=by
      have:treeS (.n v l r) i b k=natK (Nat.div i 2) fun j=>natK (Nat.pred j) fun j=>treeS r j b fun r'=>k (.n v l r'):=by
       have e:treeS (.n v l r) i b k=Bool.rec (motive:=fun _=>Option R) (Bool.rec (motive:=fun _=>Option R) (natK (Nat.div i 2) fun j=>natK (Nat.pred j) fun j=>treeS r j b fun r'=>k (.n v l r')) (natK (Nat.div i 2) fun j=>treeS l j b fun l'=>k (.n v l' r)) (Nat.beq (Nat.mod i 2) 1)) (k (.n b l r)) (Nat.beq i 0):=rfl
       rw [e,hb,hm]
      rw [this,natK_eq,natK_eq] at h;exact h
     obtain ⟨r',q1,q2⟩:=treeS_some h'
     refine ⟨_,fun j=> ?_,q2⟩
     rw [treeG_n,treeG_n]
     by_cases hj:j=0
     ·subst hj;rw [if_pos rfl,if_neg (Ne.symm h0),if_pos rfl]
     ·rw [if_neg hj,if_neg hj]
      by_cases hj1:j % 2=1
      ·rw [if_pos hj1,if_pos hj1,if_neg (by rintro rfl;exact h1 hj1)]
      ·rw [if_neg hj1,if_neg hj1,q1]
       by_cases hji:j=i
       ·rw [if_pos hji,if_pos (by rw [hji])]
       ·rw [if_neg hji,if_neg (by omega)]
noncomputable def rowK (b:Blk) (k:Blk→R):R:=
 Blk.rec (k .dead) (fun t m es=>listK (fun e k=>listK vvK e k) es fun es=>k (.row t m es))
  (fun o=>MOb.rec (fun es=>listK (fun e k=>Prod.rec (fun a c=>vvK a fun a=>vvK c fun c=>k (a,c)) e) es fun es=>k (.obj (.map es)))
   (fun m n seen=>natK n fun n=>listK natK seen fun seen=>k (.obj (.iter m n seen)))
   (fun s pos=>natK pos fun pos=>k (.obj (.siter s pos))) (fun r=>k (.obj (.loop r))) (fun b=>Bool.rec (k (.obj (.defs false))) (k (.obj (.defs true))) b) (fun s=>listK byteK s fun s=>k (.obj (.bytes s))) o) b
@[simp] theorem rowK_eq (b:Blk) (k:Blk→R):rowK b k=k b:=by
 cases b with
 |dead=>rfl
 |row t m es=>show listK (fun e k=>listK vvK e k) es (fun es=>k (.row t m es))=_;rw [listK_eq _ (fun x k=>vvlK_eq x k)]
 |obj o=>
  cases o with
  |map es=>show listK (fun e k=>Prod.rec (fun a c=>vvK a fun a=>vvK c fun c=>k (a,c)) e) es (fun es=>k (.obj (.map es)))=_;rw [listK_eq _ (fun x k=>by obtain ⟨a,c⟩:=x;show vvK a (fun a=>vvK c fun c=>k (a,c))=_;simp)]
  |iter m n seen=>show natK n (fun n=>listK natK seen fun seen=>k (.obj (.iter m n seen)))=_;simp
  |siter s pos=>show natK pos (fun pos=>k (.obj (.siter s pos)))=_;simp
  |loop r=>rfl
  |defs b=>cases b<;>rfl
  |bytes s=>show listK byteK s (fun s=>k (.obj (.bytes s)))=_;rw [bytesK_eq]
noncomputable def upK (us:Up):Tr→(Tr→Option R)→Option R:=
 List.rec (motive:=fun _=>Tr→(Tr→Option R)→Option R) (fun T k=>k T)
  (fun p _ ih T k=>Prod.rec (fun i b=>Tr.rec (fun n t j=>treeS t i b fun t'=>Bool.rec (Bool.rec none (ih ⟨n,t',i::j⟩ k) (Nat.ble i n)) (natK (Nat.succ n) fun n=>ih ⟨n,t',i::j⟩ k) (Nat.beq i n)) T) p) us
noncomputable def upsK (us:Up):(Up→R)→R:=listK (fun p k=>Prod.rec (fun i b=>natK i fun i=>rowK b fun b=>k (i,b)) p) us
@[simp] theorem upsK_eq (us:Up) (k:Up→R):upsK us k=k us:=listK_eq _ (fun p k=>by obtain ⟨i,b⟩:=p;show natK i (fun i=>rowK b fun b=>k (i,b))=_;simp) us k
end
end Go.Wm
end
