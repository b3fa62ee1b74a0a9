/- Texts as one: WmM. -/
import Derived.Test.YtnjjieohlnhicaaGreatDoorKad
namespace Go.Wm
set_option linter.unusedSimpArgs false
set_option linter.unusedVariables false
open Go.RowKit
abbrev Alike (E E':Fr) (l:List Nat):Prop:= ∀s∈l,E.get s=E'.get s
section
variable {E E':Fr}
theorem Alike.l {a b:List Nat} (h:Alike E E' (a++b)):Alike E E' a:=fun s hs=>h s (List.mem_append_left _ hs)
theorem Alike.r {a b:List Nat} (h:Alike E E' (a++b)):Alike E E' b:=fun s hs=>h s (List.mem_append_right _ hs)
theorem Od.ev_alike {x:Od} (h:Alike E E' x.uses):x.ev E=x.ev E':=by
 cases x with
 |t s=>exact h s (by simp [Od.uses])
 |c v=>rfl
 |mt s tbl=>simp only [Od.ev,h s (by simp [Od.uses])]
 |ri s=>simp only [Od.ev,h s (by simp [Od.uses])]
theorem evs_alike: ∀{l:List Od},Alike E E' (usesL l)→Od.evs E l=Od.evs E' l
 |[],_=>rfl
 |x::l,h=>by simp only [Od.evs,Od.ev_alike h.l,evs_alike h.r]
theorem oev_alike {d:Int}: ∀{x:Option Od},Alike E E' (usesO x)→Od.oev E d x=Od.oev E' d x
 |none,_=>rfl
 |some x,h=>by simp only [Od.oev,Od.ev_alike (x:=x) h]
theorem fillVV_alike: ∀{l:List (Nat×Nat×Od)} {cs:List VV},Alike E E' (usesP l)→fillVV E cs l=fillVV E' cs l
 |[],_,_=>rfl
 |(o,n,x)::l,cs,h=>by
  simp only [fillVV,Od.ev_alike (x:=x) h.l]
  cases x.ev E' with
  |none=>rfl
  |some v=>simp only [fillVV_alike (l:=l) h.r]
theorem fillRows_alike {m:Nat}: ∀{l:List (Nat×Od)} {es:List (List VV)},Alike E E' (usesR l)→fillRows E m es l=fillRows E' m es l
 |[],_,_=>rfl
 |(i,x)::l,es,h=>by
  simp only [fillRows,Od.ev_alike (x:=x) h.l]
  cases x.ev E' with
  |none=>rfl
  |some v=>simp only [fillRows_alike (l:=l) h.r]
theorem VOp.ev_alike {H:Gt} {x:VOp} (h:Alike E E' x.uses):x.ev E H=x.ev E' H:=by
 cases x with
 |mkfn f l=>simp only [VOp.ev,evs_alike (l:=l) h]
 |build zs ps=>simp only [VOp.ev,fillVV_alike (l:=ps) h]
 |slc n x a b c=>simp only [VOp.ev,Od.ev_alike (x:=x) h.l,oev_alike (x:=a) h.r.l,oev_alike (x:=b) h.r.r.l,oev_alike (x:=c) h.r.r.r]
 |slstr x a b=>simp only [VOp.ev,Od.ev_alike (x:=x) h.l,oev_alike (x:=a) h.r.l,oev_alike (x:=b) h.r.r]
 |pick c a b=>simp only [VOp.ev,Od.ev_alike (x:=c) h.l,Od.ev_alike (x:=a) h.r.l,Od.ev_alike (x:=b) h.r.r]
 |bin o x y=>simp only [VOp.ev,Od.ev_alike (x:=x) h.l,Od.ev_alike (x:=y) h.r]
 |sh o x y=>simp only [VOp.ev,Od.ev_alike (x:=x) h.l,Od.ev_alike (x:=y) h.r]
 |beq o x y=>simp only [VOp.ev,Od.ev_alike (x:=x) h.l,Od.ev_alike (x:=y) h.r]
 |ixa n x y=>simp only [VOp.ev,Od.ev_alike (x:=x) h.l,Od.ev_alike (x:=y) h.r]
 |ixar m n x y=>simp only [VOp.ev,Od.ev_alike (x:=x) h.l,Od.ev_alike (x:=y) h.r]
 |min2 x y=>simp only [VOp.ev,Od.ev_alike (x:=x) h.l,Od.ev_alike (x:=y) h.r]
 |max2 x y=>simp only [VOp.ev,Od.ev_alike (x:=x) h.l,Od.ev_alike (x:=y) h.r]
 |ixs x y=>simp only [VOp.ev,Od.ev_alike (x:=x) h.l,Od.ev_alike (x:=y) h.r]
 |aeq n k x y=>simp only [VOp.ev,Od.ev_alike (x:=x) h.l,Od.ev_alike (x:=y) h.r]
 |mv x=>simp only [VOp.ev,Od.ev_alike (x:=x) h]
 |load n a x=>simp only [VOp.ev,Od.ev_alike (x:=x) h]
 |nilck x=>simp only [VOp.ev,Od.ev_alike (x:=x) h]
 |not x=>simp only [VOp.ev,Od.ev_alike (x:=x) h]
 |conv k x=>simp only [VOp.ev,Od.ev_alike (x:=x) h]
 |faddr k x=>simp only [VOp.ev,Od.ev_alike (x:=x) h]
 |fld a b c x=>simp only [VOp.ev,Od.ev_alike (x:=x) h]
 |lens x=>simp only [VOp.ev,Od.ev_alike (x:=x) h]
 |lent x=>simp only [VOp.ev,Od.ev_alike (x:=x) h]
 |ext i x=>simp only [VOp.ev,Od.ev_alike (x:=x) h]
 |lkp kk z o x y=>simp only [VOp.ev,Od.ev_alike (x:=x) h.l,Od.ev_alike (x:=y) h.r]
 |ent x=>simp only [VOp.ev,Od.ev_alike (x:=x) h]
 |lenm x=>simp only [VOp.ev,Od.ev_alike (x:=x) h]
 |neg x=>simp only [VOp.ev,Od.ev_alike (x:=x) h]
 |chr x=>simp only [VOp.ev,Od.ev_alike (x:=x) h]
 |bstr x=>simp only [VOp.ev,Od.ev_alike (x:=x) h]
 |neq k n x y=>simp only [VOp.ev,Od.ev_alike (x:=x) h.l,Od.ev_alike (x:=y) h.r]
 |seq o x y=>simp only [VOp.ev,Od.ev_alike (x:=x) h.l,Od.ev_alike (x:=y) h.r]
 |ixb x y=>simp only [VOp.ev,Od.ev_alike (x:=x) h.l,Od.ev_alike (x:=y) h.r]
 |mki t x=>simp only [VOp.ev,Od.ev_alike (x:=x) h]
 |capm x=>simp only [VOp.ev,Od.ev_alike (x:=x) h]
 |s2a n x=>simp only [VOp.ev,Od.ev_alike (x:=x) h]
 |lda n x=>simp only [VOp.ev,Od.ev_alike (x:=x) h]
theorem VEf.ev_alike {H:Gt} {n:Nat} {x:VEf} (h:Alike E E' x.uses):x.ev E H n=x.ev E' H n:=by
 cases x with
 |mkrow t zs m ps=>simp only [VEf.ev,fillRows_alike (l:=ps) h]
 |alloc t zs=>rfl
 |box t x=>simp only [VEf.ev,Od.ev_alike (x:=x) h]
 |store n x y=>simp only [VEf.ev,Od.ev_alike (x:=x) h.l,Od.ev_alike (x:=y) h.r]
 |mksl t b z x y=>simp only [VEf.ev,Od.ev_alike (x:=x) h.l,Od.ev_alike (x:=y) h.r]
 |app t b z x y=>simp only [VEf.ev,Od.ev_alike (x:=x) h.l,Od.ev_alike (x:=y) h.r]
 |mkmap=>rfl
 |rng x=>simp only [VEf.ev,Od.ev_alike (x:=x) h]
 |srng x=>simp only [VEf.ev,Od.ev_alike (x:=x) h]
 |resl m x=>simp only [VEf.ev,Od.ev_alike (x:=x) h]
 |sbytes x=>simp only [VEf.ev,Od.ev_alike (x:=x) h]
 |snext x=>simp only [VEf.ev,Od.ev_alike (x:=x) h]
 |copy z x y=>simp only [VEf.ev,Od.ev_alike (x:=x) h.l,Od.ev_alike (x:=y) h.r]
 |ment k z x y=>simp only [VEf.ev,Od.ev_alike (x:=x) h.l,Od.ev_alike (x:=y) h.r]
 |ustr e x y=>simp only [VEf.ev,Od.ev_alike (x:=x) h.l,Od.ev_alike (x:=y) h.r]
 |appz t zs b x y=>simp only [VEf.ev,Od.ev_alike (x:=x) h.l,Od.ev_alike (x:=y) h.r]
 |mput x y z=>simp only [VEf.ev,Od.ev_alike (x:=x) h.l,Od.ev_alike (x:=y) h.r.l,Od.ev_alike (x:=z) h.r.r]
 |mset kk x y z=>simp only [VEf.ev,Od.ev_alike (x:=x) h.l,Od.ev_alike (x:=y) h.r.l,Od.ev_alike (x:=z) h.r.r]
theorem want_alike {g:Option (Nat×Bool)} (h:Alike E E' (usesG g)):want E g=want E' g:=by
 cases g with
 |none=>rfl
 |some p=>obtain ⟨s,b⟩:=p;simp only [want,h s (by simp [usesG])]
end
def Does (P:Program) (hs:List Hp) (lo hi m:Nat):VI→Fr→Hp→VV→Hp→Prop
 | .rd _ _ x,E,H,v,H'=>H'=H∧ ∀j H1,lo≤j→j≤hi→hs[j]? =some H1→x.ev E H1.g=some v
 | .ef _ _ x,E,H,v,H'=>(∃us,x.ev E H.g H.length=some (v,us)∧H'=applyU H us)∧hs[m+1]? =some H'
 | .call _ _ f ar,E,H,v,H'=>(∃fid caps vs,f.ev E=some (.fn fid caps)∧Od.evs E ar=some vs∧FnV P fid (vs++caps) H fun r H2=>r=v∧H2=H')∧hs[m+1]? =some H'
 |_,_,_,_,_=>False
def VI.next (x:VI) (m:Nat):Nat:=if x.isEf then m+1 else m
def VX (P:Program) (hs:List Hp):List VI→List (Nat×Nat)→Nat→Fr→Hp→(Fr→Hp→Prop)→Prop
 |[],_,_,E,H,Q=>Q E H
 |x::l,b,m,E,H,Q=>(want E x.gd=some false∧(x.isEf=true→hs[m+1]? =some H)∧VX P hs l b.tail (x.next m) (E.pt x.ds (.tup [])) H Q)∨
   (want E x.gd=some true∧ ∃v H',Does P hs (b.headD (0,0)).1 (b.headD (0,0)).2 m x E H v H'∧VX P hs l b.tail (x.next m) (E.pt x.ds v) H' Q)
theorem VX.mono {P:Program} {hs:List Hp} {Q Q':Fr→Hp→Prop} (hq: ∀E H,Q E H→Q' E H): ∀{l:List VI} {b:List (Nat×Nat)} {m:Nat} {E:Fr} {H:Hp},VX P hs l b m E H Q→VX P hs l b m E H Q'
 |[],_,_,E,H,h=>hq _ _ h
 |x::l,b,m,E,H,h=>by
  rcases h with ⟨h1,h0,h2⟩|⟨h1,v,H',h2,h3⟩
  ·exact .inl ⟨h1,h0,VX.mono hq h2⟩
  ·exact .inr ⟨h1,v,H',h2,VX.mono hq h3⟩
def StepAt (P:Program) (hs:List Hp) (lo hi m:Nat) (x:VI) (E:Fr) (H:Hp) (v:VV) (H':Hp):Prop:=
 (want E x.gd=some false∧v= .tup []∧H'=H∧(x.isEf=true→hs[m+1]? =some H))∨(want E x.gd=some true∧Does P hs lo hi m x E H v H')
theorem cnt_succ (l:List VI) (k:Nat) (x:VI) (h:l[k]? =some x):cnt l (k+1)=x.next (cnt l k):=by
 unfold cnt
 rw [List.take_add_one,h]
 simp only [Option.toList,List.countP_append,VI.next]
 cases hx:x.isEf<;>simp [hx]
theorem VX.trace {P:Program} {hs:List Hp} {Q:Fr→Hp→Prop}: ∀{l:List VI} {b:List (Nat×Nat)} {m:Nat} {E:Fr} {H:Hp},VX P hs l b m E H Q→
 ∃(v:Nat→VV) (Hs:Nat→Hp) (Es:Nat→Fr),Es 0=E∧Hs 0=H∧Q (Es l.length) (Hs l.length)∧
  ∀i x,l[i]? =some x→Es (i+1)=(Es i).pt x.ds (v i)∧StepAt P hs (b.getD i (0,0)).1 (b.getD i (0,0)).2 (m+cnt l i) x (Es i) (Hs i) (v i) (Hs (i+1))
 |[],b,m,E,H,h=>⟨fun _=> .undef,fun _=>H,fun _=>E,rfl,rfl,h,fun i x hx=>by simp at hx⟩
 |x::l,b,m,E,H,h=>by
  have key: ∃v0 H0,StepAt P hs (b.headD (0,0)).1 (b.headD (0,0)).2 m x E H v0 H0∧VX P hs l b.tail (x.next m) (E.pt x.ds v0) H0 Q:=by
   rcases h with ⟨h1,h0,h2⟩|⟨h1,v,H',h2,h3⟩
   ·exact ⟨_,_,.inl ⟨h1,rfl,rfl,h0⟩,h2⟩
   ·exact ⟨v,H',.inr ⟨h1,h2⟩,h3⟩
  obtain ⟨v0,H0,hs0,hx⟩:=key
  obtain ⟨v,Hs,Es,q1,q2,q3,q4⟩:=VX.trace hx
  refine ⟨fun i=>match i with|0=>v0|i+1=>v i,fun i=>match i with|0=>H|i+1=>Hs i,fun i=>match i with|0=>E|i+1=>Es i,rfl,rfl,q3,?_⟩
  intro i y hy
  have hb: ∀i,b.tail.getD i (0,0)=b.getD (i+1) (0,0):=fun i=>by cases b<;>simp [List.getD]
  have hb0:b.headD (0,0)=b.getD 0 (0,0):=by cases b<;>simp [List.getD]
  cases i with
  |zero=>simp at hy;subst hy;exact ⟨q1,by show StepAt P hs _ _ (m+cnt (x::l) 0) x E H v0 (Hs 0);rw [q2,←hb0];exact hs0⟩
  |succ i=>
   obtain ⟨r1,r2⟩:=q4 i y (by simpa using hy)
   refine ⟨r1,?_⟩
   rw [hb] at r2
   have hc:m+cnt (x::l) (i+1)=x.next m+cnt l i:=by
    unfold cnt VI.next
    simp only [List.take_succ_cons,List.countP_cons]
    cases x.isEf<;>simp
    omega
   rw [hc]
   exact r2
section
variable {ops:Array Oper} {L:Nat→Prop}
theorem ancRow_sound {acc:List (List Nat)} (hacc: ∀i l,acc[i]? =some l→L i→ ∀j∈l,L j): ∀{es:List Edge},(∀e∈es,Region.binds .any e=true→L e.on)→ ∀j∈ancRow acc es,L j
 |[],_,j,hj=>by simp [ancRow] at hj
 |e::r,h,j,hj=>by
  have ih:=ancRow_sound hacc (es:=r) fun e he=>h e (by simp [he])
  unfold ancRow at hj
  split at hj
  ·rename_i hb
   have he:=h e (by simp) hb
   rcases List.mem_cons.1 hj with rfl|hj
   ·exact he
   ·rcases List.mem_append.1 hj with hj|hj
    ·cases hx:acc[e.on]? with
     |none=>simp [List.getD,hx] at hj
     |some l=>simp [List.getD,hx] at hj;exact hacc _ _ hx he _ hj
    ·exact ih j (List.mem_filter.1 hj).1
  ·exact ih j hj
theorem ancTab_sound (hcl: ∀(i:Nat) (o:Oper),ops[i]? =some o→L i→ ∀e∈o.after,Region.binds .any e=true→L e.on): ∀(os:List Oper) (acc:List (List Nat)),(∀j,os[j]? =ops[acc.length+j]?)→
 (∀(i:Nat) (l:List Nat),acc[i]? =some l→ ∃o:Oper,ops[i]? =some o∧((∀e∈o.after,Region.binds .any e=true→L e.on)→ ∀j∈l,L j))→
 ∀(i:Nat) (l:List Nat),(ancTab os acc)[i]? =some l→ ∃o:Oper,ops[i]? =some o∧((∀e∈o.after,Region.binds .any e=true→L e.on)→ ∀j∈l,L j)
 |[],acc,_,h=>h
 |o::os,acc,ho,h=>by
  have h0:ops[acc.length]? =some o:=by simpa using (ho 0).symm
  refine ancTab_sound hcl os (acc++[ancRow acc o.after.toList]) (fun j=>by have:=ho (j+1);simpa [Nat.add_assoc,Nat.add_comm 1 j] using this) ?_
  intro i l hl
  rcases Nat.lt_trichotomy i acc.length with hi|hi|hi
  ·rw [List.getElem?_append_left hi] at hl
   exact h i l hl
  ·subst hi
   simp at hl
   subst hl
   refine ⟨o,h0,fun hd=>ancRow_sound ?_ fun e he hb=>hd e (by simpa using he) hb⟩
   intro i l hl hi
   obtain ⟨o',h1,h2⟩:=h i l hl
   exact h2 (hcl i o' h1 hi)
  ·rw [List.getElem?_eq_none (by simp;omega)] at hl
   cases hl
def Shut (ops:Array Oper) (L:Nat→Prop):Prop:= ∀(i:Nat) (o:Oper),ops[i]? =some o→L i→ ∀e∈o.after,Region.binds .any e=true→L e.on
theorem anc_of_ready (hcl:Shut ops L) {i:Nat} {o:Oper} (ho:ops[i]? =some o) (hd: ∀e∈o.after,Region.binds .any e=true→L e.on) {j:Nat} (hj:j∈(ancTab ops.toList []).getD i []):L j:=by
 cases hx:(ancTab ops.toList [])[i]? with
 |none=>simp [List.getD,hx] at hj
 |some l=>
  simp [List.getD,hx] at hj
  obtain ⟨o',h1,h2⟩:=ancTab_sound (L:=L) hcl ops.toList [] (by simp) (by simp) i l hx
  have:o'=o:=Option.some.inj (h1.symm.trans ho)
  subst this
  exact h2 hd j hj
theorem anc_of_in (hcl:Shut ops L) {i:Nat} {o:Oper} (ho:ops[i]? =some o) (hi:L i) {j:Nat} (hj:j∈(ancTab ops.toList []).getD i []):L j:=
 anc_of_ready hcl ho (hcl i o ho hi) hj
theorem okX_spec {l:List VI} {b:List (Nat×Nat)} (h:okX ops l b=true) {i:Nat} (hi:i<l.length):
 ((∀j∈(ancTab ops.toList []).getD i [],j<i)∧(∀o:Oper,ops[i]? =some o→ ∀e∈o.after,Region.binds .any e=true→e.on<i)∧(b.getD i (0,0)).1≤cnt l l.length)∧ ∀x,l[i]? =some x→ ∀j y,l[j]? =some y→
   (∀s,y.ds=some s→(i=j∨x.ds≠some s)∧(s∈x.uses→i=j∨j∈(ancTab ops.toList []).getD i []∨i∈(ancTab ops.toList []).getD j []))∧
   (x.isEf=true→y.isEf=true→i<j→y.isFl=true∨i∈(ancTab ops.toList []).getD j [])∧
   (y.isFl=true→j∈(ancTab ops.toList []).getD i []→ ∀e z,l[e]? =some z→e<j→z.isEf=true→e∈(ancTab ops.toList []).getD i [])∧
   (y.isEf=true→((b.getD i (0,0)).1≤cnt l j∨j∈(ancTab ops.toList []).getD i []∨i=j)∧(cnt l j≠(b.getD i (0,0)).2∨i∈(ancTab ops.toList []).getD j []∨i=j)):=by
 unfold okX at h
 have h1:=List.all_eq_true.1 h i (List.mem_range.2 hi)
 rw [Bool.and_eq_true] at h1
 obtain ⟨h1,h2⟩:=h1
 rw [Bool.and_eq_true,Bool.and_eq_true] at h1
 refine ⟨⟨fun j hj=>by simpa using List.all_eq_true.1 h1.1 j hj,fun o ho e he hb=> ?_,by simpa using h1.2.2⟩,?_⟩
 ·have h3:=h1.2.1
  rw [ho] at h3
  have h4:=(Array.all_eq_true'.1 h3) e he
  simpa [hb] using h4
 intro x hx j y hy
 rw [hx] at h2
 have hj:j<l.length:=(List.getElem?_eq_some_iff.1 hy).1
 have h3:=List.all_eq_true.1 h2 j (List.mem_range.2 hj)
 rw [hy] at h3
 rw [Bool.and_eq_true,Bool.and_eq_true,Bool.and_eq_true] at h3
 obtain ⟨h3,h4,h5,h6⟩:=h3
 refine ⟨fun s hs=> ?_,fun e1 e2 e3=> ?_,fun e1 e2 e z hz he hze=> ?_,fun e1=> ?_⟩
 ·rw [hs] at h3
  simp only [Bool.and_eq_true,Bool.or_eq_true,decide_eq_true_eq,Bool.not_eq_true',beq_eq_false_iff_ne,List.contains_iff_mem] at h3
  refine ⟨h3.1,fun hm=> ?_⟩
  rcases h3.2 with ((h5|h5)|h5)|h5
  ·exact absurd hm (by simpa using h5)
  ·exact .inl h5
  ·exact .inr (.inl h5)
  ·exact .inr (.inr h5)
 ·rw [e1,e2] at h4
  simpa [e3] using h4
 ·have h7:(y.isFl &&((ancTab ops.toList []).getD i []).contains j)=true:=by
   rw [Bool.and_eq_true];exact ⟨e1,by simpa using e2⟩
  rw [h7] at h5
  have h8:=List.all_eq_true.1 (by simpa using h5) e (List.mem_range.2 he)
  rw [hz] at h8
  simpa [hze] using h8
 ·rw [e1] at h6
  simp only [Bool.not_true,Bool.false_or,Bool.and_eq_true,Bool.or_eq_true,decide_eq_true_eq,List.contains_iff_mem,Bool.not_eq_true',decide_eq_false_iff_not] at h6
  refine ⟨?_,?_⟩
  ·rcases h6.1 with (h|h)|h
   ·exact .inl h
   ·exact .inr (.inl h)
   ·exact .inr (.inr h)
  ·rcases h6.2 with (h|h)|h
   ·exact .inl h
   ·exact .inr (.inl h)
   ·exact .inr (.inr h)
end
end Go.Wm
