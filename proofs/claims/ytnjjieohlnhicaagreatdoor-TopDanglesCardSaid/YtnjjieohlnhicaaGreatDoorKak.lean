/- Texts as one: WmZn WmZo WmZd WmZp DlL. -/
import Derived.Test.YtnjjieohlnhicaaGreatDoorKaj
import Derived.Test.YtnjjieohlnhicaaGreatDoorKai
import Derived.Test.YtnjjieohlnhicaaGreatDoorRows
import Derived.LaidMore
import Derived.MakeChecks
import Derived.SevenTiedAt
import Derived.KernelRfl
section
namespace Go.Wm
set_option linter.unusedSimpArgs false
set_option linter.unusedVariables false
mutual
def VV.avd (a b:Nat):VV→Bool
 | .ptr (some p)=> !(Nat.ble a p.blk &&Nat.blt p.blk b)
 | .sl (some p) _ _=> !(Nat.ble a p.blk &&Nat.blt p.blk b)
 | .map (some k)=> !(Nat.ble a k &&Nat.blt k b)
 | .yield k=> !(Nat.ble a k &&Nat.blt k b)
 | .agg l=>VV.avds a b l
 | .tup l=>VV.avds a b l
 | .fn _ l=>VV.avds a b l
 | .ifc _ v=>v.avd a b
 |_=>true
def VV.avds (a b:Nat):List VV→Bool
 |[]=>true
 |v::l=>v.avd a b &&VV.avds a b l
end
theorem out_of {a b k:Nat} (h:(!(Nat.ble a k &&Nat.blt k b))=true): ¬(a≤k∧k<b):=by
 intro ⟨h1,h2⟩
 have e1:Nat.ble a k=true:=Nat.ble_eq_true_of_le h1
 have e2:Nat.blt k b=true:=by unfold Nat.blt;exact Nat.ble_eq_true_of_le h2
 rw [e1,e2] at h
 cases h
mutual
theorem VRel.re {σ τ:Sg} {a b:Nat} (h: ∀i,¬(a≤i∧i<b)→σ i=τ i): ∀{v:VV} {x:Value},VRel τ v x→v.avd a b=true→VRel σ v x
 |_,_,.undef v,_=> .undef v
 |_,_,.bool b,_=> .bool b
 |_,_,.int k n,_=> .int k n
 |_,_,.str s,_=> .str s
 |_,_,.ptrNil,_=> .ptrNil
 |_,_,.ptr ⟨I,e1,e2⟩,hf=> .ptr ⟨I,by rw [h _ (out_of (by simpa [VV.avd] using hf))];exact e1,e2⟩
 |_,_,.slNil,_=> .slNil
 |_,_,.sl ⟨h0,hs⟩,hf=> .sl ⟨h0,by
  have e:=h _ (out_of (by simpa [VV.avd] using hf))
  rcases hs with ⟨⟨I,h1,h2⟩,h3⟩|⟨I,m,h1,h2,h3,⟨J,h4,h5⟩,h6,h7,h8⟩|⟨h1,h2,I,h3⟩
  ·exact .inl ⟨⟨I,by rw [e];exact h1,h2⟩,h3⟩
  ·exact .inr (.inl ⟨I,m,by rw [e];exact h1,h2,h3,⟨J,by rw [e];exact h4,h5⟩,h6,h7,h8⟩)
  ·exact .inr (.inr ⟨h1,h2,I,by rw [e];exact h3⟩)⟩
 |_,_,.fn k,hf=> .fn (LRel.re h k (by simpa [VV.avd] using hf))
 |_,_,.nilFn,_=> .nilFn
 |_,_,.agg k,hf=> .agg (LRel.re h k (by simpa [VV.avd] using hf))
 |_,_,.tup k,hf=> .tup (LRel.re h k (by simpa [VV.avd] using hf))
 |_,_,.mapNil,_=> .mapNil
 |_,_,.map k,hf=> .map (by rw [h _ (out_of (by simpa [VV.avd] using hf))];exact k)
 |_,_,.nilI,_=> .nilI
 |_,_,.yield k,hf=> .yield (by rw [h _ (out_of (by simpa [VV.avd] using hf))];exact k)
 |_,_,.ifc k,hf=> .ifc (VRel.re h k (by simpa [VV.avd] using hf))
theorem LRel.re {σ τ:Sg} {a b:Nat} (h: ∀i,¬(a≤i∧i<b)→σ i=τ i): ∀{v:List VV} {x:List Value},LRel τ v x→VV.avds a b v=true→LRel σ v x
 |_,_,.nil,_=> .nil
 |_,_,.cons k t,hf=>by
  simp only [VV.avds,Bool.and_eq_true] at hf
  exact .cons (VRel.re h k hf.1) (LRel.re h t hf.2)
end
def HAvd (a b:Nat) (H:Hp):Prop:= ∀(i:Nat) (x:Blk),H[i]? =some x→x= .dead∨ ∃t md es,x= .row t md es∧ ∀(k:Nat) e (j:Nat) v,es[k]? =some e→e[j]? =some v→v.avd a b=true
theorem FnV.zone {P:Program} {f:FuncId} {args:List VV} {v:VV} {H0 G H2:Hp} {m k:Nat} (hm:H0.length=m) (hk:G.length=k) (hGL:GL.length≤m) (h0:HAvd m (m+k) H0) (hG: ∀(i:Nat) (x:Blk),G[i]? =some x→x= .dead∨ ∃t es,x= .row t .ro es)
 (ha:VV.avds m (m+k) args=true) (hv:v.avd m (m+k)=true) (h2:HAvd m (m+k) H2) (hl2:m+k≤H2.length) (hd: ∀i:Nat,m≤i→i<m+k→H2[i]? =some Blk.dead)
 (h:FnV P f args (H0++List.replicate k .dead) fun r H'=>r=v∧H'=H2):
 FnV P f args (H0++G) fun r H'=>r=v∧H'=H2.take m++G++H2.drop (m+k):=by
 refine ⟨h.1,fun σ B w vs hH hL=> ?_⟩
 obtain ⟨σ0,hσ0⟩: ∃σ0:Sg,σ0=fun i=>if m≤i∧i<m+k then none else σ i:=⟨_,rfl⟩
 have s0: ∀i,¬(m≤i∧i<m+k)→σ0 i=σ i:=fun i hi=>by rw [hσ0];exact if_neg hi
 have s0n: ∀i,m≤i→i<m+k→σ0 i=none:=fun i h1 h2=>by rw [hσ0];exact if_pos ⟨h1,h2⟩
 have s0le:σ0.le σ:=fun i I e=>by
  by_cases hi:m≤i∧i<m+k
  ·rw [s0n i hi.1 hi.2] at e;cases e
  ·rw [s0 i hi] at e;exact e
 have lo: ∀(i:Nat) (x:Blk),(H0++List.replicate k Blk.dead)[i]? =some x→(i<m∧H0[i]? =some x)∨x= .dead:=fun i x hx=>by
  by_cases hi:i<m
  ·rw [List.getElem?_append_left (by omega)] at hx;exact .inl ⟨hi,hx⟩
  ·rw [List.getElem?_append_right (by omega)] at hx
   have:=List.eq_of_mem_replicate (List.mem_of_getElem? hx)
   exact .inr this
 have up: ∀(i:Nat) (x:Blk),H0[i]? =some x→(H0++G)[i]? =some x:=fun i x hx=>by rw [List.getElem?_append_left (List.getElem?_eq_some_iff.1 hx).1];exact hx
 have row0: ∀(i:Nat) t md es,(H0++List.replicate k Blk.dead)[i]? =some (.row t md es)→i<m∧H0[i]? =some (.row t md es):=fun i t md es hx=>by
  rcases lo i _ hx with h|h
  ·exact h
  ·cases h
 have hH0:HRel P σ0 B (H0++List.replicate k Blk.dead) w:=by
  refine ⟨hH.base,fun i I e=> ?_,fun i t md es hi=> ?_,fun i j ti mi esi tj mj esj Ii Ij hi hmi hj hσi hσj hr=> ?_,fun i o hi=> ?_,fun i j o o' I J hi=> ?_,fun i g hg=> ?_,fun i I e=>hH.fit i I (s0le i I e)⟩
  ·have:=hH.dom i I (s0le i I e)
   simp at this ⊢
   omega
  ·obtain ⟨him,hi'⟩:=row0 i t md es hi
   obtain ⟨I,hR⟩:=hH.rows i t md es (up i _ hi')
   refine ⟨I,by rw [s0 i (by omega)];exact hR.here,hR.lt,hR.len,hR.esz,fun k' e j v' h1 h2'=> ?_,hR.old,hR.own⟩
   obtain ⟨q1,v'',q2,q3⟩:=hR.cell k' e j v' h1 h2'
   refine ⟨q1,v'',q2,q3.re s0 ?_⟩
   rcases h0 i _ hi' with h|⟨t',md',es',h,hav⟩
   ·cases h
   ·cases h;exact hav k' e j v' h1 h2'
  ·obtain ⟨_,hi'⟩:=row0 i _ _ _ hi
   obtain ⟨_,hj'⟩:=row0 j _ _ _ hj
   exact hH.inj i j _ _ _ _ _ _ Ii Ij (up i _ hi') hmi (up j _ hj') (s0le _ _ hσi) (s0le _ _ hσj) hr
  ·rcases lo i _ hi with ⟨_,h⟩|h
   ·rcases h0 i _ h with h|⟨_,_,_,h,_⟩<;>cases h
   ·cases h
  ·rcases lo i _ hi with ⟨_,h⟩|h
   ·rcases h0 i _ h with h|⟨_,_,_,h,_⟩<;>cases h
   ·cases h
  ·obtain ⟨I,e1,e2,e3⟩:=hH.glob i g hg
   have:=(List.getElem?_eq_some_iff.1 hg).1
   exact ⟨I,by rw [s0 i (by omega)];exact e1,e2,e3⟩
 refine (h.2 σ0 B w vs hH0 (hL.re s0 ha)).mono ?_
 rintro e w' ⟨r,v',H',τ,q1,q2,⟨rfl,rfl⟩,q4,q5⟩
 obtain ⟨τ',hτ'⟩: ∃τ':Sg,τ'=fun i=>if m≤i∧i<m+k then σ i else τ i:=⟨_,rfl⟩
 have t0: ∀i,¬(m≤i∧i<m+k)→τ' i=τ i:=fun i hi=>by rw [hτ'];exact if_neg hi
 have t1: ∀i,m≤i→i<m+k→τ' i=σ i:=fun i h1 h2=>by rw [hτ'];exact if_pos ⟨h1,h2⟩
 have hle:σ.le τ':=fun i I e=>by
  by_cases hi:m≤i∧i<m+k
  ·rw [t1 i hi.1 hi.2];exact e
  ·rw [t0 i hi]
   exact q4.le i I (by rw [s0 i hi];exact e)
 have hsz:=q4.bl.size
 have gN: ∀(i:Nat) (x:Blk),(H'.take m++G++H'.drop (m+k))[i]? =some x→(¬(m≤i∧i<m+k)∧H'[i]? =some x)∨(m≤i∧i<m+k∧(H0++G)[i]? =some x):=fun i x hx=>by
  by_cases h1:i<m
  ·rw [List.append_assoc,List.getElem?_append_left (by simp;omega),List.getElem?_take,if_pos h1] at hx
   exact .inl ⟨by omega,hx⟩
  ·by_cases h2':i<m+k
   ·rw [List.append_assoc,List.getElem?_append_right (by simp;omega),List.getElem?_append_left (by simp;omega)] at hx
    refine .inr ⟨by omega,h2',?_⟩
    rw [List.getElem?_append_right (by omega)]
    rw [show i-H0.length=i-(H'.take m).length by simp;omega]
    exact hx
   ·rw [List.getElem?_append_right (by simp;omega),List.getElem?_drop] at hx
    refine .inl ⟨by omega,?_⟩
    rw [show m+k+(i-(H'.take m++G).length)=i by simp;omega] at hx
    exact hx
 have zrow: ∀(i:Nat) t md es,m≤i→i<m+k→(H0++G)[i]? =some (.row t md es)→md= .ro:=fun i t md es h1 h2' hx=>by
  rw [List.getElem?_append_right (by omega)] at hx
  rcases hG _ _ hx with h|⟨t',es',h⟩
  ·cases h
  ·cases h;rfl
 refine ⟨r,v',_,τ',q1,q2.re t0 hv,⟨rfl,rfl⟩,⟨hle,q4.bl,fun r' hr' hn=>q4.out r' hr' fun i I hi=>hn i I (s0le i I hi),fun i I hi=> ?_⟩,?_⟩
 ·by_cases hz:m≤i∧i<m+k
  ·rw [t1 i hz.1 hz.2] at hi
   exact .inl ⟨i,I,hi,rfl⟩
  ·rw [t0 i hz] at hi
   rcases q4.new i I hi with ⟨j,J,h1,h2'⟩|h1
   ·exact .inl ⟨j,J,s0le j J h1,h2'⟩
   ·exact .inr h1
 refine ⟨q5.base,fun i I e=> ?_,fun i t md es hi=> ?_,fun i j ti mi esi tj mj esj Ii Ij hi hmi hj hσi hσj hr=> ?_,fun i o hi=> ?_,fun i j o o' I J hi=> ?_,hH.glob.mono hle,fun i I e=> ?_⟩
 ·by_cases hz:m≤i∧i<m+k
  ·simp;omega
  ·rw [t0 i hz] at e
   have:=q5.dom i I e
   simp;omega
 ·rcases gN i _ hi with ⟨hz,h⟩|⟨z1,z2,h⟩
  ·obtain ⟨I,hR⟩:=q5.rows i t md es h
   refine ⟨I,by rw [t0 i hz];exact hR.here,hR.lt,hR.len,hR.esz,fun k' e j v' h1 h2'=> ?_,hR.old,hR.own⟩
   obtain ⟨x1,v'',x2,x3⟩:=hR.cell k' e j v' h1 h2'
   refine ⟨x1,v'',x2,x3.re t0 ?_⟩
   rcases h2 i _ h with h|⟨t',md',es',h,hav⟩
   ·cases h
   ·cases h;exact hav k' e j v' h1 h2'
  ·obtain rfl:=zrow i t md es z1 z2 h
   obtain ⟨I,hR⟩:=hH.rows i t _ es h
   have hold:=hR.old rfl
   refine ⟨I,by rw [t1 i z1 z2];exact hR.here,Nat.lt_of_lt_of_le hR.lt hsz,hR.len,hR.esz,fun k' e j v' h1 h2'=> ?_,hR.old,fun hc=>absurd rfl hc⟩
   obtain ⟨x1,v'',x2,x3⟩:=hR.cell k' e j v' h1 h2'
   refine ⟨x1,v'',?_,x3.mono hle⟩
   have e1:w'.heap[I.real]? =w.heap[I.real]? :=q4.bl.block I.real hold.1
   simp only [World.cell?,e1] at x2 ⊢
   exact x2
 ·have own: ∀i t md es I,¬(m≤i∧i<m+k)→md≠ .ro→H'[i]? =some (.row t md es)→τ' i=some I→B≤I.real:=fun i t md es I hz hmd hx e=>by
   rw [t0 i hz] at e
   obtain ⟨I',hR⟩:=q5.rows i t md es hx
   have:I'=I:=Option.some.inj (hR.here.symm.trans e)
   subst this
   exact (hR.own hmd).1
  rcases gN i _ hi with ⟨hz,hx⟩|⟨z1,z2,hx⟩
  ·rcases gN j _ hj with ⟨hzj,hxj⟩|⟨y1,y2,hxj⟩
   ·rw [t0 i hz] at hσi
    rw [t0 j hzj] at hσj
    exact q5.inj i j _ _ _ _ _ _ Ii Ij hx hmi hxj hσi hσj hr
   ·have h1:=own i _ _ _ Ii hz hmi hx hσi
    obtain rfl:=zrow j _ _ _ y1 y2 hxj
    rw [t1 j y1 y2] at hσj
    obtain ⟨J,hR⟩:=hH.rows j _ _ _ hxj
    have:J=Ij:=Option.some.inj (hR.here.symm.trans hσj)
    subst this
    have:=(hR.old rfl).1
    omega
  ·exact absurd (zrow i _ _ _ z1 z2 hx) hmi
 ·rcases gN i _ hi with ⟨_,h⟩|⟨z1,z2,h⟩
  ·rcases h2 i _ h with h|⟨_,_,_,h,_⟩<;>cases h
  ·rw [List.getElem?_append_right (by omega)] at h
   rcases hG _ _ h with h|⟨_,_,h⟩<;>cases h
 ·rcases gN i _ hi with ⟨_,h⟩|⟨z1,z2,h⟩
  ·rcases h2 i _ h with h|⟨_,_,_,h,_⟩<;>cases h
  ·rw [List.getElem?_append_right (by omega)] at h
   rcases hG _ _ h with h|⟨_,_,h⟩<;>cases h
 ·by_cases hz:m≤i∧i<m+k
  ·rw [t1 i hz.1 hz.2] at e
   exact Nat.lt_of_lt_of_le (hH.fit i I e) hsz
  ·rw [t0 i hz] at e
   exact q5.fit i I e
end Go.Wm
end
section
namespace Go.Wm
set_option linter.unusedSimpArgs false
set_option linter.unusedVariables false
set_option linter.unusedSectionVars false
class EncK (α:Type) where
 kk:KK
 enc:α→VV
 is: ∀a,KK.is kk (enc a)=true
 cmp: ∀[DecidableEq α] (a b:α),KK.cmp kk (enc a) (enc b)=some (decide (a=b))
instance:EncK (List UInt8):=⟨.str,.str,fun a=>rfl,fun a b=>by
 simp only [KK.cmp,KK.is,KK.same,cond_true]
 congr 1
 by_cases h:a=b
 ·subst h;simp
 ·simp [h]⟩
theorem beq_ne {a b:Nat} (h:a≠b):a.beq b=false:=by
 cases e:a.beq b with
 |false=>rfl
 |true=>exact absurd (Nat.eq_of_beq_eq_true e) h
theorem ieq_dec (a b:Int):ieq a b=decide (a=b):=by
 by_cases h:a=b
 ·subst h
  simp only [decide_true]
  cases a<;>simp [ieq]
 ·simp only [h,decide_false]
  cases a<;>cases b<;>simp [ieq]
  ·exact beq_ne fun e=>h (by rw [e])
  ·exact beq_ne fun e=>h (by rw [e])
instance:EncK Int:=⟨.int .i64,.int .i64,fun a=>by simp [KK.is],fun a b=>by
 simp only [KK.cmp,KK.is,KK.same,ieq_dec]
 simp⟩
section
variable {α:Type} [EncK α] [DecidableEq α] {H:Hp} {b:Nat} {l:List (α×VV)}
def encL (l:List (α×VV)):List (VV×VV):=l.map fun e=>(EncK.enc e.1,e.2)
def MpR (H:Hp) (b:Nat) (l:List (α×VV)):Prop:=H[b]? =some (.obj (.map (encL l)))
def mget:List (α×VV)→α→Option VV
 |[],_=>none
 |(k',v)::l,k=>if k=k' then some v else mget l k
def mput:List (α×VV)→α→VV→List (α×VV)
 |[],k,u=>[(k,u)]
 |(k',v)::l,k,u=>if k=k' then (k,u)::l else (k',v)::mput l k u
theorem mget_mput (l:List (α×VV)) (k k':α) (u:VV):mget (mput l k u) k'=if k'=k then some u else mget l k':=by
 induction l with
 |nil=>simp [mput,mget]
 |cons e l ih=>
  obtain ⟨q,v⟩:=e
  unfold mput
  by_cases h:k=q
  ·subst h
   rw [if_pos rfl]
   simp only [mget]
   split<;>rfl
  ·rw [if_neg h]
   simp only [mget]
   rw [ih]
   by_cases h2:k'=q
   ·subst h2
    rw [if_pos rfl,if_neg (Ne.symm h),if_pos rfl]
   ·rw [if_neg h2]
    split<;>simp [h2]
theorem findV_enc (k:α): ∀(l:List (α×VV)) (i:Nat),(findV (EncK.kk α) (EncK.enc k) (encL l) i=some none∧mget l k=none∧ ∀u,encL (mput l k u)=encL l++[(EncK.enc k,u)])∨
 ∃j y,findV (EncK.kk α) (EncK.enc k) (encL l) i=some (some (i+j,y))∧mget l k=some y∧ ∀u,encL (mput l k u)=(encL l).set j (EncK.enc k,u)
 |[],i=> .inl ⟨rfl,rfl,fun u=>rfl⟩
 |(q,v)::l,i=>by
  have hc:=EncK.cmp (α:=α) k q
  by_cases h:k=q
  ·subst h
   right
   refine ⟨0,v,?_,by simp [mget],fun u=>by simp [mput,encL]⟩
   simp only [encL,List.map_cons,findV,hc]
   simp
  ·rcases findV_enc k l (i+1) with ⟨h1,h2,h3⟩|⟨j,y,h1,h2,h3⟩
   ·refine .inl ⟨?_,by simp [mget,h,h2],fun u=> ?_⟩
    ·simp only [encL,List.map_cons,findV,hc]
     simp only [h,decide_false]
     exact h1
    ·have:=h3 u
     simp only [mput,if_neg h]
     simp only [encL,List.map_cons] at this ⊢
     rw [this];rfl
   ·refine .inr ⟨j+1,y,?_,by simp [mget,h,h2],fun u=> ?_⟩
    ·simp only [encL,List.map_cons,findV,hc]
     simp only [h,decide_false]
     rw [show i+(j+1)=i+1+j by omega]
     exact h1
    ·have:=h3 u
     simp only [mput,if_neg h]
     simp only [encL,List.map_cons] at this ⊢
     rw [this];rfl
theorem MpR.lt (h:MpR H b l):b<H.length:=(List.getElem?_eq_some_iff.1 h).1
theorem MpR.keep {H':Hp} {M:List Nat} (h:MpR H b l) (k:Keep M H H') (hb:b∉M):MpR H' b l:=k.get h hb
theorem ev_lkp {E:Fr} {x y:Od} {k:α} {z:VV} (h:MpR H b l) (hx:x.ev E=some (.map (some b))) (hy:y.ev E=some (EncK.enc k)):(VOp.lkp (EncK.kk α) z false x y).ev E H.g=some ((mget l k).getD z):=by
 have h':H.g b=some (.obj (.map (encL l))):=h
 simp only [VOp.ev,hx,hy,mapOf,h',EncK.is,if_true]
 rcases findV_enc k l 0 with ⟨h1,h2,_⟩|⟨j,y',h1,h2,_⟩
 ·rw [h1,h2];simp
 ·rw [h1,h2];simp
theorem ev_mset {k:α} {u:VV} (h:MpR H b l): ∃us,(∀(E:Fr) (x y z:Od) (n:Nat),x.ev E=some (.map (some b))→y.ev E=some (EncK.enc k)→z.ev E=some u→(VEf.mset (EncK.kk α) x y z).ev E H.g n=some (.undef,us))∧MpR (applyU H us) b (mput l k u)∧Keep [b] H (applyU H us)∧(applyU H us).length=H.length:=by
 have h':H.g b=some (.obj (.map (encL l))):=h
 have hlt:=h.lt
 refine ⟨[(b,.obj (.map (encL (mput l k u))))],fun E x y z n hx hy hz=> ?_,?_,?_,?_⟩
 ·simp only [VEf.ev,hx,hy,hz,EncK.is,if_true,h']
  rcases findV_enc k l 0 with ⟨h1,h2,h3⟩|⟨j,y',h1,h2,h3⟩
  ·rw [h1,h3 u]
  ·rw [h1,h3 u]
   simp
 ·rw [applyU_set hlt];exact List.getElem?_set_self hlt
 ·rw [applyU_set hlt];exact (Keep.refl _).set (fun _=>by simp) _
 ·rw [applyU_set hlt];simp
end
theorem OD.mk {P:Program} {N:Nat} {rn:Bool} {E:Fr} {H:Hp} {Q:VQ} {ops:List VI} {d:Nat} {α:Type} [EncK α] {g:Option (Nat×Bool)} (hw:want E g=some true)
 (hn: ∀H2,MpR (α:=α) H2 H.length []→Keep [] H H2→H2.length=H.length+1→OD P N rn ops ((d,.map (some H.length))::E) H2 Q):OD P N rn (.ef (some d) g .mkmap::ops) E H Q:=by
 refine OD.ef hw (v:= .map (some H.length)) (us:=[(H.length,.obj (.map []))]) rfl ?_
 rw [applyU_push]
 exact hn _ (by simp [MpR,encL]) (Keep.app _) (by simp)
end Go.Wm
end
section
namespace Go.Wm
set_option linter.unusedSimpArgs false
set_option linter.unusedVariables false
open Go.RowKit
section
variable {D:Type} {P:Program} {H:Hp} {t e:TypeId} {vs:List VV} {d:DataW D}
theorem Rd.int_inv {k:IntKind} (ht:P.underlying t=some (.int k)) (h:Rd P H t vs d): ∃n,vs=[.int k n]∧(Lit.int k n).wf=true∧d= .lit (.int k n):=by
 cases h with
 |int ht' hw=>rw [ht] at ht';cases ht';exact ⟨_,rfl,hw,rfl⟩
 |bool ht'=>rw [ht] at ht';cases ht'
 |str ht'=>rw [ht] at ht';cases ht'
 |nil ht'=>rw [ht] at ht';cases ht'
 |sl ht'=>rw [ht] at ht';cases ht'
 |struct ht'=>rw [ht] at ht';cases ht'
theorem Rd.bool_inv (ht:P.underlying t=some .bool) (h:Rd P H t vs d): ∃b,vs=[.bool b]∧d= .lit (.bool b):=by
 cases h with
 |bool ht' b=>exact ⟨b,rfl,rfl⟩
 |int ht'=>rw [ht] at ht';cases ht'
 |str ht'=>rw [ht] at ht';cases ht'
 |nil ht'=>rw [ht] at ht';cases ht'
 |sl ht'=>rw [ht] at ht';cases ht'
 |struct ht'=>rw [ht] at ht';cases ht'
theorem Rd.str_inv (ht:P.underlying t=some .string) (h:Rd P H t vs d): ∃s,vs=[.str s]∧s.length≤maxLen∧d= .lit (.string s):=by
 cases h with
 |str ht' hs=>exact ⟨_,rfl,hs,rfl⟩
 |bool ht'=>rw [ht] at ht';cases ht'
 |int ht'=>rw [ht] at ht';cases ht'
 |nil ht'=>rw [ht] at ht';cases ht'
 |sl ht'=>rw [ht] at ht';cases ht'
 |struct ht'=>rw [ht] at ht';cases ht'
theorem Rd.sl_inv (ht:P.underlying t=some (.slice e)) (h:Rd P H t vs d): ∃(p:Option PA) (es:List (List VV)) (c:Nat) (ds:List (DataW D)),vs=[.sl p es.length c]∧es.length≤c∧c≤maxLen∧Sl H p (P.cellsOf e) es∧ds.length=es.length∧
 (∀x∈es,x.length=P.cellsOf e)∧(∀(i:Nat) x y,es[i]? =some x→ds[i]? =some y→Rd P H e x y)∧((p=none∧c=0∧d= .nil∧ds=[])∨ ∃rest,d= .slice ds rest):=by
 cases h with
 |nil ht'=>exact ⟨none,[],0,[],rfl,Nat.le_refl _,by decide,.inl rfl,rfl,by simp,by simp,.inl ⟨rfl,rfl,rfl,rfl⟩⟩
 |bool ht'=>rw [ht] at ht';cases ht'
 |int ht'=>rw [ht] at ht';cases ht'
 |str ht'=>rw [ht] at ht';cases ht'
 |struct ht'=>rw [ht] at ht';cases ht'
 |sl ht' b len cap es ds rest hlc hm hd hr hrow hes hln hel=>
  rw [ht] at ht'
  cases ht'
  have hl:(es.take len).length=len:=by rw [List.length_take];omega
  refine ⟨some ⟨b,0,0⟩,es.take len,cap,ds,by rw [hl],by omega,hm,?_,by omega,fun x hx=>hln x (List.mem_of_mem_take hx),fun i x y hx hy=> ?_,.inr ⟨rest,rfl⟩⟩
  ·rcases Nat.eq_zero_or_pos cap with h0|h0
   ·left;rw [show len=0 by omega];simp
   ·right
    refine ⟨b,0,.ro,_,es,rfl,hrow h0,hln,fun k x hx=> ?_⟩
    rw [List.getElem?_take] at hx
    split at hx
    ·rw [Nat.zero_add];exact hx
    ·cases hx
  ·rw [List.getElem?_take] at hx
   split at hx
   ·exact hel i x y hx (by rw [List.getElem?_append_left (List.getElem?_eq_some_iff.1 hy).1];exact hy)
   ·cases hx
theorem Rd.ints (ht:P.underlying t=some (.slice e)) (he:P.underlying e=some (.int .i64)) (hc:P.cellsOf e=1) (h:Rd P H t vs d): ∃(p:Option PA) (l:List Int) (c:Nat),vs=[.sl p l.length c]∧l.length≤maxLen∧Sl H p 1 (intEs l)∧ ∀n∈l,(Lit.int .i64 n).wf=true:=by
 obtain ⟨p,es,c,ds,rfl,h1,h2,h3,h4,h5,h6,_⟩:=h.sl_inv ht
 have key: ∀(es:List (List VV)) (ds:List (DataW D)),ds.length=es.length→(∀(i:Nat) x y,es[i]? =some x→ds[i]? =some y→Rd P H e x y)→ ∃l,es=intEs l∧ ∀n∈l,(Lit.int .i64 n).wf=true:=by
  intro es
  induction es with
  |nil=>intro ds _ _;exact ⟨[],rfl,by simp⟩
  |cons x es ih=>
   intro ds hl hd
   cases ds with
   |nil=>simp at hl
   |cons y ds=>
    obtain ⟨l,rfl,hw⟩:=ih ds (by simpa using hl) fun i x y hx hy=>hd (i+1) x y (by simpa using hx) (by simpa using hy)
    obtain ⟨n,rfl,hn,_⟩:=(hd 0 x y rfl rfl).int_inv he
    refine ⟨n::l,rfl,fun m hm=> ?_⟩
    rcases List.mem_cons.1 hm with rfl|hm
    ·exact hn
    ·exact hw m hm
 obtain ⟨l,rfl,hw⟩:=key es ds h4 h6
 rw [intEs_len] at h1 ⊢
 exact ⟨p,l,c,rfl,by omega,by rw [hc] at h3;exact h3,hw⟩
theorem wf_i64 {n:Int} (h:(Lit.int .i64 n).wf=true): -9223372036854775808≤n∧n≤9223372036854775807:=by
 simpa [Lit.wf,IntKind.min,IntKind.max,IntKind.signed,IntKind.bits] using h
theorem ArgRd.int_inv {v:VV} {k:IntKind} (ht:P.underlying t=some (.int k)) (h:ArgRd P H t v d): ∃n,v= .int k n∧(Lit.int k n).wf=true:=by
 obtain ⟨vs,h1,h2⟩:=h
 obtain ⟨n,rfl,hw,_⟩:=h1.int_inv ht
 exact ⟨n,by simpa [isStruct,ht] using h2,hw⟩
end
end Go.Wm
end
section
namespace Go.Wm
set_option linter.unusedSimpArgs false
set_option linter.unusedVariables false
open Go.RowKit Go.ChangeShapes Go.WideShapes Go.ChangeAt
section
variable {D:Type} {enc:TypeId×Value→D} {P:Program} {W:World}
theorem law_contract_ints {f:FuncId} {fn:Func} {s:ChangeSpec} {tb:TypeId} {d0:Nat} {apart fresh handsOn again:Bool} (hpos:0<W.heap.size) (hl:laidOutB P=true) (hr: ∀t∈fn.params.toList,P.readableRec t=true∧t<P.types.size) (hp: ∀t∈fn.params.toList,plainB P d0 t=true)
 (hv:s.vars=[]) (hrt:fn.resultTypes=#[tb]) (htb:P.underlying tb=some .bool) (hs: ∀ds:List (DataW D),ds.length=fn.params.size→s.fn D ds={results:=[.lit (.bool true)],args:=ds})
 {H0:Hp} {σ0:Sg} (h0:HRel P σ0 W.heap.size H0 W)
 {t e:TypeId} (hpt:fn.params.toList=[t]) (hte:P.underlying t=some (.slice e)) (hee:P.underlying e=some (.int .i64)) (hce:P.cellsOf e=1) {m:Nat} (hm:H0.length=m) (hGL:GL.length≤m) (h0a: ∀k,HAvd m (m+k) H0) (h0r: ∀(i:Nat) (x:Blk),H0[i]? =some x→x= .dead∨ ∃t es,x= .row t .ro es)
 (args:Array Value) (ds gs:List (DataW D)) (law: ∀(X:Blk) (p:Option PA) (l:List Int) (c:Nat),(X= .dead∨ ∃t es,X= .row t .ro es)→Sl (H0++[X]) p 1 (intEs l)→(∀n∈l,(Lit.int .i64 n).wf=true)→l.length≤maxLen→FnV P f [.sl p l.length c] (H0++[X]) fun r _=>r= .bool true)
 (before:List MemPlace) (base:Nat)
 (hval: ∀(j:Nat) t v,fn.params[j]? =some t→args[j]? =some v→Value.okWide P W .any base t v) (hW:DataW.Whole enc P fn.params.toList s.vars apart W args.toList ds gs before):
 Calls P f args W fun e W'=> ∃v,e= .returned v∧s.post enc P fn apart fresh handsOn again W args v W':=by
 have hW':=hW
 obtain ⟨p,q,hA,hV,rfl,hfz,hnd⟩:=hW
 rw [hv] at hV
 have hgs:gs=[]∧q=[]:=by cases gs<;>simp [DataW.TrodVars] at hV;exact ⟨rfl,hV⟩
 obtain ⟨rfl,rfl⟩:=hgs
 obtain ⟨σ,G,vvs,q1,q2,q3,q4⟩:=openArgs hpos fn.params.toList hp args.toList ds p (fun j t v h1 h2=>⟨_,_,hval j t v (by simpa using h1) (by simpa using h2)⟩) hA h0
 have hlen:ds.length=fn.params.size:=by
  have: ∀{ts:List TypeId} {vvs:List VV} {ds:List (DataW D)},ArgsRd P (H0++G) ts vvs ds→ds.length=ts.length:=by
   intro ts vvs ds h
   induction h with
   |nil=>rfl
   |cons h r ih=>simp [ih]
  have:=this q4
  simpa using this
 have hsp:=hs ds hlen
 have hro: ∀(i:Nat) (x:Blk),G[i]? =some x→x= .dead∨ ∃t es,x= .row t .ro es:=by
  intro i x hx
  have hx':(H0++G)[H0.length+i]? =some x:=by rw [List.getElem?_append_right (by omega)];simpa using hx
  cases x with
  |dead=>exact .inl rfl
  |row t md es=>
   right
   by_cases hm:md= .ro
   ·subst hm;exact ⟨t,es,rfl⟩
   ·obtain ⟨I,hR⟩:=q2.rows _ _ _ _ hx'
    have h1:=(hR.own hm).1
    have h2:=hR.lt
    omega
  |obj o=>
   obtain ⟨I,ho,h1,h2,_,h4,_⟩:=q2.objs _ _ hx'
   have:=(Array.getElem?_eq_some_iff.1 h4).1
   omega
 rw [hpt] at q4
 obtain ⟨σ2,vv,X,k1,k2,k3⟩: ∃(σ2:Sg) (vv:VV) (X:Blk),HRel P σ2 W.heap.size (H0++[X]) W∧LRel σ2 [vv] args.toList∧FnV P f [vv] (H0++[X]) (fun r _=>r= .bool true):=by
  cases q4 with
  |cons g1 g2=>
  cases g2
  obtain ⟨vs,g3,g4⟩:=g1
  obtain ⟨p,l,c,rfl,hlm,hs,hwf⟩:=g3.ints hte hee hce
  have e1:isStruct P t=false:=by unfold isStruct;rw [hte]
  rw [e1] at g4
  obtain rfl:_=VV.sl p l.length c:=g4
  obtain ⟨x,hx,hr1⟩: ∃x,args.toList=[x]∧VRel σ (.sl p l.length c) x:=by
   generalize args.toList=al at q3
   cases q3 with
   |cons a1 a2=>cases a2;exact ⟨_,rfl,a1⟩
  rw [hx]
  have base: ∀(I:Option Info) (X:Blk),(∀J,I=some J→J.real<W.heap.size)→(X= .dead∨ ∃t l J,X= .row t .ro (intEs l)∧I=some J∧J.n=l.length∧J.esz=1∧J.room=none∧ ∀(k:Nat) n,l[k]? =some n→W.cell? ⟨J.real,J.base+k,none⟩=some (.int .i64 n))→
   HRel P (fun i=>if i<m then σ i else if i=m then I else none) W.heap.size (H0++[X]) W:=by
   intro I X hI hX
   have agree: ∀i,¬(m≤i∧i<m+(G.length+1))→(fun i=>if i<m then σ i else if i=m then I else none) i=σ i:=fun i hi=>by
    by_cases h1:i<m
    ·simp [h1]
    ·have h2:m+(G.length+1)≤i:=by omega
     have h3:σ i=none:=by
      cases h:σ i with
      |none=>rfl
      |some J=>have:=q2.dom i J h;simp [hm] at this;omega
     simp only [h3]
     rw [if_neg (by omega),if_neg (by omega)]
   have low: ∀(i:Nat) (x:Blk),(H0++[X])[i]? =some x→(i<m∧H0[i]? =some x∧(H0++G)[i]? =some x)∨(i=m∧x=X):=fun i x hx=>by
    by_cases h1:i<m
    ·rw [List.getElem?_append_left (by omega)] at hx
     exact .inl ⟨h1,hx,by rw [List.getElem?_append_left (by omega)];exact hx⟩
    ·rw [List.getElem?_append_right (by omega)] at hx
     have h2:=(List.getElem?_eq_some_iff.1 hx).1
     simp at h2
     have h3:i=m:=by omega
     subst h3
     rw [show i-H0.length=0 by omega] at hx
     exact .inr ⟨rfl,by simpa using hx.symm⟩
   have isRo: ∀(i:Nat) t md es,(H0++[X])[i]? =some (.row t md es)→md= .ro:=fun i t md es hx=>by
    rcases low i _ hx with ⟨_,h,_⟩|⟨_,h⟩
    ·rcases h0r i _ h with h|⟨_,_,h⟩
     ·cases h
     ·cases h;rfl
    ·rcases hX with h'|⟨_,_,_,h',_⟩
     ·rw [h'] at h;cases h
     ·rw [h'] at h;cases h;rfl
   have noObj: ∀(i:Nat) o,(H0++[X])[i]? ≠some (.obj o):=fun i o hx=>by
    rcases low i _ hx with ⟨_,h,_⟩|⟨_,h⟩
    ·rcases h0r i _ h with h|⟨_,_,h⟩<;>cases h
    ·rcases hX with h'|⟨_,_,_,h',_⟩<;>(rw [h'] at h;cases h)
   refine ⟨q2.base,fun i J hJ=> ?_,fun i t md es hi=> ?_,fun i j ti mi esi tj mj esj Ii Ij hi hmi=>absurd (isRo i _ _ _ hi) hmi,fun i o hi=>absurd hi (noObj i o),fun i j o o' I J hi=>absurd hi (noObj i o),fun i g hg=> ?_,fun i J hJ=> ?_⟩
   ·by_cases h1:i<m
    ·simp;omega
    ·simp only [h1,if_false] at hJ
     by_cases h2:i=m
     ·simp;omega
     ·simp [h2] at hJ
   ·rcases low i _ hi with ⟨h1,h2,h3⟩|⟨h1,h2⟩
    ·obtain ⟨J,hR⟩:=q2.rows i t md es h3
     refine ⟨J,by simp only [h1,if_true];exact hR.here,hR.lt,hR.len,hR.esz,fun k' e j v' y1 y2=> ?_,hR.old,hR.own⟩
     obtain ⟨z1,v'',z2,z3⟩:=hR.cell k' e j v' y1 y2
     refine ⟨z1,v'',z2,z3.re agree ?_⟩
     rcases h0a (G.length+1) i _ h2 with h|⟨t',md',es',h,hav⟩
     ·cases h
     ·cases h;exact hav k' e j v' y1 y2
    ·subst h1
     rcases hX with h'|⟨t',l',J,h',hJ,hn,hz,hrm,hcell⟩
     ·rw [h'] at h2;cases h2
     ·rw [h'] at h2
      cases h2
      have hlt:=hI J hJ
      refine ⟨J,by simp [hJ],hlt,by rw [intEs_len,hn],fun e he=>by obtain ⟨n,_,rfl⟩:=List.mem_map.1 he;rw [hz];rfl,fun k' e j v' y1 y2=> ?_,fun _=>⟨hlt,hrm⟩,fun h=>absurd rfl h⟩
      rw [intEs_get] at y1
      cases hn':l'[k']? with
      |none=>rw [hn'] at y1;cases y1
      |some n=>
       rw [hn'] at y1
       obtain rfl:[VV.int .i64 n]=e:=by simpa using y1
       cases j with
       |zero=>
        cases y2
        exact ⟨rfl,_,by rw [hz,Nat.mul_one,Nat.add_zero];exact hcell k' n hn',.int _ _⟩
       |succ j=>simp at y2
   ·obtain ⟨J,y1,y2,y3⟩:=q2.glob i g hg
    have:=(List.getElem?_eq_some_iff.1 hg).1
    exact ⟨J,by simp only [show i<m by omega,if_true];exact y1,y2,y3⟩
   ·by_cases h1:i<m
    ·simp only [h1,if_true] at hJ;exact q2.fit i J hJ
    ·simp only [h1,if_false] at hJ
     by_cases h2:i=m
     ·simp only [h2,if_true] at hJ;exact hI J hJ
     ·simp [h2] at hJ
  cases p with
  |none=>
   have hl0:l=[]∧x= .slice none 0 0:=by
    generalize hn:l.length=n at hr1
    cases hr1
    exact ⟨List.eq_nil_of_length_eq_zero hn,rfl⟩
   obtain ⟨rfl,rfl⟩:=hl0
   exact ⟨_,.sl none 0 0,.dead,base none .dead (fun J h=>by cases h) (.inl rfl),.cons .slNil .nil,law .dead none [] 0 (.inl rfl) (.inl rfl) (by simp) (Nat.zero_le _)⟩
  |some q=>
   obtain ⟨ad,c',rfl,hsl⟩:=sl_inv hr1
   by_cases hl:l=[]
   ·subst hl
    rcases hsl.2 with ⟨⟨I,g5,g6⟩,g7⟩|⟨I',m',g5',_,_,⟨I,g5,g6⟩,_,_,_⟩|⟨g5,g6,I,g7⟩
    ·exact ⟨_,.sl (some ⟨m,0,0⟩) 0 c',.dead,base (some ⟨I.real,I.base+q.idx*I.esz+q.off,1,0,none⟩) .dead (fun J h=>by cases h;exact q2.fit _ I g5) (.inl rfl),.cons (.sl ⟨Nat.zero_le _,.inl ⟨⟨⟨I.real,I.base+q.idx*I.esz+q.off,1,0,none⟩,by simp,by rw [g6];simp⟩,rfl⟩⟩) .nil,law .dead (some ⟨m,0,0⟩) [] c' (.inl rfl) (.inl rfl) (by simp) (Nat.zero_le _)⟩
    ·exact ⟨_,.sl (some ⟨m,0,0⟩) 0 c',.dead,base (some ⟨I.real,I.base+q.idx*I.esz+q.off,1,0,none⟩) .dead (fun J h=>by cases h;exact q2.fit _ I g5) (.inl rfl),.cons (.sl ⟨Nat.zero_le _,.inl ⟨⟨⟨I.real,I.base+q.idx*I.esz+q.off,1,0,none⟩,by simp,by rw [g6];simp⟩,rfl⟩⟩) .nil,law .dead (some ⟨m,0,0⟩) [] c' (.inl rfl) (.inl rfl) (by simp) (Nat.zero_le _)⟩
    ·subst g6
     exact ⟨_,.sl (some ⟨m,0,0⟩) 0 0,.dead,base (some I) .dead (fun J h=>by cases h;exact q2.fit _ I g7) (.inl rfl),.cons (.sl ⟨Nat.zero_le _,.inr (.inr ⟨rfl,rfl,I,by simp⟩)⟩) .nil,law .dead (some ⟨m,0,0⟩) [] 0 (.inl rfl) (.inl rfl) (by simp) (Nat.zero_le _)⟩
   ·have hlen:0<l.length:=List.length_pos_iff.2 hl
    rcases hs with hs|⟨b,i,md,t',rows,hq,hb,hz,hk⟩
    ·exact absurd (List.eq_nil_of_length_eq_zero (by rw [←intEs_len,hs];rfl)) hl
    cases hq
    have hmd:md= .ro:=by
     by_cases h1:b<m
     ·rw [List.getElem?_append_left (by omega)] at hb
      rcases h0r b _ hb with h|⟨_,_,h⟩
      ·cases h
      ·cases h;rfl
     ·rw [List.getElem?_append_right (by omega)] at hb
      rcases hro _ _ hb with h|⟨_,_,h⟩
      ·cases h
      ·cases h;rfl
    subst hmd
    obtain ⟨I,hR⟩:=q2.rows _ _ _ _ hb
    have hroom:=(hR.old rfl).2
    have hcell: ∀(k:Nat) n,l[k]? =some n→rows[i+k]? =some [.int .i64 n]:=fun k n hn=>hk k _ (by rw [intEs_get,hn];rfl)
    have hez:I.esz=1:=by
     have h0:=hcell 0 l[0] (List.getElem?_eq_getElem hlen)
     rw [←hR.esz _ (List.mem_of_getElem? h0)];rfl
    have hpl:ad=⟨I.real,I.base+i*I.esz,none⟩∧c'=c:=by
     rcases hsl.2 with ⟨⟨J,g5,g6⟩,g7⟩|⟨J,m',g5,g6,_⟩|⟨g5,g6,_⟩
     ·have:I=J:=Option.some.inj (hR.here.symm.trans g5)
      subst this
      exact ⟨by rw [g6];simp,g7⟩
     ·have:I=J:=Option.some.inj (hR.here.symm.trans g5)
      subst this
      rw [hroom] at g6;cases g6
     ·have:=hsl.1;omega
    obtain ⟨rfl,rfl⟩:=hpl
    refine ⟨_,.sl (some ⟨m,0,0⟩) l.length c',.row t' .ro (intEs l),base (some ⟨I.real,I.base+i*I.esz,1,l.length,none⟩) _ (fun J h=>by cases h;exact q2.fit _ I hR.here) (.inr ⟨t',l,_,rfl,rfl,rfl,rfl,rfl,fun k n hn=> ?_⟩),.cons (.sl ⟨hsl.1,.inl ⟨⟨⟨I.real,I.base+i*I.esz,1,l.length,none⟩,by simp,by simp⟩,rfl⟩⟩) .nil,law (.row t' .ro (intEs l)) (some ⟨m,0,0⟩) l c' (.inr ⟨_,_,rfl⟩) (.inr ⟨m,0,.ro,t',intEs l,rfl,by rw [←hm];simp,fun e he=>by obtain ⟨n,_,rfl⟩:=List.mem_map.1 he;rfl,fun k e he=>by simpa using he⟩) hwf hlm⟩
    obtain ⟨_,v',z2,z3⟩:=hR.cell (i+k) _ 0 _ (hcell k n hn) rfl
    cases z3
    rw [show I.base+(i+k)*I.esz+0=I.base+i*I.esz+k by rw [hez];omega] at z2
    exact z2
 refine (k3.2 σ2 W.heap.size W args k1 k2).mono fun e w' ⟨r,v',H',σ',e1,e2,e3,hmv,_⟩=> ?_
 have hb:=hmv.bl
 subst e3
 cases e2
 refine ⟨_,e1,post_of_below (pa:=p) (pv:=[]) hW' ?_ ?_ ?_ rfl hb ?_⟩
 ·intro b sp hd
  rw [List.append_nil,hsp,hrt]
  exact trodAll_cons_mk (shut_bool htb _) trodAll_mk0
 ·intro sp hsp'
  rw [List.append_nil,hsp]
  refine argsStay hl hb hr (fun x hx=>hW'.lt x (by simp [hx])) (fun x hx=>hsp' x (by simp [hx])) hA
 ·intro sp _
  rw [List.append_nil,hsp,hv]
  exact rfl
 ·exact ok_one hrt rfl (okWide_bool_mk htb _)
end
end Go.Wm
end
section
namespace Go.Proofs.YtnjjieohlnhicaaGreatDoor
set_option linter.unusedSimpArgs false
set_option linter.unusedVariables false
open Go Go.Wm Go.Proofs Go.ChangeShapes Go.WideShapes Go.ChangeAt Go.RowKit
set_option maxRecDepth 100000
theorem own:ownKnob Tryz.prog.godebug=none:=by kernel_rfl
theorem laidOut:laidOutB Tryz.prog=true:=by kernel_rfl
theorem gTab:Tryz.prog.globalNamed "math/bits.deBruijn64tab" =some 1:=by kernel_rfl
theorem gOrd:Tryz.prog.globalNamed "presage/scan.orders" =some 0:=by kernel_rfl
theorem tTab:(Tryz.prog.globals[1]?).map (·.type)=some 404:=by kernel_rfl
theorem tOrd:(Tryz.prog.globals[0]?).map (·.type)=some 25:=by kernel_rfl
theorem uTab:Tryz.prog.underlying 404=some (.array 64 5):=by kernel_rfl
theorem uU8:Tryz.prog.underlying 5=some (.int .u8):=by kernel_rfl
theorem uOrd:Tryz.prog.underlying 25=some (.slice 9):=by kernel_rfl
theorem uStr:Tryz.prog.underlying 9=some .string:=by kernel_rfl
theorem uBool:Tryz.prog.underlying 4=some .bool:=by kernel_rfl
theorem cU8:Tryz.prog.cellsOf 5=1:=by kernel_rfl
theorem cTab:Tryz.prog.cellsOf 404=64:=by kernel_rfl
theorem cStr:Tryz.prog.cellsOf 9=1:=by kernel_rfl
def laidL:List (String×DataW Unit):=[("math/bits.deBruijn64tab",Rows.laid_math_bits_deBruijn64tab),("presage/scan.orders",Rows.laid_presage_scan_orders)]
def tabZs:List Int:=[0,1,56,2,57,49,28,3,61,58,42,50,38,29,17,4,62,47,59,36,45,43,51,22,53,39,33,30,24,18,12,5,63,55,48,27,60,41,37,16,46,35,44,21,52,32,23,11,54,26,40,15,34,20,31,10,25,14,19,9,13,8,7,6]
def ordSs:List (List UInt8):=[[37,108,101,102,116],[37,110,111,110,97,115,115,111,99],[37,110,111,110,101],[37,112,114,101,99],[37,114,105,103,104,116],[37,115,116,97,114,116],[37,116,111,107,101,110]]
theorem tab_eq:(Rows.laid_math_bits_deBruijn64tab:DataW Unit)=Lib.tabData .u8 tabZs:=rfl
theorem ord_eq:(Rows.laid_presage_scan_orders:DataW Unit)= .slice (ordSs.map fun s=> .lit (.string s)) []:=rfl
def H0:Hp:=[.row 25 .ro [[.sl (some ⟨2,0,0⟩) 7 7]],.row 404 .ro (tabZs.map fun n=>[.int .u8 n]),.row 0 .ro (ordSs.map fun s=>[.str s])]
theorem h0_of_laid {W:World} (h:laidMetH Tryz.prog laidL W): ∃σ,HRel Tryz.prog σ W.heap.size H0 W∧0<W.heap.size:=by
 rw [MakeChecks.laidMetH_plain _ _ _ (by kernel_rfl)] at h
 obtain ⟨ps,⟨g0,t0,cs0,f0,p0,q0,hg0,ht0,hv0,hd0,⟨g1,t1,cs1,f1,p1,q1,hg1,ht1,hv1,hd1,_,_⟩,_⟩,_,_⟩:=h
 obtain rfl:=Option.some.inj (gTab.symm.trans hg0)
 obtain rfl:=Option.some.inj (gOrd.symm.trans hg1)
 obtain rfl:=Option.some.inj (tTab.symm.trans ht0)
 obtain rfl:=Option.some.inj (tOrd.symm.trans ht1)
 rw [tab_eq] at hd0
 rw [ord_eq] at hd1
 have c0:=Lib.cells_of_tab uTab uU8 cU8 cTab hd0
 obtain ⟨a,c1,ha,hb,hs⟩:=strs_of_trod uOrd uStr cStr hd1 (by decide)
 have v0: ∀i:Nat,W.cell? ⟨1,i,none⟩=(tabZs[i]?).map fun z=>Value.int .u8 z:=fun i=>by
  rw [World.var?_cell hg0 hv0 i,←Array.getElem?_toList,c0,List.getElem?_map]
 have v1:W.cell? ⟨0,0,none⟩=some (.slice (some a) 7 7):=by
  rw [World.var?_cell hg1 hv1 0,←Array.getElem?_toList,c1];rfl
 have lt: ∀{g o:Nat} {v:Value},W.cell? ⟨g,o,none⟩=some v→g<W.heap.size:=fun {g o v} h=>by
  unfold World.cell? at h
  split at h
  ·rename_i hb;exact (Array.getElem?_eq_some_iff.1 hb).1
  ·cases h
 have l0:0<W.heap.size:=lt v1
 have l1:1<W.heap.size:=lt ((v0 0).trans rfl)
 obtain ⟨ab,ao,asp⟩:=a
 simp only at ha hb
 subst ha
 have d0:=HRel.dead0 (P:=Tryz.prog) (W:=W) [⟨0,0,1,1,none⟩,⟨1,0,1,64,none⟩] (fun i g hi=>by
  match i,hi with
  |0,hi=>cases hi;exact ⟨_,rfl,rfl,rfl⟩
  |1,hi=>cases hi;exact ⟨_,rfl,rfl,rfl⟩
  |i+2,hi=>cases hi) (fun I hI=>by
   rcases List.mem_cons.1 hI with rfl|hI
   ·exact l0
   ·rcases List.mem_cons.1 hI with rfl|hI
    ·exact l1
    ·cases hI)
 have one: ∀{α:Type} {f:α→VV} {l:List α} {k j:Nat} {e:List VV} {v:VV},(l.map fun x=>[f x])[k]? =some e→e[j]? =some v→j=0∧ ∃x,l[k]? =some x∧v=f x:=fun {α f l k j e v} hk hj=>by
  rw [List.getElem?_map] at hk
  obtain ⟨x,hx,rfl⟩:=Option.map_eq_some_iff.1 hk
  match j,hj with
  |0,hj=>cases hj;exact ⟨rfl,x,hx,rfl⟩
  |j+1,hj=>cases hj
 have d1:=d0.pushRo 0 (ordSs.map fun s=>[VV.str s]) ⟨ab,ao,1,7,none⟩ hb rfl rfl (fun e he=>by obtain ⟨s,_,rfl⟩:=List.mem_map.1 he;rfl) (fun k e j v he hv=>by
  obtain ⟨rfl,s,hk,rfl⟩:=one he hv
  exact ⟨rfl,_,by simpa using hs k s hk,.str s⟩)
 have d2:=d1.wake (i:=0) (I:=⟨0,0,1,1,none⟩) rfl rfl l0 rfl 25 [[.sl (some ⟨2,0,0⟩) 7 7]] rfl (fun e he=>by rcases List.mem_cons.1 he with rfl|he;exact rfl;cases he) (fun k e j v he hv=>by
  match k,he with
  |0,he=>
   cases he
   match j,hv with
   |0,hv=>
    cases hv
    refine ⟨rfl,_,v1,.sl ⟨Nat.le_refl _,.inl ⟨⟨⟨ab,ao,1,7,none⟩,rfl,?_⟩,rfl⟩⟩⟩
    rfl
   |j+1,hv=>cases hv
  |k+1,he=>cases he)
 have d3:=d2.wake (i:=1) (I:=⟨1,0,1,64,none⟩) rfl rfl l1 rfl 404 (tabZs.map fun n=>[VV.int .u8 n]) rfl (fun e he=>by obtain ⟨s,_,rfl⟩:=List.mem_map.1 he;rfl) (fun k e j v he hv=>by
  obtain ⟨rfl,z,hk,rfl⟩:=one he hv
  refine ⟨rfl,.int .u8 z,?_,.int _ _⟩
  have:=v0 k
  rw [hk] at this
  simpa using this)
 exact ⟨_,d3,l0⟩
theorem uInts:Tryz.prog.underlying 22=some (.slice 3):=by kernel_rfl
theorem uI64:Tryz.prog.underlying 3=some (.int .i64):=by kernel_rfl
theorem cI64:Tryz.prog.cellsOf 3=1:=by kernel_rfl
theorem ro0:RoHp H0:=RoHp.of (by kernel_rfl)
end Go.Proofs.YtnjjieohlnhicaaGreatDoor
end
