/- Texts as one: InsA InsB. -/
import Derived.Test.YtnjjieohlnhicaaGreatDoorProg
import Derived.Shelf.RegionOpenPlain
import Derived.Shelf.Spec.SlicesInsertGrow
import Derived.WalkKit
import Derived.Lib.Walk
import Derived.Lib.SliceRun
import Derived.Lib.JoinLaws
import Derived.Lib.AppendZeros
import Derived.Lib.Overlaps
import Derived.Lib.AppendZerosOnto
import Derived.Laws.Externs
import Derived.Laws.IdiomCopy
import Derived.Laws.NewBlocks
import Derived.KernelRfl
import Derived.Test.YtnjjieohlnhicaaGreatDoorKaj
section
set_option linter.unusedVariables false
set_option linter.unusedSimpArgs false
namespace Go.Proofs.YtnjjieohlnhicaaGreatDoor
open Go Go.Proofs Go.RowKit Go.Lib
namespace Ins
theorem run_copy_z {P:Program} (w:World) (dT sT ty elem:TypeId) (z b o dLen dCap:Nat) (a:Addr) (sLen sCap:Nat) (cs:List Value)
 (hu:P.underlying dT=some (.slice elem)) (hs:(P.info? elem).map (·.size)=some z) (hn:cs.length=Nat.min sLen dLen*z)
 (hsrc: ∀j v,cs[j]? =some v→w.cell? (a.add j)=some v) (hc: ∀j,j<cs.length→(w.cell? ⟨b,o+j,none⟩).isSome=true) (hf: ∀j,j<cs.length→w.frozen? ⟨b,o+j,none⟩=false) (h1: ∀v∈cs,v.oneCell'=true):
 (Builtin.copy_ #[dT,sT] ty #[.slice (some ⟨b,o,none⟩) dLen dCap,.slice (some a) sLen sCap]).run P w= .ok (goInt (Nat.min sLen dLen)) (w.setCells b o cs):=by
 have hl:=run_loadCells_list (P:=P) w a cs hsrc
 have hst:=run_storeCells_cells (P:=P) b o cs 0 w (by simpa using hc) (by simpa using hf) h1
 cases hq:P.info? elem with
 |none=>simp [hq] at hs
 |some i=>
  have hi:i.size=z:=by simpa [hq] using hs
  simp [Builtin.copy_,run_underlying hu,Builtin.lenOf,Builtin.firstCells,sizeOf,typeInfo,hq,hi,←hn,hl,hst]
theorem t111:Tryz.prog.underlying 111=some (.slice 114):=by kernel_rfl
theorem t3:Tryz.prog.underlying 3=some (.int .i64):=by kernel_rfl
theorem t4:Tryz.prog.underlying 4=some .bool:=by kernel_rfl
theorem i114:(Tryz.prog.info? 114).map (fun i=>(i.zero,i.size,i.bytes))=some (some (.agg #[.int .i64 0,.int .i64 0]),2,16):=by kernel_rfl
theorem mixed0:Tryz.prog.follows .mixedOrders=true:=by kernel_rfl
theorem z114: ∀w,(Go.sizeOf 114).run Tryz.prog w= .ok 2 w:=fun w=>by
 obtain ⟨i0,hi0,h0,h1,h2⟩:=info_parts i114
 simp [Go.sizeOf,typeInfo,hi0,h1]
theorem a3: ∀w,(isAgg 3).run Tryz.prog w= .ok false w:=fun w=>by simp [isAgg,run_underlying t3]
set_option maxHeartbeats 4000000 in
set_option maxRecDepth 100000 in
theorem ins_shift (b off n c vb voff vc:Nat) (cs vs:List Value) (w:World) (hi:0<n) (hroom:n+1≤c) (hc63:c≤9223372036854775807) (hvb:vb≠b)
 (hcl:cs.length=n*2) (hvl:vs.length=2)
 (hcs: ∀j v,cs[j]? =some v→w.cell? ⟨b,off+j,none⟩=some v) (hsp: ∀j,j<n*2+2→(w.cell? ⟨b,off+j,none⟩).isSome=true) (hfz: ∀j,j<n*2+2→w.frozen? ⟨b,off+j,none⟩=false)
 (hvs: ∀j v,vs[j]? =some v→w.cell? ⟨vb,voff+j,none⟩=some v) (h1c: ∀v∈cs,v.oneCell'=true) (h1v: ∀v∈vs,v.oneCell'=true)
 (tA tB:TypeId) (kA kB:Nat) (hsa:w.shape? vb=some (tA,kA)) (hsb:w.shape? b=some (tB,kB)) (hkB:kB≠0) (hfa:w.frozen? ⟨vb,voff,none⟩=false) (hfe:w.frozen? ⟨vb,kA,none⟩=false):
 Calls Tryz.prog 220 #[.slice (some ⟨b,off,none⟩) n c,.int .i64 0,.slice (some ⟨vb,voff,none⟩) 1 vc] w fun e w'=>
  e= .returned (.slice (some ⟨b,off,none⟩) (n+1) c)∧w'=(w.drew.setCells b (off+2) cs).setCells b off vs:=by
 have u3:=run_underlying t3;have u4:=run_underlying t4;have u111:=run_underlying t111
 have hz2: ¬((0:Int)=(n:Int)):=by omega
 have hsz:(Tryz.prog.info? 114).map (·.size)=some 2:=by
  obtain ⟨i0,hi0,h0,h1,h2⟩:=info_parts i114
  rw [hi0];simp [h1]
 have hov: ∀lb cb,(callFunc 279 #[.slice (some ⟨vb,voff,none⟩) 1 vc,.slice (some ⟨b,off+2,none⟩) lb cb]).run Tryz.prog w= .ok (.value (.bool false)) w:=fun lb cb=>by
  rw [run_callFunc_extern Tryz.func279 (by kernel_rfl) (by kernel_rfl) (by kernel_rfl) (e:=Extern.SlicesOverlaps.overlaps #[111,111] #[4]) (by kernel_rfl),
   Lib.run_overlaps_apart w 111 4 114 t111 2 z114 ⟨vb,voff,none⟩ ⟨b,off+2,none⟩ 1 vc lb cb hvb tA tB kA kB hsa hsb hkB hfa hfe]
  rfl
 have mixed:=mixed0
 have hw1:IntKind.i64.wrap (1:Int)=1:=by rw [IntKind.wrap_i64]<;>omega
 have hb1:(1:Int)≤(n:Int)+1:=by omega
 have hb2: ¬(c=1):=by omega
 have hb3:(0:Int)≤(n:Int)+1:=by omega
 have hb4: ¬(c=0):=by omega
 have hcp1: ∀ty dc sc,(Builtin.copy_ #[111,111] ty #[.slice (some ⟨b,off+2,none⟩) n dc,.slice (some ⟨b,off,none⟩) (n+1) sc]).run Tryz.prog w.drew= .ok (goInt n) (w.drew.setCells b (off+2) cs):=fun ty dc sc=>by
  have h:=run_copy_z (P:=Tryz.prog) w.drew 111 111 ty 114 2 b (off+2) n dc ⟨b,off,none⟩ (n+1) sc cs t111 hsz (by rw [hcl];congr 1;simp only [Nat.min_def];split<;>omega)
   (fun j v hj=>by rw [Addr.add_lit];exact hcs j v hj)
   (fun j hj=>by rw [Nat.add_assoc];exact hsp _ (by omega)) (fun j hj=>by rw [Nat.add_assoc];exact hfz _ (by omega)) h1c
  rw [show Nat.min (n+1) n=n by simp only [Nat.min_def];split<;>omega] at h
  exact h
 obtain ⟨W1,hW1⟩: ∃W1,W1=w.drew.setCells b (off+2) cs:=⟨_,rfl⟩
 have hsp1: ∀k,k<n*2+2→(W1.cell? ⟨b,off+k,none⟩).isSome=true:=fun k hk=>by
  rw [hW1]
  exact isSome_setCells b _ _ _ (fun j hj=>by rw [Nat.add_assoc];exact hsp _ (by omega)) _ (hsp k hk)
 have hcp2: ∀(W:World),(∀x,W.cell? x=W1.cell? x)→(∀x,W.frozen? x=W1.frozen? x)→ ∀ty dc,(Builtin.copy_ #[111,111] ty #[.slice (some ⟨b,off,none⟩) (n+1) dc,.slice (some ⟨vb,voff,none⟩) 1 vc]).run Tryz.prog W= .ok (goInt 1) (W.setCells b off vs):=fun W hWc hWf ty dc=>by
  have h:=run_copy_z (P:=Tryz.prog) W 111 111 ty 114 2 b off (n+1) dc ⟨vb,voff,none⟩ 1 vc vs t111 hsz (by rw [hvl,show Nat.min 1 (n+1)=1 by simp only [Nat.min_def];split<;>omega])
   (fun j v hj=>by
    rw [Addr.add_lit,hWc,hW1,World.cell?_setCells_out b _ _ _ _ (fun h _=>absurd h hvb)]
    exact hvs j v hj)
   (fun j hj=>by rw [hWc];exact hsp1 _ (by omega)) (fun j hj=>by rw [hWf,hW1,World.frozen?_setCells];exact hfz _ (by omega)) h1v
  rw [show Nat.min 1 (n+1)=1 by simp only [Nat.min_def];split<;>omega] at h
  exact h
 rw [←hW1] at hcp1
 go_enter Tryz.func220,Tryz.ntmps220
 go_wp2_with (simp only [hov])
 go_region_law_o (refine step_copy_runI rfl _ _ 111 111 rfl _ _ (by simp [Act.eval,Act.put]) (by simp [Act.eval,Act.put]) (hcp1 _ _ _) ?_)
 go_wp2_with (at_builtin;refine wpList_copy_runI _ rfl _ _ 111 111 rfl _ _ rfl rfl (hcp2 _ (fun _=>rfl) (fun _=>rfl) _ _) ?_)
 go_ret
 first|exact ⟨rfl,rfl⟩|exact ⟨rfl,by rw [hW1]⟩
set_option maxHeartbeats 4000000 in
set_option maxRecDepth 100000 in
theorem ins_grow (b off n c vb voff vc:Nat) (cs vs:List Value) (w:World) (hi:0<n) (hnc:n≤c) (hroom:c<n+1) (hbig:(n+1)*16≤140737488355328)
 (hcl:cs.length=n*2) (hvl:vs.length=2)
 (hcs: ∀j v,cs[j]? =some v→w.cell? ⟨b,off+j,none⟩=some v)
 (hvs: ∀j v,vs[j]? =some v→w.cell? ⟨vb,voff+j,none⟩=some v) (h1c: ∀v∈cs,v.oneCell'=true) (h1v: ∀v∈vs,v.oneCell'=true):
 Calls Tryz.prog 220 #[.slice (some ⟨b,off,none⟩) n c,.int .i64 0,.slice (some ⟨vb,voff,none⟩) 1 vc] w fun e w'=>
  e= .returned (.slice (some ⟨w.heap.size,0,none⟩) (n+1) (grownCap w (n+1) c 114))∧
  w'=(((w.alloc (.cells (Builtin.zeroCells (Value.agg #[.int .i64 0,.int .i64 0]).cells (n+1)++Builtin.zeroCells (Value.agg #[.int .i64 0,.int .i64 0]).cells (grownCap w (n+1) c 114-(n+1))) 114)).drew.setCells w.heap.size 0 vs).drew).setCells w.heap.size 2 cs:=by
 have u3:=run_underlying t3;have u4:=run_underlying t4;have u111:=run_underlying t111
 obtain ⟨i0,hi0,hz0,hzs,hzb⟩:=info_parts i114
 have hz2: ¬((0:Int)=(n:Int)):=by omega
 have hz3:(c:Int)<(n:Int)+1:=by omega
 have hsz:(Tryz.prog.info? 114).map (·.size)=some 2:=by rw [hi0];simp [hzs]
 have hbw:b<w.heap.size:=block_lt_of_cell (hcs 0 _ (List.getElem?_eq_getElem (by omega)))
 have hvw:vb<w.heap.size:=block_lt_of_cell (hvs 0 _ (List.getElem?_eq_getElem (by omega)))
 have hold:(Builtin.firstCells i0.size 0 (.slice (some ⟨b,off,none⟩) 0 c)).run Tryz.prog w.drew= .ok ([]:List Value).toArray w.drew:=by
  rw [hzs]
  exact run_firstCells_some w.drew 2 0 ⟨b,off,none⟩ 0 c [] (by simp) (fun j v hj=>by simp at hj)
 have hrz: ∀ty,(Builtin.append_ #[111,3] ty #[.slice (some ⟨b,off,none⟩) 0 c,.int .i64 ((n:Int)+1)]).run Tryz.prog w=
  .ok (.slice (some ⟨w.heap.size,0,none⟩) (n+1) (grownCap w (n+1) c 114)) (w.drew.alloc (.cells (Builtin.zeroCells (Value.agg #[.int .i64 0,.int .i64 0]).cells (n+1)++Builtin.zeroCells (Value.agg #[.int .i64 0,.int .i64 0]).cells (grownCap w (n+1) c 114-(n+1))) 114)):=fun ty=>by
  have h:=Lib.run_append_grow_zeros w 111 3 ty 114 i0 _ .i64 .i64 t111 t3 hi0 hz0 (some ⟨b,off,none⟩) 0 c [] hold (n+1) (by omega) (by omega) (by omega) (by omega) (by rw [hzb];omega) (by rw [hzb,Nat.zero_add];exact growslice_fits hroom hbig)
  rw [Nat.zero_add] at h
  simpa using h
 obtain ⟨G,hG⟩: ∃G,G=grownCap w (n+1) c 114:=⟨_,rfl⟩
 obtain ⟨ROW,hROW⟩: ∃ROW:Array Value,ROW=Builtin.zeroCells (Value.agg #[.int .i64 0,.int .i64 0]).cells (n+1)++Builtin.zeroCells (Value.agg #[.int .i64 0,.int .i64 0]).cells (G-(n+1)):=⟨_,rfl⟩
 rw [←hG] at hrz ⊢
 rw [←hROW] at hrz ⊢
 have hRl:(n+1)*2≤ROW.size:=by
  rw [hROW]
  simp [Builtin.zeroCells,Value.cells]
 obtain ⟨W1,hW1⟩: ∃W1,W1=w.drew.alloc (.cells ROW 114):=⟨_,rfl⟩
 rw [←hW1] at hrz
 have hN: ∀j,j<(n+1)*2→(W1.cell? ⟨w.heap.size,j,none⟩).isSome=true:=fun j hj=>by
  rw [hW1,World.cell?_alloc_at (w:=w.drew) ROW _ w.heap.size j rfl,Array.getElem?_eq_getElem (by omega)];rfl
 have hNf: ∀j,W1.frozen? ⟨w.heap.size,j,none⟩=false:=fun j=>by rw [hW1];exact World.frozen?_alloc_at (w:=w.drew) ROW _ w.heap.size j rfl
 have hOb: ∀j v,w.cell? ⟨b,j,none⟩=some v→W1.cell? ⟨b,j,none⟩=some v:=fun j v h=>by rw [hW1,World.cell?_alloc_past (w:=w.drew) _ b j hbw];exact h
 have hOv: ∀j v,w.cell? ⟨vb,j,none⟩=some v→W1.cell? ⟨vb,j,none⟩=some v:=fun j v h=>by rw [hW1,World.cell?_alloc_past (w:=w.drew) _ vb j hvw];exact h
 have hm1:Nat.min 1 (n+1)=1:=by simp only [Nat.min_def];split<;>omega
 have hm2:Nat.min n n=n:=by simp
 have hcpA: ∀(W:World),(∀x,W.cell? x=W1.cell? x)→(∀x,W.frozen? x=W1.frozen? x)→ ∀ty dc,(Builtin.copy_ #[111,111] ty #[.slice (some ⟨w.heap.size,0,none⟩) (n+1) dc,.slice (some ⟨vb,voff,none⟩) 1 vc]).run Tryz.prog W= .ok (goInt 1) (W.setCells w.heap.size 0 vs):=fun W hWc hWf ty dc=>by
  have h:=run_copy_z (P:=Tryz.prog) W 111 111 ty 114 2 w.heap.size 0 (n+1) dc ⟨vb,voff,none⟩ 1 vc vs t111 hsz (by rw [hvl,hm1])
   (fun j v hj=>by rw [Addr.add_lit,hWc];exact hOv _ v (hvs j v hj))
   (fun j hj=>by rw [hWc];exact hN _ (by omega)) (fun j hj=>by rw [hWf];exact hNf _) h1v
  rw [hm1] at h
  exact h
 have hGn:n+1≤G:=by rw [hG];exact grownCap_ge w _ _ _
 have hG63:G≤9223372036854775807:=by
  have:=grownCap_le_maxLen w (n+1) c 114 (by unfold maxLen;omega)
  rw [←hG] at this
  unfold maxLen at this
  omega
 have hGi: ¬(G=0):=by omega
 have hGim: ¬(G=1):=by omega
 have hci: ¬(c=0):=by omega
 have hbN:b≠w.heap.size:=by omega
 have hcpB: ∀(W:World),(∀x,W.cell? x=(W1.setCells w.heap.size 0 vs).cell? x)→(∀x,W.frozen? x=(W1.setCells w.heap.size 0 vs).frozen? x)→ ∀ty dc sc,(Builtin.copy_ #[111,111] ty #[.slice (some ⟨w.heap.size,2,none⟩) n dc,.slice (some ⟨b,off,none⟩) n sc]).run Tryz.prog W= .ok (goInt n) (W.setCells w.heap.size 2 cs):=fun W hWc hWf ty dc sc=>by
  have h:=run_copy_z (P:=Tryz.prog) W 111 111 ty 114 2 w.heap.size 2 n dc ⟨b,off,none⟩ n sc cs t111 hsz (by rw [hcl,hm2])
   (fun j v hj=>by
    rw [Addr.add_lit,hWc,World.cell?_setCells_out _ _ _ _ _ (fun h _=>absurd h hbN)]
    exact hOb _ v (hcs j v hj))
   (fun j hj=>by rw [hWc];exact isSome_setCells _ _ _ _ (fun t ht=>hN _ (by omega)) _ (hN _ (by omega)))
   (fun j hj=>by rw [hWf,World.frozen?_setCells];exact hNf _) h1c
  rw [hm2] at h
  exact h
 subst hW1
 have hE1: ∀x,((w.alloc (.cells ROW 114)).drew).cell? x=(w.drew.alloc (.cells ROW 114)).cell? x:=fun x=>rfl
 have hE2: ∀x,((w.alloc (.cells ROW 114)).drew).frozen? x=(w.drew.alloc (.cells ROW 114)).frozen? x:=fun x=>rfl
 have hF1: ∀x,(((w.alloc (.cells ROW 114)).drew.setCells w.heap.size 0 vs).drew).cell? x=((w.drew.alloc (.cells ROW 114)).setCells w.heap.size 0 vs).cell? x:=fun x=>rfl
 have hF2: ∀x,(((w.alloc (.cells ROW 114)).drew.setCells w.heap.size 0 vs).drew).frozen? x=((w.drew.alloc (.cells ROW 114)).setCells w.heap.size 0 vs).frozen? x:=fun x=>rfl
 have mixed:=mixed0
 have hw1:IntKind.i64.wrap (1:Int)=1:=by rw [IntKind.wrap_i64]<;>omega
 have hb1:(1:Int)≤(n:Int)+1:=by omega
 have hb3:(0:Int)≤(n:Int)+1:=by omega
 have hb5:(0:Int)≤(n:Int):=by omega
 clear hold hROW hG hRl
 go_enter Tryz.func220,Tryz.ntmps220
 go_wp2_with (first
  |(at_builtin;refine Lib.wpList_append_run _ rfl _ _ _ _ rfl _ _ rfl rfl _ _ (hrz _) ?_)
  |(at_builtin;refine wpList_copy_runI _ rfl _ _ 111 111 rfl _ _ rfl rfl (hcpA _ hE1 hE2 _ _) ?_)
  |(at_builtin;refine wpList_copy_runI _ rfl _ _ 111 111 rfl _ _ rfl rfl (hcpB _ (fun _=>rfl) (fun _=>rfl) _ _ _) ?_))
 go_region_law_o (refine step_copy_runI rfl _ _ 111 111 rfl (.slice (some ⟨w.heap.size,2,none⟩) n (G-1)) (.slice (some ⟨b,off,none⟩) n c) (by simp [Act.eval,Act.put]) (by simp [Act.eval,Act.put]) (hcpB _ hF1 hF2 3 (G-1) c) ?_)
 go_wp2
 go_ret
 exact ⟨rfl,rfl⟩
end Ins
end Go.Proofs.YtnjjieohlnhicaaGreatDoor
end
section
namespace Go.Proofs.YtnjjieohlnhicaaGreatDoor
set_option linter.unusedSimpArgs false
set_option linter.unusedVariables false
open Go Go.Wm Go.Proofs Go.RowKit
namespace Ins
theorem setCell_row (w:World) (g o:Nat) (v:Value) (cur:Array Value) (t:TypeId) (fr:Nat×Nat) (h:w.heap[g]? =some (.cells cur t fr)):w.setCell ⟨g,o,none⟩ v=w.setRow g (cur.setIfInBounds o v):=by
 unfold World.setCell World.setRow
 congr 1
 apply Array.ext_getElem?
 intro k
 rw [Array.getElem?_modify,Array.getElem?_modify]
 by_cases hk:g=k
 ·subst hk
  rw [if_pos rfl,if_pos rfl,h]
  rfl
 ·rw [if_neg hk,if_neg hk]
theorem setRow_row (w:World) (g:Nat) (a b:Array Value):(w.setRow g a).setRow g b=w.setRow g b:=by
 unfold World.setRow
 congr 1
 apply Array.ext_getElem?
 intro k
 rw [Array.getElem?_modify,Array.getElem?_modify,Array.getElem?_modify]
 by_cases hk:g=k
 ·subst hk
  simp only [if_true]
  cases w.heap[g]? with
  |none=>rfl
  |some o=>cases o<;>rfl
 ·simp only [if_neg hk]
theorem setCells_row (g:Nat) (t:TypeId) (fr:Nat×Nat): ∀(vs:List Value) (o:Nat) (w:World) (cur:Array Value),w.heap[g]? =some (.cells cur t fr)→
 ∃cur2,w.setCells g o vs=w.setRow g cur2∧cur2.size=cur.size∧(∀(j:Nat) v,vs[j]? =some v→o+j<cur.size→cur2[o+j]? =some v)∧ ∀k,(k<o∨o+vs.length≤k)→cur2[k]? =cur[k]?
 |[],o,w,cur,h=>⟨cur,(setRow_self w g cur t fr h).symm,rfl,by simp,fun _ _=>rfl⟩
 |v::r,o,w,cur,h=>by
  obtain ⟨cur2,h1,h2,h3,h4⟩:=setCells_row g t fr r (o+1) (w.setRow g (cur.setIfInBounds o v)) (cur.setIfInBounds o v) (setRow_heap w g cur _ t fr h)
  refine ⟨cur2,?_,by rw [h2];simp,fun j u hj hl=> ?_,fun k hk=> ?_⟩
  ·rw [World.setCells,setCell_row w g o v cur t fr h,h1,setRow_row]
  ·cases j with
   |zero=>
    simp at hj
    rw [Nat.add_zero] at hl ⊢
    rw [h4 o (by omega),←hj]
    simp [hl]
   |succ j=>
    have:=h3 j u (by simpa using hj) (by simp;omega)
    rw [show o+(j+1)=o+1+j by omega]
    exact this
  ·simp at hk
   rw [h4 k (by omega)]
   exact Array.getElem?_setIfInBounds_ne (by omega)
theorem frozen_cells {w:World} {g:Nat} {cur:Array Value} {t:TypeId} (h:w.heap[g]? =some (.cells cur t (0,0))) (o:Nat):w.frozen? ⟨g,o,none⟩=false:=by
 simp [World.frozen?,h]
theorem insFn {H:Hp} {b q n:Nat} {es:List (List VV)} {x:List VV} {tq:TypeId} {mq:Wm.Mode} {cq:Nat} (hb:H[b]? =some (.row 114 .loose es)) (hn:es.length=n) (h0:0<n) (hn2:(n+1)*16≤140737488355328) (he: ∀e∈es,e.length=2) (hq:H[q]? =some (.row tq mq [x])) (hx:x.length=2) (hqb:q≠b) (hmq:mq≠ .ro):
 FnV Tryz.prog 220 [.sl (some ⟨b,0,0⟩) n n,.int .i64 0,.sl (some ⟨q,0,0⟩) 1 cq] H fun r H'=>r= .sl (some ⟨H.length,0,0⟩) (n+1) (n+1)∧H'=H.set b .dead++[.row 114 .loose (x::es)]:=by
 refine ⟨⟨_,Tryz.func220,by kernel_rfl,by kernel_rfl⟩,fun σ B w vs hH hL=> ?_⟩
 obtain ⟨l⟩:=vs
 cases hL with
 |cons h1 t1=>
 cases t1 with
 |cons h2 t2=>
 cases t2 with
 |cons h3 t3=>
 cases t3
 cases h2
 have sl1:Sl H (some ⟨b,0,0⟩) 2 es:= .inr ⟨b,0,.loose,_,es,rfl,hb,he,fun k e h=>by simpa using h⟩
 have sl3:Sl H (some ⟨q,0,0⟩) 2 [x]:= .inr ⟨q,0,mq,_,[x],rfl,hq,by simpa using hx,fun k e h=>by simpa using h⟩
 obtain ⟨cs,hS⟩:=src_ok (P:=Tryz.prog) hH (z:=2) (by omega) h1 (srcEls_of sl1 hn)
 obtain ⟨vs,hV⟩:=src_ok (P:=Tryz.prog) hH (z:=2) (by omega) h3 (srcEls_of sl3 rfl)
 obtain ⟨Ib,hRb⟩:=hH.rows b _ _ _ hb
 obtain ⟨Iq,hRq⟩:=hH.rows q _ _ _ hq
 obtain ⟨ob1,_,ob2,curb,hcb,hsb⟩:=hRb.own (by simp)
 obtain ⟨oq1,_,_,curq,hcq,hsq⟩:=hRq.own hmq
 have hz:Ib.esz=2:=by
  cases es with
  |nil=>simp at hn;omega
  |cons e es=>rw [←hRb.esz e (by simp)];exact he e (by simp)
 have hIn:Ib.n=n:=by rw [←hRb.len];exact hn
 obtain ⟨a1,c1,rfl,hs1⟩:=sl_inv h1
 obtain ⟨a3,c3,rfl,hs3⟩:=sl_inv h3
 obtain ⟨m,hm1,hm2,hm3⟩:=ob2 rfl
 rw [hm1,Option.getD_some,hz] at hsb
 have hne:Iq.real≠Ib.real:=fun e=>hqb (hH.inj q b _ _ _ _ _ _ Iq Ib hq hmq hb hRq.here hRb.here e)
 have ha1:a1=⟨Ib.real,Ib.base,none⟩∧n≤c1∧(c1=n∨c1=m):=by
  rcases hs1.2 with ⟨⟨I,hI,ha⟩,hc⟩|⟨I,m',hI,hm',_,⟨J,hJ,ha⟩,he1,he2,he3⟩|⟨h,_⟩
  ·have:Ib=I:=Option.some.inj (hRb.here.symm.trans hI)
   subst this
   exact ⟨by rw [ha];simp,by omega,by omega⟩
  ·have:Ib=I:=Option.some.inj (hRb.here.symm.trans hI)
   subst this
   have:Ib=J:=Option.some.inj (hRb.here.symm.trans hJ)
   subst this
   have:m'=m:=Option.some.inj (hm'.symm.trans hm1)
   simp only at he1 he2
   exact ⟨by rw [ha];simp,by omega,by omega⟩
  ·omega
 have ha3:a3=⟨Iq.real,Iq.base,none⟩:=by
  have:=hs3.1
  rcases hs3.2 with ⟨⟨I,hI,ha⟩,hc⟩|⟨I,m',hI,hm',_,⟨J,hJ,ha⟩,he1,he2,he3⟩|⟨h,_⟩
  ·have:Iq=I:=Option.some.inj (hRq.here.symm.trans hI)
   subst this
   rw [ha];simp
  ·have:Iq=J:=Option.some.inj (hRq.here.symm.trans hJ)
   subst this
   rw [ha];simp
  ·omega
 obtain ⟨rfl,hc1,hc2⟩:=ha1
 subst ha3
 have hcs: ∀(j:Nat) v,cs[j]? =some v→w.cell? ⟨Ib.real,Ib.base+j,none⟩=some v:=fun j v h=>by
  have:=hS.here _ _ _ rfl j v h
  rwa [Addr.add_lit] at this
 have hvs: ∀(j:Nat) v,vs[j]? =some v→w.cell? ⟨Iq.real,Iq.base+j,none⟩=some v:=fun j v h=>by
  have:=hV.here _ _ _ rfl j v h
  rwa [Addr.add_lit] at this
 have hcl:cs.length=n*2:=by rw [hS.len,hn]
 have hvl:vs.length=2:=by rw [hV.len];rfl
 have hkill:=hH.kill b
 have hno: ∀(j:Nat) tj mj ej Ij,(H.set b .dead)[j]? =some (Blk.row tj mj ej)→σ j=some Ij→Ij.real≠Ib.real:=by
  intro j tj mj ej Ij hj hσj hreal
  by_cases hjp:j=b
  ·subst hjp
   rw [List.getElem?_set_self (List.getElem?_eq_some_iff.1 hb).1] at hj;cases hj
  ·rw [List.getElem?_set_ne (Ne.symm hjp)] at hj
   exact hjp (hH.inj b j _ _ _ _ _ _ Ib Ij hb (by simp) hj hRb.here hσj hreal.symm).symm
 have hlen:(H.set b .dead).length=H.length:=List.length_set
 have hxe: ∀e∈x::es,e.length=2:=by
  intro e he'
  rcases List.mem_cons.1 he' with rfl|h
  ·exact hx
  ·exact he e h
 have cells: ∀(cur2:Array Value) (base:Nat),(∀(j:Nat) v,vs[j]? =some v→cur2[base+j]? =some v)→(∀(j:Nat) v,cs[j]? =some v→cur2[base+2+j]? =some v)→ ∀(k:Nat) e (j:Nat) v,(x::es)[k]? =some e→e[j]? =some v→v.cell=true∧ ∃v',cur2[base+k*2+j]? =some v'∧VRel σ v v':=by
  intro cur2 base c1' c2' k e j v hk hj
  cases k with
  |zero=>
   simp at hk
   subst hk
   obtain ⟨q0,v',q1,q2⟩:=hV.flat.cell 0 x j v rfl hj
   refine ⟨q0,v',?_,q2⟩
   have:=c1' j v' (by simpa using q1)
   simpa using this
  |succ k=>
   obtain ⟨q0,v',q1,q2⟩:=hS.flat.cell k e j v (by simpa using hk) hj
   refine ⟨q0,v',?_,q2⟩
   have:=c2' (k*2+j) v' (by simpa using q1)
   rw [show base+(k+1)*2+j=base+2+(k*2+j) by omega]
   exact this
 by_cases hroom:n+1≤c1
 ·have hcb':w.drew.heap[Ib.real]? =some (.cells curb 114 (0,0)):=hcb
  obtain ⟨cur1,w1,w2,w3,w4⟩:=setCells_row Ib.real _ _ cs (Ib.base+2) w.drew curb hcb'
  obtain ⟨cur2,x1,x2,x3,x4⟩:=setCells_row Ib.real _ _ vs Ib.base (w.drew.setRow Ib.real cur1) cur1 (setRow_heap _ _ _ _ _ _ hcb')
  rw [setRow_row] at x1
  have hsz: ∀j,j<n*2+2→Ib.base+j<curb.size:=fun j hj=>by rw [hsb];omega
  refine (ins_shift Ib.real Ib.base n c1 Iq.real Iq.base c3 cs vs w h0 hroom (by omega) hne hcl hvl hcs (fun j hj=> ?_) (fun j _=>frozen_cells hcb _) hvs hS.one hV.one tq 114 curq.size curb.size (by simp [World.shape?,hcq]) (by simp [World.shape?,hcb]) (by have:=hsz 0 (by omega);omega) (frozen_cells hcq _) (frozen_cells hcq _)).mono ?_
  ·simp only [World.cell?,hcb]
   have:=hsz j hj
   simp [this]
  rintro e w' ⟨rfl,rfl⟩
  rw [w1,x1]
  have hag:=hkill.drew.again Ib.real ob1 hRb.lt hno 114 (x::es) hcb' (x2.trans w2) Ib.base 2 m hxe (by rw [hsb]) (by simp;omega) hm3 (cells cur2 Ib.base (fun j v hj=>x3 j v hj (by rw [w2];have:=(List.getElem?_eq_some_iff.1 hj).1;exact hsz j (by omega))) (fun j v hj=>by
   have hjl:=(List.getElem?_eq_some_iff.1 hj).1
   rw [x4 _ (by omega)]
   exact w3 j v hj (by have:=hsz (2+j) (by omega);omega)))
  obtain rfl:c1=m:=by omega
  refine ⟨_,_,_,_,rfl,?_,⟨rfl,rfl⟩,(Mv.same ((Below.refl _ _).drew) rfl).trans (hag.2 b Ib hRb.here rfl),hag.1⟩
  have hself:(σ.push (H.set b .dead).length ⟨Ib.real,Ib.base,2,(x::es).length,some c1⟩) H.length=some ⟨Ib.real,Ib.base,2,(x::es).length,some c1⟩:=by simp [Sg.push]
  exact .sl ⟨Nat.le_refl _,.inr (.inl ⟨_,c1,hself,rfl,rfl,⟨_,hself,by simp⟩,by simp [hn],by simp,by omega⟩)⟩
 ·obtain ⟨G,hG⟩: ∃G,G=grownCap w (n+1) c1 114:=⟨_,rfl⟩
  have hGe:n+1≤G:=by rw [hG];exact grownCap_ge _ _ _ _
  have hG63:G≤9223372036854775807:=by rw [hG];exact grown63 (by omega)
  obtain ⟨ROW,hROW⟩: ∃ROW:Array Value,ROW=Builtin.zeroCells (Value.agg #[.int .i64 0,.int .i64 0]).cells (n+1)++Builtin.zeroCells (Value.agg #[.int .i64 0,.int .i64 0]).cells (G-(n+1)):=⟨_,rfl⟩
  have hRs:ROW.size=G*2:=by
   rw [hROW]
   simp [Builtin.zeroCells,Value.cells]
   omega
  have c0:(w.alloc (.cells ROW 114)).drew.heap[w.heap.size]? =some (.cells ROW 114 (0,0)):=by show (w.heap.push _)[w.heap.size]? =_;simp
  obtain ⟨cur1,w1,w2,w3,w4⟩:=setCells_row w.heap.size _ _ vs 0 _ ROW c0
  have c1':((w.alloc (.cells ROW 114)).drew.setRow w.heap.size cur1).drew.heap[w.heap.size]? =some (.cells cur1 114 (0,0)):=setRow_heap _ _ _ _ _ _ c0
  obtain ⟨cur2,x1,x2,x3,x4⟩:=setCells_row w.heap.size _ _ cs 2 _ cur1 c1'
  refine (ins_grow Ib.real Ib.base n c1 Iq.real Iq.base c3 cs vs w h0 hc1 (by omega) hn2 hcl hvl hcs hvs hS.one hV.one).mono ?_
  rintro e w' ⟨rfl,rfl⟩
  rw [←hG,←hROW,w1,x1]
  have hpu:=hkill.push 114 .loose (by simp) (x::es) cur2 2 (some G) hxe (by rw [x2,w2,hRs];rfl) (by simp) (fun _=>⟨G,rfl,by simp;omega,hG63⟩) (fun k e j v hk hj=>by
   obtain ⟨q0,v',q1,q2⟩:=cells cur2 0 (fun j v hj=>by
    have hjl:=(List.getElem?_eq_some_iff.1 hj).1
    rw [x4 _ (by omega)]
    exact w3 j v hj (by omega)) (fun j v hj=>by
    have hjl:=(List.getElem?_eq_some_iff.1 hj).1
    have:=x3 j v hj (by rw [w2,hRs];omega)
    simpa using this) k e j v hk hj
   exact ⟨q0,v',by simpa using q1,q2.mono (Sg.le_push hkill.fresh)⟩)
  have hheap:(((w.alloc (.cells ROW 114)).drew.setRow w.heap.size cur1).drew.setRow w.heap.size cur2).heap=(w.alloc (.cells cur2 114)).heap:=by
   apply Array.ext_getElem?
   intro k
   by_cases hk:k=w.heap.size
   ·subst hk
    rw [setRow_heap _ _ _ _ _ _ c1']
    show _=(w.heap.push _)[w.heap.size]?
    simp
   ·rw [setRow_other _ _ _ _ hk]
    show ((w.alloc (.cells ROW 114)).drew.setRow w.heap.size cur1).heap[k]? =_
    rw [setRow_other _ _ _ _ hk]
    show (w.heap.push _)[k]? =(w.heap.push _)[k]?
    rw [Array.getElem?_push,Array.getElem?_push,if_neg hk,if_neg hk]
  have hbl:Below B w (((w.alloc (.cells ROW 114)).drew.setRow w.heap.size cur1).drew.setRow w.heap.size cur2):=
   (((((Below.refl _ _).alloc hkill.base _).drew).trans (Below.setRow hkill.base cur1)).drew).trans (Below.setRow hkill.base cur2)
  refine ⟨_,_,_,_,rfl,?_,⟨rfl,rfl⟩,⟨hpu.2.le,hbl,fun r hr hn=> ?_,hpu.2.new⟩,hpu.1.heap_eq hheap⟩
  ·have hself:(σ.push (H.set b .dead).length ⟨w.heap.size,0,2,(x::es).length,some G⟩) H.length=some ⟨w.heap.size,0,2,(x::es).length,some G⟩:=by simp [Sg.push]
   exact .sl ⟨Nat.le_refl _,.inr (.inl ⟨_,G,hself,rfl,rfl,⟨_,hself,by simp⟩,by simp [hn],by simp,by omega⟩)⟩
  ·rw [hheap];exact hpu.2.out r hr hn
end Ins
end Go.Proofs.YtnjjieohlnhicaaGreatDoor
end
