/- Texts as one: WmR WmS WmU WmV. -/
import Derived.Test.YtnjjieohlnhicaaGreatDoorKag
import Derived.Test.YtnjjieohlnhicaaGreatDoorKab
import Derived.Test.YtnjjieohlnhicaaGreatDoorKac
section
namespace Go.Wm
set_option linter.unusedVariables false
set_option linter.unusedSimpArgs false
section
variable {R:Type}
noncomputable def ptrOf (v:VV) (k:PA→Option R):Option R:=
 VV.rec (motive_1:=fun _=>Option R) (motive_2:=fun _=>Unit) none (fun _=>none) (fun _ _=>none) (fun _=>none) (fun p=>Option.rec none k p) (fun _ _ _=>none) (fun _ _ _=>none) none (fun _ _=>none) (fun _ _=>none) (fun _=>none) none (fun _=>none) (fun _ _ _=>none) () (fun _ _ _ _=>()) v
noncomputable def intOf (v:VV) (k:IntKind→Int→Option R):Option R:=
 VV.rec (motive_1:=fun _=>Option R) (motive_2:=fun _=>Unit) none (fun _=>none) (fun a b=>k a b) (fun _=>none) (fun _=>none) (fun _ _ _=>none) (fun _ _ _=>none) none (fun _ _=>none) (fun _ _=>none) (fun _=>none) none (fun _=>none) (fun _ _ _=>none) () (fun _ _ _ _=>()) v
noncomputable def rowOf (b:Blk) (k:TypeId→Mode→List (List VV)→Option R):Option R:=Blk.rec none k (fun _=>none) b
noncomputable def ldK (g:Gt) (p:PA) (k:VV→Option R):Option R:=
 PA.rec (fun b i o=>obK (g b) fun x=>rowOf x fun _ _ es=>nthK es i fun e=>nthK e o k) p
noncomputable def kindN (k:IntKind):Nat:=IntKind.rec 0 1 2 3 4 5 6 7 k
noncomputable def wrapI (k:IntKind) (x:Int) (f:Int→R):R:=intK (wrapK k x) f
noncomputable def iarK (op:BinOp):IntKind→Int→Int→(VV→Option R)→Option R:=
 match op with
 | .add=>fun k x y f=>wrapI k (iadd x y) fun z=>f (.int k z)
 | .sub=>fun k x y f=>wrapI k (iadd x (ineg y)) fun z=>f (.int k z)
 | .eql=>fun k x y f=>Bool.rec (f (.bool false)) (f (.bool true)) (ieq x y)
 | .neq=>fun k x y f=>Bool.rec (f (.bool true)) (f (.bool false)) (ieq x y)
 | .lss=>fun k x y f=>Bool.rec (f (.bool false)) (f (.bool true)) (ilt x y)
 | .leq=>fun k x y f=>Bool.rec (f (.bool true)) (f (.bool false)) (ilt y x)
 | .gtr=>fun k x y f=>Bool.rec (f (.bool false)) (f (.bool true)) (ilt y x)
 | .geq=>fun k x y f=>Bool.rec (f (.bool true)) (f (.bool false)) (ilt x y)
 |op=>fun k x y f=>obK (iarith op k x y) fun v=>vvK v f
noncomputable def slOf (v:VV) (k:Option PA→Nat→Nat→Option R):Option R:=
 VV.rec (motive_1:=fun _=>Option R) (motive_2:=fun _=>Unit) none (fun _=>none) (fun _ _=>none) (fun _=>none) (fun p=>none) k (fun _ _ _=>none) none (fun _ _=>none) (fun _ _=>none) (fun _=>none) none (fun _=>none) (fun _ _ _=>none) () (fun _ _ _ _=>()) v
noncomputable def aggOfV (v:VV) (k:List VV→Option R):Option R:=
 VV.rec (motive_1:=fun _=>Option R) (motive_2:=fun _=>Unit) none (fun _=>none) (fun _ _=>none) (fun _=>none) (fun p=>none) (fun _ _ _=>none) (fun _ _ _=>none) none (fun l _=>k l) (fun _ _=>none) (fun _=>none) none (fun _=>none) (fun _ _ _=>none) () (fun _ _ _ _=>()) v
noncomputable def tupOf (v:VV) (k:List VV→Option R):Option R:=
 VV.rec (motive_1:=fun _=>Option R) (motive_2:=fun _=>Unit) none (fun _=>none) (fun _ _=>none) (fun _=>none) (fun p=>none) (fun _ _ _=>none) (fun _ _ _=>none) none (fun _ _=>none) (fun l _=>k l) (fun _=>none) none (fun _=>none) (fun _ _ _=>none) () (fun _ _ _ _=>()) v
noncomputable def boolOf (v:VV) (k:Bool→Option R):Option R:=
 VV.rec (motive_1:=fun _=>Option R) (motive_2:=fun _=>Unit) none k (fun _ _=>none) (fun _=>none) (fun p=>none) (fun _ _ _=>none) (fun _ _ _=>none) none (fun l _=>none) (fun _ _=>none) (fun _=>none) none (fun _=>none) (fun _ _ _=>none) () (fun _ _ _ _=>()) v
noncomputable def takeK (l:List VV):Nat→(List VV→Option R)→Option R:=
 List.rec (motive:=fun _=>Nat→(List VV→Option R)→Option R) (fun n k=>Nat.rec (k []) (fun _ _=>none) n) (fun x _ ih n k=>Nat.rec (k []) (fun m _=>ih m fun l=>k (x::l)) n) l
noncomputable def partK (l:List VV):Nat→Nat→(List VV→Option R)→Option R:=
 List.rec (motive:=fun _=>Nat→Nat→(List VV→Option R)→Option R) (fun o n k=>Nat.rec (takeK [] n k) (fun _ _=>none) o) (fun x r ih o n k=>Nat.rec (takeK (x::r) n k) (fun m _=>ih m n k) o) l
noncomputable def ldsK (g:Gt) (p:PA) (n:Nat) (k:List VV→Option R):Option R:=
 PA.rec (fun b i o=>obK (g b) fun x=>rowOf x fun _ _ es=>nthK es i fun e=>partK e o n k) p
noncomputable def ixpK (g:Gt) (p:PA) (k s:Nat) (f:PA→Option R):Option R:=
 PA.rec (fun b i o=>obK (g b) fun x=>rowOf x fun _ _ es=>List.rec none (fun e _ _=>Bool.rec (natK (Nat.add o (Nat.mul k s)) fun o=>f ⟨b,i,o⟩) (natK (Nat.add i k) fun i=>f ⟨b,i,0⟩) (and (Nat.beq o 0) (Nat.beq e.length s))) es) p
noncomputable def nilckK (v:VV) (k:VV→Option R):Option R:=
 VV.rec (motive_1:=fun _=>Option R) (motive_2:=fun _=>Unit) none (fun _=>none) (fun a b=>none) (fun _=>none) (fun p=>Option.rec none (fun p=>k (.ptr (some p))) p) (fun _ _ _=>none) (fun f l _=>k (.fn f l)) none (fun _ _=>none) (fun _ _=>none) (fun _=>none) none (fun b=>k (.yield b)) (fun t v _=>k (.ifc t v)) () (fun _ _ _ _=>()) v
noncomputable def rd_mv:Od→Fr→Gt→(VV→Option R)→Option R:=fun x E g k=>odK x E k
noncomputable def rd_pick:Od→Od→Od→Fr→Gt→(VV→Option R)→Option R:=fun c a b E g k=>odK c E fun u=>boolOf u fun t=>Bool.rec (odK b E k) (odK a E k) t
noncomputable def rd_load:Nat→Bool→Od→Fr→Gt→(VV→Option R)→Option R:=fun n ag x E g k=>odK x E fun v=>ptrOf v fun p=>Bool.rec (ldK g p k) (ldsK g p n fun l=>k (.agg l)) ag
noncomputable def rd_nilck:Od→Fr→Gt→(VV→Option R)→Option R:=fun x E g k=>odK x E fun v=>nilckK v k
noncomputable def rd_bin:BinOp→Od→Od→Fr→Gt→(VV→Option R)→Option R:=fun op x y E g k=>odK x E fun u=>odK y E fun v=>intOf u fun a m=>intOf v fun b n=>Bool.rec none (iarK op a m n k) (Nat.beq (kindN a) (kindN b))
noncomputable def rd_sh:Bool→Od→Od→Fr→Gt→(VV→Option R)→Option R:=fun a0 a1 a2 E g k=>obK (VOp.evF (.sh a0 a1 a2) E g) fun v=>vvK v k
noncomputable def rd_beq:Bool→Od→Od→Fr→Gt→(VV→Option R)→Option R:=fun a0 a1 a2 E g k=>obK (VOp.evF (.beq a0 a1 a2) E g) fun v=>vvK v k
noncomputable def rd_not:Od→Fr→Gt→(VV→Option R)→Option R:=fun x E g k=>odK x E fun v=>boolOf v fun b=>Bool.rec (k (.bool true)) (k (.bool false)) b
noncomputable def rd_conv:IntKind→Od→Fr→Gt→(VV→Option R)→Option R:=fun t x E g k=>odK x E fun v=>intOf v fun _ n=>intK (wrapK t n) fun z=>k (.int t z)
noncomputable def rd_mkfn:FuncId→List Od→Fr→Gt→(VV→Option R)→Option R:=fun a0 a1 E g k=>obK (VOp.evF (.mkfn a0 a1) E g) fun v=>vvK v k
noncomputable def rd_faddr:Nat→Od→Fr→Gt→(VV→Option R)→Option R:=fun off x E g k=>odK x E fun v=>ptrOf v fun p=>PA.rec (fun b i o=>natK (Nat.add o off) fun o=>k (.ptr (some ⟨b,i,o⟩))) p
noncomputable def rd_fld:Nat→Nat→Bool→Od→Fr→Gt→(VV→Option R)→Option R:=fun off n ag x E g k=>odK x E fun v=>aggOfV v fun l=>Bool.rec (nthK l off k) (partK l off n fun l=>k (.agg l)) ag
noncomputable def rd_ixa:Nat→Od→Od→Fr→Gt→(VV→Option R)→Option R:=fun esz x i E g k=>odK x E fun u=>odK i E fun v=>slOf u fun p m _=>intOf v fun _ n=>Option.rec none (fun p=>Bool.rec none (ixpK g p n.toNat esz fun q=>k (.ptr (some q))) (inRng n m)) p
noncomputable def rd_ixar:Nat→Nat→Od→Od→Fr→Gt→(VV→Option R)→Option R:=fun a0 a1 a2 a3 E g k=>obK (VOp.evF (.ixar a0 a1 a2 a3) E g) fun v=>vvK v k
noncomputable def rd_lens:Od→Fr→Gt→(VV→Option R)→Option R:=fun x E g k=>odK x E fun v=>slOf v fun _ m _=>k (.int .i64 (.ofNat m))
noncomputable def rd_lent:Od→Fr→Gt→(VV→Option R)→Option R:=fun a0 E g k=>obK (VOp.evF (.lent a0) E g) fun v=>vvK v k
noncomputable def rd_lenm:Od→Fr→Gt→(VV→Option R)→Option R:=fun a0 E g k=>obK (VOp.evF (.lenm a0) E g) fun v=>vvK v k
noncomputable def rd_min2:Od→Od→Fr→Gt→(VV→Option R)→Option R:=fun a0 a1 E g k=>obK (VOp.evF (.min2 a0 a1) E g) fun v=>vvK v k
noncomputable def rd_max2:Od→Od→Fr→Gt→(VV→Option R)→Option R:=fun a0 a1 E g k=>obK (VOp.evF (.max2 a0 a1) E g) fun v=>vvK v k
noncomputable def rd_ext:Nat→Od→Fr→Gt→(VV→Option R)→Option R:=fun i x E g k=>odK x E fun v=>tupOf v fun l=>nthK l i k
noncomputable def rd_build:List VV→List (Nat×Nat×Od)→Fr→Gt→(VV→Option R)→Option R:=fun a0 a1 E g k=>obK (VOp.evF (.build a0 a1) E g) fun v=>vvK v k
noncomputable def rd_slc:Nat→Od→Option Od→Option Od→Option Od→Fr→Gt→(VV→Option R)→Option R:=fun a0 a1 a2 a3 a4 E g k=>obK (VOp.evF (.slc a0 a1 a2 a3 a4) E g) fun v=>vvK v k
noncomputable def rd_slstr:Od→Option Od→Option Od→Fr→Gt→(VV→Option R)→Option R:=fun a0 a1 a2 E g k=>obK (VOp.evF (.slstr a0 a1 a2) E g) fun v=>vvK v k
noncomputable def rd_ixs:Od→Od→Fr→Gt→(VV→Option R)→Option R:=fun a0 a1 E g k=>obK (VOp.evF (.ixs a0 a1) E g) fun v=>vvK v k
noncomputable def rd_aeq:Bool→List Nat→Od→Od→Fr→Gt→(VV→Option R)→Option R:=fun a0 a1 a2 a3 E g k=>obK (VOp.evF (.aeq a0 a1 a2 a3) E g) fun v=>vvK v k
noncomputable def rd_lkp:KK→VV→Bool→Od→Od→Fr→Gt→(VV→Option R)→Option R:=fun a0 a1 a2 a3 a4 E g k=>obK (VOp.evF (.lkp a0 a1 a2 a3 a4) E g) fun v=>vvK v k
noncomputable def rd_ent:Od→Fr→Gt→(VV→Option R)→Option R:=fun a0 E g k=>obK (VOp.evF (.ent a0) E g) fun v=>vvK v k
noncomputable def rd_neq:Nat→Bool→Od→Od→Fr→Gt→(VV→Option R)→Option R:=fun a0 a1 a2 a3 E g k=>obK (VOp.evF (.neq a0 a1 a2 a3) E g) fun v=>vvK v k
noncomputable def rd_seq:BinOp→Od→Od→Fr→Gt→(VV→Option R)→Option R:=fun a0 a1 a2 E g k=>obK (VOp.evF (.seq a0 a1 a2) E g) fun v=>vvK v k
noncomputable def rd_neg:Od→Fr→Gt→(VV→Option R)→Option R:=fun a0 E g k=>obK (VOp.evF (.neg a0) E g) fun v=>vvK v k
noncomputable def rd_chr:Od→Fr→Gt→(VV→Option R)→Option R:=fun a0 E g k=>obK (VOp.evF (.chr a0) E g) fun v=>vvK v k
noncomputable def rd_bstr:Od→Fr→Gt→(VV→Option R)→Option R:=fun a0 E g k=>obK (VOp.evF (.bstr a0) E g) fun v=>vvK v k
noncomputable def rd_ixb:Od→Od→Fr→Gt→(VV→Option R)→Option R:=fun a0 a1 E g k=>obK (VOp.evF (.ixb a0 a1) E g) fun v=>vvK v k
noncomputable def rd_mki:TypeId→Od→Fr→Gt→(VV→Option R)→Option R:=fun t x E g k=>odK x E fun v=>k (.ifc t v)
noncomputable def rd_capm:Od→Fr→Gt→(VV→Option R)→Option R:=fun a0 E g k=>obK (VOp.evF (.capm a0) E g) fun v=>vvK v k
noncomputable def rd_s2a:Nat→Od→Fr→Gt→(VV→Option R)→Option R:=fun a0 a1 E g k=>obK (VOp.evF (.s2a a0 a1) E g) fun v=>vvK v k
noncomputable def rd_lda:Nat→Od→Fr→Gt→(VV→Option R)→Option R:=fun a0 a1 E g k=>obK (VOp.evF (.lda a0 a1) E g) fun v=>vvK v k
noncomputable def rdK:VOp→Fr→Gt→(VV→Option R)→Option R:=
 VOp.rec (motive:=fun _=>Fr→Gt→(VV→Option R)→Option R) rd_mv rd_pick rd_load rd_nilck rd_bin rd_sh rd_beq rd_not rd_conv rd_mkfn rd_faddr rd_fld rd_ixa rd_ixar rd_lens rd_lent rd_lenm rd_min2 rd_max2 rd_ext rd_build rd_slc rd_slstr rd_ixs rd_aeq rd_lkp rd_ent rd_neq rd_seq rd_neg rd_chr rd_bstr rd_ixb rd_mki rd_capm rd_s2a rd_lda
noncomputable def updK (e:List VV) (off:Nat) (cs:List VV):(List VV→R)→R:=
 List.rec (motive:=fun _=>List VV→Nat→(List VV→R)→R) (fun e _ k=>k e) (fun c _ ih e off k=>setK e off c fun e=>natK (Nat.succ off) fun off=>ih e off k) cs e off
noncomputable def modeRo (md:Mode):Bool:=Mode.rec true false false md
noncomputable def defdB (u:VV):Bool:=VV.rec (motive_1:=fun _=>Bool) (motive_2:=fun _=>Unit) false (fun _=>true) (fun _ _=>true) (fun _=>true) (fun _=>true) (fun _ _ _=>true) (fun _ _ _=>true) true (fun _ _=>true) (fun _ _=>true) (fun _=>true) true (fun _=>true) (fun _ _ _=>true) () (fun _ _ _ _=>()) u
noncomputable def cellB (u:VV):Bool:=VV.rec (motive_1:=fun _=>Bool) (motive_2:=fun _=>Unit) false (fun _=>true) (fun _ _=>true) (fun _=>true) (fun _=>true) (fun _ _ _=>true) (fun _ _ _=>true) true (fun _ _=>false) (fun _ _=>false) (fun _=>true) true (fun _=>true) (fun _ _ _=>true) () (fun _ _ _ _=>()) u
noncomputable def lenN {α:Type} (l:List α):Nat:=List.rec (motive:=fun _=>Nat) 0 (fun _ _ ih=>Nat.succ ih) l
noncomputable def allCell (l:List VV):Bool:=List.rec (motive:=fun _=>Bool) true (fun x _ ih=>Bool.rec false ih (cellB x)) l
noncomputable def storeOk (u:VV) (m:Nat) (md:Mode) (o:Nat) (e:List VV):Bool:=
 Bool.rec false (Bool.rec false (Bool.rec (Bool.rec false (allCell u.cells) (Nat.ble (Nat.add o (lenN u.cells)) (lenN e))) false (modeRo md)) (Nat.beq (lenN u.cells) m)) (defdB u)
noncomputable def boxOk (u:VV):Bool:=Bool.rec false (allCell u.cells) (defdB u)
noncomputable def ef_store:Nat→Od→Od→Fr→Gt→Nat→(VV→Up→Option R)→Option R:=fun m x v E g n k=>odK x E fun p=>odK v E fun u=>ptrOf p fun p=>PA.rec (fun b i o=>obK (g b) fun bl=>rowOf bl fun t md es=>nthK es i fun e=>
 Bool.rec none (updK e o u.cells fun e'=>setK es i e' fun es'=>k .undef [(b,.row t md es')]) (storeOk u m md o e)) p
noncomputable def ef_alloc:TypeId→List VV→Fr→Gt→Nat→(VV→Up→Option R)→Option R:=fun t zs E g n k=>k (.ptr (some ⟨n,0,0⟩)) [(n,.row t .own [zs])]
noncomputable def ef_box:TypeId→Od→Fr→Gt→Nat→(VV→Up→Option R)→Option R:=fun t x E g n k=>odK x E fun u=>Bool.rec none (k (.ptr (some ⟨n,0,0⟩)) [(n,.row t .own [u.cells])]) (boxOk u)
noncomputable def ef_mkrow:TypeId→List VV→Nat→List (Nat×Od)→Fr→Gt→Nat→(VV→Up→Option R)→Option R:=fun a0 a1 a2 a3 E g n k=>obK (VEf.evF (.mkrow a0 a1 a2 a3) E g n) fun r=>Prod.rec (fun v us=>vvK v fun v=>upsK us fun us=>k v us) r
noncomputable def ef_mksl:TypeId→Nat→List VV→Od→Od→Fr→Gt→Nat→(VV→Up→Option R)→Option R:=fun a0 a1 a2 a3 a4 E g n k=>obK (VEf.evF (.mksl a0 a1 a2 a3 a4) E g n) fun r=>Prod.rec (fun v us=>vvK v fun v=>upsK us fun us=>k v us) r
noncomputable def ef_app:TypeId→Nat→Nat→Od→Od→Fr→Gt→Nat→(VV→Up→Option R)→Option R:=fun a0 a1 a2 a3 a4 E g n k=>obK (VEf.evF (.app a0 a1 a2 a3 a4) E g n) fun r=>Prod.rec (fun v us=>vvK v fun v=>upsK us fun us=>k v us) r
noncomputable def ef_mkmap:Fr→Gt→Nat→(VV→Up→Option R)→Option R:=fun E g n k=>k (.map (some n)) [(n,.obj (.map []))]
noncomputable def ef_mset:KK→Od→Od→Od→Fr→Gt→Nat→(VV→Up→Option R)→Option R:=fun a0 a1 a2 a3 E g n k=>obK (VEf.evF (.mset a0 a1 a2 a3) E g n) fun r=>Prod.rec (fun v us=>vvK v fun v=>upsK us fun us=>k v us) r
noncomputable def ef_rng:Od→Fr→Gt→Nat→(VV→Up→Option R)→Option R:=fun a0 E g n k=>obK (VEf.evF (.rng a0) E g n) fun r=>Prod.rec (fun v us=>vvK v fun v=>upsK us fun us=>k v us) r
noncomputable def ef_copy:Nat→Od→Od→Fr→Gt→Nat→(VV→Up→Option R)→Option R:=fun a0 a1 a2 E g n k=>obK (VEf.evF (.copy a0 a1 a2) E g n) fun r=>Prod.rec (fun v us=>vvK v fun v=>upsK us fun us=>k v us) r
noncomputable def ef_ment:KK→VV→Od→Od→Fr→Gt→Nat→(VV→Up→Option R)→Option R:=fun a0 a1 a2 a3 E g n k=>obK (VEf.evF (.ment a0 a1 a2 a3) E g n) fun r=>Prod.rec (fun v us=>vvK v fun v=>upsK us fun us=>k v us) r
noncomputable def ef_mput:Od→Od→Od→Fr→Gt→Nat→(VV→Up→Option R)→Option R:=fun a0 a1 a2 E g n k=>obK (VEf.evF (.mput a0 a1 a2) E g n) fun r=>Prod.rec (fun v us=>vvK v fun v=>upsK us fun us=>k v us) r
noncomputable def ef_srng:Od→Fr→Gt→Nat→(VV→Up→Option R)→Option R:=fun a0 E g n k=>obK (VEf.evF (.srng a0) E g n) fun r=>Prod.rec (fun v us=>vvK v fun v=>upsK us fun us=>k v us) r
noncomputable def ef_snext:Od→Fr→Gt→Nat→(VV→Up→Option R)→Option R:=fun a0 E g n k=>obK (VEf.evF (.snext a0) E g n) fun r=>Prod.rec (fun v us=>vvK v fun v=>upsK us fun us=>k v us) r
noncomputable def ef_ustr:TypeId→Od→Od→Fr→Gt→Nat→(VV→Up→Option R)→Option R:=fun a0 a1 a2 E g n k=>obK (VEf.evF (.ustr a0 a1 a2) E g n) fun r=>Prod.rec (fun v us=>vvK v fun v=>upsK us fun us=>k v us) r
noncomputable def ef_appz:TypeId→List VV→Nat→Od→Od→Fr→Gt→Nat→(VV→Up→Option R)→Option R:=fun a0 a1 a2 a3 a4 E g n k=>obK (VEf.evF (.appz a0 a1 a2 a3 a4) E g n) fun r=>Prod.rec (fun v us=>vvK v fun v=>upsK us fun us=>k v us) r
noncomputable def ef_resl:Nat→Od→Fr→Gt→Nat→(VV→Up→Option R)→Option R:=fun a0 a1 E g n k=>obK (VEf.evF (.resl a0 a1) E g n) fun r=>Prod.rec (fun v us=>vvK v fun v=>upsK us fun us=>k v us) r
noncomputable def ef_sbytes:Od→Fr→Gt→Nat→(VV→Up→Option R)→Option R:=fun a0 E g n k=>obK (VEf.evF (.sbytes a0) E g n) fun r=>Prod.rec (fun v us=>vvK v fun v=>upsK us fun us=>k v us) r
noncomputable def efK:VEf→Fr→Gt→Nat→(VV→Up→Option R)→Option R:=
 VEf.rec (motive:=fun _=>Fr→Gt→Nat→(VV→Up→Option R)→Option R) ef_store ef_alloc ef_box ef_mkrow ef_mksl ef_app ef_mkmap ef_mset ef_rng ef_copy ef_ment ef_mput ef_srng ef_snext ef_ustr ef_appz ef_resl ef_sbytes
theorem ptrOf_some {v:VV} {k:PA→Option R} {a:R} (h:ptrOf v k=some a): ∃p,v= .ptr (some p)∧k p=some a:=by
 cases v with
 |ptr p=>cases p with
  |none=>cases h
  |some p=>exact ⟨p,rfl,h⟩
 |_=>cases h
theorem intOf_some {v:VV} {k:IntKind→Int→Option R} {a:R} (h:intOf v k=some a): ∃t n,v= .int t n∧k t n=some a:=by
 cases v with
 |int t n=>exact ⟨t,n,rfl,h⟩
 |_=>cases h
theorem slOf_some {v:VV} {k:Option PA→Nat→Nat→Option R} {a:R} (h:slOf v k=some a): ∃p m c,v= .sl p m c∧k p m c=some a:=by
 cases v with
 |sl p m c=>exact ⟨p,m,c,rfl,h⟩
 |_=>cases h
theorem aggOfV_some {v:VV} {k:List VV→Option R} {a:R} (h:aggOfV v k=some a): ∃l,v= .agg l∧k l=some a:=by
 cases v with
 |agg l=>exact ⟨l,rfl,h⟩
 |_=>cases h
theorem tupOf_some {v:VV} {k:List VV→Option R} {a:R} (h:tupOf v k=some a): ∃l,v= .tup l∧k l=some a:=by
 cases v with
 |tup l=>exact ⟨l,rfl,h⟩
 |_=>cases h
theorem boolOf_some {v:VV} {k:Bool→Option R} {a:R} (h:boolOf v k=some a): ∃b,v= .bool b∧k b=some a:=by
 cases v with
 |bool b=>exact ⟨b,rfl,h⟩
 |_=>cases h
theorem rowOf_some {b:Blk} {k:TypeId→Mode→List (List VV)→Option R} {a:R} (h:rowOf b k=some a): ∃t m es,b= .row t m es∧k t m es=some a:=by
 cases b with
 |row t m es=>exact ⟨t,m,es,rfl,h⟩
 |_=>cases h
theorem nilckK_some {v:VV} {k:VV→Option R} {a:R} (h:nilckK v k=some a):k v=some a∧((∃p,v= .ptr (some p))∨(∃f l,v= .fn f l)∨(∃b,v= .yield b)∨ ∃t u,v= .ifc t u):=by
 cases v with
 |ptr p=>cases p with
  |none=>cases h
  |some p=>exact ⟨h,.inl ⟨p,rfl⟩⟩
 |fn f l=>exact ⟨h,.inr (.inl ⟨f,l,rfl⟩)⟩
 |yield b=>exact ⟨h,.inr (.inr (.inl ⟨b,rfl⟩))⟩
 |ifc t u=>exact ⟨h,.inr (.inr (.inr ⟨t,u,rfl⟩))⟩
 |_=>cases h
theorem ldK_some {g:Gt} {p:PA} {k:VV→Option R} {a:R} (h:ldK g p k=some a): ∃v,ld g p=some v∧k v=some a:=by
 obtain ⟨b,i,o⟩:=p
 obtain ⟨x,h1,h2⟩:=obK_some (show obK (g b) _=some a from h)
 obtain ⟨t,m,es,rfl,h3⟩:=rowOf_some h2
 obtain ⟨e,h4,h5⟩:=nthK_some h3
 obtain ⟨v,h6,h7⟩:=nthK_some h5
 exact ⟨v,by simp [ld,h1,h4,h6],h7⟩
theorem takeK_some: ∀{l:List VV} {n:Nat} {k:List VV→Option R} {a:R},takeK l n k=some a→n≤l.length∧k (l.take n)=some a
 |[],0,k,a,h=>⟨by simp,h⟩
 |[],n+1,k,a,h=>by cases h
 |x::l,0,k,a,h=>⟨by simp,h⟩
 |x::l,n+1,k,a,h=>by
  obtain ⟨h1,h2⟩:=takeK_some (show takeK l n (fun l=>k (x::l))=some a from h)
  exact ⟨by simp;omega,h2⟩
theorem partK_some: ∀{l:List VV} {o n:Nat} {k:List VV→Option R} {a:R},partK l o n k=some a→o+n≤l.length∧k ((l.drop o).take n)=some a
 |[],0,n,k,a,h=>by
  obtain ⟨h1,h2⟩:=takeK_some (show takeK [] n k=some a from h)
  exact ⟨by omega,h2⟩
 |[],o+1,n,k,a,h=>by cases h
 |x::l,0,n,k,a,h=>by
  obtain ⟨h1,h2⟩:=takeK_some (show takeK (x::l) n k=some a from h)
  exact ⟨by omega,h2⟩
 |x::l,o+1,n,k,a,h=>by
  obtain ⟨h1,h2⟩:=partK_some (show partK l o n k=some a from h)
  exact ⟨by simp;omega,h2⟩
theorem ldsK_some {g:Gt} {p:PA} {n:Nat} {k:List VV→Option R} {a:R} (h:ldsK g p n k=some a): ∃l,lds g p n=some l∧k l=some a:=by
 obtain ⟨b,i,o⟩:=p
 obtain ⟨x,h1,h2⟩:=obK_some (show obK (g b) _=some a from h)
 obtain ⟨t,m,es,rfl,h3⟩:=rowOf_some h2
 obtain ⟨e,h4,h5⟩:=nthK_some h3
 obtain ⟨h6,h7⟩:=partK_some h5
 exact ⟨_,by simp [lds,h1,h4,h6],h7⟩
theorem ixpK_some {g:Gt} {p:PA} {k s:Nat} {f:PA→Option R} {a:R} (h:ixpK g p k s f=some a): ∃q,ixp g p k s=some q∧f q=some a:=by
 obtain ⟨b,i,o⟩:=p
 obtain ⟨x,h1,h2⟩:=obK_some (show obK (g b) _=some a from h)
 obtain ⟨t,m,es,rfl,h3⟩:=rowOf_some h2
 cases es with
 |nil=>cases h3
 |cons e es=>
  have h4:Bool.rec (motive:=fun _=>Option R) (natK (Nat.add o (Nat.mul k s)) fun o=>f ⟨b,i,o⟩) (natK (Nat.add i k) fun i=>f ⟨b,i,0⟩) (and (Nat.beq o 0) (Nat.beq e.length s))=some a:=h3
  by_cases hc:o=0∧e.length=s
  ·have:and (Nat.beq o 0) (Nat.beq e.length s)=true:=by rw [beq_of hc.1,beq_of hc.2];rfl
   rw [this] at h4
   simp only [natK_eq] at h4
   exact ⟨_,by simp [ixp,eszOf,h1,padd,hc.1,hc.2],h4⟩
  ·have:and (Nat.beq o 0) (Nat.beq e.length s)=false:=by
    by_cases h0:o=0
    ·rw [beq_of h0,beq_of_ne (fun h=>hc ⟨h0,h⟩)];rfl
    ·rw [beq_of_ne h0];rfl
   rw [this] at h4
   simp only [natK_eq] at h4
   exact ⟨_,by simp only [ixp,eszOf,h1,padd];rw [if_neg hc];rfl,h4⟩
theorem kindN_inj {a b:IntKind} (h:Nat.beq (kindN a) (kindN b)=true):a=b:=by
 cases a<;>cases b<;>first|rfl|cases h
theorem brec_some {b:Bool} {x:Option R} {a:R} (h:Bool.rec (motive:=fun _=>Option R) none x b=some a):b=true∧x=some a:=by
 cases b with
 |false=>cases h
 |true=>exact ⟨rfl,h⟩
theorem brec2 {b:Bool} {f:VV→Option R} {a:R} (h:Bool.rec (motive:=fun _=>Option R) (f (.bool false)) (f (.bool true)) b=some a):f (.bool b)=some a:=by
 cases b<;>exact h
theorem brec3 {b:Bool} {f:VV→Option R} {a:R} (h:Bool.rec (motive:=fun _=>Option R) (f (.bool true)) (f (.bool false)) b=some a):f (.bool !b)=some a:=by
 cases b<;>exact h
theorem wrapI_eq {k:IntKind} {x:Int} {f:Int→R}:wrapI k x f=f (wrapK k x):=intK_eq _ _
theorem iarK_some {op:BinOp} {t:IntKind} {x y:Int} {f:VV→Option R} {a:R} (h:iarK op t x y f=some a): ∃v,iarith op t x y=some v∧f v=some a:=by
 have gen:obK (iarith op t x y) (fun v=>vvK v f)=some a→ ∃v,iarith op t x y=some v∧f v=some a:=fun h=>by
  obtain ⟨v,h1,h2⟩:=obK_some h
  exact ⟨v,h1,by simpa using h2⟩
 cases op with
 |add=>exact ⟨_,rfl,by rw [←wrapI_eq (f:=fun z=>f (.int t z))];exact h⟩
 |sub=>exact ⟨_,rfl,by rw [←wrapI_eq (f:=fun z=>f (.int t z))];exact h⟩
 |eql=>exact ⟨_,rfl,brec2 h⟩
 |neq=>exact ⟨_,rfl,brec3 h⟩
 |lss=>exact ⟨_,rfl,brec2 h⟩
 |leq=>exact ⟨_,rfl,brec3 h⟩
 |gtr=>exact ⟨_,rfl,brec2 h⟩
 |geq=>exact ⟨_,rfl,brec3 h⟩
 |_=>exact gen h
theorem ev_simple {y:VOp} {E:Fr} {g:Gt} {k:VV→Option R} {a:R} (h:obK (VOp.evF y E g) (fun v=>vvK v k)=some a): ∃v,y.ev E g=some v∧k v=some a:=by
 obtain ⟨v,h1,h2⟩:=obK_some h
 rw [VOp.evF_eq] at h1
 exact ⟨v,h1,by simpa using h2⟩
theorem rdK_some {y:VOp} {E:Fr} {g:Gt} {k:VV→Option R} {a:R} (h:rdK y E g k=some a): ∃v,y.ev E g=some v∧k v=some a:=by
 cases y with
 |mv x=>exact odK_some h
 |pick c x y=>
  obtain ⟨u,h1,h2⟩:=odK_some (show odK c E _=some a from h)
  obtain ⟨b,rfl,h3⟩:=boolOf_some h2
  cases b with
  |true=>obtain ⟨v,h4,h5⟩:=odK_some (show odK x E k=some a from h3);exact ⟨v,by simp [VOp.ev,h1,h4],h5⟩
  |false=>obtain ⟨v,h4,h5⟩:=odK_some (show odK y E k=some a from h3);exact ⟨v,by simp [VOp.ev,h1,h4],h5⟩
 |load n ag x=>
  obtain ⟨u,h1,h2⟩:=odK_some (show odK x E _=some a from h)
  obtain ⟨p,rfl,h3⟩:=ptrOf_some h2
  cases ag with
  |true=>obtain ⟨l,h4,h5⟩:=ldsK_some (show ldsK g p n _=some a from h3);exact ⟨_,by simp [VOp.ev,h1,h4],h5⟩
  |false=>obtain ⟨v,h4,h5⟩:=ldK_some (show ldK g p k=some a from h3);exact ⟨v,by simp [VOp.ev,h1,h4],h5⟩
 |nilck x=>
  obtain ⟨u,h1,h2⟩:=odK_some (show odK x E _=some a from h)
  obtain ⟨h3,h4⟩:=nilckK_some h2
  refine ⟨u,?_,h3⟩
  rcases h4 with ⟨p,rfl⟩|⟨f,l,rfl⟩|⟨b,rfl⟩|⟨t,u,rfl⟩<;>simp [VOp.ev,h1]
 |bin op x y=>
  obtain ⟨u,h1,h2⟩:=odK_some (show odK x E _=some a from h)
  obtain ⟨v,h3,h4⟩:=odK_some h2
  obtain ⟨s,m,rfl,h5⟩:=intOf_some h4
  obtain ⟨t,n,rfl,h6⟩:=intOf_some h5
  obtain ⟨h7,h8⟩:=brec_some h6
  cases kindN_inj h7
  obtain ⟨z,h9,h10⟩:=iarK_some h8
  exact ⟨z,by simp [VOp.ev,h1,h3,Wm.bin,h9],h10⟩
 |not x=>
  obtain ⟨u,h1,h2⟩:=odK_some (show odK x E _=some a from h)
  obtain ⟨b,rfl,h3⟩:=boolOf_some h2
  exact ⟨.bool !b,by simp [VOp.ev,h1],brec3 h3⟩
 |conv t x=>
  obtain ⟨u,h1,h2⟩:=odK_some (show odK x E _=some a from h)
  obtain ⟨s,n,rfl,h3⟩:=intOf_some h2
  rw [intK_eq] at h3
  exact ⟨_,by simp [VOp.ev,h1],h3⟩
 |faddr off x=>
  obtain ⟨u,h1,h2⟩:=odK_some (show odK x E _=some a from h)
  obtain ⟨⟨b,i,o⟩,rfl,h3⟩:=ptrOf_some h2
  have h3:natK (Nat.add o off) (fun o=>k (.ptr (some ⟨b,i,o⟩)))=some a:=h3
  rw [natK_eq] at h3
  exact ⟨_,by simp [VOp.ev,h1],h3⟩
 |fld off n ag x=>
  obtain ⟨u,h1,h2⟩:=odK_some (show odK x E _=some a from h)
  obtain ⟨l,rfl,h3⟩:=aggOfV_some h2
  cases ag with
  |true=>obtain ⟨h4,h5⟩:=partK_some (show partK l off n _=some a from h3);exact ⟨_,by simp [VOp.ev,h1,partOf,h4],h5⟩
  |false=>obtain ⟨v,h4,h5⟩:=nthK_some (show nthK l off k=some a from h3);exact ⟨v,by simp [VOp.ev,h1,partOf,h4],h5⟩
 |ixa esz x i=>
  obtain ⟨u,h1,h2⟩:=odK_some (show odK x E _=some a from h)
  obtain ⟨v,h3,h4⟩:=odK_some h2
  obtain ⟨p,m,c,rfl,h5⟩:=slOf_some h4
  obtain ⟨t,n,rfl,h6⟩:=intOf_some h5
  cases p with
  |none=>cases h6
  |some p=>
   obtain ⟨h7,h8⟩:=brec_some h6
   obtain ⟨q,h9,h10⟩:=ixpK_some h8
   exact ⟨_,by simp [VOp.ev,h1,h3,h7,h9],h10⟩
 |lens x=>
  obtain ⟨u,h1,h2⟩:=odK_some (show odK x E _=some a from h)
  obtain ⟨p,m,c,rfl,h3⟩:=slOf_some h2
  exact ⟨_,by simp [VOp.ev,h1],h3⟩
 |ext i x=>
  obtain ⟨u,h1,h2⟩:=odK_some (show odK x E _=some a from h)
  obtain ⟨l,rfl,h3⟩:=tupOf_some h2
  obtain ⟨v,h4,h5⟩:=nthK_some h3
  exact ⟨v,by simp [VOp.ev,h1,h4],h5⟩
 |mki t x=>
  obtain ⟨u,h1,h2⟩:=odK_some (show odK x E (fun v=>k (.ifc t v))=some a from h)
  exact ⟨_,by simp [VOp.ev,h1],h2⟩
 |_=>exact ev_simple h
theorem ef_simple {y:VEf} {E:Fr} {g:Gt} {n:Nat} {k:VV→Up→Option R} {a:R} (h:obK (VEf.evF y E g n) (fun r=>Prod.rec (fun v us=>vvK v fun v=>upsK us fun us=>k v us) r)=some a): ∃v us,y.ev E g n=some (v,us)∧k v us=some a:=by
 obtain ⟨⟨v,us⟩,h1,h2⟩:=obK_some h
 rw [VEf.evF_eq] at h1
 exact ⟨v,us,h1,by simpa using h2⟩
theorem updK_eq: ∀(cs e:List VV) (off:Nat) (k:List VV→R),updK e off cs k=k (upd e off cs)
 |[],e,off,k=>rfl
 |c::cs,e,off,k=>by
  show setK e off c (fun e=>natK (Nat.succ off) fun off=>updK e off cs k)=_
  rw [setK_eq,natK_eq,updK_eq];rfl
theorem lenN_eq {α:Type}: ∀l:List α,lenN l=l.length
 |[]=>rfl
 |x::l=>by show Nat.succ (lenN l)=_;rw [lenN_eq l];rfl
theorem defdB_eq (u:VV):defdB u=u.defd:=by cases u<;>rfl
theorem cellB_eq (u:VV):cellB u=u.cell:=by cases u<;>rfl
theorem brecB_true {b x:Bool} (h:Bool.rec (motive:=fun _=>Bool) false x b=true):b=true∧x=true:=by
 cases b with
 |false=>cases h
 |true=>exact ⟨rfl,h⟩
theorem allCell_eq: ∀{l:List VV},allCell l=true→okCells l=true
 |[],_=>rfl
 |x::l,h=>by
  obtain ⟨h1,h2⟩:=brecB_true (show Bool.rec (motive:=fun _=>Bool) false (allCell l) (cellB x)=true from h)
  rw [cellB_eq] at h1
  have:=allCell_eq h2
  unfold okCells at this ⊢
  simp [h1,this]
theorem boxOk_eq {u:VV} (h:boxOk u=true):u.defd=true∧okCells u.cells=true:=by
 obtain ⟨h1,h2⟩:=brecB_true h
 exact ⟨by rw [←defdB_eq];exact h1,allCell_eq h2⟩
theorem storeOk_eq {u:VV} {m o:Nat} {md:Mode} {e:List VV} (h:storeOk u m md o e=true):u.defd=true∧u.cells.length=m∧md≠ .ro∧o+u.cells.length≤e.length∧okCells u.cells=true:=by
 obtain ⟨h1,h⟩:=brecB_true h
 obtain ⟨h2,h⟩:=brecB_true h
 have h3:modeRo md=false:=by
  cases hm:modeRo md with
  |false=>rfl
  |true=>rw [hm] at h;cases h
 rw [h3] at h
 obtain ⟨h4,h5⟩:=brecB_true h
 refine ⟨by rw [←defdB_eq];exact h1,by rw [←lenN_eq];exact Nat.eq_of_beq_eq_true h2,?_,?_,allCell_eq h5⟩
 ·rintro rfl;cases h3
 ·rw [←lenN_eq,←lenN_eq e];exact Nat.le_of_ble_eq_true h4
theorem efK_some {y:VEf} {E:Fr} {g:Gt} {n:Nat} {k:VV→Up→Option R} {a:R} (h:efK y E g n k=some a): ∃v us,y.ev E g n=some (v,us)∧k v us=some a:=by
 cases y with
 |store m x v=>
  obtain ⟨p,h1,h2⟩:=odK_some (show odK x E _=some a from h)
  obtain ⟨u,h3,h4⟩:=odK_some h2
  obtain ⟨⟨b,i,o⟩,rfl,h5⟩:=ptrOf_some h4
  obtain ⟨bl,h6,h7⟩:=obK_some (show obK (g b) _=some a from h5)
  obtain ⟨t,md,es,rfl,h8⟩:=rowOf_some h7
  obtain ⟨e,h9,h10⟩:=nthK_some h8
  obtain ⟨h11,h12⟩:=brec_some h10
  rw [updK_eq,setK_eq] at h12
  obtain ⟨s1,s2,s3,s4,s5⟩:=storeOk_eq h11
  exact ⟨_,_,by simp only [VEf.ev,h1,h3];rw [if_pos ⟨s1,s2⟩];simp only [stc,h6];rw [if_neg s3];simp only [h9];rw [if_pos ⟨s4,s5⟩],h12⟩
 |alloc t zs=>exact ⟨_,_,rfl,h⟩
 |box t x=>
  obtain ⟨u,h1,h2⟩:=odK_some (show odK x E _=some a from h)
  obtain ⟨h3,h4⟩:=brec_some h2
  obtain ⟨s1,s2⟩:=boxOk_eq h3
  exact ⟨_,_,by simp only [VEf.ev,h1];rw [if_pos ⟨s1,s2⟩],h4⟩
 |mkmap=>exact ⟨_,_,rfl,h⟩
 |_=>exact ef_simple h
end
end Go.Wm
end
section
namespace Go.Wm
set_option linter.unusedVariables false
set_option linter.unusedSimpArgs false
def sapp:VC→VC→VC
 | .seq x y,r=> .seq x (sapp y r)
 |x,r=> .seq x r
def strip:VC→VC
 | .seq x y=> .seq (strip x) (strip y)
 | .cond s x y=> .cond s (strip x) (strip y)
 | .block i x=> .block i (strip x)
 | .loop x=> .loop (strip x)
 | .scope x=> .scope (strip x)
 | .dlm a r=>sapp (strip a) (strip r)
 |c=>c
def spineOk:VC→Bool
 | .seq _ y=>spineOk y
 | .dlm _ _=>false
 |_=>true
def noDI:VI→Bool
 | .dfr _ _ _ _=>false
 |_=>true
def noD:VC→Bool
 | .reg l _=>l.all noDI
 | .dreg l _ _=>l.all noDI
 | .seq x y=>noD x &&noD y
 | .cond _ x y=>noD x &&noD y
 | .block _ x=>noD x
 | .loop x=>noD x
 | .scope x=>noD x
 | .rfunc _ _ _ _=>false
 | .dlm _ _=>false
 |_=>true
def listE {α:Type} (f:α→α→Bool):List α→List α→Bool
 |[],[]=>true
 |x::l,y::m=>f x y &&listE f l m
 |_,_=>false
def paE:PA→PA→Bool
 |⟨a,b,c⟩,⟨d,e,f⟩=>Nat.beq a d &&(Nat.beq b e &&Nat.beq c f)
def optE {α:Type} (f:α→α→Bool):Option α→Option α→Bool
 |none,none=>true
 |some x,some y=>f x y
 |_,_=>false
def boolE:Bool→Bool→Bool
 |true,b=>b
 |false,b=> !b
def kindM:IntKind→Nat
 | .i8=>0| .i16=>1| .i32=>2| .i64=>3| .u8=>4| .u16=>5| .u32=>6| .u64=>7
theorem kindM_inj {a b:IntKind} (h:Nat.beq (kindM a) (kindM b)=true):a=b:=by
 cases a<;>cases b<;>first|rfl|cases h
def vvE:Nat→VV→VV→Bool
 |0,_,_=>false
 |n+1,a,b=>match a,b with
  | .undef,.undef=>true
  | .bool x,.bool y=>boolE x y
  | .int s x,.int t y=>Nat.beq (kindM s) (kindM t) &&ieq x y
  | .str s,.str t=>listE (fun a b=>Nat.beq a.toNat b.toNat) s t
  | .ptr p,.ptr q=>optE paE p q
  | .sl p a b,.sl q c d=>optE paE p q &&(Nat.beq a c &&Nat.beq b d)
  | .fn f l,.fn g m=>Nat.beq f g &&listE (vvE n) l m
  | .nilFn,.nilFn=>true
  | .agg l,.agg m=>listE (vvE n) l m
  | .tup l,.tup m=>listE (vvE n) l m
  | .map p,.map q=>optE Nat.beq p q
  | .nilI,.nilI=>true
  | .yield a,.yield b=>Nat.beq a b
  | .ifc t v,.ifc u w=>Nat.beq t u &&vvE n v w
  |_,_=>false
def mdN:Mode→Nat
 | .ro=>0
 | .own=>1
 | .loose=>2
def blkE:Blk→Blk→Bool
 | .dead,.dead=>true
 | .row t m es,.row u n fs=>Nat.beq t u &&(Nat.beq (mdN m) (mdN n) &&listE (listE (vvE 50)) es fs)
 | .obj (.map es),.obj (.map fs)=>listE (fun a b=>vvE 50 a.1 b.1 &&vvE 50 a.2 b.2) es fs
 |_,_=>false
theorem listE_eq {α:Type} {f:α→α→Bool} (hf: ∀x y,f x y=true→x=y): ∀{l m:List α},listE f l m=true→l=m
 |[],[],_=>rfl
 |x::l,y::m,h=>by
  simp only [listE,Bool.and_eq_true] at h
  rw [hf _ _ h.1,listE_eq hf h.2]
 |[],_::_,h=>by cases h
 |_::_,[],h=>by cases h
theorem paE_eq {p q:PA} (h:paE p q=true):p=q:=by
 obtain ⟨a,b,c⟩:=p
 obtain ⟨d,e,f⟩:=q
 simp only [paE,Bool.and_eq_true] at h
 rw [Nat.eq_of_beq_eq_true h.1,Nat.eq_of_beq_eq_true h.2.1,Nat.eq_of_beq_eq_true h.2.2]
theorem optE_eq {α:Type} {f:α→α→Bool} (hf: ∀x y,f x y=true→x=y) {p q:Option α} (h:optE f p q=true):p=q:=by
 cases p<;>cases q<;>first|rfl|(cases h;done)|exact congrArg some (hf _ _ h)
theorem boolE_eq {a b:Bool} (h:boolE a b=true):a=b:=by cases a<;>cases b<;>first|rfl|cases h
theorem ieqE {x y:Int} (h:ieq x y=true):x=y:=by
 cases x<;>cases y<;>simp only [ieq] at h
 ·rw [Nat.eq_of_beq_eq_true h]
 ·cases h
 ·cases h
 ·rw [Nat.eq_of_beq_eq_true h]
theorem vvE_eq: ∀(n:Nat) (a b:VV),vvE n a b=true→a=b
 |0,_,_,h=>by cases h
 |n+1,a,b,h=>by
  have ih:=vvE_eq n
  have nb: ∀x y,Nat.beq x y=true→x=y:=fun x y h=>Nat.eq_of_beq_eq_true h
  cases a<;>cases b<;>simp only [vvE,Bool.and_eq_true] at h<;>first|rfl|(cases h;done)|skip
  ·rw [boolE_eq h]
  ·rw [kindM_inj h.1,ieqE h.2]
  ·rw [listE_eq (fun x y h=>by have:=nb _ _ h;exact UInt8.toNat_inj.1 this) h]
  ·rw [optE_eq (fun _ _=>paE_eq) h]
  ·rw [optE_eq (fun _ _=>paE_eq) h.1,nb _ _ h.2.1,nb _ _ h.2.2]
  ·rw [nb _ _ h.1,listE_eq ih h.2]
  ·rw [listE_eq ih h]
  ·rw [listE_eq ih h]
  ·rw [optE_eq nb h]
  ·rw [nb _ _ h]
  ·rw [nb _ _ h.1,ih _ _ h.2]
theorem blkE_eq {a b:Blk} (h:blkE a b=true):a=b:=by
 have nb: ∀x y,Nat.beq x y=true→x=y:=fun x y h=>Nat.eq_of_beq_eq_true h
 cases a with
 |dead=>cases b<;>first|rfl|cases h
 |row t m es=>
  cases b with
  |row u n fs=>
   simp only [blkE,Bool.and_eq_true] at h
   have hm:m=n:=by
    have:=nb _ _ h.2.1
    cases m<;>cases n<;>first|rfl|cases this
   rw [nb _ _ h.1,hm,listE_eq (fun _ _ h=>listE_eq (vvE_eq 50) h) h.2.2]
  |_=>cases h
 |obj o=>
  cases b with
  |obj o'=>
   cases o<;>cases o'<;>first|(cases h;done)|skip
   simp only [blkE] at h
   rw [listE_eq (fun x y h=>by
    rw [Bool.and_eq_true] at h
    exact Prod.ext (vvE_eq 50 _ _ h.1) (vvE_eq 50 _ _ h.2)) h]
  |_=>cases o<;>cases h
abbrev Out:=VE×Fr×Tr
abbrev Ans:=List Out
abbrev CallK:=FuncId→List VV→Tr→(VV→Tr→Option Ans)→Option Ans
abbrev YieldK:=Nat→List VV→Tr→(VV→Tr→Option Ans)→Option Ans
abbrev LK:=CallK→YieldK→Fr→Tr→(Fr→Tr→Option Ans)→Option Ans
def sameF (F:Fr) (n:Nat):Out→Bool
 |(.normal,F',T')=>listE (fun a b=>Nat.beq a.1 b.1 &&vvE 50 a.2 b.2) F F' &&Nat.beq n T'.n
 |_=>false
def jAll:Ans→List Nat
 |[]=>[]
 |(_,_,T)::r=>T.j++jAll r
noncomputable def agree (T:Tr) (i:Nat) (o:Out):Bool:=optE blkE (treeG T.t i) (treeG o.2.2.t i)
def insN (s:Nat):List Nat→List Nat
 |[]=>[s]
 |x::l=>bif Nat.blt s x then s::x::l else bif Nat.beq s x then x::l else x::insN s l
noncomputable def dedN:List Nat→Nat→List Nat:=List.rec (motive:=fun _=>Nat→List Nat) (fun _=>[]) fun x _ ih m=>
 natK x fun x=>Bool.rec (natK (Nat.lor m (Nat.shiftLeft 1 x)) fun m=>x::ih m) (ih m) (Nat.beq (Nat.land (Nat.shiftRight m x) 1) 1)
noncomputable def insAll:List Nat→List Nat:=List.rec (motive:=fun _=>List Nat) [] fun x _ ih=>insN x ih
noncomputable def sortN (l:List Nat):List Nat:=insAll (dedN l 0)
noncomputable def merge:Ans→Option (Fr×Nat×Up)
 |(.normal,F,T)::r=>bif r.all (sameF F T.n) then some (F,T.n,(sortN (jAll ((.normal,F,T)::r))).map fun i=>(i,bif r.all (agree T i) then (treeG T.t i).getD .dead else .dead)) else none
 |_=>none
def appA:List Out→List Out→List Out
 |[],m=>m
 |x::l,m=>x::appA l m
noncomputable def anyO {α:Type} (f:α→Option Ans):List α→Option Ans
 |[]=>some []
 |x::l=>obK (f x) fun a=>obK (anyO f l) fun b=>some (appA a b)
def unseen:List (VV×VV)→Nat→List Nat→List (Nat×VV×VV)
 |[],_,_=>[]
 |e::es,i,seen=>bif seen.any (Nat.beq i) then unseen es (Nat.succ i) seen else (i,e)::unseen es (Nat.succ i) seen
noncomputable def trK {R:Type} (T:Tr) (k:Nat→Tree Blk→List Nat→R):R:=Tr.rec k T
theorem trK_eq {R:Type} (T:Tr) (k:Nat→Tree Blk→List Nat→R):trK T k=k T.n T.t T.j:=by cases T;rfl
noncomputable def wantK {R:Type} (g:Option (Nat×Bool)):Fr→Option R→Option R→Option R:=
 Option.rec (motive:=fun _=>Fr→Option R→Option R→Option R) (fun _ x _=>x) (fun p E x y=>Prod.rec (fun s b=>obK (want E (some (s,b))) fun c=>Bool.rec y x c) p) g
noncomputable def filtK {R:Type} (F:Fr):Nat→(Fr→R)→R:=
 List.rec (motive:=fun _=>Nat→(Fr→R)→R) (fun _ k=>k []) (fun p _ ih m k=>Prod.rec (fun s v=>Bool.rec (ih m k) (natK (Nat.xor m (Nat.shiftLeft 1 s)) fun m=>ih m fun G=>k ((s,v)::G)) (Nat.beq (Nat.land (Nat.shiftRight m s) 1) 1)) p) F
noncomputable def onlyK {R:Type} (F:Fr) (m:Nat) (k:Fr→R):R:=Bool.rec (filtK F (Nat.lor m (Nat.shiftLeft 1 dslot)) k) (k F) (Nat.beq m 0)
noncomputable def ptK {R:Type} (d:Option Nat) (v:VV) (E:Fr) (k:Fr→R):R:=Option.rec (k E) (fun s=>k ((s,v)::E)) d
noncomputable def fnOf {R:Type} (v:VV) (k:FuncId→List VV→Option R) (k2:Nat→Option R):Option R:=
 VV.rec (motive_1:=fun _=>Option R) (motive_2:=fun _=>Unit) none (fun _=>none) (fun _ _=>none) (fun _=>none) (fun p=>none) (fun _ _ _=>none) (fun f l _=>k f l) none (fun l _=>none) (fun _ _=>none) (fun _=>none) none k2 (fun _ _ _=>none) () (fun _ _ _ _=>()) v
noncomputable def appK {α R:Type} (a b:List α) (k:List α→R):R:=List.rec (motive:=fun _=>(List α→R)→R) (fun k=>k b) (fun x _ ih k=>ih fun l=>k (x::l)) a k
noncomputable def st_rd (d:Nat) (g:Option (Nat×Bool)) (y:VOp) (ih:LK):LK:=fun cl yl E T k=>wantK g E (rdK y E (treeG T.t) fun v=>ih cl yl ((d,v)::E) T k) (ih cl yl ((d,.tup [])::E) T k)
noncomputable def st_ef (d:Option Nat) (g:Option (Nat×Bool)) (y:VEf) (ih:LK):LK:=fun cl yl E T k=>wantK g E (trK T fun n t _=>efK y E (treeG t) n fun v us=>upK us T fun T'=>ptK d v E fun E'=>ih cl yl E' T' k) (ptK d (.tup []) E fun E'=>ih cl yl E' T k)
noncomputable def callK (cl:CallK) (yl:YieldK) (f:Od) (ar:List Od) (E:Fr) (T:Tr) (k:VV→Tr→Option Ans):Option Ans:=odK f E fun fv=>odsK ar E fun vs=>fnOf fv (fun fid caps=>appK vs caps fun l=>cl fid l T k) (fun b=>yl b vs T k)
noncomputable def st_call (d:Option Nat) (g:Option (Nat×Bool)) (f:Od) (ar:List Od) (ih:LK):LK:=fun cl yl E T k=>wantK g E (callK cl yl f ar E T fun r T'=>ptK d r E fun E'=>ih cl yl E' T' k) (ptK d (.tup []) E fun E'=>ih cl yl E' T k)
noncomputable def nxK (d:Nat) (x:Od) (ih:LK):LK:=fun cl yl E T k=>
 odK x E fun u=>ptrOf u fun p=>match p with
  |⟨b,0,0⟩=>match treeG T.t b with
   |some (.obj (.iter m n seen))=>match treeG T.t m with
    |some (.obj (.map es))=>bif Nat.beq (lenN es) n then (match unseen es 0 seen with
     |[]=>upK [(b,.dead)] T fun T'=>ih cl yl ((d,.tup [.bool false])::E) T' k
     |us=>anyO (fun p=>listK natK (seen++[p.1]) fun seen'=>upK [(b,.obj (.iter m n seen'))] T fun T'=>vvK (.tup [.bool true,p.2.1,p.2.2]) fun v=>ih cl yl ((d,v)::E) T' k) us) else none
    |_=>none
   |_=>none
  |_=>none
noncomputable def st_nx (d:Nat) (g:Option (Nat×Bool)) (x:Od) (ih:LK):LK:=fun cl yl E T k=>wantK g E (nxK d x ih cl yl E T k) (ih cl yl ((d,.tup [])::E) T k)
noncomputable def dferK {R:Type} (E:Fr) (v:VV) (k:Fr→Option R):Option R:=Option.rec (k ((dslot,.tup [v])::E)) (fun o=>tupOf o fun l=>k ((dslot,.tup (v::l))::E)) (geto E dslot)
noncomputable def st_dfr (d:Option Nat) (g:Option (Nat×Bool)) (f:Od) (ar:List Od) (ih:LK):LK:=fun cl yl E T k=>wantK g E (odK f E fun fv=>odsK ar E fun vs=>fnOf fv (fun fid caps=>vvK (.tup (.fn fid caps::vs)) fun v=>dferK E v fun E=>ptK d .undef E fun E'=>ih cl yl E' T k) (fun _=>none)) (ptK d (.tup []) E fun E'=>ih cl yl E' T k)
noncomputable def st_rcv (d:Nat) (g:Option (Nat×Bool)) (ih:LK):LK:=fun cl yl E T k=>wantK g E none (ih cl yl ((d,.tup [])::E) T k)
noncomputable def st_bad (d:Option Nat) (g:Option (Nat×Bool)) (ih:LK):LK:=fun cl yl E T k=>wantK g E none (ptK d (.tup []) E fun E'=>ih cl yl E' T k)
noncomputable def stepK:VI→LK→LK:=VI.rec (motive:=fun _=>LK→LK) st_rd st_ef st_call st_nx st_dfr st_rcv st_bad
noncomputable def runLK:List VI→LK:=List.rec (motive:=fun _=>LK) (fun _ _ E T k=>k E T) (fun x _ ih=>stepK x ih)
abbrev Chk:=VOp×Fr×VV×Nat×Nat
abbrev XK:=CallK→YieldK→List (Nat×Nat)→Nat→Fr→Tr→List (Tree Blk)→List Chk→(Fr→Tr→List (Tree Blk)→List Chk→Option Ans)→Option Ans
noncomputable def callF (cl:CallK) (f:Od) (ar:List Od) (E:Fr) (T:Tr) (k:VV→Tr→Option Ans):Option Ans:=odK f E fun fv=>odsK ar E fun vs=>fnOf fv (fun fid caps=>appK vs caps fun l=>cl fid l T k) (fun _=>none)
noncomputable def dcall (cl:CallK) (yl:YieldK) (f:Od) (ar:List Od) (E:Fr) (T:Tr) (k:VV→Tr→Option Ans):Option Ans:=
 obK (callF cl f ar E T fun r T'=>some [(.normal,[(0,r)],T')]) fun outs=>match outs with
  |[(_,[(_,r)],T')]=>k r T'
  |_=>none
noncomputable def bdK {R:Type} (b:List (Nat×Nat)) (k:Nat→Nat→List (Nat×Nat)→Option R):Option R:=List.rec none (fun p r _=>Prod.rec (fun lo hi=>k lo hi r) p) b
noncomputable def x_rd (d:Nat) (g:Option (Nat×Bool)) (y:VOp) (ih:XK):XK:=fun cl yl b m E T hs ck k=>bdK b fun lo hi r=>wantK g E
 (rdK y E (treeG T.t) fun v=>Bool.rec (ih cl yl r m ((d,v)::E) T hs ((y,E,v,lo,hi)::ck) k) (ih cl yl r m ((d,v)::E) T hs ck k) (and (Nat.beq lo m) (Nat.beq hi m))) (ih cl yl r m ((d,.tup [])::E) T hs ck k)
noncomputable def x_ef (d:Option Nat) (g:Option (Nat×Bool)) (y:VEf) (ih:XK):XK:=fun cl yl b m E T hs ck k=>bdK b fun lo hi r=>wantK g E
 (trK T fun n t _=>efK y E (treeG t) n fun v us=>upK us T fun T'=>ptK d v E fun E'=>natK (Nat.succ m) fun m=>trK T' fun _ t' _=>ih cl yl r m E' T' (t'::hs) ck k) (ptK d (.tup []) E fun E'=>natK (Nat.succ m) fun m=>trK T fun _ t' _=>ih cl yl r m E' T (t'::hs) ck k)
noncomputable def x_call (d:Option Nat) (g:Option (Nat×Bool)) (f:Od) (ar:List Od) (ih:XK):XK:=fun cl yl b m E T hs ck k=>bdK b fun lo hi r=>wantK g E
 (dcall cl yl f ar E T fun v T'=>ptK d v E fun E'=>natK (Nat.succ m) fun m=>trK T' fun _ t' _=>ih cl yl r m E' T' (t'::hs) ck k) (ptK d (.tup []) E fun E'=>natK (Nat.succ m) fun m=>trK T fun _ t' _=>ih cl yl r m E' T (t'::hs) ck k)
noncomputable def x_no (d:Option Nat) (g:Option (Nat×Bool)) (ih:XK):XK:=fun cl yl b m E T hs ck k=>bdK b fun lo hi r=>wantK g E none (ptK d (.tup []) E fun E'=>ih cl yl r m E' T hs ck k)
noncomputable def xstepK:VI→XK→XK:=VI.rec (motive:=fun _=>XK→XK) x_rd x_ef x_call (fun d g _=>x_no (some d) g) (fun d g _ _=>x_no d g) (fun d g=>x_no (some d) g) x_no
noncomputable def runXK:List VI→XK:=List.rec (motive:=fun _=>XK) (fun _ _ _ _ E T hs ck k=>k E T hs ck) (fun x _ ih=>xstepK x ih)
noncomputable def chkT (y:VOp) (E:Fr) (v:VV) (lo hi:Nat):Nat→List (Tree Blk)→Bool
 |_,[]=>true
 |n,t::ts=>(bif Nat.ble lo n &&Nat.ble n hi then (match y.evF E (treeG t) with|some u=>vvE 50 v u|none=>false) else true) &&chkT y E v lo hi (Nat.pred n) ts
noncomputable def chkA (m:Nat) (hs:List (Tree Blk)):List Chk→Bool
 |[]=>true
 |(y,E,v,lo,hi)::r=>chkT y E v lo hi m hs &&chkA m hs r
noncomputable def loopK {R:Type} (g:Fr→Tr→(VE→Fr→Tr→Option R)→Option R) (n:Nat):Fr→Tr→(VE→Fr→Tr→Option R)→Option R:=
 Nat.rec (motive:=fun _=>Fr→Tr→(VE→Fr→Tr→Option R)→Option R) (fun _ _ _=>none) (fun _ ih F T k=>g F T fun e F T=>VE.rec (ih F T k) (k .ret F T) (fun i=>k (.exit i) F T) e) n
abbrev KC:=VE→Fr→Tr→Option Ans
abbrev CK:=CallK→YieldK→Nat→Fr→Tr→KC→Option Ans
noncomputable def c_skip:CK:=fun _ _ _ F T k=>k .normal F T
noncomputable def c_reg (l:List VI) (keep:Nat):CK:=fun cl yl n F T k=>runLK l cl yl F T fun E T=>onlyK E keep fun F=>k .normal F T
noncomputable def c_dreg (l:List VI) (b:List (Nat×Nat)) (keep:Nat):CK:=fun cl yl n F T k=>trK T fun _ t _=>runXK l cl yl b 0 F T [t] [] fun E T hs ck=>Bool.rec none (onlyK E keep fun F=>k .normal F T) (chkA (Nat.pred (lenN hs)) hs ck)
noncomputable def c_seq (_ _:VC) (ix iy:CK):CK:=fun cl yl n F T k=>ix cl yl n F T fun e F T=>VE.rec (iy cl yl n F T k) (k .ret F T) (fun i=>k (.exit i) F T) e
noncomputable def c_cond (s:Nat) (_ _:VC) (ix iy:CK):CK:=fun cl yl n F T k=>getK F s fun v=>boolOf v fun b=>Bool.rec (iy cl yl n F T k) (ix cl yl n F T k) b
noncomputable def c_block (id:Nat) (_:VC) (ix:CK):CK:=fun cl yl n F T k=>ix cl yl n F T fun e F T=>VE.rec (k .normal F T) (k .ret F T) (fun i=>Bool.rec (k (.exit i) F T) (k .normal F T) (Nat.beq i id)) e
noncomputable def c_loop (_:VC) (ix:CK):CK:=fun cl yl n F T k=>loopK (ix cl yl n) n F T k
noncomputable def c_exit (id:Nat):CK:=fun cl yl n F T k=>k (.exit id) F T
noncomputable def c_ret:CK:=fun cl yl n F T k=>k .ret F T
noncomputable def c_scope (_:VC) (ix:CK):CK:=fun cl yl n F T k=>ix cl yl n F T k
def delK (F:Fr):Fr:=F.filter fun p=> !(Nat.beq p.1 dslot)
noncomputable def c_rfunc (f:Od) (ps:List Nat) (va vb:VC) (_ _:CK):CK:=fun cl yl n F T k=>odK f F fun fv=>fnOf fv (fun fid caps=>trK T fun m _ _=>natK (Nat.succ m) fun m1=>upK [(m,.obj (.defs false)),(m1,.obj (.loop ⟨0,none,0,0,delK F,ps,va,vb,m⟩))] T fun T1=>
 cl fid (.yield m1::caps) T1 fun _ T2=>match treeG T2.t m1 with
  |some (.obj (.loop r))=>Bool.rec (upK [(m1,.obj (.loop {r with st:=3}))] T2 fun T3=>dferK F (.map (some m)) fun F'=>Option.rec (k .normal F' T3) (fun e=>k e F' T3) r.pend) none (Nat.beq r.st 2)
  |_=>none) (fun _=>none)
noncomputable def c_bad:CK:=fun _ _ _ _ _ _=>none
noncomputable def c_dlm (a _:VC) (ia ir:CK):CK:=fun cl yl n F T k=>Bool.rec none (trK T fun tn tt tj=>obK (ia cl yl n F ⟨tn,tt,[]⟩ fun e F T'=>some [(e,F,T')]) fun outs=>obK (merge outs) fun o=>match o with
 |(F',n1,us)=>upsK us fun us=>upK us ⟨tn,tt,[]⟩ fun T2=>trK T2 fun n2 t2 j2=>Bool.rec none (appK j2 tj fun j=>ir cl yl n F' ⟨n2,t2,j⟩ k) (Nat.beq n1 n2)) (spineOk a)
noncomputable def runCK:VC→CK:=VC.rec (motive:=fun _=>CK) c_skip c_reg c_dreg c_seq c_cond c_block c_loop c_exit c_ret c_scope c_rfunc c_bad c_dlm
noncomputable def argsK {R:Type} (l:List VV):Nat→(Fr→R)→R:=
 List.rec (motive:=fun _=>Nat→(Fr→R)→R) (fun _ k=>k []) (fun v _ ih n k=>natK (Nat.succ n) fun m=>ih m fun F=>k ((n,v)::F)) l
noncomputable def drun1 (dl:CallK) (x:VV) (H:Tr) (k:Tr→Option Ans):Option Ans:=
 match x with
 | .map (some b)=>match treeG H.t b with
   |some (.obj (.defs false))=>upK [(b,.obj (.defs true))] H k
   |_=>none
 | .tup (.fn g caps::as)=>appK as caps fun l=>dl g l H fun _ H=>k H
 |_=>none
noncomputable def drunK (dl:CallK) (ds:List VV):Tr→(Tr→Option Ans)→Option Ans:=
 List.rec (motive:=fun _=>Tr→(Tr→Option Ans)→Option Ans) (fun H k=>k H) (fun x _ ih H k=>drun1 dl x H fun H=>ih H k) ds
noncomputable def resK (rs:List RV) (F:Fr) (H:Tr) (k:VV→Tr→Option Ans):Option Ans:=obK (resV F (treeG H.t) rs) fun v=>vvK v fun v=>k v H
noncomputable def endK (dl:CallK) (rs:List RV) (k:VV→Tr→Option Ans):KC:=fun e F H=>
 (fun fin=>VE.rec fin fin (fun _=>none) e) (Option.rec (resK rs F H k) (fun o=>tupOf o fun ds=>drunK dl ds H fun H=>resK rs F H k) (geto F dslot))
noncomputable def endD (rs:List RV) (k:VV→Tr→Option Ans):KC:=fun e F H=>
 (fun fin=>VE.rec fin fin (fun _=>none) e) (Option.rec (resK rs F H k) (fun _=>none) (geto F dslot))
noncomputable def dvc (cl:CallK) (yl:YieldK) (n:Nat) (vc:VC) (F:Fr) (H:Tr) (k:KC):Option Ans:=
 match vc with
 | .seq (.reg [.rcv d none,.rd d2 none (.mv (.t s))] keep) y=>bif Nat.beq s d then onlyK ((d2,.nilI)::(d,.nilI)::F) keep fun F=>runCK y cl yl n F H k else none
 |vc=>runCK vc cl yl n F H k
structure Mach where
 c:CallK
 y:YieldK
 d:CallK
noncomputable def m_call (TT:Tree FRow) (n:Nat) (ih:Mach):CallK:=fun f args H k=>obK (treeG TT f) fun r=>FRow.rec (fun rf rn vc rs=>Bool.rec none (argsK args 0 fun F=>runCK vc ih.c ih.y n F H (endK ih.d rs k)) (and (Nat.beq rf f) (Nat.ble (lenN args) rn))) r
noncomputable def m_defer (TT:Tree FRow) (n:Nat) (ih:Mach):CallK:=fun f args H k=>obK (treeG TT f) fun r=>FRow.rec (fun rf rn vc rs=>Bool.rec none (argsK args 0 fun F=>dvc ih.c ih.y n vc F H (endD rs k)) (and (Nat.beq rf f) (Nat.ble (lenN args) rn))) r
noncomputable def m_yield (n:Nat) (ih:Mach):YieldK:=fun b vs H k=>match treeG H.t b with
 |some (.obj (.loop r))=>bif Nat.beq r.st 0 &&(noD r.va &&noD r.vb) then obK (zipF r.ps vs r.E) fun F=>runCK r.va ih.c ih.y n F H fun e F1 H1=>match e with
  | .normal=>match treeG H1.t b with
    |some (.obj (.loop r1))=>bif Nat.beq r1.st 0 then upK [(b,.obj (.loop {r1 with st:=2}))] H1 fun H2=>runCK r.vb ih.c ih.y n F1 H2 fun e _ H3=>match treeG H3.t b with
     |some (.obj (.loop r2))=>match e with
      | .normal=>upK [(b,.obj (.loop {r2 with st:=0,pend:=none}))] H3 fun H4=>k (.bool true) H4
      | .ret=>upK [(b,.obj (.loop {r2 with st:=1,pend:=some .ret}))] H3 fun H4=>k (.bool false) H4
      | .exit i=>upK [(b,.obj (.loop {r2 with st:=1,pend:=some (.exit i)}))] H3 fun H4=>k (.bool false) H4
     |_=>none else none
    |_=>none
  |_=>none else none
 |_=>none
end Go.Wm
end
section
namespace Go.Wm
set_option linter.unusedVariables false
set_option linter.unusedSimpArgs false
structure TRep (T:Tr) (H:Hp):Prop where
 n:T.n=H.length
 g: ∀i,treeG T.t i=H[i]?
theorem TRep.fn {T:Tr} {H:Hp} (h:TRep T H):treeG T.t=H.g:=funext h.g
theorem TRep.uniq {T:Tr} {H H':Hp} (h:TRep T H) (h':TRep T H'):H=H':=List.ext_getElem? fun i=>by rw [←h.g,←h'.g]
def Jr (T T':Tr):Prop:= ∀i,i∉T'.j→i∉T.j∧treeG T'.t i=treeG T.t i
theorem Jr.refl (T:Tr):Jr T T:=fun i h=>⟨h,rfl⟩
theorem Jr.trans {T T' T2:Tr} (h:Jr T T') (k:Jr T' T2):Jr T T2:=fun i hi=>let ⟨h1,h2⟩:=k i hi;let ⟨h3,h4⟩:=h i h1;⟨h3,h2.trans h4⟩
theorem upK_some {R:Type}: ∀{us:Up} {T:Tr} {k:Tr→Option R} {a:R} {H:Hp},upK us T k=some a→TRep T H→ ∃T',TRep T' (applyU H us)∧Jr T T'∧k T'=some a
 |[],T,k,a,H,h,hT=>⟨T,hT,Jr.refl T,h⟩
 |(i,b)::us,T,k,a,H,h,hT=>by
  obtain ⟨n,t,j⟩:=T
  have hn:n=H.length:=hT.n
  obtain ⟨t',q1,q2⟩:=treeS_some (show treeS t i b _=some a from h)
  have hg: ∀i,treeG t i=H[i]? :=hT.g
  have hj: ∀m,Jr ⟨n,t,j⟩ ⟨m,t',i::j⟩:=fun m x hx=>by
   simp only [List.mem_cons,not_or] at hx
   exact ⟨hx.2,by show treeG t' x=treeG t x;rw [q1,if_neg hx.1]⟩
  have q2:Bool.rec (motive:=fun _=>Option R) (Bool.rec (motive:=fun _=>Option R) none (upK us ⟨n,t',i::j⟩ k) (Nat.ble i n)) (natK (Nat.succ n) fun n=>upK us ⟨n,t',i::j⟩ k) (Nat.beq i n)=some a:=q2
  by_cases hi:i=n
  ·rw [beq_of hi] at q2
   simp only [natK_eq] at q2
   have hT':TRep ⟨n+1,t',i::j⟩ (H++[b]):=⟨by simp [hn],fun x=>by
    show treeG t' x=_
    rw [q1,hg]
    by_cases hx:x=i
    ·rw [if_pos hx,hx,hi,hn];simp
    ·rw [if_neg hx]
     rcases Nat.lt_or_ge x H.length with hlt|hge
     ·rw [List.getElem?_append_left hlt]
     ·rw [List.getElem?_eq_none hge,List.getElem?_eq_none (by simp;omega)]⟩
   obtain ⟨T',r1,r2,r3⟩:=upK_some q2 hT'
   refine ⟨T',?_,(hj (n+1)).trans r2,r3⟩
   unfold applyU
   rw [if_neg (by omega)]
   exact r1
  ·rw [beq_of_ne hi] at q2
   obtain ⟨q3,q4⟩:=brec_some q2
   have hle:=Nat.le_of_ble_eq_true q3
   have hlt:i<H.length:=by omega
   have hT':TRep ⟨n,t',i::j⟩ (H.set i b):=⟨by simp [hn],fun x=>by
    show treeG t' x=_
    rw [q1,hg,List.getElem?_set]
    by_cases hx:x=i
    ·rw [if_pos hx,if_pos hx.symm,if_pos hlt]
    ·rw [if_neg hx,if_neg (Ne.symm hx)]⟩
   obtain ⟨T',r1,r2,r3⟩:=upK_some q4 hT'
   refine ⟨T',?_,(hj n).trans r2,r3⟩
   unfold applyU
   rw [if_pos hlt]
   exact r1
section
variable {R:Type}
theorem wantK_some {g:Option (Nat×Bool)} {E:Fr} {x y:Option R} {a:R} (h:wantK g E x y=some a):(want E g=some true∧x=some a)∨(want E g=some false∧y=some a):=by
 cases g with
 |none=>exact .inl ⟨rfl,h⟩
 |some p=>
  obtain ⟨s,b⟩:=p
  obtain ⟨c,h1,h2⟩:=obK_some (show obK (want E (some (s,b))) _=some a from h)
  cases c with
  |true=>exact .inl ⟨h1,h2⟩
  |false=>exact .inr ⟨h1,h2⟩
theorem ptK_eq (d:Option Nat) (v:VV) (E:Fr) (k:Fr→R):ptK d v E k=k (E.pt d v):=by cases d<;>rfl
theorem fnOf_some {v:VV} {k:FuncId→List VV→Option R} {k2:Nat→Option R} {a:R} (h:fnOf v k k2=some a):(∃f l,v= .fn f l∧k f l=some a)∨ ∃b,v= .yield b∧k2 b=some a:=by
 cases v with
 |fn f l=>exact .inl ⟨f,l,rfl,h⟩
 |yield b=>exact .inr ⟨b,rfl,h⟩
 |_=>cases h
theorem appK_eq {α:Type}: ∀(a b:List α) (k:List α→R),appK a b k=k (a++b)
 |[],b,k=>rfl
 |x::a,b,k=>appK_eq a b fun l=>k (x::l)
theorem filtK_eq: ∀(F:Fr) (m:Nat) (k:Fr→R),filtK F m k=k (F.filt m)
 |[],m,k=>rfl
 |(s,v)::F,m,k=>by
  have e:filtK ((s,v)::F) m k=Bool.rec (motive:=fun _=>R) (filtK F m k) (natK (Nat.xor m (Nat.shiftLeft 1 s)) fun m=>filtK F m fun G=>k ((s,v)::G)) (Nat.beq (Nat.land (Nat.shiftRight m s) 1) 1):=rfl
  rw [e]
  unfold Fr.filt
  cases Nat.beq (Nat.land (Nat.shiftRight m s) 1) 1
  ·exact filtK_eq F m k
  ·simp only [natK_eq,cond_true];exact filtK_eq F _ _
theorem onlyK_eq (F:Fr) (m:Nat) (k:Fr→R):onlyK F m k=k (F.only m):=by
 unfold onlyK Fr.only
 cases Nat.beq m 0
 ·exact filtK_eq _ _ _
 ·rfl
theorem dferK_some {E:Fr} {v:VV} {k:Fr→Option R} {a:R} (h:dferK E v k=some a):k (E.defer v)=some a:=by
 unfold dferK at h
 rw [geto_eq] at h
 unfold Fr.defer
 cases hx:E.get dslot with
 |none=>rw [hx] at h;exact h
 |some o=>
  rw [hx] at h
  obtain ⟨l,rfl,h2⟩:=tupOf_some h
  exact h2
theorem argsK_eq: ∀(l:List VV) (n:Nat) (k:Fr→R),argsK l n k=k (argsF n l)
 |[],n,k=>rfl
 |v::l,n,k=>by
  have e:argsK (v::l) n k=natK (Nat.succ n) fun m=>argsK l m fun F=>k ((n,v)::F):=rfl
  rw [e,natK_eq,argsK_eq];rfl
theorem and_true {a b:Bool} (h:and a b=true):a=true∧b=true:=by cases a<;>cases b<;>first|exact ⟨rfl,rfl⟩|cases h
end
def AfL (T:Tr) (k:Fr→Tr→Option Ans) (ans:Ans) (E:Fr) (H:Hp):Prop:= ∃T' a',TRep T' H∧Jr T T'∧k E T'=some a'∧ ∀o∈a',o∈ans
def AfV (T:Tr) (k:VV→Tr→Option Ans) (ans:Ans) (v:VV) (H:Hp):Prop:= ∃T' a',TRep T' H∧Jr T T'∧k v T'=some a'∧ ∀o∈a',o∈ans
def AfC (T:Tr) (k:KC) (ans:Ans):VQ:=fun e F H=> ∃ve T' a',e=VE.to ve∧TRep T' H∧Jr T T'∧k ve F T'=some a'∧ ∀o∈a',o∈ans
theorem AfL.up {T T':Tr} {k:Fr→Tr→Option Ans} {ans ans':Ans} {E:Fr} {H:Hp} (h:AfL T' k ans' E H) (hj:Jr T T') (hs: ∀o∈ans',o∈ans):AfL T k ans E H:=
 let ⟨T2,a,h1,h2,h3,h4⟩:=h;⟨T2,a,h1,hj.trans h2,h3,fun o ho=>hs o (h4 o ho)⟩
theorem AfV.up {T T':Tr} {k:VV→Tr→Option Ans} {ans ans':Ans} {v:VV} {H:Hp} (h:AfV T' k ans' v H) (hj:Jr T T') (hs: ∀o∈ans',o∈ans):AfV T k ans v H:=
 let ⟨T2,a,h1,h2,h3,h4⟩:=h;⟨T2,a,h1,hj.trans h2,h3,fun o ho=>hs o (h4 o ho)⟩
theorem AfC.up {T T':Tr} {k:KC} {ans ans':Ans} {e:Exit} {F:Fr} {H:Hp} (h:AfC T' k ans' e F H) (hj:Jr T T') (hs: ∀o∈ans',o∈ans):AfC T k ans e F H:=
 let ⟨ve,T2,a,h0,h1,h2,h3,h4⟩:=h;⟨ve,T2,a,h0,h1,hj.trans h2,h3,fun o ho=>hs o (h4 o ho)⟩
def CallOk (P:Program) (cl:CallK):Prop:= ∀f args T H k ans,TRep T H→cl f args T k=some ans→FnV P f args H (AfV T k ans)∧ ∃v H',AfV T k ans v H'
def YldOk (P:Program) (yl:YieldK):Prop:= ∀b args T H k ans,TRep T H→yl b args T k=some ans→YldV P b args H (AfV T k ans)∧ ∃v H',AfV T k ans v H'
def DefOk (P:Program) (dl:CallK):Prop:= ∀f args T H k ans,TRep T H→dl f args T k=some ans→FnD P f args H (AfV T k ans)∧ ∃v H',AfV T k ans v H'
section
variable {P:Program} {B N:Nat} {rn:Bool} {cl:CallK} {yl:YieldK}
theorem VOps.mono {l:List VI} {E:Fr} {H:Hp} {Q Q':VQ} (h:VOps P B N rn l E H Q) (hq: ∀e F H,Q e F H→Q' e F H):VOps P B N rn l E H Q':=
 fun ro hro ops os hc σ w a hH hF=>wpListIn_mono (fun _ _ _ hp=>hp.mono hq) _ _ _ (h ro hro ops os hc σ w a hH hF)
theorem VOps.forget {l:List VI} {E:Fr} {H:Hp} {Q:VQ} (i:Nat) (h:VOps P B N rn l E (H.set i .dead) Q):VOps P B N rn l E H Q:=
 fun ro hro ops os hc σ w a hH hF=>h ro hro ops os hc σ w a (hH.kill i) hF
theorem VW.forget {c:VC} {F:Fr} {H:Hp} {Q:VQ} (i:Nat) (h:VW P B N rn c F (H.set i .dead) Q):VW P B N rn c F H Q:=
 fun ro hro K c' hc σ w a hH hF=>h ro hro K c' hc σ w a (hH.kill i) hF
theorem callK_some {f:Od} {ar:List Od} {E:Fr} {T:Tr} {k:VV→Tr→Option Ans} {ans:Ans} (h:callK cl yl f ar E T k=some ans):
 (∃fid caps vs,f.ev E=some (.fn fid caps)∧Od.evs E ar=some vs∧cl fid (vs++caps) T k=some ans)∨ ∃b vs,f.ev E=some (.yield b)∧Od.evs E ar=some vs∧yl b vs T k=some ans:=by
 obtain ⟨fv,h1,h2⟩:=odK_some (show odK f E _=some ans from h)
 obtain ⟨vs,h3,h4⟩:=odsK_some h2
 rcases fnOf_some h4 with ⟨g,l,rfl,h5⟩|⟨b,rfl,h5⟩
 ·rw [appK_eq] at h5;exact .inl ⟨g,l,vs,h1,h3,h5⟩
 ·exact .inr ⟨b,vs,h1,h3,h5⟩
theorem appA_eq: ∀a b:Ans,appA a b=a++b
 |[],b=>rfl
 |x::a,b=>congrArg (x:: ·) (appA_eq a b)
theorem anyO_some {α:Type} {f:α→Option Ans}: ∀{l:List α} {ans:Ans},anyO f l=some ans→ ∀x∈l,∃a,f x=some a∧ ∀o∈a,o∈ans
 |[],ans,h,x,hx=>by cases hx
 |y::l,ans,h,x,hx=>by
  obtain ⟨a,h1,h2⟩:=obK_some (show obK (f y) _=some ans from h)
  obtain ⟨b,h3,h4⟩:=obK_some h2
  have h5:ans=a++b:=by rw [←appA_eq];exact (Option.some.inj h4).symm
  rcases List.mem_cons.1 hx with rfl|hx
  ·exact ⟨a,h1,fun o ho=>by rw [h5];exact List.mem_append_left _ ho⟩
  ·obtain ⟨a',q1,q2⟩:=anyO_some h3 x hx
   exact ⟨a',q1,fun o ho=>by rw [h5];exact List.mem_append_right _ (q2 o ho)⟩
theorem any_beq {seen:List Nat} {i:Nat}:seen.any (Nat.beq i)=true↔i∈seen:=by
 rw [List.any_eq_true]
 exact ⟨fun ⟨x,h1,h2⟩=>by rw [Nat.eq_of_beq_eq_true h2];exact h1,fun h=>⟨i,h,beq_of rfl⟩⟩
theorem mem_unseen {seen:List Nat}: ∀{es:List (VV×VV)} {k i:Nat} {e:VV×VV},k+i∉seen→es[i]? =some e→(k+i,e)∈unseen es k seen
 |[],k,i,e,_,h=>by simp at h
 |x::es,k,0,e,hn,h=>by
  simp at h;subst h
  have:seen.any (Nat.beq k)=false:=by
   cases hs:seen.any (Nat.beq k) with
   |false=>rfl
   |true=>exact absurd (any_beq.1 hs) hn
  simp [unseen,this]
 |x::es,k,i+1,e,hn,h=>by
  have ih:=mem_unseen (es:=es) (k:=Nat.succ k) (i:=i) (e:=e) (by rw [show Nat.succ k+i=k+(i+1) by omega];exact hn) (by simpa using h)
  rw [show Nat.succ k+i=k+(i+1) by omega] at ih
  unfold unseen
  cases seen.any (Nat.beq k)
  ·exact List.mem_cons_of_mem _ ih
  ·exact ih
theorem of_unseen {seen:List Nat}: ∀{es:List (VV×VV)} {k:Nat} {p:Nat×VV×VV},p∈unseen es k seen→p.1∉seen∧k≤p.1∧p.1<k+es.length∧es[p.1-k]? =some p.2
 |[],k,p,h=>by simp [unseen] at h
 |x::es,k,p,h=>by
  unfold unseen at h
  have rest:p∈unseen es (Nat.succ k) seen→p.1∉seen∧k≤p.1∧p.1<k+(x::es).length∧(x::es)[p.1-k]? =some p.2:=fun h=>by
   obtain ⟨h1,h2,h3,h4⟩:=of_unseen h
   refine ⟨h1,by omega,by simp;omega,?_⟩
   rw [show p.1-k=(p.1-Nat.succ k)+1 by omega]
   simpa using h4
  cases hs:seen.any (Nat.beq k) with
  |false=>
   rw [hs] at h
   rcases List.mem_cons.1 h with rfl|h
   ·exact ⟨fun hm=>(by rw [any_beq.2 hm] at hs;cases hs),Nat.le_refl _,by simp,by simp⟩
   ·exact rest h
  |true=>rw [hs] at h;exact rest h
theorem runLK_ok (hc:CallOk P cl) (hy:YldOk P yl): ∀(l:List VI) (E:Fr) (T:Tr) (H:Hp) (k:Fr→Tr→Option Ans) (ans:Ans),runLK l cl yl E T k=some ans→TRep T H→(rn=true→l.all noDI=true)→
 VOps P B N rn l E H (fun e E' H'=>e= .normal∧AfL T k ans E' H')∧ ∃E' H',AfL T k ans E' H'
 |[],E,T,H,k,ans,h,hT,_=>⟨VOps.nil ⟨rfl,T,ans,hT,Jr.refl T,h,fun _ ho=>ho⟩,E,H,T,ans,hT,Jr.refl T,h,fun _ ho=>ho⟩
 |x::l,E,T,H,k,ans,h,hT,hnd=>by
  have hnd':rn=true→l.all noDI=true:=fun e=>by have:=hnd e;simp only [List.all_cons,Bool.and_eq_true] at this;exact this.2
  have h:stepK x (runLK l) cl yl E T k=some ans:=h
  have sk:want E x.gd=some false→runLK l cl yl (E.pt x.ds (.tup [])) T k=some ans→VOps P B N rn (x::l) E H (fun e E' H'=>e= .normal∧AfL T k ans E' H')∧ ∃E' H',AfL T k ans E' H':=fun hw h=>
   let ⟨h1,h2⟩:=runLK_ok hc hy l _ T H k ans h hT hnd'
   ⟨VOps.skip hw h1,h2⟩
  have next: ∀{T':Tr} {H':Hp} {E':Fr} {a':Ans},TRep T' H'→Jr T T'→runLK l cl yl E' T' k=some a'→(∀o∈a',o∈ans)→VOps P B N rn l E' H' (fun e E' H'=>e= .normal∧AfL T k ans E' H')∧ ∃E' H',AfL T k ans E' H':=fun {T' H' E' a'} q1 q2 q3 q4=>
   let ⟨h1,E2,H2,h2⟩:=runLK_ok hc hy l E' T' H' k a' q3 q1 hnd'
   ⟨h1.mono fun e F H hq=>⟨hq.1,hq.2.up q2 q4⟩,E2,H2,h2.up q2 q4⟩
  cases x with
  |rd d g y=>
   rcases wantK_some (show wantK g E _ _=some ans from h) with ⟨hw,h⟩|⟨hw,h⟩
   ·obtain ⟨v,q1,q2⟩:=rdK_some h
    rw [hT.fn] at q1
    obtain ⟨r1,r2⟩:=next hT (Jr.refl T) q2 fun _ ho=>ho
    exact ⟨VOps.rd hw q1 r1,r2⟩
   ·exact sk hw h
  |ef d g y=>
   rcases wantK_some (show wantK g E _ _=some ans from h) with ⟨hw,h⟩|⟨hw,h⟩
   ·rw [trK_eq] at h
    obtain ⟨v,us,q1,q2⟩:=efK_some h
    rw [hT.fn,hT.n] at q1
    obtain ⟨T',r1,r2,r3⟩:=upK_some q2 hT
    rw [ptK_eq] at r3
    obtain ⟨s1,s2⟩:=next r1 r2 r3 fun _ ho=>ho
    exact ⟨VOps.ef hw q1 s1,s2⟩
   ·rw [ptK_eq] at h;exact sk hw h
  |call d g f ar=>
   rcases wantK_some (show wantK g E _ _=some ans from h) with ⟨hw,h⟩|⟨hw,h⟩
   ·rcases callK_some h with ⟨fid,caps,vs,e1,e2,e3⟩|⟨b,vs,e1,e2,e3⟩
    ·obtain ⟨q1,v,H',T',a',q2,q3,q4,q5⟩:=hc _ _ T H _ ans hT e3
     refine ⟨VOps.call hw e1 e2 (q1.mono fun r H' hr=> ?_),?_⟩
     ·obtain ⟨T',a',t1,t2,t3,t4⟩:=hr
      simp only [ptK_eq] at t3
      exact (next t1 t2 t3 t4).1
     ·simp only [ptK_eq] at q4
      exact (next q2 q3 q4 q5).2
    ·obtain ⟨q1,v,H',T',a',q2,q3,q4,q5⟩:=hy _ _ T H _ ans hT e3
     refine ⟨VOps.yld hw e1 e2 (q1.mono fun r H' hr=> ?_),?_⟩
     ·obtain ⟨T',a',t1,t2,t3,t4⟩:=hr
      simp only [ptK_eq] at t3
      exact (next t1 t2 t3 t4).1
     ·simp only [ptK_eq] at q4
      exact (next q2 q3 q4 q5).2
   ·rw [ptK_eq] at h;exact sk hw h
  |nx d g y=>
   rcases wantK_some (show wantK g E _ _=some ans from h) with ⟨hw,h⟩|⟨hw,h⟩
   ·obtain ⟨u,e1,h⟩:=odK_some (show odK y E _=some ans from h)
    obtain ⟨p,rfl,h2⟩:=ptrOf_some h
    replace h:=h2
    clear h2
    split at h
    case h_2=>cases h
    rename_i b
    split at h
    case h_2=>cases h
    rename_i m n seen hb
    split at h
    case h_2=>cases h
    rename_i es hm
    rw [hT.g] at hb hm
    have hbl:b<H.length:=(List.getElem?_eq_some_iff.1 hb).1
    cases hlen:Nat.beq (lenN es) n with
    |false=>rw [hlen] at h;cases h
    |true=>
    rw [hlen] at h
    simp only [cond_true] at h
    have hn:es.length=n:=by rw [←lenN_eq];exact Nat.eq_of_beq_eq_true hlen
    split at h
    ·rename_i hu
     obtain ⟨T',r1,r2,r3⟩:=upK_some h hT
     rw [applyU_set hbl] at r1
     obtain ⟨s1,s2⟩:=next r1 r2 r3 fun _ ho=>ho
     refine ⟨VOps.nx hw e1 hb hm hn (fun _=>VOps.forget b s1) fun i e hi he=> ?_,s2⟩
     have:=mem_unseen (k:=0) (seen:=seen) (es:=es) (i:=i) (e:=e) (by simpa using hi) he
     rw [hu] at this;cases this
    ·rename_i hne
     have one: ∀p∈unseen es 0 seen,VOps P B N rn l ((d,.tup [.bool true,p.2.1,p.2.2])::E) (H.set b (.obj (.iter m n (seen++[p.1])))) (fun e E' H'=>e= .normal∧AfL T k ans E' H')∧ ∃E' H',AfL T k ans E' H':=fun p hp=>by
      obtain ⟨a,q1,q2⟩:=anyO_some h p hp
      rw [natsK_eq] at q1
      obtain ⟨T',r1,r2,r3⟩:=upK_some q1 hT
      rw [applyU_set hbl] at r1
      rw [vvK_eq] at r3
      exact next r1 r2 r3 q2
     refine ⟨VOps.nx hw e1 hb hm hn (fun hall=> ?_) fun i e hi he=> ?_,?_⟩
     ·exfalso
      cases hu:unseen es 0 seen with
      |nil=>exact hne hu
      |cons p r=>
       obtain ⟨u1,u2,u3,_⟩:=of_unseen (p:=p) (seen:=seen) (es:=es) (k:=0) (by rw [hu];simp)
       exact u1 (hall p.1 (by omega))
     ·have:=mem_unseen (k:=0) (seen:=seen) (es:=es) (i:=i) (e:=e) (by simpa using hi) he
      have q:=(one _ this).1
      simpa using q
     ·cases hu:unseen es 0 seen with
      |nil=>exact absurd hu hne
      |cons p r=>exact (one p (by rw [hu];simp)).2
   ·exact sk hw h
  |dfr d g f ar=>
   rcases wantK_some (show wantK g E _ _=some ans from h) with ⟨hw,h⟩|⟨hw,h⟩
   ·have hrn:rn=false:=by
     cases hr:rn with
     |false=>rfl
     |true=>have:=hnd hr;simp [noDI] at this
    obtain ⟨fv,e1,h⟩:=odK_some (show odK f E _=some ans from h)
    obtain ⟨vs,e2,h⟩:=odsK_some h
    rcases fnOf_some h with ⟨fid,caps,rfl,h2⟩|⟨b,rfl,h2⟩
    ·rw [vvK_eq] at h2
     have h3:=dferK_some h2
     rw [ptK_eq] at h3
     obtain ⟨s1,s2⟩:=next hT (Jr.refl T) h3 fun _ ho=>ho
     exact ⟨VOps.dfr hrn hw e1 e2 s1,s2⟩
    ·cases h2
   ·rw [ptK_eq] at h;exact sk hw h
  |rcv d g=>
   rcases wantK_some (show wantK g E _ _=some ans from h) with ⟨hw,h⟩|⟨hw,h⟩
   ·cases h
   ·exact sk hw h
  |bad d g=>
   rcases wantK_some (show wantK g E _ _=some ans from h) with ⟨hw,h⟩|⟨hw,h⟩
   ·cases h
   ·rw [ptK_eq] at h;exact sk hw h
end
end Go.Wm
end
section
namespace Go.Wm
set_option linter.unusedVariables false
set_option linter.unusedSimpArgs false
section
variable {P:Program} {B N:Nat} {rn:Bool} {cl:CallK} {yl:YieldK}
theorem bdK_some {R:Type} {b:List (Nat×Nat)} {k:Nat→Nat→List (Nat×Nat)→Option R} {a:R} (h:bdK b k=some a): ∃lo hi r,b=(lo,hi)::r∧k lo hi r=some a:=by
 cases b with
 |nil=>cases h
 |cons p r=>obtain ⟨lo,hi⟩:=p;exact ⟨lo,hi,r,rfl,h⟩
def HsRep:List (Tree Blk)→List Hp→Prop
 |[],[]=>True
 |t::ts,H::Hs=>treeG t=H.g∧HsRep ts Hs
 |_,_=>False
theorem HsRep.length: ∀{ts:List (Tree Blk)} {Hs:List Hp},HsRep ts Hs→ts.length=Hs.length
 |[],[],_=>rfl
 |_::_,_::_,h=>congrArg (· +1) (HsRep.length h.2)
 |[],_::_,h=>h.elim
 |_::_,[],h=>h.elim
def ChkOk (HS:List Hp):Chk→Prop
 |(y,E,v,lo,hi)=> ∀j H1,lo≤j→j≤hi→HS[j]? =some H1→y.ev E H1.g=some v
theorem chkT_ok {y:VOp} {E:Fr} {v:VV} {lo hi:Nat}: ∀{ts:List (Tree Blk)} {Hs:List Hp} {n:Nat},HsRep ts Hs→n+1=ts.length→chkT y E v lo hi n ts=true→ChkOk Hs.reverse (y,E,v,lo,hi)
 |[],_,n,_,hn,_=>by simp at hn
 |t::ts,[],n,h,_,_=>h.elim
 |t::ts,H::Hs,n,h,hn,hc=>by
  obtain ⟨h1,h2⟩:=h
  unfold chkT at hc
  rw [Bool.and_eq_true] at hc
  obtain ⟨c1,c2⟩:=hc
  have hl:=h2.length
  simp at hn
  intro j H1 hlo hhi hj
  rw [List.reverse_cons] at hj
  rcases Nat.lt_or_ge j Hs.length with hlt|hge
  ·rw [List.getElem?_append_left (by simpa using hlt)] at hj
   cases n with
   |zero=>omega
   |succ n=>exact chkT_ok h2 hn.symm.symm c2 j H1 hlo hhi hj
  ·rw [List.getElem?_append_right (by simpa using hge)] at hj
   have hjn:j=n:=by
    rcases Nat.eq_or_lt_of_le hge with h|h
    ·omega
    ·rw [List.getElem?_eq_none (by simp;omega)] at hj;cases hj
   subst hjn
   have:j-Hs.reverse.length=0:=by simp;omega
   rw [this] at hj
   simp at hj
   subst hj
   have hb:(Nat.ble lo j &&Nat.ble j hi)=true:=by rw [Bool.and_eq_true];exact ⟨Nat.ble_eq_true_of_le hlo,Nat.ble_eq_true_of_le hhi⟩
   rw [hb] at c1
   simp only [cond_true] at c1
   rw [VOp.evF_eq,h1] at c1
   split at c1
   ·rename_i u hu;rw [hu,vvE_eq 50 _ _ c1]
   ·cases c1
theorem chkA_ok {ts:List (Tree Blk)} {Hs:List Hp} {n:Nat} (h:HsRep ts Hs) (hn:n+1=ts.length): ∀{ck:List Chk},chkA n ts ck=true→ ∀c∈ck,ChkOk Hs.reverse c
 |[],_,c,hc=>by cases hc
 |(y,E,v,lo,hi)::r,hk,c,hc=>by
  unfold chkA at hk
  rw [Bool.and_eq_true] at hk
  rcases List.mem_cons.1 hc with rfl|hc
  ·exact chkT_ok h hn hk.1
  ·exact chkA_ok h hn hk.2 c hc
theorem callF_some {f:Od} {ar:List Od} {E:Fr} {T:Tr} {k:VV→Tr→Option Ans} {ans:Ans} (h:callF cl f ar E T k=some ans):
 ∃fid caps vs,f.ev E=some (.fn fid caps)∧Od.evs E ar=some vs∧cl fid (vs++caps) T k=some ans:=by
 obtain ⟨fv,h1,h2⟩:=odK_some (show odK f E _=some ans from h)
 obtain ⟨vs,h3,h4⟩:=odsK_some h2
 rcases fnOf_some h4 with ⟨g,l,rfl,h5⟩|⟨b,rfl,h5⟩
 ·rw [appK_eq] at h5;exact ⟨g,l,vs,h1,h3,h5⟩
 ·cases h5
theorem dcall_some {f:Od} {ar:List Od} {E:Fr} {T:Tr} {H:Hp} {k:VV→Tr→Option Ans} {ans:Ans} (hc:CallOk P cl) (hy:YldOk P yl) (hT:TRep T H) (h:dcall cl yl f ar E T k=some ans):
 ∃fid caps vs r T' H',f.ev E=some (.fn fid caps)∧Od.evs E ar=some vs∧FnV P fid (vs++caps) H (fun r2 H2=>r2=r∧H2=H')∧TRep T' H'∧Jr T T'∧k r T'=some ans:=by
 obtain ⟨outs,h1,h2⟩:=obK_some (show obK (callF cl f ar E T _) _=some ans from h)
 split at h2
 case h_2=>cases h2
 rename_i e0 s0 r T'
 obtain ⟨fid,caps,vs,e1,e2,e3⟩:=callF_some h1
 ·obtain ⟨q1,v,H',T1,a',q2,q3,q4,q5⟩:=hc _ _ T H _ _ hT e3
  have key: ∀{v:VV} {T1:Tr} {a':Ans},some [((VE.normal,[(0,v)],T1):Out)]=some a'→(∀o∈a',o∈[((e0,[(s0,r)],T'):Out)])→v=r∧T1=T':=fun {v T1 a'} g1 g2=>by
   have:a'=[(.normal,[(0,v)],T1)]:=(Option.some.inj g1).symm
   subst this
   have:=g2 _ (List.mem_singleton.2 rfl)
   simp at this
   exact ⟨this.2.1.2,this.2.2⟩
  obtain ⟨rfl,rfl⟩:=key q4 q5
  refine ⟨fid,caps,vs,v,T1,H',e1,e2,q1.mono fun r2 H2 ⟨T2,a2,t1,t2,t3,t4⟩=> ?_,q2,q3,h2⟩
  obtain ⟨rfl,rfl⟩:=key t3 t4
  exact ⟨rfl,t1.uniq q2⟩
theorem rev_at {HS nw:List Hp} {H:Hp} {m:Nat} (hl:HS.length=m+1) (hh:HS.head? =some H):(nw++HS).reverse[m]? =some H:=by
 cases HS with
 |nil=>simp at hl
 |cons x r=>
  simp at hh hl
  subst hh
  rw [List.reverse_append,List.reverse_cons,List.append_assoc,List.getElem?_append_right (by simp;omega)]
  simp [hl]
theorem runXK_ok (hc:CallOk P cl) (hy:YldOk P yl): ∀(l:List VI) (b:List (Nat×Nat)) (m:Nat) (E:Fr) (T:Tr) (H:Hp) (hs:List (Tree Blk)) (HS:List Hp) (ck:List Chk) (k:Fr→Tr→List (Tree Blk)→List Chk→Option Ans) (ans:Ans),
 runXK l cl yl b m E T hs ck k=some ans→TRep T H→HsRep hs HS→HS.length=m+1→HS.head? =some H→
 ∃E' T' H' hs' HS' nw ck',k E' T' hs' ck'=some ans∧TRep T' H'∧Jr T T'∧HsRep hs' HS'∧HS'=nw++HS∧(∀c∈ck,c∈ck')∧((∀c∈ck',ChkOk HS'.reverse c)→VX P HS'.reverse l b m E H fun E2 H2=>E2=E'∧H2=H')
 |[],b,m,E,T,H,hs,HS,ck,k,ans,h,hT,hr,hl,hh=>⟨E,T,H,hs,HS,[],ck,h,hT,Jr.refl T,hr,rfl,fun _ h=>h,fun _=>⟨rfl,rfl⟩⟩
 |x::l,b,m,E,T,H,hs,HS,ck,k,ans,h,hT,hr,hl,hh=>by
  have h:xstepK x (runXK l) cl yl b m E T hs ck k=some ans:=h
  have sk0: ∀{lo hi r},b=(lo,hi)::r→x.isEf=false→want E x.gd=some false→runXK l cl yl r m (E.pt x.ds (.tup [])) T hs ck k=some ans→ ∃E' T' H' hs' HS' nw ck',k E' T' hs' ck'=some ans∧TRep T' H'∧Jr T T'∧HsRep hs' HS'∧HS'=nw++HS∧(∀c∈ck,c∈ck')∧((∀c∈ck',ChkOk HS'.reverse c)→VX P HS'.reverse (x::l) b m E H fun E2 H2=>E2=E'∧H2=H'):=fun {lo hi r} hb hx hw h=>by
   obtain ⟨E',T',H',hs',HS',nw,ck',q1,q2,q3,q4,q5,q6,q7⟩:=runXK_ok hc hy l r m _ T H hs HS ck k ans h hT hr hl hh
   exact ⟨E',T',H',hs',HS',nw,ck',q1,q2,q3,q4,q5,q6,fun hck=> .inl ⟨hw,fun e=>(by rw [hx] at e;cases e),(by rw [hb];unfold VI.next;rw [hx];exact q7 hck)⟩⟩
  have ef: ∀{lo hi r v T1 H1},b=(lo,hi)::r→x.isEf=true→want E x.gd=some true→TRep T1 H1→Jr T T1→(∀HS':List Hp,HS'[m+1]? =some H1→Does P HS' lo hi m x E H v H1)→runXK l cl yl r (m+1) (E.pt x.ds v) T1 (T1.t::hs) ck k=some ans→
   ∃E' T' H' hs' HS' nw ck',k E' T' hs' ck'=some ans∧TRep T' H'∧Jr T T'∧HsRep hs' HS'∧HS'=nw++HS∧(∀c∈ck,c∈ck')∧((∀c∈ck',ChkOk HS'.reverse c)→VX P HS'.reverse (x::l) b m E H fun E2 H2=>E2=E'∧H2=H'):=fun {lo hi r v T1 H1} hb hx hw g1 g2 g3 h=>by
   obtain ⟨E',T',H',hs',HS',nw,ck',q1,q2,q3,q4,q5,q6,q7⟩:=runXK_ok hc hy l r (m+1) _ T1 H1 (T1.t::hs) (H1::HS) ck k ans h g1 ⟨g1.fn,hr⟩ (by simp [hl]) rfl
   refine ⟨E',T',H',hs',HS',nw++[H1],ck',q1,q2,g2.trans q3,q4,by rw [q5];simp,q6,fun hck=> .inr ⟨hw,v,H1,?_,?_⟩⟩
   ·rw [hb];exact g3 _ (by rw [q5];exact rev_at (by simp [hl]) rfl)
   ·rw [hb];unfold VI.next;rw [hx];exact q7 hck
  have efs: ∀{lo hi r},b=(lo,hi)::r→x.isEf=true→want E x.gd=some false→runXK l cl yl r (m+1) (E.pt x.ds (.tup [])) T (T.t::hs) ck k=some ans→
   ∃E' T' H' hs' HS' nw ck',k E' T' hs' ck'=some ans∧TRep T' H'∧Jr T T'∧HsRep hs' HS'∧HS'=nw++HS∧(∀c∈ck,c∈ck')∧((∀c∈ck',ChkOk HS'.reverse c)→VX P HS'.reverse (x::l) b m E H fun E2 H2=>E2=E'∧H2=H'):=fun {lo hi r} hb hx hw h=>by
   obtain ⟨E',T',H',hs',HS',nw,ck',q1,q2,q3,q4,q5,q6,q7⟩:=runXK_ok hc hy l r (m+1) _ T H (T.t::hs) (H::HS) ck k ans h hT ⟨hT.fn,hr⟩ (by simp [hl]) rfl
   refine ⟨E',T',H',hs',HS',nw++[H],ck',q1,q2,q3,q4,by rw [q5];simp,q6,fun hck=> .inl ⟨hw,fun _=> ?_,?_⟩⟩
   ·rw [q5];exact rev_at (by simp [hl]) rfl
   ·rw [hb];unfold VI.next;rw [hx];exact q7 hck
  cases x with
  |rd d g y=>
   have h:x_rd d g y (runXK l) cl yl b m E T hs ck k=some ans:=h
   unfold x_rd at h
   obtain ⟨lo,hi,r,hb,h⟩:=bdK_some h
   rcases wantK_some h with ⟨hw,h⟩|⟨hw,h⟩
   ·obtain ⟨v,e1,h⟩:=rdK_some h
    rw [hT.fn] at e1
    have step: ∀ck2,(∀c∈ck,c∈ck2)→runXK l cl yl r m ((d,v)::E) T hs ck2 k=some ans→(∀HS' nw,HS'=nw++HS→(∀c∈ck2,ChkOk HS'.reverse c)→ ∀j H1,lo≤j→j≤hi→HS'.reverse[j]? =some H1→y.ev E H1.g=some v)→
     ∃E' T' H' hs' HS' nw ck',k E' T' hs' ck'=some ans∧TRep T' H'∧Jr T T'∧HsRep hs' HS'∧HS'=nw++HS∧(∀c∈ck,c∈ck')∧((∀c∈ck',ChkOk HS'.reverse c)→VX P HS'.reverse (.rd d g y::l) b m E H fun E2 H2=>E2=E'∧H2=H'):=fun ck2 hsub h hck2=>by
     obtain ⟨E',T',H',hs',HS',nw,ck',q1,q2,q3,q4,q5,q6,q7⟩:=runXK_ok hc hy l r m _ T H hs HS ck2 k ans h hT hr hl hh
     refine ⟨E',T',H',hs',HS',nw,ck',q1,q2,q3,q4,q5,fun c hc=>q6 c (hsub c hc),fun hck=> .inr ⟨hw,v,H,⟨rfl,?_⟩,?_⟩⟩
     ·rw [hb];exact hck2 HS' nw q5 fun c hc=>hck c (q6 c hc)
     ·rw [hb];exact q7 hck
    cases hbd:and (Nat.beq lo m) (Nat.beq hi m) with
    |false=>
     rw [hbd] at h
     exact step ((y,E,v,lo,hi)::ck) (fun c hc=>List.mem_cons_of_mem _ hc) h fun HS' nw _ hck=>hck _ List.mem_cons_self
    |true=>
     rw [hbd] at h
     obtain ⟨b1,b2⟩:=and_true hbd
     have b1:=Nat.eq_of_beq_eq_true b1
     have b2:=Nat.eq_of_beq_eq_true b2
     refine step ck (fun _ h=>h) h fun HS' nw hHS _ j H1 h1 h2 h3=> ?_
     have:j=m:=by omega
     subst this
     rw [hHS,rev_at hl hh] at h3
     cases h3
     exact e1
   ·exact sk0 hb rfl hw h
  |ef d g y=>
   have h:x_ef d g y (runXK l) cl yl b m E T hs ck k=some ans:=h
   unfold x_ef at h
   obtain ⟨lo,hi,r,hb,h⟩:=bdK_some h
   rcases wantK_some h with ⟨hw,h⟩|⟨hw,h⟩
   ·rw [trK_eq] at h
    obtain ⟨v,us,e1,h⟩:=efK_some h
    rw [hT.fn,hT.n] at e1
    obtain ⟨T1,r1,r2,h⟩:=upK_some h hT
    rw [ptK_eq,natK_eq,trK_eq] at h
    exact ef hb rfl hw r1 r2 (fun HS' hq=>⟨⟨us,e1,rfl⟩,hq⟩) h
   ·rw [ptK_eq,natK_eq,trK_eq] at h
    exact efs hb rfl hw h
  |call d g f ar=>
   have h:x_call d g f ar (runXK l) cl yl b m E T hs ck k=some ans:=h
   unfold x_call at h
   obtain ⟨lo,hi,r,hb,h⟩:=bdK_some h
   rcases wantK_some h with ⟨hw,h⟩|⟨hw,h⟩
   ·obtain ⟨fid,caps,vs,v,T1,H1,e1,e2,e3,r1,r2,h⟩:=dcall_some hc hy hT h
    rw [ptK_eq,natK_eq,trK_eq] at h
    exact ef hb rfl hw r1 r2 (fun HS' hq=>⟨⟨fid,caps,vs,e1,e2,e3⟩,hq⟩) h
   ·rw [ptK_eq,natK_eq,trK_eq] at h
    exact efs hb rfl hw h
  |nx d g y=>
   have h:x_no (some d) g (runXK l) cl yl b m E T hs ck k=some ans:=h
   unfold x_no at h
   obtain ⟨lo,hi,r,hb,h⟩:=bdK_some h
   rcases wantK_some h with ⟨hw,h⟩|⟨hw,h⟩
   ·cases h
   ·rw [ptK_eq] at h;exact sk0 hb rfl hw h
  |dfr d g f ar=>
   have h:x_no d g (runXK l) cl yl b m E T hs ck k=some ans:=h
   unfold x_no at h
   obtain ⟨lo,hi,r,hb,h⟩:=bdK_some h
   rcases wantK_some h with ⟨hw,h⟩|⟨hw,h⟩
   ·cases h
   ·rw [ptK_eq] at h;exact sk0 hb rfl hw h
  |rcv d g=>
   have h:x_no (some d) g (runXK l) cl yl b m E T hs ck k=some ans:=h
   unfold x_no at h
   obtain ⟨lo,hi,r,hb,h⟩:=bdK_some h
   rcases wantK_some h with ⟨hw,h⟩|⟨hw,h⟩
   ·cases h
   ·rw [ptK_eq] at h;exact sk0 hb rfl hw h
  |bad d g=>
   have h:x_no d g (runXK l) cl yl b m E T hs ck k=some ans:=h
   unfold x_no at h
   obtain ⟨lo,hi,r,hb,h⟩:=bdK_some h
   rcases wantK_some h with ⟨hw,h⟩|⟨hw,h⟩
   ·cases h
   ·rw [ptK_eq] at h;exact sk0 hb rfl hw h
end
end Go.Wm
end
