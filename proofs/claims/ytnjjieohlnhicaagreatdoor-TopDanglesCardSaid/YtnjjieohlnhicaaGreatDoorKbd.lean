/- TopDangles: whatever the numbers: the parse of the row of 'if', 'else' and 'x' that they draw, by the tables of the dangling else, says what the recursion over the row says, and an 'else' goes with the nearest 'if'; under the condition that the tables are as the program's text lays them. -/
import Derived.Test.YtnjjieohlnhicaaGreatDoorTie
import Derived.Test.YtnjjieohlnhicaaGreatDoorCards
import Derived.Test.YtnjjieohlnhicaaGreatDoorKbc
namespace Go.Proofs.YtnjjieohlnhicaaGreatDoor
set_option linter.unusedSimpArgs false
set_option linter.unusedVariables false
open Go Go.Wm Go.Proofs Go.ChangeShapes Go.WideShapes Go.ChangeAt Go.RowKit
set_option maxRecDepth 100000
set_option maxHeartbeats 400000000
namespace TopDangles
theorem and2 {a b:Bool} (h1:a=true) (h2:b=true):(a &&b)=true:=by rw [h1,h2];rfl
theorem door_met (os:Os) (args:Array Value):laidMetH Tryz.prog laidL ((World.doorLaid Tryz.prog 400 os).forCall (fun _ _=>0) ⟨#[],args,[]⟩).memory:=
 laidMetH_of_parts3 (fuel:=8) (laidMet_of_run' 8 (by kernel_rfl) (by kernel_rfl)) (by kernel_rfl) (by kernel_rfl)
theorem h0a (k:Nat):HAvd 3 (3+k) H0:=by
 intro i x hx
 rcases ro0 i (List.getElem?_eq_some_iff.1 hx).1 with ⟨h,_⟩|⟨t,es,h,hlo⟩
 ·rw [hx] at h;cases h;exact .inl rfl
 ·rw [hx] at h
  cases h
  exact .inr ⟨t,.ro,es,rfl,fun k e j v h1 h2=>Dr.lo_avd (hlo k e j v h1 h2)⟩
theorem h0r (i:Nat) (x:Blk) (hx:H0[i]? =some x):x= .dead∨ ∃t es,x= .row t .ro es:=by
 rcases ro0 i (List.getElem?_eq_some_iff.1 hx).1 with ⟨h,_⟩|⟨t,es,h,hlo⟩
 ·rw [hx] at h;cases h;exact .inl rfl
 ·rw [hx] at h;cases h;exact .inr ⟨t,es,rfl⟩
theorem lifted (os:Os) (started:os.Started) (H:Type) (enc:TypeId×Value→H):
 ReturnsInHanded {} Tryz.checked os 3 .any (fun w args=>(Rows.topDanglesSpec.pre enc Tryz.prog Tryz.f3 [] false w args∧laidMetH Tryz.prog laidL w)∧sizedMet enc Tryz.prog Tryz.f3 (OpenSpec.ofChange Rows.topDanglesSpec) false w args)
  (Rows.topDanglesSpec.post enc Tryz.prog Tryz.f3 false true false false):=by
 refine returnsInHanded_of_change_and (C:=Tryz.checked) (X:=fun w _=>laidMetH Tryz.prog laidL w) (fun _ _ _ hh h=>h.of_heap hh) own started (by kernel_rfl) Tryz.func3
  (ChangeSpec.witness_shaped (enc:=enc) (C:=Tryz.checked) (os:=os) (X:=fun w _=>laidMetH Tryz.prog laidL w) false (World.doorLaid Tryz.prog 400 os) #[.slice none 0 0] 8 rfl (World.shaped_of_RefB (by kernel_rfl) (by kernel_rfl)) (by kernel_rfl) (by kernel_rfl) (by kernel_rfl) (door_met os _)) ?_
 intro W base args ds gs before hval hW _ _ hL _
 obtain ⟨σ,h0,hpos⟩:=h0_of_laid hL
 exact law_contract_ints (s:=Rows.topDanglesSpec) (tb:=4) (d0:=5) hpos laidOut (by decide+kernel) (by decide+kernel) rfl (by kernel_rfl) uBool (fun ds hl=>by
  have hl':ds.length=1:=hl
  match ds,hl' with
  |[_],_=>rfl) h0 (t:=22) (e:=3) (by rw [Tryz.params3]) uInts uI64 cI64 (m:=3) rfl (by decide) h0a h0r args ds gs (fun X p l c hX hs hw hl=>by
   exact (Dr.lawF (c:=c) X hX hs (fun n hn=>wf_i64 (hw n hn)) (by unfold maxLen at hl;omega)).fnv) before base hval hW
theorem facts:joinedFacts Tryz.pinned.checked.prog 3 Tryz.f3 Rows.topDanglesSpec Rows.topDanglesRow=true:=by
 unfold joinedFacts
 repeat' with_reducible refine and2 ?_ ?_
 all_goals as_aux_lemma=>kernel_rfl
theorem named:Tryz.pinned.checked.prog.funcNamed Rows.topDanglesRow.func=some 3:=by kernel_rfl
theorem over:Rows.TopDanglesSaid:=
 OpenClaim.holds_of_wide 3 Tryz.f3 rfl rfl rfl rfl rfl rfl rfl ⟨rfl,rfl,rfl,rfl,rfl⟩ rfl rfl rfl rfl rfl named Tryz.func3 facts
  (of_decide_eq_true (by kernel_rfl)) (by unfold Func.isWrapper;first|(rw [if_pos (by decide+kernel)];kernel_rfl)|(rw [if_neg (by decide+kernel)];exact ⟨rfl,rfl⟩))
  (fun os started H enc _=>lifted os started H enc)
theorem wfText:Rows.topDanglesRow.wfByText (OpenSpec.ofChange Rows.topDanglesSpec)=true:=by kernel_rfl
theorem mainIs:Tryz.pinned.checked.prog.mainIs=some (true,("60b0e9331b8b5bbe21e743855b37f4f0897cd3c933519a81d3e67fbabc082f29" :String).toList):=by kernel_rfl
theorem looks:true=Tryz.pinned.checked.prog.looks []:=by kernel_rfl
theorem noIns0:Tryz.pinned.checked.prog.wantsStandIn 22=false:=by kernel_rfl
theorem goes:false=Rows.topDanglesRow.goesBy Tryz.pinned.checked.prog:=by kernel_rfl
theorem proved:Rows.TopDanglesCardSaid:=
 Claim7.holds_tied_plain_at .later [] [.data,.widerDeep] true (true,"60b0e9331b8b5bbe21e743855b37f4f0897cd3c933519a81d3e67fbabc082f29") true
  over (fun _ h=>by cases h) wfText (fun _ h=>by cases h) topDangles_row_tie rfl ⟨rfl,rfl⟩ mainIs rfl
  (fun f fn hf hfn=>by
   obtain rfl:f=3:=Option.some.inj (named.symm.trans hf)|>.symm
   obtain rfl:fn=Tryz.f3:=(Option.some.inj (Tryz.func3.symm.trans hfn)).symm
   refine ⟨looks,fun j t ht=> ?_⟩
   rw [Tryz.params3] at ht
   match j,ht with
   |0,ht=>cases ht;exact noIns0
   |j+1,ht=>simp at ht)
  goes
#print axioms proved
end TopDangles
end Go.Proofs.YtnjjieohlnhicaaGreatDoor
