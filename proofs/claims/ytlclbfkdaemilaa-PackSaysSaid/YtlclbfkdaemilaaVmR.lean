/- From a function over the canonical heap to the law's contract, for arguments of which something is known. -/
import Derived.Test.YtlclbfkdaemilaaVmP
import Derived.WalkKit
import Derived.ProofKit
import Derived.OpenShut
import Derived.JoinedCond
namespace Go.Vm
set_option linter.unusedSimpArgs false
set_option linter.unusedVariables false
open Go.RowKit Go.ChangeShapes Go.WideShapes Go.ChangeAt

section
variable {D : Type} {enc : TypeId × Value → D} {P : Program} {W : World}
/-- a law of which something is known of the arguments, from its function over the canonical heap -/
theorem law_contract_at {f : FuncId} {fn : Func} {s : ChangeSpec} {tb : TypeId} {d0 : Nat} {apart fresh handsOn again : Bool} (hl : laidOutB P = true) (hr : ∀ t ∈ fn.params.toList, P.readableRec t = true ∧ t < P.types.size) (hp : ∀ t ∈ fn.params.toList, plainB P d0 t = true)
    (hv : s.vars = []) (hrt : fn.resultTypes = #[tb]) (htb : P.underlying tb = some .bool) (hs : ∀ ds : List (DataW D), ds.length = fn.params.size → s.fn D ds = { results := [.lit (.bool true)], args := ds })
    (args : Array Value) (ds gs : List (DataW D)) (law : ∀ (H : Hp) (vvs : List VV), ArgsRd P H fn.params.toList vvs ds → FnV P f vvs H fun r _ => r = .bool true)
     (before : List MemPlace) (base : Nat)
    (hval : ∀ (j : Nat) t v, fn.params[j]? = some t → args[j]? = some v → Value.okWide P W .any base t v) (hW : DataW.Whole enc P fn.params.toList s.vars apart W args.toList ds gs before) :
    Calls P f args W fun e W' => ∃ v, e = .returned v ∧ s.post enc P fn apart fresh handsOn again W args v W' := by
  have hW' := hW
  obtain ⟨p, q, hA, hV, rfl, hfz, hnd⟩ := hW
  rw [hv] at hV
  have hgs : gs = [] ∧ q = [] := by cases gs <;> simp [DataW.TrodVars] at hV; exact ⟨rfl, hV⟩
  obtain ⟨rfl, rfl⟩ := hgs
  have h0 : HRel (fun _ => none) W.heap.size [] W := ⟨Nat.le_refl _, (fun _ _ e => by cases e), (fun _ _ _ _ e => by simp at e), (fun _ _ _ _ _ _ _ _ _ _ e => by simp at e), (fun _ _ e => by simp at e), (fun _ _ _ _ _ _ e => by simp at e)⟩
  obtain ⟨σ, G, vvs, q1, q2, q3, q4⟩ := openArgs fn.params.toList hp args.toList ds p (fun j t v h1 h2 => ⟨_, _, hval j t v (by simpa using h1) (by simpa using h2)⟩) hA h0
  have hlen : ds.length = fn.params.size := by
    have : ∀ {ts : List TypeId} {vvs : List VV} {ds : List (DataW D)}, ArgsRd P ([] ++ G) ts vvs ds → ds.length = ts.length := by
      intro ts vvs ds h
      induction h with
      | nil => rfl
      | cons h r ih => simp [ih]
    have := this q4
    simpa using this
  have hsp := hs ds hlen
  refine ((law _ _ q4).2 σ W.heap.size W args q2 q3).mono fun e w' ⟨r, v', H', σ', e1, e2, e3, _, _, hb⟩ => ?_
  subst e3
  cases e2
  refine ⟨_, e1, post_of_below (pa := p) (pv := []) hW' ?_ ?_ ?_ rfl hb ?_⟩
  · intro b sp hd
    rw [List.append_nil, hsp, hrt]
    exact trodAll_cons_mk (shut_bool htb _) trodAll_mk0
  · intro sp hsp'
    rw [List.append_nil, hsp]
    refine argsStay hl hb hr (fun x hx => hW'.lt x (by simp [hx])) (fun x hx => hsp' x (by simp [hx])) hA
  · intro sp _
    rw [List.append_nil, hsp, hv]
    exact rfl
  · exact ok_one hrt rfl (okWide_bool_mk htb _)
end
end Go.Vm
