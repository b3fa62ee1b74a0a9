/- From a function over the canonical heap to the law's contract. -/
import Derived.Test.YtbcaceeiehjplacGreatDoorWmZa
import Derived.WalkKit
import Derived.ProofKit
import Derived.OpenShut
import Derived.JoinedCond
namespace Go.Wm
set_option linter.unusedSimpArgs false
set_option linter.unusedVariables false
open Go.RowKit Go.ChangeShapes Go.WideShapes Go.ChangeAt

def isStruct (P : Program) (t : TypeId) : Bool := match P.underlying t with | some (.struct _) => true | _ => false
/-- an argument, as it comes to a function -/
def ArgRd {D : Type} (P : Program) (H : Hp) (t : TypeId) (v : VV) (d : DataW D) : Prop :=
  ∃ vs, Rd P H t vs d ∧ v = if isStruct P t then .agg vs else vs.headD .undef
inductive ArgsRd {D : Type} (P : Program) (H : Hp) : List TypeId → List VV → List (DataW D) → Prop
  | nil : ArgsRd P H [] [] []
  | cons {t ts v vs d ds} (h : ArgRd P H t v d) (r : ArgsRd P H ts vs ds) : ArgsRd P H (t :: ts) (v :: vs) (d :: ds)
theorem ArgsRd.mono {D : Type} {P : Program} {H : Hp} (G : Hp) {ts : List TypeId} {vs : List VV} {ds : List (DataW D)} (h : ArgsRd P H ts vs ds) : ArgsRd P (H ++ G) ts vs ds := by
  induction h with
  | nil => exact .nil
  | cons h r ih => obtain ⟨vs, h1, h2⟩ := h; exact .cons ⟨vs, h1.mono G, h2⟩ ih

section
variable {D : Type} {enc : TypeId × Value → D} {P : Program} {W : World}

theorem openArg (hpos : 0 < W.heap.size) {d0 : Nat} {t : TypeId} {v : Value} {d : DataW D} {ps : List MemPlace} {r : Reach} {base : Nat} (hp : plainB P d0 t = true) (hval : Value.okWide P W r base t v) (h : DataW.Trod enc P W 0 (fun _ => true) true t v d ps)
    {σ : Sg} {H : Hp} (hH : HRel P σ W.heap.size H W) : ∃ σ' G vv, σ.le σ' ∧ HRel P σ' W.heap.size (H ++ G) W ∧ VRel σ' vv v ∧ ArgRd P (H ++ G) t vv d := by
  obtain ⟨fuel, hf⟩ := h
  obtain ⟨σ', G, vs, q1, q2, q3, q4, q5⟩ := opens (enc := enc) (W := W) (held := true) hpos fuel d0 t hp _ _ σ H hf hH
  refine ⟨σ', G, _, q1, q2, ?_, vs, q5, rfl⟩
  cases d0 with
  | zero => cases hp
  | succ d0 =>
    unfold plainB at hp
    split at hp
    · rename_i ht
      obtain ⟨b, rfl⟩ := okWide_bool ht hval
      simp only [isStruct, ht]
      simp only [Value.cells] at q3
      generalize hcs : (#[Value.bool b] : Array Value).toList = cs at q3
      cases q3 with
      | cons a t => simp at hcs; obtain ⟨rfl, rfl⟩ := hcs; simpa using a
    · rename_i k ht
      obtain ⟨n, rfl⟩ := okWide_int ht hval
      simp only [isStruct, ht]
      simp only [Value.cells] at q3
      generalize hcs : (#[Value.int k n] : Array Value).toList = cs at q3
      cases q3 with
      | cons a t => simp at hcs; obtain ⟨rfl, rfl⟩ := hcs; simpa using a
    · rename_i ht
      obtain ⟨s, rfl⟩ := okWide_string ht hval
      simp only [isStruct, ht]
      simp only [Value.cells] at q3
      generalize hcs : (#[Value.string s] : Array Value).toList = cs at q3
      cases q3 with
      | cons a t => simp at hcs; obtain ⟨rfl, rfl⟩ := hcs; simpa using a
    · rename_i e ht
      obtain ⟨a, len, cap, rfl⟩ := okWide_slice ht hval
      simp only [isStruct, ht]
      simp only [Value.cells] at q3
      generalize hcs : (#[Value.slice a len cap] : Array Value).toList = cs at q3
      cases q3 with
      | cons a t => simp at hcs; obtain ⟨rfl, rfl⟩ := hcs; simpa using a
    · rename_i fs ht
      obtain ⟨cs, rfl, _⟩ := okWide_struct ht hval
      simp only [isStruct, ht, if_true]
      exact .agg q3
    · cases hp

theorem openArgs (hpos : 0 < W.heap.size) {d0 : Nat} : ∀ (ts : List TypeId) (_ : ∀ t ∈ ts, plainB P d0 t = true) (vs : List Value) (ds : List (DataW D)) (ps : List MemPlace) (_ : ∀ (j : Nat) t v, ts[j]? = some t → vs[j]? = some v → ∃ r base, Value.okWide P W r base t v)
    (_ : DataW.TrodAll enc P W 0 (fun _ => true) true ts vs ds ps) {σ : Sg} {H : Hp} (_ : HRel P σ W.heap.size H W), ∃ σ' G vvs, σ.le σ' ∧ HRel P σ' W.heap.size (H ++ G) W ∧ LRel σ' vvs vs ∧ ArgsRd P (H ++ G) ts vvs ds
  | [], _, vs, ds, ps, _, h, σ, H, hH => by
    obtain ⟨rfl, rfl, rfl⟩ := trodAll_nil h
    exact ⟨σ, [], [], Sg.le_refl _, by simpa using hH, .nil, .nil⟩
  | t :: ts, hp, vs, ds, ps, hval, h, σ, H, hH => by
    obtain ⟨v0, vs0, d0', ds0, p0, q0, rfl, rfl, rfl, h0, r0⟩ := trodAll_cons h
    obtain ⟨r, base, hv0⟩ := hval 0 t v0 rfl rfl
    obtain ⟨σ1, G1, vv, q1, q2, q3, q4⟩ := openArg hpos (hp t (by simp)) hv0 h0 hH
    obtain ⟨σ2, G2, vvs, s1, s2, s3, s4⟩ := openArgs hpos ts (fun t ht => hp t (by simp [ht])) vs0 ds0 q0 (fun j t v h1 h2 => hval (j + 1) t v (by simpa using h1) (by simpa using h2)) r0 q2
    refine ⟨σ2, G1 ++ G2, vv :: vvs, Sg.le_trans q1 s1, by rw [← List.append_assoc]; exact s2, .cons (q3.mono s1) s3, ?_⟩
    rw [← List.append_assoc]
    obtain ⟨us, t1, t2⟩ := q4
    exact .cons ⟨us, t1.mono G2, t2⟩ s4

/-- the arguments read as before -/
theorem argsStay (hl : laidOutB P = true) {W' : World} {sp : Nat → Bool} (hb : Below W.heap.size W W') : ∀ {ts : List TypeId} {vs : List Value} {ds : List (DataW D)} {ps : List MemPlace} (_ : ∀ t ∈ ts, P.readableRec t = true ∧ t < P.types.size) (_ : ∀ x ∈ ps, x.block < W.heap.size) (_ : ∀ x ∈ ps, sp x.block = true),
    DataW.TrodAll enc P W 0 (fun _ => true) true ts vs ds ps → DataW.TrodAll enc P W' 0 sp true ts vs ds ps
  | [], vs, ds, ps, _, _, _, h => by
    obtain ⟨rfl, rfl, rfl⟩ := trodAll_nil h
    exact rfl
  | t :: ts, vs, ds, ps, hr, hlt, hsp, h => by
    obtain ⟨v0, vs0, d0', ds0, p0, q0, rfl, rfl, rfl, h0, r0⟩ := trodAll_cons h
    refine ⟨p0, q0, ?_, argsStay hl hb (fun t ht => hr t (by simp [ht])) (fun x hx => hlt x (by simp [hx])) (fun x hx => hsp x (by simp [hx])) r0, rfl⟩
    exact WideElems.Trod_stays hl (hr t (by simp)).1 (hr t (by simp)).2 h0 (fun x hx => hb.same (hlt x (by simp [hx]))) (fun x hx => hsp x (by simp [hx]))

/-- what a law owes, where below the old heap's size nothing has turned -/
theorem post_of_below {f : Func} {s : ChangeSpec} {apart fresh handsOn again : Bool} {W W' : World} {args : Array Value} {v : Value} {ds gs : List (DataW D)} {before pa pv : List MemPlace}
    (hW : DataW.Whole enc P f.params.toList s.vars apart W args.toList ds gs before)
    (hres : ∀ (b : Nat) (sp : Nat → Bool) (hd : Bool), DataW.TrodAll enc P W' b sp hd f.resultTypes.toList (v.resultList f.resultTypes.size) (s.fn D (ds ++ gs)).results [])
    (hargs : ∀ sp : Nat → Bool, (∀ p ∈ before, sp p.block = true) → DataW.TrodAll enc P W' 0 sp true f.params.toList args.toList (s.fn D (ds ++ gs)).args pa)
    (hvars : ∀ sp : Nat → Bool, (∀ p ∈ before, sp p.block = true) → DataW.TrodVars enc P W' sp s.vars (s.fn D (ds ++ gs)).vars pv)
    (hps : before = pa ++ pv) (hb : Below W.heap.size W W')
    (hok : ∀ (j : Nat) (t : TypeId) (r : Value), f.resultTypes[j]? = some t → (v.resultList f.resultTypes.size)[j]? = some r → Value.okWide P W' .any 0 t r) :
    s.post enc P f apart fresh handsOn again W args v W' := by
  have hold : ∀ p ∈ before, (fun b => decide (b < W.heap.size)) p.block = true := fun p hp => by simpa using hW.lt p hp
  refine ⟨ds, gs, before, [], pa, pv, hW, hres _ _ _, hargs _ hold, hvars _ hold, hb.frame _, fun _ => ?_⟩
  have hlt := hW.lt
  obtain ⟨_, _, _, _, _, hz, hn⟩ := hW
  refine ⟨hok, _, _, ([] ++ pa) ++ pv, ⟨[] ++ pa, pv, trodAll_append (hargs _ (fun _ _ => rfl)) (hres _ _ _), hvars _ (fun _ _ => rfl), rfl, ?_, ?_⟩, ?_⟩
  · intro b off hp
    have hp' : MemPlace.cell b off ∈ before := by rw [hps]; simpa using hp
    rw [hb.frozen (p := ⟨b, off, none⟩) (hlt _ hp')]
    exact hz b off hp'
  · intro ha
    have := hn ha
    rw [hps] at this
    simpa using this
  · intro p hp _
    rw [hps]
    simpa using hp

/-- a law, from its function over the canonical heap at these arguments, where some rows are known -/
theorem law_contract_at {f : FuncId} {fn : Func} {s : ChangeSpec} {tb : TypeId} {d0 : Nat} {apart fresh handsOn again : Bool} (hpos : 0 < W.heap.size) (hl : laidOutB P = true) (hr : ∀ t ∈ fn.params.toList, P.readableRec t = true ∧ t < P.types.size) (hp : ∀ t ∈ fn.params.toList, plainB P d0 t = true)
    (hv : s.vars = []) (hrt : fn.resultTypes = #[tb]) (htb : P.underlying tb = some .bool) (hs : ∀ ds : List (DataW D), ds.length = fn.params.size → s.fn D ds = { results := [.lit (.bool true)], args := ds })
    {H0 : Hp} {σ0 : Sg} (h0 : HRel P σ0 W.heap.size H0 W)
    (args : Array Value) (ds gs : List (DataW D)) (law : ∀ (G : Hp) (vvs : List VV), ArgsRd P (H0 ++ G) fn.params.toList vvs ds → FnV P f vvs (H0 ++ G) fun r _ => r = .bool true)
    (before : List MemPlace) (base : Nat)
    (hval : ∀ (j : Nat) t v, fn.params[j]? = some t → args[j]? = some v → Value.okWide P W .any base t v) (hW : DataW.Whole enc P fn.params.toList s.vars apart W args.toList ds gs before) :
    Calls P f args W fun e W' => ∃ v, e = .returned v ∧ s.post enc P fn apart fresh handsOn again W args v W' := by
  have hW' := hW
  obtain ⟨p, q, hA, hV, rfl, hfz, hnd⟩ := hW
  rw [hv] at hV
  have hgs : gs = [] ∧ q = [] := by cases gs <;> simp [DataW.TrodVars] at hV; exact ⟨rfl, hV⟩
  obtain ⟨rfl, rfl⟩ := hgs
  obtain ⟨σ, G, vvs, q1, q2, q3, q4⟩ := openArgs hpos fn.params.toList hp args.toList ds p (fun j t v h1 h2 => ⟨_, _, hval j t v (by simpa using h1) (by simpa using h2)⟩) hA h0
  have hlen : ds.length = fn.params.size := by
    have : ∀ {ts : List TypeId} {vvs : List VV} {ds : List (DataW D)}, ArgsRd P (H0 ++ G) ts vvs ds → ds.length = ts.length := by
      intro ts vvs ds h
      induction h with
      | nil => rfl
      | cons h r ih => simp [ih]
    have := this q4
    simpa using this
  have hsp := hs ds hlen
  refine ((law _ _ q4).2 σ W.heap.size W args q2 q3).mono fun e w' ⟨r, v', H', σ', e1, e2, e3, hmv, _⟩ => ?_
  have hb := hmv.bl
  subst e3
  cases e2
  refine ⟨_, e1, post_of_below (pa := p) (pv := []) hW' ?_ ?_ ?_ rfl hb ?_⟩
  · intro b sp hd
    rw [List.append_nil, hsp, hrt]
    exact trodAll_cons_mk (shut_bool htb _) trodAll_mk0
  · intro sp hsp'
    rw [List.append_nil, hsp]
    refine argsStay hl hb hr (fun x hx => hW'.lt x (by simp [hx])) (fun x hx => hsp' x (by simp [hx])) hA
  · intro sp _
    rw [List.append_nil, hsp, hv]
    exact rfl
  · exact ok_one hrt rfl (okWide_bool_mk htb _)
theorem law_contract {f : FuncId} {fn : Func} {s : ChangeSpec} {tb : TypeId} {d0 : Nat} {apart fresh handsOn again : Bool} (hpos : 0 < W.heap.size) (hl : laidOutB P = true) (hr : ∀ t ∈ fn.params.toList, P.readableRec t = true ∧ t < P.types.size) (hp : ∀ t ∈ fn.params.toList, plainB P d0 t = true)
    (hv : s.vars = []) (hrt : fn.resultTypes = #[tb]) (htb : P.underlying tb = some .bool) (hs : ∀ ds : List (DataW D), ds.length = fn.params.size → s.fn D ds = { results := [.lit (.bool true)], args := ds })
    {H0 : Hp} {σ0 : Sg} (h0 : HRel P σ0 W.heap.size H0 W)
    (law : ∀ (G : Hp) (vvs : List VV) (ds : List (DataW D)), ArgsRd P (H0 ++ G) fn.params.toList vvs ds → FnV P f vvs (H0 ++ G) fun r _ => r = .bool true)
    (args : Array Value) (ds gs : List (DataW D)) (before : List MemPlace) (base : Nat)
    (hval : ∀ (j : Nat) t v, fn.params[j]? = some t → args[j]? = some v → Value.okWide P W .any base t v) (hW : DataW.Whole enc P fn.params.toList s.vars apart W args.toList ds gs before) :
    Calls P f args W fun e W' => ∃ v, e = .returned v ∧ s.post enc P fn apart fresh handsOn again W args v W' :=
  law_contract_at hpos hl hr hp hv hrt htb hs h0 args ds gs (fun G vvs h => law G vvs ds h) before base hval hW
end
end Go.Wm
