/- TokensJoins: whatever the texts and the gaps: a line joined of the texts is split into them again; under the condition that the tables are as the program's text lays them. -/
import Derived.Test.YtfodpmekcddgpaaGreatDoorTie
import Derived.Test.YtfodpmekcddgpaaGreatDoorCards
import Derived.Test.YtfodpmekcddgpaaGreatDoorToL
import Derived.Test.YtfodpmekcddgpaaGreatDoorWmZd
import Derived.Deep.DeepHandedRow
import Derived.Deep.DeepWitnessRowRef
namespace Go.Proofs.YtfodpmekcddgpaaGreatDoor
set_option linter.unusedSimpArgs false
set_option linter.unusedVariables false
open Go Go.Wm Go.Proofs Go.ChangeShapes Go.WideShapes Go.ChangeAt Go.RowKit
set_option maxRecDepth 100000
set_option maxHeartbeats 400000000
namespace TokensJoins
def laidL : List (String × DataW Unit) := [("math/bits.deBruijn64tab", Rows.laid_math_bits_deBruijn64tab), ("unicode/utf8.acceptRanges", Rows.laid_unicode_utf8_acceptRanges), ("presage/scan.orders", Rows.laid_presage_scan_orders), ("unicode/utf8.first", Rows.laid_unicode_utf8_first)]
theorem laidL_eq : Rows.tokensJoinsRow.laid = laidL := rfl
theorem h0_of_laid {W : World} (h : laidMetH Tryz.prog laidL W) : ∃ σ, HRel Tryz.prog σ W.heap.size H0 W ∧ 0 < W.heap.size := by
  rw [MakeChecks.laidMetH_plain _ _ _ (by kernel_rfl)] at h
  obtain ⟨ps, ⟨g0, t0, cs0, f0, p0, q0, hg0, ht0, hv0, hd0, ⟨_, _, _, _, _, _, _, _, _, _, ⟨g1, t1, cs1, f1, p1, q1, hg1, ht1, hv1, hd1, _⟩, _⟩, _⟩, _, _⟩ := h
  obtain rfl := Option.some.inj (gTab.symm.trans hg0)
  obtain rfl := Option.some.inj (gOrd.symm.trans hg1)
  obtain rfl := Option.some.inj (tTab.symm.trans ht0)
  obtain rfl := Option.some.inj (tOrd.symm.trans ht1)
  rw [tab_eq] at hd0
  rw [ord_eq] at hd1
  have c0 := Lib.cells_of_tab uTab uU8 cU8 cTab hd0
  obtain ⟨a, c1, ha, hb, hs⟩ := strs_of_trod uOrd uStr cStr hd1 (by decide)
  exact h0_core (fun i => by rw [World.var?_cell hg0 hv0 i, ← Array.getElem?_toList, c0, List.getElem?_map]) (by rw [World.var?_cell hg1 hv1 0, ← Array.getElem?_toList, c1]; rfl) ha hb hs
def litV : DataW Unit → Value
  | .lit (.int k n) => .int k n
  | _ => .int .u8 0
def partsOf : DataW Unit → List (DataW Unit)
  | .agg l => l
  | _ => []
def firstCells : Array Value := ((partsOf Rows.laid_unicode_utf8_first).map litV).toArray
/-- a world for the witness: what the door lays, and the pinned table -/
noncomputable def world (os : Os) : World :=
  { World.doorLaid Tryz.prog 400 os with heap := (World.doorLaid Tryz.prog 400 os).heap.modify 2 fun
      | .cells _ t frozen => .cells firstCells t frozen
      | o => o }
def wargs : Array Value := #[.slice none 0 0, .slice none 0 0]
theorem met (os : Os) : laidMetH Tryz.prog laidL ((world os).forCall (fun _ _ => 0) ⟨#[], wargs, []⟩).memory :=
  laidMetH_of_parts3 (fuel := 8) (laidMet_of_run' 8 (by kernel_rfl) (by kernel_rfl)) (by kernel_rfl) (by kernel_rfl)
/-- a slice of texts -/
theorem strs {P : Program} {D : Type} {H : Hp} {t e : TypeId} {vs : List VV} {d : DataW D} (ht : P.underlying t = some (.slice e)) (he : P.underlying e = some .string) (hc : P.cellsOf e = 1) (h : Rd P H t vs d) : ∃ (p : Option PA) (l : List (List UInt8)) (c : Nat), vs = [.sl p l.length c] ∧ l.length ≤ maxLen ∧ Sl H p 1 (strEs l) ∧ ∀ s ∈ l, s.length ≤ maxLen := by
  obtain ⟨p, es, c, ds, rfl, h1, h2, h3, h4, h5, h6, _⟩ := h.sl_inv ht
  have key : ∀ (es : List (List VV)) (ds : List (DataW D)), ds.length = es.length → (∀ (i : Nat) x y, es[i]? = some x → ds[i]? = some y → Rd P H e x y) → ∃ l, es = strEs l ∧ ∀ s ∈ l, s.length ≤ maxLen := by
    intro es
    induction es with
    | nil => intro ds _ _; exact ⟨[], rfl, by simp⟩
    | cons x es ih =>
      intro ds hl hd
      cases ds with
      | nil => simp at hl
      | cons y ds =>
        obtain ⟨l, rfl, hw⟩ := ih ds (by simpa using hl) fun i x y hx hy => hd (i + 1) x y (by simpa using hx) (by simpa using hy)
        obtain ⟨n, rfl, hn, _⟩ := (hd 0 x y rfl rfl).str_inv he
        refine ⟨n :: l, rfl, fun m hm => ?_⟩
        rcases List.mem_cons.1 hm with rfl | hm
        · exact hn
        · exact hw m hm
  obtain ⟨l, rfl, hw⟩ := key es ds h4 h6
  rw [strEs_len] at h1 ⊢
  exact ⟨p, l, c, rfl, by omega, by rw [hc] at h3; exact h3, hw⟩
theorem lawR {D : Type} (G : Hp) (vvs : List VV) (ds : List (DataW D)) (h : ArgsRd Tryz.prog (H0 ++ G) [28, 32] vvs ds) : FnV Tryz.prog 5 vvs (H0 ++ G) fun r _ => r = .bool true := by
  cases h with
  | cons h1 h2 =>
    cases h2 with
    | cons h2 h3 =>
      cases h3
      obtain ⟨vs, h3, h4⟩ := h1
      obtain ⟨p, l, c, rfl, hl, hs, hw⟩ := strs uOrd uStr cStr h3
      have e : isStruct Tryz.prog 28 = false := by unfold isStruct; rw [uOrd]
      rw [e] at h4
      subst h4
      obtain ⟨vs, h5, h6⟩ := h2
      obtain ⟨pg, gaps, cg, rfl, hgl, hgs, hgw⟩ := h5.ints uInts uI64 cI64
      have e : isStruct Tryz.prog 32 = false := by unfold isStruct; rw [uInts]
      rw [e] at h6
      subst h6
      exact Tok.law5 G hs hgs (by unfold maxLen at hl; omega) (by unfold maxLen at hgl; omega) (fun s h => by have := hw s h; unfold maxLen at this; omega) fun n hn => wf_i64 (hgw n hn)
theorem lifted (os : Os) (started : os.Started) (H : Type) (enc : TypeId × Value → H) :
    ReturnsInHanded {} Tryz.checked os 5 .any (fun w args => (Rows.tokensJoinsSpec.pre enc Tryz.prog Tryz.f5 [] false w args ∧ laidMetH Tryz.prog laidL w) ∧ sizedMet enc Tryz.prog Tryz.f5 (OpenSpec.ofChange Rows.tokensJoinsSpec) false w args)
      (Rows.tokensJoinsSpec.post enc Tryz.prog Tryz.f5 false true false false) := by
  refine returnsInHanded_of_change_and (C := Tryz.checked) (X := fun w _ => laidMetH Tryz.prog laidL w) (fun _ _ _ hh h => h.of_heap hh) own started (by kernel_rfl) Tryz.func5
    (ChangeSpec.witness_shaped (enc := enc) (C := Tryz.checked) (os := os) (X := fun w _ => laidMetH Tryz.prog laidL w) false (world os) #[.slice none 0 0, .slice none 0 0] 8 rfl (World.shaped_of_RefB (by kernel_rfl) (by kernel_rfl)) (by kernel_rfl) (by kernel_rfl) (by kernel_rfl) (met os)) ?_
  intro W base args ds gs before hval hW _ _ hL _
  obtain ⟨σ, h0, hpos⟩ := h0_of_laid hL
  exact law_contract (s := Rows.tokensJoinsSpec) (tb := 4) (d0 := 5) hpos laidOut (by decide +kernel) (by decide +kernel) rfl (by kernel_rfl) uBool (fun ds hl => by
    have hl' : ds.length = 2 := hl
    match ds, hl' with
    | [_, _], _ => rfl) h0 (fun G vvs ds h => by
      have h' : ArgsRd Tryz.prog (H0 ++ G) Tryz.f5.params.toList vvs ds := h
      rw [Tryz.params5] at h'
      exact lawR G vvs ds h') args ds gs before base hval hW
theorem facts : joinedFacts Tryz.pinned.checked.prog 5 Tryz.f5 Rows.tokensJoinsSpec Rows.tokensJoinsRow = true := by
  unfold joinedFacts
  repeat' with_reducible refine and2 ?_ ?_
  all_goals as_aux_lemma => kernel_rfl
theorem named : Tryz.pinned.checked.prog.funcNamed Rows.tokensJoinsRow.func = some 5 := by kernel_rfl
theorem over : Rows.TokensJoinsSaid :=
  OpenClaim.holds_of_wide 5 Tryz.f5 rfl rfl rfl rfl rfl rfl rfl ⟨rfl, rfl, rfl, rfl, rfl⟩ rfl rfl rfl rfl rfl named Tryz.func5 facts
    (of_decide_eq_true (by kernel_rfl)) (by unfold Func.isWrapper; first | (rw [if_pos (by decide +kernel)]; kernel_rfl) | (rw [if_neg (by decide +kernel)]; exact ⟨rfl, rfl⟩))
    (fun os started H enc _ => lifted os started H enc)
theorem wfText : Rows.tokensJoinsRow.wfByText (OpenSpec.ofChange Rows.tokensJoinsSpec) = true := by kernel_rfl
theorem mainIs : Tryz.pinned.checked.prog.mainIs = some (true, ("d5fdf64d98ccf102001c4939d1f67ccb54fa9cb0f6ec3fa5e0b520541142ad79" : String).toList) := by kernel_rfl
theorem looks : true = Tryz.pinned.checked.prog.looks [] := by kernel_rfl
theorem noIns0 : Tryz.pinned.checked.prog.wantsStandIn 28 = false := by kernel_rfl
theorem noIns1 : Tryz.pinned.checked.prog.wantsStandIn 32 = false := by kernel_rfl
theorem goes : false = Rows.tokensJoinsRow.goesBy Tryz.pinned.checked.prog := by kernel_rfl
theorem proved : Rows.TokensJoinsCardSaid :=
  Claim7.holds_tied_plain_at .later [] [.data, .data, .widerDeep, .pinned] true (true, "d5fdf64d98ccf102001c4939d1f67ccb54fa9cb0f6ec3fa5e0b520541142ad79") true
    over (fun _ h => by cases h) wfText (fun _ h => by cases h) tokensJoins_row_tie rfl ⟨rfl, rfl⟩ mainIs rfl
    (fun f fn hf hfn => by
      obtain rfl : f = 5 := Option.some.inj (named.symm.trans hf) |>.symm
      obtain rfl : fn = Tryz.f5 := (Option.some.inj (Tryz.func5.symm.trans hfn)).symm
      refine ⟨looks, fun j t ht => ?_⟩
      rw [Tryz.params5] at ht
      match j, ht with
      | 0, ht => cases ht; exact noIns0
      | 1, ht => cases ht; exact noIns1
      | j + 2, ht => simp at ht)
    goes
#print axioms proved
end TokensJoins
end Go.Proofs.YtfodpmekcddgpaaGreatDoor
