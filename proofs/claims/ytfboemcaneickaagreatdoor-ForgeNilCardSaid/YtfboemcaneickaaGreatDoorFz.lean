/- ForgeNil: whatever the start: a system that is none, and a zero one, tell what the document says; under the condition that the two tables are as the program's text lays them. -/
import Derived.Test.YtfboemcaneickaaGreatDoorRows
import Derived.Test.YtfboemcaneickaaGreatDoorTie
import Derived.Test.YtfboemcaneickaaGreatDoorCards
import Derived.Test.YtfboemcaneickaaGreatDoorWmZe
import Derived.Test.YtfboemcaneickaaGreatDoorPSe
import Derived.LaidMore
import Derived.MakeChecks
import Derived.SevenTiedAt
namespace Go.Proofs.YtfboemcaneickaaGreatDoor
set_option linter.unusedSimpArgs false
set_option linter.unusedVariables false
open Go Go.Wm Go.Proofs Go.ChangeShapes Go.WideShapes Go.ChangeAt Go.RowKit
set_option maxRecDepth 100000

theorem own : ownKnob Tryz.prog.godebug = none := by kernel_rfl
theorem laidOut : laidOutB Tryz.prog = true := by kernel_rfl
theorem gTab : Tryz.prog.globalNamed "math/bits.deBruijn64tab" = some 1 := by kernel_rfl
theorem gOrd : Tryz.prog.globalNamed "presage/scan.orders" = some 0 := by kernel_rfl
theorem tTab : (Tryz.prog.globals[1]?).map (·.type) = some 363 := by kernel_rfl
theorem tOrd : (Tryz.prog.globals[0]?).map (·.type) = some 24 := by kernel_rfl
theorem uTab : Tryz.prog.underlying 363 = some (.array 64 5) := by kernel_rfl
theorem uU8 : Tryz.prog.underlying 5 = some (.int .u8) := by kernel_rfl
theorem uOrd : Tryz.prog.underlying 24 = some (.slice 9) := by kernel_rfl
theorem uStr : Tryz.prog.underlying 9 = some .string := by kernel_rfl
theorem uBool : Tryz.prog.underlying 4 = some .bool := by kernel_rfl
theorem cU8 : Tryz.prog.cellsOf 5 = 1 := by kernel_rfl
theorem cTab : Tryz.prog.cellsOf 363 = 64 := by kernel_rfl
theorem cStr : Tryz.prog.cellsOf 9 = 1 := by kernel_rfl

def laidL : List (String × DataW Unit) := [("math/bits.deBruijn64tab", Rows.laid_math_bits_deBruijn64tab), ("presage/scan.orders", Rows.laid_presage_scan_orders)]
theorem laidL_eq : Rows.forgeNilRow.laid = laidL := rfl
def tabZs : List Int := [0,1,56,2,57,49,28,3,61,58,42,50,38,29,17,4,62,47,59,36,45,43,51,22,53,39,33,30,24,18,12,5,63,55,48,27,60,41,37,16,46,35,44,21,52,32,23,11,54,26,40,15,34,20,31,10,25,14,19,9,13,8,7,6]
def ordSs : List (List UInt8) := [[37,108,101,102,116],[37,110,111,110,97,115,115,111,99],[37,110,111,110,101],[37,112,114,101,99],[37,114,105,103,104,116],[37,115,116,97,114,116],[37,116,111,107,101,110]]
theorem tab_eq : (Rows.laid_math_bits_deBruijn64tab : DataW Unit) = Lib.tabData .u8 tabZs := rfl
theorem ord_eq : (Rows.laid_presage_scan_orders : DataW Unit) = .slice (ordSs.map fun s => .lit (.string s)) [] := rfl
/-- the heap of the two tables -/
def H0 : Hp := [.row 24 .ro [[.sl (some ⟨2, 0, 0⟩) 7 7]], .row 363 .ro (tabZs.map fun n => [.int .u8 n]), .row 0 .ro (ordSs.map fun s => [.str s])]

theorem h0_of_laid {W : World} (h : laidMetH Tryz.prog laidL W) : ∃ σ, HRel Tryz.prog σ W.heap.size H0 W ∧ 0 < W.heap.size := by
  rw [MakeChecks.laidMetH_plain _ _ _ (by kernel_rfl)] at h
  obtain ⟨ps, ⟨g0, t0, cs0, f0, p0, q0, hg0, ht0, hv0, hd0, ⟨g1, t1, cs1, f1, p1, q1, hg1, ht1, hv1, hd1, _, _⟩, _⟩, _, _⟩ := h
  obtain rfl := Option.some.inj (gTab.symm.trans hg0)
  obtain rfl := Option.some.inj (gOrd.symm.trans hg1)
  obtain rfl := Option.some.inj (tTab.symm.trans ht0)
  obtain rfl := Option.some.inj (tOrd.symm.trans ht1)
  rw [tab_eq] at hd0
  rw [ord_eq] at hd1
  have c0 := Lib.cells_of_tab uTab uU8 cU8 cTab hd0
  obtain ⟨a, c1, ha, hb, hs⟩ := strs_of_trod uOrd uStr cStr hd1 (by decide)
  have v0 : ∀ i : Nat, W.cell? ⟨1, i, none⟩ = (tabZs[i]?).map fun z => Value.int .u8 z := fun i => by
    rw [World.var?_cell hg0 hv0 i, ← Array.getElem?_toList, c0, List.getElem?_map]
  have v1 : W.cell? ⟨0, 0, none⟩ = some (.slice (some a) 7 7) := by
    rw [World.var?_cell hg1 hv1 0, ← Array.getElem?_toList, c1]; rfl
  have lt : ∀ {g o : Nat} {v : Value}, W.cell? ⟨g, o, none⟩ = some v → g < W.heap.size := fun {g o v} h => by
    unfold World.cell? at h
    split at h
    · rename_i hb; exact (Array.getElem?_eq_some_iff.1 hb).1
    · cases h
  have l0 : 0 < W.heap.size := lt v1
  have l1 : 1 < W.heap.size := lt ((v0 0).trans rfl)
  obtain ⟨ab, ao, asp⟩ := a
  simp only at ha hb
  subst ha
  have d0 := HRel.dead0 (P := Tryz.prog) (W := W) [⟨0, 0, 1, 1, none⟩, ⟨1, 0, 1, 64, none⟩] (fun i g hi => by
    match i, hi with
    | 0, hi => cases hi; exact ⟨_, rfl, rfl, rfl⟩
    | 1, hi => cases hi; exact ⟨_, rfl, rfl, rfl⟩
    | i + 2, hi => cases hi) (fun I hI => by
      rcases List.mem_cons.1 hI with rfl | hI
      · exact l0
      · rcases List.mem_cons.1 hI with rfl | hI
        · exact l1
        · cases hI)
  have one : ∀ {α : Type} {f : α → VV} {l : List α} {k j : Nat} {e : List VV} {v : VV}, (l.map fun x => [f x])[k]? = some e → e[j]? = some v → j = 0 ∧ ∃ x, l[k]? = some x ∧ v = f x := fun {α f l k j e v} hk hj => by
    rw [List.getElem?_map] at hk
    obtain ⟨x, hx, rfl⟩ := Option.map_eq_some_iff.1 hk
    match j, hj with
    | 0, hj => cases hj; exact ⟨rfl, x, hx, rfl⟩
    | j + 1, hj => cases hj
  have d1 := d0.pushRo 0 (ordSs.map fun s => [VV.str s]) ⟨ab, ao, 1, 7, none⟩ hb rfl rfl (fun e he => by obtain ⟨s, _, rfl⟩ := List.mem_map.1 he; rfl) (fun k e j v he hv => by
    obtain ⟨rfl, s, hk, rfl⟩ := one he hv
    exact ⟨rfl, _, by simpa using hs k s hk, .str s⟩)
  have d2 := d1.wake (i := 0) (I := ⟨0, 0, 1, 1, none⟩) rfl rfl l0 rfl 24 [[.sl (some ⟨2, 0, 0⟩) 7 7]] rfl (fun e he => by rcases List.mem_cons.1 he with rfl | he; exact rfl; cases he) (fun k e j v he hv => by
    match k, he with
    | 0, he =>
      cases he
      match j, hv with
      | 0, hv =>
        cases hv
        refine ⟨rfl, _, v1, .sl ⟨Nat.le_refl _, .inl ⟨⟨⟨ab, ao, 1, 7, none⟩, rfl, ?_⟩, rfl⟩⟩⟩
        rfl
      | j + 1, hv => cases hv
    | k + 1, he => cases he)
  have d3 := d2.wake (i := 1) (I := ⟨1, 0, 1, 64, none⟩) rfl rfl l1 rfl 363 (tabZs.map fun n => [VV.int .u8 n]) rfl (fun e he => by obtain ⟨s, _, rfl⟩ := List.mem_map.1 he; rfl) (fun k e j v he hv => by
    obtain ⟨rfl, z, hk, rfl⟩ := one he hv
    refine ⟨rfl, .int .u8 z, ?_, .int _ _⟩
    have := v0 k
    rw [hk] at this
    simpa using this)
  exact ⟨_, d3, l0⟩

namespace ForgeNil
theorem rep : TRep C8.T H0 := by
  refine ⟨rfl, fun i => ?_⟩
  match i with
  | 0 => show treeG P8 0 = H0[0]?; kernel_rfl
  | 1 => show treeG P8 1 = H0[1]?; kernel_rfl
  | 2 => show treeG P8 2 = H0[2]?; kernel_rfl
  | i + 3 =>
    show treeG P8 (i + 3) = none
    unfold P8
    rw [treeG_n, if_neg (by omega)]
    split
    · rw [treeG_n, if_neg (by omega)]; split <;> rfl
    · rw [treeG_n, if_neg (by omega)]; split <;> rfl
theorem law : FnV Tryz.prog 3 [] H0 fun r _ => r = .bool true := by
  obtain ⟨H2, _, h⟩ := cut8 H0 rep
  exact h.mono fun r H' hr => hr.1
theorem ro : RoHp H0 := RoHp.of (by kernel_rfl)
theorem lawG (G : Hp) : FnV Tryz.prog 3 [] (H0 ++ G) fun r _ => r = .bool true :=
  (law.aside rfl ro (by decide) G).mono fun r H' hr => hr.1

theorem door_met (os : Os) (args : Array Value) : laidMetH Tryz.prog laidL ((World.doorLaid Tryz.prog 400 os).forCall (fun _ _ => 0) ⟨#[], args, []⟩).memory :=
  laidMetH_of_parts3 (fuel := 8) (laidMet_of_run' 8 (by kernel_rfl) (by kernel_rfl)) (by kernel_rfl) (by kernel_rfl)

theorem lifted (os : Os) (started : os.Started) (H : Type) (enc : TypeId × Value → H) :
    ReturnsInHanded {} Tryz.checked os 3 .any (fun w args => (Rows.forgeNilSpec.pre enc Tryz.prog Tryz.f3 [] false w args ∧ laidMetH Tryz.prog laidL w) ∧ sizedMet enc Tryz.prog Tryz.f3 (OpenSpec.ofChange Rows.forgeNilSpec) false w args)
      (Rows.forgeNilSpec.post enc Tryz.prog Tryz.f3 false true false false) := by
  refine returnsInHanded_of_change_and (C := Tryz.checked) (X := fun w _ => laidMetH Tryz.prog laidL w) (fun _ _ _ hh h => h.of_heap hh) own started (by kernel_rfl) Tryz.func3
    (ChangeSpec.witness_shaped (enc := enc) (C := Tryz.checked) (os := os) (X := fun w _ => laidMetH Tryz.prog laidL w) false (World.doorLaid Tryz.prog 400 os) #[] 8 rfl (World.shaped_of_RefB (by kernel_rfl) (by kernel_rfl)) (by kernel_rfl) (by kernel_rfl) (by kernel_rfl) (door_met os _)) ?_
  intro W base args ds gs before hval hW _ _ hL _
  obtain ⟨σ, h0, hpos⟩ := h0_of_laid hL
  exact law_contract (s := Rows.forgeNilSpec) (tb := 4) (d0 := 5) hpos laidOut (by decide +kernel) (by decide +kernel) rfl (by kernel_rfl) uBool (fun ds hl => by
    have hl' : ds.length = 0 := hl
    match ds, hl' with
    | [], _ => rfl) h0 (fun G vvs ds h => by
      have h' : ArgsRd Tryz.prog (H0 ++ G) Tryz.f3.params.toList vvs ds := h
      rw [Tryz.params3] at h'
      cases h'
      exact lawG G) args ds gs before base hval hW

theorem over : Rows.ForgeNilSaid :=
  OpenClaim.holds_of_wide 3 Tryz.f3 rfl rfl rfl rfl rfl rfl rfl ⟨rfl, rfl, rfl, rfl, rfl⟩ rfl rfl rfl rfl rfl (by kernel_rfl) Tryz.func3 (by kernel_rfl)
    (of_decide_eq_true (by kernel_rfl)) (by unfold Func.isWrapper; first | (rw [if_pos (by decide +kernel)]; kernel_rfl) | (rw [if_neg (by decide +kernel)]; exact ⟨rfl, rfl⟩))
    (fun os started H enc _ => lifted os started H enc)

theorem proved : Rows.ForgeNilCardSaid :=
  Claim7.holds_tied_plain_at .later [] [.data, .widerDeep] true (true, "1744367f30c09ab2e4b1d34194a93071fa6dc665167ebaf9d1d62e0fba242918") true
    over (fun _ h => by cases h) (by kernel_rfl) (fun _ h => by cases h) forgeNil_row_tie rfl ⟨rfl, rfl⟩ (by kernel_rfl) rfl
    (fun f fn hf hfn => by
      obtain rfl : f = 3 := Option.some.inj ((show Tryz.prog.funcNamed "presage/presagelaw17.ForgeNil" = some 3 by kernel_rfl).symm.trans hf) |>.symm
      obtain rfl : fn = Tryz.f3 := (Option.some.inj (Tryz.func3.symm.trans hfn)).symm
      exact ⟨by kernel_rfl, fun j t ht => by
        rw [Tryz.params3] at ht
        simp at ht⟩)
    (by kernel_rfl)
#print axioms proved
end ForgeNil
end Go.Proofs.YtfboemcaneickaaGreatDoor
