/- The package variables, as the program's text lays them, become the canonical heap's first blocks. -/
import Derived.Test.YtbcaceeiehjplacGreatDoorRows
import Derived.Test.YtbcaceeiehjplacGreatDoorWmZf
import Derived.LaidMore
import Derived.MakeChecks
import Derived.SevenTiedAt
namespace Go.Proofs.YtbcaceeiehjplacGreatDoor
set_option linter.unusedSimpArgs false
set_option linter.unusedVariables false
open Go Go.Wm Go.Proofs Go.ChangeShapes Go.WideShapes Go.ChangeAt Go.RowKit
set_option maxRecDepth 100000

theorem own : ownKnob Tryz.prog.godebug = none := by kernel_rfl
theorem laidOut : laidOutB Tryz.prog = true := by kernel_rfl
theorem gTab : Tryz.prog.globalNamed "math/bits.deBruijn64tab" = some 2 := by kernel_rfl
theorem gOrd : Tryz.prog.globalNamed "presage/scan.orders" = some 1 := by kernel_rfl
theorem tTab : (Tryz.prog.globals[2]?).map (·.type) = some 365 := by kernel_rfl
theorem tOrd : (Tryz.prog.globals[1]?).map (·.type) = some 30 := by kernel_rfl
theorem uTab : Tryz.prog.underlying 365 = some (.array 64 5) := by kernel_rfl
theorem uU8 : Tryz.prog.underlying 5 = some (.int .u8) := by kernel_rfl
theorem uI64 : Tryz.prog.underlying 3 = some (.int .i64) := by kernel_rfl
theorem uOrd : Tryz.prog.underlying 30 = some (.slice 9) := by kernel_rfl
theorem uStr : Tryz.prog.underlying 9 = some .string := by kernel_rfl
theorem uBool : Tryz.prog.underlying 4 = some .bool := by kernel_rfl
theorem gHead : Tryz.prog.globalNamed "presage/image.head" = some 0 := by kernel_rfl
theorem tHead : (Tryz.prog.globals[0]?).map (·.type) = some 48 := by kernel_rfl
theorem uHead : Tryz.prog.underlying 48 = some (.array 5 5) := by kernel_rfl
theorem cHead : Tryz.prog.cellsOf 48 = 5 := by kernel_rfl
theorem cU8 : Tryz.prog.cellsOf 5 = 1 := by kernel_rfl
theorem cI64 : Tryz.prog.cellsOf 3 = 1 := by kernel_rfl
theorem cTab : Tryz.prog.cellsOf 365 = 64 := by kernel_rfl
theorem cStr : Tryz.prog.cellsOf 9 = 1 := by kernel_rfl
def tabZs : List Int := [0,1,56,2,57,49,28,3,61,58,42,50,38,29,17,4,62,47,59,36,45,43,51,22,53,39,33,30,24,18,12,5,63,55,48,27,60,41,37,16,46,35,44,21,52,32,23,11,54,26,40,15,34,20,31,10,25,14,19,9,13,8,7,6]
def ordSs : List (List UInt8) := [[37,108,101,102,116],[37,110,111,110,97,115,115,111,99],[37,110,111,110,101],[37,112,114,101,99],[37,114,105,103,104,116],[37,115,116,97,114,116],[37,116,111,107,101,110]]
theorem tab_eq : (Rows.laid_math_bits_deBruijn64tab : DataW Unit) = Lib.tabData .u8 tabZs := rfl
def headZs : List Int := [80,82,83,71,1]
theorem head_eq : (Rows.laid_presage_image_head : DataW Unit) = Lib.tabData .u8 headZs := rfl
theorem ord_eq : (Rows.laid_presage_scan_orders : DataW Unit) = .slice (ordSs.map fun s => .lit (.string s)) [] := rfl
/-- the heap of the three -/
def H0 : Hp := [.row 30 .ro [[.sl (some ⟨3, 0, 0⟩) 7 7]], .row 365 .ro (tabZs.map fun n => [.int .u8 n]), .row 48 .ro [headZs.map fun n => .int .u8 n], .row 0 .ro (ordSs.map fun s => [.str s])]
theorem ro0 : RoHp H0 := RoHp.of (by kernel_rfl)
theorem lt_of_cell {W : World} {g o : Nat} {v : Value} (h : W.cell? ⟨g, o, none⟩ = some v) : g < W.heap.size := by
  unfold World.cell? at h
  split at h
  · rename_i hb; exact (Array.getElem?_eq_some_iff.1 hb).1
  · cases h
theorem h0_core {W : World} {a : Addr} (v2 : ∀ i : Nat, W.cell? ⟨0, i, none⟩ = (headZs[i]?).map fun z => Value.int .u8 z) (v0 : ∀ i : Nat, W.cell? ⟨2, i, none⟩ = (tabZs[i]?).map fun z => Value.int .u8 z) (v1 : W.cell? ⟨1, 0, none⟩ = some (.slice (some a) 7 7)) (ha : a.spot = none) (hb : a.block < W.heap.size)
    (hs : ∀ (i : Nat) s, ordSs[i]? = some s → W.cell? ⟨a.block, a.off + i, none⟩ = some (.string ⟨s.toArray⟩)) : ∃ σ, HRel Tryz.prog σ W.heap.size H0 W ∧ 0 < W.heap.size := by
  have l0 := lt_of_cell v1
  have l1 := lt_of_cell ((v0 0).trans rfl)
  have l2 := lt_of_cell ((v2 0).trans rfl)
  obtain ⟨ab, ao, asp⟩ := a
  simp only at ha hb
  subst ha
  have d0 := HRel.dead0 (P := Tryz.prog) (W := W) [⟨1, 0, 1, 1, none⟩, ⟨2, 0, 1, 64, none⟩, ⟨0, 0, 5, 1, none⟩] (fun i g hi => by
    match i, hi with
    | 0, hi => cases hi; exact ⟨_, rfl, rfl, rfl⟩
    | 1, hi => cases hi; exact ⟨_, rfl, rfl, rfl⟩
    | 2, hi => cases hi; exact ⟨_, rfl, rfl, rfl⟩
    | i + 3, hi => cases hi) (fun I hI => by
      rcases List.mem_cons.1 hI with rfl | hI
      · exact l0
      · rcases List.mem_cons.1 hI with rfl | hI
        · exact l1
        · rcases List.mem_cons.1 hI with rfl | hI
          · exact l2
          · cases hI)
  have one : ∀ {α : Type} {f : α → VV} {l : List α} {k j : Nat} {e : List VV} {v : VV}, (l.map fun x => [f x])[k]? = some e → e[j]? = some v → j = 0 ∧ ∃ x, l[k]? = some x ∧ v = f x := fun {α f l k j e v} hk hj => by
    rw [List.getElem?_map] at hk
    obtain ⟨x, hx, rfl⟩ := Option.map_eq_some_iff.1 hk
    match j, hj with
    | 0, hj => cases hj; exact ⟨rfl, x, hx, rfl⟩
    | j + 1, hj => cases hj
  have d1 := d0.pushRo 0 (ordSs.map fun s => [VV.str s]) ⟨ab, ao, 1, 7, none⟩ hb rfl rfl (fun e he => by obtain ⟨s, _, rfl⟩ := List.mem_map.1 he; rfl) (fun k e j v he hv => by
    obtain ⟨rfl, s, hk, rfl⟩ := one he hv
    exact ⟨rfl, _, by simpa using hs k s hk, .str s⟩)
  have d2 := d1.wake (i := 0) (I := ⟨1, 0, 1, 1, none⟩) rfl rfl l0 rfl 30 [[.sl (some ⟨3, 0, 0⟩) 7 7]] rfl (fun e he => by rcases List.mem_cons.1 he with rfl | he; exact rfl; cases he) (fun k e j v he hv => by
    match k, he with
    | 0, he =>
      cases he
      match j, hv with
      | 0, hv =>
        cases hv
        refine ⟨rfl, _, v1, .sl ⟨Nat.le_refl _, .inl ⟨⟨⟨ab, ao, 1, 7, none⟩, rfl, ?_⟩, rfl⟩⟩⟩
        rfl
      | j + 1, hv => cases hv
    | k + 1, he => cases he)
  have d3 := d2.wake (i := 1) (I := ⟨2, 0, 1, 64, none⟩) rfl rfl l1 rfl 365 (tabZs.map fun n => [VV.int .u8 n]) rfl (fun e he => by obtain ⟨s, _, rfl⟩ := List.mem_map.1 he; rfl) (fun k e j v he hv => by
    obtain ⟨rfl, z, hk, rfl⟩ := one he hv
    refine ⟨rfl, .int .u8 z, ?_, .int _ _⟩
    have := v0 k
    rw [hk] at this
    simpa using this)
  have d4 := d3.wake (i := 2) (I := ⟨0, 0, 5, 1, none⟩) rfl rfl l2 rfl 48 [headZs.map fun n => VV.int .u8 n] rfl (fun e he => by rcases List.mem_cons.1 he with rfl | he; rfl; cases he) (fun k e j v he hv => by
    match k, he with
    | 0, he =>
      cases he
      rw [List.getElem?_map] at hv
      obtain ⟨z, hz, rfl⟩ := Option.map_eq_some_iff.1 hv
      refine ⟨rfl, .int .u8 z, ?_, .int _ _⟩
      have := v2 j
      rw [hz] at this
      simpa using this
    | k + 1, he => cases he)
  exact ⟨_, d4, by omega⟩
theorem treeG_e (i : Nat) : treeG (Tree.e : Tree Blk) i = none := rfl
theorem tree4 (a b c d : Blk) (i : Nat) : treeG (.n a (.n b (.n d .e .e) .e) (.n c .e .e)) (i + 4) = none := by
  rw [treeG_n, if_neg (by omega)]
  split
  · rw [treeG_n, if_neg (by omega)]
    split
    · rw [treeG_n, if_neg (by omega)]; split <;> rfl
    · rfl
  · rw [treeG_n, if_neg (by omega)]; split <;> rfl
/-- a closed call, in the trees' heap of the tables alone -/
theorem rep_of {t : Tree Blk} {n : Nat} (j : List Nat) (h0 : n = 4) (h1 : treeG t 0 = H0[0]?) (h2 : treeG t 1 = H0[1]?) (h3 : treeG t 2 = H0[2]?) (h4 : treeG t 3 = H0[3]?) (h5 : ∀ i, treeG t (i + 4) = none) : TRep ⟨n, t, j⟩ H0 := by
  refine ⟨h0, fun i => ?_⟩
  match i with
  | 0 => exact h1
  | 1 => exact h2
  | 2 => exact h3
  | 3 => exact h4
  | i + 4 => exact h5 i
theorem and2 {a b : Bool} (h : a = true) (k : b = true) : (a && b) = true := by rw [h, k]; rfl
end Go.Proofs.YtbcaceeiehjplacGreatDoor
