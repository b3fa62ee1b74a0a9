/- PackReads: for every packed table, state and symbol the law returns true, and the arguments read as before. -/
import Derived.Test.YtlclbfkdaemilaaPz
import Derived.Test.YtlclbfkdaemilaaRdA
namespace Go.Proofs.Ytlclbfkdaemilaa
set_option linter.unusedSimpArgs false
set_option linter.unusedVariables false
open Go Go.Vm Go.Proofs Go.ChangeShapes Go.WideShapes Go.ChangeAt Go.RowKit
set_option maxRecDepth 100000
set_option maxHeartbeats 1000000

theorem packReads_fn {H : Hp} {p0 p1 p2 p3 p4 p5 p6 p7 : Option PA} {c0 c1 c2 c3 c4 c5 c6 c7 : Nat} {df b v o tg gb gv go : List Int} {state term : Int}
    (h0 : Sl H p0 1 (intEs df)) (h1 : Sl H p1 1 (intEs b)) (h2 : Sl H p2 1 (intEs v)) (h3 : Sl H p3 1 (intEs o)) (h4 : Sl H p4 1 (intEs tg)) (h5 : Sl H p5 1 (intEs gb)) (h6 : Sl H p6 1 (intEs gv)) (h7 : Sl H p7 1 (intEs go))
    (hv : v.length ≤ maxLen) (ho : o.length ≤ maxLen) (hgv : gv.length ≤ maxLen) (hgo : go.length ≤ maxLen) (hw : ∀ n ∈ v, -9223372036854775808 ≤ n ∧ n ≤ 9223372036854775807) :
    FnV Try.prog 6 [.agg (pkV p0 p1 p2 p3 p4 p5 p6 p7 c0 c1 c2 c3 c4 c5 c6 c7 df b v o tg gb gv go), .int .i64 state, .int .i64 term] H fun r _ => r = .bool true := by
  refine FnV.enterRow ok6 (by show 3 ≤ 34; decide) fun B => ?_
  dsimp only [w6]
  refine VW.seq (VW.reg ?_)
  refine VOps.ef rfl (by simp; rfl) ?_
  refine VOps.rd rfl rfl ?_
  refine VOps.nil ⟨rfl, ?_⟩
  show VW _ _ _ _ [(1, .int .i64 state), (2, .int .i64 term), (3, .ptr (some ⟨H.length, 0, 0⟩))] _ _
  have hx : Ext H (H ++ [Blk.row 44 Mode.own [pkV p0 p1 p2 p3 p4 p5 p6 p7 c0 c1 c2 c3 c4 c5 c6 c7 df b v o tg gb gv go]]) := .app _ _
  have hb0 : (H ++ [Blk.row 44 Mode.own [pkV p0 p1 p2 p3 p4 p5 p6 p7 c0 c1 c2 c3 c4 c5 c6 c7 df b v o tg gb gv go]])[H.length]? = some (Blk.row 44 Mode.own [pkV p0 p1 p2 p3 p4 p5 p6 p7 c0 c1 c2 c3 c4 c5 c6 c7 df b v o tg gb gv go]) := by simp
  generalize H ++ [Blk.row 44 Mode.own [pkV p0 p1 p2 p3 p4 p5 p6 p7 c0 c1 c2 c3 c4 c5 c6 c7 df b v o tg gb gv go]] = H1 at *
  have l0 := lds_own hb0 0 8
  simp at l0
  -- Action of the program
  refine VW.seq (VW.reg ?_)
  refine VOps.rd rfl (by simp [l0]; rfl) ?_
  refine VOps.rd rfl rfl ?_
  refine VOps.rd rfl rfl ?_
  refine VOps.call rfl rfl rfl ((act18 (hx.sl h0) (hx.sl h1) (hx.sl h2) (hx.sl h3) hv ho hw).mono ?_)
  rintro r H2 ⟨rfl, hx2⟩
  replace hb0 := hx2.get hb0
  replace hx := hx.trans hx2
  clear hx2 l0
  generalize hA : actS df b v o state term = a
  refine VOps.ef rfl (by simp; exact ⟨rfl, rfl⟩) ?_
  have hx2 : Ext H2 (H2 ++ [Blk.row 46 Mode.own [[VV.int IntKind.i64 0, VV.int IntKind.i64 0]]]) := .app _ _
  have hr0 : (H2 ++ [Blk.row 46 Mode.own [[VV.int IntKind.i64 0, VV.int IntKind.i64 0]]])[H2.length]? = some (Blk.row 46 Mode.own [[VV.int IntKind.i64 0, VV.int IntKind.i64 0]]) := by simp
  have hlt : H.length < H2.length := (List.getElem?_eq_some_iff.1 hb0).1
  have hlt2 : H2.length < (H2 ++ [Blk.row 46 Mode.own [[VV.int IntKind.i64 0, VV.int IntKind.i64 0]]]).length := by simp
  replace hb0 := hx2.get hb0
  replace hx := hx.trans hx2
  clear hx2
  generalize H2 ++ [Blk.row 46 Mode.own [[VV.int IntKind.i64 0, VV.int IntKind.i64 0]]] = H3 at *
  generalize H2.length = i2 at *
  have hst := stc_own2 (c := .int .i64 a.1) (d := .int .i64 a.2) hr0 rfl
  refine VOps.ef rfl (by simp [hst]; exact ⟨rfl, rfl⟩) ?_
  refine VOps.nil ⟨rfl, ?_⟩
  show VW _ _ _ _ [(1, .int .i64 state), (2, .int .i64 term), (3, .ptr (some ⟨H.length, 0, 0⟩)), (7, .ptr (some ⟨i2, 0, 0⟩))] _ _
  replace hx := hx.set (i := i2) (by omega) (Blk.row 46 Mode.own [[VV.int IntKind.i64 a.1, VV.int IntKind.i64 a.2]])
  replace hr0 : (H3.set i2 (Blk.row 46 Mode.own [[VV.int IntKind.i64 a.1, VV.int IntKind.i64 a.2]]))[i2]? = some (Blk.row 46 Mode.own [[VV.int IntKind.i64 a.1, VV.int IntKind.i64 a.2]]) := by rw [List.getElem?_set_self hlt2]
  replace hb0 : (H3.set i2 (Blk.row 46 Mode.own [[VV.int IntKind.i64 a.1, VV.int IntKind.i64 a.2]]))[H.length]? = some (Blk.row 44 Mode.own [pkV p0 p1 p2 p3 p4 p5 p6 p7 c0 c1 c2 c3 c4 c5 c6 c7 df b v o tg gb gv go]) := by rw [List.getElem?_set_ne (by omega)]; exact hb0
  clear hst
  generalize H3.set i2 (Blk.row 46 Mode.own [[VV.int IntKind.i64 a.1, VV.int IntKind.i64 a.2]]) = H4 at *
  -- Goto of the program
  have l0 := lds_own hb0 0 8
  simp at l0
  refine VW.seq (VW.reg ?_)
  refine VOps.rd rfl (by simp [l0]; rfl) ?_
  refine VOps.rd rfl rfl ?_
  refine VOps.rd rfl rfl ?_
  refine VOps.call rfl rfl rfl ((got19 (hx.sl h4) (hx.sl h5) (hx.sl h6) (hx.sl h7) hgv hgo).mono ?_)
  rintro r H5 ⟨rfl, hx2⟩
  replace hb0 := hx2.get hb0
  replace hr0 := hx2.get hr0
  replace hx := hx.trans hx2
  clear hx2 l0
  generalize hG : gotoS tg gb gv go state term = g
  refine VOps.rd rfl rfl ?_
  refine VOps.nil ⟨rfl, ?_⟩
  show VW _ _ _ _ [(1, .int .i64 state), (2, .int .i64 term), (3, .ptr (some ⟨H.length, 0, 0⟩)), (7, .ptr (some ⟨i2, 0, 0⟩)), (8, .int .i64 g)] _ _
  -- the document's, and the example
  have l0 := lds_own hb0 0 8
  have l1 := lds_own hr0 0 2
  simp at l0 l1
  have k20 := (act20 (p4 := p4) (p5 := p5) (p6 := p6) (p7 := p7) (c0 := c0) (c1 := c1) (c2 := c2) (c3 := c3) (c4 := c4) (c5 := c5) (c6 := c6) (c7 := c7) (tg := tg) (gb := gb) (gv := gv) (go := go) (state := state) (term := term) (hx.sl h0) (hx.sl h1) (hx.sl h2) (hx.sl h3) hv ho hw).calm rfl
  have k21 := (got21 (p0 := p0) (p1 := p1) (p2 := p2) (p3 := p3) (c0 := c0) (c1 := c1) (c2 := c2) (c3 := c3) (c4 := c4) (c5 := c5) (c6 := c6) (c7 := c7) (df := df) (b := b) (v := v) (o := o) (state := state) (term := term) (hx.sl h4) (hx.sl h5) (hx.sl h6) (hx.sl h7) hgv hgo).calm rfl
  rw [hA] at k20
  rw [hG] at k21
  refine VW.seq (VW.dreg [H5] mixed rfl ?_)
  refine VX.rd1 rfl (by simp [l1]; rfl) ?_
  refine VX.rd1 rfl (by simp [l0]; rfl) ?_
  refine VX.rd1 rfl rfl ?_
  refine VX.rd1 rfl rfl ?_
  refine VX.call1 rfl rfl rfl k20 ?_
  refine VX.rd1 (v := .bool true) rfl (by simp [aeqK]) ?_
  refine VX.rd1 rfl rfl ?_
  refine VX.rd1 rfl rfl ?_
  refine VX.rd1 rfl (by simp [l0]; rfl) ?_
  refine VX.rd1 rfl rfl ?_
  refine VX.rd1 rfl rfl ?_
  refine VX.call1 rfl rfl rfl k21 ?_
  refine VX.rd1 (v := .bool true) rfl (by simp) ?_
  refine VX.rd1 rfl rfl ?_
  refine VX.rd1 rfl rfl ?_
  refine VX.call1 rfl rfl rfl (awake_fn _) ?_
  refine VX.rd1 rfl rfl ?_
  refine VX.rd1 rfl rfl ?_
  refine VX.nil ?_
  show VW _ _ _ _ [(6, .bool true)] _ _
  exact VW.ret ⟨.inl rfl, _, rfl, rfl⟩

/-- api.Packed -/
theorem packed_inv {D : Type} {H : Hp} {vs : List VV} {d : DataW D} (h : Rd Try.prog H 44 vs d) : ∃ (p0 p1 p2 p3 p4 p5 p6 p7 : Option PA) (c0 c1 c2 c3 c4 c5 c6 c7 : Nat) (df b v o tg gb gv go : List Int),
    vs = pkV p0 p1 p2 p3 p4 p5 p6 p7 c0 c1 c2 c3 c4 c5 c6 c7 df b v o tg gb gv go ∧
    Sl H p0 1 (intEs df) ∧ Sl H p1 1 (intEs b) ∧ Sl H p2 1 (intEs v) ∧ Sl H p3 1 (intEs o) ∧ Sl H p4 1 (intEs tg) ∧ Sl H p5 1 (intEs gb) ∧ Sl H p6 1 (intEs gv) ∧ Sl H p7 1 (intEs go) ∧
    v.length ≤ maxLen ∧ o.length ≤ maxLen ∧ gv.length ≤ maxLen ∧ go.length ≤ maxLen ∧ ∀ n ∈ v, (Lit.int .i64 n).wf = true := by
  obtain ⟨ps, ds, rfl, _, hp, hd, hf⟩ := h.struct_inv Try.underlying44
  match ps, ds, hp, hd with
  | [x, y, z, u], [d1, d2, d3, d4], _, _ =>
    obtain ⟨p0, df, c0, rfl, _, s0, _⟩ := (hf 0 _ x d1 rfl rfl rfl).ints Try.underlying24 Try.underlying3 (by kernel_rfl)
    obtain ⟨p4, tg, c4, rfl, _, s4, _⟩ := (hf 2 _ z d3 rfl rfl rfl).ints Try.underlying24 Try.underlying3 (by kernel_rfl)
    obtain ⟨ps1, ds1, rfl, _, hp1, hd1, hf1⟩ := (hf 1 _ y d2 rfl rfl rfl).struct_inv Try.underlying26
    obtain ⟨ps3, ds3, rfl, _, hp3, hd3, hf3⟩ := (hf 3 _ u d4 rfl rfl rfl).struct_inv Try.underlying26
    match ps1, ds1, hp1, hd1, ps3, ds3, hp3, hd3 with
    | [x1, y1, z1], [e1, e2, e3], _, _, [x3, y3, z3], [g1, g2, g3], _, _ =>
      obtain ⟨p1, b, c1, rfl, _, s1, _⟩ := (hf1 0 _ x1 e1 rfl rfl rfl).ints Try.underlying24 Try.underlying3 (by kernel_rfl)
      obtain ⟨p2, v, c2, rfl, l2, s2, w2⟩ := (hf1 1 _ y1 e2 rfl rfl rfl).ints Try.underlying24 Try.underlying3 (by kernel_rfl)
      obtain ⟨p3, o, c3, rfl, l3, s3, _⟩ := (hf1 2 _ z1 e3 rfl rfl rfl).ints Try.underlying24 Try.underlying3 (by kernel_rfl)
      obtain ⟨p5, gb, c5, rfl, _, s5, _⟩ := (hf3 0 _ x3 g1 rfl rfl rfl).ints Try.underlying24 Try.underlying3 (by kernel_rfl)
      obtain ⟨p6, gv, c6, rfl, l6, s6, _⟩ := (hf3 1 _ y3 g2 rfl rfl rfl).ints Try.underlying24 Try.underlying3 (by kernel_rfl)
      obtain ⟨p7, go, c7, rfl, l7, s7, _⟩ := (hf3 2 _ z3 g3 rfl rfl rfl).ints Try.underlying24 Try.underlying3 (by kernel_rfl)
      exact ⟨p0, p1, p2, p3, p4, p5, p6, p7, c0, c1, c2, c3, c4, c5, c6, c7, df, b, v, o, tg, gb, gv, go, rfl, s0, s1, s2, s3, s4, s5, s6, s7, l2, l3, l6, l7, w2⟩

namespace PackReads
theorem law {D : Type} (H : Hp) (vvs : List VV) (ds : List (DataW D)) (h : ArgsRd Try.prog H Try.f6.params.toList vvs ds) : FnV Try.prog 6 vvs H fun r _ => r = .bool true := by
  rw [Try.params6] at h
  cases h with
  | cons h0 h =>
    cases h with
    | cons h1 h =>
      cases h with
      | cons h2 h =>
        cases h
        obtain ⟨row, rfl, _⟩ := h1.int_inv Try.underlying3
        obtain ⟨place, rfl, _⟩ := h2.int_inv Try.underlying3
        obtain ⟨vs, h0, rfl⟩ := h0
        obtain ⟨p0, p1, p2, p3, p4, p5, p6, p7, c0, c1, c2, c3, c4, c5, c6, c7, df, b, v, o, tg, gb, gv, go, rfl, s0, s1, s2, s3, s4, s5, s6, s7, l2, l3, l6, l7, w2⟩ := packed_inv h0
        have hst : isStruct Try.prog 44 = true := by kernel_rfl
        rw [hst, if_pos rfl]
        exact packReads_fn s0 s1 s2 s3 s4 s5 s6 s7 l2 l3 l6 l7 fun n hn => wf_i64 (w2 n hn)

theorem lifted (os : Os) (started : os.Started) (H : Type) (enc : TypeId × Value → H) :
    ReturnsInHanded {} Try.checked os 6 .any (Rows.packReadsSpec.pre6 enc Try.prog Try.f6 Rows.packReadsRow.domain false) (Rows.packReadsSpec.post enc Try.prog Try.f6 false true false false) := by
  refine returnsInHanded_of_change (C := Try.checked) own started (by kernel_rfl) Try.func6
    (ChangeSpec.witness6 (enc := enc) (C := Try.checked) false ⟨#[], #[.agg #[.slice none 0 0, .slice none 0 0, .slice none 0 0, .slice none 0 0, .slice none 0 0, .slice none 0 0, .slice none 0 0, .slice none 0 0], .int .i64 0, .int .i64 0], []⟩ 8 (by kernel_rfl) (by kernel_rfl) (by kernel_rfl) (by kernel_rfl)) ?_
  intro W base args ds gs before hval hW _ _
  exact law_contract (s := Rows.packReadsSpec) (tb := 4) (d0 := 5) laid (by decide +kernel) (by decide +kernel) rfl (by kernel_rfl) Try.underlying4 (fun ds hl => by
    have hl' : ds.length = 3 := hl
    match ds, hl' with
    | [a, b, c], _ => rfl) law args ds gs before base hval hW

theorem over : Rows.packReadsRow.holds Try.pinned (OpenSpec.ofChange Rows.packReadsSpec) :=
  OpenClaim.holds_of_wide 6 Try.f6 rfl rfl rfl rfl rfl rfl rfl ⟨rfl, rfl, rfl, rfl, rfl⟩ rfl rfl rfl rfl rfl (by kernel_rfl) Try.func6 (by kernel_rfl)
    (of_decide_eq_true (by kernel_rfl)) (by unfold Func.isWrapper; first | (rw [if_pos (by decide +kernel)]; kernel_rfl) | (rw [if_neg (by decide +kernel)]; exact ⟨rfl, rfl⟩))
    (fun os started H enc _ => lifted os started H enc)

theorem proved : Rows.PackReadsSaid :=
  over
end PackReads
end Go.Proofs.Ytlclbfkdaemilaa
