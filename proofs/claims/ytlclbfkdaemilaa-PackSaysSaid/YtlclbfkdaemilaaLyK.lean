/- PackLays over the canonical heap: for every list of rows (of fewer than a million millions each) the law returns true. -/
import Derived.Test.YtlclbfkdaemilaaLyJ
import Derived.Test.YtlclbfkdaemilaaAwk
namespace Go.Proofs.Ytlclbfkdaemilaa
set_option linter.unusedSimpArgs false
set_option linter.unusedVariables false
open Go Go.Vm Go.Proofs So
set_option maxRecDepth 100000
set_option maxHeartbeats 2000000

theorem fold_len {rows : List Edges} (hall : rows.all isRowS = true) : ∀ (js : List Nat) (s : Laid), s.o.length = s.v.length → (js.foldl (putR rows) s).o.length = (js.foldl (putR rows) s).v.length ∧ (js.foldl (putR rows) s).o.length ≤ s.o.length + 256 * js.length ∧ (js.foldl (putR rows) s).bs.length = s.bs.length
  | [], s, h => ⟨h, by simp, rfl⟩
  | i :: js, s, h => by
    obtain ⟨u1, u2, u3⟩ := putS_len (i := i) (rows_ok hall i) h
    obtain ⟨w1, w2, w3⟩ := fold_len hall js (putR rows s i) u1
    refine ⟨w1, ?_, w3.trans u3⟩
    have : (putR rows s i).o.length ≤ s.o.length + 256 := u2
    rw [List.foldl_cons, List.length_cons]; omega
theorem layR_len {rows : List Edges} (h : layOk rows = true) : (layR rows).o.length = (layR rows).v.length ∧ (layR rows).o.length ≤ 65536 ∧ (layR rows).bs.length = rows.length ∧ rows.length ≤ 256 := by
  unfold layOk at h
  simp only [Bool.and_eq_true, decide_eq_true_eq] at h
  obtain ⟨w1, w2, w3⟩ := fold_len h.2 (ordN rows 256) ⟨List.replicate rows.length 0, [], []⟩ rfl
  have := ordN_le (rows := rows) 256
  refine ⟨w1, ?_, by rw [layR, w3]; simp, h.1⟩
  have h2 : (layR rows).o.length ≤ ([] : List Int).length + 256 * (ordN rows 256).length := w2
  simp at h2; omega

def errS (rows : List Edges) : Int := if layOk rows = true then 0 else 1
def layL (rows : List Edges) (j : Nat) : List Int := if layOk rows = true then (match j with | 0 => (layR rows).bs | 1 => (layR rows).v | _ => (layR rows).o) else []
theorem layL_len (rows : List Edges) (j : Nat) : (layL rows j).length ≤ 1000000 := by
  unfold layL
  by_cases h : layOk rows = true
  · obtain ⟨h1, h2, h3, h4⟩ := layR_len h
    rw [if_pos h]
    split <;> omega
  · rw [if_neg h]; simp
abbrev resA (o : Nat → Option Nat) (rows : List Edges) : List VV := [.sl (gptr (o 0)) (layL rows 0).length (layL rows 0).length, .sl (gptr (o 1)) (layL rows 1).length (layL rows 1).length, .sl (gptr (o 2)) (layL rows 2).length (layL rows 2).length]
/-- three lists, each in a block of its own or none -/
structure Res (H0 H : Hp) (o : Nat → Option Nat) (rows : List Edges) : Prop where
  ext : Ext H0 H
  sl : ∀ j, j < 3 → Sl H (gptr (o j)) 1 (intEs (layL rows j))
  wr : ∀ j, j < 3 → Wr H (o j) (layL rows j).length
  lo : ∀ j, j < 3 → ∀ k, o j = some k → H0.length ≤ k
  ne : ∀ j j', j < 3 → j' < 3 → j ≠ j' → ∀ k, o j = some k → o j' ≠ some k
theorem Res.hi {H0 H : Hp} {o : Nat → Option Nat} {rows : List Edges} (h : Res H0 H o rows) : ∀ j, j < 3 → ∀ k, o j = some k → k < H.length := fun j hj k e => by
  have := h.wr j hj
  rw [e] at this
  obtain ⟨md, l, _, h2, _⟩ := this
  exact get_lt h2
theorem lay_res {t0 : TypeId} {H0 H : Hp} {rows : List Edges} {r : VV} (ht : t0 ≠ 3) (h : LayR t0 H0 H rows r) : ∃ o, Res H0 H o rows ∧ r = .tup [.agg (resA o rows), .int .i64 (errS rows)] := by
  unfold LayR at h
  by_cases hok : layOk rows = true
  · rw [if_pos hok] at h
    obtain ⟨ic, ib, iv, io, hc, rfl⟩ := h
    obtain ⟨n1, n2, n3⟩ := hc.nec ht
    have hl : layL rows 0 = (layR rows).bs ∧ layL rows 1 = (layR rows).v ∧ layL rows 2 = (layR rows).o := by
      unfold layL; simp only [hok, if_true, and_self]
    refine ⟨fun j => match j with | 0 => some ib | 1 => iv | _ => io, ⟨hc.ext, fun j hj => ?_, fun j hj => ?_, fun j hj k hk => ?_, fun j j' hj hj' hne k hk hk' => ?_⟩, ?_⟩
    · match j, hj with
      | 0, _ => rw [hl.1]; exact .inr ⟨ib, 0, _, _, _, rfl, hc.bas, fun e he => by obtain ⟨n, _, rfl⟩ := List.mem_map.1 he; rfl, fun k e he => by rw [Nat.zero_add]; exact he⟩
      | 1, _ => rw [hl.2.1]; exact hc.gv.sl
      | 2, _ => rw [hl.2.2]; exact hc.go.sl
    · match j, hj with
      | 0, _ => rw [hl.1]; exact ⟨.own, _, by decide, hc.bas, rfl, fun e => by cases e⟩
      | 1, _ => rw [hl.2.1]; exact .of hc.gv
      | 2, _ => rw [hl.2.2]; exact .of hc.go
    · match j, hj with
      | 0, _ => simp at hk; subst hk; exact hc.lb
      | 1, _ => exact hc.lv k hk
      | 2, _ => exact hc.lo k hk
    · match j, hj, j', hj' with
      | 0, _, 0, _ => exact hne rfl
      | 0, _, 1, _ => simp at hk; subst hk; exact (n2 _ hk').2 rfl
      | 0, _, 2, _ => simp at hk; subst hk; exact (n3 _ hk').2 rfl
      | 1, _, 0, _ => simp at hk'; subst hk'; exact (n2 _ hk).2 rfl
      | 1, _, 1, _ => exact hne rfl
      | 1, _, 2, _ => exact hc.ne k hk hk'
      | 2, _, 0, _ => simp at hk'; subst hk'; exact (n3 _ hk).2 rfl
      | 2, _, 1, _ => exact hc.ne k hk' hk
      | 2, _, 2, _ => exact hne rfl
    · unfold resA errS
      rw [hl.1, hl.2.1, hl.2.2, if_pos hok]
      rfl
  · rw [if_neg hok] at h
    obtain ⟨hx, rfl⟩ := h
    have hl : ∀ j, layL rows j = [] := fun j => by unfold layL; rw [if_neg hok]
    refine ⟨fun _ => none, ⟨hx, fun j hj => .inl (by rw [hl]; rfl), fun j hj => by rw [hl]; rfl, fun j hj k hk => (by cases hk), fun j j' _ _ _ k hk => (by cases hk)⟩, ?_⟩
    unfold resA errS
    rw [hl, hl, hl, if_neg hok]
    rfl

section
variable {H : Hp} {p : Option PA} {vs : List VV} {rows : List Edges} {c : Nat}
theorem growV_sl {i : Option Nat} (h : GrowV H i vs) : Sl H (gptr i) 1 (vs.map fun v => [v]) := by
  cases i with
  | none => rw [show vs = [] from h]; exact .inl rfl
  | some i => exact .inr ⟨i, 0, _, _, _, rfl, h.1, fun e he => by obtain ⟨n, _, rfl⟩ := List.mem_map.1 he; rfl, fun k e he => by rw [Nat.zero_add]; exact he⟩
theorem packLays_fn (h : Sl H p 1 (vs.map fun v => [v])) (hr : RowV H vs rows) (hn : rows.length ≤ 1000000000000) (hl : ∀ k, k < rows.length → (rows.getD k []).length ≤ 1000000000000) :
    FnV Try.prog 3 [.sl p rows.length c] H fun r _ => r = .bool true := by
  refine FnV.enterRow ok3 (by show 1 ≤ 58; decide) fun B => ?_
  dsimp only [w3]
  have hmx : maxLen = 9223372036854775807 := rfl
  have hlm : ∀ j, (layL rows j).length ≤ maxLen := fun j => by have := layL_len rows j; omega
  refine VW.seq (VW.reg ?_)
  refine VOps.rd rfl rfl ?_
  refine VOps.nil ⟨rfl, ?_⟩
  -- rows of our own
  refine VW.seq (VW.reg ?_)
  refine VOps.rd rfl rfl ?_
  refine VOps.call rfl rfl rfl ((lent9 (c := c) h hr hn hl).mono ?_)
  rintro r H1 ⟨hx1, io, ws, rfl, hg1, hl1⟩
  refine VOps.rd rfl rfl ?_
  refine VOps.nil ⟨rfl, ?_⟩
  show VW _ _ _ _ [(0, .sl p rows.length c), (3, .sl (gptr io) rows.length rows.length)] _ _
  have hws := growV_sl hg1
  have hrw := hl1.rowV (fun k hk => by have := hl k hk; omega)
  -- laid by the program
  refine VW.seq (VW.reg ?_)
  refine VOps.rd rfl rfl ?_
  refine VOps.call rfl rfl rfl ((lay10 (c := rows.length) hws hrw (by omega)).mono ?_)
  rintro r H2 hlr
  obtain ⟨o, hres, rfl⟩ := lay_res (by decide) hlr
  clear hlr
  refine VOps.rd rfl rfl ?_
  refine VOps.rd rfl rfl ?_
  refine VOps.rd rfl rfl ?_
  refine VOps.ef (v := .ptr (some ⟨H2.length, 0, 0⟩)) (H' := H2 ++ [.row 26 .own [[.sl none 0 0, .sl none 0 0, .sl none 0 0]]]) rfl (by simp) ?_
  refine VOps.ef (v := .undef) (H' := H2 ++ [.row 26 .own [resA o rows]]) rfl (by simp [stc, okCells, VV.cell, upd]) ?_
  refine VOps.rd rfl rfl ?_
  refine VOps.nil ⟨rfl, ?_⟩
  show VW _ _ _ _ [(0, .sl p rows.length c), (3, .sl (gptr io) rows.length rows.length), (4, .ptr (some ⟨H2.length, 0, 0⟩)), (5, .int .i64 (errS rows))] _ _
  have hx3 : Ext H2 (H2 ++ [.row 26 .own [resA o rows]]) := .app _ _
  have hb4 : (H2 ++ [Blk.row 26 .own [resA o rows]])[H2.length]? = some (.row 26 .own [resA o rows]) := by simp
  generalize H2 ++ [.row 26 .own [resA o rows]] = H3 at *
  generalize hi4 : H2.length = i4 at *
  have hx13 := hres.ext.trans hx3
  -- and by the document
  refine VW.seq (VW.reg ?_)
  refine VOps.rd rfl rfl ?_
  refine VOps.call rfl rfl rfl ((lay11 (c := c) ((hx1.trans hx13).sl h) (hr.ext (hx1.trans hx13)) (by omega)).mono ?_)
  rintro r H4 hlr
  obtain ⟨o', hres', rfl⟩ := lay_res (by decide) hlr
  clear hlr
  refine VOps.rd rfl rfl ?_
  refine VOps.rd rfl rfl ?_
  refine VOps.rd rfl rfl ?_
  refine VOps.ef (v := .ptr (some ⟨H4.length, 0, 0⟩)) (H' := H4 ++ [.row 26 .own [[.sl none 0 0, .sl none 0 0, .sl none 0 0]]]) rfl (by simp) ?_
  refine VOps.ef (v := .undef) (H' := H4 ++ [.row 26 .own [resA o' rows]]) rfl (by simp [stc, okCells, VV.cell, upd]) ?_
  refine VOps.rd rfl rfl ?_
  refine VOps.nil ⟨rfl, ?_⟩
  show VW _ _ _ _ [(0, .sl p rows.length c), (3, .sl (gptr io) rows.length rows.length), (4, .ptr (some ⟨i4, 0, 0⟩)), (5, .int .i64 (errS rows)), (6, .ptr (some ⟨H4.length, 0, 0⟩)), (7, .int .i64 (errS rows))] _ _
  have hx5 : Ext H4 (H4 ++ [.row 26 .own [resA o' rows]]) := .app _ _
  have hb6 : (H4 ++ [Blk.row 26 .own [resA o' rows]])[H4.length]? = some (.row 26 .own [resA o' rows]) := by simp
  generalize H4 ++ [.row 26 .own [resA o' rows]] = H5 at *
  generalize hi6 : H4.length = i6 at *
  have hx35 := hres'.ext.trans hx5
  have hx25 := hx3.trans hx35
  have hx15 := hx13.trans hx35
  have hb45 := hx35.get hb4
  have hlt4 := get_lt hb4
  have l4 := lds_own hb45 0 3
  have l6 := lds_own hb6 0 3
  simp only [List.length_cons, List.length_nil, Nat.zero_add, Nat.le_refl, if_true, List.drop_zero, List.take_succ_cons, List.take_zero] at l4 l6
  have sl1 : ∀ j, j < 3 → Sl H5 (gptr (o j)) 1 (intEs (layL rows j)) := fun j hj => hx25.sl (hres.sl j hj)
  have sl2 : ∀ j, j < 3 → Sl H5 (gptr (o' j)) 1 (intEs (layL rows j)) := fun j hj => hx5.sl (hres'.sl j hj)
  -- both are one
  refine VW.seq (VW.seq (VW.reg ?_))
  refine VOps.rd rfl rfl ?_
  refine VOps.rd rfl rfl ?_
  refine VOps.rd (v := .bool false) rfl (by simp) ?_
  refine VOps.rd rfl rfl ?_
  refine VOps.rd (v := .agg (resA o rows)) rfl (by simp [l4]) ?_
  refine VOps.rd (v := .agg (resA o' rows)) rfl (by simp [l6]) ?_
  refine VOps.call rfl rfl rfl ((same12 (sl1 0 (by omega)) (sl1 1 (by omega)) (sl1 2 (by omega)) (sl2 0 (by omega)) (sl2 1 (by omega)) (sl2 2 (by omega)) (hlm 0) (hlm 1) (hlm 2)).mono ?_)
  rintro r Hy ⟨rfl, rfl⟩
  refine VOps.rd (v := .bool false) rfl rfl ?_
  refine VOps.rd (v := .bool false) rfl rfl ?_
  refine VOps.rd rfl rfl ?_
  refine VOps.rd rfl rfl ?_
  refine VOps.rd rfl rfl ?_
  refine VOps.call rfl rfl rfl ((stays13 (hx15.sl hws) (hl1.ext hx15) ((hx1.trans hx15).sl h) (hr.ext (hx1.trans hx15)) hn hl).mono ?_)
  rintro r Hy2 ⟨rfl, rfl⟩
  refine VOps.rd (v := .bool false) rfl rfl ?_
  refine VOps.rd (v := .bool false) rfl rfl ?_
  refine VOps.nil ⟨rfl, VW.condF rfl (VW.skip ?_)⟩
  -- written over
  have hwr : ∀ j, j < 3 → Wr Hy2 (o j) (layL rows j).length := fun j hj => (hres.wr j hj).keep fun k hk => hx25.2 k (hres.hi j hj k hk)
  refine VW.seq (VW.reg ?_)
  refine VOps.rd (v := .agg (resA o rows)) rfl (by simp [Fr.only, l4]) ?_
  refine VOps.call rfl rfl rfl ((spoil14 hwr (fun j hj => by have := layL_len rows j; omega) hres.ne).mono ?_)
  rintro r H6 ⟨rfl, hoff⟩
  refine VOps.nil ⟨rfl, ?_⟩
  show VW _ _ _ _ [(0, .sl p rows.length c), (3, .sl (gptr io) rows.length rows.length), (4, .ptr (some ⟨i4, 0, 0⟩)), (6, .ptr (some ⟨i6, 0, 0⟩)), (7, .int .i64 (errS rows))] _ _
  -- what lay below the first answer, and what came behind it, is as it was
  have hx16 : Ext H1 H6 := ⟨Nat.le_trans hx15.1 hoff.1, fun k hk => by
    rw [hoff.2 k (Nat.lt_of_lt_of_le hk hx15.1) (fun j hj e => by have := hres.lo j hj k e; omega)]; exact hx15.2 k hk⟩
  have later : ∀ k, i4 ≤ k → k < Hy2.length → H6[k]? = Hy2[k]? := fun k h1 h2 => hoff.2 k h2 (fun j hj e => by have := hres.hi j hj k e; omega)
  have hge34 := hres'.ext.1
  have hb66 : H6[i6]? = some (.row 26 .own [resA o' rows]) := by rw [later i6 (by omega) (get_lt hb6)]; exact hb6
  have hb46 : H6[i4]? = some (.row 26 .own [resA o rows]) := by rw [later i4 (Nat.le_refl _) (get_lt hb45)]; exact hb45
  have sl6 : ∀ j, j < 3 → Sl H6 (gptr (o' j)) 1 (intEs (layL rows j)) := fun j hj => by
    have hs := sl2 j hj
    rcases hs with hs | ⟨b, i, md, t, rs, e1, e2, e3, e4⟩
    · exact .inl hs
    · refine .inr ⟨b, i, md, t, rs, e1, ?_, e3, e4⟩
      have hb : o' j = some b := by
        cases hoj : o' j with
        | none => rw [hoj] at e1; cases e1
        | some z => rw [hoj] at e1; simp [gptr] at e1; rw [e1.1]
      rw [later b (by have := hres'.lo j hj b hb; omega) (get_lt e2)]; exact e2
  clear sl1 sl2 l4 l6 hoff later hwr hb45 hb4 hb6 hx25 hx35 hx3 hx13 hx15 hx5
  -- laid again
  refine VW.seq (VW.reg ?_)
  refine VOps.rd rfl rfl ?_
  refine VOps.call rfl rfl rfl ((lay10 (c := rows.length) (hx16.sl hws) (hrw.ext hx16) (by omega)).mono ?_)
  rintro r H7 hlr
  obtain ⟨o2, hres2, rfl⟩ := lay_res (by decide) hlr
  clear hlr
  have hb47 := hres2.ext.get hb46
  have hst : stc H7 ⟨i4, 0, 0⟩ (resA o2 rows) = some (H7.set i4 (.row 26 .own [resA o2 rows])) := by
    have hk : okCells (resA o2 rows) = true := rfl
    simp only [stc, hb47, if_neg (show Vm.Mode.own ≠ .ro by decide), List.getElem?_cons_zero, hk]
    simp [upd]
  refine VOps.rd rfl rfl ?_
  refine VOps.rd rfl rfl ?_
  refine VOps.rd rfl rfl ?_
  refine VOps.ef (v := .undef) (H' := H7.set i4 (.row 26 .own [resA o2 rows])) rfl (by simp only [VEf.ev, Od.ev, Fr.pt, Fr.get, reduceIte, Nat.reduceEqDiff, VV.defd, VV.cells, hst]; simp) ?_
  refine VOps.rd rfl rfl ?_
  refine VOps.nil ⟨rfl, ?_⟩
  show VW _ _ _ _ [(0, .sl p rows.length c), (3, .sl (gptr io) rows.length rows.length), (4, .ptr (some ⟨i4, 0, 0⟩)), (5, .int .i64 (errS rows)), (6, .ptr (some ⟨i6, 0, 0⟩)), (7, .int .i64 (errS rows))] _ _
  have hlt46 := get_lt hb46
  have hge1 := hres.ext.1
  have hx18 : Ext H1 (H7.set i4 (.row 26 .own [resA o2 rows])) := (hx16.trans hres2.ext).set (by omega) _
  have hne46 : i4 ≠ i6 := by omega
  have hb68 : (H7.set i4 (.row 26 .own [resA o2 rows]))[i6]? = some (.row 26 .own [resA o' rows]) := get_ne (hres2.ext.get hb66) hne46
  have hb48 : (H7.set i4 (.row 26 .own [resA o2 rows]))[i4]? = some (.row 26 .own [resA o2 rows]) := List.getElem?_set_self (get_lt hb47)
  have slset : ∀ {q : Option PA} {es : List (List VV)}, (∀ b i, q = some ⟨b, i, 0⟩ → b ≠ i4) → Sl H7 q 1 es → Sl (H7.set i4 (.row 26 .own [resA o2 rows])) q 1 es := by
    intro q es hq hs
    rcases hs with hs | ⟨b, i, md, t, rs, e1, e2, e3, e4⟩
    · exact .inl hs
    · exact .inr ⟨b, i, md, t, rs, e1, get_ne e2 (fun e => hq b i e1 e.symm), e3, e4⟩
  have sl8 : ∀ j, j < 3 → Sl (H7.set i4 (.row 26 .own [resA o2 rows])) (gptr (o2 j)) 1 (intEs (layL rows j)) := fun j hj => slset (fun b i e eb => by
    subst eb
    cases hoj : o2 j with
    | none => rw [hoj] at e; cases e
    | some z => rw [hoj] at e; simp [gptr] at e; have := hres2.lo j hj z hoj; omega) (hres2.sl j hj)
  have sl8' : ∀ j, j < 3 → Sl (H7.set i4 (.row 26 .own [resA o2 rows])) (gptr (o' j)) 1 (intEs (layL rows j)) := fun j hj => slset (fun b i e eb => by
    subst eb
    cases hoj : o' j with
    | none => rw [hoj] at e; cases e
    | some z => rw [hoj] at e; simp [gptr] at e; have := hres'.lo j hj z hoj; omega) (hres2.ext.sl (sl6 j hj))
  have l4 := lds_own hb48 0 3
  have l6 := lds_own hb68 0 3
  simp only [List.length_cons, List.length_nil, Nat.zero_add, Nat.le_refl, if_true, List.drop_zero, List.take_succ_cons, List.take_zero] at l4 l6
  generalize H7.set i4 (.row 26 .own [resA o2 rows]) = H8 at *
  refine VW.seq (VW.reg ?_)
  refine VOps.rd rfl rfl ?_
  refine VOps.rd rfl rfl ?_
  refine VOps.rd (v := .bool true) rfl (by simp) ?_
  refine VOps.rd rfl rfl ?_
  refine VOps.rd (v := .agg (resA o2 rows)) rfl (by simp [l4]) ?_
  refine VOps.rd (v := .agg (resA o' rows)) rfl (by simp [l6]) ?_
  refine VOps.call rfl rfl rfl ((same12 (sl8 0 (by omega)) (sl8 1 (by omega)) (sl8 2 (by omega)) (sl8' 0 (by omega)) (sl8' 1 (by omega)) (sl8' 2 (by omega)) (hlm 0) (hlm 1) (hlm 2)).mono ?_)
  rintro r Hy ⟨rfl, rfl⟩
  refine VOps.rd (v := .bool true) rfl rfl ?_
  refine VOps.rd rfl rfl ?_
  refine VOps.rd rfl rfl ?_
  refine VOps.rd rfl rfl ?_
  refine VOps.call rfl rfl rfl ((stays13 (hx18.sl hws) (hl1.ext hx18) ((hx1.trans hx18).sl h) (hr.ext (hx1.trans hx18)) hn hl).mono ?_)
  rintro r Hy2 ⟨rfl, rfl⟩
  refine VOps.rd (v := .bool true) rfl rfl ?_
  refine VOps.rd rfl rfl ?_
  refine VOps.call rfl rfl rfl ((awake_fn _).mono ?_)
  rintro r Hy3 ⟨rfl, rfl⟩
  refine VOps.rd (v := .bool true) rfl rfl ?_
  refine VOps.rd rfl rfl ?_
  refine VOps.nil ⟨rfl, VW.ret ⟨.inl rfl, .bool true, rfl, rfl⟩⟩
end
end Go.Proofs.Ytlclbfkdaemilaa
