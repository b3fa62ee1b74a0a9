/- PackFits over the canonical heap: for every list of rows (of fewer than a million millions each) the law returns true. -/
import Derived.Test.YtlclbfkdaemilaaLyK
import Derived.Test.YtlclbfkdaemilaaFtA
namespace Go.Proofs.Ytlclbfkdaemilaa
set_option linter.unusedSimpArgs false
set_option linter.unusedVariables false
open Go Go.Vm Go.Proofs So
set_option maxRecDepth 100000
set_option maxHeartbeats 4000000

theorem edgesTo_mono {rows : List Edges} {i j : Nat} (h : i ≤ j) : edgesTo rows i ≤ edgesTo rows j := by
  induction j with
  | zero => rw [show i = 0 by omega]; exact Nat.le_refl _
  | succ j ih =>
    by_cases e : i = j + 1
    · subst e; exact Nat.le_refl _
    · rw [edgesTo_step]; have := ih (by omega); omega
theorem owned_le (o : List Int) : owned o ≤ o.length := List.countP_le_length
theorem owned_take {o : List Int} {k : Nat} (h : k < o.length) : owned (o.take (k + 1)) = owned (o.take k) + if 0 ≤ o.getD k 0 then 1 else 0 := by
  unfold owned
  rw [List.take_add_one, List.countP_append]
  have : o[k]? = some (o.getD k 0) := by rw [List.getD_eq_getElem?_getD, List.getElem?_eq_getElem h]; rfl
  rw [this]
  simp [List.countP_cons]
abbrev seenT (seen : Nat → Bool) : List (List VV) := (List.range 258).map fun k => [VV.bool (seen k)]
theorem seenT_ops {H : Hp} {b : Nat} {seen : Nat → Bool} (h : H[b]? = some (.row 4 .own (seenT seen))) {k : Nat} (hk : k < 258) :
    ixp H ⟨b, 0, 0⟩ k 1 = some ⟨b, k, 0⟩ ∧ ld H ⟨b, k, 0⟩ = some (.bool (seen k)) ∧ stc H ⟨b, k, 0⟩ [.bool true] = some (H.set b (.row 4 .own (seenT fun z => if z = k then true else seen z))) := by
  refine ⟨?_, by simp [ld, h, hk], ?_⟩
  · have e : seenT seen = [VV.bool (seen 0)] :: ((List.range 257).map fun k => [VV.bool (seen (k + 1))]) := by
      show (List.range (257 + 1)).map _ = _
      rw [List.range_succ_eq_map, List.map_cons, List.map_map]; rfl
    rw [e] at h
    simp [ixp, eszOf, h, padd]
  · have he : (seenT seen)[k]? = some [VV.bool (seen k)] := by simp [hk]
    have hup : ((seenT seen).set k [.bool true]) = seenT fun z => if z = k then true else seen z := by
      apply List.ext_getElem?
      intro z
      by_cases e : k = z
      · subst e
        rw [List.getElem?_set_self (by simpa using hk)]
        simp [hk]
      · rw [List.getElem?_set_ne e]
        have : z ≠ k := fun h => e h.symm
        by_cases hz : z < 258
        · simp [hz, this]
        · simp [hz]
    simp only [stc, h, he]
    rw [if_neg (by decide), if_pos (by simp [okCells, VV.cell])]
    simp only [upd, List.set_cons_zero, hup]

section
variable {H : Hp} {p : Option PA} {vs : List VV} {rows : List Edges} {c : Nat}
theorem packFits_fn (h : Sl H p 1 (vs.map fun v => [v])) (hr : RowV H vs rows) (hn : rows.length ≤ 1000000000000) (hl : ∀ k, k < rows.length → (rows.getD k []).length ≤ 1000000000000)
    (hw : ∀ r ∈ rows, ∀ e ∈ r, -9223372036854775808 ≤ e.1 ∧ e.1 ≤ 9223372036854775807 ∧ -9223372036854775808 ≤ e.2 ∧ e.2 ≤ 9223372036854775807) :
    FnV Try.prog 5 [.sl p rows.length c] H fun r _ => r = .bool true := by
  refine FnV.enterRow ok5 (by show 1 ≤ 289; decide) fun B => ?_
  dsimp only [w5]
  have hmx : maxLen = 9223372036854775807 := rfl
  have hlm : ∀ j, (layL rows j).length ≤ maxLen := fun j => by have := layL_len rows j; omega
  refine VW.seq (VW.reg ?_)
  refine VOps.rd rfl rfl ?_
  refine VOps.nil ⟨rfl, ?_⟩
  refine VW.seq (VW.reg ?_)
  refine VOps.rd rfl rfl ?_
  refine VOps.call rfl rfl rfl ((lent9 (c := c) h hr hn hl).mono ?_)
  rintro r H1 ⟨hx1, io, ws, rfl, hg1, hl1⟩
  have hws := growV_sl hg1
  have hrw := hl1.rowV (fun k hk => by have := hl k hk; omega)
  refine VOps.call rfl rfl rfl ((lay10 (c := rows.length) hws hrw (by omega)).mono ?_)
  rintro r H2 hlr
  obtain ⟨o, hres, rfl⟩ := lay_res (by decide) hlr
  clear hlr
  refine VOps.rd rfl rfl ?_
  refine VOps.rd rfl rfl ?_
  refine VOps.rd rfl rfl ?_
  refine VOps.ef (v := .ptr (some ⟨H2.length, 0, 0⟩)) (H' := H2 ++ [.row 26 .own [[.sl none 0 0, .sl none 0 0, .sl none 0 0]]]) rfl (by simp) ?_
  refine VOps.ef (v := .undef) (H' := H2 ++ [.row 26 .own [resA o rows]]) rfl (by simp [stc, okCells, VV.cell, upd]) ?_
  refine VOps.rd rfl rfl ?_
  refine VOps.nil ⟨rfl, ?_⟩
  show VW _ _ _ _ [(0, .sl p rows.length c), (3, .ptr (some ⟨H2.length, 0, 0⟩)), (4, .int .i64 (errS rows))] _ _
  have hx3 : Ext H2 (H2 ++ [.row 26 .own [resA o rows]]) := .app _ _
  have hb3 : (H2 ++ [Blk.row 26 .own [resA o rows]])[H2.length]? = some (.row 26 .own [resA o rows]) := by simp
  have hxa : Ext H (H2 ++ [.row 26 .own [resA o rows]]) := (hx1.trans hres.ext).trans hx3
  have hsl : ∀ j, j < 3 → Sl (H2 ++ [.row 26 .own [resA o rows]]) (gptr (o j)) 1 (intEs (layL rows j)) := fun j hj => hx3.sl (hres.sl j hj)
  generalize H2 ++ [.row 26 .own [resA o rows]] = H3 at *
  generalize hi3 : H2.length = i3 at *
  clear hws hrw hg1 hl1 hx1
  have hresd : ∀ {H' : Hp}, Ext H3 H' → ld H' ⟨i3, 0, 0⟩ = some (.sl (gptr (o 0)) (layL rows 0).length (layL rows 0).length) ∧ ld H' ⟨i3, 0, 1⟩ = some (.sl (gptr (o 1)) (layL rows 1).length (layL rows 1).length) ∧ ld H' ⟨i3, 0, 2⟩ = some (.sl (gptr (o 2)) (layL rows 2).length (layL rows 2).length) ∧ lds H' ⟨i3, 0, 0⟩ 3 = some (resA o rows) := fun hx => by
    have hb := hx.get hb3
    exact ⟨by simp [ld, hb], by simp [ld, hb], by simp [ld, hb], by simp [lds, hb]⟩
  by_cases hok : layOk rows = true
  case neg =>
    have he : errS rows = 1 := by unfold errS; rw [if_neg hok]
    have hll : ∀ j, (layL rows j).length = 0 := fun j => by unfold layL; rw [if_neg hok]; rfl
    obtain ⟨d0, d1, d2, _⟩ := hresd (.refl H3)
    rw [hll] at d0 d1 d2
    rw [he]
    have v0 : IntKind.i64.wrap 0 = 0 := by decide
    refine VW.seq (VW.seq (VW.reg ?_))
    refine VOps.rd rfl rfl ?_
    refine VOps.rd rfl rfl ?_
    refine VOps.nil ⟨rfl, VW.condT rfl ?_⟩
    refine VW.seq (VW.reg ?_)
    refine VOps.rd rfl rfl ?_
    refine VOps.rd (v := .bool true) rfl rfl ?_
    refine VOps.rd rfl rfl ?_
    refine VOps.rd rfl rfl ?_
    refine VOps.rd rfl (by simp [d0]; rfl) ?_
    refine VOps.rd rfl rfl ?_
    refine VOps.rd rfl rfl ?_
    refine VOps.rd rfl (by simp [d1]; rfl) ?_
    refine VOps.rd rfl rfl ?_
    refine VOps.rd (v := .int .i64 0) rfl (by simp [v0]) ?_
    refine VOps.rd rfl rfl ?_
    refine VOps.rd rfl (by simp [d2]; rfl) ?_
    refine VOps.rd rfl rfl ?_
    refine VOps.rd (v := .int .i64 0) rfl (by simp [v0]) ?_
    refine VOps.rd (v := .bool true) rfl rfl ?_
    refine VOps.rd (v := .bool true) rfl rfl ?_
    refine VOps.rd rfl rfl ?_
    refine VOps.call rfl rfl rfl ((awake_fn _).mono ?_)
    rintro r Hy ⟨rfl, rfl⟩
    refine VOps.rd (v := .bool true) rfl rfl ?_
    refine VOps.rd rfl rfl ?_
    exact VOps.nil ⟨rfl, VW.ret ⟨.inl rfl, .bool true, rfl, rfl⟩⟩
  have he : errS rows = 0 := by unfold errS; rw [if_pos hok]
  have hall : rows.all isRowS = true := by unfold layOk at hok; simp only [Bool.and_eq_true] at hok; exact hok.2
  obtain ⟨n1, n2, n3, n4⟩ := layR_len hok
  have hL0 : layL rows 0 = (layR rows).bs := by unfold layL; simp only [hok, if_true]
  have hL1 : layL rows 1 = (layR rows).v := by unfold layL; simp only [hok, if_true]
  have hL2 : layL rows 2 = (layR rows).o := by unfold layL; simp only [hok, if_true]
  have inv := inv_lay hall
  have hrl := rows_len hall
  have s0 := hsl 0 (by omega)
  have s1 := hsl 1 (by omega)
  have s2 := hsl 2 (by omega)
  clear hsl
  unfold resA at hresd
  rw [hL0] at s0
  rw [hL1] at s1
  rw [hL2] at s2
  rw [hL0, hL1, hL2] at hresd
  have hat : ∀ {H' : Hp}, Ext H3 H' → ∀ row place, FnV Try.prog 16 [.agg [.sl (gptr (o 0)) (layR rows).bs.length (layR rows).bs.length, .sl (gptr (o 1)) (layR rows).v.length (layR rows).v.length, .sl (gptr (o 2)) (layR rows).o.length (layR rows).o.length], .int .i64 row, .int .i64 place] H'
      fun r H2 => r = .tup [.int .i64 (atS (layR rows).bs (layR rows).v (layR rows).o row place).1, .bool (atS (layR rows).bs (layR rows).v (layR rows).o row place).2] ∧ H2 = H' :=
    fun hx row place => FnV.tidy rfl (at16 (hx.sl s0) (hx.sl s1) (hx.sl s2) (by omega) (by omega))
  rw [he]
  refine VW.seq (VW.seq (VW.reg ?_))
  refine VOps.rd rfl rfl ?_
  refine VOps.rd rfl rfl ?_
  refine VOps.nil ⟨rfl, VW.condF rfl (VW.skip ?_)⟩
  refine VW.sub (G := [(0, .sl p rows.length c), (3, .ptr (some ⟨i3, 0, 0⟩))]) (by simp [Cov, Fr.only]) ?_
  generalize hbs : (layR rows).bs = bs at *
  generalize hov : (layR rows).v = v at *
  generalize hoo : (layR rows).o = ow at *
  obtain ⟨d0, d1, d2, d3⟩ := hresd (.refl H3)
  -- the lengths, and the last one
  refine VW.seq (VW.seq ?_)
  refine VW.mono (Q := fun e F2 Hx => e = .normal ∧ Cov [(0, .sl p rows.length c), (3, .ptr (some ⟨i3, 0, 0⟩)), (81, .bool false)] F2 ∧ Hx = H3) ?_ ?_
  · refine VW.reg ?_
    refine VOps.rd rfl rfl ?_
    refine VOps.rd rfl (by simp [d0]; rfl) ?_
    refine VOps.rd rfl rfl ?_
    refine VOps.rd rfl rfl ?_
    refine VOps.rd rfl rfl ?_
    refine VOps.rd (v := .bool false) rfl (by simp [n3]) ?_
    refine VOps.rd rfl rfl ?_
    refine VOps.rd rfl rfl ?_
    refine VOps.rd rfl (by simp [d1]; rfl) ?_
    refine VOps.rd rfl rfl ?_
    refine VOps.rd rfl rfl ?_
    refine VOps.rd rfl (by simp [d2]; rfl) ?_
    refine VOps.rd rfl rfl ?_
    refine VOps.rd (v := .bool false) rfl (by simp [n1]) ?_
    refine VOps.rd (v := .bool false) rfl rfl ?_
    refine VOps.rd rfl rfl ?_
    refine VOps.rd rfl rfl ?_
    refine VOps.rd rfl (by simp [d2]; rfl) ?_
    refine VOps.rd rfl rfl ?_
    by_cases hz : ow.length = 0
    · refine VOps.rd (v := .bool false) rfl (by simp [hz]) ?_
      repeat first
        | (apply VOps.rd; (focus (first | exact rfl | (simp [Fr.only, argsF, *]; done))); (focus (exact rfl)))
        | (apply VOps.sk; (focus (simp [Fr.only, argsF, *]; done)))
        | (apply VOps.rd; (focus (first | exact rfl | (simp [Fr.only, argsF, *]; done))); (focus (simp [Fr.only, argsF, *]; first | done | exact rfl)))
      exact VOps.nil ⟨rfl, rfl, by simp [Cov, Fr.only], rfl⟩
    · have hlast := inv.last
      rw [hoo] at hlast
      replace hlast := hlast (fun e => hz (by rw [e]; rfl))
      obtain ⟨q, e0, e1, e2⟩ := sl_int s2 (k := ow.length - 1) (by omega)
      have e3 : ow.getD (ow.length - 1) 0 = ow.getD (ow.length - 1) (-1) := by
        rw [List.getD_eq_getElem?_getD, List.getD_eq_getElem?_getD, List.getElem?_eq_getElem (by omega)]; rfl
      rw [e3] at e2
      generalize ow.getD (ow.length - 1) (-1) = w at *
      rw [e0] at d2
      have hv := wrap_id (x := (ow.length : Int) - 1) (by omega) (by omega)
      have hv2 : ((ow.length : Int) - 1).toNat = ow.length - 1 := by omega
      refine VOps.rd (v := .bool true) rfl (by simp; omega) ?_
      refine VOps.rd rfl rfl ?_
      refine VOps.rd rfl rfl ?_
      refine VOps.rd (v := .sl (some q) ow.length ow.length) rfl (by simp [d2]) ?_
      refine VOps.rd rfl rfl ?_
      refine VOps.rd (v := .sl (some q) ow.length ow.length) rfl (by simp [d2]) ?_
      refine VOps.rd rfl rfl ?_
      refine VOps.rd (v := .int .i64 ((ow.length : Int) - 1)) rfl (by simp [hv]) ?_
      refine VOps.rd (v := .ptr (some (elp (some q) (ow.length - 1)))) rfl (by simp [hv2, e1]; omega) ?_
      refine VOps.rd (v := .int .i64 w) rfl (by simp [e2]) ?_
      refine VOps.rd (v := .bool false) rfl (by simp; omega) ?_
      refine VOps.rd (v := .bool false) rfl rfl ?_
      refine VOps.rd (v := .bool false) rfl rfl ?_
      exact VOps.nil ⟨rfl, rfl, by simp [Cov, Fr.only], rfl⟩
  rintro e F2 Hx ⟨rfl, hcov, rfl⟩
  refine VW.condF (hcov.get _ _ rfl) (VW.skip ?_)
  refine VW.sub (G := [(0, .sl p rows.length c), (3, .ptr (some ⟨i3, 0, 0⟩))]) ⟨hcov.get _ _ rfl, hcov.get _ _ rfl, trivial⟩ ?_
  clear hcov d0 d1 d2 d3
  refine VW.seq (VW.reg ?_)
  refine VOps.rd rfl rfl ?_
  refine VOps.nil ⟨rfl, ?_⟩
  refine VW.seq (VW.seq (VW.reg ?_))
  refine VOps.rd rfl rfl ?_
  refine VOps.nil ⟨rfl, ?_⟩
  show VW _ _ _ _ [(0, .sl p rows.length c), (3, .ptr (some ⟨i3, 0, 0⟩)), (5, .int .i64 0), (6, .int .i64 0)] _ _
  have rowA : ∀ {k : Nat}, k < rows.length → ∃ q pk ck, p = some q ∧ (∀ {H' : Hp}, Ext Hx H' → Vm.ixp H' q k 1 = some (elp (some q) k) ∧ Vm.ld H' (elp (some q) k) = some (.sl pk (rows.getD k []).length ck) ∧ Sl H' pk 2 (edgeEs (rows.getD k []))) := by
    intro k hk
    obtain ⟨q, pk, ck, rfl, r1, r2, r3, r4⟩ := row_at (hxa.sl h) (hr.ext hxa) hk
    exact ⟨q, pk, ck, rfl, fun hx => ⟨ext_ixp hx r1, ext_ld hx r2, hx.sl r3⟩⟩
  -- each row: its edges, and nothing else
  refine VW.mono (Q := fun e F2 H' => e = .normal ∧ Cov [(0, .sl p rows.length c), (3, .ptr (some ⟨i3, 0, 0⟩)), (5, .int .i64 (edgesTo rows rows.length))] F2 ∧ Ext Hx H') ?_ ?_
  · refine VW.block ?_
    refine VW.loop (fun m F' H' => ∃ i : Nat, i ≤ rows.length ∧ m = rows.length - i ∧ F' = [(0, .sl p rows.length c), (3, .ptr (some ⟨i3, 0, 0⟩)), (5, .int .i64 (edgesTo rows i)), (6, .int .i64 i)] ∧ Ext Hx H') rows.length
      ⟨0, by omega, rfl, rfl, .refl _⟩ ?_
    rintro m F' H4 ⟨i, hi, rfl, rfl, hx4⟩
    by_cases hin : i < rows.length
    · obtain ⟨q, pk, ck, rfl, rA⟩ := rowA hin
      have hlk := hl i hin
      have hok2 := rows_ok hall i
      have hwl : ∀ e ∈ rows.getD i [], -9223372036854775808 ≤ e.2 ∧ e.2 ≤ 9223372036854775807 := fun e he2 => by
        have hm : rows.getD i [] ∈ rows := by rw [List.getD_eq_getElem?_getD, List.getElem?_eq_getElem hin]; exact List.getElem_mem ..
        have := hw _ hm e he2; omega
      have hnd : Nd (rows.getD i []) := by
        rw [List.getD_eq_getElem?_getD, List.getElem?_eq_getElem hin]
        exact isRow_nd (List.all_eq_true.1 hall _ (List.getElem_mem ..))
      have hatE : ∀ e ∈ rows.getD i [], atS bs v ow i e.1 = (e.2, true) := fun e he2 => by rw [← hbs, ← hov, ← hoo]; exact at_edge hall hin he2
      have hatN : ∀ x, (∀ e ∈ rows.getD i [], e.1 ≠ x) → atS bs v ow i x = (0, false) := fun x hx => by rw [← hbs, ← hov, ← hoo]; exact at_none hall hin hx
      have hes := edgesTo_step rows i
      have hem : edgesTo rows i ≤ 1000000 := by
        have h1 := edgesTo_mono (rows := rows) (show i ≤ rows.length by omega)
        have h2 := owned_lay hall
        rw [hoo] at h2
        have := owned_le ow
        omega
      have hlen : rowLen rows i = (rows.getD i []).length := rfl
      have hlen2 := hrl i
      generalize hlrow : rows.getD i [] = l at *
      have hi0 : (0 : Int) ≤ i := by omega
      have hi1 : (i : Int) < rows.length := by omega
      have hi2 : ((i : Int)).toNat = i := by omega
      have hvi := wrap_id (x := (i : Int) + 1) (by omega) (by omega)
      refine VW.seq (VW.seq (VW.reg ?_))
      refine VOps.rd rfl rfl ?_
      refine VOps.rd rfl rfl ?_
      refine VOps.rd rfl rfl ?_
      refine VOps.rd rfl rfl ?_
      refine VOps.nil ⟨rfl, VW.condT (by simp [Fr.only, hin]) (VW.skip ?_)⟩
      have hrep : List.replicate 258 [VV.bool false] = seenT fun _ => false := by kernel_rfl
      refine VW.seq (VW.block (VW.seq (VW.reg ?_)))
      refine VOps.ef (v := .sl (some ⟨H4.length, 0, 0⟩) 258 258) (H' := H4 ++ [.row 4 .own (seenT fun _ => false)]) rfl (by simp [hrep]) ?_
      refine VOps.rd rfl rfl ?_
      refine VOps.nil ⟨rfl, ?_⟩
      have hh : (H4 ++ [Blk.row 4 .own (seenT fun _ => false)])[H4.length]? = some (.row 4 .own (seenT fun _ => false)) := by simp
      have hx5 := hx4.push [.row 4 .own (seenT fun _ => false)]
      have hge := hx4.1
      clear hrep
      generalize H4 ++ [.row 4 .own (seenT fun _ => false)] = H5 at *
      generalize H4.length = ih at *
      refine VW.seq (VW.seq (VW.reg ?_))
      refine VOps.rd rfl rfl ?_
      refine VOps.nil ⟨rfl, ?_⟩
      show VW _ _ _ _ [(0, .sl (some q) rows.length c), (3, .ptr (some ⟨i3, 0, 0⟩)), (5, .int .i64 (edgesTo rows i)), (6, .int .i64 i), (7, .sl (some ⟨ih, 0, 0⟩) 258 258), (8, .int .i64 0)] _ _
      refine VW.mono (Q := fun e F2 H' => e = .normal ∧ Cov [(0, .sl (some q) rows.length c), (3, .ptr (some ⟨i3, 0, 0⟩)), (5, .int .i64 (edgesTo rows (i + 1))), (6, .int .i64 i), (7, .sl (some ⟨ih, 0, 0⟩) 258 258)] F2 ∧ Ext Hx H' ∧
        ∃ seen, H'[ih]? = some (.row 4 .own (seenT seen)) ∧ ∀ z, seen z = true ↔ ∃ e ∈ l, e.1.toNat = z) ?_ ?_
      · refine VW.block ?_
        refine VW.loop (fun m F' H' => ∃ (k : Nat) (seen : Nat → Bool), k ≤ l.length ∧ m = l.length - k ∧ F' = [(0, .sl (some q) rows.length c), (3, .ptr (some ⟨i3, 0, 0⟩)), (5, .int .i64 (edgesTo rows i + k)), (6, .int .i64 i), (7, .sl (some ⟨ih, 0, 0⟩) 258 258), (8, .int .i64 k)] ∧ Ext Hx H' ∧
            H'[ih]? = some (.row 4 .own (seenT seen)) ∧ ∀ z, seen z = true ↔ ∃ e ∈ l.take k, e.1.toNat = z) l.length
          ⟨0, _, by omega, rfl, by simp, hx5, hh, fun z => by simp⟩ ?_
        clear hh hx5 hx4
        rintro m F' H6 ⟨k, seen, hk, rfl, rfl, hx6, hh, hseen⟩
        obtain ⟨r1, r2, r3⟩ := rA hx6
        by_cases hkl : k < l.length
        · have hmem : l.getD k (0, 0) ∈ l := by rw [List.getD_eq_getElem?_getD, List.getElem?_eq_getElem hkl]; exact List.getElem_mem ..
          obtain ⟨z0, z1⟩ := hok2 _ hmem
          have z2 := hatE _ hmem
          have z3 := hwl _ hmem
          have hfresh : seen (l.getD k (0, 0)).1.toNat = false := by
            rw [← Bool.not_eq_true, hseen]
            rintro ⟨e, he2, he3⟩
            have hs : l = l.take k ++ l.drop k := (List.take_append_drop k l).symm
            have hp : Nd (l.take k ++ l.drop k) := hs ▸ hnd
            have := (List.pairwise_append.1 hp).2.2 e he2 (l.getD k (0, 0)) (by
              rw [List.drop_eq_getElem_cons hkl, List.getD_eq_getElem?_getD, List.getElem?_eq_getElem hkl]; exact List.mem_cons_self ..)
            have := hok2 e (List.mem_of_mem_take he2)
            omega
          have htake : ∀ z, (if z = (l.getD k (0, 0)).1.toNat then true else seen z) = true ↔ ∃ e ∈ l.take (k + 1), e.1.toNat = z := by
            intro z
            rw [List.take_add_one, show l[k]? = some (l.getD k (0, 0)) by rw [List.getD_eq_getElem?_getD, List.getElem?_eq_getElem hkl]; rfl]
            simp only [Option.toList, List.mem_append, List.mem_singleton]
            by_cases e : z = (l.getD k (0, 0)).1.toNat
            · rw [if_pos e]; simp only [true_iff]; exact ⟨_, .inr rfl, e.symm⟩
            · rw [if_neg e, hseen]
              constructor
              · rintro ⟨f, h1, h2⟩; exact ⟨f, .inl h1, h2⟩
              · rintro ⟨f, h1 | h1, h2⟩
                · exact ⟨f, h1, h2⟩
                · rw [h1] at h2; exact absurd h2.symm e
          obtain ⟨qe, rfl, e1, e2, e3, e4⟩ := sl_edge r3 (k := k) hkl
          generalize l.getD k (0, 0) = ed at *
          obtain ⟨sy, to⟩ := ed
          simp only at *
          have hk0 : (0 : Int) ≤ k := by omega
          have hk1 : (k : Int) < l.length := by omega
          have hk2 : ((k : Int)).toNat = k := by omega
          have hvk := wrap_id (x := (k : Int) + 1) (by omega) (by omega)
          have hve := wrap_id (x := (edgesTo rows i : Int) + k + 1) (by omega) (by omega)
          have hs2 := stc_last2 (H := H6) (t := 42) (md := .own) (by decide) (a := .int .i64 0) (b := .int .i64 0) (c := .int .i64 sy) (d := .int .i64 to) rfl rfl
          refine VW.seq (VW.seq (VW.reg ?_))
          refine VOps.rd rfl rfl ?_
          refine VOps.rd rfl rfl ?_
          refine VOps.rd rfl rfl ?_
          refine VOps.rd (v := .ptr (some (elp (some q) i))) rfl (by simp [r1, hin]) ?_
          refine VOps.rd (v := .sl (some qe) l.length ck) rfl (by simp [r2]) ?_
          refine VOps.rd rfl rfl ?_
          refine VOps.rd rfl rfl ?_
          refine VOps.nil ⟨rfl, VW.condT (by simp [Fr.only, hkl]) (VW.skip ?_)⟩
          refine VW.seq (VW.block (VW.seq (VW.reg ?_)))
          refine VOps.rd rfl rfl ?_
          refine VOps.rd rfl rfl ?_
          refine VOps.rd (v := .ptr (some (elp (some q) i))) rfl (by simp [Fr.only, r1, hin]) ?_
          refine VOps.rd (v := .sl (some qe) l.length ck) rfl (by simp [r2]) ?_
          refine VOps.rd rfl rfl ?_
          refine VOps.rd (v := .ptr (some (elp (some qe) k))) rfl (by simp [Fr.only, e1, hkl]) ?_
          refine VOps.rd (v := .agg [.int .i64 sy, .int .i64 to]) rfl (by simp [e3]) ?_
          refine VOps.ef (v := .ptr (some ⟨H6.length, 0, 0⟩)) (H' := H6 ++ [.row 42 .own [[.int .i64 0, .int .i64 0]]]) rfl (by simp) ?_
          refine VOps.ef (v := .undef) (H' := H6 ++ [.row 42 .own [[.int .i64 sy, .int .i64 to]]]) rfl (by simp [hs2]) ?_
          refine VOps.nil ⟨rfl, ?_⟩
          show VW _ _ _ _ [(0, .sl (some q) rows.length c), (3, .ptr (some ⟨i3, 0, 0⟩)), (5, .int .i64 (edgesTo rows i + k)), (6, .int .i64 i), (7, .sl (some ⟨ih, 0, 0⟩) 258 258), (8, .int .i64 k), (9, .ptr (some ⟨H6.length, 0, 0⟩))] _ _
          clear e1 e2 e3 e4 hs2 r1 r2 r3
          have hbx := List.getElem?_concat_length (l := H6) (a := Blk.row 42 .own [[VV.int .i64 sy, VV.int .i64 to]])
          have hx7 := hx6.push [.row 42 .own [[VV.int .i64 sy, VV.int .i64 to]]]
          have hh7 := get_push hh [.row 42 .own [[VV.int .i64 sy, VV.int .i64 to]]]
          have hihlt := get_lt hh
          have hixge : H6.length ≠ ih := by omega
          generalize H6 ++ [.row 42 .own [[VV.int .i64 sy, VV.int .i64 to]]] = H7 at *
          generalize H6.length = ix at *
          have x0 := ld_own hbx 0
          have x1 := ld_own hbx 1
          simp only [List.getElem?_cons_zero, List.getElem?_cons_succ] at x0 x1
          obtain ⟨t1, t2, t3⟩ := seenT_ops hh7 (k := sy.toNat) (by omega)
          rw [hfresh] at t2
          refine VW.seq (VW.seq ?_)
          refine VW.mono (Q := fun e F2 H' => e = .normal ∧ Cov [(0, .sl (some q) rows.length c), (3, .ptr (some ⟨i3, 0, 0⟩)), (5, .int .i64 (edgesTo rows i + k)), (6, .int .i64 i), (7, .sl (some ⟨ih, 0, 0⟩) 258 258), (8, .int .i64 k), (9, .ptr (some ⟨ix, 0, 0⟩)), (119, .bool false)] F2 ∧ H' = H7) ?_ ?_
          · refine VW.reg ?_
            refine VOps.rd rfl rfl ?_
            refine VOps.rd (v := .int .i64 sy) rfl (by simp [x0]) ?_
            refine VOps.rd (v := .bool false) rfl (by simp; omega) ?_
            refine VOps.rd rfl rfl ?_
            refine VOps.rd rfl rfl ?_
            refine VOps.rd (v := .int .i64 sy) rfl (by simp [x0]) ?_
            refine VOps.rd (v := .bool false) rfl (by simp; omega) ?_
            refine VOps.rd (v := .bool false) rfl rfl ?_
            refine VOps.rd rfl rfl ?_
            refine VOps.rd rfl rfl ?_
            refine VOps.rd rfl rfl ?_
            refine VOps.rd (v := .int .i64 sy) rfl (by simp [x0]) ?_
            refine VOps.rd (v := .ptr (some ⟨ih, sy.toNat, 0⟩)) rfl (by simp [t1, z0]; omega) ?_
            refine VOps.rd (v := .bool false) rfl (by simp [t2]) ?_
            refine VOps.rd (v := .bool false) rfl rfl ?_
            exact VOps.nil ⟨rfl, rfl, by simp [Cov, Fr.only], rfl⟩
          rintro e F2 H8 ⟨rfl, hcov, rfl⟩
          refine VW.condF (hcov.get _ _ rfl) (VW.skip ?_)
          refine VW.sub hcov ?_
          clear hcov
          refine VW.seq (VW.reg ?_)
          refine VOps.rd rfl rfl ?_
          refine VOps.rd rfl rfl ?_
          refine VOps.rd (v := .int .i64 sy) rfl (by simp [x0]) ?_
          refine VOps.rd (v := .ptr (some ⟨ih, sy.toNat, 0⟩)) rfl (by simp [t1, z0]; omega) ?_
          refine VOps.ef (v := .undef) rfl (by simp; rw [t3]) ?_
          refine VOps.nil ⟨rfl, ?_⟩
          have hx9 := hx7.set (i := ih) (by omega) (.row 4 .own (seenT fun z => if z = sy.toNat then true else seen z))
          have hh9 : (H8.set ih (.row 4 .own (seenT fun z => if z = sy.toNat then true else seen z)))[ih]? = some (.row 4 .own (seenT fun z => if z = sy.toNat then true else seen z)) := List.getElem?_set_self (get_lt hh7)
          have hbx9 : (H8.set ih (.row 4 .own (seenT fun z => if z = sy.toNat then true else seen z)))[ix]? = some (.row 42 .own [[VV.int .i64 sy, VV.int .i64 to]]) := get_ne hbx (Ne.symm hixge)
          generalize H8.set ih (.row 4 .own (seenT fun z => if z = sy.toNat then true else seen z)) = H9 at *
          clear x0 x1
          have x0 := ld_own hbx9 0
          have x1 := ld_own hbx9 1
          simp only [List.getElem?_cons_zero, List.getElem?_cons_succ] at x0 x1
          obtain ⟨_, _, _, d3⟩ := hresd hx9
          have hcall := hat hx9 i sy
          rw [z2] at hcall
          refine VW.seq (VW.reg ?_)
          refine VOps.rd rfl rfl ?_
          refine VOps.rd (v := .int .i64 (edgesTo rows i + k + 1)) rfl (by simp [Fr.only, hve]) ?_
          refine VOps.rd rfl rfl ?_
          refine VOps.nil ⟨rfl, ?_⟩
          show VW _ _ _ _ [(0, .sl (some q) rows.length c), (3, .ptr (some ⟨i3, 0, 0⟩)), (5, .int .i64 (edgesTo rows i + k + 1)), (6, .int .i64 i), (7, .sl (some ⟨ih, 0, 0⟩) 258 258), (8, .int .i64 k), (9, .ptr (some ⟨ix, 0, 0⟩))] _ _
          refine VW.seq (VW.reg ?_)
          refine VOps.rd rfl (by simp [d3]; rfl) ?_
          refine VOps.rd rfl rfl ?_
          refine VOps.rd rfl rfl ?_
          refine VOps.rd (v := .int .i64 sy) rfl (by simp [x0]) ?_
          refine VOps.call rfl rfl rfl (hcall.mono ?_)
          rintro r Hy ⟨rfl, rfl⟩
          refine VOps.rd rfl rfl ?_
          refine VOps.rd (v := .int .i64 to) rfl rfl ?_
          refine VOps.rd (v := .bool true) rfl rfl ?_
          refine VOps.rd rfl rfl ?_
          refine VOps.rd rfl rfl ?_
          refine VOps.nil ⟨rfl, ?_⟩
          refine VW.seq (VW.reg ?_)
          refine VOps.rd rfl rfl ?_
          refine VOps.rd (v := .bool false) rfl rfl ?_
          refine VOps.rd rfl rfl ?_
          refine VOps.rd rfl rfl ?_
          refine VOps.rd rfl rfl ?_
          refine VOps.rd (v := .int .i64 to) rfl (by simp [Fr.only, x1]) ?_
          refine VOps.rd (v := .bool false) rfl (by simp [Fr.only]) ?_
          refine VOps.rd (v := .bool false) rfl rfl ?_
          refine VOps.nil ⟨rfl, VW.condF rfl (VW.skip ?_)⟩
          refine VW.reg ?_
          refine VOps.rd rfl rfl ?_
          refine VOps.rd rfl rfl ?_
          refine VOps.rd rfl rfl ?_
          refine VOps.nil ⟨rfl, l.length - (k + 1), by omega, k + 1, _, by omega, rfl, ?_, hx9, hh9, htake⟩
          simp [Fr.only, hvk]
          omega
        · have : k = l.length := by omega
          subst this
          refine VW.seq (VW.seq (VW.reg ?_))
          refine VOps.rd rfl rfl ?_
          refine VOps.rd rfl rfl ?_
          refine VOps.rd rfl rfl ?_
          refine VOps.rd (v := .ptr (some (elp (some q) i))) rfl (by simp [r1, hin]) ?_
          refine VOps.rd (v := .sl pk l.length ck) rfl (by simp [r2]) ?_
          refine VOps.rd rfl rfl ?_
          refine VOps.rd rfl rfl ?_
          refine VOps.nil ⟨rfl, VW.condF (by simp [Fr.only]) (VW.exit ?_)⟩
          simp only [then_normal, then_ret, then_exit, inB_normal, inB_ret, inB_exit, reduceIte, Nat.reduceEqDiff]
          rw [List.take_length] at hseen
          refine ⟨trivial, ?_, hx6, seen, hh, hseen⟩
          rw [hes, hlen]
          simp [Cov, Fr.only]
      rintro e F2 H6 ⟨rfl, hcov, hx6, seen, hh6, hseen⟩
      refine VW.sub hcov ?_
      clear hcov hh hx5 hx4
      refine VW.seq (VW.reg ?_)
      refine VOps.rd rfl rfl ?_
      refine VOps.nil ⟨rfl, ?_⟩
      show VW _ _ _ _ [(0, .sl (some q) rows.length c), (3, .ptr (some ⟨i3, 0, 0⟩)), (5, .int .i64 (edgesTo rows (i + 1))), (6, .int .i64 i), (7, .sl (some ⟨ih, 0, 0⟩) 258 258), (12, .int .i64 (-1))] _ _
      obtain ⟨_, _, _, d3⟩ := hresd hx6
      refine VW.block ?_
      refine VW.loop (fun m F' H' => ∃ x : Int, -1 ≤ x ∧ x ≤ 257 ∧ m = (257 - x).toNat ∧ F' = [(0, .sl (some q) rows.length c), (3, .ptr (some ⟨i3, 0, 0⟩)), (5, .int .i64 (edgesTo rows (i + 1))), (6, .int .i64 i), (7, .sl (some ⟨ih, 0, 0⟩) 258 258), (12, .int .i64 x)] ∧ H' = H6) 258
        ⟨-1, by omega, by omega, by omega, rfl, rfl⟩ ?_
      rintro m F' H7 ⟨x, hxa1, hxb1, rfl, rfl, rfl⟩
      have v257 : IntKind.i64.wrap (258 - 1) = 257 := by decide
      by_cases hxl : x < 257
      · have hvx := wrap_id (x := x + 1) (by omega) (by omega)
        refine VW.seq (VW.seq (VW.reg ?_))
        refine VOps.rd rfl rfl ?_
        refine VOps.rd rfl rfl ?_
        refine VOps.rd rfl rfl ?_
        refine VOps.rd (v := .int .i64 257) rfl rfl ?_
        refine VOps.rd rfl rfl ?_
        refine VOps.nil ⟨rfl, VW.condT (by simp [Fr.only, hxl]) (VW.skip ?_)⟩
        have leave : ∀ F, Cov [(0, .sl (some q) rows.length c), (3, .ptr (some ⟨i3, 0, 0⟩)), (5, .int .i64 (edgesTo rows (i + 1))), (6, .int .i64 i), (7, .sl (some ⟨ih, 0, 0⟩) 258 258), (12, .int .i64 x)] F →
            VW Try.prog B 289 (VC.reg [VI.rd 147 none (VOp.mv (Od.t 12)), VI.rd 148 none (VOp.bin (BinOp.add) (Od.t 147) (Od.c (VV.int (IntKind.i64) 1))), VI.rd 12 none (VOp.mv (Od.t 148))] [0, 3, 5, 6, 7, 12]) F H7
              (fun e F2 H' => e = .normal ∧ F2 = [(0, .sl (some q) rows.length c), (3, .ptr (some ⟨i3, 0, 0⟩)), (5, .int .i64 (edgesTo rows (i + 1))), (6, .int .i64 i), (7, .sl (some ⟨ih, 0, 0⟩) 258 258), (12, .int .i64 (x + 1))] ∧ H' = H7) := by
          intro F hc
          refine VW.sub hc (VW.reg ?_)
          refine VOps.rd rfl rfl ?_
          refine VOps.rd rfl rfl ?_
          refine VOps.rd rfl rfl ?_
          exact VOps.nil ⟨rfl, rfl, by simp [Fr.only, hvx], rfl⟩
        refine VW.seq ?_
        refine VW.mono (Q := fun e F2 H' => e = .normal ∧ Cov [(0, .sl (some q) rows.length c), (3, .ptr (some ⟨i3, 0, 0⟩)), (5, .int .i64 (edgesTo rows (i + 1))), (6, .int .i64 i), (7, .sl (some ⟨ih, 0, 0⟩) 258 258), (12, .int .i64 x)] F2 ∧ H' = H7) ?_ ?_
        · refine VW.block (VW.seq ?_)
          clear leave
          by_cases hsee : 0 ≤ x ∧ seen x.toNat = true
          · obtain ⟨t1, t2, _⟩ := seenT_ops hh6 (k := x.toNat) (by omega)
            rw [hsee.2] at t2
            refine VW.seq (VW.reg ?_)
            refine VOps.rd rfl rfl ?_
            refine VOps.rd (v := .bool true) rfl (by simp [Fr.only]; omega) ?_
            refine VOps.rd rfl rfl ?_
            refine VOps.rd rfl rfl ?_
            refine VOps.rd rfl rfl ?_
            refine VOps.rd (v := .ptr (some ⟨ih, x.toNat, 0⟩)) rfl (by simp [Fr.only, t1, hsee.1]; omega) ?_
            refine VOps.rd (v := .bool true) rfl (by simp [t2]) ?_
            refine VOps.rd (v := .bool true) rfl rfl ?_
            refine VOps.nil ⟨rfl, VW.condT rfl (VW.exit ?_)⟩
            simp only [then_normal, then_ret, then_exit, inB_normal, inB_ret, inB_exit, reduceIte, Nat.reduceEqDiff]
            exact ⟨trivial, by simp [Cov, Fr.only], trivial⟩
          · have hnone : atS bs v ow i x = (0, false) := hatN x fun e he2 e2 => by
              have := hok2 e he2
              exact hsee ⟨by omega, (hseen _).2 ⟨e, he2, by rw [e2]⟩⟩
            have hcall := hat hx6 i x
            rw [hnone] at hcall
            refine VW.mono (Q := fun e F2 H' => e = .normal ∧ Cov [(0, .sl (some q) rows.length c), (3, .ptr (some ⟨i3, 0, 0⟩)), (5, .int .i64 (edgesTo rows (i + 1))), (6, .int .i64 i), (7, .sl (some ⟨ih, 0, 0⟩) 258 258), (12, .int .i64 x)] F2 ∧ H' = H7) ?_ ?_
            · refine VW.seq (VW.reg ?_)
              refine VOps.rd rfl rfl ?_
              by_cases h0 : 0 ≤ x
              · obtain ⟨t1, t2, _⟩ := seenT_ops hh6 (k := x.toNat) (by omega)
                have hsf : seen x.toNat = false := by
                  cases hc : seen x.toNat with
                  | false => rfl
                  | true => exact absurd ⟨h0, hc⟩ hsee
                rw [hsf] at t2
                refine VOps.rd (v := .bool true) rfl (by simp [Fr.only]; omega) ?_
                refine VOps.rd rfl rfl ?_
                refine VOps.rd rfl rfl ?_
                refine VOps.rd rfl rfl ?_
                refine VOps.rd (v := .ptr (some ⟨ih, x.toNat, 0⟩)) rfl (by simp [Fr.only, t1, h0]; omega) ?_
                refine VOps.rd (v := .bool false) rfl (by simp [t2]) ?_
                refine VOps.rd (v := .bool false) rfl rfl ?_
                exact VOps.nil ⟨rfl, VW.condF rfl (VW.skip ⟨rfl, by simp [Cov, Fr.only], rfl⟩)⟩
              · refine VOps.rd (v := .bool false) rfl (by simp [Fr.only]; omega) ?_
                refine VOps.rd rfl rfl ?_
                refine VOps.sk rfl ?_
                refine VOps.sk rfl ?_
                refine VOps.sk rfl ?_
                refine VOps.sk rfl ?_
                refine VOps.rd (v := .bool false) rfl rfl ?_
                exact VOps.nil ⟨rfl, VW.condF rfl (VW.skip ⟨rfl, by simp [Cov, Fr.only], rfl⟩)⟩
            rintro e F2 H8 ⟨rfl, hcov, rfl⟩
            refine VW.sub hcov ?_
            refine VW.seq (VW.reg ?_)
            refine VOps.rd rfl (by simp [d3]; rfl) ?_
            refine VOps.rd rfl rfl ?_
            refine VOps.rd rfl rfl ?_
            refine VOps.call rfl rfl rfl (hcall.mono ?_)
            rintro r Hy ⟨rfl, rfl⟩
            refine VOps.rd rfl rfl ?_
            refine VOps.rd (v := .int .i64 0) rfl rfl ?_
            refine VOps.rd (v := .bool false) rfl rfl ?_
            refine VOps.rd rfl rfl ?_
            refine VOps.rd rfl rfl ?_
            refine VOps.nil ⟨rfl, ?_⟩
            refine VW.seq (VW.reg ?_)
            refine VOps.rd rfl rfl ?_
            refine VOps.rd rfl rfl ?_
            refine VOps.rd rfl rfl ?_
            refine VOps.rd (v := .bool false) rfl rfl ?_
            refine VOps.rd (v := .bool false) rfl rfl ?_
            exact VOps.nil ⟨rfl, VW.condF rfl (VW.skip ⟨rfl, by simp [Cov, Fr.only], rfl⟩)⟩
        rintro e F2 H8 ⟨rfl, hcov, rfl⟩
        refine (leave F2 hcov).mono ?_
        rintro e F3 H9 ⟨rfl, rfl, rfl⟩
        exact ⟨(257 - (x + 1)).toNat, by omega, x + 1, by omega, by omega, rfl, rfl, rfl⟩
      · have : x = 257 := by omega
        subst this
        refine VW.seq (VW.seq (VW.reg ?_))
        refine VOps.rd rfl rfl ?_
        refine VOps.rd rfl rfl ?_
        refine VOps.rd rfl rfl ?_
        refine VOps.rd (v := .int .i64 257) rfl rfl ?_
        refine VOps.rd rfl rfl ?_
        refine VOps.nil ⟨rfl, VW.condF (by simp [Fr.only]) (VW.exit ?_)⟩
        simp only [then_normal, then_ret, then_exit, inB_normal, inB_ret, inB_exit, reduceIte, Nat.reduceEqDiff]
        refine VW.reg ?_
        refine VOps.rd rfl rfl ?_
        refine VOps.rd rfl rfl ?_
        refine VOps.rd rfl rfl ?_
        refine VOps.nil ⟨rfl, rows.length - (i + 1), by omega, i + 1, by omega, rfl, ?_, hx6⟩
        simp [Fr.only, hvi]
    · have : i = rows.length := by omega
      subst this
      refine VW.seq (VW.seq (VW.reg ?_))
      refine VOps.rd rfl rfl ?_
      refine VOps.rd rfl rfl ?_
      refine VOps.rd rfl rfl ?_
      refine VOps.rd rfl rfl ?_
      refine VOps.nil ⟨rfl, VW.condF (by simp [Fr.only]) (VW.exit ?_)⟩
      simp only [then_normal, then_ret, then_exit, inB_normal, inB_ret, inB_exit, reduceIte, Nat.reduceEqDiff]
      exact ⟨trivial, by simp [Cov, Fr.only], hx4⟩
  rintro e F2 H4 ⟨rfl, hcov, hx4⟩
  refine VW.sub hcov ?_
  clear hcov
  refine VW.seq (VW.reg ?_)
  refine VOps.rd rfl rfl ?_
  refine VOps.nil ⟨rfl, ?_⟩
  refine VW.seq (VW.seq (VW.reg ?_))
  refine VOps.rd rfl rfl ?_
  refine VOps.nil ⟨rfl, ?_⟩
  show VW _ _ _ _ [(0, .sl p rows.length c), (3, .ptr (some ⟨i3, 0, 0⟩)), (5, .int .i64 (edgesTo rows rows.length)), (15, .int .i64 0), (16, .int .i64 0)] _ _
  obtain ⟨d0, d1, d2, d3⟩ := hresd hx4
  -- the owned places
  refine VW.mono (Q := fun e F2 H' => e = .normal ∧ Cov [(0, .sl p rows.length c), (3, .ptr (some ⟨i3, 0, 0⟩)), (5, .int .i64 (edgesTo rows rows.length)), (15, .int .i64 (owned ow))] F2 ∧ H' = H4) ?_ ?_
  · refine VW.block ?_
    refine VW.loop (fun m F' H' => ∃ k : Nat, k ≤ ow.length ∧ m = ow.length - k ∧ F' = [(0, .sl p rows.length c), (3, .ptr (some ⟨i3, 0, 0⟩)), (5, .int .i64 (edgesTo rows rows.length)), (15, .int .i64 (owned (ow.take k))), (16, .int .i64 k)] ∧ H' = H4) ow.length
      ⟨0, by omega, rfl, by simp [owned], rfl⟩ ?_
    rintro m F' H5 ⟨k, hk, rfl, rfl, rfl⟩
    by_cases hkl : k < ow.length
    · obtain ⟨qo, e0, e1, e2⟩ := sl_int (hx4.sl s2) (k := k) hkl
      obtain ⟨qv, f0, f1, f2⟩ := sl_int (hx4.sl s1) (k := k) (by omega)
      have hot := owned_take hkl
      have hle : owned (ow.take k) ≤ ow.length := Nat.le_trans (owned_le _) (by simp; omega)
      have ha := inv.all k
      rw [hoo, hov] at ha
      have e3 : ow.getD k 0 = ow.getD k (-1) := by
        rw [List.getD_eq_getElem?_getD, List.getD_eq_getElem?_getD, List.getElem?_eq_getElem hkl]; rfl
      rw [e3] at e2 hot
      rw [e0] at d2
      rw [f0] at d1
      generalize ow.getD k (-1) = w at *
      generalize v.getD k 0 = vv at *
      have hk1 : (k : Int) < ow.length := by omega
      have hk2 : (k : Int) < v.length := by omega
      have hvk := wrap_id (x := (k : Int) + 1) (by omega) (by omega)
      refine VW.seq (VW.seq (VW.reg ?_))
      refine VOps.rd rfl rfl ?_
      refine VOps.rd rfl rfl ?_
      refine VOps.rd (v := .sl (some qo) ow.length ow.length) rfl (by simp [d2]) ?_
      refine VOps.rd rfl rfl ?_
      refine VOps.rd rfl rfl ?_
      refine VOps.nil ⟨rfl, VW.condT (by simp [Fr.only, hkl]) (VW.skip ?_)⟩
      refine VW.seq (VW.block (VW.seq (VW.reg ?_)))
      refine VOps.rd rfl rfl ?_
      refine VOps.rd (v := .sl (some qo) ow.length ow.length) rfl (by simp [Fr.only, d2]) ?_
      refine VOps.rd rfl rfl ?_
      refine VOps.rd (v := .ptr (some (elp (some qo) k))) rfl (by simp [Fr.only, e1, hkl]) ?_
      refine VOps.rd (v := .int .i64 w) rfl (by simp [e2]) ?_
      refine VOps.rd rfl rfl ?_
      refine VOps.nil ⟨rfl, ?_⟩
      have leave : ∀ (F : Fr) (cn : Int), Cov [(0, .sl p rows.length c), (3, .ptr (some ⟨i3, 0, 0⟩)), (5, .int .i64 (edgesTo rows rows.length)), (15, .int .i64 cn), (16, .int .i64 k)] F → cn = owned (ow.take (k + 1)) →
          VW Try.prog B 289 (VC.reg [VI.rd 174 none (VOp.mv (Od.t 16)), VI.rd 175 none (VOp.bin (BinOp.add) (Od.t 174) (Od.c (VV.int (IntKind.i64) 1))), VI.rd 16 none (VOp.mv (Od.t 175))] [0, 3, 5, 15, 16]) F H5
            (Then (fun F2 H2 => ∃ m, m < ow.length - k ∧ ∃ k : Nat, k ≤ ow.length ∧ m = ow.length - k ∧ F2 = [(0, .sl p rows.length c), (3, .ptr (some ⟨i3, 0, 0⟩)), (5, .int .i64 (edgesTo rows rows.length)), (15, .int .i64 (owned (ow.take k))), (16, .int .i64 k)] ∧ H2 = H5)
              (inB 6 fun e F2 H' => e = .normal ∧ Cov [(0, .sl p rows.length c), (3, .ptr (some ⟨i3, 0, 0⟩)), (5, .int .i64 (edgesTo rows rows.length)), (15, .int .i64 (owned ow))] F2 ∧ H' = H5)) := by
        intro F cn hc hcn
        refine VW.sub hc (VW.reg ?_)
        refine VOps.rd rfl rfl ?_
        refine VOps.rd rfl rfl ?_
        refine VOps.rd rfl rfl ?_
        refine VOps.nil ⟨rfl, ow.length - (k + 1), by omega, k + 1, by omega, rfl, ?_, rfl⟩
        simp [Fr.only, hvk, hcn]
      refine VW.cond rfl (fun a => ?_) (fun a => ?_)
      · have a : 0 ≤ w := by have := of_decide_eq_true a; omega
        rw [if_pos a] at hot
        have hvc := wrap_id (x := (owned (ow.take k) : Int) + 1) (by omega) (by omega)
        refine VW.reg ?_
        refine VOps.rd rfl rfl ?_
        refine VOps.rd (v := .int .i64 ((owned (ow.take k) : Int) + 1)) rfl (by simp [Fr.only, hvc]) ?_
        refine VOps.rd rfl rfl ?_
        refine VOps.nil ⟨rfl, leave _ _ (by simp [Cov, Fr.only]; rfl) (by omega)⟩
      · have a : ¬ 0 ≤ w := by have := of_decide_eq_false a; omega
        rw [if_neg a] at hot
        have hv0 : vv = 0 := by
          rcases ha with ha | ⟨j, _, _, _, _, h6⟩
          · exact ha.2
          · omega
        subst hv0
        refine VW.seq (VW.reg ?_)
        refine VOps.rd rfl rfl ?_
        refine VOps.rd (v := .sl (some qv) v.length v.length) rfl (by simp [Fr.only, d1]) ?_
        refine VOps.rd rfl rfl ?_
        refine VOps.rd (v := .ptr (some (elp (some qv) k))) rfl (by simp [Fr.only, f1]; omega) ?_
        refine VOps.rd (v := .int .i64 0) rfl (by simp [f2]) ?_
        refine VOps.rd (v := .bool false) rfl rfl ?_
        refine VOps.nil ⟨rfl, VW.condF rfl (VW.skip (leave _ _ (by simp [Cov, Fr.only]; rfl) (by omega)))⟩
    · have : k = ow.length := by omega
      subst this
      refine VW.seq (VW.seq (VW.reg ?_))
      refine VOps.rd rfl rfl ?_
      refine VOps.rd rfl rfl ?_
      refine VOps.rd (v := .sl (gptr (o 2)) ow.length ow.length) rfl (by simp [d2]) ?_
      refine VOps.rd rfl rfl ?_
      refine VOps.rd rfl rfl ?_
      refine VOps.nil ⟨rfl, VW.condF (by simp [Fr.only]) (VW.exit ?_)⟩
      simp only [then_normal, then_ret, then_exit, inB_normal, inB_ret, inB_exit, reduceIte, Nat.reduceEqDiff]
      rw [List.take_length]
      exact ⟨trivial, by simp [Cov, Fr.only], trivial⟩
  rintro e F2 H5 ⟨rfl, hcov, rfl⟩
  refine VW.sub hcov ?_
  clear hcov
  refine VW.seq (VW.seq (VW.reg ?_))
  refine VOps.rd rfl rfl ?_
  refine VOps.nil ⟨rfl, ?_⟩
  show VW _ _ _ _ [(0, .sl p rows.length c), (3, .ptr (some ⟨i3, 0, 0⟩)), (5, .int .i64 (edgesTo rows rows.length)), (15, .int .i64 (owned ow)), (17, .int .i64 0)] _ _
  -- no lesser base
  refine VW.mono (Q := fun e F2 H' => e = .normal ∧ Cov [(5, .int .i64 (edgesTo rows rows.length)), (15, .int .i64 (owned ow))] F2 ∧ H' = H5) ?_ ?_
  · refine VW.block ?_
    refine VW.loop (fun m F' H' => ∃ i : Nat, i ≤ rows.length ∧ m = rows.length - i ∧ F' = [(0, .sl p rows.length c), (3, .ptr (some ⟨i3, 0, 0⟩)), (5, .int .i64 (edgesTo rows rows.length)), (15, .int .i64 (owned ow)), (17, .int .i64 i)] ∧ H' = H5) rows.length
      ⟨0, by omega, rfl, rfl, rfl⟩ ?_
    rintro m F' H6 ⟨i, hi, rfl, rfl, rfl⟩
    by_cases hin : i < rows.length
    · obtain ⟨q, pk, ck, rfl, rA⟩ := rowA hin
      obtain ⟨r1, r2, r3⟩ := rA hx4
      obtain ⟨qb, e0, e1, e2⟩ := sl_int (hx4.sl s0) (k := i) (by omega)
      rw [e0] at d0
      have hbi := inv.b0 i
      have hbz := inv.z0 i
      have hway := inv.way i
      have hia := inv.all
      rw [hbs] at hbi hbz hway hia
      rw [hoo] at hway hia
      have hbu : bs.getD i 0 ≤ 65536 := by
        by_cases hd : i ∈ ordN rows 256
        · have hne := ((mem_ordN 256).1 hd).2.1
          unfold rowLen at hne
          have hm := getD_mem (l := rows.getD i []) (k := 0) (by omega)
          have h1 := inv.own i hd _ hm
          have h2 := rows_ok hall i _ hm
          rw [hbs, hoo] at h1
          omega
        · rw [hbz hd]; omega
      have hok2 := rows_ok hall i
      have hlen : rowLen rows i = (rows.getD i []).length := rfl
      have hlen2 := hrl i
      generalize hlrow : rows.getD i [] = l at *
      have hi1 : (i : Int) < rows.length := by omega
      have hvi := wrap_id (x := (i : Int) + 1) (by omega) (by omega)
      generalize bs.getD i 0 = bi at *
      refine VW.seq (VW.seq (VW.reg ?_))
      refine VOps.rd rfl rfl ?_
      refine VOps.rd rfl rfl ?_
      refine VOps.rd rfl rfl ?_
      refine VOps.rd rfl rfl ?_
      refine VOps.nil ⟨rfl, VW.condT (by simp [Fr.only, hin]) (VW.skip ?_)⟩
      refine VW.seq (VW.block (VW.seq (VW.reg ?_)))
      refine VOps.rd rfl rfl ?_
      refine VOps.nil ⟨rfl, ?_⟩
      show VW _ _ _ _ [(0, .sl (some q) rows.length c), (3, .ptr (some ⟨i3, 0, 0⟩)), (5, .int .i64 (edgesTo rows rows.length)), (15, .int .i64 (owned ow)), (17, .int .i64 i), (18, .int .i64 0)] _ _
      refine VW.block ?_
      refine VW.loop (fun m F' H' => ∃ b : Int, 0 ≤ b ∧ b ≤ bi ∧ m = (bi - b).toNat ∧ F' = [(0, .sl (some q) rows.length c), (3, .ptr (some ⟨i3, 0, 0⟩)), (5, .int .i64 (edgesTo rows rows.length)), (15, .int .i64 (owned ow)), (17, .int .i64 i), (18, .int .i64 b)] ∧ H' = H6) bi.toNat
        ⟨0, by omega, by omega, by omega, rfl, rfl⟩ ?_
      rintro m F' H7 ⟨b, b0, b1, rfl, rfl, rfl⟩
      by_cases hbl : b < bi
      · have hvb := wrap_id (x := b + 1) (by omega) (by omega)
        have hdone : i ∈ ordN rows 256 := Classical.byContradiction fun hd => by have := hbz hd; omega
        obtain ⟨ew, hew1, hew2, jw, hjw1, hjw2, hjw3⟩ := hway hdone b b0 hbl
        -- is somebody in this edge's way?
        let wayB : Int × Int → Bool := fun e => hit ow b e && (decide (rowLen rows i < rowLen rows (ow.getD (b + e.1).toNat (-1)).toNat) || (decide (rowLen rows (ow.getD (b + e.1).toNat (-1)).toNat = rowLen rows i) && decide (ow.getD (b + e.1).toNat (-1) < i)))
        have hany : l.any wayB = true := by
          rw [List.any_eq_true]
          refine ⟨ew, hew1, ?_⟩
          show (hit ow b ew && _) = true
          have := hok2 ew hew1
          have h1 : hit ow b ew = true := (hit_iff (by omega)).2 ⟨hew2, by omega⟩
          have h2 : (ow.getD (b + ew.1).toNat (-1)).toNat = jw := by omega
          rw [h1, h2, hjw2, Bool.true_and]
          unfold Rr lt keyR at hjw3
          simp only [Int.toNat_natCast] at hjw3
          simp only [Bool.or_eq_true, Bool.and_eq_true, decide_eq_true_eq]
          omega
        refine VW.seq (VW.seq (VW.reg ?_))
        refine VOps.rd rfl rfl ?_
        refine VOps.rd rfl rfl ?_
        refine VOps.rd (v := .sl (some qb) bs.length bs.length) rfl (by simp [d0]) ?_
        refine VOps.rd rfl rfl ?_
        refine VOps.rd (v := .ptr (some (elp (some qb) i))) rfl (by simp [e1]; omega) ?_
        refine VOps.rd (v := .int .i64 bi) rfl (by simp [e2]) ?_
        refine VOps.rd rfl rfl ?_
        refine VOps.nil ⟨rfl, VW.condT (by simp [Fr.only, hbl]) (VW.skip ?_)⟩
        refine VW.seq (VW.block (VW.seq (VW.reg ?_)))
        refine VOps.rd rfl rfl ?_
        refine VOps.nil ⟨rfl, ?_⟩
        refine VW.seq (VW.seq (VW.reg ?_))
        refine VOps.rd rfl rfl ?_
        refine VOps.nil ⟨rfl, ?_⟩
        show VW _ _ _ _ [(0, .sl (some q) rows.length c), (3, .ptr (some ⟨i3, 0, 0⟩)), (5, .int .i64 (edgesTo rows rows.length)), (15, .int .i64 (owned ow)), (17, .int .i64 i), (18, .int .i64 b), (19, .bool false), (20, .int .i64 0)] _ _
        refine VW.mono (Q := fun e F2 H' => e = .normal ∧ Cov [(0, .sl (some q) rows.length c), (3, .ptr (some ⟨i3, 0, 0⟩)), (5, .int .i64 (edgesTo rows rows.length)), (15, .int .i64 (owned ow)), (17, .int .i64 i), (18, .int .i64 b), (19, .bool true)] F2 ∧ H' = H7) ?_ ?_
        · refine VW.block ?_
          refine VW.loop (fun m F' H' => ∃ k : Nat, k ≤ l.length ∧ m = l.length - k ∧ F' = [(0, .sl (some q) rows.length c), (3, .ptr (some ⟨i3, 0, 0⟩)), (5, .int .i64 (edgesTo rows rows.length)), (15, .int .i64 (owned ow)), (17, .int .i64 i), (18, .int .i64 b), (19, .bool ((l.take k).any wayB)), (20, .int .i64 k)] ∧ H' = H7) l.length
            ⟨0, by omega, rfl, by simp, rfl⟩ ?_
          rintro m F' H8 ⟨k, hk, rfl, rfl, rfl⟩
          refine VW.seq (VW.seq ?_)
          refine VW.mono (Q := fun e F2 H' => e = .normal ∧ Cov [(0, .sl (some q) rows.length c), (3, .ptr (some ⟨i3, 0, 0⟩)), (5, .int .i64 (edgesTo rows rows.length)), (15, .int .i64 (owned ow)), (17, .int .i64 i), (18, .int .i64 b), (19, .bool ((l.take k).any wayB)), (20, .int .i64 k), (215, .bool (decide (k < l.length) && !(l.take k).any wayB))] F2 ∧ H' = H8) ?_ ?_
          · refine VW.reg ?_
            refine VOps.rd rfl rfl ?_
            refine VOps.rd rfl rfl ?_
            refine VOps.rd rfl rfl ?_
            refine VOps.rd (v := .ptr (some (elp (some q) i))) rfl (by simp [r1]; omega) ?_
            refine VOps.rd (v := .sl pk l.length ck) rfl (by simp [r2]) ?_
            refine VOps.rd rfl rfl ?_
            refine VOps.rd (v := .bool (decide (k < l.length))) rfl (by simp) ?_
            refine VOps.rd rfl rfl ?_
            by_cases hkl : k < l.length
            · refine VOps.rd (v := .bool ((l.take k).any wayB)) (by simp [hkl]) rfl ?_
              refine VOps.rd (v := .bool (!(l.take k).any wayB)) (by simp [hkl]) rfl ?_
              refine VOps.rd (v := .bool (!(l.take k).any wayB)) rfl (by simp [hkl]) ?_
              refine VOps.nil ⟨rfl, rfl, ?_, rfl⟩
              rw [decide_eq_true hkl, Bool.true_and]
              simp [Cov, Fr.only]
            · refine VOps.sk (by simp [hkl]) ?_
              refine VOps.sk (by simp [hkl]) ?_
              refine VOps.rd (v := .bool false) rfl (by simp [hkl]) ?_
              refine VOps.nil ⟨rfl, rfl, ?_, rfl⟩
              rw [decide_eq_false hkl, Bool.false_and]
              simp [Cov, Fr.only]
          rintro e F2 H9 ⟨rfl, hcov, rfl⟩
          by_cases hgo : k < l.length ∧ (l.take k).any wayB = false
          · obtain ⟨hkl, hno⟩ := hgo
            rw [hno, decide_eq_true hkl] at hcov
            have htk : (l.take (k + 1)).any wayB = wayB (l.getD k (0, 0)) := by
              rw [List.take_add_one, show l[k]? = some (l.getD k (0, 0)) by rw [List.getD_eq_getElem?_getD, List.getElem?_eq_getElem hkl]; rfl, List.any_append, hno]
              simp
            have hmem : l.getD k (0, 0) ∈ l := by rw [List.getD_eq_getElem?_getD, List.getElem?_eq_getElem hkl]; exact List.getElem_mem ..
            obtain ⟨z0, z1⟩ := hok2 _ hmem
            obtain ⟨qe, rfl, e3, e4, e5, e6⟩ := sl_edge r3 (k := k) hkl
            have e4' : ld H9 ⟨(elp (some qe) k).blk, (elp (some qe) k).idx, 0⟩ = some (.int .i64 (l.getD k (0, 0)).1) := e4
            have hvk := wrap_id (x := (k : Int) + 1) (by omega) (by omega)
            have hva := wrap_id (x := b + (l.getD k (0, 0)).1) (by omega) (by omega)
            have hwb : wayB (l.getD k (0, 0)) = (hit ow b (l.getD k (0, 0)) && (decide (rowLen rows i < rowLen rows (ow.getD (b + (l.getD k (0, 0)).1).toNat (-1)).toNat) || (decide (rowLen rows (ow.getD (b + (l.getD k (0, 0)).1).toNat (-1)).toNat = rowLen rows i) && decide (ow.getD (b + (l.getD k (0, 0)).1).toNat (-1) < i)))) := rfl
            rw [← htk] at hwb
            obtain ⟨way1, hway1⟩ : ∃ w, w = (l.take (k + 1)).any wayB := ⟨_, rfl⟩
            rw [← hway1] at htk hwb
            generalize l.getD k (0, 0) = ed at *
            obtain ⟨sy, to⟩ := ed
            simp only at *
            have hia2 := hia (b + sy).toNat
            have hit2 := hit_iff (o := ow) (b := b) (e := (sy, to)) (by simp only; omega)
            simp only at hit2
            refine VW.condT (hcov.get _ _ rfl) (VW.skip ?_)
            refine VW.sub hcov ?_
            clear hcov
            refine VW.seq (VW.block (VW.seq (VW.reg ?_)))
            refine VOps.rd rfl rfl ?_
            refine VOps.rd rfl rfl ?_
            refine VOps.rd rfl rfl ?_
            refine VOps.rd (v := .ptr (some (elp (some q) i))) rfl (by simp [r1]; omega) ?_
            refine VOps.rd (v := .sl (some qe) l.length ck) rfl (by simp [r2]) ?_
            refine VOps.rd rfl rfl ?_
            refine VOps.rd (v := .ptr (some (elp (some qe) k))) rfl (by simp [e3, hkl]) ?_
            refine VOps.rd rfl rfl ?_
            refine VOps.rd (v := .int .i64 sy) rfl (by simp [e4', e6]) ?_
            refine VOps.rd (v := .int .i64 (b + sy)) rfl (by simp [hva]) ?_
            refine VOps.rd rfl rfl ?_
            refine VOps.nil ⟨rfl, ?_⟩
            show VW _ _ _ _ [(0, .sl (some q) rows.length c), (3, .ptr (some ⟨i3, 0, 0⟩)), (5, .int .i64 (edgesTo rows rows.length)), (15, .int .i64 (owned ow)), (17, .int .i64 i), (18, .int .i64 b), (19, .bool false), (20, .int .i64 k), (21, .int .i64 (b + sy))] _ _
            have leave : ∀ (F : Fr), Cov [(0, .sl (some q) rows.length c), (3, .ptr (some ⟨i3, 0, 0⟩)), (5, .int .i64 (edgesTo rows rows.length)), (15, .int .i64 (owned ow)), (17, .int .i64 i), (18, .int .i64 b), (19, .bool way1), (20, .int .i64 k)] F →
                VW Try.prog B 289 (VC.reg [VI.rd 216 none (VOp.mv (Od.t 20)), VI.rd 217 none (VOp.bin (BinOp.add) (Od.t 216) (Od.c (VV.int (IntKind.i64) 1))), VI.rd 20 none (VOp.mv (Od.t 217))] [0, 3, 5, 15, 17, 18, 19, 20]) F H9
                  (fun e F2 H' => e = .normal ∧ F2 = [(0, .sl (some q) rows.length c), (3, .ptr (some ⟨i3, 0, 0⟩)), (5, .int .i64 (edgesTo rows rows.length)), (15, .int .i64 (owned ow)), (17, .int .i64 i), (18, .int .i64 b), (19, .bool way1), (20, .int .i64 ((k : Int) + 1))] ∧ H' = H9) := by
              intro F hc
              refine VW.sub hc (VW.reg ?_)
              refine VOps.rd rfl rfl ?_
              refine VOps.rd rfl rfl ?_
              refine VOps.rd rfl rfl ?_
              exact VOps.nil ⟨rfl, rfl, by simp [Fr.only, hvk], rfl⟩
            refine VW.mono (Q := fun e F2 H' => e = .normal ∧ Cov [(0, .sl (some q) rows.length c), (3, .ptr (some ⟨i3, 0, 0⟩)), (5, .int .i64 (edgesTo rows rows.length)), (15, .int .i64 (owned ow)), (17, .int .i64 i), (18, .int .i64 b), (19, .bool way1), (20, .int .i64 k)] F2 ∧ H' = H9) ?_ ?_
            · clear leave
              by_cases hh : (b + sy).toNat < ow.length ∧ 0 ≤ ow.getD (b + sy).toNat (-1)
              · rw [hit2.2 hh, Bool.true_and] at hwb
                obtain ⟨qo, g0, g1, g2⟩ := sl_int (hx4.sl s2) (k := (b + sy).toNat) hh.1
                rw [g0] at d2
                have g3 : ow.getD (b + sy).toNat 0 = ow.getD (b + sy).toNat (-1) := by
                  rw [List.getD_eq_getElem?_getD, List.getD_eq_getElem?_getD, List.getElem?_eq_getElem hh.1]; rfl
                rw [g3] at g2
                have hwn : ow.getD (b + sy).toNat (-1) < rows.length := by
                  rcases hia2 with hia2 | ⟨j, hj, _, _, _, h6⟩
                  · rw [hia2.1] at hh; omega
                  · have := ((mem_ordN 256).1 hj).1; omega
                obtain ⟨hh1, hh2⟩ := hh
                clear hia2 hit2
                generalize ow.getD (b + sy).toNat (-1) = w at *
                obtain ⟨q2, pw, cw, hq2, rW⟩ := rowA (k := w.toNat) (by omega)
                cases hq2
                obtain ⟨w1, w2, w3⟩ := rW hx4
                have hlw : rowLen rows w.toNat = (rows.getD w.toNat []).length := rfl
                have hlw2 := hrl w.toNat
                rw [hlw, hlen] at hwb
                generalize rows.getD w.toNat [] = lw at *
                have hat0 : 0 ≤ b + sy := by omega
                have hat1 : b + sy < ow.length := by omega
                refine VW.seq (VW.reg ?_)
                refine VOps.rd rfl rfl ?_
                refine VOps.rd rfl rfl ?_
                refine VOps.rd (v := .sl (some qo) ow.length ow.length) rfl (by simp [d2]) ?_
                refine VOps.rd rfl rfl ?_
                refine VOps.rd (v := .bool true) rfl (by simp [hat1]) ?_
                refine VOps.rd rfl rfl ?_
                refine VOps.rd rfl rfl ?_
                refine VOps.rd (v := .sl (some qo) ow.length ow.length) rfl (by simp [d2]) ?_
                refine VOps.rd rfl rfl ?_
                refine VOps.rd (v := .ptr (some (elp (some qo) (b + sy).toNat))) rfl (by simp [g1, hat0, hat1]) ?_
                refine VOps.rd (v := .int .i64 w) rfl (by simp [g2]) ?_
                refine VOps.rd (v := .bool true) rfl (by simp [hh2]) ?_
                refine VOps.rd (v := .bool true) rfl rfl ?_
                refine VOps.nil ⟨rfl, VW.condT rfl ?_⟩
                refine VW.seq (VW.reg ?_)
                refine VOps.rd rfl rfl ?_
                refine VOps.rd (v := .sl (some qo) ow.length ow.length) rfl (by simp [Fr.only, d2]) ?_
                refine VOps.rd rfl rfl ?_
                refine VOps.rd (v := .ptr (some (elp (some qo) (b + sy).toNat))) rfl (by simp [Fr.only, g1, hat0, hat1]) ?_
                refine VOps.rd (v := .int .i64 w) rfl (by simp [g2]) ?_
                refine VOps.rd rfl rfl ?_
                refine VOps.nil ⟨rfl, ?_⟩
                show VW _ _ _ _ [(0, .sl (some q) rows.length c), (3, .ptr (some ⟨i3, 0, 0⟩)), (5, .int .i64 (edgesTo rows rows.length)), (15, .int .i64 (owned ow)), (17, .int .i64 i), (18, .int .i64 b), (20, .int .i64 k), (22, .int .i64 w)] _ _
                refine VW.dreg [H9] mixed rfl ?_
                refine VX.rd1 rfl rfl ?_
                refine VX.rd1 rfl rfl ?_
                refine VX.rd1 rfl rfl ?_
                refine VX.rd1 (v := .bool true) rfl (by simp [hwn]) ?_
                refine VX.rd1 rfl rfl ?_
                refine VX.rd1 rfl rfl ?_
                refine VX.rd1 rfl rfl ?_
                refine VX.rd1 (v := .ptr (some (elp (some q) w.toNat))) rfl (by simp [w1, hh2, hwn]) ?_
                refine VX.rd1 (v := .sl pw lw.length cw) rfl (by simp [w2]) ?_
                refine VX.rd1 rfl rfl ?_
                refine VX.rd1 rfl rfl ?_
                refine VX.rd1 rfl rfl ?_
                refine VX.rd1 (v := .ptr (some (elp (some q) i))) rfl (by simp [r1]; omega) ?_
                refine VX.rd1 (v := .sl (some qe) l.length ck) rfl (by simp [r2]) ?_
                refine VX.rd1 rfl rfl ?_
                by_cases y1 : l.length < lw.length
                · rw [decide_eq_true y1, Bool.true_or] at hwb
                  refine VX.rd1 (v := .bool true) rfl (by simp [y1]) ?_
                  refine VX.rd1 rfl rfl ?_
                  iterate 16 refine VX.sk1 rfl ?_
                  refine VX.rd1 (v := .bool true) rfl rfl ?_
                  refine VX.rd1 (v := .bool true) rfl rfl ?_
                  refine VX.rd1 rfl rfl ?_
                  exact VX.nil ⟨rfl, by rw [hwb]; simp [Cov, Fr.only], rfl⟩
                · rw [decide_eq_false y1, Bool.false_or] at hwb
                  refine VX.rd1 (v := .bool false) rfl (by simp; omega) ?_
                  refine VX.rd1 rfl rfl ?_
                  refine VX.rd1 rfl rfl ?_
                  refine VX.rd1 rfl rfl ?_
                  refine VX.rd1 (v := .ptr (some (elp (some q) w.toNat))) rfl (by simp [w1, hh2, hwn]) ?_
                  refine VX.rd1 (v := .sl pw lw.length cw) rfl (by simp [w2]) ?_
                  refine VX.rd1 rfl rfl ?_
                  refine VX.rd1 rfl rfl ?_
                  refine VX.rd1 rfl rfl ?_
                  refine VX.rd1 (v := .ptr (some (elp (some q) i))) rfl (by simp [r1]; omega) ?_
                  refine VX.rd1 (v := .sl (some qe) l.length ck) rfl (by simp [r2]) ?_
                  refine VX.rd1 rfl rfl ?_
                  by_cases y2 : lw.length = l.length
                  · rw [decide_eq_true y2, Bool.true_and] at hwb
                    refine VX.rd1 (v := .bool true) rfl (by simp [y2]) ?_
                    refine VX.rd1 rfl rfl ?_
                    refine VX.rd1 rfl rfl ?_
                    refine VX.rd1 rfl rfl ?_
                    refine VX.rd1 rfl rfl ?_
                    refine VX.rd1 (v := .bool (decide (w < i))) rfl (by simp) ?_
                    refine VX.rd1 (v := .bool (decide (w < i))) rfl rfl ?_
                    refine VX.rd1 (v := .bool (decide (w < i))) rfl rfl ?_
                    refine VX.rd1 rfl rfl ?_
                    exact VX.nil ⟨rfl, by rw [hwb]; simp [Cov, Fr.only], rfl⟩
                  · rw [decide_eq_false y2, Bool.false_and] at hwb
                    refine VX.rd1 (v := .bool false) rfl (by simp; omega) ?_
                    refine VX.rd1 rfl rfl ?_
                    refine VX.sk1 rfl ?_
                    refine VX.sk1 rfl ?_
                    refine VX.sk1 rfl ?_
                    refine VX.rd1 (v := .bool false) rfl rfl ?_
                    refine VX.rd1 (v := .bool false) rfl rfl ?_
                    refine VX.rd1 (v := .bool false) rfl rfl ?_
                    refine VX.rd1 rfl rfl ?_
                    exact VX.nil ⟨rfl, by rw [hwb]; simp [Cov, Fr.only], rfl⟩
              · have hnh : hit ow b (sy, to) = false := by
                  cases hc : hit ow b (sy, to) with
                  | false => rfl
                  | true => exact absurd (hit2.1 hc) hh
                rw [hnh, Bool.false_and] at hwb
                refine VW.seq (VW.reg ?_)
                refine VOps.rd rfl rfl ?_
                refine VOps.rd rfl rfl ?_
                refine VOps.rd (v := .sl (gptr (o 2)) ow.length ow.length) rfl (by simp [d2]) ?_
                refine VOps.rd rfl rfl ?_
                by_cases hat1 : b + sy < ow.length
                · have hh1 : (b + sy).toNat < ow.length := by omega
                  obtain ⟨qo, g0, g1, g2⟩ := sl_int (hx4.sl s2) (k := (b + sy).toNat) hh1
                  rw [g0] at d2
                  have g3 : ow.getD (b + sy).toNat 0 = ow.getD (b + sy).toNat (-1) := by
                    rw [List.getD_eq_getElem?_getD, List.getD_eq_getElem?_getD, List.getElem?_eq_getElem hh1]; rfl
                  rw [g3] at g2
                  have hneg : ow.getD (b + sy).toNat (-1) < 0 := by
                    apply Int.lt_of_not_ge
                    intro hge
                    exact hh ⟨hh1, hge⟩
                  generalize ow.getD (b + sy).toNat (-1) = w at *
                  have hat0 : 0 ≤ b + sy := by omega
                  refine VOps.rd (v := .bool true) rfl (by simp [hat1]) ?_
                  refine VOps.rd rfl rfl ?_
                  refine VOps.rd rfl rfl ?_
                  refine VOps.rd (v := .sl (some qo) ow.length ow.length) rfl (by simp [d2]) ?_
                  refine VOps.rd rfl rfl ?_
                  refine VOps.rd (v := .ptr (some (elp (some qo) (b + sy).toNat))) rfl (by simp [g1, hat0, hat1]) ?_
                  refine VOps.rd (v := .int .i64 w) rfl (by simp [g2]) ?_
                  refine VOps.rd (v := .bool false) rfl (by simp; omega) ?_
                  refine VOps.rd (v := .bool false) rfl rfl ?_
                  exact VOps.nil ⟨rfl, VW.condF rfl (VW.skip ⟨rfl, by rw [hwb]; simp [Cov, Fr.only], rfl⟩)⟩
                · refine VOps.rd (v := .bool false) rfl (by simp; omega) ?_
                  refine VOps.rd rfl rfl ?_
                  iterate 6 refine VOps.sk rfl ?_
                  refine VOps.rd (v := .bool false) rfl rfl ?_
                  exact VOps.nil ⟨rfl, VW.condF rfl (VW.skip ⟨rfl, by rw [hwb]; simp [Cov, Fr.only], rfl⟩)⟩
            rintro e F2 H10 ⟨rfl, hcov, rfl⟩
            refine (leave F2 hcov).mono ?_
            rintro e F3 H11 ⟨rfl, rfl, rfl⟩
            exact ⟨l.length - (k + 1), by omega, k + 1, by omega, rfl, by rw [hway1]; simp, rfl⟩
          · have hway1 : (l.take k).any wayB = true := by
              cases hc : (l.take k).any wayB with
              | true => rfl
              | false =>
                have : k = l.length := by
                  apply Classical.byContradiction
                  intro hne
                  exact hgo ⟨by omega, hc⟩
                rw [this, List.take_length] at hc
                rw [hany] at hc; cases hc
            rw [hway1, Bool.not_true, Bool.and_false] at hcov
            refine VW.condF (hcov.get _ _ rfl) (VW.exit ?_)
            simp only [then_normal, then_ret, then_exit, inB_normal, inB_ret, inB_exit, reduceIte, Nat.reduceEqDiff]
            exact ⟨trivial, ⟨hcov.get _ _ rfl, hcov.get _ _ rfl, hcov.get _ _ rfl, hcov.get _ _ rfl, hcov.get _ _ rfl, hcov.get _ _ rfl, hcov.get _ _ rfl, trivial⟩, trivial⟩
        rintro e F2 H8 ⟨rfl, hcov, rfl⟩
        refine VW.sub hcov ?_
        clear hcov
        refine VW.seq (VW.reg ?_)
        refine VOps.rd rfl rfl ?_
        refine VOps.rd rfl rfl ?_
        refine VOps.nil ⟨rfl, VW.condF rfl (VW.skip ?_)⟩
        refine VW.reg ?_
        refine VOps.rd rfl rfl ?_
        refine VOps.rd rfl rfl ?_
        refine VOps.rd rfl rfl ?_
        exact VOps.nil ⟨rfl, (bi - (b + 1)).toNat, by omega, b + 1, by omega, by omega, rfl, by simp [Fr.only, hvb], rfl⟩
      · have : b = bi := by omega
        subst this
        refine VW.seq (VW.seq (VW.reg ?_))
        refine VOps.rd rfl rfl ?_
        refine VOps.rd rfl rfl ?_
        refine VOps.rd (v := .sl (some qb) bs.length bs.length) rfl (by simp [d0]) ?_
        refine VOps.rd rfl rfl ?_
        refine VOps.rd (v := .ptr (some (elp (some qb) i))) rfl (by simp [e1]; omega) ?_
        refine VOps.rd (v := .int .i64 b) rfl (by simp [e2]) ?_
        refine VOps.rd rfl rfl ?_
        refine VOps.nil ⟨rfl, VW.condF (by simp [Fr.only]) (VW.exit ?_)⟩
        simp only [then_normal, then_ret, then_exit, inB_normal, inB_ret, inB_exit, reduceIte, Nat.reduceEqDiff]
        refine VW.reg ?_
        refine VOps.rd rfl rfl ?_
        refine VOps.rd rfl rfl ?_
        refine VOps.rd rfl rfl ?_
        refine VOps.nil ⟨rfl, rows.length - (i + 1), by omega, i + 1, by omega, rfl, ?_, rfl⟩
        simp [Fr.only, hvi]
    · have : i = rows.length := by omega
      subst this
      refine VW.seq (VW.seq (VW.reg ?_))
      refine VOps.rd rfl rfl ?_
      refine VOps.rd rfl rfl ?_
      refine VOps.rd rfl rfl ?_
      refine VOps.rd rfl rfl ?_
      refine VOps.nil ⟨rfl, VW.condF (by simp [Fr.only]) (VW.exit ?_)⟩
      simp only [then_normal, then_ret, then_exit, inB_normal, inB_ret, inB_exit, reduceIte, Nat.reduceEqDiff]
      exact ⟨trivial, by simp [Cov, Fr.only], trivial⟩
  rintro e F2 H6 ⟨rfl, hcov, rfl⟩
  refine VW.sub hcov ?_
  clear hcov
  have hcnt := owned_lay hall
  rw [hoo] at hcnt
  refine VW.seq (VW.reg ?_)
  refine VOps.rd rfl rfl ?_
  refine VOps.rd rfl rfl ?_
  refine VOps.rd (v := .bool true) rfl (by simp [hcnt]) ?_
  refine VOps.rd rfl rfl ?_
  refine VOps.call rfl rfl rfl ((awake_fn _).mono ?_)
  rintro r Hy ⟨rfl, rfl⟩
  refine VOps.rd (v := .bool true) rfl rfl ?_
  refine VOps.rd rfl rfl ?_
  exact VOps.nil ⟨rfl, VW.ret ⟨.inl rfl, .bool true, rfl, rfl⟩⟩
end
end Go.Proofs.Ytlclbfkdaemilaa
