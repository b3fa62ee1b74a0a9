/- Lay of the program over the canonical heap. -/
import Derived.Test.YtlclbfkdaemilaaLyF
namespace Go.Proofs.Ytlclbfkdaemilaa
set_option linter.unusedSimpArgs false
set_option linter.unusedVariables false
open Go Go.Vm Go.Proofs So
set_option maxRecDepth 100000
set_option maxHeartbeats 2000000

/-- a heap whose row is what it is -/
theorem Ar.self {H : Hp} {b n : Nat} {t : TypeId} {md : Vm.Mode} {f : Nat → Int} (h : H[b]? = some (.row t md ((List.range n).map fun k => [VV.int .i64 (f k)]))) : Ar H b t md n f = H := by
  unfold Ar
  apply List.ext_getElem?
  intro i
  by_cases e : b = i
  · subst e; rw [List.getElem?_set_self (get_lt h), h]
  · rw [List.getElem?_set_ne e]
theorem Ar.ext {H0 H : Hp} {b n : Nat} {t : TypeId} {md : Vm.Mode} {f : Nat → Int} (hx : Ext H0 H) (hb : H0.length ≤ b) : Ext H0 (Ar H b t md n f) := hx.set hb _
theorem rep_eq (n : Nat) : List.replicate n [VV.int .i64 0] = intEs (List.replicate n 0) := by simp [intEs]

section
variable {t0 : TypeId} {H0 H H1 : Hp} {ic ib j : Nat} {iv io : Option Nat} {s : Laid}
theorem Comb.base (h : Comb t0 H0 H ic ib iv io s) (hx : Ext H1 H0) : Comb t0 H1 H ic ib iv io s :=
  ⟨hx.trans h.ext, h.box, h.bas, h.gv, h.go, Nat.le_trans hx.1 h.lc, Nat.le_trans hx.1 h.lb, fun k hk => Nat.le_trans hx.1 (h.lv k hk), fun k hk => Nat.le_trans hx.1 (h.lo k hk), h.ne⟩
/-- a block that lay there before is set anew -/
theorem Comb.under (h : Comb t0 H0 H ic ib iv io s) (hx : Ext H1 H0) (h1 : H1.length ≤ j) (h2 : j < H0.length) (x : Blk) : Comb t0 H1 (H.set j x) ic ib iv io s := by
  have hb := h.base hx
  exact ⟨hb.ext.set h1 _, by rw [List.getElem?_set_ne (by have := h.lc; omega)]; exact h.box, by rw [List.getElem?_set_ne (by have := h.lb; omega)]; exact h.bas,
    h.gv.keep fun k hk => List.getElem?_set_ne (by have := h.lv k hk; omega), h.go.keep fun k hk => List.getElem?_set_ne (by have := h.lo k hk; omega), hb.lc, hb.lb, hb.lv, hb.lo, h.ne⟩
end

/-- what Lay answers -/
def LayR (t0 : TypeId) (H0 H : Hp) (rows : List Edges) (r : VV) : Prop :=
  if layOk rows = true then ∃ ic ib iv io, Comb t0 H0 H ic ib iv io (layR rows) ∧ r = .tup [.agg [.sl (some ⟨ib, 0, 0⟩) (layR rows).bs.length (layR rows).bs.length, .sl (gptr iv) (layR rows).v.length (layR rows).v.length, .sl (gptr io) (layR rows).o.length (layR rows).o.length], .int .i64 0]
  else Ext H0 H ∧ r = .tup [.agg [.sl none 0 0, .sl none 0 0, .sl none 0 0], .int .i64 1]

section
variable {H : Hp} {p : Option PA} {vs : List VV} {rows : List Edges} {c : Nat}
theorem lay10 (h : Sl H p 1 (vs.map fun v => [v])) (hr : RowV H vs rows) (hn : rows.length ≤ maxLen) : FnV Try.prog 10 [.sl p rows.length c] H fun r H' => LayR 67 H H' rows r := by
  refine FnV.enterRow ok10 (by show 1 ≤ 63; decide) fun B => ?_
  dsimp only [w10]
  have hmx : maxLen = 9223372036854775807 := rfl
  refine VW.seq (VW.reg ?_)
  refine VOps.ef (v := .ptr (some ⟨H.length, 0, 0⟩)) (H' := H ++ [.row 22 .own [[.sl p rows.length c]]]) rfl (by simp [argsF, VV.cell]) ?_
  refine VOps.ef (v := .ptr (some ⟨(H ++ [Blk.row 22 .own [[.sl p rows.length c]]]).length, 0, 0⟩)) (H' := (H ++ [.row 22 .own [[.sl p rows.length c]]]) ++ [.row 26 .own [[.sl none 0 0, .sl none 0 0, .sl none 0 0]]]) rfl (by simp) ?_
  refine VOps.rd rfl rfl ?_
  refine VOps.nil ⟨rfl, ?_⟩
  have lb := ld_push (ld_last H 22 .own [VV.sl p rows.length c] [] 0) [.row 26 .own [[.sl none 0 0, .sl none 0 0, .sl none 0 0]]]
  have hx : Ext H ((H ++ [.row 22 .own [[.sl p rows.length c]]]) ++ [.row 26 .own [[.sl none 0 0, .sl none 0 0, .sl none 0 0]]]) := (Ext.app _ _).push _
  have hres : ((H ++ [Blk.row 22 .own [[.sl p rows.length c]]]) ++ [.row 26 .own [[.sl none 0 0, .sl none 0 0, .sl none 0 0]]])[H.length + 1]? = some (.row 26 .own [[.sl none 0 0, .sl none 0 0, .sl none 0 0]]) := by simp
  have hbx : ((H ++ [Blk.row 22 .own [[.sl p rows.length c]]]) ++ [.row 26 .own [[.sl none 0 0, .sl none 0 0, .sl none 0 0]]])[H.length]? = some (.row 22 .own [[.sl p rows.length c]]) := by simp
  rw [show (H ++ [Blk.row 22 .own [[.sl p rows.length c]]]).length = H.length + 1 by simp]
  show VW _ _ _ _ [(1, .ptr (some ⟨H.length, 0, 0⟩)), (2, .ptr (some ⟨H.length + 1, 0, 0⟩))] _ _
  generalize (H ++ [Blk.row 22 .own [[.sl p rows.length c]]]) ++ [.row 26 .own [[.sl none 0 0, .sl none 0 0, .sl none 0 0]]] = H1 at *
  refine VW.seq (VW.seq ?_)
  refine VW.mono (Q := fun e F2 Hx => e = .normal ∧ F2 = [(1, .ptr (some ⟨H.length, 0, 0⟩)), (2, .ptr (some ⟨H.length + 1, 0, 0⟩)), (15, .bool (!layOk rows))] ∧ Hx = H1) ?_ ?_
  · refine VW.reg ?_
    refine VOps.rd (v := .sl p rows.length c) rfl (by simp [lb]) ?_
    by_cases hbig : 256 < (rows.length : Int)
    · have hlo : layOk rows = false := by unfold layOk; rw [decide_eq_false (by omega)]; rfl
      rw [hlo]
      repeat first
        | (apply VOps.rd; (focus (first | exact rfl | (simp [Fr.only, argsF, *]; done))); (focus (exact rfl)))
        | (apply VOps.sk; (focus (simp [Fr.only, argsF, *]; done)))
        | (apply VOps.rd; (focus (first | exact rfl | (simp [Fr.only, argsF, *]; done))); (focus (simp [Fr.only, argsF, *]; first | done | exact rfl)))
      refine VOps.skc (by simp [*]) ?_
      repeat first
        | (apply VOps.rd; (focus (first | exact rfl | (simp [Fr.only, argsF, *]; done))); (focus (exact rfl)))
        | (apply VOps.sk; (focus (simp [Fr.only, argsF, *]; done)))
        | (apply VOps.rd; (focus (first | exact rfl | (simp [Fr.only, argsF, *]; done))); (focus (simp [Fr.only, argsF, *]; first | done | exact rfl)))
      exact VOps.nil ⟨rfl, rfl, by simp [Fr.only, argsF, *], rfl⟩
    · have hcall := has28 (H := H1) (p := p) (c := c) (vs := vs) (f := 29) (caps := []) (pr := fun k => !isRowS (rows.getD k [])) (b := !layOk rows) (hx.sl h) (by rw [hr.1]; exact hn) (fun k v hk => by
          have hk2 : k < rows.length := by rw [← hr.1]; exact (List.getElem?_eq_some_iff.1 hk).1
          obtain ⟨pk, ck, e1, e2, e3⟩ := hr.2 k hk2
          rw [e1] at hk; cases hk
          exact lay29 (hx.sl e2) e3) (by
          unfold layOk
          rw [decide_eq_true (by omega), Bool.true_and, hr.1, Bool.not_eq_true', ← Bool.not_eq_true, List.all_eq_true]
          constructor
          · intro hh
            apply Classical.byContradiction
            intro hno
            refine hh fun l hl => ?_
            obtain ⟨k, hk, rfl⟩ := List.getElem_of_mem hl
            cases hrr : isRowS rows[k] with
            | true => rfl
            | false => exact absurd ⟨k, hk, by simp [List.getD, hk, hrr]⟩ hno
          · rintro ⟨k, hk, h2⟩ hall
            have := hall rows[k] (List.getElem_mem ..)
            simp [List.getD, hk, this] at h2)
      rw [hr.1] at hcall
      repeat first
        | (apply VOps.rd; (focus (first | exact rfl | (simp [Fr.only, argsF, *]; done))); (focus (exact rfl)))
        | (apply VOps.sk; (focus (simp [Fr.only, argsF, *]; done)))
        | (apply VOps.rd; (focus (first | exact rfl | (simp [Fr.only, argsF, *]; done))); (focus (simp [Fr.only, argsF, *]; first | done | exact rfl)))
      refine VOps.call (by simp [*]) rfl rfl (hcall.mono ?_)
      rintro r H2 ⟨rfl, rfl⟩
      refine VOps.rd (v := .bool (!layOk rows)) rfl (by simp [hbig]) ?_
      exact VOps.nil ⟨rfl, rfl, by simp [Fr.only, argsF, *], rfl⟩
  rintro e F2 Hx ⟨rfl, rfl, rfl⟩
  by_cases hok : layOk rows = true
  case neg =>
    have hno : layOk rows = false := by simpa using hok
    have hst : stc Hx ⟨H.length + 1, 0, 0⟩ [.sl none 0 0, .sl none 0 0, .sl none 0 0] = some (Hx.set (H.length + 1) (.row 26 .own [[.sl none 0 0, .sl none 0 0, .sl none 0 0]])) := by
      simp [stc, hres, okCells, VV.cell, upd]
    refine VW.condT (by simp [Fr.get, hno]) (VW.seq (VW.reg ?_))
    refine VOps.rd rfl rfl ?_
    refine VOps.ef (v := .undef) (H' := Hx.set (H.length + 1) (.row 26 .own [[.sl none 0 0, .sl none 0 0, .sl none 0 0]])) rfl (by simp [hst]) ?_
    refine VOps.rd rfl rfl ?_
    refine VOps.nil ⟨rfl, VW.ret ?_⟩
    have hl := lds_own (H := Hx.set (H.length + 1) (.row 26 .own [[.sl none 0 0, .sl none 0 0, .sl none 0 0]])) (i := H.length + 1) (by rw [List.getElem?_set_self (get_lt hres)]) 0 3
    refine ⟨.inl rfl, .tup [.agg [.sl none 0 0, .sl none 0 0, .sl none 0 0], .int .i64 1], by simp [resV, resL, hl, Fr.only], ?_⟩
    unfold LayR
    rw [if_neg hok]
    exact ⟨hx.set (by omega) _, rfl⟩
  have hall : rows.all isRowS = true := by unfold layOk at hok; simp only [Bool.and_eq_true] at hok; exact hok.2
  have hn256 : rows.length ≤ 256 := by unfold layOk at hok; simp only [Bool.and_eq_true, decide_eq_true_eq] at hok; exact hok.1
  refine VW.condF (by simp [Fr.get, hok]) (VW.skip ?_)
  -- the order
  refine VW.seq (VW.reg ?_)
  refine VOps.rd (v := .sl p rows.length c) rfl (by simp [lb]) ?_
  refine VOps.rd rfl rfl ?_
  refine VOps.ef (v := .sl (some ⟨Hx.length, 0, 0⟩) rows.length rows.length) (H' := Hx ++ [.row 3 .own (List.replicate rows.length [.int .i64 0])]) rfl (by simp; omega) ?_
  refine VOps.rd rfl rfl ?_
  refine VOps.nil ⟨rfl, ?_⟩
  show VW _ _ _ _ [(1, .ptr (some ⟨H.length, 0, 0⟩)), (2, .ptr (some ⟨H.length + 1, 0, 0⟩)), (4, .sl (some ⟨Hx.length, 0, 0⟩) rows.length rows.length)] _ _
  have hge := hx.1
  have hlt := get_lt hres
  have hob : Hx.length < (Hx ++ [Blk.row 3 .own (List.replicate rows.length [.int .i64 0])]).length := by simp
  have hself : Ar (Hx ++ [Blk.row 3 .own (List.replicate rows.length [.int .i64 0])]) Hx.length 3 .own rows.length (fun k => if k < 0 then (k : Int) else 0) = Hx ++ [Blk.row 3 .own (List.replicate rows.length [.int .i64 0])] := by
    refine Ar.self ?_
    simp [List.map_const']
  have hx2 : Ext H (Hx ++ [Blk.row 3 .own (List.replicate rows.length [.int .i64 0])]) := hx.push _
  have hbx2 := get_push hbx [Blk.row 3 .own (List.replicate rows.length [.int .i64 0])]
  have hres2 := get_push hres [Blk.row 3 .own (List.replicate rows.length [.int .i64 0])]
  rw [← hself]
  generalize Hx ++ [Blk.row 3 .own (List.replicate rows.length [.int .i64 0])] = H2 at *
  generalize hbo : Hx.length = bo at *
  have hgeb : H.length ≤ bo := by omega
  refine VW.seq (VW.seq (VW.reg ?_))
  refine VOps.rd rfl rfl ?_
  refine VOps.rd rfl rfl ?_
  refine VOps.rd rfl rfl ?_
  refine VOps.nil ⟨rfl, ?_⟩
  show VW _ _ _ _ [(1, .ptr (some ⟨H.length, 0, 0⟩)), (2, .ptr (some ⟨H.length + 1, 0, 0⟩)), (4, .sl (some ⟨bo, 0, 0⟩) rows.length rows.length), (21, .int .i64 rows.length), (22, .int .i64 0)] _ _
  refine VW.mono (Q := fun e F2 Hx => e = .normal ∧ Cov [(1, .ptr (some ⟨H.length, 0, 0⟩)), (2, .ptr (some ⟨H.length + 1, 0, 0⟩)), (4, .sl (some ⟨bo, 0, 0⟩) rows.length rows.length)] F2 ∧ Hx = Ar H2 bo 3 .own rows.length (fun k => if k < rows.length then (k : Int) else 0)) ?_ ?_
  · refine VW.block ?_
    refine VW.loop (fun k F' H' => ∃ i : Int, 0 ≤ i ∧ i ≤ rows.length ∧ k = rows.length - i.toNat ∧ F' = [(1, .ptr (some ⟨H.length, 0, 0⟩)), (2, .ptr (some ⟨H.length + 1, 0, 0⟩)), (4, .sl (some ⟨bo, 0, 0⟩) rows.length rows.length), (21, .int .i64 rows.length), (22, .int .i64 i)] ∧
      H' = Ar H2 bo 3 .own rows.length (fun k => if k < i.toNat then (k : Int) else 0)) rows.length
      ⟨0, by omega, by omega, rfl, rfl, rfl⟩ ?_
    rintro k F' H' ⟨i, i0, il, rfl, rfl, rfl⟩
    by_cases hil : i < rows.length
    · have hv := wrap_id (x := i + 1) (by omega) (by omega)
      have e1 := Ar.ixp (t := 3) (md := .own) (f := fun k => if k < i.toNat then (k : Int) else 0) hob (k := i.toNat) (n := rows.length) (by omega)
      have e2 := Ar.stc (t := 3) (md := .own) (f := fun k => if k < i.toNat then (k : Int) else 0) hob (by decide) (k := i.toNat) (n := rows.length) (by omega) i
      have hfin : Hid (Ar H2 bo 3 .own rows.length (fun x => if x = i.toNat then i else if x < i.toNat then (x : Int) else 0) = Ar H2 bo 3 .own rows.length (fun k => if k < (i + 1).toNat then (k : Int) else 0)) := by
        unfold Hid
        congr 1
        funext x
        by_cases h1 : x = i.toNat
        · rw [if_pos h1, if_pos (by omega)]; omega
        · rw [if_neg h1]
          by_cases h2 : x < i.toNat
          · rw [if_pos h2, if_pos (by omega)]
          · rw [if_neg h2, if_neg (by omega)]
      generalize Ar H2 bo 3 .own rows.length (fun x => if x = i.toNat then i else if x < i.toNat then (x : Int) else 0) = G1 at *
      generalize Ar H2 bo 3 .own rows.length (fun x => if x < i.toNat then (x : Int) else 0) = G0 at *
      refine VW.seq (VW.reg ?_)
      refine VOps.rd rfl rfl ?_
      refine VOps.nil ⟨rfl, VW.seq (VW.condT (by simp [Fr.only, *]) (VW.skip ?_))⟩
      refine VW.seq (VW.block (VW.seq (VW.reg ?_)))
      refine VOps.rd rfl rfl ?_
      refine VOps.rd rfl rfl ?_
      refine VOps.nil ⟨rfl, VW.reg ?_⟩
      clear hself lb hbx hres hx hx2 hbx2 hres2 hall hok hr h
      repeat first
        | (apply VOps.rd; (focus (first | exact rfl | (simp [Fr.only, argsF, *]; done))); (focus (exact rfl)))
        | (apply VOps.sk; (focus (simp [Fr.only, argsF, *]; done)))
        | (apply VOps.rd; (focus (first | exact rfl | (simp [Fr.only, argsF, *]; done))); (focus (simp [Fr.only, argsF, *]; first | done | exact rfl)))
        | (apply VOps.ef; (focus (first | exact rfl | (simp [Fr.only, argsF, *]; done))); (focus (simp [Fr.only, argsF, *]; first | done | exact rfl | exact ⟨rfl, rfl⟩)))
      refine VOps.nil ⟨rfl, VW.reg ?_⟩
      refine VOps.rd rfl rfl ?_
      refine VOps.rd rfl rfl ?_
      exact VOps.nil ⟨rfl, rows.length - (i + 1).toNat, by omega, i + 1, by omega, by omega, rfl, by simp [Fr.only, hv], hfin⟩
    · have : i = rows.length := by omega
      subst this
      refine VW.seq (VW.reg ?_)
      refine VOps.rd rfl rfl ?_
      refine VOps.nil ⟨rfl, VW.seq (VW.condF (by simp [Fr.only]) (VW.exit ?_))⟩
      simp only [then_normal, then_ret, then_exit, inB_normal, inB_ret, inB_exit, reduceIte, Nat.reduceEqDiff]
      exact ⟨trivial, by simp [Cov, Fr.only], by rw [show ((rows.length : Int)).toNat = rows.length by omega]⟩
  rintro e F2 Hy ⟨rfl, hcov, rfl⟩
  refine VW.sub hcov ?_
  clear hcov hself
  -- it is sorted
  have hlr := rows_len hall
  have hcmp : CmpK H2 bo 3 .own rows.length (.fn 32 [.ptr (some ⟨H.length, 0, 0⟩)]) (keyR rows) (fun x => 0 ≤ x ∧ x < rows.length) :=
    ⟨fun x hx => by have := hlr x.toNat; unfold keyR; omega, 32, _, rfl, fun g x y hx hy => by
      have hxe : Ext H (Ar H2 bo 3 .own rows.length g) := Ar.ext hx2 hgeb
      exact cmp32 (p := p) (c := c) (vs := vs) (by
        have : (Ar H2 bo 3 .own rows.length g)[H.length]? = some (.row 22 .own [[.sl p rows.length c]]) := by rw [Ar.off (by omega)]; exact hbx2
        simp [ld, this]) (hxe.sl h) (hr.ext hxe) hlr hx.1 hx.2 hy.1 hy.2⟩
  have idf : ∀ k, k < rows.length → (fun k => if k < rows.length then (k : Int) else 0) k = k := fun k hk => if_pos hk
  have hsort := sort31 (c := rows.length) (f := fun k => if k < rows.length then (k : Int) else 0) hob (by decide) hn256 hcmp (fun k hk => by have := idf k hk; simp only at this; rw [this]; omega) (fun i j h1 h2 h3 => by rw [idf i (by omega), idf j h3]; omega)
  refine VW.seq (VW.reg ?_)
  refine VOps.rd rfl rfl ?_
  refine VOps.rd rfl rfl ?_
  refine VOps.call rfl rfl rfl (hsort.mono ?_)
  rintro r H3 ⟨rfl, g, rfl, w1, w2⟩
  refine VOps.nil ⟨rfl, ?_⟩
  show VW _ _ _ _ [(1, .ptr (some ⟨H.length, 0, 0⟩)), (2, .ptr (some ⟨H.length + 1, 0, 0⟩)), (4, .sl (some ⟨bo, 0, 0⟩) rows.length rows.length)] _ _
  have w3 : ∀ k, k < rows.length → ∃ j, j < rows.length ∧ g k = (j : Int) := fun k hk => by
    obtain ⟨j, q1, q2, q3⟩ := w2.1 k (by omega) hk; exact ⟨j, q2, q3.trans (if_pos q2)⟩
  have w4 : ∀ j, j < rows.length → ∃ i, i < rows.length ∧ g i = (j : Int) := fun j hj => by
    obtain ⟨i, q1, q2, q3⟩ := w2.2.1 j (by omega) hj; exact ⟨i, q2, q3.trans (if_pos hj)⟩
  have hord := sorted_ord w1 w3 w4 (fun i _ => hlr i)
  have hx3 : Ext H (Ar H2 bo 3 .own rows.length g) := Ar.ext hx2 hgeb
  have hbx3 : (Ar H2 bo 3 .own rows.length g)[H.length]? = some (.row 22 .own [[.sl p rows.length c]]) := by rw [Ar.off (by omega)]; exact hbx2
  have hres3 : (Ar H2 bo 3 .own rows.length g)[H.length + 1]? = some (.row 26 .own [[.sl none 0 0, .sl none 0 0, .sl none 0 0]]) := by rw [Ar.off (by omega)]; exact hres2
  have hobk : Sl (Ar H2 bo 3 .own rows.length g) (some ⟨bo, 0, 0⟩) 1 (intEs ((List.range rows.length).map g)) := by
    refine .inr ⟨bo, 0, .own, 3, _, rfl, Ar.at hob, fun e he => ?_, fun k e he => ?_⟩
    · obtain ⟨n, _, rfl⟩ := List.mem_map.1 he; rfl
    · simpa [intEs] using he
  generalize Ar H2 bo 3 .own rows.length g = H4 at *
  clear hsort hcmp w1 w2 w4 hx hres hbx lb hx2 hbx2 hres2
  -- nothing is laid yet
  have lb4 : ld H4 ⟨H.length, 0, 0⟩ = some (.sl p rows.length c) := by simp [ld, hbx3]
  have hcb : Comb 67 H4 ((H4 ++ [.row 3 .own (List.replicate rows.length [.int .i64 0])]) ++ [.row 67 .own [[.sl (some ⟨H4.length, 0, 0⟩) rows.length rows.length, .sl none 0 0, .sl none 0 0]]]) (H4.length + 1) H4.length none none ⟨List.replicate rows.length 0, [], []⟩ := by
    refine ⟨(Ext.app _ _).push _, ?_, ?_, ⟨rfl, rfl⟩, ⟨rfl, rfl⟩, by omega, Nat.le_refl _, fun k hk => (by cases hk), fun k hk => (by cases hk), fun k hk => (by cases hk)⟩
    · simp [gptr]
    · rw [rep_eq]; simp
  refine VW.seq (VW.reg ?_)
  refine VOps.rd (v := .sl p rows.length c) rfl (by simp [lb4]) ?_
  refine VOps.rd rfl rfl ?_
  refine VOps.ef (v := .sl (some ⟨H4.length, 0, 0⟩) rows.length rows.length) (H' := H4 ++ [.row 3 .own (List.replicate rows.length [.int .i64 0])]) rfl (by simp; omega) ?_
  refine VOps.rd rfl rfl ?_
  refine VOps.rd rfl rfl ?_
  refine VOps.ef (v := .ptr (some ⟨H4.length + 1, 0, 0⟩)) (H' := (H4 ++ [.row 3 .own (List.replicate rows.length [.int .i64 0])]) ++ [.row 67 .own [[.sl (some ⟨H4.length, 0, 0⟩) rows.length rows.length, .sl none 0 0, .sl none 0 0]]]) rfl (by simp [VV.cell]) ?_
  refine VOps.rd rfl rfl ?_
  refine VOps.nil ⟨rfl, ?_⟩
  show VW _ _ _ _ [(1, .ptr (some ⟨H.length, 0, 0⟩)), (2, .ptr (some ⟨H.length + 1, 0, 0⟩)), (4, .sl (some ⟨bo, 0, 0⟩) rows.length rows.length), (6, .ptr (some ⟨H4.length + 1, 0, 0⟩))] _ _
  generalize hic : H4.length + 1 = ic at *
  generalize (H4 ++ [.row 3 .own (List.replicate rows.length [.int .i64 0])]) ++ [.row 67 .own [[.sl (some ⟨H4.length, 0, 0⟩) rows.length rows.length, .sl none 0 0, .sl none 0 0]]] = H5 at *
  generalize hib : H4.length = ib at *
  clear lb4
  -- all rows, one after the other
  refine VW.seq (VW.seq (VW.reg ?_))
  refine VOps.rd rfl rfl ?_
  refine VOps.rd rfl rfl ?_
  refine VOps.rd rfl rfl ?_
  refine VOps.nil ⟨rfl, ?_⟩
  show VW _ _ _ _ [(1, .ptr (some ⟨H.length, 0, 0⟩)), (2, .ptr (some ⟨H.length + 1, 0, 0⟩)), (6, .ptr (some ⟨ic, 0, 0⟩)), (39, .sl (some ⟨bo, 0, 0⟩) rows.length rows.length), (40, .int .i64 rows.length), (41, .int .i64 0)] _ _
  refine VW.mono (Q := fun e F2 Hx => e = .normal ∧ Cov [(2, .ptr (some ⟨H.length + 1, 0, 0⟩)), (6, .ptr (some ⟨ic, 0, 0⟩))] F2 ∧ ∃ iv io, Comb 67 H4 Hx ic ib iv io (layR rows)) ?_ ?_
  · refine VW.block ?_
    refine VW.loop (fun k F' H' => ∃ (i : Int) (iv io : Option Nat) (s : Laid), 0 ≤ i ∧ i ≤ rows.length ∧ k = rows.length - i.toNat ∧ F' = [(1, .ptr (some ⟨H.length, 0, 0⟩)), (2, .ptr (some ⟨H.length + 1, 0, 0⟩)), (6, .ptr (some ⟨ic, 0, 0⟩)), (39, .sl (some ⟨bo, 0, 0⟩) rows.length rows.length), (40, .int .i64 rows.length), (41, .int .i64 i)] ∧
        Comb 67 H4 H' ic ib iv io s ∧ s.o.length = s.v.length ∧ s.o.length ≤ 256 * i.toNat ∧ s.bs.length = rows.length ∧
        layR rows = ((((List.range rows.length).map fun k => (g k).toNat).drop i.toNat).filter (fun i => decide (0 < rowLen rows i))).foldl (putR rows) s) rows.length
      ⟨0, none, none, ⟨List.replicate rows.length 0, [], []⟩, by omega, by omega, rfl, rfl, hcb, rfl, by simp, by simp, by rw [show (0 : Int).toNat = 0 from rfl, List.drop_zero, hord]; rfl⟩ ?_
    clear hcb
    rintro k F' H6 ⟨i, iv, io, s, i0, il, rfl, rfl, hcb, hov, ho, hbs, hS⟩
    by_cases hil : i < rows.length
    · have hk : i.toNat < rows.length := by omega
      have hv := wrap_id (x := i + 1) (by omega) (by omega)
      obtain ⟨q, e0, e1, e2⟩ := sl_int (hcb.ext.sl hobk) (k := i.toNat) (by simpa using hk)
      cases e0
      have hget : ((List.range rows.length).map g).getD i.toNat 0 = g i.toNat := by simp [List.getD, hk]
      rw [hget] at e2
      obtain ⟨j, hj, hgj⟩ := w3 i.toNat hk
      rw [hgj] at e2
      have hdrop : ((List.range rows.length).map fun k => (g k).toNat).drop i.toNat = j :: ((List.range rows.length).map fun k => (g k).toNat).drop (i + 1).toNat := by
        rw [List.drop_eq_getElem_cons (by simpa using hk), show (i + 1).toNat = i.toNat + 1 by omega]
        congr 1
        simp [hgj]
      rw [hdrop, List.filter_cons] at hS
      obtain ⟨qr, pk, ck, rfl, r1, r2, r3, r4⟩ := row_at (hx3.sl h) (hr.ext hx3) hj
      replace r1 := ext_ixp hcb.ext r1
      replace r2 := ext_ld hcb.ext r2
      have lb6 := ext_ld hcb.ext (show ld H4 ⟨H.length, 0, 0⟩ = some (.sl (some qr) rows.length c) by simp [ld, hbx3])
      have hj1 : (j : Int) < rows.length := by omega
      have hrl : rowLen rows j = (rows.getD j []).length := rfl
      have hokj := rows_ok hall j
      have hlj := hlr j
      have hput := put33 (i := (j : Int)) (c := ck) (p := pk) hcb r3 r4 hokj hov (by omega) (by omega) (by rw [hbs]; exact hj1)
      rw [show ((j : Int)).toNat = j by omega] at hput
      obtain ⟨u1, u2, u3⟩ := putS_len (s := s) (i := j) hokj hov
      refine VW.seq (VW.reg ?_)
      refine VOps.rd rfl rfl ?_
      refine VOps.nil ⟨rfl, VW.seq (VW.condT (by simp [Fr.only, *]) (VW.skip ?_))⟩
      refine VW.seq (VW.block (VW.seq (VW.reg ?_)))
      refine VOps.rd (v := .ptr (some (elp (some ⟨bo, 0, 0⟩) i.toNat))) rfl (by simp [Fr.only, e1, i0, hil]) ?_
      refine VOps.rd (v := .int .i64 j) rfl (by simp [e2]) ?_
      refine VOps.rd rfl rfl ?_
      refine VOps.nil ⟨rfl, ?_⟩
      refine VW.seq (VW.reg ?_)
      refine VOps.rd (v := .sl (some qr) rows.length c) rfl (by simp [Fr.only, lb6]) ?_
      refine VOps.rd rfl rfl ?_
      refine VOps.rd (v := .ptr (some (elp (some qr) j))) rfl (by simp [Fr.only, r1, hj]) ?_
      refine VOps.rd (v := .sl pk (rows.getD j []).length ck) rfl (by simp [r2]) ?_
      refine VOps.rd rfl rfl ?_
      refine VOps.rd rfl rfl ?_
      refine VOps.nil ⟨rfl, ?_⟩
      have leave : ∀ (F : Fr) (H7 : Hp) (iv io : Option Nat) (s' : Laid), Cov [(1, .ptr (some ⟨H.length, 0, 0⟩)), (2, .ptr (some ⟨H.length + 1, 0, 0⟩)), (6, .ptr (some ⟨ic, 0, 0⟩)), (39, .sl (some ⟨bo, 0, 0⟩) rows.length rows.length), (40, .int .i64 rows.length), (41, .int .i64 i)] F →
          Comb 67 H4 H7 ic ib iv io s' → s'.o.length = s'.v.length → s'.o.length ≤ 256 * (i + 1).toNat → s'.bs.length = rows.length →
          layR rows = ((((List.range rows.length).map fun k => (g k).toNat).drop (i + 1).toNat).filter (fun i => decide (0 < rowLen rows i))).foldl (putR rows) s' →
          VW Try.prog B 63 (VC.reg [VI.rd 58 none (VOp.bin (BinOp.add) (Od.t 41) (Od.c (VV.int (IntKind.i64) 1))), VI.rd 41 none (VOp.mv (Od.t 58))] [1, 2, 6, 39, 40, 41]) F H7
            (Then (fun F2 H2 => ∃ m, m < rows.length - i.toNat ∧ ∃ (i : Int) (iv io : Option Nat) (s : Laid), 0 ≤ i ∧ i ≤ rows.length ∧ m = rows.length - i.toNat ∧ F2 = [(1, .ptr (some ⟨H.length, 0, 0⟩)), (2, .ptr (some ⟨H.length + 1, 0, 0⟩)), (6, .ptr (some ⟨ic, 0, 0⟩)), (39, .sl (some ⟨bo, 0, 0⟩) rows.length rows.length), (40, .int .i64 rows.length), (41, .int .i64 i)] ∧
              Comb 67 H4 H2 ic ib iv io s ∧ s.o.length = s.v.length ∧ s.o.length ≤ 256 * i.toNat ∧ s.bs.length = rows.length ∧
              layR rows = ((((List.range rows.length).map fun k => (g k).toNat).drop i.toNat).filter (fun i => decide (0 < rowLen rows i))).foldl (putR rows) s)
              (inB 2 fun e F2 Hx => e = .normal ∧ Cov [(2, .ptr (some ⟨H.length + 1, 0, 0⟩)), (6, .ptr (some ⟨ic, 0, 0⟩))] F2 ∧ ∃ iv io, Comb 67 H4 Hx ic ib iv io (layR rows))) := by
        intro F H7 iv' io' s' hcov z1 z2 z3 z4 z5
        refine VW.sub hcov (VW.reg ?_)
        refine VOps.rd rfl rfl ?_
        refine VOps.rd rfl rfl ?_
        exact VOps.nil ⟨rfl, rows.length - (i + 1).toNat, by omega, i + 1, iv', io', s', by omega, by omega, rfl, by simp [Fr.only, hv], z1, z2, z3, z4, z5⟩
      refine VW.cond rfl (fun a => ?_) (fun a => ?_)
      · have a : 0 < rowLen rows j := by have := of_decide_eq_true a; omega
        rw [if_pos (by simpa using a), List.foldl_cons] at hS
        refine VW.reg ?_
        refine VOps.rd rfl rfl ?_
        refine VOps.rd rfl rfl ?_
        refine VOps.rd (v := .sl (some qr) rows.length c) rfl (by simp [Fr.only, lb6]) ?_
        refine VOps.rd rfl rfl ?_
        refine VOps.rd (v := .ptr (some (elp (some qr) j))) rfl (by simp [Fr.only, r1, hj]) ?_
        refine VOps.rd (v := .sl pk (rows.getD j []).length ck) rfl (by simp [r2]) ?_
        refine VOps.call rfl rfl rfl (hput.mono ?_)
        rintro r H7 ⟨rfl, iv', io', hc7⟩
        refine VOps.nil ⟨rfl, ?_⟩
        exact leave _ _ iv' io' _ (by simp [Cov, Fr.only]) hc7 u1 (by omega) (by rw [u3]; exact hbs) hS
      · have a : ¬ 0 < rowLen rows j := by have := of_decide_eq_false a; omega
        rw [if_neg (by simpa using a)] at hS
        exact VW.skip (leave _ _ iv io s (by simp [Cov, Fr.only]) hcb hov (by omega) hbs hS)
    · have : i = rows.length := by omega
      subst this
      rw [List.drop_of_length_le (by simp)] at hS
      refine VW.seq (VW.reg ?_)
      refine VOps.rd rfl rfl ?_
      refine VOps.nil ⟨rfl, VW.seq (VW.condF (by simp [Fr.only]) (VW.exit ?_))⟩
      simp only [then_normal, then_ret, then_exit, inB_normal, inB_ret, inB_exit, reduceIte, Nat.reduceEqDiff]
      exact ⟨trivial, by simp [Cov, Fr.only], iv, io, by rw [hS]; exact hcb⟩
  rintro e F2 H6 ⟨rfl, hcov, iv, io, hcb6⟩
  refine VW.sub hcov ?_
  have l6 := hcb6.lds
  have hres6 := hcb6.ext.get hres3
  have hlt4 := get_lt hres3
  have hst : ∀ a b c : VV, a.cell = true → b.cell = true → c.cell = true → stc H6 ⟨H.length + 1, 0, 0⟩ [a, b, c] = some (H6.set (H.length + 1) (.row 26 .own [[a, b, c]])) := by
    intro a b c ha hb hc
    have hk : okCells [a, b, c] = true := by simp only [okCells, List.all_cons, List.all_nil, ha, hb, hc, Bool.and_true]
    simp only [stc, hres6, if_neg (show Vm.Mode.own ≠ .ro by decide), List.getElem?_cons_zero, hk]
    simp [upd]
  have hfin := hcb6.under hx3 (j := H.length + 1) (by omega) hlt4
  refine VW.seq (VW.reg ?_)
  refine VOps.rd rfl rfl ?_
  refine VOps.rd rfl rfl ?_
  refine VOps.rd rfl rfl ?_
  refine VOps.rd rfl (by simp [l6]; rfl) ?_
  refine VOps.ef (v := .undef) rfl (by simp; rw [hst _ _ _ rfl rfl rfl]) ?_
  refine VOps.rd rfl rfl ?_
  refine VOps.nil ⟨rfl, VW.ret ⟨.inl rfl, ?_⟩⟩
  have hl := lds_own (H := H6.set (H.length + 1) (.row 26 .own [[.sl (some ⟨ib, 0, 0⟩) (layR rows).bs.length (layR rows).bs.length, .sl (gptr iv) (layR rows).v.length (layR rows).v.length, .sl (gptr io) (layR rows).o.length (layR rows).o.length]])) (i := H.length + 1) (by rw [List.getElem?_set_self (get_lt hres6)]) 0 3
  refine ⟨.tup [.agg [.sl (some ⟨ib, 0, 0⟩) (layR rows).bs.length (layR rows).bs.length, .sl (gptr iv) (layR rows).v.length (layR rows).v.length, .sl (gptr io) (layR rows).o.length (layR rows).o.length], .int .i64 0], by simp [resV, resL, hl, Fr.only], ?_⟩
  unfold LayR
  rw [if_pos hok]
  exact ⟨ic, ib, iv, io, hfin _, rfl⟩
end
end Go.Proofs.Ytlclbfkdaemilaa
