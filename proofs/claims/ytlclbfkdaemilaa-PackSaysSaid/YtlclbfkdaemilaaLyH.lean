/- Lay of the document over the canonical heap. -/
import Derived.Test.YtlclbfkdaemilaaLyG
namespace Go.Proofs.Ytlclbfkdaemilaa
set_option linter.unusedSimpArgs false
set_option linter.unusedVariables false
open Go Go.Vm Go.Proofs So
set_option maxRecDepth 100000
set_option maxHeartbeats 2000000

def idxFrom (rows : List Edges) (n i : Nat) : List Nat := ((List.range rows.length).drop i).filter fun i => rowLen rows i == n
theorem idxFrom_step {rows : List Edges} {n i : Nat} (h : i < rows.length) : idxFrom rows n i = if rowLen rows i = n then i :: idxFrom rows n (i + 1) else idxFrom rows n (i + 1) := by
  unfold idxFrom
  rw [List.drop_eq_getElem_cons (by simpa using h), List.filter_cons]
  simp
theorem idxFrom_end {rows : List Edges} {n : Nat} : idxFrom rows n rows.length = [] := by
  unfold idxFrom; rw [List.drop_of_length_le (by simp)]; rfl
theorem filter_or {p q r : Nat → Bool} (hpq : ∀ x, r x = (p x || q x)) (hd : ∀ x, p x = true → q x = false) : ∀ l : List Nat, (l.filter p).length + l.countP q = l.countP r
  | [] => rfl
  | x :: l => by
    have ih := filter_or hpq hd l
    rw [List.filter_cons, List.countP_cons, List.countP_cons, hpq x]
    cases hp : p x with
    | true => have := hd x hp; simp [this]; omega
    | false => cases hq : q x <;> simp <;> omega
theorem ordN_len {rows : List Edges} : ∀ n, (ordN rows n).length = (List.range rows.length).countP fun i => decide (1 ≤ rowLen rows i) && decide (rowLen rows i ≤ n)
  | 0 => by
    symm
    rw [ordN, List.length_nil, List.countP_eq_zero]
    intro x _
    simp; omega
  | n + 1 => by
    rw [ordN, List.length_append, ordN_len n]
    refine filter_or (fun x => ?_) (fun x hx => ?_) _
    · rw [Bool.eq_iff_iff]
      simp only [Bool.and_eq_true, Bool.or_eq_true, decide_eq_true_eq, beq_iff_eq]; omega
    · simp only [beq_iff_eq] at hx
      simp only [Bool.and_eq_false_iff, decide_eq_false_iff_not]; omega
theorem ordN_le {rows : List Edges} (n : Nat) : (ordN rows n).length ≤ rows.length := by
  rw [ordN_len]
  exact Nat.le_trans (List.countP_le_length ..) (by simp)

section
variable {H : Hp} {p : Option PA} {vs : List VV} {rows : List Edges} {c : Nat}
theorem lay11 (h : Sl H p 1 (vs.map fun v => [v])) (hr : RowV H vs rows) (hn : rows.length ≤ maxLen) : FnV Try.prog 11 [.sl p rows.length c] H fun r H' => LayR 26 H H' rows r := by
  refine FnV.enterRow ok11 (by show 1 ≤ 113; decide) fun B => ?_
  dsimp only [w11]
  have hmx : maxLen = 9223372036854775807 := rfl
  refine VW.seq (VW.reg ?_)
  refine VOps.ef (v := .ptr (some ⟨H.length, 0, 0⟩)) (H' := H ++ [.row 26 .own [[.sl none 0 0, .sl none 0 0, .sl none 0 0]]]) rfl (by simp) ?_
  refine VOps.rd rfl rfl ?_
  refine VOps.nil ⟨rfl, ?_⟩
  have hx : Ext H (H ++ [.row 26 .own [[.sl none 0 0, .sl none 0 0, .sl none 0 0]]]) := .app _ _
  have hres : (H ++ [Blk.row 26 .own [[.sl none 0 0, .sl none 0 0, .sl none 0 0]]])[H.length]? = some (.row 26 .own [[.sl none 0 0, .sl none 0 0, .sl none 0 0]]) := by simp
  show VW _ _ _ _ [(0, .sl p rows.length c), (2, .ptr (some ⟨H.length, 0, 0⟩))] _ _
  generalize H ++ [Blk.row 26 .own [[.sl none 0 0, .sl none 0 0, .sl none 0 0]]] = H1 at *
  have hst : stc H1 ⟨H.length, 0, 0⟩ [.sl none 0 0, .sl none 0 0, .sl none 0 0] = some (H1.set H.length (.row 26 .own [[.sl none 0 0, .sl none 0 0, .sl none 0 0]])) := by
    simp [stc, hres, okCells, VV.cell, upd]
  -- refused
  have bad : ∀ F, layOk rows = false → Cov [(2, .ptr (some ⟨H.length, 0, 0⟩))] F → VW Try.prog B 113 (VC.seq (VC.reg [VI.rd 14 none (VOp.build [VV.sl none 0 0, VV.sl none 0 0, VV.sl none 0 0] []), VI.ef none none (VEf.store 3 (Od.t 2) (Od.t 14)), VI.rd 3 none (VOp.mv (Od.c (VV.int (IntKind.i64) 1)))] [2, 3]) (VC.ret)) F H1
      fun e F' Hx => e = .ret ∧ ∃ v, resV F' Hx [RV.c 2 3 true, RV.t 3] = some v ∧ LayR 26 H Hx rows v := by
    intro F hno hcov
    refine VW.sub hcov (VW.seq (VW.reg ?_))
    refine VOps.rd rfl rfl ?_
    refine VOps.ef (v := .undef) (H' := H1.set H.length (.row 26 .own [[.sl none 0 0, .sl none 0 0, .sl none 0 0]])) rfl (by simp [hst]) ?_
    refine VOps.rd rfl rfl ?_
    refine VOps.nil ⟨rfl, VW.ret ⟨rfl, ?_⟩⟩
    have hl := lds_own (H := H1.set H.length (.row 26 .own [[.sl none 0 0, .sl none 0 0, .sl none 0 0]])) (i := H.length) (by rw [List.getElem?_set_self (get_lt hres)]) 0 3
    refine ⟨.tup [.agg [.sl none 0 0, .sl none 0 0, .sl none 0 0], .int .i64 1], by simp [resV, resL, hl, Fr.only], ?_⟩
    unfold LayR
    rw [if_neg (by simp [hno])]
    exact ⟨hx.set (Nat.le_refl _) _, rfl⟩
  have bad2 : ∀ F, layOk rows = false → Cov [(2, .ptr (some ⟨H.length, 0, 0⟩))] F → VW Try.prog B 113 (VC.seq (VC.reg [VI.rd 27 none (VOp.build [VV.sl none 0 0, VV.sl none 0 0, VV.sl none 0 0] []), VI.ef none none (VEf.store 3 (Od.t 2) (Od.t 27)), VI.rd 3 none (VOp.mv (Od.c (VV.int (IntKind.i64) 1)))] [2, 3]) (VC.ret)) F H1
      fun e F' Hx => e = .ret ∧ ∃ v, resV F' Hx [RV.c 2 3 true, RV.t 3] = some v ∧ LayR 26 H Hx rows v := by
    intro F hno hcov
    refine VW.sub hcov (VW.seq (VW.reg ?_))
    refine VOps.rd rfl rfl ?_
    refine VOps.ef (v := .undef) (H' := H1.set H.length (.row 26 .own [[.sl none 0 0, .sl none 0 0, .sl none 0 0]])) rfl (by simp [hst]) ?_
    refine VOps.rd rfl rfl ?_
    refine VOps.nil ⟨rfl, VW.ret ⟨rfl, ?_⟩⟩
    have hl := lds_own (H := H1.set H.length (.row 26 .own [[.sl none 0 0, .sl none 0 0, .sl none 0 0]])) (i := H.length) (by rw [List.getElem?_set_self (get_lt hres)]) 0 3
    refine ⟨.tup [.agg [.sl none 0 0, .sl none 0 0, .sl none 0 0], .int .i64 1], by simp [resV, resL, hl, Fr.only], ?_⟩
    unfold LayR
    rw [if_neg (by simp [hno])]
    exact ⟨hx.set (Nat.le_refl _) _, rfl⟩
  by_cases hbig : 256 < (rows.length : Int)
  · have hlo : layOk rows = false := by unfold layOk; rw [decide_eq_false (by omega)]; rfl
    refine VW.seq (VW.seq (VW.reg ?_))
    refine VOps.rd rfl rfl ?_
    refine VOps.rd rfl rfl ?_
    refine VOps.rd rfl rfl ?_
    refine VOps.nil ⟨rfl, VW.condT (by simp [Fr.only, hbig]) ((bad _ hlo (by simp [Cov, Fr.only])).mono ?_)⟩
    rintro e F' Hx ⟨rfl, h⟩
    exact ⟨.inl rfl, h⟩
  refine VW.seq (VW.seq (VW.reg ?_))
  refine VOps.rd rfl rfl ?_
  refine VOps.rd rfl rfl ?_
  refine VOps.rd rfl rfl ?_
  refine VOps.nil ⟨rfl, VW.condF (by simp [Fr.only, hbig]) (VW.skip ?_)⟩
  clear bad
  -- each is a row
  refine VW.seq (VW.seq (VW.reg ?_))
  refine VOps.rd rfl rfl ?_
  refine VOps.nil ⟨rfl, ?_⟩
  show VW _ _ _ _ [(0, .sl p rows.length c), (2, .ptr (some ⟨H.length, 0, 0⟩)), (4, .int .i64 0)] _ _
  refine VW.mono (Q := fun e F2 Hx => (e = .ret ∧ ∃ v, resV F2 Hx [RV.c 2 3 true, RV.t 3] = some v ∧ LayR 26 H Hx rows v) ∨ (e = .normal ∧ Cov [(0, .sl p rows.length c), (2, .ptr (some ⟨H.length, 0, 0⟩))] F2 ∧ Hx = H1 ∧ rows.all isRowS = true)) ?_ ?_
  · refine VW.block ?_
    refine VW.loop (fun k F' H' => ∃ i : Int, 0 ≤ i ∧ i ≤ rows.length ∧ k = rows.length - i.toNat ∧ F' = [(0, .sl p rows.length c), (2, .ptr (some ⟨H.length, 0, 0⟩)), (4, .int .i64 i)] ∧ H' = H1 ∧ ∀ j, j < i.toNat → isRowS (rows.getD j []) = true) rows.length
      ⟨0, by omega, by omega, rfl, rfl, rfl, fun j hj => by omega⟩ ?_
    rintro k F' H' ⟨i, i0, il, rfl, rfl, rfl, hall⟩
    by_cases hil : i < rows.length
    · have hk : i.toNat < rows.length := by omega
      have hv := wrap_id (x := i + 1) (by omega) (by omega)
      obtain ⟨qr, pk, ck, rfl, r1, r2, r3, r4⟩ := row_at (hx.sl h) (hr.ext hx) hk
      have hcall := isRow34 (c := ck) r3 r4
      refine VW.seq (VW.seq (VW.reg ?_))
      refine VOps.rd rfl rfl ?_
      refine VOps.rd rfl rfl ?_
      refine VOps.rd rfl rfl ?_
      refine VOps.rd rfl rfl ?_
      refine VOps.nil ⟨rfl, VW.condT (by simp [Fr.only, hil]) (VW.skip ?_)⟩
      refine VW.seq (VW.block (VW.seq (VW.reg ?_)))
      refine VOps.rd rfl rfl ?_
      refine VOps.rd rfl rfl ?_
      refine VOps.rd (v := .ptr (some (elp (some qr) i.toNat))) rfl (by simp [Fr.only, r1, i0, hil]) ?_
      refine VOps.rd (v := .sl pk (rows.getD i.toNat []).length ck) rfl (by simp [r2]) ?_
      refine VOps.call rfl rfl rfl (hcall.mono ?_)
      rintro r H2 ⟨rfl, rfl⟩
      refine VOps.rd rfl rfl ?_
      refine VOps.nil ⟨rfl, ?_⟩
      cases hrow : isRowS (rows.getD i.toNat []) with
      | false =>
        have hlo : layOk rows = false := by
          unfold layOk
          rw [Bool.and_eq_false_iff]; right
          rw [← Bool.not_eq_true, List.all_eq_true]
          intro hh
          have := hh rows[i.toNat] (List.getElem_mem ..)
          rw [List.getD_eq_getElem?_getD, List.getElem?_eq_getElem hk] at hrow
          simp only [Option.getD_some] at hrow
          rw [hrow] at this; cases this
        refine VW.condT (by simp [Fr.only, Fr.pt]) ((bad2 _ hlo (by simp [Cov, Fr.only])).mono ?_)
        rintro e F' Hx ⟨rfl, h⟩
        exact .inl ⟨rfl, h⟩
      | true =>
        refine VW.condF (by simp [Fr.only, Fr.pt]) (VW.skip ?_)
        refine VW.reg ?_
        refine VOps.rd rfl rfl ?_
        refine VOps.rd rfl rfl ?_
        refine VOps.rd rfl rfl ?_
        refine VOps.nil ⟨rfl, rows.length - (i + 1).toNat, by omega, i + 1, by omega, by omega, rfl, by simp [Fr.only, hv], rfl, fun j hj => ?_⟩
        by_cases e : j = i.toNat
        · rw [e]; exact hrow
        · exact hall j (by omega)
    · have : i = rows.length := by omega
      subst this
      refine VW.seq (VW.seq (VW.reg ?_))
      refine VOps.rd rfl rfl ?_
      refine VOps.rd rfl rfl ?_
      refine VOps.rd rfl rfl ?_
      refine VOps.rd rfl rfl ?_
      refine VOps.nil ⟨rfl, VW.condF (by simp [Fr.only]) (VW.exit ?_)⟩
      simp only [then_normal, then_ret, then_exit, inB_normal, inB_ret, inB_exit, reduceIte, Nat.reduceEqDiff]
      refine .inr ⟨trivial, by simp [Cov, Fr.only], trivial, List.all_eq_true.2 fun l hl => ?_⟩
      obtain ⟨k, hk, rfl⟩ := List.getElem_of_mem hl
      have := hall k (by omega)
      rwa [List.getD_eq_getElem?_getD, List.getElem?_eq_getElem hk] at this
  rintro e F2 Hx (⟨rfl, h⟩ | ⟨rfl, hcov, rfl, hall⟩)
  · exact ⟨.inl rfl, h⟩
  clear bad2 hst
  refine VW.sub hcov ?_
  clear hcov
  have hn256 : rows.length ≤ 256 := by omega
  have hok : layOk rows = true := by unfold layOk; rw [hall, decide_eq_true hn256]; rfl
  have hlr := rows_len hall
  -- nothing is laid yet
  have hcb : Comb 26 Hx ((Hx ++ [.row 3 .own (List.replicate rows.length [.int .i64 0])]) ++ [.row 26 .own [[.sl (some ⟨Hx.length, 0, 0⟩) rows.length rows.length, .sl none 0 0, .sl none 0 0]]]) (Hx.length + 1) Hx.length none none ⟨List.replicate rows.length 0, [], []⟩ := by
    refine ⟨(Ext.app _ _).push _, ?_, ?_, ⟨rfl, rfl⟩, ⟨rfl, rfl⟩, by omega, Nat.le_refl _, fun k hk => (by cases hk), fun k hk => (by cases hk), fun k hk => (by cases hk)⟩
    · simp [gptr]
    · rw [rep_eq]; simp
  refine VW.seq (VW.reg ?_)
  refine VOps.rd rfl rfl ?_
  refine VOps.rd rfl rfl ?_
  refine VOps.ef (v := .sl (some ⟨Hx.length, 0, 0⟩) rows.length rows.length) (H' := Hx ++ [.row 3 .own (List.replicate rows.length [.int .i64 0])]) rfl (by simp; omega) ?_
  refine VOps.rd rfl rfl ?_
  refine VOps.ef (v := .ptr (some ⟨Hx.length + 1, 0, 0⟩)) (H' := (Hx ++ [.row 3 .own (List.replicate rows.length [.int .i64 0])]) ++ [.row 26 .own [[.sl none 0 0, .sl none 0 0, .sl none 0 0]]]) rfl (by simp) ?_
  refine VOps.ef (v := .undef) (H' := (Hx ++ [.row 3 .own (List.replicate rows.length [.int .i64 0])]) ++ [.row 26 .own [[.sl (some ⟨Hx.length, 0, 0⟩) rows.length rows.length, .sl none 0 0, .sl none 0 0]]]) rfl (by simp [stc, okCells, VV.cell, upd]) ?_
  refine VOps.nil ⟨rfl, ?_⟩
  show VW _ _ _ _ [(0, .sl p rows.length c), (2, .ptr (some ⟨H.length, 0, 0⟩)), (5, .ptr (some ⟨Hx.length + 1, 0, 0⟩))] _ _
  generalize (Hx ++ [.row 3 .own (List.replicate rows.length [.int .i64 0])]) ++ [.row 26 .own [[.sl (some ⟨Hx.length, 0, 0⟩) rows.length rows.length, .sl none 0 0, .sl none 0 0]]] = H5 at *
  generalize hic : Hx.length + 1 = ic at *
  generalize hib : Hx.length = ib at *
  refine VW.seq (VW.seq (VW.reg ?_))
  refine VOps.rd rfl rfl ?_
  refine VOps.nil ⟨rfl, ?_⟩
  show VW _ _ _ _ [(0, .sl p rows.length c), (2, .ptr (some ⟨H.length, 0, 0⟩)), (5, .ptr (some ⟨ic, 0, 0⟩)), (6, .int .i64 256)] _ _
  refine VW.mono (Q := fun e F2 H6 => e = .normal ∧ Cov [(2, .ptr (some ⟨H.length, 0, 0⟩)), (5, .ptr (some ⟨ic, 0, 0⟩))] F2 ∧ ∃ iv io, Comb 26 Hx H6 ic ib iv io (layR rows)) ?_ ?_
  · refine VW.block ?_
    refine VW.loop (fun m F' H' => ∃ (n : Nat) (iv io : Option Nat) (s : Laid), n ≤ 256 ∧ m = n ∧ F' = [(0, .sl p rows.length c), (2, .ptr (some ⟨H.length, 0, 0⟩)), (5, .ptr (some ⟨ic, 0, 0⟩)), (6, .int .i64 n)] ∧
        Comb 26 Hx H' ic ib iv io s ∧ s.o.length = s.v.length ∧ s.o.length + 256 * (ordN rows n).length ≤ 65536 ∧ s.bs.length = rows.length ∧ layR rows = (ordN rows n).foldl (putR rows) s) 256
      ⟨256, none, none, ⟨List.replicate rows.length 0, [], []⟩, by omega, rfl, rfl, hcb, rfl, by have := ordN_le (rows := rows) 256; simp; omega, by simp, rfl⟩ ?_
    clear hcb
    rintro n F' H6 ⟨_, iv, io, s, hn', rfl, rfl, hcb, hov, ho, hbs, hS⟩
    cases n with
    | zero =>
      refine VW.seq (VW.seq (VW.reg ?_))
      refine VOps.rd rfl rfl ?_
      refine VOps.rd rfl rfl ?_
      refine VOps.nil ⟨rfl, VW.condF (by simp [Fr.only]) (VW.exit ?_)⟩
      simp only [then_normal, then_ret, then_exit, inB_normal, inB_ret, inB_exit, reduceIte, Nat.reduceEqDiff]
      exact ⟨trivial, by simp [Cov, Fr.only], iv, io, by rw [hS]; exact hcb⟩
    | succ n =>
      have hv := wrap_id (x := (((n + 1 : Nat) : Int)) - 1) (by omega) (by omega)
      rw [show (((n + 1 : Nat) : Int)) - 1 = n by omega] at hv
      have hn0 : (0 : Int) < ((n + 1 : Nat) : Int) := by omega
      have hnid : Hid (((n + 1 : Nat) : Int) - 1 = n) := by unfold Hid; omega
      generalize hN : ((n + 1 : Nat) : Int) = N at *
      refine VW.seq (VW.seq (VW.reg ?_))
      refine VOps.rd rfl rfl ?_
      refine VOps.rd rfl rfl ?_
      refine VOps.nil ⟨rfl, VW.condT (by simp [Fr.only, hn0]) (VW.skip ?_)⟩
      refine VW.seq (VW.block (VW.seq (VW.reg ?_)))
      refine VOps.rd rfl rfl ?_
      refine VOps.nil ⟨rfl, ?_⟩
      show VW _ _ _ _ [(0, .sl p rows.length c), (2, .ptr (some ⟨H.length, 0, 0⟩)), (5, .ptr (some ⟨ic, 0, 0⟩)), (6, .int .i64 N), (7, .int .i64 0)] _ _
      refine VW.mono (Q := fun e F2 H6 => e = .normal ∧ Cov [(0, .sl p rows.length c), (2, .ptr (some ⟨H.length, 0, 0⟩)), (5, .ptr (some ⟨ic, 0, 0⟩)), (6, .int .i64 N)] F2 ∧ ∃ iv io s, Comb 26 Hx H6 ic ib iv io s ∧
          s.o.length = s.v.length ∧ s.o.length + 256 * (ordN rows n).length ≤ 65536 ∧ s.bs.length = rows.length ∧ layR rows = (ordN rows n).foldl (putR rows) s) ?_ ?_
      · refine VW.block ?_
        refine VW.loop (fun m F' H' => ∃ (i : Int) (iv io : Option Nat) (s : Laid), 0 ≤ i ∧ i ≤ rows.length ∧ m = rows.length - i.toNat ∧ F' = [(0, .sl p rows.length c), (2, .ptr (some ⟨H.length, 0, 0⟩)), (5, .ptr (some ⟨ic, 0, 0⟩)), (6, .int .i64 N), (7, .int .i64 i)] ∧
            Comb 26 Hx H' ic ib iv io s ∧ s.o.length = s.v.length ∧ s.o.length + 256 * ((idxFrom rows (n + 1) i.toNat).length + (ordN rows n).length) ≤ 65536 ∧ s.bs.length = rows.length ∧
            layR rows = (ordN rows n).foldl (putR rows) ((idxFrom rows (n + 1) i.toNat).foldl (putR rows) s)) rows.length
          ⟨0, iv, io, s, by omega, by omega, rfl, rfl, hcb, hov, by
            rw [ordN, List.length_append] at ho; exact ho, hbs, by
            rw [ordN, List.foldl_append] at hS; exact hS⟩ ?_
        clear hcb hov ho hbs hS
        rintro m F' H7 ⟨i, iv, io, s, i0, il, rfl, rfl, hcb, hov, ho, hbs, hS⟩
        by_cases hil : i < rows.length
        · have hk : i.toNat < rows.length := by omega
          have hv2 := wrap_id (x := i + 1) (by omega) (by omega)
          obtain ⟨qr, pk, ck, rfl, r1, r2, r3, r4⟩ := row_at (hx.sl h) (hr.ext hx) hk
          replace r1 := fun {H7 : Hp} (e : Ext Hx H7) => ext_ixp e r1
          replace r2 := fun {H7 : Hp} (e : Ext Hx H7) => ext_ld e r2
          rw [idxFrom_step hk] at ho hS
          have hokj := rows_ok hall i.toNat
          have hlj := hlr i.toNat
          have hrl : rowLen rows i.toNat = (rows.getD i.toNat []).length := rfl
          have leave : ∀ (F : Fr) (H8 : Hp) (iv io : Option Nat) (s' : Laid), Cov [(0, .sl (some qr) rows.length c), (2, .ptr (some ⟨H.length, 0, 0⟩)), (5, .ptr (some ⟨ic, 0, 0⟩)), (6, .int .i64 N), (7, .int .i64 i)] F →
              Comb 26 Hx H8 ic ib iv io s' → s'.o.length = s'.v.length → s'.o.length + 256 * ((idxFrom rows (n + 1) (i + 1).toNat).length + (ordN rows n).length) ≤ 65536 → s'.bs.length = rows.length →
              layR rows = (ordN rows n).foldl (putR rows) ((idxFrom rows (n + 1) (i + 1).toNat).foldl (putR rows) s') →
              VW Try.prog B 113 (VC.reg [VI.rd 40 none (VOp.mv (Od.t 7)), VI.rd 41 none (VOp.bin (BinOp.add) (Od.t 40) (Od.c (VV.int (IntKind.i64) 1))), VI.rd 7 none (VOp.mv (Od.t 41))] [0, 2, 5, 6, 7]) F H8
                (Then (fun F2 H2 => ∃ m, m < rows.length - i.toNat ∧ ∃ (i : Int) (iv io : Option Nat) (s : Laid), 0 ≤ i ∧ i ≤ rows.length ∧ m = rows.length - i.toNat ∧ F2 = [(0, .sl (some qr) rows.length c), (2, .ptr (some ⟨H.length, 0, 0⟩)), (5, .ptr (some ⟨ic, 0, 0⟩)), (6, .int .i64 N), (7, .int .i64 i)] ∧
                  Comb 26 Hx H2 ic ib iv io s ∧ s.o.length = s.v.length ∧ s.o.length + 256 * ((idxFrom rows (n + 1) i.toNat).length + (ordN rows n).length) ≤ 65536 ∧ s.bs.length = rows.length ∧
                  layR rows = (ordN rows n).foldl (putR rows) ((idxFrom rows (n + 1) i.toNat).foldl (putR rows) s))
                  (inB 4 fun e F2 H6 => e = .normal ∧ Cov [(0, .sl (some qr) rows.length c), (2, .ptr (some ⟨H.length, 0, 0⟩)), (5, .ptr (some ⟨ic, 0, 0⟩)), (6, .int .i64 N)] F2 ∧ ∃ iv io s, Comb 26 Hx H6 ic ib iv io s ∧
                    s.o.length = s.v.length ∧ s.o.length + 256 * (ordN rows n).length ≤ 65536 ∧ s.bs.length = rows.length ∧ layR rows = (ordN rows n).foldl (putR rows) s)) := by
            intro F H8 iv' io' s' hcov z1 z2 z3 z4 z5
            refine VW.sub hcov (VW.reg ?_)
            refine VOps.rd rfl rfl ?_
            refine VOps.rd rfl rfl ?_
            refine VOps.rd rfl rfl ?_
            exact VOps.nil ⟨rfl, rows.length - (i + 1).toNat, by omega, i + 1, iv', io', s', by omega, by omega, rfl, by simp [Fr.only, hv2], z1, z2, z3, z4, z5⟩
          rw [show i.toNat + 1 = (i + 1).toNat by omega] at ho hS
          refine VW.seq (VW.seq (VW.reg ?_))
          refine VOps.rd rfl rfl ?_
          refine VOps.rd rfl rfl ?_
          refine VOps.rd rfl rfl ?_
          refine VOps.rd rfl rfl ?_
          refine VOps.nil ⟨rfl, VW.condT (by simp [Fr.only, hil]) (VW.skip ?_)⟩
          refine VW.seq (VW.block (VW.seq (VW.seq (VW.reg ?_))))
          refine VOps.rd rfl rfl ?_
          refine VOps.rd rfl rfl ?_
          refine VOps.rd (v := .ptr (some (elp (some qr) i.toNat))) rfl (by simp [Fr.only, r1 hcb.ext, i0, hil]) ?_
          refine VOps.rd (v := .sl pk (rows.getD i.toNat []).length ck) rfl (by simp [r2 hcb.ext]) ?_
          refine VOps.rd rfl rfl ?_
          refine VOps.rd rfl rfl ?_
          refine VOps.rd rfl rfl ?_
          refine VOps.nil ⟨rfl, ?_⟩
          refine VW.cond rfl (fun a => ?_) (fun a => ?_)
          · have a2 : ((rows.getD i.toNat []).length : Int) ≠ N := bne_iff_ne.1 a
            have a : rowLen rows i.toNat ≠ n + 1 := by omega
            rw [if_neg a] at ho hS
            refine VW.exit ?_
            simp only [then_normal, then_ret, then_exit, inB_normal, inB_ret, inB_exit, reduceIte, Nat.reduceEqDiff]
            exact leave _ _ iv io s (by simp [Cov, Fr.only]) hcb hov ho hbs hS
          · have a2 : ((rows.getD i.toNat []).length : Int) = N := bne_eq_false_iff_eq.1 a
            have a : rowLen rows i.toNat = n + 1 := by omega
            rw [if_pos a] at ho hS
            rw [List.length_cons] at ho
            rw [List.foldl_cons] at hS
            have hlN : ((rows.getD i.toNat []).length : Int) = N := by omega
            refine VW.skip ?_
            refine VW.sub (G := [(0, .sl (some qr) rows.length c), (2, .ptr (some ⟨H.length, 0, 0⟩)), (5, .ptr (some ⟨ic, 0, 0⟩)), (6, .int .i64 N), (7, .int .i64 i)]) (by simp [Cov, Fr.only]) ?_
            obtain ⟨u1, u2, u3⟩ := putS_len (s := s) (i := i.toNat) hokj hov
            have hput : ∀ (F : Fr) (H8 : Hp) (iv io : Option Nat), Cov [(0, .sl (some qr) rows.length c), (2, .ptr (some ⟨H.length, 0, 0⟩)), (5, .ptr (some ⟨ic, 0, 0⟩)), (6, .int .i64 N), (7, .int .i64 i)] F → Comb 26 Hx H8 ic ib iv io (putS s i.toNat (rows.getD i.toNat [])) → _ :=
              fun F H8 iv io hc hcb => leave F H8 iv io _ hc hcb u1 (by omega) (by rw [u3]; exact hbs) hS
            have ho5 : s.o.length ≤ 65536 := by omega
            clear leave hS ho a2
            obtain ⟨b0, b1⟩ := baseS_le (o := s.o) hokj
            have hlN2 : Hid (((rows.getD i.toNat []).length : Int) = N) := hlN
            clear hlN
            have hiB : i < s.bs.length := by omega
            refine VW.seq (VW.reg ?_)
            refine VOps.rd rfl rfl ?_
            refine VOps.nil ⟨rfl, ?_⟩
            show VW _ _ _ _ [(0, .sl (some qr) rows.length c), (2, .ptr (some ⟨H.length, 0, 0⟩)), (5, .ptr (some ⟨ic, 0, 0⟩)), (6, .int .i64 N), (7, .int .i64 i), (8, .int .i64 0)] _ _
            unfold putS at hput
            generalize hl : rows.getD i.toNat [] = l at *
            refine VW.seq ?_
            refine VW.mono (Q := fun e F2 H8 => e = .normal ∧ Cov [(0, .sl (some qr) rows.length c), (2, .ptr (some ⟨H.length, 0, 0⟩)), (5, .ptr (some ⟨ic, 0, 0⟩)), (6, .int .i64 N), (7, .int .i64 i), (8, .int .i64 (baseS s.o l))] F2 ∧ H8 = H7) ?_ ?_
            · clear hput
              refine VW.block ?_
              refine VW.loop (fun k F' H' => ∃ b : Int, 0 ≤ b ∧ b ≤ s.o.length ∧ k = s.o.length - b.toNat ∧ F' = [(0, .sl (some qr) rows.length c), (2, .ptr (some ⟨H.length, 0, 0⟩)), (5, .ptr (some ⟨ic, 0, 0⟩)), (6, .int .i64 N), (7, .int .i64 i), (8, .int .i64 b)] ∧ H' = H7 ∧ baseS s.o l = fitAt s.o l (s.o.length - b.toNat) b) s.o.length
                ⟨0, by omega, by omega, rfl, rfl, rfl, rfl⟩ ?_
              rintro k F' H' ⟨b, c0, c1, rfl, rfl, rfl, hS⟩
              have hcall := fits35 (H := H') (b := b) (p := pk) (c := ck) (co := s.o.length) hcb.go.sl (hcb.ext.sl r3) r4 hokj c0 (by omega)
              have g1 := r1 hcb.ext
              have g2 := r2 hcb.ext
              have g3 := hcb.ld2
              refine VW.seq (VW.seq ?_)
              refine VW.mono (Q := fun e F2 Hx => e = .normal ∧ Cov [(0, .sl (some qr) rows.length c), (2, .ptr (some ⟨H.length, 0, 0⟩)), (5, .ptr (some ⟨ic, 0, 0⟩)), (6, .int .i64 N), (7, .int .i64 i), (8, .int .i64 b), (57, .bool (!fitsB s.o l b))] F2 ∧ Hx = H') ?_ ?_
              · refine VW.dreg [H'] mixed rfl ?_
                refine VX.rd1 rfl rfl ?_
                refine VX.rd1 (v := .sl (gptr io) s.o.length s.o.length) rfl (by simp [g3]) ?_
                refine VX.rd1 rfl rfl ?_
                refine VX.rd1 rfl rfl ?_
                refine VX.rd1 (v := .ptr (some (elp (some qr) i.toNat))) rfl (by simp [g1, i0, hil]) ?_
                refine VX.rd1 (v := .sl pk l.length ck) rfl (by simp [g2]) ?_
                refine VX.rd1 rfl rfl ?_
                refine VX.call1 rfl rfl rfl hcall ?_
                refine VX.rd1 rfl rfl ?_
                exact VX.nil ⟨rfl, by simp [Cov, Fr.only], rfl⟩
              rintro e F2 H8 ⟨rfl, hcov, rfl⟩
              cases hf : fitsB s.o l b with
              | true =>
                rw [fitAt_stop hf] at hS
                rw [hf] at hcov
                refine VW.condF (hcov.get _ _ rfl) (VW.exit ?_)
                simp only [then_normal, then_ret, then_exit, inB_normal, inB_ret, inB_exit, reduceIte, Nat.reduceEqDiff]
                rw [hS]
                exact ⟨trivial, ⟨hcov.get _ _ rfl, hcov.get _ _ rfl, hcov.get _ _ rfl, hcov.get _ _ rfl, hcov.get _ _ rfl, hcov.get _ _ rfl, trivial⟩, trivial⟩
              | false =>
                have hlt : b < s.o.length := by
                  apply Int.lt_of_not_ge
                  intro hge
                  rw [fitsB_far hokj hge] at hf; cases hf
                have hv := wrap_id (x := b + 1) (by omega) (by omega)
                rw [show s.o.length - b.toNat = (s.o.length - (b + 1).toNat) + 1 by omega, fitAt_step hf] at hS
                rw [hf] at hcov
                refine VW.condT (hcov.get _ _ rfl) (VW.skip ?_)
                refine VW.sub hcov ?_
                refine VW.block (VW.reg ?_)
                refine VOps.rd rfl rfl ?_
                refine VOps.rd rfl rfl ?_
                refine VOps.rd rfl rfl ?_
                exact VOps.nil ⟨rfl, s.o.length - (b + 1).toNat, by omega, b + 1, by omega, by omega, rfl, by simp [Fr.only, hv], rfl, hS⟩
            rintro e F2 H8 ⟨rfl, hcov, rfl⟩
            refine VW.sub hcov ?_
            clear hcov
            generalize baseS s.o l = b at *
            -- the base is told
            obtain ⟨H9, hix, hst, h1⟩ := hcb.setB (by decide) (k := i.toNat) (by omega) b
            have l0 := hcb.ld0
            have hS0 := Hid.of hput
            clear hput
            refine VW.seq (VW.reg ?_)
            refine VOps.rd rfl rfl ?_
            refine VOps.rd (v := .sl (some ⟨ib, 0, 0⟩) s.bs.length s.bs.length) rfl (by simp [l0]) ?_
            refine VOps.rd rfl rfl ?_
            refine VOps.rd rfl rfl ?_
            refine VOps.rd (v := .ptr (some ⟨ib, i.toNat, 0⟩)) rfl (by simp [hix, i0, hiB]) ?_
            refine VOps.ef (v := .undef) (H' := H9) rfl (by simp [hst]) ?_
            refine VOps.nil ⟨rfl, ?_⟩
            clear hix hst l0 hcb
            refine VW.seq (VW.reg ?_)
            refine VOps.rd rfl rfl ?_
            refine VOps.nil ⟨rfl, ?_⟩
            show VW _ _ _ _ [(0, .sl (some qr) rows.length c), (2, .ptr (some ⟨H.length, 0, 0⟩)), (5, .ptr (some ⟨ic, 0, 0⟩)), (6, .int .i64 N), (7, .int .i64 i), (8, .int .i64 b), (9, .int .i64 0)] _ _
            obtain ⟨bs, o, v⟩ := s
            simp only at *
            generalize hbs' : bs.set i.toNat b = bs' at *
            refine VW.mono (Q := fun e F2 H10 => e = .normal ∧ Cov [(0, .sl (some qr) rows.length c), (2, .ptr (some ⟨H.length, 0, 0⟩)), (5, .ptr (some ⟨ic, 0, 0⟩)), (6, .int .i64 N), (7, .int .i64 i)] F2 ∧ ∃ iv io, Comb 26 Hx H10 ic ib iv io ⟨bs', (l.foldl (place b i.toNat) (o, v)).1, (l.foldl (place b i.toNat) (o, v)).2⟩) ?_ ?_
            · clear hS0
              refine VW.block ?_
              refine VW.loop (fun k F' H' => ∃ (j : Int) (o' v' : List Int) (iv io : Option Nat), 0 ≤ j ∧ j ≤ N ∧ k = l.length - j.toNat ∧ F' = [(0, .sl (some qr) rows.length c), (2, .ptr (some ⟨H.length, 0, 0⟩)), (5, .ptr (some ⟨ic, 0, 0⟩)), (6, .int .i64 N), (7, .int .i64 i), (8, .int .i64 b), (9, .int .i64 j)] ∧
                  Comb 26 Hx H' ic ib iv io ⟨bs', o', v'⟩ ∧ o'.length = v'.length ∧ o'.length ≤ 65792 ∧ l.foldl (place b i.toNat) (o, v) = (l.drop j.toNat).foldl (place b i.toNat) (o', v')) l.length
                ⟨0, o, v, _, _, by omega, by omega, rfl, rfl, h1, hov, by omega, rfl⟩ ?_
              clear h1
              rintro k F' H2 ⟨j, o', v', iv, io, j0, jl, rfl, rfl, h, hov', ho', hS⟩
              have hlN := hlN2.out
              by_cases hjl : j < N
              · have hk : j.toNat < l.length := by omega
                rw [foldl_step hk] at hS
                obtain ⟨s0, s1⟩ := hokj _ (getD_mem hk)
                obtain ⟨q, rfl, hq1, hq2, hq3, hq4⟩ := sl_edge (h.ext.sl r3) (k := j.toNat) (by omega)
                have g1 := r1 h.ext
                have g2 := r2 h.ext
                have hjl2 : j < l.length := by omega
                clear hlN
                generalize l.getD j.toNat (0, 0) = e at *
                obtain ⟨sy, to⟩ := e
                simp only at *
                have hv := wrap_id (x := j + 1) (by omega) (by omega)
                have hw := wrap_id (x := b + sy) (by omega) (by omega)
                have hs2 := stc_last2 (H := H2) (t := 42) (md := .own) (by decide) (a := .int .i64 0) (b := .int .i64 0) (c := .int .i64 sy) (d := .int .i64 to) rfl rfl
                refine VW.seq (VW.seq (VW.reg ?_))
                refine VOps.rd rfl rfl ?_
                refine VOps.rd rfl rfl ?_
                refine VOps.rd rfl rfl ?_
                refine VOps.nil ⟨rfl, VW.condT (by simp [Fr.only, hjl]) (VW.skip ?_)⟩
                refine VW.seq (VW.block (VW.seq (VW.reg ?_)))
                refine VOps.rd rfl rfl ?_
                refine VOps.rd rfl rfl ?_
                refine VOps.rd (v := .ptr (some (elp (some qr) i.toNat))) rfl (by simp [Fr.only, g1, i0, hil]) ?_
                refine VOps.rd (v := .sl (some q) l.length ck) rfl (by simp [g2]) ?_
                refine VOps.rd rfl rfl ?_
                refine VOps.rd (v := .ptr (some (elp (some q) j.toNat))) rfl (by simp [Fr.only, hq1, j0, hjl2]) ?_
                refine VOps.rd (v := .agg [.int .i64 sy, .int .i64 to]) rfl (by simp [hq3]) ?_
                refine VOps.ef (v := .ptr (some ⟨H2.length, 0, 0⟩)) (H' := H2 ++ [.row 42 .own [[.int .i64 0, .int .i64 0]]]) rfl (by simp) ?_
                refine VOps.ef (v := .undef) (H' := H2 ++ [.row 42 .own [[.int .i64 sy, .int .i64 to]]]) rfl (by simp [hs2]) ?_
                refine VOps.nil ⟨rfl, ?_⟩
                show VW _ _ _ _ [(0, .sl (some qr) rows.length c), (2, .ptr (some ⟨H.length, 0, 0⟩)), (5, .ptr (some ⟨ic, 0, 0⟩)), (6, .int .i64 N), (7, .int .i64 i), (8, .int .i64 b), (9, .int .i64 j), (10, .ptr (some ⟨H2.length, 0, 0⟩))] _ _
                clear hq1 hq2 hq3 hq4 hs2 g1 g2
                have hbx := List.getElem?_concat_length (l := H2) (a := Blk.row 42 .own [[VV.int .i64 sy, VV.int .i64 to]])
                replace h := h.push [.row 42 .own [[.int .i64 sy, .int .i64 to]]]
                generalize H2 ++ [.row 42 .own [[.int .i64 sy, .int .i64 to]]] = H3 at *
                generalize H2.length = ix at *
                obtain ⟨K, hK, K0, K1⟩ : ∃ K, IntKind.i64.wrap (b + sy) = K ∧ 0 ≤ K ∧ K ≤ 65791 := ⟨b + sy, hw, by omega, by omega⟩
                have hKe : Hid (K = b + sy) := by rw [← hK, hw]; rfl
                clear hw
                refine VW.seq ?_
                refine VW.mono (Q := fun e F2 H' => e = .normal ∧ Cov [(0, .sl (some qr) rows.length c), (2, .ptr (some ⟨H.length, 0, 0⟩)), (5, .ptr (some ⟨ic, 0, 0⟩)), (6, .int .i64 N), (7, .int .i64 i), (8, .int .i64 b), (9, .int .i64 j), (10, .ptr (some ⟨ix, 0, 0⟩))] F2 ∧
                  ∃ (iv io : Option Nat), Comb 26 Hx H' ic ib iv io ⟨bs', pad o' K.toNat (-1), pad v' K.toNat 0⟩ ∧ H'[ix]? = some (.row 42 .own [[.int .i64 sy, .int .i64 to]])) ?_ ?_
                · refine VW.block ?_
                  refine VW.loop (fun k F' H' => ∃ (o1 v1 : List Int) (iv io : Option Nat), k = K.toNat + 1 - o1.length ∧ F' = [(0, .sl (some qr) rows.length c), (2, .ptr (some ⟨H.length, 0, 0⟩)), (5, .ptr (some ⟨ic, 0, 0⟩)), (6, .int .i64 N), (7, .int .i64 i), (8, .int .i64 b), (9, .int .i64 j), (10, .ptr (some ⟨ix, 0, 0⟩))] ∧
                      Comb 26 Hx H' ic ib iv io ⟨bs', o1, v1⟩ ∧ H'[ix]? = some (.row 42 .own [[.int .i64 sy, .int .i64 to]]) ∧ o1.length = v1.length ∧ o1.length ≤ 65792 ∧ pad o1 K.toNat (-1) = pad o' K.toNat (-1) ∧ pad v1 K.toNat 0 = pad v' K.toNat 0) (K.toNat + 1 - o'.length)
                    ⟨o', v', iv, io, rfl, rfl, h, hbx, hov', ho', rfl, rfl⟩ ?_
                  clear h hbx hS hov' ho' ho5 hov
                  rintro k F' H4 ⟨o1, v1, iv, io, rfl, rfl, h, hbx, hov, ho, hp1, hp2⟩
                  have l0 := ld_own hbx 0
                  simp only [List.getElem?_cons_zero] at l0
                  have l2 := h.ld2
                  simp only at l2
                  by_cases hle : (o1.length : Int) ≤ K
                  · refine VW.seq (VW.seq (VW.reg ?_))
                    refine VOps.rd rfl rfl ?_
                    refine VOps.rd (v := .sl (gptr io) o1.length o1.length) rfl (by simp [l2]) ?_
                    refine VOps.rd rfl rfl ?_
                    refine VOps.rd rfl rfl ?_
                    refine VOps.rd rfl rfl ?_
                    refine VOps.rd (v := .int .i64 sy) rfl (by simp [l0]) ?_
                    refine VOps.rd (v := .int .i64 K) rfl (by simp [hK]) ?_
                    refine VOps.rd rfl rfl ?_
                    refine VOps.nil ⟨rfl, VW.condT (by simp [Fr.only, hle]) (VW.skip ?_)⟩
                    obtain ⟨G1, G2, a1, a2, a3, a4, a5⟩ := h.pushO (by decide) (by decide) (by simp only; omega) (-1)
                    simp only at a2 a3
                    refine VW.block (VW.seq (VW.reg ?_))
                    refine VOps.rd rfl rfl ?_
                    refine VOps.rd (v := .sl (gptr io) o1.length o1.length) rfl (by simp [l2]) ?_
                    refine VOps.ef (v := .sl (some ⟨H4.length, 0, 0⟩) 1 1) (H' := H4 ++ [.row 3 .own [[.int .i64 (-1)]]]) rfl rfl ?_
                    refine VOps.ef (v := .sl (some ⟨H4.length + 1, 0, 0⟩) (o1.length + 1) (o1.length + 1)) (H' := G1) rfl (by simp [a1, a2]) ?_
                    refine VOps.rd rfl rfl ?_
                    refine VOps.ef (v := .undef) (H' := G2) rfl (by simp [a3]) ?_
                    refine VOps.nil ⟨rfl, ?_⟩
                    show VW _ _ _ _ [(0, .sl (some qr) rows.length c), (2, .ptr (some ⟨H.length, 0, 0⟩)), (5, .ptr (some ⟨ic, 0, 0⟩)), (6, .int .i64 N), (7, .int .i64 i), (8, .int .i64 b), (9, .int .i64 j), (10, .ptr (some ⟨ix, 0, 0⟩))] _ _
                    replace hbx := a5 _ _ hbx
                    clear a1 a2 a3 a5 h l2 l0
                    have l1 := a4.ld1
                    simp only at l1
                    obtain ⟨G3, G4, c1, c2, c3, c4, c5⟩ := a4.pushV (by decide) (by decide) (by simp only; omega) 0
                    simp only at c2 c3
                    refine VW.reg ?_
                    refine VOps.rd rfl rfl ?_
                    refine VOps.rd (v := .sl (gptr iv) v1.length v1.length) rfl (by simp [l1]) ?_
                    refine VOps.ef (v := .sl (some ⟨G2.length, 0, 0⟩) 1 1) (H' := G2 ++ [.row 3 .own [[.int .i64 0]]]) rfl rfl ?_
                    refine VOps.ef (v := .sl (some ⟨G2.length + 1, 0, 0⟩) (v1.length + 1) (v1.length + 1)) (H' := G3) rfl (by simp [c1, c2]) ?_
                    refine VOps.rd rfl rfl ?_
                    refine VOps.ef (v := .undef) (H' := G4) rfl (by simp [c3]) ?_
                    refine VOps.nil ⟨rfl, K.toNat + 1 - (o1.length + 1), by omega, o1 ++ [-1], v1 ++ [0], _, _, by simp, rfl, c4, c5 _ _ hbx, by simp; omega, by simp; omega, ?_, ?_⟩
                    · rw [pad_push (by omega)]; exact hp1
                    · rw [pad_push (by omega)]; exact hp2
                  · refine VW.seq (VW.seq (VW.reg ?_))
                    refine VOps.rd rfl rfl ?_
                    refine VOps.rd (v := .sl (gptr io) o1.length o1.length) rfl (by simp [l2]) ?_
                    refine VOps.rd rfl rfl ?_
                    refine VOps.rd rfl rfl ?_
                    refine VOps.rd rfl rfl ?_
                    refine VOps.rd (v := .int .i64 sy) rfl (by simp [l0]) ?_
                    refine VOps.rd (v := .int .i64 K) rfl (by simp [hK]) ?_
                    refine VOps.rd rfl rfl ?_
                    refine VOps.nil ⟨rfl, VW.condF (by simp [Fr.only]; omega) (VW.exit ?_)⟩
                    simp only [then_normal, then_ret, then_exit, inB_normal, inB_ret, inB_exit, reduceIte, Nat.reduceEqDiff]
                    rw [pad_of_lt (by omega)] at hp1 hp2
                    exact ⟨trivial, by simp [Cov, Fr.only], iv, io, by rw [← hp1, ← hp2]; exact h, hbx⟩
                rintro e F2 H4 ⟨rfl, hcov, iv, io, h, hbx⟩
                refine VW.sub hcov ?_
                clear hcov
                -- the owner and the value
                have m1 : K.toNat < (pad o' K.toNat (-1)).length := by rw [pad_len]; split <;> omega
                have m2 : K.toNat < (pad v' K.toNat 0).length := by rw [pad_len]; split <;> omega
                have m3 : (pad o' K.toNat (-1)).length ≤ 65792 := by rw [pad_len]; split <;> omega
                have m4 : (pad o' K.toNat (-1)).length = (pad v' K.toNat 0).length := by rw [pad_len, pad_len, hov']
                have hplace : place b i.toNat (o', v') (sy, to) = ((pad o' K.toNat (-1)).set K.toNat i, (pad v' K.toNat 0).set K.toNat to) := by
                  unfold place; simp only; rw [← hKe.out, show ((i.toNat : Nat) : Int) = i by omega]
                rw [hplace] at hS
                clear hplace
                generalize pad o' K.toNat (-1) = o1 at *
                generalize pad v' K.toNat 0 = v1 at *
                have l1 := h.ld1
                have l2 := h.ld2
                simp only at l1 l2
                have x0 := ld_own hbx 0
                simp only [List.getElem?_cons_zero] at x0
                obtain ⟨jo, G1, a1, a2, a3, a4, a5⟩ := h.setO (by decide) (k := K.toNat) m1 i
                have hbx2 := a5 _ _ hbx
                have y0 := ld_own hbx2 0
                have y1 := ld_own hbx2 1
                simp only [List.getElem?_cons_succ, List.getElem?_cons_zero] at y0 y1
                obtain ⟨jv, G2, c1, c2, c3, c4, c5⟩ := a4.setV (by decide) (k := K.toNat) m2 to
                have l3 := a4.ld1
                simp only at c4 l3
                have k1 : K < (o1.length : Int) := by omega
                have k2 : K < (v1.length : Int) := by omega
                rw [a1] at l2
                rw [c1] at l3
                refine VW.seq (VW.reg ?_)
                refine VOps.rd rfl rfl ?_
                refine VOps.rd (v := .sl (some ⟨jo, 0, 0⟩) o1.length o1.length) rfl (by simp [l2]) ?_
                refine VOps.rd rfl rfl ?_
                refine VOps.rd rfl rfl ?_
                refine VOps.rd (v := .int .i64 sy) rfl (by simp [x0]) ?_
                refine VOps.rd (v := .int .i64 K) rfl (by simp [hK]) ?_
                refine VOps.rd rfl rfl ?_
                refine VOps.rd (v := .ptr (some ⟨jo, K.toNat, 0⟩)) rfl (by simp [a2, K0, k1]) ?_
                refine VOps.ef (v := .undef) (H' := G1) rfl (by simp [a3]) ?_
                refine VOps.nil ⟨rfl, ?_⟩
                refine VW.reg ?_
                refine VOps.rd rfl rfl ?_
                refine VOps.rd (v := .sl (some ⟨jv, 0, 0⟩) v1.length v1.length) rfl (by simp [Fr.only, l3]) ?_
                refine VOps.rd rfl rfl ?_
                refine VOps.rd rfl rfl ?_
                refine VOps.rd (v := .int .i64 sy) rfl (by simp [Fr.only, y0]) ?_
                refine VOps.rd (v := .int .i64 K) rfl (by simp [Fr.only, hK]) ?_
                refine VOps.rd rfl rfl ?_
                refine VOps.rd (v := .int .i64 to) rfl (by simp [Fr.only, y1]) ?_
                refine VOps.rd (v := .ptr (some ⟨jv, K.toNat, 0⟩)) rfl (by simp [c2, K0, k2]) ?_
                refine VOps.ef (v := .undef) (H' := G2) rfl (by simp [c3]) ?_
                refine VOps.nil ⟨rfl, ?_⟩
                refine VW.reg ?_
                refine VOps.rd rfl rfl ?_
                refine VOps.rd rfl rfl ?_
                refine VOps.rd rfl rfl ?_
                refine VOps.nil ⟨rfl, l.length - (j + 1).toNat, by omega, j + 1, _, _, iv, io, by omega, by omega, rfl, by simp [Fr.only, hv], c4, by simp [m4], by simp; omega, ?_⟩
                rw [hS, show (j + 1).toNat = j.toNat + 1 by omega]
              · have : j = N := by omega
                subst this
                rw [show j.toNat = l.length by omega] at hS
                refine VW.seq (VW.seq (VW.reg ?_))
                refine VOps.rd rfl rfl ?_
                refine VOps.rd rfl rfl ?_
                refine VOps.rd rfl rfl ?_
                refine VOps.nil ⟨rfl, VW.condF (by simp [Fr.only]) (VW.exit ?_)⟩
                simp only [then_normal, then_ret, then_exit, inB_normal, inB_ret, inB_exit, reduceIte, Nat.reduceEqDiff]
                refine ⟨trivial, by simp [Cov, Fr.only], iv, io, ?_⟩
                rw [hS]; simpa using h
            rintro e F2 H10 ⟨rfl, hcov, iv', io', hcb⟩
            simp only [then_normal, then_ret, then_exit, inB_normal, inB_ret, inB_exit, reduceIte, Nat.reduceEqDiff]
            exact hS0.out F2 H10 iv' io' hcov hcb
        · have : i = rows.length := by omega
          subst this
          rw [show ((rows.length : Int)).toNat = rows.length by omega, idxFrom_end] at ho hS
          refine VW.seq (VW.seq (VW.reg ?_))
          refine VOps.rd rfl rfl ?_
          refine VOps.rd rfl rfl ?_
          refine VOps.rd rfl rfl ?_
          refine VOps.rd rfl rfl ?_
          refine VOps.nil ⟨rfl, VW.condF (by simp [Fr.only]) (VW.exit ?_)⟩
          simp only [then_normal, then_ret, then_exit, inB_normal, inB_ret, inB_exit, reduceIte, Nat.reduceEqDiff]
          exact ⟨trivial, by simp [Cov, Fr.only], iv, io, s, hcb, hov, by simpa using ho, hbs, hS⟩
      rintro e F2 H7 ⟨rfl, hcov, iv, io, s, hcb, hov, ho, hbs, hS⟩
      refine VW.sub hcov (VW.reg ?_)
      refine VOps.rd rfl rfl ?_
      refine VOps.rd rfl rfl ?_
      refine VOps.rd rfl rfl ?_
      refine VOps.nil ⟨rfl, n, by omega, n, iv, io, s, by omega, rfl, ?_, hcb, hov, ho, hbs, hS⟩
      have e2 : N - 1 = n := hnid.out
      simp [Fr.only, e2, hv]
  rintro e F2 H6 ⟨rfl, hcov, iv, io, hcb6⟩
  refine VW.sub hcov ?_
  have l6 := hcb6.lds
  have hres6 := hcb6.ext.get hres
  have hlt4 := get_lt hres
  have hst : ∀ a b c : VV, a.cell = true → b.cell = true → c.cell = true → stc H6 ⟨H.length, 0, 0⟩ [a, b, c] = some (H6.set H.length (.row 26 .own [[a, b, c]])) := by
    intro a b c ha hb hc
    have hk : okCells [a, b, c] = true := by simp only [okCells, List.all_cons, List.all_nil, ha, hb, hc, Bool.and_true]
    simp only [stc, hres6, if_neg (show Vm.Mode.own ≠ .ro by decide), List.getElem?_cons_zero, hk]
    simp [upd]
  have hfin := hcb6.under hx (j := H.length) (Nat.le_refl _) hlt4
  refine VW.seq (VW.reg ?_)
  refine VOps.rd rfl (by simp [l6]; rfl) ?_
  refine VOps.ef (v := .undef) rfl (by simp; rw [hst _ _ _ rfl rfl rfl]) ?_
  refine VOps.rd rfl rfl ?_
  refine VOps.nil ⟨rfl, VW.ret ⟨.inl rfl, ?_⟩⟩
  have hl := lds_own (H := H6.set H.length (.row 26 .own [[.sl (some ⟨ib, 0, 0⟩) (layR rows).bs.length (layR rows).bs.length, .sl (gptr iv) (layR rows).v.length (layR rows).v.length, .sl (gptr io) (layR rows).o.length (layR rows).o.length]])) (i := H.length) (by rw [List.getElem?_set_self (get_lt hres6)]) 0 3
  refine ⟨.tup [.agg [.sl (some ⟨ib, 0, 0⟩) (layR rows).bs.length (layR rows).bs.length, .sl (gptr iv) (layR rows).v.length (layR rows).v.length, .sl (gptr io) (layR rows).o.length (layR rows).o.length], .int .i64 0], by simp [resV, resL, hl, Fr.only], ?_⟩
  unfold LayR
  rw [if_pos hok]
  exact ⟨ic, ib, iv, io, hfin _, rfl⟩
end
end Go.Proofs.Ytlclbfkdaemilaa
