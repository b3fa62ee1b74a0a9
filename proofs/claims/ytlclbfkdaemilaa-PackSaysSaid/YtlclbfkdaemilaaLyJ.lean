/- The law's own rows stay; laid rows are written over. -/
import Derived.Test.YtlclbfkdaemilaaLyI
namespace Go.Proofs.Ytlclbfkdaemilaa
set_option linter.unusedSimpArgs false
set_option linter.unusedVariables false
open Go Go.Vm Go.Proofs So
set_option maxRecDepth 100000
set_option maxHeartbeats 2000000

section
variable {H : Hp} {p pi : Option PA} {vs ws : List VV} {rows : List Edges} {c ci : Nat}
theorem stays13 (hi : Sl H pi 1 (ws.map fun v => [v])) (hlv : LentV H ws rows rows.length) (h : Sl H p 1 (vs.map fun v => [v])) (hr : RowV H vs rows) (hn : rows.length ≤ 1000000000000) (hl : ∀ k, k < rows.length → (rows.getD k []).length ≤ 1000000000000) :
    FnV Try.prog 13 [.sl pi rows.length ci, .sl p rows.length c] H fun r H' => r = .bool true ∧ H' = H := by
  refine FnV.enterRow ok13 (by show 2 ≤ 72; decide) fun B => ?_
  dsimp only [w13]
  refine VW.seq (VW.reg ?_)
  refine VOps.rd rfl rfl ?_
  refine VOps.nil ⟨rfl, ?_⟩
  refine VW.seq (VW.seq (VW.reg ?_))
  refine VOps.rd rfl rfl ?_
  refine VOps.rd rfl rfl ?_
  refine VOps.rd rfl rfl ?_
  refine VOps.rd rfl rfl ?_
  refine VOps.rd (v := .bool false) rfl (by simp) ?_
  refine VOps.nil ⟨rfl, VW.condF rfl (VW.skip ?_)⟩
  refine VW.seq (VW.seq (VW.reg ?_))
  refine VOps.rd rfl rfl ?_
  refine VOps.nil ⟨rfl, ?_⟩
  show VW _ _ _ _ [(0, .sl pi rows.length ci), (1, .sl p rows.length c), (5, .int .i64 0)] _ _
  refine VW.block ?_
  refine VW.loop (fun k F' H' => ∃ i : Int, 0 ≤ i ∧ i ≤ rows.length ∧ k = rows.length - i.toNat ∧ F' = [(0, .sl pi rows.length ci), (1, .sl p rows.length c), (5, .int .i64 i)] ∧ H' = H) rows.length
    ⟨0, by omega, by omega, rfl, rfl, rfl⟩ ?_
  rintro k F' H' ⟨i, i0, il, rfl, rfl, rfl⟩
  by_cases hil : i < rows.length
  · have hk : i.toNat < rows.length := by omega
    have hv := wrap_id (x := i + 1) (by omega) (by omega)
    obtain ⟨qr, pk, ck, rfl, r1, r2, r3, r4⟩ := row_at h hr hk
    obtain ⟨j, w1, w2⟩ := hlv.2 i.toNat hk
    have hlk := hl _ hk
    obtain ⟨qi, rfl, t1⟩ := hi.ixp (k := i.toNat) (by simp [hlv.1, hk])
    have t2 := hi.ld0 (k := i.toNat) (e := [.sl (some ⟨j, 0, 0⟩) (rows.getD i.toNat []).length ((rows.getD i.toNat []).length + 1)]) (by simp [w1])
    simp only [List.getElem?_cons_zero] at t2
    have hsl : Sl H' (some ⟨j, 0, 0⟩) 2 (edgeEs (rows.getD i.toNat []) ++ [mark]) := .inr ⟨j, 0, _, _, _, rfl, w2, fun e he => by
      rcases List.mem_append.1 he with he | he
      · obtain ⟨n, _, rfl⟩ := List.mem_map.1 he; rfl
      · rw [List.mem_singleton.1 he]; rfl, fun k e he => by rw [Nat.zero_add]; exact he⟩
    generalize rows.getD i.toNat [] = l at *
    have hslc : slcV H' 2 (some ⟨j, 0, 0⟩) l.length (l.length + 1) 0 ((l.length : Int) + 1) ((l.length : Int) + 1) false = some (.sl (some ⟨j, 0, 0⟩) (l.length + 1) (l.length + 1)) := by
      have hne : ∃ e es, edgeEs l ++ [mark] = e :: es ∧ e.length = 2 := by
        cases l with
        | nil => exact ⟨mark, [], rfl, rfl⟩
        | cons a l => exact ⟨_, _, rfl, rfl⟩
      obtain ⟨e, es, h1, h2⟩ := hne
      rw [h1] at w2
      unfold slcV
      rw [if_pos (by omega)]
      simp only [w2]
      rw [if_neg (by omega), if_neg (by simp [h2])]
      simp
    obtain ⟨_, e0, m1⟩ := hsl.ixp (k := l.length) (by simp [edgeEs])
    cases e0
    have m2 := hsl.lds (k := l.length) (e := mark) (by rw [List.getElem?_append_right (by simp [edgeEs])]; simp [edgeEs])
    have hv3 := wrap_id (x := (l.length : Int) + 1) (by omega) (by omega)
    have hll : (l.length : Int) < ((l.length + 1 : Nat) : Int) := by omega
    refine VW.seq (VW.seq (VW.reg ?_))
    refine VOps.rd rfl rfl ?_
    refine VOps.rd rfl rfl ?_
    refine VOps.rd rfl rfl ?_
    refine VOps.rd rfl rfl ?_
    refine VOps.nil ⟨rfl, VW.condT (by simp [Fr.only, hil]) (VW.skip ?_)⟩
    refine VW.seq (VW.block (VW.seq (VW.seq ?_)))
    refine VW.mono (Q := fun e F2 Hx => e = .normal ∧ Cov [(0, .sl (some qi) rows.length ci), (1, .sl (some qr) rows.length c), (5, .int .i64 i), (29, .bool false)] F2 ∧ Hx = H') ?_ ?_
    · refine VW.dreg [H'] mixed rfl ?_
      refine VX.rd1 rfl rfl ?_
      refine VX.rd1 rfl rfl ?_
      refine VX.rd1 (v := .ptr (some (elp (some qi) i.toNat))) rfl (by simp [Fr.only, t1, i0, hil]) ?_
      refine VX.rd1 (v := .sl (some ⟨j, 0, 0⟩) l.length (l.length + 1)) rfl (by simp [t2]) ?_
      refine VX.rd1 rfl rfl ?_
      refine VX.rd1 rfl rfl ?_
      refine VX.rd1 rfl rfl ?_
      refine VX.rd1 (v := .ptr (some (elp (some qr) i.toNat))) rfl (by simp [Fr.only, r1, i0, hil]) ?_
      refine VX.rd1 (v := .sl pk l.length ck) rfl (by simp [r2]) ?_
      refine VX.rd1 rfl rfl ?_
      refine VX.rd1 (v := .bool false) rfl (by simp) ?_
      exact VX.nil ⟨rfl, by simp [Cov, Fr.only], rfl⟩
    rintro e F2 Hx ⟨rfl, hcov, rfl⟩
    refine VW.condF (hcov.get _ _ rfl) (VW.skip ?_)
    refine VW.sub hcov ?_
    clear hcov
    refine VW.seq ?_
    refine VW.mono (Q := fun e F2 H2 => e = .normal ∧ Cov [(0, .sl (some qi) rows.length ci), (1, .sl (some qr) rows.length c), (5, .int .i64 i), (6, .sl (some ⟨j, 0, 0⟩) (l.length + 1) (l.length + 1))] F2 ∧ H2 = Hx) ?_ ?_
    · refine VW.dreg [Hx] mixed rfl ?_
      refine VX.rd1 rfl rfl ?_
      refine VX.rd1 rfl rfl ?_
      refine VX.rd1 (v := .ptr (some (elp (some qi) i.toNat))) rfl (by simp [Fr.only, t1, i0, hil]) ?_
      refine VX.rd1 (v := .sl (some ⟨j, 0, 0⟩) l.length (l.length + 1)) rfl (by simp [t2]) ?_
      refine VX.rd1 rfl rfl ?_
      refine VX.rd1 rfl rfl ?_
      refine VX.rd1 (v := .ptr (some (elp (some qr) i.toNat))) rfl (by simp [Fr.only, r1, i0, hil]) ?_
      refine VX.rd1 (v := .sl pk l.length ck) rfl (by simp [r2]) ?_
      refine VX.rd1 rfl rfl ?_
      refine VX.rd1 (v := .int .i64 ((l.length : Int) + 1)) rfl (by simp [hv3]) ?_
      refine VX.rd1 (v := .sl (some ⟨j, 0, 0⟩) (l.length + 1) (l.length + 1)) rfl (by simp [hslc]) ?_
      refine VX.rd1 rfl rfl ?_
      exact VX.nil ⟨rfl, by simp [Cov, Fr.only], rfl⟩
    rintro e F2 H2 ⟨rfl, hcov, rfl⟩
    refine VW.sub hcov ?_
    clear hcov
    refine VW.seq (VW.seq (VW.reg ?_))
    refine VOps.rd rfl rfl ?_
    refine VOps.rd rfl rfl ?_
    refine VOps.rd rfl rfl ?_
    refine VOps.rd (v := .ptr (some (elp (some qr) i.toNat))) rfl (by simp [r1, i0, hil]) ?_
    refine VOps.rd (v := .sl pk l.length ck) rfl (by simp [r2]) ?_
    refine VOps.rd rfl rfl ?_
    refine VOps.rd (v := .ptr (some (elp (some ⟨j, 0, 0⟩) l.length))) rfl (by simp [m1]; omega) ?_
    refine VOps.rd (v := .agg mark) rfl (by simp [m2]) ?_
    refine VOps.rd (v := .agg mark) rfl rfl ?_
    refine VOps.rd (v := .bool false) rfl (by simp [aeqK]) ?_
    refine VOps.nil ⟨rfl, VW.condF rfl (VW.skip ?_)⟩
    refine VW.seq (VW.reg ?_)
    refine VOps.rd rfl rfl ?_
    refine VOps.nil ⟨rfl, ?_⟩
    show VW _ _ _ _ [(0, .sl (some qi) rows.length ci), (1, .sl (some qr) rows.length c), (5, .int .i64 i), (6, .sl (some ⟨j, 0, 0⟩) (l.length + 1) (l.length + 1)), (7, .int .i64 0)] _ _
    refine VW.block ?_
    refine VW.loop (fun m F' Hy => ∃ k : Int, 0 ≤ k ∧ k ≤ l.length ∧ m = l.length - k.toNat ∧ F' = [(0, .sl (some qi) rows.length ci), (1, .sl (some qr) rows.length c), (5, .int .i64 i), (6, .sl (some ⟨j, 0, 0⟩) (l.length + 1) (l.length + 1)), (7, .int .i64 k)] ∧ Hy = H2) l.length
      ⟨0, by omega, by omega, rfl, rfl, rfl⟩ ?_
    rintro m F' Hy ⟨k, k0, kl, rfl, rfl, rfl⟩
    by_cases hkl : k < l.length
    · have hv4 := wrap_id (x := k + 1) (by omega) (by omega)
      obtain ⟨_, e0, n1⟩ := hsl.ixp (k := k.toNat) (by simp [edgeEs]; omega)
      cases e0
      have n2 := hsl.lds (k := k.toNat) (by rw [List.getElem?_append_left (by simp [edgeEs]; omega)]; exact edgeEs_get (by omega))
      obtain ⟨qe, rfl, n3, _, n4, _⟩ := sl_edge r3 (k := k.toNat) (by omega)
      have hkl1 : k < ((l.length + 1 : Nat) : Int) := by omega
      generalize l.getD k.toNat (0, 0) = e at *
      obtain ⟨sy, to⟩ := e
      simp only at *
      refine VW.seq (VW.seq (VW.reg ?_))
      refine VOps.rd rfl rfl ?_
      refine VOps.rd rfl rfl ?_
      refine VOps.rd rfl rfl ?_
      refine VOps.rd (v := .ptr (some (elp (some qr) i.toNat))) rfl (by simp [r1, i0, hil]) ?_
      refine VOps.rd (v := .sl (some qe) l.length ck) rfl (by simp [r2]) ?_
      refine VOps.rd rfl rfl ?_
      refine VOps.rd rfl rfl ?_
      refine VOps.nil ⟨rfl, VW.condT (by simp [Fr.only, hkl]) (VW.skip ?_)⟩
      refine VW.seq (VW.block (VW.seq ?_))
      refine VW.mono (Q := fun e F2 H2 => e = .normal ∧ Cov [(0, .sl (some qi) rows.length ci), (1, .sl (some qr) rows.length c), (5, .int .i64 i), (6, .sl (some ⟨j, 0, 0⟩) (l.length + 1) (l.length + 1)), (7, .int .i64 k), (71, .bool false)] F2 ∧ H2 = Hy) ?_ ?_
      · refine VW.dreg [Hy] mixed rfl ?_
        refine VX.rd1 rfl rfl ?_
        refine VX.rd1 rfl rfl ?_
        refine VX.rd1 (v := .ptr (some (elp (some ⟨j, 0, 0⟩) k.toNat))) rfl (by simp [Fr.only, n1, k0]; omega) ?_
        refine VX.rd1 (v := .agg [.int .i64 sy, .int .i64 to]) rfl (by simp [n2]) ?_
        refine VX.rd1 rfl rfl ?_
        refine VX.rd1 rfl rfl ?_
        refine VX.rd1 (v := .ptr (some (elp (some qr) i.toNat))) rfl (by simp [Fr.only, r1, i0, hil]) ?_
        refine VX.rd1 (v := .sl (some qe) l.length ck) rfl (by simp [r2]) ?_
        refine VX.rd1 rfl rfl ?_
        refine VX.rd1 (v := .ptr (some (elp (some qe) k.toNat))) rfl (by simp [Fr.only, n3, k0, hkl]) ?_
        refine VX.rd1 (v := .agg [.int .i64 sy, .int .i64 to]) rfl (by simp [n4]) ?_
        refine VX.rd1 (v := .bool false) rfl (by simp [aeqK]) ?_
        exact VX.nil ⟨rfl, by simp [Cov, Fr.only], rfl⟩
      rintro e F2 H2 ⟨rfl, hcov, rfl⟩
      refine VW.condF (hcov.get _ _ rfl) (VW.skip ?_)
      refine VW.sub hcov (VW.reg ?_)
      refine VOps.rd rfl rfl ?_
      refine VOps.rd rfl rfl ?_
      refine VOps.rd rfl rfl ?_
      exact VOps.nil ⟨rfl, l.length - (k + 1).toNat, by omega, k + 1, by omega, by omega, rfl, by simp [Fr.only, hv4], rfl⟩
    · have : k = l.length := by omega
      subst this
      refine VW.seq (VW.seq (VW.reg ?_))
      refine VOps.rd rfl rfl ?_
      refine VOps.rd rfl rfl ?_
      refine VOps.rd rfl rfl ?_
      refine VOps.rd (v := .ptr (some (elp (some qr) i.toNat))) rfl (by simp [r1, i0, hil]) ?_
      refine VOps.rd (v := .sl pk l.length ck) rfl (by simp [r2]) ?_
      refine VOps.rd rfl rfl ?_
      refine VOps.rd rfl rfl ?_
      refine VOps.nil ⟨rfl, VW.condF (by simp [Fr.only]) (VW.exit ?_)⟩
      simp only [then_normal, then_ret, then_exit, inB_normal, inB_ret, inB_exit, reduceIte, Nat.reduceEqDiff]
      refine VW.reg ?_
      refine VOps.rd rfl rfl ?_
      refine VOps.rd rfl rfl ?_
      refine VOps.rd rfl rfl ?_
      exact VOps.nil ⟨rfl, rows.length - (i + 1).toNat, by omega, i + 1, by omega, by omega, rfl, by simp [Fr.only, hv], rfl⟩
  · have : i = rows.length := by omega
    subst this
    refine VW.seq (VW.seq (VW.reg ?_))
    refine VOps.rd rfl rfl ?_
    refine VOps.rd rfl rfl ?_
    refine VOps.rd rfl rfl ?_
    refine VOps.rd rfl rfl ?_
    refine VOps.nil ⟨rfl, VW.condF (by simp [Fr.only]) (VW.exit ?_)⟩
    simp only [then_normal, then_ret, then_exit, inB_normal, inB_ret, inB_exit, reduceIte, Nat.reduceEqDiff]
    refine VW.seq (VW.reg ?_)
    refine VOps.rd rfl rfl ?_
    exact VOps.nil ⟨rfl, VW.ret ⟨.inl rfl, _, rfl, rfl, rfl⟩⟩
end

/-! ### written over -/
/-- a list of ints that may be written, in a block of its own or none -/
def Wr (H : Hp) (o : Option Nat) (n : Nat) : Prop :=
  match o with
  | none => n = 0
  | some b => ∃ md l, md ≠ Vm.Mode.ro ∧ H[b]? = some (.row 3 md (intEs l)) ∧ l.length = n ∧ (md = .loose → l ≠ [])
theorem Wr.keep {H H' : Hp} {o : Option Nat} {n : Nat} (h : Wr H o n) (hk : ∀ k, o = some k → H'[k]? = H[k]?) : Wr H' o n := by
  cases o with
  | none => exact h
  | some b => obtain ⟨md, l, h1, h2, h3⟩ := h; exact ⟨md, l, h1, by rw [hk b rfl]; exact h2, h3⟩
theorem Wr.of {H : Hp} {x : VV} {o : Option Nat} {l : List Int} (h : Grow H x o l) : Wr H o l.length := by
  cases o with
  | none => rw [h.2]; rfl
  | some b => exact ⟨.loose, l, by decide, h.2.1, rfl, fun _ => h.2.2⟩
/-- two more ints -/
theorem Wr.app2 {H : Hp} {o : Option Nat} {n : Nat} (h : Wr H o n) (hn : n ≤ 1000000000000) (a b : Int) :
    srcEls (H ++ [.row 3 .own [[.int .i64 a], [.int .i64 b]]]) 1 (.sl (some ⟨H.length, 0, 0⟩) 2 2) = some [[.int .i64 a], [.int .i64 b]] ∧
    ∃ x H', x.cell = true ∧ x.defd = true ∧ x.cells = [x] ∧ appV (H ++ [.row 3 .own [[.int .i64 a], [.int .i64 b]]]) 3 1 8 (gptr o) n n [[.int .i64 a], [.int .i64 b]] = some (x, H') ∧ (H.length ≤ H'.length) ∧ ∀ k, k < H.length → o ≠ some k → H'[k]? = H[k]? := by
  refine ⟨by simp [srcEls], ?_⟩
  cases o with
  | none =>
    have : n = 0 := h
    subst this
    refine ⟨.sl (some ⟨H.length + 1, 0, 0⟩) 2 2, (H ++ [.row 3 .own [[.int .i64 a], [.int .i64 b]]]) ++ [.row 3 .loose [[.int .i64 a], [.int .i64 b]]], rfl, rfl, rfl, by simp [appV, gptr], by simp <;> omega, fun k hk _ => ?_⟩
    rw [List.getElem?_append_left (by simp <;> omega), List.getElem?_append_left hk]
  | some i =>
    obtain ⟨md, l, h1, hb, rfl, hne⟩ := h
    have hb' : (H ++ [Blk.row 3 Mode.own [[VV.int .i64 a], [VV.int .i64 b]]])[i]? = some (.row 3 md (intEs l)) := get_push hb _
    have hsrc := sl_src (H := H ++ [Blk.row 3 Mode.own [[VV.int .i64 a], [VV.int .i64 b]]]) (p := some ⟨i, 0, 0⟩) (z := 1) (c := l.length) (es := intEs l) (.inr ⟨_, 0, _, _, _, rfl, hb', fun e he => by obtain ⟨n, _, rfl⟩ := List.mem_map.1 he; rfl, fun k e hk => by rw [Nat.zero_add]; exact hk⟩)
    rw [intEs_len] at hsrc
    unfold appV
    simp only [gptr, List.length_cons, List.length_nil]
    rw [if_neg (by omega), if_pos (by omega)]
    simp only [hb', hsrc]
    by_cases hmd : md = .loose
    · have hhd : (intEs l).head?.map List.length = some 1 := by
        cases l with
        | nil => exact absurd rfl (hne hmd)
        | cons a l => rfl
      rw [if_pos hmd, if_pos ⟨trivial, trivial, hhd⟩]
      refine ⟨_, _, rfl, rfl, rfl, rfl, by simp <;> omega, fun k hk hne => ?_⟩
      rw [List.getElem?_append_left (by simp <;> omega), List.getElem?_set_ne (fun e => hne (by rw [e])), List.getElem?_append_left hk]
    · rw [if_neg hmd]
      refine ⟨_, _, rfl, rfl, rfl, rfl, by simp <;> omega, fun k hk hne => ?_⟩
      rw [List.getElem?_append_left (by simp <;> omega), List.getElem?_append_left hk]

/-- what other blocks hold is not turned -/
def OffW (o : Nat → Option Nat) (H H' : Hp) : Prop := H.length ≤ H'.length ∧ ∀ k, k < H.length → (∀ j, j < 3 → o j ≠ some k) → H'[k]? = H[k]?
theorem OffW.trans {o : Nat → Option Nat} {A B C : Hp} (h : OffW o A B) (g : OffW o B C) : OffW o A C :=
  ⟨Nat.le_trans h.1 g.1, fun k hk a => (g.2 k (Nat.lt_of_lt_of_le hk h.1) a).trans (h.2 k hk a)⟩
theorem OffW.ext {o : Nat → Option Nat} {A B : Hp} (h : Ext A B) : OffW o A B := ⟨h.1, fun k hk _ => h.2 k hk⟩
abbrev tri (x : Nat → VV) : List (List VV) := [[x 0], [x 1], [x 2]]
theorem tri_ops {H : Hp} {b : Nat} {x : Nat → VV} (h : H[b]? = some (.row 24 .own (tri x))) {k : Nat} (hk : k < 3) :
    ixp H ⟨b, 0, 0⟩ k 1 = some ⟨b, k, 0⟩ ∧ ld H ⟨b, k, 0⟩ = some (x k) ∧ ∀ y : VV, y.cell = true → stc H ⟨b, k, 0⟩ [y] = some (H.set b (.row 24 .own (tri fun j => if j = k then y else x j))) := by
  refine ⟨by simp [ixp, eszOf, h, padd], ?_, fun y hy => ?_⟩
  · match k, hk with
    | 0, _ => simp [ld, h]
    | 1, _ => simp [ld, h]
    | 2, _ => simp [ld, h]
  · have ho : okCells [y] = true := by simp only [okCells, List.all_cons, List.all_nil, hy, Bool.and_true]
    match k, hk with
    | 0, _ => simp only [stc, h, List.getElem?_cons_zero, ho]; simp [upd]; rfl
    | 1, _ => simp only [stc, h, List.getElem?_cons_zero, List.getElem?_cons_succ, ho]; simp [upd]; rfl
    | 2, _ => simp only [stc, h, List.getElem?_cons_zero, List.getElem?_cons_succ, ho]; simp [upd]; rfl

section
variable {H : Hp} {o : Nat → Option Nat} {n : Nat → Nat}
theorem spoil14 (hw : ∀ j, j < 3 → Wr H (o j) (n j)) (hn : ∀ j, j < 3 → n j ≤ 1000000000) (hd : ∀ j j', j < 3 → j' < 3 → j ≠ j' → ∀ k, o j = some k → o j' ≠ some k) :
    FnV Try.prog 14 [.agg [.sl (gptr (o 0)) (n 0) (n 0), .sl (gptr (o 1)) (n 1) (n 1), .sl (gptr (o 2)) (n 2) (n 2)]] H fun r H' => r = .tup [] ∧ OffW o H H' := by
  refine FnV.enterRow ok14 (by show 1 ≤ 42; decide) fun B => ?_
  dsimp only [w14]
  refine VW.seq (VW.reg ?_)
  refine VOps.ef (v := .ptr (some ⟨H.length, 0, 0⟩)) (H' := H ++ [.row 26 .own [[.sl (gptr (o 0)) (n 0) (n 0), .sl (gptr (o 1)) (n 1) (n 1), .sl (gptr (o 2)) (n 2) (n 2)]]]) rfl (by simp [argsF, VV.cell]) ?_
  refine VOps.nil ⟨rfl, ?_⟩
  have hx : Ext H (H ++ [.row 26 .own [[.sl (gptr (o 0)) (n 0) (n 0), .sl (gptr (o 1)) (n 1) (n 1), .sl (gptr (o 2)) (n 2) (n 2)]]]) := .app _ _
  have hb : (H ++ [Blk.row 26 .own [[.sl (gptr (o 0)) (n 0) (n 0), .sl (gptr (o 1)) (n 1) (n 1), .sl (gptr (o 2)) (n 2) (n 2)]]])[H.length]? = some (.row 26 .own [[.sl (gptr (o 0)) (n 0) (n 0), .sl (gptr (o 1)) (n 1) (n 1), .sl (gptr (o 2)) (n 2) (n 2)]]) := by simp
  generalize H ++ [Blk.row 26 .own [[.sl (gptr (o 0)) (n 0) (n 0), .sl (gptr (o 1)) (n 1) (n 1), .sl (gptr (o 2)) (n 2) (n 2)]]] = H1 at *
  have x0 := ld_own hb 0
  have x1 := ld_own hb 1
  have x2 := ld_own hb 2
  simp only [List.getElem?_cons_succ, List.getElem?_cons_zero] at x0 x1 x2
  refine VW.seq (VW.reg ?_)
  refine VOps.rd rfl rfl ?_
  refine VOps.rd (v := .sl (gptr (o 0)) (n 0) (n 0)) rfl (by simp [Fr.only, x0]) ?_
  refine VOps.rd rfl rfl ?_
  refine VOps.rd (v := .sl (gptr (o 1)) (n 1) (n 1)) rfl (by simp [Fr.only, x1]) ?_
  refine VOps.rd rfl rfl ?_
  refine VOps.rd (v := .sl (gptr (o 2)) (n 2) (n 2)) rfl (by simp [Fr.only, x2]) ?_
  refine VOps.ef (v := .sl (some ⟨H1.length, 0, 0⟩) 3 3) (H' := H1 ++ [.row 24 .own (tri fun j => .sl (gptr (o j)) (n j) (n j))]) rfl rfl ?_
  refine VOps.rd rfl rfl ?_
  refine VOps.nil ⟨rfl, ?_⟩
  have hge := hx.1
  have hx2 := hx.push [.row 24 .own (tri fun j => .sl (gptr (o j)) (n j) (n j))]
  have ht : (H1 ++ [.row 24 .own (tri fun j => .sl (gptr (o j)) (n j) (n j))])[H1.length]? = some (.row 24 .own (tri fun j => .sl (gptr (o j)) (n j) (n j))) := by simp
  generalize H1 ++ [.row 24 .own (tri fun j => .sl (gptr (o j)) (n j) (n j))] = H2 at *
  generalize hi4 : H1.length = i4 at *
  have ho4 : ∀ j, j < 3 → o j ≠ some i4 := fun j hj e => by
    have := hw j hj
    rw [e] at this
    obtain ⟨md, l, _, h2, _⟩ := this
    have := get_lt h2
    omega
  have hlt : ∀ j, j < 3 → ∀ k, o j = some k → k < H.length := fun j hj k e => by
    have := hw j hj
    rw [e] at this
    obtain ⟨md, l, _, h2, _⟩ := this
    exact get_lt h2
  have hw2 : ∀ j, j < 3 → Wr H2 (o j) (n j) := fun j hj => (hw j hj).keep fun k hk => hx2.2 k (hlt j hj k hk)
  refine VW.seq (VW.reg ?_)
  refine VOps.rd rfl rfl ?_
  refine VOps.nil ⟨rfl, ?_⟩
  show VW _ _ _ _ [(2, .sl (some ⟨i4, 0, 0⟩) 3 3), (3, .int .i64 0)] _ _
  clear x0 x1 x2 hb hx hw
  refine VW.block ?_
  refine VW.loop (fun m F' H' => ∃ (i : Int) (x : Nat → VV), 0 ≤ i ∧ i ≤ 3 ∧ m = 3 - i.toNat ∧ F' = [(2, .sl (some ⟨i4, 0, 0⟩) 3 3), (3, .int .i64 i)] ∧ OffW o H H' ∧ H'[i4]? = some (.row 24 .own (tri x)) ∧
      ∀ j, i.toNat ≤ j → j < 3 → x j = .sl (gptr (o j)) (n j) (n j) ∧ Wr H' (o j) (n j)) 3
    ⟨0, _, by omega, by omega, rfl, rfl, .ext hx2, ht, fun j _ hj => ⟨rfl, hw2 j hj⟩⟩ ?_
  clear hw2 ht hx2
  rintro m F' H3 ⟨i, x, i0, i3, rfl, rfl, hoff, ht, hxs⟩
  by_cases hil : i < 3
  · have hk : i.toNat < 3 := by omega
    have hv := wrap_id (x := i + 1) (by omega) (by omega)
    have hni := hn i.toNat hk
    refine VW.seq (VW.seq (VW.reg ?_))
    refine VOps.rd rfl rfl ?_
    refine VOps.rd rfl rfl ?_
    refine VOps.rd rfl rfl ?_
    refine VOps.rd rfl rfl ?_
    refine VOps.nil ⟨rfl, VW.condT (by simp [Fr.only, hil]) (VW.skip ?_)⟩
    refine VW.seq (VW.block (VW.seq (VW.seq (VW.reg ?_))))
    refine VOps.rd rfl rfl ?_
    refine VOps.nil ⟨rfl, ?_⟩
    show VW _ _ _ _ [(2, .sl (some ⟨i4, 0, 0⟩) 3 3), (3, .int .i64 i), (4, .int .i64 0)] _ _
    refine VW.mono (Q := fun e F2 H' => e = .normal ∧ Cov [(2, .sl (some ⟨i4, 0, 0⟩) 3 3), (3, .int .i64 i)] F2 ∧ OffW o H H' ∧ H'[i4]? = some (.row 24 .own (tri x)) ∧
      ∀ j, i.toNat ≤ j → j < 3 → x j = .sl (gptr (o j)) (n j) (n j) ∧ Wr H' (o j) (n j)) ?_ ?_
    · refine VW.block ?_
      refine VW.loop (fun m F' H' => ∃ k : Int, 0 ≤ k ∧ k ≤ n i.toNat ∧ m = n i.toNat - k.toNat ∧ F' = [(2, .sl (some ⟨i4, 0, 0⟩) 3 3), (3, .int .i64 i), (4, .int .i64 k)] ∧ OffW o H H' ∧ H'[i4]? = some (.row 24 .own (tri x)) ∧
          ∀ j, i.toNat ≤ j → j < 3 → x j = .sl (gptr (o j)) (n j) (n j) ∧ Wr H' (o j) (n j)) (n i.toNat)
        ⟨0, by omega, by omega, rfl, rfl, hoff, ht, hxs⟩ ?_
      clear hoff ht hxs
      rintro m F' H4 ⟨k, k0, kn, rfl, rfl, hoff, ht, hxs⟩
      obtain ⟨t1, t2, _⟩ := tri_ops ht hk
      obtain ⟨q1, q2⟩ := hxs i.toNat (Nat.le_refl _) hk
      rw [q1] at t2
      by_cases hkn : k < n i.toNat
      · cases hoi : o i.toNat with
        | none => rw [hoi] at q2; have : n i.toNat = 0 := q2; omega
        | some b =>
          rw [hoi] at q2 t2
          obtain ⟨md, l, c1, c2, c3, c4⟩ := q2
          obtain ⟨e1, e2⟩ := stc_int c1 c2 (k := k.toNat) (by omega) (-77)
          have hv2 := wrap_id (x := k + 1) (by omega) (by omega)
          refine VW.seq (VW.seq (VW.reg ?_))
          refine VOps.rd rfl rfl ?_
          refine VOps.rd rfl rfl ?_
          refine VOps.rd rfl rfl ?_
          refine VOps.rd (v := .ptr (some ⟨i4, i.toNat, 0⟩)) rfl (by simp [t1, i0, hil]) ?_
          refine VOps.rd (v := .sl (gptr (some b)) (n i.toNat) (n i.toNat)) rfl (by simp [t2]) ?_
          refine VOps.rd rfl rfl ?_
          refine VOps.rd rfl rfl ?_
          refine VOps.nil ⟨rfl, VW.condT (by simp [Fr.only, hkn]) (VW.skip ?_)⟩
          refine VW.seq (VW.block (VW.reg ?_))
          refine VOps.rd rfl rfl ?_
          refine VOps.rd rfl rfl ?_
          refine VOps.rd (v := .ptr (some ⟨i4, i.toNat, 0⟩)) rfl (by simp [Fr.only, t1, i0, hil]) ?_
          refine VOps.rd (v := .sl (gptr (some b)) (n i.toNat) (n i.toNat)) rfl (by simp [t2]) ?_
          refine VOps.rd rfl rfl ?_
          refine VOps.rd (v := .ptr (some ⟨b, k.toNat, 0⟩)) rfl (by simp [Fr.only, gptr, e1, k0, hkn]) ?_
          refine VOps.ef (v := .undef) rfl (by simp; rw [e2]) ?_
          refine VOps.nil ⟨rfl, ?_⟩
          refine VW.reg ?_
          refine VOps.rd rfl rfl ?_
          refine VOps.rd rfl rfl ?_
          refine VOps.rd rfl rfl ?_
          refine VOps.nil ⟨rfl, n i.toNat - (k + 1).toNat, by omega, k + 1, by omega, by omega, rfl, by simp [Fr.only, hv2], ?_, ?_, fun j hj1 hj2 => ?_⟩
          · exact hoff.trans ⟨by simp, fun z hz hne => List.getElem?_set_ne (fun e => hne i.toNat hk (by rw [hoi, e]))⟩
          · exact get_ne ht (fun e => ho4 i.toNat hk (by rw [hoi, e]))
          · obtain ⟨g1, g2⟩ := hxs j hj1 hj2
            refine ⟨g1, ?_⟩
            by_cases hji : j = i.toNat
            · subst hji
              rw [hoi]
              exact ⟨md, _, c1, by rw [List.getElem?_set_self (get_lt c2)], by simp [c3], fun hmd e => by have := congrArg List.length e; simp at this; exact c4 hmd this⟩
            · exact g2.keep fun z hz => List.getElem?_set_ne (fun e => hd j i.toNat hj2 hk hji z hz (by rw [hoi, e]))
      · have : k = n i.toNat := by omega
        subst this
        refine VW.seq (VW.seq (VW.reg ?_))
        refine VOps.rd rfl rfl ?_
        refine VOps.rd rfl rfl ?_
        refine VOps.rd rfl rfl ?_
        refine VOps.rd (v := .ptr (some ⟨i4, i.toNat, 0⟩)) rfl (by simp [t1, i0, hil]) ?_
        refine VOps.rd (v := .sl (gptr (o i.toNat)) (n i.toNat) (n i.toNat)) rfl (by simp [t2]) ?_
        refine VOps.rd rfl rfl ?_
        refine VOps.rd rfl rfl ?_
        refine VOps.nil ⟨rfl, VW.condF (by simp [Fr.only]) (VW.exit ?_)⟩
        simp only [then_normal, then_ret, then_exit, inB_normal, inB_ret, inB_exit, reduceIte, Nat.reduceEqDiff]
        exact ⟨trivial, by simp [Cov, Fr.only], hoff, ht, hxs⟩
    rintro e F2 H4 ⟨rfl, hcov, hoff4, ht4, hxs4⟩
    refine VW.sub hcov ?_
    clear hcov hoff ht hxs
    obtain ⟨t1, t2, _⟩ := tri_ops ht4 hk
    obtain ⟨q1, q2⟩ := hxs4 i.toNat (Nat.le_refl _) hk
    rw [q1] at t2
    obtain ⟨s1, y, H5, y1, y2, y3, s2, s3, s4⟩ := q2.app2 (by omega) (-78) (-78)
    have ht5 : H5[i4]? = some (.row 24 .own (tri x)) := by rw [s4 i4 (get_lt ht4) (ho4 _ hk)]; exact ht4
    obtain ⟨t3, _, t4⟩ := tri_ops ht5 hk
    replace t4 := t4 y y1
    refine VW.reg ?_
    refine VOps.rd rfl rfl ?_
    refine VOps.rd rfl rfl ?_
    refine VOps.rd rfl rfl ?_
    refine VOps.rd rfl rfl ?_
    refine VOps.rd (v := .ptr (some ⟨i4, i.toNat, 0⟩)) rfl (by simp [t1, i0, hil]) ?_
    refine VOps.rd (v := .sl (gptr (o i.toNat)) (n i.toNat) (n i.toNat)) rfl (by simp [t2]) ?_
    refine VOps.ef (v := .sl (some ⟨H4.length, 0, 0⟩) 2 2) (H' := H4 ++ [.row 3 .own [[.int .i64 (-78)], [.int .i64 (-78)]]]) rfl rfl ?_
    refine VOps.ef (v := y) (H' := H5) rfl (by simp only [VEf.ev, Od.ev, Fr.pt, Fr.get, reduceIte, Nat.reduceEqDiff, s1, s2]) ?_
    refine VOps.rd (v := .ptr (some ⟨i4, i.toNat, 0⟩)) rfl (by simp [t3, i0, hil]) ?_
    refine VOps.ef (v := .undef) rfl (by simp only [VEf.ev, Od.ev, Fr.pt, Fr.get, reduceIte, Nat.reduceEqDiff, y2, y3, t4, List.length_singleton, and_self]; rfl) ?_
    refine VOps.nil ⟨rfl, ?_⟩
    refine VW.reg ?_
    refine VOps.rd rfl rfl ?_
    refine VOps.rd rfl rfl ?_
    refine VOps.rd rfl rfl ?_
    refine VOps.nil ⟨rfl, 3 - (i + 1).toNat, by omega, i + 1, _, by omega, by omega, rfl, by simp [Fr.only, hv], ?_, List.getElem?_set_self (get_lt ht5), fun j hj1 hj2 => ?_⟩
    · have hoff5 : OffW o H H5 := ⟨Nat.le_trans hoff4.1 s3, fun z hz hne => by
        rw [s4 z (Nat.lt_of_lt_of_le hz hoff4.1) (hne _ hk)]; exact hoff4.2 z hz hne⟩
      exact ⟨by simpa using hoff5.1, fun z hz hne => by rw [List.getElem?_set_ne (by omega)]; exact hoff5.2 z hz hne⟩
    · obtain ⟨g1, g2⟩ := hxs4 j (by omega) hj2
      refine ⟨by rw [if_neg (by omega)]; exact g1, g2.keep fun z hz => ?_⟩
      have hz1 : z < H4.length := Nat.lt_of_lt_of_le (hlt j hj2 z hz) hoff4.1
      rw [List.getElem?_set_ne (fun e => ho4 j hj2 (by rw [hz, e]))]
      exact s4 z hz1 (fun e => hd j i.toNat hj2 hk (by omega) z hz e)
  · have : i = 3 := by omega
    subst this
    refine VW.seq (VW.seq (VW.reg ?_))
    refine VOps.rd rfl rfl ?_
    refine VOps.rd rfl rfl ?_
    refine VOps.rd rfl rfl ?_
    refine VOps.rd rfl rfl ?_
    refine VOps.nil ⟨rfl, VW.condF (by simp [Fr.only]) (VW.exit ?_)⟩
    simp only [then_normal, then_ret, then_exit, inB_normal, inB_ret, inB_exit, reduceIte, Nat.reduceEqDiff]
    exact ⟨by simp, _, rfl, rfl, hoff⟩
end
end Go.Proofs.Ytlclbfkdaemilaa
