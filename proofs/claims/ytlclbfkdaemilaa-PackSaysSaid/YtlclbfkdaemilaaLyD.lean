/- Does a row fit at a base: the program's and the document's, over the canonical heap. -/
import Derived.Test.YtlclbfkdaemilaaLyC
namespace Go.Proofs.Ytlclbfkdaemilaa
set_option linter.unusedSimpArgs false
set_option linter.unusedVariables false
open Go Go.Vm Go.Proofs
set_option maxRecDepth 100000
set_option maxHeartbeats 1000000

theorem ld_push {H : Hp} {p : PA} {v : VV} (h : ld H p = some v) (G : Hp) : ld (H ++ G) p = some v := by
  unfold ld at *
  split at h
  · rename_i t md es hb
    rw [get_push hb G]; exact h
  · cases h
theorem ext_ld {A B : Hp} (hx : Ext A B) {p : PA} {v : VV} (h : ld A p = some v) : ld B p = some v := by
  obtain ⟨G, rfl⟩ := hx.garbage; exact ld_push h G
theorem ext_ixp {A B : Hp} (hx : Ext A B) {p q : PA} {k s : Nat} (h : ixp A p k s = some q) : ixp B p k s = some q := by
  unfold ixp eszOf at *
  cases hb : A[p.blk]? with
  | none => simp [hb] at h
  | some x => rw [hx.get hb]; rw [hb] at h; exact h
theorem sl_int {H : Hp} {p : Option PA} {l : List Int} (h : Sl H p 1 (intEs l)) {k : Nat} (hk : k < l.length) : ∃ q, p = some q ∧ Vm.ixp H q k 1 = some (elp (some q) k) ∧ Vm.ld H (elp (some q) k) = some (.int .i64 (l.getD k 0)) := h.int hk

section
variable {H : Hp} {p po : Option PA} {c co : Nat} {l : Edges} {o : List Int} {b sy to : Int}
theorem fits56 {i1 i2 ic : Nat} (hb : ld H ⟨i1, 0, 0⟩ = some (.int .i64 b)) (hc : ld H ⟨i2, 0, 0⟩ = some (.ptr (some ⟨ic, 0, 0⟩))) (ho : ld H ⟨ic, 0, 2⟩ = some (.sl po o.length co)) (hs : Sl H po 1 (intEs o))
    (b0 : 0 ≤ b) (b1 : b ≤ 1000000000) (s0 : 0 ≤ sy) (s1 : sy < 256) :
    FnV Try.prog 56 ([.agg [.int .i64 sy, .int .i64 to]] ++ [.ptr (some ⟨i1, 0, 0⟩), .ptr (some ⟨i2, 0, 0⟩)]) H fun r H' => r = .bool (hit o b (sy, to)) ∧ H' = H := by
  refine FnV.calm rfl ?_
  refine FnV.enterRow ok56 (by show 3 ≤ 30; decide) fun B => ?_
  dsimp only [w56]
  refine VW.seq (VW.reg ?_)
  refine VOps.ef (v := .ptr (some ⟨H.length, 0, 0⟩)) (H' := H ++ [.row 42 .own [[.int .i64 sy, .int .i64 to]]]) rfl (by simp [argsF]) ?_
  refine VOps.rd rfl rfl ?_
  refine VOps.nil ⟨rfl, ?_⟩
  have l0 := ld_last H 42 .own [VV.int .i64 sy, VV.int .i64 to] [] 0
  simp only [List.getElem?_cons_zero] at l0
  replace hb := ld_push hb [.row 42 .own [[.int .i64 sy, .int .i64 to]]]
  replace hc := ld_push hc [.row 42 .own [[.int .i64 sy, .int .i64 to]]]
  replace ho := ld_push ho [.row 42 .own [[.int .i64 sy, .int .i64 to]]]
  replace hs := hs.mono [.row 42 .own [[.int .i64 sy, .int .i64 to]]]
  have hx := Ext.app H [.row 42 .own [[.int .i64 sy, .int .i64 to]]]
  show VW _ _ _ _ [(1, .ptr (some ⟨i1, 0, 0⟩)), (2, .ptr (some ⟨i2, 0, 0⟩)), (3, .ptr (some ⟨H.length, 0, 0⟩))] (H ++ [.row 42 .own [[.int .i64 sy, .int .i64 to]]]) _
  generalize H ++ [.row 42 .own [[.int .i64 sy, .int .i64 to]]] = H1 at *
  have hw := wrap_id (x := b + sy) (by omega) (by omega)
  refine VW.seq ?_
  refine VW.mono (Q := fun e F2 Hx => e = .normal ∧ F2 = [(4, .bool (hit o b (sy, to)))] ∧ Hx = H1) ?_ ?_
  · refine VW.dreg [H1] mixed rfl ?_
    by_cases g1 : b + sy < o.length
    · obtain ⟨q, rfl, hq1, hq2⟩ := sl_int hs (k := (b + sy).toNat) (by omega)
      have g2 : 0 ≤ b + sy := by omega
      have hh : hit o b (sy, to) = decide (0 ≤ o.getD (b + sy).toNat 0) := by
        unfold hit; simp [g1]
      rw [hh]
      generalize o.getD (b + sy).toNat 0 = w at *
      clear hh
      repeat first
        | (apply VX.rd1; (focus (first | exact rfl | (simp [Fr.only, argsF, *]; done))); (focus (exact rfl)))
        | (apply VX.sk1; (focus (simp [Fr.only, argsF, *]; done)))
        | (apply VX.rd1; (focus (first | exact rfl | (simp [Fr.only, argsF, *]; done))); (focus (simp [Fr.only, argsF, *]; first | done | exact rfl)))
      exact VX.nil ⟨rfl, by simp [Fr.only, *], rfl⟩
    · have hh : hit o b (sy, to) = false := by
        unfold hit; simp [g1]
      rw [hh]
      repeat first
        | (apply VX.rd1; (focus (first | exact rfl | (simp [Fr.only, argsF, *]; done))); (focus (exact rfl)))
        | (apply VX.sk1; (focus (simp [Fr.only, argsF, *]; done)))
        | (apply VX.rd1; (focus (first | exact rfl | (simp [Fr.only, argsF, *]; done))); (focus (simp [Fr.only, argsF, *]; first | done | exact rfl)))
      exact VX.nil ⟨rfl, by simp [Fr.only, *], rfl⟩
  rintro e F2 Hx ⟨rfl, rfl, rfl⟩
  exact VW.ret ⟨.inl rfl, _, rfl, rfl, hx⟩

theorem fits47 {ic : Nat} (ho : ld H ⟨ic, 0, 2⟩ = some (.sl po o.length co)) (hs : Sl H po 1 (intEs o)) (h : Sl H p 2 (edgeEs l)) (hl : l.length ≤ maxLen) (hok : Ok l)
    (b0 : 0 ≤ b) (b1 : b ≤ 1000000000) :
    FnV Try.prog 47 [.ptr (some ⟨ic, 0, 0⟩), .int .i64 b, .sl p l.length c] H fun r H' => r = .bool (fitsB o l b) ∧ H' = H := by
  refine FnV.calm rfl ?_
  refine FnV.enterRow ok47 (by show 3 ≤ 11; decide) fun B => ?_
  dsimp only [w47]
  refine VW.seq (VW.reg ?_)
  refine VOps.ef (v := .ptr (some ⟨H.length, 0, 0⟩)) (H' := H ++ [.row 65 .own [[.ptr (some ⟨ic, 0, 0⟩)]]]) rfl (by simp [argsF, VV.cell]) ?_
  refine VOps.ef (v := .ptr (some ⟨(H ++ [Blk.row 65 .own [[.ptr (some ⟨ic, 0, 0⟩)]]]).length, 0, 0⟩)) (H' := (H ++ [.row 65 .own [[.ptr (some ⟨ic, 0, 0⟩)]]]) ++ [.row 3 .own [[.int .i64 b]]]) rfl (by simp [argsF, VV.cell]) ?_
  refine VOps.rd rfl rfl ?_
  refine VOps.nil ⟨rfl, ?_⟩
  have l1 := ld_push (ld_last H 65 .own [VV.ptr (some ⟨ic, 0, 0⟩)] [] 0) [.row 3 .own [[.int .i64 b]]]
  have l2 := ld_last (H ++ [.row 65 .own [[.ptr (some ⟨ic, 0, 0⟩)]]]) 3 .own [VV.int .i64 b] [] 0
  simp only [List.getElem?_cons_zero] at l2
  have hx : Ext H ((H ++ [.row 65 .own [[.ptr (some ⟨ic, 0, 0⟩)]]]) ++ [.row 3 .own [[.int .i64 b]]]) := (Ext.app _ _).push _
  replace ho := ld_push (ld_push ho [.row 65 .own [[.ptr (some ⟨ic, 0, 0⟩)]]]) [.row 3 .own [[.int .i64 b]]]
  show VW _ _ _ _ [(2, .sl p l.length c), (3, .ptr (some ⟨H.length, 0, 0⟩)), (4, .ptr (some ⟨(H ++ [Blk.row 65 .own [[.ptr (some ⟨ic, 0, 0⟩)]]]).length, 0, 0⟩))] ((H ++ [.row 65 .own [[.ptr (some ⟨ic, 0, 0⟩)]]]) ++ [.row 3 .own [[.int .i64 b]]]) _
  generalize (H ++ [Blk.row 65 .own [[.ptr (some ⟨ic, 0, 0⟩)]]]).length = i2 at *
  generalize (H ++ [Blk.row 65 .own [[.ptr (some ⟨ic, 0, 0⟩)]]]) ++ [.row 3 .own [[.int .i64 b]]] = H1 at *
  refine VW.seq (VW.reg ?_)
  refine VOps.rd rfl rfl ?_
  refine VOps.rd rfl rfl ?_
  have hf := has55 (p := p) (c := c) (f := 56) (caps := [.ptr (some ⟨i2, 0, 0⟩), .ptr (some ⟨H.length, 0, 0⟩)]) (pr := fun k => hit o b (l.getD k (0, 0))) (b := l.any (hit o b)) (hx.sl h) hl (fun k hk => by
    have hm : l.getD k (0, 0) ∈ l := by rw [List.getD_eq_getElem?_getD, List.getElem?_eq_getElem hk]; exact List.getElem_mem ..
    have := hok _ hm
    exact fits56 (H := H1) (po := po) (co := co) l2 l1 ho (hx.sl hs) b0 b1 this.1 this.2) (by
    rw [List.any_eq_true]
    constructor
    · rintro ⟨x, hx, h2⟩
      obtain ⟨k, hk, rfl⟩ := List.getElem_of_mem hx
      exact ⟨k, hk, by simpa [List.getD, hk] using h2⟩
    · rintro ⟨k, hk, h2⟩
      exact ⟨l[k], List.getElem_mem .., by simpa [List.getD, hk] using h2⟩)
  refine VOps.call rfl rfl rfl (hf.mono ?_)
  rintro r H2 ⟨rfl, rfl⟩
  refine VOps.rd rfl rfl ?_
  refine VOps.rd rfl rfl ?_
  exact VOps.nil ⟨rfl, VW.ret ⟨.inl rfl, _, rfl, rfl, hx⟩⟩

theorem any_step {f : Int × Int → Bool} {k : Nat} (h : k < l.length) : (l.drop k).any f = (f (l.getD k (0, 0)) || (l.drop (k + 1)).any f) := by
  rw [List.drop_eq_getElem_cons h]
  have : l.getD k (0, 0) = l[k] := by simp [List.getD, h]
  rw [this, List.any_cons]
theorem fits35 (hs : Sl H po 1 (intEs o)) (h : Sl H p 2 (edgeEs l)) (hl : l.length ≤ maxLen) (hok : Ok l) (b0 : 0 ≤ b) (b1 : b ≤ 1000000000) :
    FnV Try.prog 35 [.sl po o.length co, .sl p l.length c, .int .i64 b] H fun r H' => r = .bool (fitsB o l b) ∧ H' = H := by
  refine FnV.enterRow ok35 (by show 3 ≤ 37; decide) fun B => ?_
  dsimp only [w35]
  have hmx : maxLen = 9223372036854775807 := rfl
  refine VW.seq (VW.reg ?_)
  refine VOps.rd rfl rfl ?_
  refine VOps.nil ⟨rfl, ?_⟩
  refine VW.seq (VW.seq (VW.reg ?_))
  refine VOps.rd rfl rfl ?_
  refine VOps.nil ⟨rfl, ?_⟩
  show VW _ _ _ _ [(0, .sl po o.length co), (1, .sl p l.length c), (2, .int .i64 b), (7, .int .i64 0)] _ _
  refine VW.block ?_
  refine VW.loop (fun k F' H' => ∃ i : Int, 0 ≤ i ∧ i ≤ l.length ∧ k = l.length - i.toNat ∧ F' = [(0, .sl po o.length co), (1, .sl p l.length c), (2, .int .i64 b), (7, .int .i64 i)] ∧ H' = H ∧ fitsB o l b = !((l.drop i.toNat).any (hit o b))) l.length
    ⟨0, by omega, by omega, rfl, rfl, rfl, rfl⟩ ?_
  rintro k F' H' ⟨i, i0, il, rfl, rfl, rfl, hS⟩
  by_cases hil : i < l.length
  · have hk : i.toNat < l.length := by omega
    rw [any_step hk] at hS
    have hm : l.getD i.toNat (0, 0) ∈ l := by rw [List.getD_eq_getElem?_getD, List.getElem?_eq_getElem hk]; exact List.getElem_mem ..
    obtain ⟨s0, s1⟩ := hok _ hm
    obtain ⟨q, rfl, hq1, hq2, hq3, hq4⟩ := sl_edge h (k := i.toNat) (by omega)
    have hq5 : ld H' ⟨(elp (some q) i.toNat).blk, (elp (some q) i.toNat).idx, 0⟩ = some (.int .i64 (l.getD i.toNat (0, 0)).1) := hq2
    generalize l.getD i.toNat (0, 0) = e at *
    obtain ⟨sy, to⟩ := e
    simp only at *
    generalize elp (some q) i.toNat = pe at *
    have hv := wrap_id (x := i + 1) (by omega) (by omega)
    have hw := wrap_id (x := b + sy) (by omega) (by omega)
    refine VW.seq (VW.seq (VW.reg ?_))
    repeat first
      | (apply VOps.rd; (focus (first | exact rfl | (simp [Fr.only, argsF, *]; done))); (focus (exact rfl)))
      | (apply VOps.sk; (focus (simp [Fr.only, argsF, *]; done)))
      | (apply VOps.rd; (focus (first | exact rfl | (simp [Fr.only, argsF, *]; done))); (focus (simp [Fr.only, argsF, *]; first | done | exact rfl)))
    refine VOps.nil ⟨rfl, VW.condT (by simp [Fr.only, argsF, *]) (VW.skip ?_)⟩
    refine VW.seq (VW.block (VW.seq ?_))
    refine VW.mono (Q := fun e F2 Hx => e = .normal ∧ F2 = [(0, .sl po o.length co), (1, .sl (some q) l.length c), (2, .int .i64 b), (7, .int .i64 i), (36, .bool (hit o b (sy, to)))] ∧ Hx = H') ?_ ?_
    · clear hS
      refine VW.reg ?_
      by_cases g1 : b + sy < o.length
      · obtain ⟨qo, rfl, ho1, ho2⟩ := sl_int hs (k := (b + sy).toNat) (by omega)
        have g2 : 0 ≤ b + sy := by omega
        have hh : hit o b (sy, to) = decide (0 ≤ o.getD (b + sy).toNat 0) := by
          unfold hit; simp [g1]
        rw [hh]
        generalize o.getD (b + sy).toNat 0 = w at *
        clear hh
        repeat first
          | (apply VOps.rd; (focus (first | exact rfl | (simp [Fr.only, argsF, *]; done))); (focus (exact rfl)))
          | (apply VOps.sk; (focus (simp [Fr.only, argsF, *]; done)))
          | (apply VOps.rd; (focus (first | exact rfl | (simp [Fr.only, argsF, *]; done))); (focus (simp [Fr.only, argsF, *]; first | done | exact rfl)))
        exact VOps.nil ⟨rfl, rfl, by simp [Fr.only, *], rfl⟩
      · have hh : hit o b (sy, to) = false := by
          unfold hit; simp [g1]
        rw [hh]
        repeat first
          | (apply VOps.rd; (focus (first | exact rfl | (simp [Fr.only, argsF, *]; done))); (focus (exact rfl)))
          | (apply VOps.sk; (focus (simp [Fr.only, argsF, *]; done)))
          | (apply VOps.rd; (focus (first | exact rfl | (simp [Fr.only, argsF, *]; done))); (focus (simp [Fr.only, argsF, *]; first | done | exact rfl)))
        exact VOps.nil ⟨rfl, rfl, by simp [Fr.only, *], rfl⟩
    rintro e F2 Hx ⟨rfl, rfl, rfl⟩
    refine VW.cond rfl (fun a => ?_) (fun a => ?_)
    · rw [a] at hS
      refine VW.seq (VW.reg ?_)
      refine VOps.rd rfl rfl ?_
      exact VOps.nil ⟨rfl, VW.ret ⟨.inl rfl, .bool false, rfl, by rw [hS]; rfl, rfl⟩⟩
    · rw [a] at hS
      refine VW.skip ?_
      refine VW.reg ?_
      refine VOps.rd rfl rfl ?_
      refine VOps.rd rfl rfl ?_
      refine VOps.rd rfl rfl ?_
      refine VOps.nil ⟨rfl, l.length - (i + 1).toNat, by omega, i + 1, by omega, by omega, rfl, by simp [Fr.only, hv], rfl, ?_⟩
      rw [hS, show (i + 1).toNat = i.toNat + 1 by omega]; rfl
  · have : i = l.length := by omega
    subst this
    rw [show ((l.length : Int)).toNat = l.length by omega] at hS
    refine VW.seq (VW.seq (VW.reg ?_))
    repeat first
      | (apply VOps.rd; (focus (first | exact rfl | (simp [Fr.only, argsF, *]; done))); (focus (exact rfl)))
      | (apply VOps.sk; (focus (simp [Fr.only, argsF, *]; done)))
      | (apply VOps.rd; (focus (first | exact rfl | (simp [Fr.only, argsF, *]; done))); (focus (simp [Fr.only, argsF, *]; first | done | exact rfl)))
    refine VOps.nil ⟨rfl, VW.condF (by simp [Fr.only]) (VW.exit ?_)⟩
    simp only [then_normal, then_ret, then_exit, inB_normal, inB_ret, inB_exit, reduceIte, Nat.reduceEqDiff]
    refine VW.seq (VW.reg ?_)
    refine VOps.rd rfl rfl ?_
    exact VOps.nil ⟨rfl, VW.ret ⟨.inl rfl, .bool true, rfl, by rw [hS]; simp, rfl⟩⟩
end
end Go.Proofs.Ytlclbfkdaemilaa
