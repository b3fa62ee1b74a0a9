/- put of the program over the canonical heap: a row is laid at the first base that fits. -/
import Derived.Test.YtlclbfkdaemilaaLyD
namespace Go.Proofs.Ytlclbfkdaemilaa
set_option linter.unusedSimpArgs false
set_option linter.unusedVariables false
open Go Go.Vm Go.Proofs
set_option maxRecDepth 100000
set_option maxHeartbeats 1000000

theorem foldl_step {α : Type} {f : α → Int × Int → α} {l : Edges} {k : Nat} {a : α} (h : k < l.length) : (l.drop k).foldl f a = (l.drop (k + 1)).foldl f (f a (l.getD k (0, 0))) := by
  rw [List.drop_eq_getElem_cons h]
  have : l.getD k (0, 0) = l[k] := by simp [List.getD, h]
  rw [this, List.foldl_cons]
theorem getD_mem {l : Edges} {k : Nat} (h : k < l.length) : l.getD k (0, 0) ∈ l := by
  rw [List.getD_eq_getElem?_getD, List.getElem?_eq_getElem h]; exact List.getElem_mem ..

section
variable {H0 H : Hp} {ic ib : Nat} {iv io : Option Nat} {s : Laid} {p : Option PA} {c : Nat} {l : Edges} {i : Int}
theorem put33 (h : Comb 67 H0 H ic ib iv io s) (hr : Sl H0 p 2 (edgeEs l)) (hl : l.length ≤ maxLen) (hok : Ok l) (hov : s.o.length = s.v.length) (ho : s.o.length ≤ 500000) (i0 : 0 ≤ i) (ih : i < s.bs.length) :
    FnV Try.prog 33 [.ptr (some ⟨ic, 0, 0⟩), .int .i64 i, .sl p l.length c] H fun r H' => r = .tup [] ∧ ∃ iv io, Comb 67 H0 H' ic ib iv io (putS s i.toNat l) := by
  refine FnV.enterRow ok33 (by show 3 ≤ 87; decide) fun B => ?_
  dsimp only [w33]
  have hmx : maxLen = 9223372036854775807 := rfl
  obtain ⟨b0, b1⟩ := baseS_le (o := s.o) hok
  refine VW.seq (VW.reg ?_)
  refine VOps.rd rfl rfl ?_
  refine VOps.nil ⟨rfl, ?_⟩
  show VW _ _ _ _ [(0, .ptr (some ⟨ic, 0, 0⟩)), (1, .int .i64 i), (2, .sl p l.length c), (6, .int .i64 0)] _ _
  refine VW.seq ?_
  refine VW.mono (Q := fun e F2 Hx => e = .normal ∧ Cov [(0, .ptr (some ⟨ic, 0, 0⟩)), (1, .int .i64 i), (2, .sl p l.length c), (6, .int .i64 (baseS s.o l))] F2 ∧ Hx = H) ?_ ?_
  · refine VW.block ?_
    refine VW.loop (fun k F' H' => ∃ b : Int, 0 ≤ b ∧ b ≤ s.o.length ∧ k = s.o.length - b.toNat ∧ F' = [(0, .ptr (some ⟨ic, 0, 0⟩)), (1, .int .i64 i), (2, .sl p l.length c), (6, .int .i64 b)] ∧ H' = H ∧ baseS s.o l = fitAt s.o l (s.o.length - b.toNat) b) s.o.length
      ⟨0, by omega, by omega, rfl, rfl, rfl, rfl⟩ ?_
    rintro k F' H' ⟨b, c0, c1, rfl, rfl, rfl, hS⟩
    have hcall := fits47 (H := H') (b := b) (p := p) (c := c) h.ld2 h.go.sl (h.ext.sl hr) hl hok c0 (by omega)
    refine VW.seq (VW.seq (VW.reg ?_))
    refine VOps.rd rfl rfl ?_
    refine VOps.rd rfl rfl ?_
    refine VOps.rd rfl rfl ?_
    refine VOps.call rfl rfl rfl (hcall.mono ?_)
    rintro r H2 ⟨rfl, rfl⟩
    refine VOps.rd rfl rfl ?_
    refine VOps.nil ⟨rfl, ?_⟩
    cases hf : fitsB s.o l b with
    | true =>
      rw [fitAt_stop hf] at hS
      refine VW.condF (by simp [Fr.only]) (VW.exit ?_)
      simp only [then_normal, then_ret, then_exit, inB_normal, inB_ret, inB_exit, reduceIte, Nat.reduceEqDiff]
      exact ⟨trivial, by simp [Cov, Fr.only, hS], trivial⟩
    | false =>
      have hlt : b < s.o.length := by
        apply Int.lt_of_not_ge
        intro hge
        rw [fitsB_far hok hge] at hf; cases hf
      have hv := wrap_id (x := b + 1) (by omega) (by omega)
      rw [show s.o.length - b.toNat = (s.o.length - (b + 1).toNat) + 1 by omega, fitAt_step hf] at hS
      refine VW.condT (by simp [Fr.only]) (VW.skip ?_)
      refine VW.block (VW.reg ?_)
      refine VOps.rd rfl rfl ?_
      refine VOps.rd rfl rfl ?_
      refine VOps.rd rfl rfl ?_
      exact VOps.nil ⟨rfl, s.o.length - (b + 1).toNat, by omega, b + 1, by omega, by omega, rfl, by simp [Fr.only, hv], rfl, hS⟩
  rintro e F2 Hx ⟨rfl, hcov, rfl⟩
  refine VW.sub hcov ?_
  clear hcov
  unfold putS
  generalize baseS s.o l = b at *
  -- the base is told
  obtain ⟨H1, hix, hst, h1⟩ := h.setB (by decide) (k := i.toNat) (by omega) b
  have l0 := h.ld0
  refine VW.seq (VW.reg ?_)
  repeat first
    | (apply VOps.rd; (focus (first | exact rfl | (simp [Fr.only, argsF, *]; done))); (focus (exact rfl)))
    | (apply VOps.sk; (focus (simp [Fr.only, argsF, *]; done)))
    | (apply VOps.rd; (focus (first | exact rfl | (simp [Fr.only, argsF, *]; done))); (focus (simp [Fr.only, argsF, *]; first | done | exact rfl)))
    | (apply VOps.ef; (focus (first | exact rfl | (simp [Fr.only, argsF, *]; done))); (focus (simp [Fr.only, argsF, *]; first | done | exact rfl | exact ⟨rfl, rfl⟩)))
  refine VOps.nil ⟨rfl, ?_⟩
  clear hix hst l0 h
  refine VW.seq (VW.reg ?_)
  refine VOps.rd rfl rfl ?_
  refine VOps.rd rfl rfl ?_
  refine VOps.rd rfl rfl ?_
  refine VOps.nil ⟨rfl, ?_⟩
  show VW _ _ _ _ [(0, .ptr (some ⟨ic, 0, 0⟩)), (1, .int .i64 i), (6, .int .i64 b), (24, .sl p l.length c), (25, .int .i64 l.length), (26, .int .i64 0)] _ _
  obtain ⟨bs, o, v⟩ := s
  simp only at *
  generalize hbs : bs.set i.toNat b = bs' at *
  refine VW.block ?_
  refine VW.loop (fun k F' H' => ∃ (j : Int) (o' v' : List Int) (iv io : Option Nat), 0 ≤ j ∧ j ≤ l.length ∧ k = l.length - j.toNat ∧ F' = [(0, .ptr (some ⟨ic, 0, 0⟩)), (1, .int .i64 i), (6, .int .i64 b), (24, .sl p l.length c), (25, .int .i64 l.length), (26, .int .i64 j)] ∧
      Comb 67 H0 H' ic ib iv io ⟨bs', o', v'⟩ ∧ o'.length = v'.length ∧ o'.length ≤ 500256 ∧ l.foldl (place b i.toNat) (o, v) = (l.drop j.toNat).foldl (place b i.toNat) (o', v')) l.length
    ⟨0, o, v, _, _, by omega, by omega, rfl, rfl, h1, hov, by omega, rfl⟩ ?_
  clear h1
  rintro k F' H2 ⟨j, o', v', iv, io, j0, jl, rfl, rfl, h, hov', ho', hS⟩
  by_cases hjl : j < l.length
  · have hk : j.toNat < l.length := by omega
    rw [foldl_step hk] at hS
    obtain ⟨s0, s1⟩ := hok _ (getD_mem hk)
    obtain ⟨q, rfl, hq1, hq2, hq3, hq4⟩ := sl_edge (h.ext.sl hr) (k := j.toNat) (by omega)
    generalize l.getD j.toNat (0, 0) = e at *
    obtain ⟨sy, to⟩ := e
    simp only at *
    have hv := wrap_id (x := j + 1) (by omega) (by omega)
    have hw := wrap_id (x := b + sy) (by omega) (by omega)
    have hs2 := stc_last2 (H := H2) (t := 42) (md := .own) (by decide) (a := .int .i64 0) (b := .int .i64 0) (c := .int .i64 sy) (d := .int .i64 to) rfl rfl
    refine VW.seq (VW.reg ?_)
    repeat first
      | (apply VOps.rd; (focus (first | exact rfl | (simp [Fr.only, argsF, *]; done))); (focus (exact rfl)))
      | (apply VOps.sk; (focus (simp [Fr.only, argsF, *]; done)))
      | (apply VOps.rd; (focus (first | exact rfl | (simp [Fr.only, argsF, *]; done))); (focus (simp [Fr.only, argsF, *]; first | done | exact rfl)))
    refine VOps.nil ⟨rfl, ?_⟩
    refine VW.seq (VW.condT (by simp [Fr.only, argsF, *]) (VW.skip ?_))
    refine VW.seq (VW.block (VW.seq (VW.reg ?_)))
    replace hS := Hid.of hS
    repeat first
      | (apply VOps.rd; (focus (first | exact rfl | (simp [Fr.only, argsF, *]; done))); (focus (exact rfl)))
      | (apply VOps.sk; (focus (simp [Fr.only, argsF, *]; done)))
      | (apply VOps.rd; (focus (first | exact rfl | (simp [Fr.only, argsF, *]; done))); (focus (simp [Fr.only, argsF, *]; first | done | exact rfl)))
      | (apply VOps.ef; (focus (first | exact rfl | (simp [Fr.only, argsF, *]; done))); (focus (simp [Fr.only, argsF, *]; first | done | exact rfl | exact ⟨rfl, rfl⟩)))
    refine VOps.nil ⟨rfl, ?_⟩
    show VW _ _ _ _ [(0, .ptr (some ⟨ic, 0, 0⟩)), (1, .int .i64 i), (6, .int .i64 b), (8, .ptr (some ⟨H2.length, 0, 0⟩)), (24, .sl (some q) l.length c), (25, .int .i64 l.length), (26, .int .i64 j)] _ _
    clear hq1 hq2 hq3 hq4 hs2
    have hbx := List.getElem?_concat_length (l := H2) (a := Blk.row 42 .own [[VV.int .i64 sy, VV.int .i64 to]])
    replace h := h.push [.row 42 .own [[.int .i64 sy, .int .i64 to]]]
    generalize H2 ++ [.row 42 .own [[.int .i64 sy, .int .i64 to]]] = H3 at *
    generalize H2.length = ix at *
    obtain ⟨K, hK, K0, K1⟩ : ∃ K, IntKind.i64.wrap (b + sy) = K ∧ 0 ≤ K ∧ K ≤ 500255 := ⟨b + sy, hw, by omega, by omega⟩
    have hKe : Hid (K = b + sy) := by rw [← hK, hw]; rfl
    clear hw
    refine VW.seq ?_
    refine VW.mono (Q := fun e F2 Hx => e = .normal ∧ Cov [(0, .ptr (some ⟨ic, 0, 0⟩)), (1, .int .i64 i), (6, .int .i64 b), (8, .ptr (some ⟨ix, 0, 0⟩)), (24, .sl (some q) l.length c), (25, .int .i64 l.length), (26, .int .i64 j)] F2 ∧
      ∃ (iv io : Option Nat), Comb 67 H0 Hx ic ib iv io ⟨bs', pad o' K.toNat (-1), pad v' K.toNat 0⟩ ∧ Hx[ix]? = some (.row 42 .own [[.int .i64 sy, .int .i64 to]])) ?_ ?_
    · refine VW.block ?_
      refine VW.loop (fun k F' H' => ∃ (o1 v1 : List Int) (iv io : Option Nat), k = K.toNat + 1 - o1.length ∧ F' = [(0, .ptr (some ⟨ic, 0, 0⟩)), (1, .int .i64 i), (6, .int .i64 b), (8, .ptr (some ⟨ix, 0, 0⟩)), (24, .sl (some q) l.length c), (25, .int .i64 l.length), (26, .int .i64 j)] ∧
          Comb 67 H0 H' ic ib iv io ⟨bs', o1, v1⟩ ∧ H'[ix]? = some (.row 42 .own [[.int .i64 sy, .int .i64 to]]) ∧ o1.length = v1.length ∧ o1.length ≤ 500256 ∧ pad o1 K.toNat (-1) = pad o' K.toNat (-1) ∧ pad v1 K.toNat 0 = pad v' K.toNat 0) (K.toNat + 1 - o'.length)
        ⟨o', v', iv, io, rfl, rfl, h, hbx, hov', ho', rfl, rfl⟩ ?_
      clear h hbx hS hov' ho' ho hov
      rintro k F' H4 ⟨o1, v1, iv, io, rfl, rfl, h, hbx, hov, ho, hp1, hp2⟩
      have hov1 := Nat.le_of_eq hov
      have hov2 := Nat.le_of_eq hov.symm
      clear hov
      have l0 := ld_own hbx 0
      simp only [List.getElem?_cons_zero] at l0
      have l2 := h.ld2
      simp only at l2
      by_cases hle : (o1.length : Int) ≤ K
      · refine VW.seq (VW.seq ?_)
        refine VW.mono (Q := fun e F2 Hx => e = .normal ∧ Cov [(0, .ptr (some ⟨ic, 0, 0⟩)), (1, .int .i64 i), (6, .int .i64 b), (8, .ptr (some ⟨ix, 0, 0⟩)), (24, .sl (some q) l.length c), (25, .int .i64 l.length), (26, .int .i64 j), (40, .bool true)] F2 ∧ Hx = H4) ?_ ?_
        · refine VW.dreg [H4] mixed rfl ?_
          clear hp1 hp2
          repeat first
            | (apply VX.rd1; (focus (first | exact rfl | (simp [Fr.only, argsF, *]; done))); (focus (exact rfl)))
            | (apply VX.sk1; (focus (simp [Fr.only, argsF, *]; done)))
            | (apply VX.rd1; (focus (first | exact rfl | (simp [Fr.only, argsF, *]; done))); (focus (simp [Fr.only, argsF, *]; first | done | exact rfl)))
          exact VX.nil ⟨rfl, by simp [Cov, Fr.only, hK, hle]; try omega, rfl⟩
        rintro e F2 Hx ⟨rfl, hcov, rfl⟩
        refine VW.condT (hcov.get _ _ rfl) (VW.skip ?_)
        refine VW.sub hcov ?_
        clear hcov
        obtain ⟨G1, G2, a1, a2, a3, a4, a5⟩ := h.pushO (by decide) (by decide) (by simp only; omega) (-1)
        simp only at a2 a3
        refine VW.block (VW.seq (VW.reg ?_))
        repeat first
          | (apply VOps.rd; (focus (first | exact rfl | (simp [Fr.only, argsF, *]; done))); (focus (exact rfl)))
          | (apply VOps.sk; (focus (simp [Fr.only, argsF, *]; done)))
          | (apply VOps.rd; (focus (first | exact rfl | (simp [Fr.only, argsF, *]; done))); (focus (simp [Fr.only, argsF, *]; first | done | exact rfl)))
        refine VOps.ef (v := .sl (some ⟨Hx.length, 0, 0⟩) 1 1) (H' := Hx ++ [.row 3 .own [[.int .i64 (-1)]]]) rfl rfl ?_
        refine VOps.ef (v := .sl (some ⟨Hx.length + 1, 0, 0⟩) (o1.length + 1) (o1.length + 1)) (H' := G1) rfl (by simp [a1, a2]) ?_
        repeat first
          | (apply VOps.rd; (focus (first | exact rfl | (simp [Fr.only, argsF, *]; done))); (focus (exact rfl)))
          | (apply VOps.sk; (focus (simp [Fr.only, argsF, *]; done)))
          | (apply VOps.rd; (focus (first | exact rfl | (simp [Fr.only, argsF, *]; done))); (focus (simp [Fr.only, argsF, *]; first | done | exact rfl)))
        refine VOps.ef (v := .undef) (H' := G2) rfl (by simp [a3]) ?_
        refine VOps.nil ⟨rfl, ?_⟩
        show VW _ _ _ _ [(0, .ptr (some ⟨ic, 0, 0⟩)), (1, .int .i64 i), (6, .int .i64 b), (8, .ptr (some ⟨ix, 0, 0⟩)), (24, .sl (some q) l.length c), (25, .int .i64 l.length), (26, .int .i64 j)] _ _
        replace hbx := a5 _ _ hbx
        clear a1 a2 a3 a5 h l2 l0
        have l1 := a4.ld1
        simp only at l1
        obtain ⟨G3, G4, c1, c2, c3, c4, c5⟩ := a4.pushV (by decide) (by decide) (by simp only; omega) 0
        simp only at c2 c3
        refine VW.reg ?_
        repeat first
          | (apply VOps.rd; (focus (first | exact rfl | (simp [Fr.only, argsF, *]; done))); (focus (exact rfl)))
          | (apply VOps.sk; (focus (simp [Fr.only, argsF, *]; done)))
          | (apply VOps.rd; (focus (first | exact rfl | (simp [Fr.only, argsF, *]; done))); (focus (simp [Fr.only, argsF, *]; first | done | exact rfl)))
        refine VOps.ef (v := .sl (some ⟨G2.length, 0, 0⟩) 1 1) (H' := G2 ++ [.row 3 .own [[.int .i64 0]]]) rfl rfl ?_
        refine VOps.ef (v := .sl (some ⟨G2.length + 1, 0, 0⟩) (v1.length + 1) (v1.length + 1)) (H' := G3) rfl (by simp [c1, c2]) ?_
        repeat first
          | (apply VOps.rd; (focus (first | exact rfl | (simp [Fr.only, argsF, *]; done))); (focus (exact rfl)))
          | (apply VOps.sk; (focus (simp [Fr.only, argsF, *]; done)))
          | (apply VOps.rd; (focus (first | exact rfl | (simp [Fr.only, argsF, *]; done))); (focus (simp [Fr.only, argsF, *]; first | done | exact rfl)))
        refine VOps.ef (v := .undef) (H' := G4) rfl (by simp [c3]) ?_
        refine VOps.nil ⟨rfl, K.toNat + 1 - (o1.length + 1), by omega, o1 ++ [-1], v1 ++ [0], _, _, by simp, rfl, c4, c5 _ _ hbx, by simp; omega, by simp; omega, ?_, ?_⟩
        · rw [pad_push (by omega)]; exact hp1
        · rw [pad_push (by omega)]; exact hp2
      · refine VW.seq (VW.seq ?_)
        refine VW.mono (Q := fun e F2 Hx => e = .normal ∧ Cov [(0, .ptr (some ⟨ic, 0, 0⟩)), (1, .int .i64 i), (6, .int .i64 b), (8, .ptr (some ⟨ix, 0, 0⟩)), (24, .sl (some q) l.length c), (25, .int .i64 l.length), (26, .int .i64 j), (40, .bool false)] F2 ∧ Hx = H4) ?_ ?_
        · refine VW.dreg [H4] mixed rfl ?_
          clear hp1 hp2
          repeat first
            | (apply VX.rd1; (focus (first | exact rfl | (simp [Fr.only, argsF, *]; done))); (focus (exact rfl)))
            | (apply VX.sk1; (focus (simp [Fr.only, argsF, *]; done)))
            | (apply VX.rd1; (focus (first | exact rfl | (simp [Fr.only, argsF, *]; done))); (focus (simp [Fr.only, argsF, *]; first | done | exact rfl)))
          exact VX.nil ⟨rfl, by simp [Cov, Fr.only, hK, hle]; try omega, rfl⟩
        rintro e F2 Hx ⟨rfl, hcov, rfl⟩
        refine VW.condF (hcov.get _ _ rfl) (VW.exit ?_)
        simp only [then_normal, then_ret, then_exit, inB_normal, inB_ret, inB_exit, reduceIte, Nat.reduceEqDiff]
        rw [pad_of_lt (by omega)] at hp1 hp2
        exact ⟨trivial, ⟨hcov.get _ _ rfl, hcov.get _ _ rfl, hcov.get _ _ rfl, hcov.get _ _ rfl, hcov.get _ _ rfl, hcov.get _ _ rfl, hcov.get _ _ rfl, trivial⟩, iv, io, by rw [← hp1, ← hp2]; exact h, hbx⟩
    rintro e F2 H4 ⟨rfl, hcov, iv, io, h, hbx⟩
    refine VW.sub hcov ?_
    clear hcov
    -- the owner and the value
    have m1 : K.toNat < (pad o' K.toNat (-1)).length := by rw [pad_len]; split <;> omega
    have m2 : K.toNat < (pad v' K.toNat 0).length := by rw [pad_len]; split <;> omega
    have m3 : (pad o' K.toNat (-1)).length ≤ 500256 := by rw [pad_len]; split <;> omega
    have m4 : (pad o' K.toNat (-1)).length = (pad v' K.toNat 0).length := by rw [pad_len, pad_len, hov']
    have hplace : place b i.toNat (o', v') (sy, to) = ((pad o' K.toNat (-1)).set K.toNat i, (pad v' K.toNat 0).set K.toNat to) := by
      unfold place; simp only; rw [← hKe.out, show ((i.toNat : Nat) : Int) = i by omega]
    replace hS := hS.out
    rw [hplace] at hS
    clear hplace
    generalize pad o' K.toNat (-1) = o1 at *
    generalize pad v' K.toNat 0 = v1 at *
    have l1 := h.ld1
    have l2 := h.ld2
    simp only at l1 l2
    have x0 := ld_own hbx 0
    have x1 := ld_own hbx 1
    simp only [List.getElem?_cons_zero, List.getElem?_cons_succ] at x0 x1
    obtain ⟨jo, G1, a1, a2, a3, a4, a5⟩ := h.setO (by decide) (k := K.toNat) m1 i
    obtain ⟨jv, G2, c1, c2, c3, c4, c5⟩ := a4.setV (by decide) (k := K.toNat) m2 to
    simp only at c4
    have y0 := ld_own (a5 _ _ hbx) 0
    have y1 := ld_own (a5 _ _ hbx) 1
    simp only [List.getElem?_cons_succ, List.getElem?_cons_zero] at y0 y1
    have k1 : K < (o1.length : Int) := by omega
    have k2 : K < (v1.length : Int) := by omega
    rw [a1] at l2
    rw [c1] at l1
    have hfin : Hid (Comb 67 H0 G2 ic ib iv io ⟨bs', o1.set K.toNat i, v1.set K.toNat to⟩) := c4
    replace hS := Hid.of hS
    clear h a4 a5 c4 c5 a1 c1 hbx m1 m2
    refine VW.mono (Q := fun e F2 Hx => e = .normal ∧ F2 = [(0, .ptr (some ⟨ic, 0, 0⟩)), (1, .int .i64 i), (6, .int .i64 b), (24, .sl (some q) l.length c), (25, .int .i64 l.length), (26, .int .i64 j)] ∧ Hx = G2) ?_ ?_
    · refine VW.dreg [H4, G1, G2] mixed rfl ?_
      clear m3 m4
      repeat first
        | (apply VX.rdp; (focus (first | exact rfl | (simp [Fr.only, argsF, *]; done))); (focus (exact fun _ => rfl)))
        | (apply VX.sk1; (focus (simp [Fr.only, argsF, *]; done)))
        | (apply VX.skc; (focus (simp [Fr.only, argsF, *]; done)))
        | (apply VX.rdp; (focus (first | exact rfl | (simp [Fr.only, argsF, *]; done))); (focus (intro _; simp [Fr.only, argsF, *]; first | done | exact rfl)))
        | (apply VX.rda; (focus (first | exact rfl | (simp [Fr.only, argsF, *]; done))); (focus (exact rfl)); (focus (exact rfl)); (focus (simp [Fr.only, argsF, *]; first | done | exact rfl)))
        | (apply VX.rdb; (focus (first | exact rfl | (simp [Fr.only, argsF, *]; done))); (focus (exact rfl)); (focus (exact rfl)); (focus (exact rfl)); (focus (simp [Fr.only, argsF, *]; first | done | exact rfl)); (focus (simp [Fr.only, argsF, *]; first | done | exact rfl)))
        | (apply VX.ef1; (focus (first | exact rfl | (simp [Fr.only, argsF, *]; done))); (focus (exact rfl)); (focus (simp [Fr.only, argsF, *]; first | done | exact rfl | exact ⟨rfl, rfl⟩)))
      exact VX.nil ⟨rfl, by simp [Fr.only, *], rfl⟩
    rintro e F2 Hx ⟨rfl, rfl, rfl⟩
    refine VW.reg ?_
    refine VOps.rd rfl rfl ?_
    refine VOps.rd rfl rfl ?_
    refine VOps.nil ⟨rfl, l.length - (j + 1).toNat, by omega, j + 1, _, _, iv, io, by omega, by omega, rfl, by simp [Fr.only, hv], hfin, by simp [m4], by simp; omega, ?_⟩
    rw [hS.out, show (j + 1).toNat = j.toNat + 1 by omega]
  · have : j = l.length := by omega
    subst this
    rw [show ((l.length : Int)).toNat = l.length by omega] at hS
    refine VW.seq (VW.reg ?_)
    repeat first
      | (apply VOps.rd; (focus (first | exact rfl | (simp [Fr.only, argsF, *]; done))); (focus (exact rfl)))
      | (apply VOps.sk; (focus (simp [Fr.only, argsF, *]; done)))
      | (apply VOps.rd; (focus (first | exact rfl | (simp [Fr.only, argsF, *]; done))); (focus (simp [Fr.only, argsF, *]; first | done | exact rfl)))
    refine VOps.nil ⟨rfl, VW.seq (VW.condF (by simp [Fr.only]) (VW.exit ?_))⟩
    simp only [then_normal, then_ret, then_exit, inB_normal, inB_ret, inB_exit, reduceIte, Nat.reduceEqDiff]
    refine ⟨by simp, _, rfl, rfl, iv, io, ?_⟩
    rw [hS]; simpa using h
end
end Go.Proofs.Ytlclbfkdaemilaa
