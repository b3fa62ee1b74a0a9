/- Several texts as one: PkJ PkP PkT. -/
import Derived.Test.YtlclbfkdaemilaaPm1
/- pack.Pack. -/
namespace Go.Proofs.Ytlclbfkdaemilaa
set_option linter.unusedSimpArgs false
set_option linter.unusedVariables false
open Go Go.Vm Go.Proofs
set_option maxRecDepth 100000
set_option maxHeartbeats 4000000

theorem rowP_nil {B0 : Nat} {H : Hp} {N : Nat} {rows : List Edges} : RowP B0 (H ++ [.row 40 .own (List.replicate N [nil1])]) H.length N 0 (List.replicate N nil1) rows :=
  ⟨by simp, by simp, fun k hk => by omega, fun k _ hk => by simp [List.getElem?_replicate, hk]⟩
theorem rowsA_len (al : List Edges) (k : Nat) : ((rowsA al).getD k []).length ≤ (al.getD k []).length := by
  by_cases h : k < al.length
  · rw [rowsA_at h]; exact rowAn_len _ _ _
  · simp [rowsA, List.getD, h]
theorem rowsG_len (gs : List (List Int)) (S k : Nat) : ((rowsG gs S).getD k []).length ≤ gs.length := by
  by_cases h : k < S
  · rw [rowsG_at h]; exact rowGn_len _ _ _ _
  · simp [rowsG, List.getD, h]

section
variable {H : Hp} {pa pg : Option PA} {ca cg : Nat} {al : List Edges} {gs : List (List Int)} {was wgs : List VV}
theorem pack23 (h : Den H pa pg al gs was wgs) : FnV Try.prog 23 [denV pa pg ca cg al gs] H fun r H' => ∃ o, PRes H H' o al gs ∧ r = .tup [.agg (pkA o al gs), .int .i64 (pkE al gs)] := by
  refine FnV.enterRow ok23 (by show 1 ≤ 147; decide) fun B => ?_
  dsimp only [w23]
  have hmx : maxLen = 9223372036854775807 := rfl
  -- boxes
  have hx1 : Ext H (H ++ [.row 53 .own [[.sl pa al.length ca, .sl pg gs.length cg]], pk8 nil1 nil1 nil1 nil1 nil1 nil1 nil1 nil1]) := .app _ _
  have hb1 : (H ++ [.row 53 .own [[.sl pa al.length ca, .sl pg gs.length cg]], pk8 nil1 nil1 nil1 nil1 nil1 nil1 nil1 nil1])[H.length]? = some (.row 53 .own [[.sl pa al.length ca, .sl pg gs.length cg]]) := by simp
  have hr1 : (H ++ [.row 53 .own [[.sl pa al.length ca, .sl pg gs.length cg]], pk8 nil1 nil1 nil1 nil1 nil1 nil1 nil1 nil1])[H.length + 1]? = some (pk8 nil1 nil1 nil1 nil1 nil1 nil1 nil1 nil1) := by simp
  refine VW.seq (VW.reg ?_)
  refine VOps.ef (v := .ptr (some ⟨H.length, 0, 0⟩)) (H' := H ++ [.row 53 .own [[.sl pa al.length ca, .sl pg gs.length cg]]]) rfl (by simp [argsF]) ?_
  refine VOps.ef (v := .ptr (some ⟨H.length + 1, 0, 0⟩)) (H' := H ++ [.row 53 .own [[.sl pa al.length ca, .sl pg gs.length cg]], pk8 nil1 nil1 nil1 nil1 nil1 nil1 nil1 nil1]) rfl (by simp) ?_
  refine VOps.rd rfl rfl ?_
  refine VOps.nil ⟨rfl, ?_⟩
  generalize H ++ [.row 53 .own [[.sl pa al.length ca, .sl pg gs.length cg]], pk8 nil1 nil1 nil1 nil1 nil1 nil1 nil1 nil1] = Hb at *
  show VW _ _ _ _ [(1, .ptr (some ⟨H.length, 0, 0⟩)), (2, .ptr (some ⟨H.length + 1, 0, 0⟩))] _ _
  have hb := h.ext hx1
  have l0 := ld_own hb1 0
  have l1 := ld_own hb1 1
  have l2 := lds_own hb1 0 2
  simp only [List.getElem?_cons_zero, List.getElem?_cons_succ] at l0 l1
  simp only [List.length_cons, List.length_nil, Nat.zero_add, Nat.le_refl, if_true, List.drop_zero, List.take_succ_cons, List.take_zero] at l2
  have hj : H.length < Hb.length := get_lt hb1
  have hj2 : H.length + 1 < Hb.length := get_lt hr1
  refine VW.seq (VW.seq (VW.reg ?_))
  refine VOps.rd (v := denV pa pg ca cg al gs) rfl (by simp [l2]) ?_
  refine VOps.call rfl rfl rfl ((right37 hb).mono ?_)
  rintro r H2 ⟨rfl, rfl⟩
  refine VOps.rd rfl rfl ?_
  refine VOps.nil ⟨rfl, ?_⟩
  refine VW.cond rfl (fun hc => ?_) (fun hc => ?_)
  · -- it may not
    have hm : mayD al gs = false := by simpa using hc
    have hlL : ∀ j, pkL al gs j = [] := fun j => by unfold pkL; rw [hm]; rfl
    have hst : stc H2 ⟨H.length + 1, 0, 0⟩ [nil1, nil1, nil1, nil1, nil1, nil1, nil1, nil1] = some (H2.set (H.length + 1) (pk8 nil1 nil1 nil1 nil1 nil1 nil1 nil1 nil1)) := by
      simp only [stc, hr1]
      simp [upd, okCells, VV.cell]
    have hfin := lds_own (H := H2.set (H.length + 1) (pk8 nil1 nil1 nil1 nil1 nil1 nil1 nil1 nil1)) (List.getElem?_set_self hj2) 0 8
    simp only [List.length_cons, List.length_nil, Nat.zero_add, Nat.le_refl, if_true, List.drop_zero, List.take_succ_cons, List.take_zero] at hfin
    refine VW.seq (VW.reg ?_)
    refine VOps.rd (v := .agg [nil1, nil1, nil1, nil1, nil1, nil1, nil1, nil1]) rfl rfl ?_
    refine VOps.ef (v := .undef) (H' := H2.set (H.length + 1) (pk8 nil1 nil1 nil1 nil1 nil1 nil1 nil1 nil1)) rfl (by simp [Fr.only, hst]) ?_
    refine VOps.rd rfl rfl ?_
    refine VOps.nil ⟨rfl, VW.ret ⟨.inl rfl, _, ?_, fun _ => none, ⟨hx1.set (by omega) _, fun j _ => by rw [hlL]; exact ⟨.inl rfl, rfl⟩, (fun j _ k e => by cases e), (fun j j' _ _ _ k e => by cases e)⟩, rfl⟩⟩
    unfold pkA pkE
    simp [resV, resL, Fr.only, hfin, hlL, hm, gptr]
  have hm : mayD al gs = true := by simpa using hc
  have ht := mayD_spec hm
  have e0 : pkL al gs 0 = dfN al al.length := by simp [pkL, hm]
  have e1 : pkL al gs 1 = layL (rowsA al) 0 := by simp [pkL, hm]
  have e2 : pkL al gs 2 = layL (rowsA al) 1 := by simp [pkL, hm]
  have e3 : pkL al gs 3 = layL (rowsA al) 2 := by simp [pkL, hm]
  have e4 : pkL al gs 4 = tgN gs (gs.getD 0 []).length := by simp [pkL, hm]
  have e5 : pkL al gs 5 = layL (rowsG gs (gs.getD 0 []).length) 0 := by simp [pkL, hm]
  have e6 : pkL al gs 6 = layL (rowsG gs (gs.getD 0 []).length) 1 := by simp [pkL, hm]
  have e7 : pkL al gs 7 = layL (rowsG gs (gs.getD 0 []).length) 2 := by simp [pkL, hm]
  have hE : pkE al gs = 0 := by unfold pkE; rw [if_pos hm]
  generalize hS : (gs.getD 0 []).length = S at *
  generalize hT : (al.getD 0 []).length = T at *
  have hn2 := ht.n2
  have hs2 := ht.s2
  have hng := ht.ng
  have hgs1 : 0 < gs.length := by have := ht.n1; omega
  refine VW.skip (VW.seq (VW.reg ?_))
  refine VOps.ef (v := .ptr (some ⟨H2.length, 0, 0⟩)) (H' := H2 ++ [pk8 nil1 nil1 nil1 nil1 nil1 nil1 nil1 nil1]) rfl rfl ?_
  refine VOps.nil ⟨rfl, ?_⟩
  show VW _ _ _ _ [(1, .ptr (some ⟨H.length, 0, 0⟩)), (2, .ptr (some ⟨H.length + 1, 0, 0⟩)), (4, .ptr (some ⟨H2.length, 0, 0⟩))] _ _
  have hxc : Ext H2 (H2 ++ [pk8 nil1 nil1 nil1 nil1 nil1 nil1 nil1 nil1]) := .app _ _
  have hipc : (H2 ++ [pk8 nil1 nil1 nil1 nil1 nil1 nil1 nil1 nil1])[H2.length]? = some (pk8 nil1 nil1 nil1 nil1 nil1 nil1 nil1 nil1) := by simp
  generalize H2 ++ [pk8 nil1 nil1 nil1 nil1 nil1 nil1 nil1 nil1] = Hc at *
  obtain ⟨ip, hipe⟩ : ∃ ip, ip = H2.length := ⟨_, rfl⟩
  rw [← hipe] at hipc ⊢
  refine VW.seq (VW.reg ?_)
  refine VOps.rd rfl rfl ?_
  refine VOps.rd (v := .sl pa al.length ca) rfl (by simp [Fr.only, ext_ld hxc l0]) ?_
  refine VOps.rd rfl rfl ?_
  refine VOps.ef (v := .sl (some ⟨Hc.length, 0, 0⟩) al.length al.length) (H' := Hc ++ [.row 40 .own (List.replicate al.length [nil1])]) rfl (by simp; omega) ?_
  refine VOps.rd rfl rfl ?_
  refine VOps.nil ⟨rfl, ?_⟩
  show VW _ _ _ _ [(1, .ptr (some ⟨H.length, 0, 0⟩)), (2, .ptr (some ⟨H.length + 1, 0, 0⟩)), (4, .ptr (some ⟨ip, 0, 0⟩)), (5, .sl (some ⟨Hc.length, 0, 0⟩) al.length al.length)] _ _
  have hrpd := rowP_nil (B0 := H2.length) (H := Hc) (N := al.length) (rows := rowsA al)
  have hxd := hxc.push [.row 40 .own (List.replicate al.length [nil1])]
  have hipd := get_push hipc [.row 40 .own (List.replicate al.length [nil1])]
  generalize Hc ++ [.row 40 .own (List.replicate al.length [nil1])] = Hd at *
  have hcl := hxc.1
  refine VW.seq ?_
  refine VW.mono (packA hb l0 hxd hipd (Nat.le_of_eq hipe.symm) hcl ht.n2 (fun q hq => by rw [ht.rt q hq]; exact ht.t2) (fun q hq k hk => mayA_range (by omega) (ht.ma q hq k (by rw [← ht.rt q hq]; exact hk))) hrpd) ?_
  clear hrpd hxd hipd hipc
  rintro e F2 H3 ⟨rfl, hcov, hx3, od, vs3, hip3, hg3, hod3, hrp3⟩
  refine VW.sub hcov ?_
  clear hcov
  have hrl : (rowsA al).length = al.length := by simp [rowsA]
  obtain ⟨hs3, hv3⟩ := hrp3.rowV hrl (fun k hk => by have := rowsA_len al k; have := ht.rt k hk; have := ht.t2; omega)
  have hl10 := lay10 (c := al.length) hs3 hv3 (by omega)
  rw [hrl] at hl10
  refine VW.seq (VW.reg ?_)
  refine VOps.rd rfl rfl ?_
  refine VOps.call rfl rfl rfl (hl10.mono ?_)
  rintro r H4 hlr
  obtain ⟨oA, hresA, rfl⟩ := lay_res (by decide) hlr
  clear hlr hl10 hs3 hv3 hrp3
  have hip4 := hresA.ext.get hip3
  have hst4 : stc H4 ⟨ip, 0, 1⟩ (resA oA (rowsA al)) = some (H4.set ip (pk8 (.sl (gptr od) al.length al.length) (.sl (gptr (oA 0)) (layL (rowsA al) 0).length (layL (rowsA al) 0).length) (.sl (gptr (oA 1)) (layL (rowsA al) 1).length (layL (rowsA al) 1).length) (.sl (gptr (oA 2)) (layL (rowsA al) 2).length (layL (rowsA al) 2).length) nil1 nil1 nil1 nil1)) := by
    have hk : okCells (resA oA (rowsA al)) = true := rfl
    simp only [stc, hip4, hk]
    simp [upd]
  refine VOps.rd rfl rfl ?_
  refine VOps.rd rfl rfl ?_
  refine VOps.rd rfl rfl ?_
  refine VOps.rd rfl rfl ?_
  refine VOps.ef (v := .undef) rfl (by simp only [VEf.ev, Od.ev, Fr.pt, Fr.get, reduceIte, Nat.reduceEqDiff, VV.defd, VV.cells, hst4]; simp; rfl) ?_
  refine VOps.nil ⟨rfl, ?_⟩
  show VW _ _ _ _ [(1, .ptr (some ⟨H.length, 0, 0⟩)), (2, .ptr (some ⟨H.length + 1, 0, 0⟩)), (4, .ptr (some ⟨ip, 0, 0⟩))] _ _
  have neD3 := (Own.of hg3).ne hip3 (by decide)
  have ltD : ∀ k, od = some k → k < H3.length := fun k e => (Own.of hg3).lt e
  have ownA4 : ∀ j, j < 3 → Own H4 (oA j) (layL (rowsA al) j) := fun j hj => ⟨hresA.sl j hj, hresA.wr j hj⟩
  have neA4 : ∀ j, j < 3 → oA j ≠ some ip := fun j hj => (ownA4 j hj).ne hip4 (by decide)
  generalize hA0 : layL (rowsA al) 0 = A0 at *
  generalize hA1 : layL (rowsA al) 1 = A1 at *
  generalize hA2 : layL (rowsA al) 2 = A2 at *
  generalize hD0 : dfN al al.length = D0 at *
  have hlD : D0.length = al.length := by rw [← hD0, dfN_len]
  have ownD : Own (H4.set ip (pk8 (.sl (gptr od) al.length al.length) (.sl (gptr (oA 0)) A0.length A0.length) (.sl (gptr (oA 1)) A1.length A1.length) (.sl (gptr (oA 2)) A2.length A2.length) nil1 nil1 nil1 nil1)) od D0 := ((Own.of hg3).ext hresA.ext).set neD3 _
  have ownA : ∀ j, j < 3 → Own (H4.set ip (pk8 (.sl (gptr od) al.length al.length) (.sl (gptr (oA 0)) A0.length A0.length) (.sl (gptr (oA 1)) A1.length A1.length) (.sl (gptr (oA 2)) A2.length A2.length) nil1 nil1 nil1 nil1)) (oA j) (layL (rowsA al) j) := fun j hj => (ownA4 j hj).set (neA4 j hj) _
  have hipA : (H4.set ip (pk8 (.sl (gptr od) al.length al.length) (.sl (gptr (oA 0)) A0.length A0.length) (.sl (gptr (oA 1)) A1.length A1.length) (.sl (gptr (oA 2)) A2.length A2.length) nil1 nil1 nil1 nil1))[ip]? = some (pk8 (.sl (gptr od) al.length al.length) (.sl (gptr (oA 0)) A0.length A0.length) (.sl (gptr (oA 1)) A1.length A1.length) (.sl (gptr (oA 2)) A2.length A2.length) nil1 nil1 nil1 nil1) := List.getElem?_set_self (get_lt hip4)
  have hxA : Ext H2 (H4.set ip (pk8 (.sl (gptr od) al.length al.length) (.sl (gptr (oA 0)) A0.length A0.length) (.sl (gptr (oA 1)) A1.length A1.length) (.sl (gptr (oA 2)) A2.length A2.length) nil1 nil1 nil1 nil1)) := (hx3.trans hresA.ext).set (Nat.le_of_eq hipe.symm) _
  have hlA : (H4.set ip (pk8 (.sl (gptr od) al.length al.length) (.sl (gptr (oA 0)) A0.length A0.length) (.sl (gptr (oA 1)) A1.length A1.length) (.sl (gptr (oA 2)) A2.length A2.length) nil1 nil1 nil1 nil1)).length = H4.length := by simp
  clear hst4
  generalize H4.set ip (pk8 (.sl (gptr od) al.length al.length) (.sl (gptr (oA 0)) A0.length A0.length) (.sl (gptr (oA 1)) A1.length A1.length) (.sl (gptr (oA 2)) A2.length A2.length) nil1 nil1 nil1 nil1) = HA at *
  -- the gotos
  have hbA := hb.ext hxA
  obtain ⟨q', pk', ck', hq', b1, b2, b3, b4⟩ := rowI_at hbA.sg hbA.rg hgs1
  rw [hS] at b2
  have hlS : S ≤ 65 := ht.s2
  refine VW.seq (VW.reg ?_)
  refine VOps.rd rfl rfl ?_
  refine VOps.rd (v := .sl pg gs.length cg) rfl (by simp [ext_ld hxA l1]) ?_
  refine VOps.rd (v := .ptr (some (elp (some q') 0))) rfl (by simp [Fr.only, hq', b1, hgs1]) ?_
  refine VOps.rd (v := .sl pk' S ck') rfl (by simp [b2]) ?_
  refine VOps.rd rfl rfl ?_
  refine VOps.ef (v := .sl (some ⟨HA.length, 0, 0⟩) S S) (H' := HA ++ [.row 40 .own (List.replicate S [nil1])]) rfl (by simp; omega) ?_
  refine VOps.rd rfl rfl ?_
  refine VOps.nil ⟨rfl, ?_⟩
  show VW _ _ _ _ [(1, .ptr (some ⟨H.length, 0, 0⟩)), (2, .ptr (some ⟨H.length + 1, 0, 0⟩)), (4, .ptr (some ⟨ip, 0, 0⟩)), (5, .sl (some ⟨HA.length, 0, 0⟩) S S)] _ _
  clear b1 b2 b3 b4 hq' hbA
  have hrpg := rowP_nil (B0 := HA.length) (H := HA) (N := S) (rows := rowsG gs S)
  have hoffg := (OffB.refl ip HA).push [.row 40 .own (List.replicate S [nil1])]
  have hipg := get_push hipA [.row 40 .own (List.replicate S [nil1])]
  generalize HA ++ [.row 40 .own (List.replicate S [nil1])] = Hg at *
  refine VW.seq ?_
  refine VW.mono (packG hb l1 hxA hoffg hipg (Nat.le_of_eq hipe.symm) (Nat.le_refl _) (by omega) hlS (fun q hq => ht.rs q (by omega)) (fun n q hn hq => by have := mayG_range (n := al.length) (by omega) (ht.mg q (by omega) n hn); unfold gAt; omega) hrpg) ?_
  clear hrpg hoffg hipg
  rintro e F2 H5 ⟨rfl, hcov, hoff5, ot, vs5, hip5, hg5, hot5, hrp5⟩
  refine VW.sub hcov ?_
  clear hcov
  have hrlg : (rowsG gs S).length = S := by simp [rowsG]
  obtain ⟨hs5, hv5⟩ := hrp5.rowV hrlg (fun k hk => by have := rowsG_len gs S k; omega)
  have hl10 := lay10 (c := S) hs5 hv5 (by omega)
  rw [hrlg] at hl10
  refine VW.seq (VW.reg ?_)
  refine VOps.rd rfl rfl ?_
  refine VOps.call rfl rfl rfl (hl10.mono ?_)
  rintro r H6 hlr
  obtain ⟨oG, hresG, rfl⟩ := lay_res (by decide) hlr
  clear hlr hl10 hs5 hv5 hrp5
  have hip6 := hresG.ext.get hip5
  have neT5 := (Own.of hg5).ne hip5 (by decide)
  have ltT : ∀ k, ot = some k → k < H5.length := fun k e => (Own.of hg5).lt e
  have ownG6 : ∀ j, j < 3 → Own H6 (oG j) (layL (rowsG gs S) j) := fun j hj => ⟨hresG.sl j hj, hresG.wr j hj⟩
  have neG6 : ∀ j, j < 3 → oG j ≠ some ip := fun j hj => (ownG6 j hj).ne hip6 (by decide)
  have keep5 : ∀ o l, Own HA o l → o ≠ some ip → Own H5 o l := fun o l ho hne => ho.keep fun k e => hoff5.2 k (ho.lt e) (fun e2 => hne (by rw [e, e2]))
  have ownD6 := (keep5 _ _ ownD neD3).ext hresG.ext
  have ownA6 : ∀ j, j < 3 → Own H6 (oA j) (layL (rowsA al) j) := fun j hj => (keep5 _ _ (ownA j hj) (neA4 j hj)).ext hresG.ext
  have ownT6 := (Own.of hg5).ext hresG.ext
  have hx26 : Ext H2 H6 := (hoff5.ext hxA (Nat.le_of_eq hipe.symm)).trans hresG.ext
  generalize hG0 : layL (rowsG gs S) 0 = G0 at *
  generalize hG1 : layL (rowsG gs S) 1 = G1 at *
  generalize hG2 : layL (rowsG gs S) 2 = G2 at *
  generalize hT0 : tgN gs S = T0 at *
  have hlT : T0.length = S := by rw [← hT0, tgN_len]
  have hst6 : stc H6 ⟨ip, 0, 5⟩ (resA oG (rowsG gs S)) = some (H6.set ip (pk8 (.sl (gptr od) al.length al.length) (.sl (gptr (oA 0)) A0.length A0.length) (.sl (gptr (oA 1)) A1.length A1.length) (.sl (gptr (oA 2)) A2.length A2.length) (.sl (gptr ot) S S) (.sl (gptr (oG 0)) G0.length G0.length) (.sl (gptr (oG 1)) G1.length G1.length) (.sl (gptr (oG 2)) G2.length G2.length))) := by
    have hk : okCells (resA oG (rowsG gs S)) = true := rfl
    simp only [stc, hip6, hk]
    simp [upd, resA, hG0, hG1, hG2]
  refine VOps.rd rfl rfl ?_
  refine VOps.rd rfl rfl ?_
  refine VOps.rd rfl rfl ?_
  refine VOps.rd rfl rfl ?_
  refine VOps.ef (v := .undef) rfl (by simp only [VEf.ev, Od.ev, Fr.pt, Fr.get, reduceIte, Nat.reduceEqDiff, VV.defd, VV.cells, hst6]; simp; rfl) ?_
  refine VOps.nil ⟨rfl, ?_⟩
  show VW _ _ _ _ [(2, .ptr (some ⟨H.length + 1, 0, 0⟩)), (4, .ptr (some ⟨ip, 0, 0⟩))] _ _
  have hr6 := hx26.get hr1
  have hjp : ip ≠ H.length + 1 := by omega
  generalize hnb : pk8 (.sl (gptr od) al.length al.length) (.sl (gptr (oA 0)) A0.length A0.length) (.sl (gptr (oA 1)) A1.length A1.length) (.sl (gptr (oA 2)) A2.length A2.length) (.sl (gptr ot) S S) (.sl (gptr (oG 0)) G0.length G0.length) (.sl (gptr (oG 1)) G1.length G1.length) (.sl (gptr (oG 2)) G2.length G2.length) = nb at *
  have hip7 : (H6.set ip nb)[ip]? = some nb := List.getElem?_set_self (get_lt hip6)
  have hr7 : (H6.set ip nb)[H.length + 1]? = some (pk8 nil1 nil1 nil1 nil1 nil1 nil1 nil1 nil1) := by rw [List.getElem?_set_ne hjp]; exact hr6
  have keep8 : ∀ o l, Own H6 o l → o ≠ some ip → Own ((H6.set ip nb).set (H.length + 1) nb) o l := fun o l ho hne => (ho.set hne nb).set ((ho.set hne nb).ne hr7 (by decide)) nb
  rw [← hnb] at hip7
  have l8 := lds_own hip7 0 8
  simp only [List.length_cons, List.length_nil, Nat.zero_add, Nat.le_refl, if_true, List.drop_zero, List.take_succ_cons, List.take_zero] at l8
  rw [hnb] at l8
  have hst8 : stc (H6.set ip nb) ⟨H.length + 1, 0, 0⟩ [.sl (gptr od) al.length al.length, .sl (gptr (oA 0)) A0.length A0.length, .sl (gptr (oA 1)) A1.length A1.length, .sl (gptr (oA 2)) A2.length A2.length, .sl (gptr ot) S S, .sl (gptr (oG 0)) G0.length G0.length, .sl (gptr (oG 1)) G1.length G1.length, .sl (gptr (oG 2)) G2.length G2.length] = some ((H6.set ip nb).set (H.length + 1) nb) := by
    simp only [stc, hr7]
    rw [← hnb]
    simp [upd, okCells, VV.cell]
  have hj8 : H.length + 1 < (H6.set ip nb).length := by have := hx26.1; simp; omega
  have hx8 : Ext H ((H6.set ip nb).set (H.length + 1) nb) := ((hx1.trans hx26).set (by omega) nb).set (by omega) nb
  have hfin : ((H6.set ip nb).set (H.length + 1) nb)[H.length + 1]? = some nb := List.getElem?_set_self hj8
  rw [← hnb] at hfin
  have lf := lds_own hfin 0 8
  simp only [List.length_cons, List.length_nil, Nat.zero_add, Nat.le_refl, if_true, List.drop_zero, List.take_succ_cons, List.take_zero] at lf
  rw [hnb] at lf
  refine VW.seq (VW.reg ?_)
  refine VOps.rd (v := .agg [.sl (gptr od) al.length al.length, .sl (gptr (oA 0)) A0.length A0.length, .sl (gptr (oA 1)) A1.length A1.length, .sl (gptr (oA 2)) A2.length A2.length, .sl (gptr ot) S S, .sl (gptr (oG 0)) G0.length G0.length, .sl (gptr (oG 1)) G1.length G1.length, .sl (gptr (oG 2)) G2.length G2.length]) rfl (by simp [l8]) ?_
  refine VOps.ef (v := .undef) (H' := (H6.set ip nb).set (H.length + 1) nb) rfl (by simp [hst8]) ?_
  refine VOps.rd rfl rfl ?_
  have hHl := hx3.1
  have hH34 := hresA.ext.1
  have hH5 := hoff5.1
  have hH56 := hresG.ext.1
  refine VOps.nil ⟨rfl, VW.ret ⟨.inl rfl, .tup [.agg [.sl (gptr od) al.length al.length, .sl (gptr (oA 0)) A0.length A0.length, .sl (gptr (oA 1)) A1.length A1.length, .sl (gptr (oA 2)) A2.length A2.length, .sl (gptr ot) S S, .sl (gptr (oG 0)) G0.length G0.length, .sl (gptr (oG 1)) G1.length G1.length, .sl (gptr (oG 2)) G2.length G2.length], .int .i64 0], ?_,
    fun j => match j with | 0 => od | 1 => oA 0 | 2 => oA 1 | 3 => oA 2 | 4 => ot | 5 => oG 0 | 6 => oG 1 | 7 => oG 2 | _ => none, ⟨hx8, fun j hj => ?_, fun j hj k hk => ?_, ?_⟩, ?_⟩⟩
  · simp [resV, resL, Fr.only, lf]
  · match j, hj with
    | 0, _ => rw [e0]; exact keep8 _ _ ownD6 neD3
    | 1, _ => rw [e1, ← hA0]; exact keep8 _ _ (ownA6 0 (by omega)) (neA4 0 (by omega))
    | 2, _ => rw [e2, ← hA1]; exact keep8 _ _ (ownA6 1 (by omega)) (neA4 1 (by omega))
    | 3, _ => rw [e3, ← hA2]; exact keep8 _ _ (ownA6 2 (by omega)) (neA4 2 (by omega))
    | 4, _ => rw [e4]; exact keep8 _ _ ownT6 neT5
    | 5, _ => rw [e5, ← hG0]; exact keep8 _ _ (ownG6 0 (by omega)) (neG6 0 (by omega))
    | 6, _ => rw [e6, ← hG1]; exact keep8 _ _ (ownG6 1 (by omega)) (neG6 1 (by omega))
    | 7, _ => rw [e7, ← hG2]; exact keep8 _ _ (ownG6 2 (by omega)) (neG6 2 (by omega))
  · match j, hj with
    | 0, _ => have := hod3 k hk; omega
    | 1, _ => have := hresA.lo 0 (by omega) k hk; omega
    | 2, _ => have := hresA.lo 1 (by omega) k hk; omega
    | 3, _ => have := hresA.lo 2 (by omega) k hk; omega
    | 4, _ => have := hot5 k hk; omega
    | 5, _ => have := hresG.lo 0 (by omega) k hk; omega
    | 6, _ => have := hresG.lo 1 (by omega) k hk; omega
    | 7, _ => have := hresG.lo 2 (by omega) k hk; omega
  · refine ne8 (a1 := H3.length) (a2 := HA.length) (a3 := H5.length) (fun k e => ltD k e) (fun j h1 h3 k e => ?_) (fun k e => ⟨hot5 k e, ltT k e⟩) (fun j h1 h3 k e => ?_) (by omega) (by omega) (fun j j' h1 h2 h3 h4 hne k e => ?_) (fun j j' h1 h2 h3 h4 hne k e => ?_)
    · have c : j = 1 ∨ j = 2 ∨ j = 3 := by omega
      rw [hlA]
      rcases c with rfl | rfl | rfl
      · exact ⟨hresA.lo 0 (by omega) k e, hresA.hi 0 (by omega) k e⟩
      · exact ⟨hresA.lo 1 (by omega) k e, hresA.hi 1 (by omega) k e⟩
      · exact ⟨hresA.lo 2 (by omega) k e, hresA.hi 2 (by omega) k e⟩
    · have c : j = 5 ∨ j = 6 ∨ j = 7 := by omega
      rcases c with rfl | rfl | rfl
      · exact hresG.lo 0 (by omega) k e
      · exact hresG.lo 1 (by omega) k e
      · exact hresG.lo 2 (by omega) k e
    · have c : j = 1 ∨ j = 2 ∨ j = 3 := by omega
      have c' : j' = 1 ∨ j' = 2 ∨ j' = 3 := by omega
      rcases c with rfl | rfl | rfl <;> rcases c' with rfl | rfl | rfl
      · exact absurd rfl hne
      · exact hresA.ne 0 1 (by omega) (by omega) (by omega) k e
      · exact hresA.ne 0 2 (by omega) (by omega) (by omega) k e
      · exact hresA.ne 1 0 (by omega) (by omega) (by omega) k e
      · exact absurd rfl hne
      · exact hresA.ne 1 2 (by omega) (by omega) (by omega) k e
      · exact hresA.ne 2 0 (by omega) (by omega) (by omega) k e
      · exact hresA.ne 2 1 (by omega) (by omega) (by omega) k e
      · exact absurd rfl hne
    · have c : j = 5 ∨ j = 6 ∨ j = 7 := by omega
      have c' : j' = 5 ∨ j' = 6 ∨ j' = 7 := by omega
      rcases c with rfl | rfl | rfl <;> rcases c' with rfl | rfl | rfl
      · exact absurd rfl hne
      · exact hresG.ne 0 1 (by omega) (by omega) (by omega) k e
      · exact hresG.ne 0 2 (by omega) (by omega) (by omega) k e
      · exact hresG.ne 1 0 (by omega) (by omega) (by omega) k e
      · exact absurd rfl hne
      · exact hresG.ne 1 2 (by omega) (by omega) (by omega) k e
      · exact hresG.ne 2 0 (by omega) (by omega) (by omega) k e
      · exact hresG.ne 2 1 (by omega) (by omega) (by omega) k e
      · exact absurd rfl hne
  · unfold pkA
    rw [e0, e1, e2, e3, e4, e5, e6, e7, hE, hlD, hlT]
    rfl
end
end Go.Proofs.Ytlclbfkdaemilaa

/- A table in memory of its own. -/
namespace Go.Proofs.Ytlclbfkdaemilaa
set_option linter.unusedSimpArgs false
set_option linter.unusedVariables false
open Go Go.Vm Go.Proofs
set_option maxRecDepth 100000
set_option maxHeartbeats 4000000

/-- a copied list -/
def CopyR (H : Hp) (p : Option PA) (z : Nat) (t : TypeId) (es : List (List VV)) : Prop := es = [] ∨ ∃ b, p = some ⟨b, 0, 0⟩ ∧ H[b]? = some (.row t .loose es) ∧ ∀ e ∈ es, e.length = z
theorem CopyR.sl {H : Hp} {p : Option PA} {z : Nat} {t : TypeId} {es : List (List VV)} (h : CopyR H p z t es) : Sl H p z es := by
  rcases h with h | ⟨b, h1, h2, h3⟩
  · exact .inl h
  · exact .inr ⟨b, 0, _, _, _, h1, h2, h3, fun k e hk => by rw [Nat.zero_add]; exact hk⟩
theorem CopyR.keep {H H' : Hp} {p : Option PA} {z : Nat} {t : TypeId} {es : List (List VV)} (h : CopyR H p z t es) (hk : ∀ (k : Nat) (l : List (List VV)), H[k]? = some (.row t .loose l) → H'[k]? = H[k]?) : CopyR H' p z t es := by
  rcases h with h | ⟨b, h1, h2, h3⟩
  · exact .inl h
  · exact .inr ⟨b, h1, by rw [hk b _ h2]; exact h2, h3⟩
theorem copy_row2 {H : Hp} {t : TypeId} {z : Nat} {es : List (List VV)} {p : Option PA} {c bytes : Nat} (h : Sl H p z es) (hz : ∀ e ∈ es, e.length = z) (hb : es.length * bytes ≤ 140737488355328) (h2 : es.length < 4611686018427387904) :
    ∃ q A, srcEls (H ++ [.row t .own []]) z (.sl p es.length c) = some es ∧ appV (H ++ [.row t .own []]) t z bytes (some ⟨H.length, 0, 0⟩) 0 0 es = some (.sl (some q) es.length es.length, A) ∧ CopyR A (some q) z t es ∧ Ext H A ∧ ∃ G, A = (H ++ [.row t .own []]) ++ G := by
  have hsrc := sl_src (c := c) (h.mono [.row t .own []])
  by_cases he : es = []
  · subst he
    exact ⟨⟨H.length, 0, 0⟩, H ++ [.row t .own []], hsrc, by simp [appV], .inl rfl, .app _ _, [], by simp⟩
  · have hpos : 0 < es.length := List.length_pos_iff.2 he
    have hb1 : (H ++ [Blk.row t .own []])[H.length]? = some (.row t .own []) := by simp
    refine ⟨⟨H.length + 1, 0, 0⟩, (H ++ [.row t .own []]) ++ [.row t .loose es], hsrc, ?_, ?_, (Ext.app _ _).push _, _, rfl⟩
    · unfold appV
      simp only [Nat.zero_add]
      rw [if_neg (by omega), if_pos ⟨hb, by omega⟩]
      simp only [hb1, srcEls]
      simp
    · exact .inr ⟨H.length + 1, rfl, by simp, hz⟩

/-- lists of copied lists -/
structure DenC (B0 : Nat) (H : Hp) (tt : TypeId) (z : Nat) (t : TypeId) (oo : Option Nat) (q : Nat) (vs : List VV) (es : Nat → List (List VV)) : Prop where
  blk : GrowR H tt 1 oo (vs.map fun v => [v])
  len : vs.length = q
  done : ∀ k, k < q → ∃ p, vs[k]? = some (.sl (some p) (es k).length (es k).length) ∧ CopyR H (some p) z t (es k)
  lo : ∀ b, oo = some b → B0 ≤ b
section
variable {B0 : Nat} {H H' : Hp} {tt t : TypeId} {z : Nat} {oo : Option Nat} {q : Nat} {vs : List VV} {es : Nat → List (List VV)}
theorem DenC.keep (h : DenC B0 H tt z t oo q vs es) (hk : ∀ (k : Nat) (u : TypeId) (l : List (List VV)), (u = tt ∨ u = t) → H[k]? = some (.row u .loose l) → H'[k]? = H[k]?) : DenC B0 H' tt z t oo q vs es :=
  ⟨h.blk.keep fun b e => by subst e; exact hk b _ _ (.inl rfl) h.blk.1, h.len, fun k hkq => let ⟨p, h1, h2⟩ := h.done k hkq; ⟨p, h1, h2.keep fun b l e => hk b _ l (.inr rfl) e⟩, h.lo⟩
theorem DenC.ext (h : DenC B0 H tt z t oo q vs es) (hx : Ext H H') : DenC B0 H' tt z t oo q vs es := h.keep fun k u l _ hk => hx.2 k (get_lt hk)
theorem DenC.nil : DenC B0 H tt z t none 0 [] es := ⟨rfl, rfl, fun k hk => by omega, fun b e => by cases e⟩
theorem DenC.push (h : DenC B0 H tt z t oo q vs es) (htt : tt ≠ t) (hq : (q + 1) * 24 ≤ 140737488355328) {p : PA} {n : Nat} (hn : n = (es q).length) (hc : CopyR H (some p) z t (es q)) (hB : B0 ≤ H.length) :
    ∃ H', srcEls (H ++ [.row tt .own [[.sl (some p) n n]]]) 1 (.sl (some ⟨H.length, 0, 0⟩) 1 1) = some [[.sl (some p) n n]] ∧
      appV (H ++ [.row tt .own [[.sl (some p) n n]]]) tt 1 24 (gptr oo) q q [[.sl (some p) n n]] = some (.sl (some ⟨H.length + 1, 0, 0⟩) (q + 1) (q + 1), H') ∧
      DenC B0 H' tt z t (some (H.length + 1)) (q + 1) (vs ++ [.sl (some p) n n]) es ∧ H.length ≤ H'.length ∧ ∀ k, k < H.length → oo ≠ some k → H'[k]? = H[k]? := by
  have hl := h.len
  obtain ⟨p1, p2, p3⟩ := h.blk.push (new := [.sl (some p) n n]) rfl (bytes := 24) (by rw [List.length_map, hl]; omega) (by rw [List.length_map, hl]; omega)
  rw [List.length_map, hl] at p2
  have hks : ∀ k, k < H.length → oo ≠ some k → (kill (H ++ [.row tt .own [[.sl (some p) n n]]]) oo ++ [.row tt .loose ((vs.map fun v => [v]) ++ [[.sl (some p) n n]])])[k]? = H[k]? := fun k hk hne => by
    rw [List.getElem?_append_left (by rw [kill_len]; simp; omega), kill_off hne, List.getElem?_append_left hk]
  have hne : ∀ (k : Nat) (l : List (List VV)), H[k]? = some (.row t .loose l) → oo ≠ some k := fun k l hk e => by
    subst e
    have := h.blk.1
    rw [hk] at this
    simp at this
    exact htt this.1.symm
  refine ⟨_, p1, p2, ⟨?_, by simp [hl], fun k hk => ?_, fun b e => by cases e; omega⟩, by simp [kill_len]; omega, hks⟩
  · rw [List.map_append]; exact p3
  · by_cases e : k = q
    · subst e
      exact ⟨p, by rw [List.getElem?_append_right (by omega), hl, Nat.sub_self, ← hn]; rfl, hc.keep fun b l e => hks b (get_lt e) (hne b l e)⟩
    · obtain ⟨p', h1, h2⟩ := h.done k (by omega)
      exact ⟨p', by rw [List.getElem?_append_left (by omega)]; exact h1, h2.keep fun b l e => hks b (get_lt e) (hne b l e)⟩
end

section
variable {B : Nat} {Hb H : Hp} {v2 : VV} {j jo ca cg : Nat} {al : List Edges} {gs : List (List Int)} {pa pg : Option PA} {was wgs : List VV} {x0 x1 : VV}
theorem den0 (h : Den Hb pa pg al gs was wgs) (l0 : ld Hb ⟨j, 0, 0⟩ = some (.sl pa al.length ca)) (hlo : Hb.length ≤ jo)
    (hN : al.length * 24 ≤ 140737488355328) (hR : ∀ k, k < al.length → (al.getD k []).length * 16 ≤ 140737488355328) (hx : Ext Hb H) (hjo : H[jo]? = some (.row 53 .own [[nil1, x1]])) :
    VW Try.prog B 45 (VC.l (VC.r (VC.r w22.vc))) [(1, .ptr (some ⟨j, 0, 0⟩)), (2, v2), (3, .ptr (some ⟨jo, 0, 0⟩))] H
      fun e F2 H' => e = .normal ∧ Cov [(1, .ptr (some ⟨j, 0, 0⟩)), (2, v2), (3, .ptr (some ⟨jo, 0, 0⟩))] F2 ∧ Ext Hb H' ∧ H.length ≤ H'.length ∧ (∀ k, k < H.length → k ≠ jo → H'[k]? = H[k]?) ∧ ∃ oa vs,
        H'[jo]? = some (.row 53 .own [[.sl (gptr oa) al.length al.length, x1]]) ∧ DenC H.length H' 60 2 46 oa al.length vs (fun k => edgeEs (al.getD k [])) := by
  dsimp only [w22, VC.l, VC.r]
  generalize hn : al.length = N at *
  refine VW.seq (VW.reg ?_)
  refine VOps.rd rfl rfl ?_
  refine VOps.nil ⟨rfl, ?_⟩
  show VW _ _ _ _ [(1, .ptr (some ⟨j, 0, 0⟩)), (2, v2), (3, .ptr (some ⟨jo, 0, 0⟩)), (4, .int .i64 0)] _ _
  refine VW.block ?_
  refine VW.loop (fun m F' H' => ∃ (k : Nat) (oa : Option Nat) (vs : List VV), k ≤ N ∧ m = N - k ∧ Cov [(1, .ptr (some ⟨j, 0, 0⟩)), (2, v2), (3, .ptr (some ⟨jo, 0, 0⟩)), (4, .int .i64 k)] F' ∧ OffB jo H H' ∧
      H'[jo]? = some (.row 53 .own [[.sl (gptr oa) k k, x1]]) ∧ DenC H.length H' 60 2 46 oa k vs (fun k => edgeEs (al.getD k []))) N
    ⟨0, none, [], by omega, rfl, by simp [Cov, Fr.only], .refl _ _, hjo, .nil⟩ ?_
  clear hjo
  rintro m F' H2 ⟨k, oa, vs, hk, rfl, hcov, hoff, hjo, hdc⟩
  refine VW.sub hcov ?_
  clear hcov
  have hx2 := hoff.ext hx hlo
  have n0 := ext_ld hx2 l0
  refine VW.seq (VW.seq (VW.reg ?_))
  refine VOps.rd rfl rfl ?_
  refine VOps.rd rfl rfl ?_
  refine VOps.rd (v := .sl pa N ca) rfl (by simp [n0]) ?_
  refine VOps.rd rfl rfl ?_
  refine VOps.rd rfl rfl ?_
  refine VOps.nil ⟨rfl, ?_⟩
  by_cases hlt : k < N
  · have hvk := wrap_id (x := (k : Int) + 1) (by omega) (by omega)
    obtain ⟨pq, pk, ck, hpq, a1, a2, a3, a4⟩ := row_at (h.ext hx2).sa (h.ext hx2).ra (k := k) (by omega)
    have hRk := hR k (by omega)
    have hmx : maxLen = 9223372036854775807 := rfl
    obtain ⟨q2, A, s1, s2, s3, s4, G, hG⟩ := copy_row2 (t := 46) (c := ck) (bytes := 16) a3 (edge_len2 _) (by rw [edgeEs_len]; exact hRk) (by rw [edgeEs_len]; omega)
    rw [edgeEs_len] at s1 s2
    have hjlt := get_lt hjo
    have hdA := hdc.ext s4
    have hl2 := hoff.1
    have hl2A := s4.1
    obtain ⟨H8, p1, p2, hd8, hl8, hk8⟩ := hdA.push (p := q2) (n := (al.getD k []).length) (by decide) (by omega) (by rw [edgeEs_len]) s3 (by omega)
    have hjA := s4.get hjo
    have hnj : oa ≠ some jo := fun e => by
      subst e
      have := hdA.blk.1
      rw [hjA] at this; cases this
    have hj8 : H8[jo]? = some (.row 53 .own [[.sl (gptr oa) k k, x1]]) := by rw [hk8 jo (get_lt hjA) hnj]; exact hjA
    have hoff8 : OffB jo H H8 := ⟨by omega, fun z hz hne => by
      rw [hk8 z (by omega) (fun e => by have := hdA.lo z e; omega), s4.2 z (by omega)]; exact hoff.2 z hz hne⟩
    have hst : stc H8 ⟨jo, 0, 0⟩ [.sl (some ⟨A.length + 1, 0, 0⟩) (k + 1) (k + 1)] = some (H8.set jo (.row 53 .own [[.sl (some ⟨A.length + 1, 0, 0⟩) (k + 1) (k + 1), x1]])) := by
      simp only [stc, hj8]
      simp [upd, okCells, VV.cell]
    have hd9 : DenC H.length (H8.set jo (.row 53 .own [[.sl (some ⟨A.length + 1, 0, 0⟩) (k + 1) (k + 1), x1]])) 60 2 46 (some (A.length + 1)) (k + 1) (vs ++ [.sl (some q2) (al.getD k []).length (al.getD k []).length]) (fun k => edgeEs (al.getD k [])) :=
      hd8.keep fun z u l hu hz => List.getElem?_set_ne (fun e => by rw [← e, hj8] at hz; cases hz)
    have hx1 : Ext H2 (H2 ++ [.row 46 .own []]) := .app _ _
    have m0 := ext_ld hx1 n0
    have m1 := ext_ixp hx1 a1
    have m2 := ext_ld hx1 a2
    have j0 := ld_own hjo 0
    have j1 := ld_own (hx1.get hjo) 0
    have jA := ld_own hjA 0
    have jA2 := ld_own (get_push hjA [.row 60 .own [[.sl (some q2) (al.getD k []).length (al.getD k []).length]]]) 0
    simp only [List.getElem?_cons_zero, List.getElem?_cons_succ] at j0 j1 jA jA2
    refine VW.condT (by simp [Fr.only, hlt]) (VW.skip ?_)
    show VW _ _ _ _ [(1, .ptr (some ⟨j, 0, 0⟩)), (2, v2), (3, .ptr (some ⟨jo, 0, 0⟩)), (4, .int .i64 k), (10, _)] _ _
    generalize (al.getD k []).length = ln at *
    refine VW.seq (VW.block ?_)
    refine VW.mono (Q := fun e F2 H' => e = .normal ∧ Cov [(1, .ptr (some ⟨j, 0, 0⟩)), (2, v2), (3, .ptr (some ⟨jo, 0, 0⟩)), (4, .int .i64 k)] F2 ∧ H' = H8.set jo (.row 53 .own [[.sl (some ⟨A.length + 1, 0, 0⟩) (k + 1) (k + 1), x1]])) ?_ ?_
    · refine VW.dreg [H2, H2 ++ [.row 46 .own []], A, A ++ [.row 60 .own [[.sl (some q2) ln ln]]], H8, H8.set jo (.row 53 .own [[.sl (some ⟨A.length + 1, 0, 0⟩) (k + 1) (k + 1), x1]])] mixed rfl ?_
      refine VX.rdp rfl (fun _ => rfl) ?_
      refine VX.rdd (v := .sl (gptr oa) k k) (k := 0) rfl rfl rfl rfl rfl rfl (by simp [Fr.only, j0]) (by simp [Fr.only, j1]) (by simp [Fr.only, jA]) (by simp [Fr.only, jA2]) ?_
      refine VX.ef1 (v := .sl (some ⟨H2.length, 0, 0⟩) 0 0) (H' := H2 ++ [.row 46 .own []]) rfl rfl rfl ?_
      refine VX.rdp rfl (fun _ => rfl) ?_
      refine VX.rdb (v := .sl pa N ca) (k := 0) rfl rfl rfl rfl (by simp [Fr.only, n0]) (by simp [Fr.only, m0]) ?_
      refine VX.rdp rfl (fun _ => rfl) ?_
      refine VX.rdb (v := .ptr (some (elp (some pq) k))) (k := 0) rfl rfl rfl rfl (by simp [Fr.only, hpq, a1, hlt]) (by simp [Fr.only, hpq, m1, hlt]) ?_
      refine VX.rdb (v := .sl pk ln ck) (k := 0) rfl rfl rfl rfl (by simp [a2]) (by simp [m2]) ?_
      refine VX.ef1 (v := .sl (some q2) ln ln) (H' := A) rfl rfl (by simp only [VEf.ev, Od.ev, Fr.pt, Fr.get, reduceIte, Nat.reduceEqDiff, s1, s2]) ?_
      refine VX.ef1 (v := .sl (some ⟨A.length, 0, 0⟩) 1 1) (H' := A ++ [.row 60 .own [[.sl (some q2) ln ln]]]) rfl rfl rfl ?_
      refine VX.ef1 (v := .sl (some ⟨A.length + 1, 0, 0⟩) (k + 1) (k + 1)) (H' := H8) rfl rfl (by simp only [VEf.ev, Od.ev, Fr.pt, Fr.get, reduceIte, Nat.reduceEqDiff, p1, p2]) ?_
      refine VX.rdp rfl (fun _ => rfl) ?_
      refine VX.ef1 (v := .undef) rfl rfl (by simp [Fr.only, hst]) ?_
      exact VX.nil ⟨rfl, by simp [Cov, Fr.only], rfl⟩
    rintro e F2 H9 ⟨rfl, hcov, rfl⟩
    refine VW.sub hcov (VW.reg ?_)
    refine VOps.rd rfl rfl ?_
    refine VOps.rd rfl rfl ?_
    refine VOps.rd rfl rfl ?_
    exact VOps.nil ⟨rfl, N - (k + 1), by omega, k + 1, some (A.length + 1), _, by omega, rfl, by simp [Cov, Fr.only, hvk], hoff8.set _, List.getElem?_set_self (get_lt hj8), hd9⟩
  · have : k = N := by omega
    subst this
    refine VW.condF (by simp [Fr.only]) (VW.exit ?_)
    simp only [then_normal, then_ret, then_exit, inB_normal, inB_ret, inB_exit, reduceIte, Nat.reduceEqDiff]
    exact ⟨trivial, by simp [Cov, Fr.only], hx2, hoff.1, hoff.2, oa, vs, hjo, hdc⟩
end

section
variable {B : Nat} {Hb H : Hp} {v2 : VV} {j jo ca cg : Nat} {al : List Edges} {gs : List (List Int)} {pa pg : Option PA} {was wgs : List VV} {x0 x1 : VV}
theorem den1 (h : Den Hb pa pg al gs was wgs) (l0 : ld Hb ⟨j, 0, 1⟩ = some (.sl pg gs.length cg)) (hlo : Hb.length ≤ jo)
    (hN : gs.length * 24 ≤ 140737488355328) (hR : ∀ k, k < gs.length → (gs.getD k []).length * 8 ≤ 140737488355328) (hx : Ext Hb H) (hjo : H[jo]? = some (.row 53 .own [[x0, nil1]])) :
    VW Try.prog B 45 (VC.l (VC.r (VC.r (VC.r w22.vc)))) [(1, .ptr (some ⟨j, 0, 0⟩)), (2, v2), (3, .ptr (some ⟨jo, 0, 0⟩))] H
      fun e F2 H' => e = .normal ∧ Cov [(1, .ptr (some ⟨j, 0, 0⟩)), (2, v2), (3, .ptr (some ⟨jo, 0, 0⟩))] F2 ∧ Ext Hb H' ∧ H.length ≤ H'.length ∧ (∀ k, k < H.length → k ≠ jo → H'[k]? = H[k]?) ∧ ∃ oa vs,
        H'[jo]? = some (.row 53 .own [[x0, .sl (gptr oa) gs.length gs.length]]) ∧ DenC H.length H' 24 1 3 oa gs.length vs (fun k => intEs (gs.getD k [])) := by
  dsimp only [w22, VC.l, VC.r]
  generalize hn : gs.length = N at *
  refine VW.seq (VW.reg ?_)
  refine VOps.rd rfl rfl ?_
  refine VOps.nil ⟨rfl, ?_⟩
  show VW _ _ _ _ [(1, .ptr (some ⟨j, 0, 0⟩)), (2, v2), (3, .ptr (some ⟨jo, 0, 0⟩)), (5, .int .i64 0)] _ _
  refine VW.block ?_
  refine VW.loop (fun m F' H' => ∃ (k : Nat) (oa : Option Nat) (vs : List VV), k ≤ N ∧ m = N - k ∧ Cov [(1, .ptr (some ⟨j, 0, 0⟩)), (2, v2), (3, .ptr (some ⟨jo, 0, 0⟩)), (5, .int .i64 k)] F' ∧ OffB jo H H' ∧
      H'[jo]? = some (.row 53 .own [[x0, .sl (gptr oa) k k]]) ∧ DenC H.length H' 24 1 3 oa k vs (fun k => intEs (gs.getD k []))) N
    ⟨0, none, [], by omega, rfl, by simp [Cov, Fr.only], .refl _ _, hjo, .nil⟩ ?_
  clear hjo
  rintro m F' H2 ⟨k, oa, vs, hk, rfl, hcov, hoff, hjo, hdc⟩
  refine VW.sub hcov ?_
  clear hcov
  have hx2 := hoff.ext hx hlo
  have n0 := ext_ld hx2 l0
  refine VW.seq (VW.seq (VW.reg ?_))
  refine VOps.rd rfl rfl ?_
  refine VOps.rd rfl rfl ?_
  refine VOps.rd (v := .sl pg N cg) rfl (by simp [n0]) ?_
  refine VOps.rd rfl rfl ?_
  refine VOps.rd rfl rfl ?_
  refine VOps.nil ⟨rfl, ?_⟩
  by_cases hlt : k < N
  · have hvk := wrap_id (x := (k : Int) + 1) (by omega) (by omega)
    obtain ⟨pq, pk, ck, hpq, a1, a2, a3, a4⟩ := rowI_at (h.ext hx2).sg (h.ext hx2).rg (k := k) (by omega)
    have hRk := hR k (by omega)
    have hmx : maxLen = 9223372036854775807 := rfl
    obtain ⟨q2, A, s1, s2, s3, s4, G, hG⟩ := copy_row2 (t := 3) (c := ck) (bytes := 8) a3 (int_len1 _) (by rw [intEs_len]; exact hRk) (by rw [intEs_len]; omega)
    rw [intEs_len] at s1 s2
    have hjlt := get_lt hjo
    have hdA := hdc.ext s4
    have hl2 := hoff.1
    have hl2A := s4.1
    obtain ⟨H8, p1, p2, hd8, hl8, hk8⟩ := hdA.push (p := q2) (n := (gs.getD k []).length) (by decide) (by omega) (by rw [intEs_len]) s3 (by omega)
    have hjA := s4.get hjo
    have hnj : oa ≠ some jo := fun e => by
      subst e
      have := hdA.blk.1
      rw [hjA] at this; cases this
    have hj8 : H8[jo]? = some (.row 53 .own [[x0, .sl (gptr oa) k k]]) := by rw [hk8 jo (get_lt hjA) hnj]; exact hjA
    have hoff8 : OffB jo H H8 := ⟨by omega, fun z hz hne => by
      rw [hk8 z (by omega) (fun e => by have := hdA.lo z e; omega), s4.2 z (by omega)]; exact hoff.2 z hz hne⟩
    have hst : stc H8 ⟨jo, 0, 1⟩ [.sl (some ⟨A.length + 1, 0, 0⟩) (k + 1) (k + 1)] = some (H8.set jo (.row 53 .own [[x0, .sl (some ⟨A.length + 1, 0, 0⟩) (k + 1) (k + 1)]])) := by
      simp only [stc, hj8]
      simp [upd, okCells, VV.cell]
    have hd9 : DenC H.length (H8.set jo (.row 53 .own [[x0, .sl (some ⟨A.length + 1, 0, 0⟩) (k + 1) (k + 1)]])) 24 1 3 (some (A.length + 1)) (k + 1) (vs ++ [.sl (some q2) (gs.getD k []).length (gs.getD k []).length]) (fun k => intEs (gs.getD k [])) :=
      hd8.keep fun z u l hu hz => List.getElem?_set_ne (fun e => by rw [← e, hj8] at hz; cases hz)
    have hx1 : Ext H2 (H2 ++ [.row 3 .own []]) := .app _ _
    have m0 := ext_ld hx1 n0
    have m1 := ext_ixp hx1 a1
    have m2 := ext_ld hx1 a2
    have j0 := ld_own hjo 1
    have j1 := ld_own (hx1.get hjo) 1
    have jA := ld_own hjA 1
    have jA2 := ld_own (get_push hjA [.row 24 .own [[.sl (some q2) (gs.getD k []).length (gs.getD k []).length]]]) 1
    simp only [List.getElem?_cons_zero, List.getElem?_cons_succ] at j0 j1 jA jA2
    refine VW.condT (by simp [Fr.only, hlt]) (VW.skip ?_)
    show VW _ _ _ _ [(1, .ptr (some ⟨j, 0, 0⟩)), (2, v2), (3, .ptr (some ⟨jo, 0, 0⟩)), (5, .int .i64 k), (29, _)] _ _
    generalize (gs.getD k []).length = ln at *
    refine VW.seq (VW.block ?_)
    refine VW.mono (Q := fun e F2 H' => e = .normal ∧ Cov [(1, .ptr (some ⟨j, 0, 0⟩)), (2, v2), (3, .ptr (some ⟨jo, 0, 0⟩)), (5, .int .i64 k)] F2 ∧ H' = H8.set jo (.row 53 .own [[x0, .sl (some ⟨A.length + 1, 0, 0⟩) (k + 1) (k + 1)]])) ?_ ?_
    · refine VW.dreg [H2, H2 ++ [.row 3 .own []], A, A ++ [.row 24 .own [[.sl (some q2) ln ln]]], H8, H8.set jo (.row 53 .own [[x0, .sl (some ⟨A.length + 1, 0, 0⟩) (k + 1) (k + 1)]])] mixed rfl ?_
      refine VX.rdp rfl (fun _ => rfl) ?_
      refine VX.rdd (v := .sl (gptr oa) k k) (k := 0) rfl rfl rfl rfl rfl rfl (by simp [Fr.only, j0]) (by simp [Fr.only, j1]) (by simp [Fr.only, jA]) (by simp [Fr.only, jA2]) ?_
      refine VX.ef1 (v := .sl (some ⟨H2.length, 0, 0⟩) 0 0) (H' := H2 ++ [.row 3 .own []]) rfl rfl rfl ?_
      refine VX.rdp rfl (fun _ => rfl) ?_
      refine VX.rdb (v := .sl pg N cg) (k := 0) rfl rfl rfl rfl (by simp [Fr.only, n0]) (by simp [Fr.only, m0]) ?_
      refine VX.rdp rfl (fun _ => rfl) ?_
      refine VX.rdb (v := .ptr (some (elp (some pq) k))) (k := 0) rfl rfl rfl rfl (by simp [Fr.only, hpq, a1, hlt]) (by simp [Fr.only, hpq, m1, hlt]) ?_
      refine VX.rdb (v := .sl pk ln ck) (k := 0) rfl rfl rfl rfl (by simp [a2]) (by simp [m2]) ?_
      refine VX.ef1 (v := .sl (some q2) ln ln) (H' := A) rfl rfl (by simp only [VEf.ev, Od.ev, Fr.pt, Fr.get, reduceIte, Nat.reduceEqDiff, s1, s2]) ?_
      refine VX.ef1 (v := .sl (some ⟨A.length, 0, 0⟩) 1 1) (H' := A ++ [.row 24 .own [[.sl (some q2) ln ln]]]) rfl rfl rfl ?_
      refine VX.ef1 (v := .sl (some ⟨A.length + 1, 0, 0⟩) (k + 1) (k + 1)) (H' := H8) rfl rfl (by simp only [VEf.ev, Od.ev, Fr.pt, Fr.get, reduceIte, Nat.reduceEqDiff, p1, p2]) ?_
      refine VX.rdp rfl (fun _ => rfl) ?_
      refine VX.ef1 (v := .undef) rfl rfl (by simp [Fr.only, hst]) ?_
      exact VX.nil ⟨rfl, by simp [Cov, Fr.only], rfl⟩
    rintro e F2 H9 ⟨rfl, hcov, rfl⟩
    refine VW.sub hcov (VW.reg ?_)
    refine VOps.rd rfl rfl ?_
    refine VOps.rd rfl rfl ?_
    refine VOps.rd rfl rfl ?_
    exact VOps.nil ⟨rfl, N - (k + 1), by omega, k + 1, some (A.length + 1), _, by omega, rfl, by simp [Cov, Fr.only, hvk], hoff8.set _, List.getElem?_set_self (get_lt hj8), hd9⟩
  · have : k = N := by omega
    subst this
    refine VW.condF (by simp [Fr.only]) (VW.exit ?_)
    simp only [then_normal, then_ret, then_exit, inB_normal, inB_ret, inB_exit, reduceIte, Nat.reduceEqDiff]
    exact ⟨trivial, by simp [Cov, Fr.only], hx2, hoff.1, hoff.2, oa, vs, hjo, hdc⟩
end
end Go.Proofs.Ytlclbfkdaemilaa

/- dense alone (for PackSays). -/
namespace Go.Proofs.Ytlclbfkdaemilaa
set_option linter.unusedSimpArgs false
set_option linter.unusedVariables false
open Go Go.Vm Go.Proofs
set_option maxRecDepth 100000
set_option maxHeartbeats 4000000

/-- no list is larger than memory -/
structure Sz (al : List Edges) (gs : List (List Int)) : Prop where
  a : al.length * 24 ≤ 140737488355328
  g : gs.length * 24 ≤ 140737488355328
  ra : ∀ k, k < al.length → (al.getD k []).length * 16 ≤ 140737488355328
  rg : ∀ k, k < gs.length → (gs.getD k []).length * 8 ≤ 140737488355328
section
variable {H : Hp} {pa pg pa' pg' : Option PA} {ca cg ca' cg' : Nat} {al : List Edges} {gs : List (List Int)} {was wgs was' wgs' : List VV}
theorem dense22 (h : Den H pa pg al gs was wgs) (hz : Sz al gs) : FnV Try.prog 22 [denV pa pg ca cg al gs] H fun r H' => Ext H H' ∧ ∃ oa og was' wgs', r = denV (gptr oa) (gptr og) al.length gs.length al gs ∧ Den H' (gptr oa) (gptr og) al gs was' wgs' := by
  refine FnV.enterRow ok22 (by show 1 ≤ 45; decide) fun B => ?_
  dsimp only [w22]
  have hmx : maxLen = 9223372036854775807 := rfl
  have hx1 : Ext H (H ++ [.row 53 .own [[.sl pa al.length ca, .sl pg gs.length cg]], .row 53 .own [[nil1, nil1]]]) := .app _ _
  have hb1 : (H ++ [Blk.row 53 .own [[.sl pa al.length ca, .sl pg gs.length cg]], .row 53 .own [[nil1, nil1]]])[H.length]? = some (.row 53 .own [[.sl pa al.length ca, .sl pg gs.length cg]]) := by simp
  have hr1 : (H ++ [Blk.row 53 .own [[.sl pa al.length ca, .sl pg gs.length cg]], .row 53 .own [[nil1, nil1]]])[H.length + 1]? = some (.row 53 .own [[nil1, nil1]]) := by simp
  refine VW.seq (VW.reg ?_)
  refine VOps.ef (v := .ptr (some ⟨H.length, 0, 0⟩)) (H' := H ++ [.row 53 .own [[.sl pa al.length ca, .sl pg gs.length cg]]]) rfl (by simp [argsF]) ?_
  refine VOps.ef (v := .ptr (some ⟨H.length + 1, 0, 0⟩)) (H' := H ++ [.row 53 .own [[.sl pa al.length ca, .sl pg gs.length cg]], .row 53 .own [[nil1, nil1]]]) rfl (by simp) ?_
  refine VOps.nil ⟨rfl, ?_⟩
  generalize H ++ [.row 53 .own [[.sl pa al.length ca, .sl pg gs.length cg]], .row 53 .own [[nil1, nil1]]] = Hb at *
  show VW _ _ _ _ [(1, .ptr (some ⟨H.length, 0, 0⟩)), (2, .ptr (some ⟨H.length + 1, 0, 0⟩))] _ _
  have hb := h.ext hx1
  have l0 := ld_own hb1 0
  have l1 := ld_own hb1 1
  simp only [List.getElem?_cons_zero, List.getElem?_cons_succ] at l0 l1
  have hj2 : H.length + 1 < Hb.length := get_lt hr1
  have hx2 : Ext Hb (Hb ++ [.row 53 .own [[nil1, nil1]]]) := .app _ _
  have ho2 : (Hb ++ [Blk.row 53 .own [[nil1, nil1]]])[Hb.length]? = some (.row 53 .own [[nil1, nil1]]) := by simp
  refine VW.seq (VW.reg ?_)
  refine VOps.ef (v := .ptr (some ⟨Hb.length, 0, 0⟩)) (H' := Hb ++ [.row 53 .own [[nil1, nil1]]]) rfl rfl ?_
  refine VOps.nil ⟨rfl, ?_⟩
  show VW _ _ _ _ [(1, .ptr (some ⟨H.length, 0, 0⟩)), (2, .ptr (some ⟨H.length + 1, 0, 0⟩)), (3, .ptr (some ⟨Hb.length, 0, 0⟩))] _ _
  generalize Hb ++ [.row 53 .own [[nil1, nil1]]] = H2 at *
  refine VW.seq ?_
  refine VW.mono (den0 hb l0 (Nat.le_refl _) hz.a hz.ra hx2 ho2) ?_
  rintro e F2 H3 ⟨rfl, hcov, hx3, hl3, hk3, oa, was', ho3, hdA⟩
  refine VW.sub hcov ?_
  clear hcov
  refine VW.seq ?_
  refine VW.mono (den1 hb l1 (Nat.le_refl _) hz.g hz.rg hx3 ho3) ?_
  rintro e F2 H4 ⟨rfl, hcov, hx4, hl4, hk4, og, wgs', ho4, hdG⟩
  refine VW.sub hcov ?_
  clear hcov
  have hdA4 : DenC H2.length H4 60 2 46 oa al.length was' (fun k => edgeEs (al.getD k [])) := hdA.keep fun z u l hu hzz => hk4 z (get_lt hzz) fun e => by rw [e, ho3] at hzz; cases hzz
  have hr4 := hx4.get hr1
  have l4 := lds_own ho4 0 2
  simp only [List.length_cons, List.length_nil, Nat.zero_add, Nat.le_refl, if_true, List.drop_zero, List.take_succ_cons, List.take_zero] at l4
  have hst : stc H4 ⟨H.length + 1, 0, 0⟩ [.sl (gptr oa) al.length al.length, .sl (gptr og) gs.length gs.length] = some (H4.set (H.length + 1) (.row 53 .own [[.sl (gptr oa) al.length al.length, .sl (gptr og) gs.length gs.length]])) := by
    simp only [stc, hr4]
    simp [upd, okCells, VV.cell]
  have hj4 := get_lt hr4
  have lf := lds_own (H := H4.set (H.length + 1) (.row 53 .own [[.sl (gptr oa) al.length al.length, .sl (gptr og) gs.length gs.length]])) (List.getElem?_set_self hj4) 0 2
  simp only [List.length_cons, List.length_nil, Nat.zero_add, Nat.le_refl, if_true, List.drop_zero, List.take_succ_cons, List.take_zero] at lf
  have keep : ∀ (z : Nat) (u : TypeId) (l : List (List VV)), H4[z]? = some (.row u .loose l) → (H4.set (H.length + 1) (.row 53 .own [[.sl (gptr oa) al.length al.length, .sl (gptr og) gs.length gs.length]]))[z]? = H4[z]? := fun z u l hzz => List.getElem?_set_ne fun e => by rw [← e, hr4] at hzz; cases hzz
  have dA := hdA4.keep (H' := H4.set (H.length + 1) (.row 53 .own [[.sl (gptr oa) al.length al.length, .sl (gptr og) gs.length gs.length]])) fun z u l _ hzz => keep z u l hzz
  have dG := hdG.keep (H' := H4.set (H.length + 1) (.row 53 .own [[.sl (gptr oa) al.length al.length, .sl (gptr og) gs.length gs.length]])) fun z u l _ hzz => keep z u l hzz
  have hx5 : Ext H (H4.set (H.length + 1) (.row 53 .own [[.sl (gptr oa) al.length al.length, .sl (gptr og) gs.length gs.length]])) := (hx1.trans hx4).set (by omega) _
  refine VW.seq (VW.reg ?_)
  refine VOps.rd (v := .agg [.sl (gptr oa) al.length al.length, .sl (gptr og) gs.length gs.length]) rfl (by simp [l4]) ?_
  refine VOps.ef (v := .undef) (H' := H4.set (H.length + 1) (.row 53 .own [[.sl (gptr oa) al.length al.length, .sl (gptr og) gs.length gs.length]])) rfl (by simp [hst]) ?_
  refine VOps.nil ⟨rfl, VW.ret ⟨.inl rfl, denV (gptr oa) (gptr og) al.length gs.length al gs, ?_, hx5, oa, og, was', wgs', rfl, ⟨dA.blk.sl, ⟨by rw [dA.len], fun k hk => ?_⟩, dG.blk.sl, ⟨by rw [dG.len], fun k hk => ?_⟩, h.la, h.lg⟩⟩⟩
  · simp [resV, resL, Fr.only, lf]
  · obtain ⟨p, g1, g2⟩ := dA.done k hk
    have := hz.ra k hk
    rw [edgeEs_len] at g1
    exact ⟨some p, _, g1, g2.sl, by omega⟩
  · obtain ⟨p, g1, g2⟩ := dG.done k hk
    have := hz.rg k hk
    rw [intEs_len] at g1
    exact ⟨some p, _, g1, g2.sl, by omega⟩
end
theorem stc_last8 {H : Hp} {t : TypeId} {a b c d e f g h a' b' c' d' e' f' g' h' : VV} (hc : okCells [a', b', c', d', e', f', g', h'] = true) : stc (H ++ [.row t .own [[a, b, c, d, e, f, g, h]]]) ⟨H.length, 0, 0⟩ [a', b', c', d', e', f', g', h'] = some (H ++ [.row t .own [[a', b', c', d', e', f', g', h']]]) := by
  have hb : (H ++ [Blk.row t .own [[a, b, c, d, e, f, g, h]]])[H.length]? = some (.row t .own [[a, b, c, d, e, f, g, h]]) := by simp
  simp only [stc, hb, hc]
  simp [upd]
end Go.Proofs.Ytlclbfkdaemilaa

