/- Several texts as one: PkJ PkK PkL PkM PkN PkO PkP PkQ PkR. -/
import Derived.Test.YtlclbfkdaemilaaPm1
import Derived.Test.YtlclbfkdaemilaaLyI
import Derived.Test.YtlclbfkdaemilaaLyJ
import Derived.Test.YtlclbfkdaemilaaAwk
/- pack.Pack. -/
namespace Go.Proofs.Ytlclbfkdaemilaa
set_option linter.unusedSimpArgs false
set_option linter.unusedVariables false
open Go Go.Vm Go.Proofs
set_option maxRecDepth 100000
set_option maxHeartbeats 4000000

theorem rowP_nil {B0 : Nat} {H : Hp} {N : Nat} {rows : List Edges} : RowP B0 (H ++ [.row 40 .own (List.replicate N [nil1])]) H.length N 0 (List.replicate N nil1) rows :=
  ⟨by simp, by simp, fun k hk => by omega, fun k _ hk => by simp [List.getElem?_replicate, hk]⟩
theorem rowsA_len (al : List Edges) (k : Nat) : ((rowsA al).getD k []).length ≤ (al.getD k []).length := by
  by_cases h : k < al.length
  · rw [rowsA_at h]; exact rowAn_len _ _ _
  · simp [rowsA, List.getD, h]
theorem rowsG_len (gs : List (List Int)) (S k : Nat) : ((rowsG gs S).getD k []).length ≤ gs.length := by
  by_cases h : k < S
  · rw [rowsG_at h]; exact rowGn_len _ _ _ _
  · simp [rowsG, List.getD, h]

section
variable {H : Hp} {pa pg : Option PA} {ca cg : Nat} {al : List Edges} {gs : List (List Int)} {was wgs : List VV}
theorem pack23 (h : Den H pa pg al gs was wgs) : FnV Try.prog 23 [denV pa pg ca cg al gs] H fun r H' => ∃ o, PRes H H' o al gs ∧ r = .tup [.agg (pkA o al gs), .int .i64 (pkE al gs)] := by
  refine FnV.enterRow ok23 (by show 1 ≤ 147; decide) fun B => ?_
  dsimp only [w23]
  have hmx : maxLen = 9223372036854775807 := rfl
  -- boxes
  have hx1 : Ext H (H ++ [.row 53 .own [[.sl pa al.length ca, .sl pg gs.length cg]], pk8 nil1 nil1 nil1 nil1 nil1 nil1 nil1 nil1]) := .app _ _
  have hb1 : (H ++ [.row 53 .own [[.sl pa al.length ca, .sl pg gs.length cg]], pk8 nil1 nil1 nil1 nil1 nil1 nil1 nil1 nil1])[H.length]? = some (.row 53 .own [[.sl pa al.length ca, .sl pg gs.length cg]]) := by simp
  have hr1 : (H ++ [.row 53 .own [[.sl pa al.length ca, .sl pg gs.length cg]], pk8 nil1 nil1 nil1 nil1 nil1 nil1 nil1 nil1])[H.length + 1]? = some (pk8 nil1 nil1 nil1 nil1 nil1 nil1 nil1 nil1) := by simp
  refine VW.seq (VW.reg ?_)
  refine VOps.ef (v := .ptr (some ⟨H.length, 0, 0⟩)) (H' := H ++ [.row 53 .own [[.sl pa al.length ca, .sl pg gs.length cg]]]) rfl (by simp [argsF]) ?_
  refine VOps.ef (v := .ptr (some ⟨H.length + 1, 0, 0⟩)) (H' := H ++ [.row 53 .own [[.sl pa al.length ca, .sl pg gs.length cg]], pk8 nil1 nil1 nil1 nil1 nil1 nil1 nil1 nil1]) rfl (by simp) ?_
  refine VOps.rd rfl rfl ?_
  refine VOps.nil ⟨rfl, ?_⟩
  generalize H ++ [.row 53 .own [[.sl pa al.length ca, .sl pg gs.length cg]], pk8 nil1 nil1 nil1 nil1 nil1 nil1 nil1 nil1] = Hb at *
  show VW _ _ _ _ [(1, .ptr (some ⟨H.length, 0, 0⟩)), (2, .ptr (some ⟨H.length + 1, 0, 0⟩))] _ _
  have hb := h.ext hx1
  have l0 := ld_own hb1 0
  have l1 := ld_own hb1 1
  have l2 := lds_own hb1 0 2
  simp only [List.getElem?_cons_zero, List.getElem?_cons_succ] at l0 l1
  simp only [List.length_cons, List.length_nil, Nat.zero_add, Nat.le_refl, if_true, List.drop_zero, List.take_succ_cons, List.take_zero] at l2
  have hj : H.length < Hb.length := get_lt hb1
  have hj2 : H.length + 1 < Hb.length := get_lt hr1
  refine VW.seq (VW.seq (VW.reg ?_))
  refine VOps.rd (v := denV pa pg ca cg al gs) rfl (by simp [l2]) ?_
  refine VOps.call rfl rfl rfl ((right37 hb).mono ?_)
  rintro r H2 ⟨rfl, rfl⟩
  refine VOps.rd rfl rfl ?_
  refine VOps.nil ⟨rfl, ?_⟩
  refine VW.cond rfl (fun hc => ?_) (fun hc => ?_)
  · -- it may not
    have hm : mayD al gs = false := by simpa using hc
    have hlL : ∀ j, pkL al gs j = [] := fun j => by unfold pkL; rw [hm]; rfl
    have hst : stc H2 ⟨H.length + 1, 0, 0⟩ [nil1, nil1, nil1, nil1, nil1, nil1, nil1, nil1] = some (H2.set (H.length + 1) (pk8 nil1 nil1 nil1 nil1 nil1 nil1 nil1 nil1)) := by
      simp only [stc, hr1]
      simp [upd, okCells, VV.cell]
    have hfin := lds_own (H := H2.set (H.length + 1) (pk8 nil1 nil1 nil1 nil1 nil1 nil1 nil1 nil1)) (List.getElem?_set_self hj2) 0 8
    simp only [List.length_cons, List.length_nil, Nat.zero_add, Nat.le_refl, if_true, List.drop_zero, List.take_succ_cons, List.take_zero] at hfin
    refine VW.seq (VW.reg ?_)
    refine VOps.rd (v := .agg [nil1, nil1, nil1, nil1, nil1, nil1, nil1, nil1]) rfl rfl ?_
    refine VOps.ef (v := .undef) (H' := H2.set (H.length + 1) (pk8 nil1 nil1 nil1 nil1 nil1 nil1 nil1 nil1)) rfl (by simp [Fr.only, hst]) ?_
    refine VOps.rd rfl rfl ?_
    refine VOps.nil ⟨rfl, VW.ret ⟨.inl rfl, _, ?_, fun _ => none, ⟨hx1.set (by omega) _, fun j _ => by rw [hlL]; exact ⟨.inl rfl, rfl⟩, (fun j _ k e => by cases e), (fun j j' _ _ _ k e => by cases e)⟩, rfl⟩⟩
    unfold pkA pkE
    simp [resV, resL, Fr.only, hfin, hlL, hm, gptr]
  have hm : mayD al gs = true := by simpa using hc
  have ht := mayD_spec hm
  have e0 : pkL al gs 0 = dfN al al.length := by simp [pkL, hm]
  have e1 : pkL al gs 1 = layL (rowsA al) 0 := by simp [pkL, hm]
  have e2 : pkL al gs 2 = layL (rowsA al) 1 := by simp [pkL, hm]
  have e3 : pkL al gs 3 = layL (rowsA al) 2 := by simp [pkL, hm]
  have e4 : pkL al gs 4 = tgN gs (gs.getD 0 []).length := by simp [pkL, hm]
  have e5 : pkL al gs 5 = layL (rowsG gs (gs.getD 0 []).length) 0 := by simp [pkL, hm]
  have e6 : pkL al gs 6 = layL (rowsG gs (gs.getD 0 []).length) 1 := by simp [pkL, hm]
  have e7 : pkL al gs 7 = layL (rowsG gs (gs.getD 0 []).length) 2 := by simp [pkL, hm]
  have hE : pkE al gs = 0 := by unfold pkE; rw [if_pos hm]
  generalize hS : (gs.getD 0 []).length = S at *
  generalize hT : (al.getD 0 []).length = T at *
  have hn2 := ht.n2
  have hs2 := ht.s2
  have hng := ht.ng
  have hgs1 : 0 < gs.length := by have := ht.n1; omega
  refine VW.skip (VW.seq (VW.reg ?_))
  refine VOps.ef (v := .ptr (some ⟨H2.length, 0, 0⟩)) (H' := H2 ++ [pk8 nil1 nil1 nil1 nil1 nil1 nil1 nil1 nil1]) rfl rfl ?_
  refine VOps.nil ⟨rfl, ?_⟩
  show VW _ _ _ _ [(1, .ptr (some ⟨H.length, 0, 0⟩)), (2, .ptr (some ⟨H.length + 1, 0, 0⟩)), (4, .ptr (some ⟨H2.length, 0, 0⟩))] _ _
  have hxc : Ext H2 (H2 ++ [pk8 nil1 nil1 nil1 nil1 nil1 nil1 nil1 nil1]) := .app _ _
  have hipc : (H2 ++ [pk8 nil1 nil1 nil1 nil1 nil1 nil1 nil1 nil1])[H2.length]? = some (pk8 nil1 nil1 nil1 nil1 nil1 nil1 nil1 nil1) := by simp
  generalize H2 ++ [pk8 nil1 nil1 nil1 nil1 nil1 nil1 nil1 nil1] = Hc at *
  obtain ⟨ip, hipe⟩ : ∃ ip, ip = H2.length := ⟨_, rfl⟩
  rw [← hipe] at hipc ⊢
  refine VW.seq (VW.reg ?_)
  refine VOps.rd rfl rfl ?_
  refine VOps.rd (v := .sl pa al.length ca) rfl (by simp [Fr.only, ext_ld hxc l0]) ?_
  refine VOps.rd rfl rfl ?_
  refine VOps.ef (v := .sl (some ⟨Hc.length, 0, 0⟩) al.length al.length) (H' := Hc ++ [.row 40 .own (List.replicate al.length [nil1])]) rfl (by simp; omega) ?_
  refine VOps.rd rfl rfl ?_
  refine VOps.nil ⟨rfl, ?_⟩
  show VW _ _ _ _ [(1, .ptr (some ⟨H.length, 0, 0⟩)), (2, .ptr (some ⟨H.length + 1, 0, 0⟩)), (4, .ptr (some ⟨ip, 0, 0⟩)), (5, .sl (some ⟨Hc.length, 0, 0⟩) al.length al.length)] _ _
  have hrpd := rowP_nil (B0 := H2.length) (H := Hc) (N := al.length) (rows := rowsA al)
  have hxd := hxc.push [.row 40 .own (List.replicate al.length [nil1])]
  have hipd := get_push hipc [.row 40 .own (List.replicate al.length [nil1])]
  generalize Hc ++ [.row 40 .own (List.replicate al.length [nil1])] = Hd at *
  have hcl := hxc.1
  refine VW.seq ?_
  refine VW.mono (packA hb l0 hxd hipd (Nat.le_of_eq hipe.symm) hcl ht.n2 (fun q hq => by rw [ht.rt q hq]; exact ht.t2) (fun q hq k hk => mayA_range (by omega) (ht.ma q hq k (by rw [← ht.rt q hq]; exact hk))) hrpd) ?_
  clear hrpd hxd hipd hipc
  rintro e F2 H3 ⟨rfl, hcov, hx3, od, vs3, hip3, hg3, hod3, hrp3⟩
  refine VW.sub hcov ?_
  clear hcov
  have hrl : (rowsA al).length = al.length := by simp [rowsA]
  obtain ⟨hs3, hv3⟩ := hrp3.rowV hrl (fun k hk => by have := rowsA_len al k; have := ht.rt k hk; have := ht.t2; omega)
  have hl10 := lay10 (c := al.length) hs3 hv3 (by omega)
  rw [hrl] at hl10
  refine VW.seq (VW.reg ?_)
  refine VOps.rd rfl rfl ?_
  refine VOps.call rfl rfl rfl (hl10.mono ?_)
  rintro r H4 hlr
  obtain ⟨oA, hresA, rfl⟩ := lay_res (by decide) hlr
  clear hlr hl10 hs3 hv3 hrp3
  have hip4 := hresA.ext.get hip3
  have hst4 : stc H4 ⟨ip, 0, 1⟩ (resA oA (rowsA al)) = some (H4.set ip (pk8 (.sl (gptr od) al.length al.length) (.sl (gptr (oA 0)) (layL (rowsA al) 0).length (layL (rowsA al) 0).length) (.sl (gptr (oA 1)) (layL (rowsA al) 1).length (layL (rowsA al) 1).length) (.sl (gptr (oA 2)) (layL (rowsA al) 2).length (layL (rowsA al) 2).length) nil1 nil1 nil1 nil1)) := by
    have hk : okCells (resA oA (rowsA al)) = true := rfl
    simp only [stc, hip4, hk]
    simp [upd]
  refine VOps.rd rfl rfl ?_
  refine VOps.rd rfl rfl ?_
  refine VOps.rd rfl rfl ?_
  refine VOps.rd rfl rfl ?_
  refine VOps.ef (v := .undef) rfl (by simp only [VEf.ev, Od.ev, Fr.pt, Fr.get, reduceIte, Nat.reduceEqDiff, VV.defd, VV.cells, hst4]; simp; rfl) ?_
  refine VOps.nil ⟨rfl, ?_⟩
  show VW _ _ _ _ [(1, .ptr (some ⟨H.length, 0, 0⟩)), (2, .ptr (some ⟨H.length + 1, 0, 0⟩)), (4, .ptr (some ⟨ip, 0, 0⟩))] _ _
  have neD3 := (Own.of hg3).ne hip3 (by decide)
  have ltD : ∀ k, od = some k → k < H3.length := fun k e => (Own.of hg3).lt e
  have ownA4 : ∀ j, j < 3 → Own H4 (oA j) (layL (rowsA al) j) := fun j hj => ⟨hresA.sl j hj, hresA.wr j hj⟩
  have neA4 : ∀ j, j < 3 → oA j ≠ some ip := fun j hj => (ownA4 j hj).ne hip4 (by decide)
  generalize hA0 : layL (rowsA al) 0 = A0 at *
  generalize hA1 : layL (rowsA al) 1 = A1 at *
  generalize hA2 : layL (rowsA al) 2 = A2 at *
  generalize hD0 : dfN al al.length = D0 at *
  have hlD : D0.length = al.length := by rw [← hD0, dfN_len]
  have ownD : Own (H4.set ip (pk8 (.sl (gptr od) al.length al.length) (.sl (gptr (oA 0)) A0.length A0.length) (.sl (gptr (oA 1)) A1.length A1.length) (.sl (gptr (oA 2)) A2.length A2.length) nil1 nil1 nil1 nil1)) od D0 := ((Own.of hg3).ext hresA.ext).set neD3 _
  have ownA : ∀ j, j < 3 → Own (H4.set ip (pk8 (.sl (gptr od) al.length al.length) (.sl (gptr (oA 0)) A0.length A0.length) (.sl (gptr (oA 1)) A1.length A1.length) (.sl (gptr (oA 2)) A2.length A2.length) nil1 nil1 nil1 nil1)) (oA j) (layL (rowsA al) j) := fun j hj => (ownA4 j hj).set (neA4 j hj) _
  have hipA : (H4.set ip (pk8 (.sl (gptr od) al.length al.length) (.sl (gptr (oA 0)) A0.length A0.length) (.sl (gptr (oA 1)) A1.length A1.length) (.sl (gptr (oA 2)) A2.length A2.length) nil1 nil1 nil1 nil1))[ip]? = some (pk8 (.sl (gptr od) al.length al.length) (.sl (gptr (oA 0)) A0.length A0.length) (.sl (gptr (oA 1)) A1.length A1.length) (.sl (gptr (oA 2)) A2.length A2.length) nil1 nil1 nil1 nil1) := List.getElem?_set_self (get_lt hip4)
  have hxA : Ext H2 (H4.set ip (pk8 (.sl (gptr od) al.length al.length) (.sl (gptr (oA 0)) A0.length A0.length) (.sl (gptr (oA 1)) A1.length A1.length) (.sl (gptr (oA 2)) A2.length A2.length) nil1 nil1 nil1 nil1)) := (hx3.trans hresA.ext).set (Nat.le_of_eq hipe.symm) _
  have hlA : (H4.set ip (pk8 (.sl (gptr od) al.length al.length) (.sl (gptr (oA 0)) A0.length A0.length) (.sl (gptr (oA 1)) A1.length A1.length) (.sl (gptr (oA 2)) A2.length A2.length) nil1 nil1 nil1 nil1)).length = H4.length := by simp
  clear hst4
  generalize H4.set ip (pk8 (.sl (gptr od) al.length al.length) (.sl (gptr (oA 0)) A0.length A0.length) (.sl (gptr (oA 1)) A1.length A1.length) (.sl (gptr (oA 2)) A2.length A2.length) nil1 nil1 nil1 nil1) = HA at *
  -- the gotos
  have hbA := hb.ext hxA
  obtain ⟨q', pk', ck', hq', b1, b2, b3, b4⟩ := rowI_at hbA.sg hbA.rg hgs1
  rw [hS] at b2
  have hlS : S ≤ 65 := ht.s2
  refine VW.seq (VW.reg ?_)
  refine VOps.rd rfl rfl ?_
  refine VOps.rd (v := .sl pg gs.length cg) rfl (by simp [ext_ld hxA l1]) ?_
  refine VOps.rd (v := .ptr (some (elp (some q') 0))) rfl (by simp [Fr.only, hq', b1, hgs1]) ?_
  refine VOps.rd (v := .sl pk' S ck') rfl (by simp [b2]) ?_
  refine VOps.rd rfl rfl ?_
  refine VOps.ef (v := .sl (some ⟨HA.length, 0, 0⟩) S S) (H' := HA ++ [.row 40 .own (List.replicate S [nil1])]) rfl (by simp; omega) ?_
  refine VOps.rd rfl rfl ?_
  refine VOps.nil ⟨rfl, ?_⟩
  show VW _ _ _ _ [(1, .ptr (some ⟨H.length, 0, 0⟩)), (2, .ptr (some ⟨H.length + 1, 0, 0⟩)), (4, .ptr (some ⟨ip, 0, 0⟩)), (5, .sl (some ⟨HA.length, 0, 0⟩) S S)] _ _
  clear b1 b2 b3 b4 hq' hbA
  have hrpg := rowP_nil (B0 := HA.length) (H := HA) (N := S) (rows := rowsG gs S)
  have hoffg := (OffB.refl ip HA).push [.row 40 .own (List.replicate S [nil1])]
  have hipg := get_push hipA [.row 40 .own (List.replicate S [nil1])]
  generalize HA ++ [.row 40 .own (List.replicate S [nil1])] = Hg at *
  refine VW.seq ?_
  refine VW.mono (packG hb l1 hxA hoffg hipg (Nat.le_of_eq hipe.symm) (Nat.le_refl _) (by omega) hlS (fun q hq => ht.rs q (by omega)) (fun n q hn hq => by have := mayG_range (n := al.length) (by omega) (ht.mg q (by omega) n hn); unfold gAt; omega) hrpg) ?_
  clear hrpg hoffg hipg
  rintro e F2 H5 ⟨rfl, hcov, hoff5, ot, vs5, hip5, hg5, hot5, hrp5⟩
  refine VW.sub hcov ?_
  clear hcov
  have hrlg : (rowsG gs S).length = S := by simp [rowsG]
  obtain ⟨hs5, hv5⟩ := hrp5.rowV hrlg (fun k hk => by have := rowsG_len gs S k; omega)
  have hl10 := lay10 (c := S) hs5 hv5 (by omega)
  rw [hrlg] at hl10
  refine VW.seq (VW.reg ?_)
  refine VOps.rd rfl rfl ?_
  refine VOps.call rfl rfl rfl (hl10.mono ?_)
  rintro r H6 hlr
  obtain ⟨oG, hresG, rfl⟩ := lay_res (by decide) hlr
  clear hlr hl10 hs5 hv5 hrp5
  have hip6 := hresG.ext.get hip5
  have neT5 := (Own.of hg5).ne hip5 (by decide)
  have ltT : ∀ k, ot = some k → k < H5.length := fun k e => (Own.of hg5).lt e
  have ownG6 : ∀ j, j < 3 → Own H6 (oG j) (layL (rowsG gs S) j) := fun j hj => ⟨hresG.sl j hj, hresG.wr j hj⟩
  have neG6 : ∀ j, j < 3 → oG j ≠ some ip := fun j hj => (ownG6 j hj).ne hip6 (by decide)
  have keep5 : ∀ o l, Own HA o l → o ≠ some ip → Own H5 o l := fun o l ho hne => ho.keep fun k e => hoff5.2 k (ho.lt e) (fun e2 => hne (by rw [e, e2]))
  have ownD6 := (keep5 _ _ ownD neD3).ext hresG.ext
  have ownA6 : ∀ j, j < 3 → Own H6 (oA j) (layL (rowsA al) j) := fun j hj => (keep5 _ _ (ownA j hj) (neA4 j hj)).ext hresG.ext
  have ownT6 := (Own.of hg5).ext hresG.ext
  have hx26 : Ext H2 H6 := (hoff5.ext hxA (Nat.le_of_eq hipe.symm)).trans hresG.ext
  generalize hG0 : layL (rowsG gs S) 0 = G0 at *
  generalize hG1 : layL (rowsG gs S) 1 = G1 at *
  generalize hG2 : layL (rowsG gs S) 2 = G2 at *
  generalize hT0 : tgN gs S = T0 at *
  have hlT : T0.length = S := by rw [← hT0, tgN_len]
  have hst6 : stc H6 ⟨ip, 0, 5⟩ (resA oG (rowsG gs S)) = some (H6.set ip (pk8 (.sl (gptr od) al.length al.length) (.sl (gptr (oA 0)) A0.length A0.length) (.sl (gptr (oA 1)) A1.length A1.length) (.sl (gptr (oA 2)) A2.length A2.length) (.sl (gptr ot) S S) (.sl (gptr (oG 0)) G0.length G0.length) (.sl (gptr (oG 1)) G1.length G1.length) (.sl (gptr (oG 2)) G2.length G2.length))) := by
    have hk : okCells (resA oG (rowsG gs S)) = true := rfl
    simp only [stc, hip6, hk]
    simp [upd, resA, hG0, hG1, hG2]
  refine VOps.rd rfl rfl ?_
  refine VOps.rd rfl rfl ?_
  refine VOps.rd rfl rfl ?_
  refine VOps.rd rfl rfl ?_
  refine VOps.ef (v := .undef) rfl (by simp only [VEf.ev, Od.ev, Fr.pt, Fr.get, reduceIte, Nat.reduceEqDiff, VV.defd, VV.cells, hst6]; simp; rfl) ?_
  refine VOps.nil ⟨rfl, ?_⟩
  show VW _ _ _ _ [(2, .ptr (some ⟨H.length + 1, 0, 0⟩)), (4, .ptr (some ⟨ip, 0, 0⟩))] _ _
  have hr6 := hx26.get hr1
  have hjp : ip ≠ H.length + 1 := by omega
  generalize hnb : pk8 (.sl (gptr od) al.length al.length) (.sl (gptr (oA 0)) A0.length A0.length) (.sl (gptr (oA 1)) A1.length A1.length) (.sl (gptr (oA 2)) A2.length A2.length) (.sl (gptr ot) S S) (.sl (gptr (oG 0)) G0.length G0.length) (.sl (gptr (oG 1)) G1.length G1.length) (.sl (gptr (oG 2)) G2.length G2.length) = nb at *
  have hip7 : (H6.set ip nb)[ip]? = some nb := List.getElem?_set_self (get_lt hip6)
  have hr7 : (H6.set ip nb)[H.length + 1]? = some (pk8 nil1 nil1 nil1 nil1 nil1 nil1 nil1 nil1) := by rw [List.getElem?_set_ne hjp]; exact hr6
  have keep8 : ∀ o l, Own H6 o l → o ≠ some ip → Own ((H6.set ip nb).set (H.length + 1) nb) o l := fun o l ho hne => (ho.set hne nb).set ((ho.set hne nb).ne hr7 (by decide)) nb
  rw [← hnb] at hip7
  have l8 := lds_own hip7 0 8
  simp only [List.length_cons, List.length_nil, Nat.zero_add, Nat.le_refl, if_true, List.drop_zero, List.take_succ_cons, List.take_zero] at l8
  rw [hnb] at l8
  have hst8 : stc (H6.set ip nb) ⟨H.length + 1, 0, 0⟩ [.sl (gptr od) al.length al.length, .sl (gptr (oA 0)) A0.length A0.length, .sl (gptr (oA 1)) A1.length A1.length, .sl (gptr (oA 2)) A2.length A2.length, .sl (gptr ot) S S, .sl (gptr (oG 0)) G0.length G0.length, .sl (gptr (oG 1)) G1.length G1.length, .sl (gptr (oG 2)) G2.length G2.length] = some ((H6.set ip nb).set (H.length + 1) nb) := by
    simp only [stc, hr7]
    rw [← hnb]
    simp [upd, okCells, VV.cell]
  have hj8 : H.length + 1 < (H6.set ip nb).length := by have := hx26.1; simp; omega
  have hx8 : Ext H ((H6.set ip nb).set (H.length + 1) nb) := ((hx1.trans hx26).set (by omega) nb).set (by omega) nb
  have hfin : ((H6.set ip nb).set (H.length + 1) nb)[H.length + 1]? = some nb := List.getElem?_set_self hj8
  rw [← hnb] at hfin
  have lf := lds_own hfin 0 8
  simp only [List.length_cons, List.length_nil, Nat.zero_add, Nat.le_refl, if_true, List.drop_zero, List.take_succ_cons, List.take_zero] at lf
  rw [hnb] at lf
  refine VW.seq (VW.reg ?_)
  refine VOps.rd (v := .agg [.sl (gptr od) al.length al.length, .sl (gptr (oA 0)) A0.length A0.length, .sl (gptr (oA 1)) A1.length A1.length, .sl (gptr (oA 2)) A2.length A2.length, .sl (gptr ot) S S, .sl (gptr (oG 0)) G0.length G0.length, .sl (gptr (oG 1)) G1.length G1.length, .sl (gptr (oG 2)) G2.length G2.length]) rfl (by simp [l8]) ?_
  refine VOps.ef (v := .undef) (H' := (H6.set ip nb).set (H.length + 1) nb) rfl (by simp [hst8]) ?_
  refine VOps.rd rfl rfl ?_
  have hHl := hx3.1
  have hH34 := hresA.ext.1
  have hH5 := hoff5.1
  have hH56 := hresG.ext.1
  refine VOps.nil ⟨rfl, VW.ret ⟨.inl rfl, .tup [.agg [.sl (gptr od) al.length al.length, .sl (gptr (oA 0)) A0.length A0.length, .sl (gptr (oA 1)) A1.length A1.length, .sl (gptr (oA 2)) A2.length A2.length, .sl (gptr ot) S S, .sl (gptr (oG 0)) G0.length G0.length, .sl (gptr (oG 1)) G1.length G1.length, .sl (gptr (oG 2)) G2.length G2.length], .int .i64 0], ?_,
    fun j => match j with | 0 => od | 1 => oA 0 | 2 => oA 1 | 3 => oA 2 | 4 => ot | 5 => oG 0 | 6 => oG 1 | 7 => oG 2 | _ => none, ⟨hx8, fun j hj => ?_, fun j hj k hk => ?_, ?_⟩, ?_⟩⟩
  · simp [resV, resL, Fr.only, lf]
  · match j, hj with
    | 0, _ => rw [e0]; exact keep8 _ _ ownD6 neD3
    | 1, _ => rw [e1, ← hA0]; exact keep8 _ _ (ownA6 0 (by omega)) (neA4 0 (by omega))
    | 2, _ => rw [e2, ← hA1]; exact keep8 _ _ (ownA6 1 (by omega)) (neA4 1 (by omega))
    | 3, _ => rw [e3, ← hA2]; exact keep8 _ _ (ownA6 2 (by omega)) (neA4 2 (by omega))
    | 4, _ => rw [e4]; exact keep8 _ _ ownT6 neT5
    | 5, _ => rw [e5, ← hG0]; exact keep8 _ _ (ownG6 0 (by omega)) (neG6 0 (by omega))
    | 6, _ => rw [e6, ← hG1]; exact keep8 _ _ (ownG6 1 (by omega)) (neG6 1 (by omega))
    | 7, _ => rw [e7, ← hG2]; exact keep8 _ _ (ownG6 2 (by omega)) (neG6 2 (by omega))
  · match j, hj with
    | 0, _ => have := hod3 k hk; omega
    | 1, _ => have := hresA.lo 0 (by omega) k hk; omega
    | 2, _ => have := hresA.lo 1 (by omega) k hk; omega
    | 3, _ => have := hresA.lo 2 (by omega) k hk; omega
    | 4, _ => have := hot5 k hk; omega
    | 5, _ => have := hresG.lo 0 (by omega) k hk; omega
    | 6, _ => have := hresG.lo 1 (by omega) k hk; omega
    | 7, _ => have := hresG.lo 2 (by omega) k hk; omega
  · refine ne8 (a1 := H3.length) (a2 := HA.length) (a3 := H5.length) (fun k e => ltD k e) (fun j h1 h3 k e => ?_) (fun k e => ⟨hot5 k e, ltT k e⟩) (fun j h1 h3 k e => ?_) (by omega) (by omega) (fun j j' h1 h2 h3 h4 hne k e => ?_) (fun j j' h1 h2 h3 h4 hne k e => ?_)
    · have c : j = 1 ∨ j = 2 ∨ j = 3 := by omega
      rw [hlA]
      rcases c with rfl | rfl | rfl
      · exact ⟨hresA.lo 0 (by omega) k e, hresA.hi 0 (by omega) k e⟩
      · exact ⟨hresA.lo 1 (by omega) k e, hresA.hi 1 (by omega) k e⟩
      · exact ⟨hresA.lo 2 (by omega) k e, hresA.hi 2 (by omega) k e⟩
    · have c : j = 5 ∨ j = 6 ∨ j = 7 := by omega
      rcases c with rfl | rfl | rfl
      · exact hresG.lo 0 (by omega) k e
      · exact hresG.lo 1 (by omega) k e
      · exact hresG.lo 2 (by omega) k e
    · have c : j = 1 ∨ j = 2 ∨ j = 3 := by omega
      have c' : j' = 1 ∨ j' = 2 ∨ j' = 3 := by omega
      rcases c with rfl | rfl | rfl <;> rcases c' with rfl | rfl | rfl
      · exact absurd rfl hne
      · exact hresA.ne 0 1 (by omega) (by omega) (by omega) k e
      · exact hresA.ne 0 2 (by omega) (by omega) (by omega) k e
      · exact hresA.ne 1 0 (by omega) (by omega) (by omega) k e
      · exact absurd rfl hne
      · exact hresA.ne 1 2 (by omega) (by omega) (by omega) k e
      · exact hresA.ne 2 0 (by omega) (by omega) (by omega) k e
      · exact hresA.ne 2 1 (by omega) (by omega) (by omega) k e
      · exact absurd rfl hne
    · have c : j = 5 ∨ j = 6 ∨ j = 7 := by omega
      have c' : j' = 5 ∨ j' = 6 ∨ j' = 7 := by omega
      rcases c with rfl | rfl | rfl <;> rcases c' with rfl | rfl | rfl
      · exact absurd rfl hne
      · exact hresG.ne 0 1 (by omega) (by omega) (by omega) k e
      · exact hresG.ne 0 2 (by omega) (by omega) (by omega) k e
      · exact hresG.ne 1 0 (by omega) (by omega) (by omega) k e
      · exact absurd rfl hne
      · exact hresG.ne 1 2 (by omega) (by omega) (by omega) k e
      · exact hresG.ne 2 0 (by omega) (by omega) (by omega) k e
      · exact hresG.ne 2 1 (by omega) (by omega) (by omega) k e
      · exact absurd rfl hne
  · unfold pkA
    rw [e0, e1, e2, e3, e4, e5, e6, e7, hE, hlD, hlT]
    rfl
end
end Go.Proofs.Ytlclbfkdaemilaa

/- The document's Pack: the two loops over one state's actions. -/
namespace Go.Proofs.Ytlclbfkdaemilaa
set_option linter.unusedSimpArgs false
set_option linter.unusedVariables false
open Go Go.Vm Go.Proofs
set_option maxRecDepth 100000
set_option maxHeartbeats 4000000

theorem sl_edge1 {H : Hp} {q : PA} {l : Edges} (h : Sl H (some q) 2 (edgeEs l)) {k : Nat} (hk : k < l.length) : Vm.ld H ⟨q.blk, q.idx + k, 1⟩ = some (.int .i64 (l.getD k (0, 0)).2) :=
  h.ld (edgeEs_get hk) 1
theorem GrowR.ext {H H' : Hp} {t : TypeId} {z : Nat} {i : Option Nat} {es : List (List VV)} (h : GrowR H t z i es) (hx : Ext H H') : GrowR H' t z i es := h.keep fun k e => hx.2 k (h.lt e)
theorem Grow.ext {H H' : Hp} {x : VV} {i : Option Nat} {l : List Int} (h : Grow H x i l) (hx : Ext H H') : Grow H' x i l := h.keep fun k e => by subst e; exact hx.2 k (get_lt h.2.1)

section
variable {B : Nat} {Hb H : Hp} {v2 v4 v5 : VV} {j N q T ca ck : Nat} {m : Int} {l : Edges} {pa pk : Option PA}
theorem refA_by (l0 : ld Hb ⟨j, 0, 0⟩ = some (.sl pa N ca)) (hx0 : Ext Hb H) {pq : PA} (hpq : pa = some pq) (a1 : Vm.ixp Hb pq q 1 = some (elp (some pq) q)) (a2 : Vm.ld Hb (elp (some pq) q) = some (.sl pk l.length ck)) (a3 : Sl Hb pk 2 (edgeEs l)) (hq : q < N) (hT : l.length ≤ 65) :
    VW Try.prog B 193 (VC.l (VC.r (VC.l (VC.l (VC.r (VC.l (VC.l (VC.r (VC.l (VC.r (VC.r (VC.r (VC.r w24.vc)))))))))))))
      [(1, .ptr (some ⟨j, 0, 0⟩)), (2, v2), (4, v4), (5, v5), (6, .int .i64 q), (7, .sl none 0 0)] H
      fun e F2 H' => e = .normal ∧ ∃ o, Cov [(1, .ptr (some ⟨j, 0, 0⟩)), (2, v2), (4, v4), (5, v5), (6, .int .i64 q), (7, .sl (gptr o) (keysOf (fun k => (l.getD k (0, 0)).2) (fun k => (l.getD k (0, 0)).1 == 2) l.length).length (keysOf (fun k => (l.getD k (0, 0)).2) (fun k => (l.getD k (0, 0)).1 == 2) l.length).length)] F2 ∧ Ext H H' ∧
        Sl H' (gptr o) 1 (intEs (keysOf (fun k => (l.getD k (0, 0)).2) (fun k => (l.getD k (0, 0)).1 == 2) l.length)) := by
  dsimp only [w24, VC.l, VC.r]
  generalize hkey : (fun k => (l.getD k (0, 0)).2) = key
  generalize hok : (fun k => (l.getD k (0, 0)).1 == 2) = ok
  refine VW.seq (VW.reg ?_)
  refine VOps.rd rfl rfl ?_
  refine VOps.nil ⟨rfl, ?_⟩
  show VW _ _ _ _ [(1, .ptr (some ⟨j, 0, 0⟩)), (2, v2), (4, v4), (5, v5), (6, .int .i64 q), (7, .sl none 0 0), (8, .int .i64 0)] _ _
  refine VW.block ?_
  refine VW.loop (fun m' F' H' => ∃ (t : Nat) (o : Option Nat), t ≤ l.length ∧ m' = l.length - t ∧ Cov [(1, .ptr (some ⟨j, 0, 0⟩)), (2, v2), (4, v4), (5, v5), (6, .int .i64 q), (7, .sl (gptr o) (keysOf key ok t).length (keysOf key ok t).length), (8, .int .i64 t)] F' ∧ Ext H H' ∧
      Grow H' (.sl (gptr o) (keysOf key ok t).length (keysOf key ok t).length) o (keysOf key ok t) ∧ ∀ b, o = some b → H.length ≤ b) l.length
    ⟨0, none, by omega, rfl, by simp [Cov, Fr.only, keysOf, gptr], .refl _, ⟨rfl, rfl⟩, fun b e => by cases e⟩ ?_
  rintro m' F' H2 ⟨t, o, ht, rfl, hcov, hx, hg, hlo⟩
  refine VW.sub hcov ?_
  clear hcov
  have hx2 := hx0.trans hx
  have n0 := ext_ld hx2 l0
  have n1 := ext_ixp hx2 a1
  have n2 := ext_ld hx2 a2
  have n3 := hx2.sl a3
  refine VW.seq (VW.seq (VW.reg ?_))
  refine VOps.rd rfl rfl ?_
  refine VOps.rd rfl rfl ?_
  refine VOps.rd (v := .sl pa N ca) rfl (by simp [n0]) ?_
  refine VOps.rd rfl rfl ?_
  refine VOps.rd (v := .ptr (some (elp (some pq) q))) rfl (by simp [hpq, n1, hq]) ?_
  refine VOps.rd (v := .sl pk l.length ck) rfl (by simp [n2]) ?_
  refine VOps.rd rfl rfl ?_
  refine VOps.rd rfl rfl ?_
  refine VOps.nil ⟨rfl, ?_⟩
  by_cases hlt : t < l.length
  · have hvt := wrap_id (x := (t : Int) + 1) (by omega) (by omega)
    obtain ⟨r, hr, r1, r2, r3, r4⟩ := sl_edge n3 (k := t) hlt
    subst hr
    have r5 := sl_edge1 n3 hlt
    have hke : (l.getD t (0, 0)).2 = key t := by rw [← hkey]
    have hoe : ((l.getD t (0, 0)).1 == 2) = ok t := by rw [← hok]
    have hstep : keysOf key ok (t + 1) = keysOf key ok t ++ keyStep key ok t := rfl
    have hln := keysOf_len key ok t
    rw [hke] at r5
    generalize (l.getD t (0, 0)).1 = a at *
    refine VW.condT (by simp [Fr.only, hlt]) (VW.skip ?_)
    show VW _ _ _ _ [(1, .ptr (some ⟨j, 0, 0⟩)), (2, v2), (4, v4), (5, v5), (6, .int .i64 q), (7, .sl (gptr o) (keysOf key ok t).length (keysOf key ok t).length), (8, .int .i64 t), (37, _)] _ _
    have leave : ∀ F H5 o', Cov [(1, .ptr (some ⟨j, 0, 0⟩)), (2, v2), (4, v4), (5, v5), (6, .int .i64 q), (7, .sl (gptr o') (keysOf key ok (t + 1)).length (keysOf key ok (t + 1)).length), (8, .int .i64 t)] F → Ext H H5 →
        Grow H5 (.sl (gptr o') (keysOf key ok (t + 1)).length (keysOf key ok (t + 1)).length) o' (keysOf key ok (t + 1)) → (∀ b, o' = some b → H.length ≤ b) →
        VW Try.prog B 193 (VC.reg [VI.rd 38 none (VOp.mv (Od.t 8)), VI.rd 39 none (VOp.bin (BinOp.add) (Od.t 38) (Od.c (VV.int (IntKind.i64) 1))), VI.rd 8 none (VOp.mv (Od.t 39))] [1, 2, 4, 5, 6, 7, 8]) F H5
          fun e F2 H' => e = .normal ∧ ∃ m', m' < l.length - t ∧ ∃ (t : Nat) (o : Option Nat), t ≤ l.length ∧ m' = l.length - t ∧ Cov [(1, .ptr (some ⟨j, 0, 0⟩)), (2, v2), (4, v4), (5, v5), (6, .int .i64 q), (7, .sl (gptr o) (keysOf key ok t).length (keysOf key ok t).length), (8, .int .i64 t)] F2 ∧ Ext H H' ∧
            Grow H' (.sl (gptr o) (keysOf key ok t).length (keysOf key ok t).length) o (keysOf key ok t) ∧ ∀ b, o = some b → H.length ≤ b := by
      intro F H5 o' hc g1 g2 g3
      refine VW.sub hc (VW.reg ?_)
      refine VOps.rd rfl rfl ?_
      refine VOps.rd rfl rfl ?_
      refine VOps.rd rfl rfl ?_
      exact VOps.nil ⟨rfl, rfl, l.length - (t + 1), by omega, t + 1, o', by omega, rfl, by simp [Cov, Fr.only, hvt], g1, g2, g3⟩
    refine VW.seq (VW.block (VW.seq (VW.reg ?_)))
    refine VOps.rd rfl rfl ?_
    refine VOps.rd (v := .sl pa N ca) rfl (by simp [n0]) ?_
    refine VOps.rd rfl rfl ?_
    refine VOps.rd (v := .ptr (some (elp (some pq) q))) rfl (by simp [hpq, n1, hq]) ?_
    refine VOps.rd (v := .sl (some r) l.length ck) rfl (by simp [n2]) ?_
    refine VOps.rd rfl rfl ?_
    refine VOps.rd (v := .ptr (some (elp (some r) t))) rfl (by simp [r1, hlt]) ?_
    refine VOps.rd (v := .ptr (some (elp (some r) t))) rfl rfl ?_
    refine VOps.rd (v := .int .i64 a) rfl (by simp [r2]) ?_
    refine VOps.rd (v := .bool (ok t)) rfl (by simp; exact hoe) ?_
    refine VOps.nil ⟨rfl, ?_⟩
    refine VW.cond rfl (fun cy => ?_) (fun cy => ?_)
    · unfold keyStep at hstep
      rw [if_pos cy] at hstep
      obtain ⟨p1, p2, p3⟩ := hg.push (by omega) (key t)
      have hlen : (keysOf key ok t).length + 1 = (keysOf key ok (t + 1)).length := by rw [hstep]; simp
      rw [← hstep, hlen] at p2 p3
      refine VW.reg ?_
      refine VOps.rd rfl rfl ?_
      refine VOps.rd rfl rfl ?_
      refine VOps.rd (v := .sl pa N ca) rfl (by simp [Fr.only, n0]) ?_
      refine VOps.rd rfl rfl ?_
      refine VOps.rd (v := .ptr (some (elp (some pq) q))) rfl (by simp [Fr.only, hpq, n1, hq]) ?_
      refine VOps.rd (v := .sl (some r) l.length ck) rfl (by simp [n2]) ?_
      refine VOps.rd rfl rfl ?_
      refine VOps.rd (v := .ptr (some (elp (some r) t))) rfl (by simp [Fr.only, r1, hlt]) ?_
      refine VOps.rd (v := .ptr (some ⟨r.blk, r.idx + t, 1⟩)) rfl rfl ?_
      refine VOps.rd (v := .int .i64 (key t)) rfl (by simp [r5]) ?_
      refine VOps.ef (v := .sl (some ⟨H2.length, 0, 0⟩) 1 1) (H' := H2 ++ [.row 3 .own [[.int .i64 (key t)]]]) rfl rfl ?_
      refine VOps.ef rfl (by simp [Fr.only, p1, p2]; exact ⟨rfl, rfl⟩) ?_
      refine VOps.rd rfl rfl ?_
      refine VOps.nil ⟨rfl, ?_⟩
      have hxl := hx.1
      refine VW.mono (leave _ _ (some (H2.length + 1)) (by simp [Cov, Fr.only, gptr]) ((Ext.kill (hx.push _) hlo).push _) p3 (fun b e => by cases e; omega)) ?_
      rintro e F3 H6 ⟨rfl, hh⟩
      exact hh
    · unfold keyStep at hstep
      rw [if_neg (by simp [cy]), List.append_nil] at hstep
      rw [← hstep] at hg
      refine VW.skip ?_
      refine VW.mono (leave _ _ o (by rw [hstep]; simp [Cov, Fr.only]) hx hg hlo) ?_
      rintro e F3 H6 ⟨rfl, hh⟩
      exact hh
  · have : t = l.length := by omega
    subst this
    refine VW.condF (by simp [Fr.only]) (VW.exit ?_)
    simp only [then_normal, then_ret, then_exit, inB_normal, inB_ret, inB_exit, reduceIte, Nat.reduceEqDiff]
    exact ⟨trivial, o, by simp [Cov, Fr.only], hx, hg.sl⟩
theorem refA_row (l0 : ld Hb ⟨j, 0, 0⟩ = some (.sl pa N ca)) (hx0 : Ext Hb H) {pq : PA} (hpq : pa = some pq) (a1 : Vm.ixp Hb pq q 1 = some (elp (some pq) q)) (a2 : Vm.ld Hb (elp (some pq) q) = some (.sl pk l.length ck)) (a3 : Sl Hb pk 2 (edgeEs l)) (hq : q < N) (hT : l.length ≤ 65)
    (hval : ∀ k, k < l.length → 0 ≤ (l.getD k (0, 0)).2 ∧ (l.getD k (0, 0)).2 ≤ 1000) :
    VW Try.prog B 193 (VC.l (VC.r (VC.r (VC.r (VC.r (VC.r (VC.l (VC.l (VC.r (VC.l (VC.l (VC.r (VC.l (VC.r (VC.r (VC.r (VC.r w24.vc)))))))))))))))))
      [(1, .ptr (some ⟨j, 0, 0⟩)), (2, v2), (4, v4), (5, v5), (6, .int .i64 q), (9, .int .i64 m), (10, .sl none 0 0)] H
      fun e F2 H' => e = .normal ∧ ∃ o, Cov [(1, .ptr (some ⟨j, 0, 0⟩)), (2, v2), (4, v4), (5, v5), (6, .int .i64 q), (10, .sl (gptr o) (rowAn l m l.length).length (rowAn l m l.length).length)] F2 ∧ Ext H H' ∧
        GrowR H' 42 2 o (edgeEs (rowAn l m l.length)) ∧ ∀ b, o = some b → H.length ≤ b := by
  dsimp only [w24, VC.l, VC.r]
  refine VW.seq (VW.reg ?_)
  refine VOps.rd rfl rfl ?_
  refine VOps.nil ⟨rfl, ?_⟩
  show VW _ _ _ _ [(1, .ptr (some ⟨j, 0, 0⟩)), (2, v2), (4, v4), (5, v5), (6, .int .i64 q), (9, .int .i64 m), (10, .sl none 0 0), (11, .int .i64 0)] _ _
  refine VW.block ?_
  refine VW.loop (fun m' F' H' => ∃ (t : Nat) (o : Option Nat), t ≤ l.length ∧ m' = l.length - t ∧ Cov [(1, .ptr (some ⟨j, 0, 0⟩)), (2, v2), (4, v4), (5, v5), (6, .int .i64 q), (9, .int .i64 m), (10, .sl (gptr o) (rowAn l m t).length (rowAn l m t).length), (11, .int .i64 t)] F' ∧ Ext H H' ∧
      GrowR H' 42 2 o (edgeEs (rowAn l m t)) ∧ ∀ b, o = some b → H.length ≤ b) l.length
    ⟨0, none, by omega, rfl, by simp [Cov, Fr.only, rowAn, gptr], .refl _, rfl, fun b e => by cases e⟩ ?_
  rintro m' F' H2 ⟨t, o, ht, rfl, hcov, hx, hg, hlo⟩
  refine VW.sub hcov ?_
  clear hcov
  have hx2 := hx0.trans hx
  have n0 := ext_ld hx2 l0
  have n1 := ext_ixp hx2 a1
  have n2 := ext_ld hx2 a2
  have n3 := hx2.sl a3
  refine VW.seq (VW.seq (VW.reg ?_))
  refine VOps.rd rfl rfl ?_
  refine VOps.rd rfl rfl ?_
  refine VOps.rd (v := .sl pa N ca) rfl (by simp [n0]) ?_
  refine VOps.rd rfl rfl ?_
  refine VOps.rd (v := .ptr (some (elp (some pq) q))) rfl (by simp [hpq, n1, hq]) ?_
  refine VOps.rd (v := .sl pk l.length ck) rfl (by simp [n2]) ?_
  refine VOps.rd rfl rfl ?_
  refine VOps.rd rfl rfl ?_
  refine VOps.nil ⟨rfl, ?_⟩
  by_cases hlt : t < l.length
  · have hvt := wrap_id (x := (t : Int) + 1) (by omega) (by omega)
    obtain ⟨r, hr, r1, r2, r3, r4⟩ := sl_edge n3 (k := t) hlt
    subst hr
    obtain ⟨w1, w2⟩ := hval t hlt
    have hstep : rowAn l m (t + 1) = rowAn l m t ++ (if keepA m (l.getD t (0, 0)) = true then [((t : Int), codeS (l.getD t (0, 0)).1 (l.getD t (0, 0)).2)] else []) := rfl
    have hrl := rowAn_len l m t
    generalize l.getD t (0, 0) = ab at *
    obtain ⟨a, b⟩ := ab
    simp only at w1 w2 r2 r3 hstep
    have hs2 := stc_last2 (H := H2) (t := 46) (md := .own) (by decide) (a := .int .i64 0) (b := .int .i64 0) (c := .int .i64 a) (d := .int .i64 b) rfl rfl
    refine VW.condT (by simp [Fr.only, hlt]) (VW.skip ?_)
    show VW _ _ _ _ [(1, .ptr (some ⟨j, 0, 0⟩)), (2, v2), (4, v4), (5, v5), (6, .int .i64 q), (9, .int .i64 m), (10, .sl (gptr o) (rowAn l m t).length (rowAn l m t).length), (11, .int .i64 t), (77, _)] _ _
    have leave : ∀ F H5 o', Cov [(1, .ptr (some ⟨j, 0, 0⟩)), (2, v2), (4, v4), (5, v5), (6, .int .i64 q), (9, .int .i64 m), (10, .sl (gptr o') (rowAn l m (t + 1)).length (rowAn l m (t + 1)).length), (11, .int .i64 t)] F → Ext H H5 →
        GrowR H5 42 2 o' (edgeEs (rowAn l m (t + 1))) → (∀ b, o' = some b → H.length ≤ b) →
        VW Try.prog B 193 (VC.reg [VI.rd 78 none (VOp.mv (Od.t 11)), VI.rd 79 none (VOp.bin (BinOp.add) (Od.t 78) (Od.c (VV.int (IntKind.i64) 1))), VI.rd 11 none (VOp.mv (Od.t 79))] [1, 2, 4, 5, 6, 9, 10, 11]) F H5
          fun e F2 H' => e = .normal ∧ ∃ m', m' < l.length - t ∧ ∃ (t : Nat) (o : Option Nat), t ≤ l.length ∧ m' = l.length - t ∧ Cov [(1, .ptr (some ⟨j, 0, 0⟩)), (2, v2), (4, v4), (5, v5), (6, .int .i64 q), (9, .int .i64 m), (10, .sl (gptr o) (rowAn l m t).length (rowAn l m t).length), (11, .int .i64 t)] F2 ∧ Ext H H' ∧
            GrowR H' 42 2 o (edgeEs (rowAn l m t)) ∧ ∀ b, o = some b → H.length ≤ b := by
      intro F H5 o' hc g1 g2 g3
      refine VW.sub hc (VW.reg ?_)
      refine VOps.rd rfl rfl ?_
      refine VOps.rd rfl rfl ?_
      refine VOps.rd rfl rfl ?_
      exact VOps.nil ⟨rfl, rfl, l.length - (t + 1), by omega, t + 1, o', by omega, rfl, by simp [Cov, Fr.only, hvt], g1, g2, g3⟩
    generalize rowAn l m t = rw0 at *
    refine VW.seq (VW.block (VW.seq (VW.reg ?_)))
    refine VOps.rd rfl rfl ?_
    refine VOps.rd (v := .sl pa N ca) rfl (by simp [n0]) ?_
    refine VOps.rd rfl rfl ?_
    refine VOps.rd (v := .ptr (some (elp (some pq) q))) rfl (by simp [hpq, n1, hq]) ?_
    refine VOps.rd (v := .sl (some r) l.length ck) rfl (by simp [n2]) ?_
    refine VOps.rd rfl rfl ?_
    refine VOps.rd (v := .ptr (some (elp (some r) t))) rfl (by simp [r1, hlt]) ?_
    refine VOps.rd (v := .agg [.int .i64 a, .int .i64 b]) rfl (by simp [r3]) ?_
    refine VOps.ef (v := .ptr (some ⟨H2.length, 0, 0⟩)) (H' := H2 ++ [.row 46 .own [[.int .i64 0, .int .i64 0]]]) rfl (by simp) ?_
    refine VOps.ef (v := .undef) (H' := H2 ++ [.row 46 .own [[.int .i64 a, .int .i64 b]]]) rfl (by simp [hs2]) ?_
    refine VOps.nil ⟨rfl, ?_⟩
    show VW _ _ _ _ [(1, .ptr (some ⟨j, 0, 0⟩)), (2, v2), (4, v4), (5, v5), (6, .int .i64 q), (9, .int .i64 m), (10, .sl (gptr o) rw0.length rw0.length), (11, .int .i64 t), (12, .ptr (some ⟨H2.length, 0, 0⟩))] _ _
    have hbx : (H2 ++ [Blk.row 46 .own [[.int .i64 a, .int .i64 b]]])[H2.length]? = some (.row 46 .own [[.int .i64 a, .int .i64 b]]) := by simp
    replace hg := hg.ext (Ext.app H2 [.row 46 .own [[.int .i64 a, .int .i64 b]]])
    replace hx := hx.push [.row 46 .own [[.int .i64 a, .int .i64 b]]]
    clear hs2 r1 r2 r3 r4 n0 n1 n2 n3 hx2
    generalize H2 ++ [.row 46 .own [[.int .i64 a, .int .i64 b]]] = H3 at *
    generalize H2.length = ib at *
    have la0 := ld_own hbx 0
    have la1 := ld_own hbx 1
    have la2 := lds_own hbx 0 2
    simp only [List.getElem?_cons_zero, List.getElem?_cons_succ] at la0 la1
    simp only [List.length_cons, List.length_nil, Nat.zero_add, Nat.le_refl, if_true, List.drop_zero, List.take_succ_cons, List.take_zero] at la2
    clear hbx
    refine VW.seq ?_
    refine VW.mono (Q := fun e F2 H' => e = .normal ∧ Cov [(1, .ptr (some ⟨j, 0, 0⟩)), (2, v2), (4, v4), (5, v5), (6, .int .i64 q), (9, .int .i64 m), (10, .sl (gptr o) rw0.length rw0.length), (11, .int .i64 t), (12, .ptr (some ⟨ib, 0, 0⟩)), (101, .bool (keepA m (a, b)))] F2 ∧ H' = H3) ?_ ?_
    · clear hstep hrl hg hx hlo hvt hlt w1 w2 ht hx0 hT hval hq la2 leave l0 a1 a2 a3
      unfold keepA
      by_cases g1 : a = 0
      · subst g1
        repeat first
          | (apply VOps.rd; (focus (first | exact rfl | (simp [Fr.only, argsF, *]; done))); (focus (exact rfl)))
          | (apply VOps.sk; (focus (simp [Fr.only, argsF, *]; done)))
          | (apply VOps.rd; (focus (first | exact rfl | (simp [Fr.only, argsF, *]; done))); (focus (simp [Fr.only, argsF, *]; first | done | exact rfl)))
          | (apply VOps.ef; (focus (first | exact rfl | (simp [Fr.only, argsF, *]; done))); (focus (simp [Fr.only, argsF, *]; first | done | exact rfl | exact ⟨rfl, rfl⟩)))
          | (apply VOps.fin; (focus (simp only [Fr.only, Fr.get, Fr.pt, reduceIte, Nat.reduceEqDiff]; first | done | exact rfl)))
          | refine VW.seq ?_
          | refine VW.reg ?_
          | refine VW.block ?_
          | refine VW.skip ?_
          | refine VW.exit ?_
          | refine VW.ret ?_
          | (apply VW.condT; (focus (first | exact rfl | (simp [Fr.only, argsF, *]; done))))
          | (apply VW.condF; (focus (first | exact rfl | (simp [Fr.only, argsF, *]; done))))
          | (simp only [then_normal, then_ret, then_exit, inB_normal, inB_ret, inB_exit, reduceIte, Nat.reduceEqDiff])
        exact ⟨trivial, by simp [Cov, Fr.only], trivial⟩
      · by_cases g2 : a = 2
        · subst g2
          repeat first
            | (apply VOps.rd; (focus (first | exact rfl | (simp [Fr.only, argsF, *]; done))); (focus (exact rfl)))
            | (apply VOps.sk; (focus (simp [Fr.only, argsF, *]; done)))
            | (apply VOps.rd; (focus (first | exact rfl | (simp [Fr.only, argsF, *]; done))); (focus (simp [Fr.only, argsF, *]; first | done | exact rfl)))
            | (apply VOps.ef; (focus (first | exact rfl | (simp [Fr.only, argsF, *]; done))); (focus (simp [Fr.only, argsF, *]; first | done | exact rfl | exact ⟨rfl, rfl⟩)))
            | (apply VOps.fin; (focus (simp only [Fr.only, Fr.get, Fr.pt, reduceIte, Nat.reduceEqDiff]; first | done | exact rfl)))
            | refine VW.seq ?_
            | refine VW.reg ?_
            | refine VW.block ?_
            | refine VW.skip ?_
            | refine VW.exit ?_
            | refine VW.ret ?_
            | (apply VW.condT; (focus (first | exact rfl | (simp [Fr.only, argsF, *]; done))))
            | (apply VW.condF; (focus (first | exact rfl | (simp [Fr.only, argsF, *]; done))))
            | (simp only [then_normal, then_ret, then_exit, inB_normal, inB_ret, inB_exit, reduceIte, Nat.reduceEqDiff])
          exact ⟨trivial, by simp [Cov, Fr.only], trivial⟩
        · have g1' : (a != 0) = true := by simp [g1]
          have g2' : (a != 2) = true := by simp [g2]
          repeat first
            | (apply VOps.rd; (focus (first | exact rfl | (simp [Fr.only, argsF, *]; done))); (focus (exact rfl)))
            | (apply VOps.sk; (focus (simp [Fr.only, argsF, *]; done)))
            | (apply VOps.rd; (focus (first | exact rfl | (simp [Fr.only, argsF, *]; done))); (focus (simp [Fr.only, argsF, *]; first | done | exact rfl)))
            | (apply VOps.ef; (focus (first | exact rfl | (simp [Fr.only, argsF, *]; done))); (focus (simp [Fr.only, argsF, *]; first | done | exact rfl | exact ⟨rfl, rfl⟩)))
            | (apply VOps.fin; (focus (simp only [Fr.only, Fr.get, Fr.pt, reduceIte, Nat.reduceEqDiff]; first | done | exact rfl)))
            | refine VW.seq ?_
            | refine VW.reg ?_
            | refine VW.block ?_
            | refine VW.skip ?_
            | refine VW.exit ?_
            | refine VW.ret ?_
            | (apply VW.condT; (focus (first | exact rfl | (simp [Fr.only, argsF, *]; done))))
            | (apply VW.condF; (focus (first | exact rfl | (simp [Fr.only, argsF, *]; done))))
            | (simp only [then_normal, then_ret, then_exit, inB_normal, inB_ret, inB_exit, reduceIte, Nat.reduceEqDiff])
          exact ⟨trivial, by simp [Cov, Fr.only, g1, g2], trivial⟩
    rintro e F2 H4 ⟨rfl, hcov, rfl⟩
    refine VW.sub hcov ?_
    clear hcov la0 la1
    refine VW.cond rfl (fun cy => ?_) (fun cy => ?_)
    · rw [if_pos cy] at hstep
      have hcode := code44 (H := H4) a b w1 w2
      generalize codeS a b = cd at *
      obtain ⟨p1, p2, p3⟩ := hg.push (new := [.int .i64 t, .int .i64 cd]) rfl (bytes := 16) (by rw [edgeEs_len]; omega) (by rw [edgeEs_len]; omega)
      have hed : edgeEs rw0 ++ [[.int .i64 t, .int .i64 cd]] = edgeEs (rowAn l m (t + 1)) := by rw [hstep]; simp [edgeEs]
      have hln : rw0.length + 1 = (rowAn l m (t + 1)).length := by rw [hstep]; simp
      rw [hed] at p2 p3
      rw [edgeEs_len, hln] at p2
      refine VW.reg ?_
      refine VOps.rd rfl rfl ?_
      refine VOps.rd rfl rfl ?_
      refine VOps.rd (v := .agg [.int .i64 a, .int .i64 b]) rfl (by simp [la2]) ?_
      refine VOps.call rfl rfl rfl (hcode.mono ?_)
      rintro r' Hy ⟨rfl, rfl⟩
      refine VOps.rd (v := .agg [.int .i64 t, .int .i64 cd]) rfl rfl ?_
      refine VOps.ef (v := .sl (some ⟨Hy.length, 0, 0⟩) 1 1) (H' := Hy ++ [.row 42 .own [[.int .i64 t, .int .i64 cd]]]) rfl rfl ?_
      refine VOps.ef rfl (by simp [Fr.only, p1, p2]; exact ⟨rfl, rfl⟩) ?_
      refine VOps.rd rfl rfl ?_
      refine VOps.nil ⟨rfl, ?_⟩
      have hxl := hx.1
      refine VW.mono (leave _ _ (some (Hy.length + 1)) (by simp [Cov, Fr.only, gptr]) ((Ext.kill (hx.push _) hlo).push _) p3 (fun b e => by cases e; omega)) ?_
      rintro e F3 H6 ⟨rfl, hh⟩
      exact hh
    · rw [if_neg (by simp [cy]), List.append_nil] at hstep
      refine VW.skip ?_
      refine VW.mono (leave _ _ o (by rw [hstep]; simp [Cov, Fr.only]) hx (by rw [hstep]; exact hg) hlo) ?_
      rintro e F3 H6 ⟨rfl, hh⟩
      exact hh
  · have : t = l.length := by omega
    subst this
    refine VW.condF (by simp [Fr.only]) (VW.exit ?_)
    simp only [then_normal, then_ret, then_exit, inB_normal, inB_ret, inB_exit, reduceIte, Nat.reduceEqDiff]
    exact ⟨trivial, o, by simp [Cov, Fr.only], hx, hg, hlo⟩
end
end Go.Proofs.Ytlclbfkdaemilaa

/- The document's Pack: the loop over the states. -/
namespace Go.Proofs.Ytlclbfkdaemilaa
set_option linter.unusedSimpArgs false
set_option linter.unusedVariables false
open Go Go.Vm Go.Proofs
set_option maxRecDepth 100000
set_option maxHeartbeats 4000000

/-- rows that grow one by one -/
structure RowQ (B0 : Nat) (H : Hp) (orr : Option Nat) (q : Nat) (vs : List VV) (rows : List Edges) : Prop where
  blk : GrowR H 40 1 orr (vs.map fun v => [v])
  len : vs.length = q
  done : ∀ k, k < q → ∃ o, vs[k]? = some (.sl (gptr o) (rows.getD k []).length (rows.getD k []).length) ∧ GrowR H 42 2 o (edgeEs (rows.getD k [])) ∧ ∀ b, o = some b → B0 ≤ b
  lo : ∀ b, orr = some b → B0 ≤ b
theorem RowQ.keep {B0 : Nat} {H H' : Hp} {orr : Option Nat} {q : Nat} {vs : List VV} {rows : List Edges} (h : RowQ B0 H orr q vs rows) (hk : ∀ (k : Nat) (t : TypeId) (es : List (List VV)), H[k]? = some (.row t .loose es) → t ≠ 3 → H'[k]? = H[k]?) : RowQ B0 H' orr q vs rows :=
  ⟨h.blk.keep fun b e => by subst e; exact hk b _ _ h.blk.1 (by decide), h.len, fun k hkq => let ⟨o, h1, h2, h3⟩ := h.done k hkq; ⟨o, h1, h2.keep fun b e => by subst e; exact hk b _ _ h2.1 (by decide), h3⟩, h.lo⟩
theorem RowQ.ext {B0 : Nat} {H H' : Hp} {orr : Option Nat} {q : Nat} {vs : List VV} {rows : List Edges} (h : RowQ B0 H orr q vs rows) (hx : Ext H H') : RowQ B0 H' orr q vs rows := h.keep fun k t es hk _ => hx.2 k (get_lt hk)
theorem RowQ.nil {B0 : Nat} {H : Hp} {rows : List Edges} : RowQ B0 H none 0 [] rows := ⟨rfl, rfl, fun k hk => by omega, fun b e => by cases e⟩
theorem RowQ.rowV {B0 : Nat} {H : Hp} {orr : Option Nat} {N : Nat} {vs : List VV} {rows : List Edges} (h : RowQ B0 H orr N vs rows) (hn : rows.length = N) (hl : ∀ k, k < N → (rows.getD k []).length ≤ maxLen) :
    Sl H (gptr orr) 1 (vs.map fun v => [v]) ∧ RowV H vs rows := by
  refine ⟨h.blk.sl, by rw [h.len, hn], fun k hk => ?_⟩
  obtain ⟨o, h1, h2, _⟩ := h.done k (by omega)
  exact ⟨gptr o, _, h1, h2.sl, hl k (by omega)⟩
/-- one row more -/
theorem RowQ.push {B0 : Nat} {H : Hp} {orr o : Option Nat} {q n : Nat} {vs : List VV} {rows : List Edges} (h : RowQ B0 H orr q vs rows) (hq : q ≤ 1000000) (hg : GrowR H 42 2 o (edgeEs (rows.getD q []))) (hn : n = (rows.getD q []).length) (ho : ∀ b, o = some b → B0 ≤ b) (hB : B0 ≤ H.length) :
    ∃ H', srcEls (H ++ [.row 40 .own [[.sl (gptr o) n n]]]) 1 (.sl (some ⟨H.length, 0, 0⟩) 1 1) = some [[.sl (gptr o) n n]] ∧
      appV (H ++ [.row 40 .own [[.sl (gptr o) n n]]]) 40 1 24 (gptr orr) q q [[.sl (gptr o) n n]] = some (.sl (some ⟨H.length + 1, 0, 0⟩) (q + 1) (q + 1), H') ∧
      RowQ B0 H' (some (H.length + 1)) (q + 1) (vs ++ [.sl (gptr o) n n]) rows ∧ H.length ≤ H'.length ∧ ∀ k, k < H.length → orr ≠ some k → H'[k]? = H[k]? := by
  have hl := h.len
  obtain ⟨p1, p2, p3⟩ := h.blk.push (new := [.sl (gptr o) n n]) rfl (bytes := 24) (by rw [List.length_map, hl]; omega) (by rw [List.length_map, hl]; omega)
  rw [List.length_map, hl] at p2
  have hks : ∀ k, k < H.length → orr ≠ some k → (kill (H ++ [.row 40 .own [[.sl (gptr o) n n]]]) orr ++ [.row 40 .loose ((vs.map fun v => [v]) ++ [[.sl (gptr o) n n]])])[k]? = H[k]? := fun k hk hne => by
    rw [List.getElem?_append_left (by rw [kill_len]; simp; omega), kill_off hne, List.getElem?_append_left hk]
  have hne : ∀ (k : Nat) (t : TypeId) (es : List (List VV)), H[k]? = some (.row t .loose es) → t = 42 → orr ≠ some k := fun k t es hk ht e => by
    subst e ht
    have := h.blk.1
    rw [hk] at this; cases this
  refine ⟨_, p1, p2, ⟨?_, by simp [hl], fun k hk => ?_, fun b e => by cases e; omega⟩, by simp [kill_len]; omega, hks⟩
  · rw [List.map_append]; exact p3
  · by_cases e : k = q
    · subst e
      refine ⟨o, by rw [List.getElem?_append_right (by omega), hl, Nat.sub_self, ← hn]; rfl, hg.keep fun b e => ?_, ho⟩
      subst e
      exact hks b (get_lt hg.1) (hne b _ _ hg.1 rfl)
    · obtain ⟨o', h1, h2, h3⟩ := h.done k (by omega)
      refine ⟨o', by rw [List.getElem?_append_left (by omega)]; exact h1, h2.keep fun b e => ?_, h3⟩
      subst e
      exact hks b (get_lt h2.1) (hne b _ _ h2.1 rfl)

section
variable {B : Nat} {Hb H : Hp} {v2 : VV} {ip ca cg j : Nat} {al : List Edges} {gs : List (List Int)} {pa pg : Option PA} {was wgs : List VV} {r1 r2 r3 r4 r5 r6 r7 : VV}
theorem refA (h : Den Hb pa pg al gs was wgs) (l0 : ld Hb ⟨j, 0, 0⟩ = some (.sl pa al.length ca)) (hx : Ext Hb H) (hip : H[ip]? = some (pk8 nil1 r1 r2 r3 r4 r5 r6 r7)) (hlp : Hb.length ≤ ip)
    (hN : al.length ≤ 256) (hval : ∀ q, q < al.length → (al.getD q []).length ≤ 65)
    (hval2 : ∀ q, q < al.length → ∀ k, k < (al.getD q []).length → 0 ≤ ((al.getD q []).getD k (0, 0)).2 ∧ ((al.getD q []).getD k (0, 0)).2 ≤ 256) :
    VW Try.prog B 193 (VC.l (VC.r (VC.r (VC.r (VC.r w24.vc))))) [(1, .ptr (some ⟨j, 0, 0⟩)), (2, v2), (4, .ptr (some ⟨ip, 0, 0⟩)), (5, nil1)] H
      fun e F2 H' => e = .normal ∧ ∃ orr od vs, Cov [(1, .ptr (some ⟨j, 0, 0⟩)), (2, v2), (4, .ptr (some ⟨ip, 0, 0⟩)), (5, .sl (gptr orr) al.length al.length)] F2 ∧ Ext Hb H' ∧
        H'[ip]? = some (pk8 (.sl (gptr od) al.length al.length) r1 r2 r3 r4 r5 r6 r7) ∧ Grow H' (.sl (gptr od) al.length al.length) od (dfN al al.length) ∧ (∀ b, od = some b → Hb.length ≤ b) ∧ RowQ Hb.length H' orr al.length vs (rowsA al) := by
  dsimp only [w24, VC.l, VC.r]
  have hmx : maxLen = 9223372036854775807 := rfl
  refine VW.seq (VW.reg ?_)
  refine VOps.rd rfl rfl ?_
  refine VOps.nil ⟨rfl, ?_⟩
  show VW _ _ _ _ [(1, .ptr (some ⟨j, 0, 0⟩)), (2, v2), (4, .ptr (some ⟨ip, 0, 0⟩)), (5, nil1), (6, .int .i64 0)] _ _
  refine VW.block ?_
  refine VW.loop (fun m F' H' => ∃ (q : Nat) (orr od : Option Nat) (vs : List VV), q ≤ al.length ∧ m = al.length - q ∧ Cov [(1, .ptr (some ⟨j, 0, 0⟩)), (2, v2), (4, .ptr (some ⟨ip, 0, 0⟩)), (5, .sl (gptr orr) q q), (6, .int .i64 q)] F' ∧ Ext Hb H' ∧
      H'[ip]? = some (pk8 (.sl (gptr od) q q) r1 r2 r3 r4 r5 r6 r7) ∧ Grow H' (.sl (gptr od) q q) od (dfN al q) ∧ (∀ b, od = some b → Hb.length ≤ b) ∧ RowQ Hb.length H' orr q vs (rowsA al)) al.length
    ⟨0, none, none, [], by omega, rfl, by simp [Cov, Fr.only, gptr], hx, hip, ⟨rfl, rfl⟩, (fun b e => by cases e), .nil⟩ ?_
  clear hx hip
  rintro m F' H2 ⟨q, orr, od, vs, hq, rfl, hcov, hx, hip, hg, hod, hrq0⟩
  refine VW.sub hcov ?_
  clear hcov
  refine VW.seq (VW.seq (VW.reg ?_))
  refine VOps.rd rfl rfl ?_
  refine VOps.rd rfl rfl ?_
  refine VOps.rd (v := .sl pa al.length ca) rfl (by simp [ext_ld hx l0]) ?_
  refine VOps.rd rfl rfl ?_
  refine VOps.rd rfl rfl ?_
  refine VOps.nil ⟨rfl, ?_⟩
  by_cases hlt : q < al.length
  · have hvq := wrap_id (x := (q : Int) + 1) (by omega) (by omega)
    obtain ⟨pq, pk, ck, hpq, a1, a2, a3, a4⟩ := row_at h.sa h.ra hlt
    have w1 := hval q hlt
    have w2 := hval2 q hlt
    have hrq := rowsA_at hlt
    have hdf := dfN_succ al q
    have hdl : dfA (al.getD q []) = mostS (keysOf (fun k => ((al.getD q []).getD k (0, 0)).2) (fun k => ((al.getD q []).getD k (0, 0)).1 == 2) (al.getD q []).length) := rfl
    have hrl : rowA (al.getD q []) = rowAn (al.getD q []) (dfA (al.getD q [])) (al.getD q []).length := rfl
    generalize al.getD q [] = l at *
    refine VW.condT (by simp [Fr.only, hlt]) (VW.skip ?_)
    refine VW.seq (VW.block (VW.seq (VW.reg ?_)))
    refine VOps.rd rfl rfl ?_
    refine VOps.nil ⟨rfl, ?_⟩
    show VW _ _ _ _ [(1, .ptr (some ⟨j, 0, 0⟩)), (2, v2), (4, .ptr (some ⟨ip, 0, 0⟩)), (5, .sl (gptr orr) q q), (6, .int .i64 q), (7, .sl none 0 0)] _ _
    refine VW.seq ?_
    refine VW.mono (refA_by l0 hx hpq a1 a2 a3 hlt w1) ?_
    rintro e F2 H3 ⟨rfl, ob, hcov, hx23, hsb⟩
    refine VW.sub hcov ?_
    clear hcov
    have hml := keysOf_len (fun k => (l.getD k (0, 0)).2) (fun k => (l.getD k (0, 0)).1 == 2) l.length
    have hm43 := most43 (c := (keysOf (fun k => (l.getD k (0, 0)).2) (fun k => (l.getD k (0, 0)).1 == 2) l.length).length) hsb (by omega)
    rw [← hdl] at hm43
    clear hdl hsb hml
    generalize dfA l = d at *
    generalize keysOf (fun k => (l.getD k (0, 0)).2) (fun k => (l.getD k (0, 0)).1 == 2) l.length = kl at *
    replace hip := hx23.get hip
    replace hg := hg.ext hx23
    replace hrq0 := hrq0.ext hx23
    replace hx := hx.trans hx23
    clear hx23
    refine VW.seq (VW.reg ?_)
    refine VOps.rd rfl rfl ?_
    refine VOps.call rfl rfl rfl (hm43.mono ?_)
    rintro r H4 ⟨rfl, rfl⟩
    refine VOps.rd rfl rfl ?_
    refine VOps.nil ⟨rfl, ?_⟩
    show VW _ _ _ _ [(1, .ptr (some ⟨j, 0, 0⟩)), (2, v2), (4, .ptr (some ⟨ip, 0, 0⟩)), (5, .sl (gptr orr) q q), (6, .int .i64 q), (9, .int .i64 d)] _ _
    clear hm43
    -- the default
    obtain ⟨p1, p2, p3⟩ := hg.push (by rw [dfN_len]; omega) d
    rw [← hdf, dfN_len] at p2 p3
    have hnp : od ≠ some ip := fun e => by subst e; have := hg.2.1; rw [hip] at this; cases this
    have lp := ld_own hip 0
    simp only [List.getElem?_cons_zero] at lp
    have e1 : ∀ k x, H4[k]? = some x → od ≠ some k → (kill (H4 ++ [.row 3 .own [[.int .i64 d]]]) od ++ [.row 3 .loose (intEs (dfN al (q + 1)))])[k]? = some x := fun k x hk hne => get_push (by rw [kill_off hne]; exact get_push hk _) _
    have e2 : Ext Hb (kill (H4 ++ [.row 3 .own [[.int .i64 d]]]) od ++ [.row 3 .loose (intEs (dfN al (q + 1)))]) := (Ext.kill (hx.push _) hod).push _
    have hl3 := hx.1
    generalize kill (H4 ++ [.row 3 .own [[.int .i64 d]]]) od ++ [.row 3 .loose (intEs (dfN al (q + 1)))] = H5 at *
    have hip4 := e1 ip _ hip hnp
    have hn4 : H4.length + 1 ≠ ip := fun e => by have := get_lt hip; omega
    generalize hnb : pk8 (.sl (some ⟨H4.length + 1, 0, 0⟩) (q + 1) (q + 1)) r1 r2 r3 r4 r5 r6 r7 = nb at *
    have hst : stc H5 ⟨ip, 0, 0⟩ [.sl (some ⟨H4.length + 1, 0, 0⟩) (q + 1) (q + 1)] = some (H5.set ip nb) := by
      simp only [stc, hip4]
      rw [← hnb]
      simp [upd, okCells, VV.cell]
    have hrq5 : RowQ Hb.length (H5.set ip nb) orr q vs (rowsA al) := by
      refine hrq0.keep fun k t es hes ht => ?_
      have hk2 : od ≠ some k := fun e => by subst e; have := hg.2.1; rw [hes] at this; simp at this; exact ht this.1
      have hk3 : ip ≠ k := fun e => by subst e; rw [hip] at hes; cases hes
      rw [List.getElem?_set_ne hk3, e1 k _ hes hk2, hes]
    have hg5 : Grow (H5.set ip nb) (.sl (some ⟨H4.length + 1, 0, 0⟩) (q + 1) (q + 1)) (some (H4.length + 1)) (dfN al (q + 1)) := p3.keep fun k e => by cases e; exact List.getElem?_set_ne (Ne.symm hn4)
    have hip5 : (H5.set ip nb)[ip]? = some nb := List.getElem?_set_self (get_lt hip4)
    have hx5 := e2.set hlp nb
    refine VW.seq (VW.reg ?_)
    refine VOps.rd rfl rfl ?_
    refine VOps.rd (v := .sl (gptr od) q q) rfl (by simp [lp]) ?_
    refine VOps.rd rfl rfl ?_
    refine VOps.ef (v := .sl (some ⟨H4.length, 0, 0⟩) 1 1) (H' := H4 ++ [.row 3 .own [[.int .i64 d]]]) rfl rfl ?_
    refine VOps.ef (v := .sl (some ⟨H4.length + 1, 0, 0⟩) (q + 1) (q + 1)) (H' := H5) rfl (by simp [p1, p2]) ?_
    refine VOps.rd rfl rfl ?_
    refine VOps.ef (v := .undef) (H' := H5.set ip nb) rfl (by simp [hst]) ?_
    refine VOps.nil ⟨rfl, ?_⟩
    clear hst p1 p2 p3 hg lp e1 e2 hrq0 hip hip4
    generalize H5.set ip nb = H6 at *
    have hid : Hb.length ≤ H4.length + 1 := by omega
    generalize H4.length + 1 = id5 at *
    refine VW.seq (VW.reg ?_)
    refine VOps.rd rfl rfl ?_
    refine VOps.nil ⟨rfl, ?_⟩
    show VW _ _ _ _ [(1, .ptr (some ⟨j, 0, 0⟩)), (2, v2), (4, .ptr (some ⟨ip, 0, 0⟩)), (5, .sl (gptr orr) q q), (6, .int .i64 q), (9, .int .i64 d), (10, .sl none 0 0)] _ _
    refine VW.seq ?_
    refine VW.mono (refA_row l0 hx5 hpq a1 a2 a3 hlt w1 (fun k hk => ⟨(w2 k hk).1, by have := (w2 k hk).2; omega⟩)) ?_
    rintro e F2 H7 ⟨rfl, o, hcov, hx67, hg7, ho7⟩
    rw [← hrl, ← hrq] at hg7
    rw [← hrl, ← hrq] at hcov
    refine VW.sub hcov ?_
    clear hcov
    have hrq7 := hrq5.ext hx67
    have hx7 := hx5.trans hx67
    obtain ⟨H8, p1, p2, hrq8, hl8, hk8⟩ := hrq7.push (by omega) hg7 rfl (fun b e => Nat.le_trans hx5.1 (ho7 b e)) hx7.1
    have hip7 := hx67.get hip5
    rw [← hnb] at hip7
    have hnp7 : orr ≠ some ip := fun e => by
      subst e
      have := hrq7.blk.1
      rw [hip7] at this; cases this
    have hg7' := hg5.ext hx67
    have hnd7 : orr ≠ some id5 := fun e => by
      subst e
      have := hrq7.blk.1
      rw [hg7'.2.1] at this; cases this
    have hx8 : Ext Hb H8 := ⟨Nat.le_trans hx7.1 hl8, fun k hk => by
      rw [hk8 k (Nat.lt_of_lt_of_le hk hx7.1) (fun e => by have := hrq7.lo k e; omega)]; exact hx7.2 k hk⟩
    refine VW.reg ?_
    refine VOps.rd rfl rfl ?_
    refine VOps.rd rfl rfl ?_
    refine VOps.ef (v := .sl (some ⟨H7.length, 0, 0⟩) 1 1) (H' := H7 ++ [.row 40 .own [[.sl (gptr o) ((rowsA al).getD q []).length ((rowsA al).getD q []).length]]]) rfl rfl ?_
    refine VOps.ef (v := .sl (some ⟨H7.length + 1, 0, 0⟩) (q + 1) (q + 1)) (H' := H8) rfl (by simp only [VEf.ev, Od.ev, Fr.pt, Fr.get, reduceIte, Nat.reduceEqDiff, p1, p2]) ?_
    refine VOps.rd rfl rfl ?_
    refine VOps.nil ⟨rfl, ?_⟩
    refine VW.reg ?_
    refine VOps.rd rfl rfl ?_
    refine VOps.rd rfl rfl ?_
    refine VOps.rd rfl rfl ?_
    refine VOps.nil ⟨rfl, al.length - (q + 1), by omega, q + 1, some (H7.length + 1), some id5, _, by omega, rfl, by simp [Cov, Fr.only, hvq, gptr], hx8, ?_, hg7'.keep fun k e => by cases e; exact hk8 _ (get_lt hg7'.2.1) hnd7, fun b e => by cases e; exact hid, hrq8⟩
    rw [hk8 ip (get_lt hip7) hnp7, hip7]; rfl
  · have : q = al.length := by omega
    subst this
    refine VW.condF (by simp [Fr.only]) (VW.exit ?_)
    simp only [then_normal, then_ret, then_exit, inB_normal, inB_ret, inB_exit, reduceIte, Nat.reduceEqDiff]
    exact ⟨trivial, orr, od, vs, by simp [Cov, Fr.only], hx, hip, hg, hod, hrq0⟩
end
end Go.Proofs.Ytlclbfkdaemilaa

/- The document's Pack: the two loops over one nonterminal's gotos. -/
namespace Go.Proofs.Ytlclbfkdaemilaa
set_option linter.unusedSimpArgs false
set_option linter.unusedVariables false
open Go Go.Vm Go.Proofs
set_option maxRecDepth 100000
set_option maxHeartbeats 4000000

def colN (gs : List (List Int)) (n i : Nat) : List Int := (List.range i).map (gAt gs n)
theorem colN_len (gs : List (List Int)) (n i : Nat) : (colN gs n i).length = i := by simp [colN]
theorem colN_succ (gs : List (List Int)) (n i : Nat) : colN gs n (i + 1) = colN gs n i ++ [gAt gs n i] := by simp [colN, List.range_succ]
theorem colN_at {gs : List (List Int)} {n i q : Nat} (h : q < i) : (colN gs n i).getD q 0 = gAt gs n q := by simp [colN, List.getD, h]
theorem most_col (gs : List (List Int)) (n : Nat) : mostS (colN gs n gs.length) = tgG gs n := by
  refine mostS_congr fun k => ?_
  generalize gs.length = N
  induction N with
  | zero => rfl
  | succ N ih =>
    rw [colN_succ, cnt_push, ih]
    show _ = cntI (keysOf _ _ N ++ keyStep _ _ N) k
    unfold keyStep
    by_cases h : 0 ≤ gAt gs n N
    · have hd : (fun q => decide (0 ≤ gAt gs n q)) N = true := by simpa using h
      rw [if_pos hd, cnt_push]
    · have hd : ¬ (fun q => decide (0 ≤ gAt gs n q)) N = true := by simpa using h
      rw [if_neg hd, if_neg (show ¬ gAt gs n N = (k : Int) by omega), List.append_nil]
      rfl

section
variable {B : Nat} {Hb H : Hp} {v2 v4 v5 : VV} {j n S ca cg : Nat} {m : Int} {al : List Edges} {gs : List (List Int)} {pa pg : Option PA} {was wgs : List VV}
theorem refG_to (h : Den Hb pa pg al gs was wgs) (l1 : ld Hb ⟨j, 0, 1⟩ = some (.sl pg gs.length cg)) (hx0 : Ext Hb H) (hN : gs.length ≤ 256) (hrow : ∀ q, q < gs.length → n < (gs.getD q []).length) :
    VW Try.prog B 193 (VC.l (VC.r (VC.l (VC.l (VC.r (VC.l (VC.l (VC.r (VC.l (VC.r (VC.r (VC.r (VC.r (VC.r (VC.r (VC.r w24.vc))))))))))))))))
      [(1, .ptr (some ⟨j, 0, 0⟩)), (2, v2), (4, v4), (5, v5), (13, .int .i64 n), (14, .sl none 0 0)] H
      fun e F2 H' => e = .normal ∧ ∃ o, Cov [(1, .ptr (some ⟨j, 0, 0⟩)), (2, v2), (4, v4), (5, v5), (13, .int .i64 n), (14, .sl (gptr o) gs.length gs.length)] F2 ∧ Ext H H' ∧ Grow H' (.sl (gptr o) gs.length gs.length) o (colN gs n gs.length) ∧ ∀ b, o = some b → H.length ≤ b := by
  dsimp only [w24, VC.l, VC.r]
  refine VW.seq (VW.reg ?_)
  refine VOps.rd rfl rfl ?_
  refine VOps.nil ⟨rfl, ?_⟩
  show VW _ _ _ _ [(1, .ptr (some ⟨j, 0, 0⟩)), (2, v2), (4, v4), (5, v5), (13, .int .i64 n), (14, .sl none 0 0), (15, .int .i64 0)] _ _
  refine VW.block ?_
  refine VW.loop (fun m' F' H' => ∃ (t : Nat) (o : Option Nat), t ≤ gs.length ∧ m' = gs.length - t ∧ Cov [(1, .ptr (some ⟨j, 0, 0⟩)), (2, v2), (4, v4), (5, v5), (13, .int .i64 n), (14, .sl (gptr o) t t), (15, .int .i64 t)] F' ∧ Ext H H' ∧
      Grow H' (.sl (gptr o) t t) o (colN gs n t) ∧ ∀ b, o = some b → H.length ≤ b) gs.length
    ⟨0, none, by omega, rfl, by simp [Cov, Fr.only, gptr], .refl _, ⟨rfl, rfl⟩, fun b e => by cases e⟩ ?_
  rintro m' F' H2 ⟨t, o, ht, rfl, hcov, hx, hg, hlo⟩
  refine VW.sub hcov ?_
  clear hcov
  have hx2 := hx0.trans hx
  have n1 := ext_ld hx2 l1
  have h2 := h.ext hx2
  refine VW.seq (VW.seq (VW.reg ?_))
  refine VOps.rd rfl rfl ?_
  refine VOps.rd rfl rfl ?_
  refine VOps.rd (v := .sl pg gs.length cg) rfl (by simp [n1]) ?_
  refine VOps.rd rfl rfl ?_
  refine VOps.rd rfl rfl ?_
  refine VOps.nil ⟨rfl, ?_⟩
  by_cases hlt : t < gs.length
  · have hvt := wrap_id (x := (t : Int) + 1) (by omega) (by omega)
    obtain ⟨pq, pk, ck, hpq, a1, a2, a3, a4⟩ := rowI_at h2.sg h2.rg hlt
    have hrt := hrow t hlt
    have hga : gAt gs n t = (gs.getD t []).getD n 0 := rfl
    have hstep := colN_succ gs n t
    generalize gs.getD t [] = l at *
    obtain ⟨r, hr, r1, r2⟩ := sl_int a3 (k := n) hrt
    rw [← hga] at r2
    generalize gAt gs n t = x at *
    refine VW.condT (by simp [Fr.only, hlt]) (VW.skip ?_)
    obtain ⟨p1, p2, p3⟩ := hg.push (by rw [colN_len]; omega) x
    rw [← hstep, colN_len] at p2 p3
    refine VW.seq (VW.block (VW.reg ?_))
    refine VOps.rd rfl rfl ?_
    refine VOps.rd rfl rfl ?_
    refine VOps.rd (v := .sl pg gs.length cg) rfl (by simp [Fr.only, n1]) ?_
    refine VOps.rd rfl rfl ?_
    refine VOps.rd (v := .ptr (some (elp (some pq) t))) rfl (by simp [Fr.only, hpq, a1, hlt]) ?_
    refine VOps.rd (v := .sl pk l.length ck) rfl (by simp [a2]) ?_
    refine VOps.rd rfl rfl ?_
    refine VOps.rd (v := .ptr (some (elp (some r) n))) rfl (by simp [Fr.only, hr, r1, hrt]) ?_
    refine VOps.rd (v := .int .i64 x) rfl (by simp [r2]) ?_
    refine VOps.ef (v := .sl (some ⟨H2.length, 0, 0⟩) 1 1) (H' := H2 ++ [.row 3 .own [[.int .i64 x]]]) rfl rfl ?_
    refine VOps.ef rfl (by simp [Fr.only, p1, p2]; exact ⟨rfl, rfl⟩) ?_
    refine VOps.rd rfl rfl ?_
    refine VOps.nil ⟨rfl, VW.reg ?_⟩
    refine VOps.rd rfl rfl ?_
    refine VOps.rd rfl rfl ?_
    refine VOps.rd rfl rfl ?_
    have hxl := hx.1
    exact VOps.nil ⟨rfl, gs.length - (t + 1), by omega, t + 1, some (H2.length + 1), by omega, rfl, by simp [Cov, Fr.only, hvt, gptr], (Ext.kill (hx.push _) hlo).push _, p3, fun b e => by cases e; omega⟩
  · have : t = gs.length := by omega
    subst this
    refine VW.condF (by simp [Fr.only]) (VW.exit ?_)
    simp only [then_normal, then_ret, then_exit, inB_normal, inB_ret, inB_exit, reduceIte, Nat.reduceEqDiff]
    exact ⟨trivial, o, by simp [Cov, Fr.only], hx, hg, hlo⟩

theorem refG_row {pt : Option PA} {ct : Nat} (hN : gs.length ≤ 256) (hto : Sl H pt 1 (intEs (colN gs n gs.length))) :
    VW Try.prog B 193 (VC.l (VC.r (VC.r (VC.r (VC.r (VC.r (VC.l (VC.l (VC.r (VC.l (VC.l (VC.r (VC.l (VC.r (VC.r (VC.r (VC.r (VC.r (VC.r (VC.r w24.vc))))))))))))))))))))
      [(1, .ptr (some ⟨j, 0, 0⟩)), (2, v2), (4, v4), (5, v5), (13, .int .i64 n), (14, .sl pt gs.length ct), (16, .int .i64 m), (17, .sl none 0 0)] H
      fun e F2 H' => e = .normal ∧ ∃ o, Cov [(1, .ptr (some ⟨j, 0, 0⟩)), (2, v2), (4, v4), (5, v5), (13, .int .i64 n), (17, .sl (gptr o) (rowGn gs n m gs.length).length (rowGn gs n m gs.length).length)] F2 ∧ Ext H H' ∧
        GrowR H' 42 2 o (edgeEs (rowGn gs n m gs.length)) ∧ ∀ b, o = some b → H.length ≤ b := by
  dsimp only [w24, VC.l, VC.r]
  refine VW.seq (VW.reg ?_)
  refine VOps.rd rfl rfl ?_
  refine VOps.nil ⟨rfl, ?_⟩
  show VW _ _ _ _ [(1, .ptr (some ⟨j, 0, 0⟩)), (2, v2), (4, v4), (5, v5), (13, .int .i64 n), (14, .sl pt gs.length ct), (16, .int .i64 m), (17, .sl none 0 0), (18, .int .i64 0)] _ _
  refine VW.block ?_
  refine VW.loop (fun m' F' H' => ∃ (t : Nat) (o : Option Nat), t ≤ gs.length ∧ m' = gs.length - t ∧ Cov [(1, .ptr (some ⟨j, 0, 0⟩)), (2, v2), (4, v4), (5, v5), (13, .int .i64 n), (14, .sl pt gs.length ct), (16, .int .i64 m), (17, .sl (gptr o) (rowGn gs n m t).length (rowGn gs n m t).length), (18, .int .i64 t)] F' ∧ Ext H H' ∧
      GrowR H' 42 2 o (edgeEs (rowGn gs n m t)) ∧ ∀ b, o = some b → H.length ≤ b) gs.length
    ⟨0, none, by omega, rfl, by simp [Cov, Fr.only, rowGn, gptr], .refl _, rfl, fun b e => by cases e⟩ ?_
  rintro m' F' H2 ⟨t, o, ht, rfl, hcov, hx, hg, hlo⟩
  refine VW.sub hcov ?_
  clear hcov
  have hto2 := hx.sl hto
  refine VW.seq (VW.seq (VW.reg ?_))
  refine VOps.rd rfl rfl ?_
  refine VOps.rd rfl rfl ?_
  refine VOps.rd rfl rfl ?_
  refine VOps.rd rfl rfl ?_
  refine VOps.nil ⟨rfl, ?_⟩
  by_cases hlt : t < gs.length
  · have hvt := wrap_id (x := (t : Int) + 1) (by omega) (by omega)
    obtain ⟨r, hr, r1, r2⟩ := sl_int hto2 (k := t) (by rw [colN_len]; exact hlt)
    rw [colN_at hlt] at r2
    have hstep : rowGn gs n m (t + 1) = rowGn gs n m t ++ (if keepG m (gAt gs n t) = true then [((t : Int), gAt gs n t)] else []) := rfl
    have hrl := rowGn_len gs n m t
    generalize gAt gs n t = x at *
    refine VW.condT (by simp [Fr.only, hlt]) (VW.skip ?_)
    show VW _ _ _ _ [(1, .ptr (some ⟨j, 0, 0⟩)), (2, v2), (4, v4), (5, v5), (13, .int .i64 n), (14, .sl pt gs.length ct), (16, .int .i64 m), (17, .sl (gptr o) (rowGn gs n m t).length (rowGn gs n m t).length), (18, .int .i64 t), (157, _)] _ _
    have leave : ∀ F H5 o', Cov [(1, .ptr (some ⟨j, 0, 0⟩)), (2, v2), (4, v4), (5, v5), (13, .int .i64 n), (14, .sl pt gs.length ct), (16, .int .i64 m), (17, .sl (gptr o') (rowGn gs n m (t + 1)).length (rowGn gs n m (t + 1)).length), (18, .int .i64 t)] F → Ext H H5 →
        GrowR H5 42 2 o' (edgeEs (rowGn gs n m (t + 1))) → (∀ b, o' = some b → H.length ≤ b) →
        VW Try.prog B 193 (VC.reg [VI.rd 158 none (VOp.mv (Od.t 18)), VI.rd 159 none (VOp.bin (BinOp.add) (Od.t 158) (Od.c (VV.int (IntKind.i64) 1))), VI.rd 18 none (VOp.mv (Od.t 159))] [1, 2, 4, 5, 13, 14, 16, 17, 18]) F H5
          fun e F2 H' => e = .normal ∧ ∃ m', m' < gs.length - t ∧ ∃ (t : Nat) (o : Option Nat), t ≤ gs.length ∧ m' = gs.length - t ∧ Cov [(1, .ptr (some ⟨j, 0, 0⟩)), (2, v2), (4, v4), (5, v5), (13, .int .i64 n), (14, .sl pt gs.length ct), (16, .int .i64 m), (17, .sl (gptr o) (rowGn gs n m t).length (rowGn gs n m t).length), (18, .int .i64 t)] F2 ∧ Ext H H' ∧
            GrowR H' 42 2 o (edgeEs (rowGn gs n m t)) ∧ ∀ b, o = some b → H.length ≤ b := by
      intro F H5 o' hc g1 g2 g3
      refine VW.sub hc (VW.reg ?_)
      refine VOps.rd rfl rfl ?_
      refine VOps.rd rfl rfl ?_
      refine VOps.rd rfl rfl ?_
      exact VOps.nil ⟨rfl, rfl, gs.length - (t + 1), by omega, t + 1, o', by omega, rfl, by simp [Cov, Fr.only, hvt], g1, g2, g3⟩
    generalize rowGn gs n m t = rw0 at *
    refine VW.seq (VW.block ?_)
    refine VW.seq ?_
    refine VW.mono (Q := fun e F2 H' => e = .normal ∧ Cov [(1, .ptr (some ⟨j, 0, 0⟩)), (2, v2), (4, v4), (5, v5), (13, .int .i64 n), (14, .sl pt gs.length ct), (16, .int .i64 m), (17, .sl (gptr o) rw0.length rw0.length), (18, .int .i64 t), (172, .bool (keepG m x))] F2 ∧ H' = H2) ?_ ?_
    · refine VW.reg ?_
      refine VOps.rd rfl rfl ?_
      refine VOps.rd rfl rfl ?_
      refine VOps.rd (v := .ptr (some (elp (some r) t))) rfl (by simp [hr, r1, hlt]) ?_
      refine VOps.rd (v := .int .i64 x) rfl (by simp [r2]) ?_
      refine VOps.rd (v := .bool (decide (0 ≤ x))) rfl rfl ?_
      refine VOps.rd rfl rfl ?_
      by_cases g1 : 0 ≤ x
      · rw [decide_eq_true g1]
        refine VOps.rd rfl rfl ?_
        refine VOps.rd rfl rfl ?_
        refine VOps.rd (v := .ptr (some (elp (some r) t))) rfl (by simp [hr, r1, hlt]) ?_
        refine VOps.rd (v := .int .i64 x) rfl (by simp [r2]) ?_
        refine VOps.rd rfl rfl ?_
        refine VOps.rd rfl rfl ?_
        refine VOps.rd rfl rfl ?_
        exact VOps.nil ⟨rfl, rfl, by simp [Cov, Fr.only, keepG, g1], rfl⟩
      · rw [decide_eq_false g1]
        iterate 6 refine VOps.sk rfl ?_
        refine VOps.rd (v := .bool false) rfl rfl ?_
        exact VOps.nil ⟨rfl, rfl, by simp [Cov, Fr.only, keepG, g1], rfl⟩
    rintro e F2 H4 ⟨rfl, hcov, rfl⟩
    refine VW.sub hcov ?_
    clear hcov
    refine VW.cond rfl (fun cy => ?_) (fun cy => ?_)
    · rw [if_pos cy] at hstep
      obtain ⟨p1, p2, p3⟩ := hg.push (new := [.int .i64 t, .int .i64 x]) rfl (bytes := 16) (by rw [edgeEs_len]; omega) (by rw [edgeEs_len]; omega)
      have hed : edgeEs rw0 ++ [[.int .i64 t, .int .i64 x]] = edgeEs (rowGn gs n m (t + 1)) := by rw [hstep]; simp [edgeEs]
      have hln : rw0.length + 1 = (rowGn gs n m (t + 1)).length := by rw [hstep]; simp
      rw [hed] at p2 p3
      rw [edgeEs_len, hln] at p2
      refine VW.reg ?_
      refine VOps.rd rfl rfl ?_
      refine VOps.rd rfl rfl ?_
      refine VOps.rd rfl rfl ?_
      refine VOps.rd rfl rfl ?_
      refine VOps.rd (v := .ptr (some (elp (some r) t))) rfl (by simp [hr, r1, hlt]) ?_
      refine VOps.rd (v := .int .i64 x) rfl (by simp [r2]) ?_
      refine VOps.rd (v := .agg [.int .i64 t, .int .i64 x]) rfl rfl ?_
      refine VOps.ef (v := .sl (some ⟨H4.length, 0, 0⟩) 1 1) (H' := H4 ++ [.row 42 .own [[.int .i64 t, .int .i64 x]]]) rfl rfl ?_
      refine VOps.ef rfl (by simp [Fr.only, p1, p2]; exact ⟨rfl, rfl⟩) ?_
      refine VOps.rd rfl rfl ?_
      refine VOps.nil ⟨rfl, ?_⟩
      have hxl := hx.1
      refine VW.mono (leave _ _ (some (H4.length + 1)) (by simp [Cov, Fr.only, gptr]) ((Ext.kill (hx.push _) hlo).push _) p3 (fun b e => by cases e; omega)) ?_
      rintro e F3 H6 ⟨rfl, hh⟩
      exact hh
    · rw [if_neg (by simp [cy]), List.append_nil] at hstep
      refine VW.skip ?_
      refine VW.mono (leave _ _ o (by rw [hstep]; simp [Cov, Fr.only]) hx (by rw [hstep]; exact hg) hlo) ?_
      rintro e F3 H6 ⟨rfl, hh⟩
      exact hh
  · have : t = gs.length := by omega
    subst this
    refine VW.condF (by simp [Fr.only]) (VW.exit ?_)
    simp only [then_normal, then_ret, then_exit, inB_normal, inB_ret, inB_exit, reduceIte, Nat.reduceEqDiff]
    exact ⟨trivial, o, by simp [Cov, Fr.only], hx, hg, hlo⟩

end
end Go.Proofs.Ytlclbfkdaemilaa

/- The document's Pack: the loop over the nonterminals. -/
namespace Go.Proofs.Ytlclbfkdaemilaa
set_option linter.unusedSimpArgs false
set_option linter.unusedVariables false
open Go Go.Vm Go.Proofs
set_option maxRecDepth 100000
set_option maxHeartbeats 4000000

section
variable {B : Nat} {Hb HA H : Hp} {v2 : VV} {ip S ca cg j : Nat} {al : List Edges} {gs : List (List Int)} {pa pg : Option PA} {was wgs : List VV} {r0 r1 r2 r3 r5 r6 r7 : VV}
theorem refG (h : Den Hb pa pg al gs was wgs) (l1 : ld Hb ⟨j, 0, 1⟩ = some (.sl pg gs.length cg)) (hxA : Ext Hb HA) (hoff0 : OffB ip HA H) (hip : H[ip]? = some (pk8 r0 r1 r2 r3 nil1 r5 r6 r7)) (hlp : Hb.length ≤ ip)
    (hN : gs.length ≤ 256) (hN0 : 0 < gs.length) (hS : S ≤ 65) (hrow : ∀ q, q < gs.length → (gs.getD q []).length = S) :
    VW Try.prog B 193 (VC.l (VC.r (VC.r (VC.r (VC.r (VC.r (VC.r (VC.r w24.vc)))))))) [(1, .ptr (some ⟨j, 0, 0⟩)), (2, v2), (4, .ptr (some ⟨ip, 0, 0⟩)), (5, nil1)] H
      fun e F2 H' => e = .normal ∧ ∃ orr ot vs, Cov [(2, v2), (4, .ptr (some ⟨ip, 0, 0⟩)), (5, .sl (gptr orr) S S)] F2 ∧ OffB ip HA H' ∧
        H'[ip]? = some (pk8 r0 r1 r2 r3 (.sl (gptr ot) S S) r5 r6 r7) ∧ Grow H' (.sl (gptr ot) S S) ot (tgN gs S) ∧ (∀ b, ot = some b → HA.length ≤ b) ∧ RowQ HA.length H' orr S vs (rowsG gs S) := by
  dsimp only [w24, VC.l, VC.r]
  have hmx : maxLen = 9223372036854775807 := rfl
  have hAb := hxA.1
  refine VW.seq (VW.reg ?_)
  refine VOps.rd rfl rfl ?_
  refine VOps.nil ⟨rfl, ?_⟩
  show VW _ _ _ _ [(1, .ptr (some ⟨j, 0, 0⟩)), (2, v2), (4, .ptr (some ⟨ip, 0, 0⟩)), (5, nil1), (13, .int .i64 0)] _ _
  refine VW.block ?_
  refine VW.loop (fun m F' H' => ∃ (n : Nat) (orr ot : Option Nat) (vs : List VV), n ≤ S ∧ m = S - n ∧ Cov [(1, .ptr (some ⟨j, 0, 0⟩)), (2, v2), (4, .ptr (some ⟨ip, 0, 0⟩)), (5, .sl (gptr orr) n n), (13, .int .i64 n)] F' ∧ OffB ip HA H' ∧
      H'[ip]? = some (pk8 r0 r1 r2 r3 (.sl (gptr ot) n n) r5 r6 r7) ∧ Grow H' (.sl (gptr ot) n n) ot (tgN gs n) ∧ (∀ b, ot = some b → HA.length ≤ b) ∧ RowQ HA.length H' orr n vs (rowsG gs S)) S
    ⟨0, none, none, [], by omega, rfl, by simp [Cov, Fr.only, gptr], hoff0, hip, ⟨rfl, rfl⟩, (fun b e => by cases e), .nil⟩ ?_
  clear hoff0 hip
  rintro m F' H2 ⟨n, orr, ot, vs, hn, rfl, hcov, hoff, hip, hg, hot, hrq0⟩
  refine VW.sub hcov ?_
  clear hcov
  have hx := hoff.ext hxA hlp
  have hh := h.ext hx
  obtain ⟨q0, pk0, ck0, hq0, b1, b2, b3, b4⟩ := rowI_at hh.sg hh.rg hN0
  rw [hrow 0 hN0] at b2
  refine VW.seq (VW.seq (VW.reg ?_))
  refine VOps.rd rfl rfl ?_
  refine VOps.rd rfl rfl ?_
  refine VOps.rd (v := .sl pg gs.length cg) rfl (by simp [ext_ld hx l1]) ?_
  refine VOps.rd (v := .ptr (some (elp (some q0) 0))) rfl (by simp [Fr.only, hq0, b1, hN0]) ?_
  refine VOps.rd (v := .sl pk0 S ck0) rfl (by simp [b2]) ?_
  refine VOps.rd rfl rfl ?_
  refine VOps.rd rfl rfl ?_
  refine VOps.nil ⟨rfl, ?_⟩
  clear b1 b2 b3 b4 hq0 hh
  by_cases hlt : n < S
  · have hvn := wrap_id (x := (n : Int) + 1) (by omega) (by omega)
    have hrq := rowsG_at (gs := gs) hlt
    have hdf := tgN_succ gs n
    have hmc := most_col gs n
    have hrl : rowG gs n = rowGn gs n (tgG gs n) gs.length := rfl
    refine VW.condT (by simp [Fr.only, hlt]) (VW.skip ?_)
    refine VW.seq (VW.block (VW.seq (VW.reg ?_)))
    refine VOps.rd rfl rfl ?_
    refine VOps.nil ⟨rfl, ?_⟩
    show VW _ _ _ _ [(1, .ptr (some ⟨j, 0, 0⟩)), (2, v2), (4, .ptr (some ⟨ip, 0, 0⟩)), (5, .sl (gptr orr) n n), (13, .int .i64 n), (14, .sl none 0 0)] _ _
    refine VW.seq ?_
    refine VW.mono (refG_to h l1 hx hN (fun q hq => by rw [hrow q hq]; exact hlt)) ?_
    rintro e F2 H3 ⟨rfl, oc, hcov, hx23, hgc, hoc⟩
    refine VW.sub hcov ?_
    clear hcov
    have hm43 := most43 (c := gs.length) hgc.sl (by rw [colN_len]; omega)
    rw [hmc, colN_len] at hm43
    generalize tgG gs n = d at *
    have hoo : ∀ k, ot = some k → oc ≠ some k := fun k e1 e2 => by
      subst e1
      have := get_lt hg.2.1
      have := hoc k e2
      omega
    replace hip := hx23.get hip
    replace hg := hg.ext hx23
    replace hrq0 := hrq0.ext hx23
    replace hoff : OffB ip HA H3 := hoff.trans (.of_ext hx23)
    clear hx hx23 hoc
    refine VW.seq (VW.reg ?_)
    refine VOps.rd rfl rfl ?_
    refine VOps.call rfl rfl rfl (hm43.mono ?_)
    rintro r H4 ⟨rfl, rfl⟩
    refine VOps.rd rfl rfl ?_
    refine VOps.nil ⟨rfl, ?_⟩
    show VW _ _ _ _ [(1, .ptr (some ⟨j, 0, 0⟩)), (2, v2), (4, .ptr (some ⟨ip, 0, 0⟩)), (5, .sl (gptr orr) n n), (13, .int .i64 n), (14, .sl (gptr oc) gs.length gs.length), (16, .int .i64 d)] _ _
    clear hm43
    -- the target
    obtain ⟨p1, p2, p3⟩ := hg.push (by rw [tgN_len]; omega) d
    rw [← hdf, tgN_len] at p2 p3
    have hnp : ot ≠ some ip := fun e => by subst e; have := hg.2.1; rw [hip] at this; cases this
    have hcp : oc ≠ some ip := fun e => by subst e; have := hgc.2.1; rw [hip] at this; cases this
    have lp := ld_own hip 4
    simp only [List.getElem?_cons_zero, List.getElem?_cons_succ] at lp
    have e1 : ∀ k x, H4[k]? = some x → ot ≠ some k → (kill (H4 ++ [.row 3 .own [[.int .i64 d]]]) ot ++ [.row 3 .loose (intEs (tgN gs (n + 1)))])[k]? = some x := fun k x hk hne => get_push (by rw [kill_off hne]; exact get_push hk _) _
    have e2 : OffB ip HA (kill (H4 ++ [.row 3 .own [[.int .i64 d]]]) ot ++ [.row 3 .loose (intEs (tgN gs (n + 1)))]) := ((hoff.push _).kill hot).push _
    have hl3 := hoff.1
    generalize kill (H4 ++ [.row 3 .own [[.int .i64 d]]]) ot ++ [.row 3 .loose (intEs (tgN gs (n + 1)))] = H5 at *
    have hip4 := e1 ip _ hip hnp
    have hn4 : H4.length + 1 ≠ ip := fun e => by have := get_lt hip; omega
    generalize hnb : pk8 r0 r1 r2 r3 (.sl (some ⟨H4.length + 1, 0, 0⟩) (n + 1) (n + 1)) r5 r6 r7 = nb at *
    have hst : stc H5 ⟨ip, 0, 4⟩ [.sl (some ⟨H4.length + 1, 0, 0⟩) (n + 1) (n + 1)] = some (H5.set ip nb) := by
      simp only [stc, hip4]
      rw [← hnb]
      simp [upd, okCells, VV.cell]
    have hrq5 : RowQ HA.length (H5.set ip nb) orr n vs (rowsG gs S) := by
      refine hrq0.keep fun k t es hes ht => ?_
      have hk2 : ot ≠ some k := fun e => by subst e; have := hg.2.1; rw [hes] at this; simp at this; exact ht this.1
      have hk3 : ip ≠ k := fun e => by subst e; rw [hip] at hes; cases hes
      rw [List.getElem?_set_ne hk3, e1 k _ hes hk2, hes]
    have hgc5 : Grow (H5.set ip nb) (.sl (gptr oc) gs.length gs.length) oc (colN gs n gs.length) := hgc.keep fun k e => by
      subst e
      have hk2 : ot ≠ some k := fun e2 => hoo k e2 rfl
      have hk3 : ip ≠ k := fun e2 => hcp (by rw [e2])
      rw [List.getElem?_set_ne hk3, e1 k _ hgc.2.1 hk2, hgc.2.1]
    have hg5 : Grow (H5.set ip nb) (.sl (some ⟨H4.length + 1, 0, 0⟩) (n + 1) (n + 1)) (some (H4.length + 1)) (tgN gs (n + 1)) := p3.keep fun k e => by cases e; exact List.getElem?_set_ne (Ne.symm hn4)
    have hip5 : (H5.set ip nb)[ip]? = some nb := List.getElem?_set_self (get_lt hip4)
    have hoff5 := e2.set nb
    refine VW.seq (VW.reg ?_)
    refine VOps.rd rfl rfl ?_
    refine VOps.rd (v := .sl (gptr ot) n n) rfl (by simp [lp]) ?_
    refine VOps.rd rfl rfl ?_
    refine VOps.ef (v := .sl (some ⟨H4.length, 0, 0⟩) 1 1) (H' := H4 ++ [.row 3 .own [[.int .i64 d]]]) rfl rfl ?_
    refine VOps.ef (v := .sl (some ⟨H4.length + 1, 0, 0⟩) (n + 1) (n + 1)) (H' := H5) rfl (by simp [p1, p2]) ?_
    refine VOps.rd rfl rfl ?_
    refine VOps.ef (v := .undef) (H' := H5.set ip nb) rfl (by simp [hst]) ?_
    refine VOps.nil ⟨rfl, ?_⟩
    clear hst p1 p2 p3 hg lp e1 e2 hrq0 hip hip4 hgc hoff hoo
    generalize H5.set ip nb = H6 at *
    have hid : HA.length ≤ H4.length + 1 := by omega
    generalize H4.length + 1 = id5 at *
    refine VW.seq (VW.reg ?_)
    refine VOps.rd rfl rfl ?_
    refine VOps.nil ⟨rfl, ?_⟩
    show VW _ _ _ _ [(1, .ptr (some ⟨j, 0, 0⟩)), (2, v2), (4, .ptr (some ⟨ip, 0, 0⟩)), (5, .sl (gptr orr) n n), (13, .int .i64 n), (14, .sl (gptr oc) gs.length gs.length), (16, .int .i64 d), (17, .sl none 0 0)] _ _
    refine VW.seq ?_
    refine VW.mono (refG_row hN hgc5.sl) ?_
    rintro e F2 H7 ⟨rfl, o, hcov, hx67, hg7, ho7⟩
    rw [← hrl, ← hrq] at hg7
    rw [← hrl, ← hrq] at hcov
    refine VW.sub hcov ?_
    clear hcov
    have hrq7 := hrq5.ext hx67
    have hoff7 : OffB ip HA H7 := hoff5.trans (.of_ext hx67)
    obtain ⟨H8, p1, p2, hrq8, hl8, hk8⟩ := hrq7.push (by omega) hg7 rfl (fun b e => Nat.le_trans hoff5.1 (ho7 b e)) hoff7.1
    have hip7 := hx67.get hip5
    rw [← hnb] at hip7
    have hnp7 : orr ≠ some ip := fun e => by
      subst e
      have := hrq7.blk.1
      rw [hip7] at this; cases this
    have hg7' := hg5.ext hx67
    have hnd7 : orr ≠ some id5 := fun e => by
      subst e
      have := hrq7.blk.1
      rw [hg7'.2.1] at this; cases this
    have hoff8 : OffB ip HA H8 := ⟨Nat.le_trans hoff7.1 hl8, fun k hk hne => by
      rw [hk8 k (Nat.lt_of_lt_of_le hk hoff7.1) (fun e => by have := hrq7.lo k e; omega)]; exact hoff7.2 k hk hne⟩
    refine VW.reg ?_
    refine VOps.rd rfl rfl ?_
    refine VOps.rd rfl rfl ?_
    refine VOps.ef (v := .sl (some ⟨H7.length, 0, 0⟩) 1 1) (H' := H7 ++ [.row 40 .own [[.sl (gptr o) ((rowsG gs S).getD n []).length ((rowsG gs S).getD n []).length]]]) rfl rfl ?_
    refine VOps.ef (v := .sl (some ⟨H7.length + 1, 0, 0⟩) (n + 1) (n + 1)) (H' := H8) rfl (by simp only [VEf.ev, Od.ev, Fr.pt, Fr.get, reduceIte, Nat.reduceEqDiff, p1, p2]) ?_
    refine VOps.rd rfl rfl ?_
    refine VOps.nil ⟨rfl, ?_⟩
    refine VW.reg ?_
    refine VOps.rd rfl rfl ?_
    refine VOps.rd rfl rfl ?_
    refine VOps.rd rfl rfl ?_
    refine VOps.nil ⟨rfl, S - (n + 1), by omega, n + 1, some (H7.length + 1), some id5, _, by omega, rfl, by simp [Cov, Fr.only, hvn, gptr], hoff8, ?_, hg7'.keep fun k e => by cases e; exact hk8 _ (get_lt hg7'.2.1) hnd7, fun b e => by cases e; exact hid, hrq8⟩
    rw [hk8 ip (get_lt hip7) hnp7, hip7]; rfl
  · have : n = S := by omega
    subst this
    refine VW.condF (by simp [Fr.only]) (VW.exit ?_)
    simp only [then_normal, then_ret, then_exit, inB_normal, inB_ret, inB_exit, reduceIte, Nat.reduceEqDiff]
    exact ⟨trivial, orr, ot, vs, by simp [Cov, Fr.only], hoff, hip, hg, hot, hrq0⟩
end
end Go.Proofs.Ytlclbfkdaemilaa

/- The document's Pack. -/
namespace Go.Proofs.Ytlclbfkdaemilaa
set_option linter.unusedSimpArgs false
set_option linter.unusedVariables false
open Go Go.Vm Go.Proofs
set_option maxRecDepth 100000
set_option maxHeartbeats 4000000

section
variable {H : Hp} {pa pg : Option PA} {ca cg : Nat} {al : List Edges} {gs : List (List Int)} {was wgs : List VV}
theorem pack24 (h : Den H pa pg al gs was wgs) : FnV Try.prog 24 [denV pa pg ca cg al gs] H fun r H' => ∃ o, PRes H H' o al gs ∧ r = .tup [.agg (pkA o al gs), .int .i64 (pkE al gs)] := by
  refine FnV.enterRow ok24 (by show 1 ≤ 193; decide) fun B => ?_
  dsimp only [w24]
  have hmx : maxLen = 9223372036854775807 := rfl
  -- boxes
  have hx1 : Ext H (H ++ [.row 53 .own [[.sl pa al.length ca, .sl pg gs.length cg]], pk8 nil1 nil1 nil1 nil1 nil1 nil1 nil1 nil1]) := .app _ _
  have hb1 : (H ++ [.row 53 .own [[.sl pa al.length ca, .sl pg gs.length cg]], pk8 nil1 nil1 nil1 nil1 nil1 nil1 nil1 nil1])[H.length]? = some (.row 53 .own [[.sl pa al.length ca, .sl pg gs.length cg]]) := by simp
  have hr1 : (H ++ [.row 53 .own [[.sl pa al.length ca, .sl pg gs.length cg]], pk8 nil1 nil1 nil1 nil1 nil1 nil1 nil1 nil1])[H.length + 1]? = some (pk8 nil1 nil1 nil1 nil1 nil1 nil1 nil1 nil1) := by simp
  refine VW.seq (VW.reg ?_)
  refine VOps.ef (v := .ptr (some ⟨H.length, 0, 0⟩)) (H' := H ++ [.row 53 .own [[.sl pa al.length ca, .sl pg gs.length cg]]]) rfl (by simp [argsF]) ?_
  refine VOps.ef (v := .ptr (some ⟨H.length + 1, 0, 0⟩)) (H' := H ++ [.row 53 .own [[.sl pa al.length ca, .sl pg gs.length cg]], pk8 nil1 nil1 nil1 nil1 nil1 nil1 nil1 nil1]) rfl (by simp) ?_
  refine VOps.rd rfl rfl ?_
  refine VOps.nil ⟨rfl, ?_⟩
  generalize H ++ [.row 53 .own [[.sl pa al.length ca, .sl pg gs.length cg]], pk8 nil1 nil1 nil1 nil1 nil1 nil1 nil1 nil1] = Hb at *
  show VW _ _ _ _ [(1, .ptr (some ⟨H.length, 0, 0⟩)), (2, .ptr (some ⟨H.length + 1, 0, 0⟩))] _ _
  have hb := h.ext hx1
  have l0 := ld_own hb1 0
  have l1 := ld_own hb1 1
  have l2 := lds_own hb1 0 2
  simp only [List.getElem?_cons_zero, List.getElem?_cons_succ] at l0 l1
  simp only [List.length_cons, List.length_nil, Nat.zero_add, Nat.le_refl, if_true, List.drop_zero, List.take_succ_cons, List.take_zero] at l2
  have hj : H.length < Hb.length := get_lt hb1
  have hj2 : H.length + 1 < Hb.length := get_lt hr1
  refine VW.seq (VW.seq (VW.reg ?_))
  refine VOps.rd (v := denV pa pg ca cg al gs) rfl (by simp [l2]) ?_
  refine VOps.call rfl rfl rfl ((may27 hb).mono ?_)
  rintro r H2 ⟨rfl, rfl⟩
  refine VOps.rd rfl rfl ?_
  refine VOps.nil ⟨rfl, ?_⟩
  refine VW.cond rfl (fun hc => ?_) (fun hc => ?_)
  · -- it may not
    have hm : mayD al gs = false := by simpa using hc
    have hlL : ∀ j, pkL al gs j = [] := fun j => by unfold pkL; rw [hm]; rfl
    have hst : stc H2 ⟨H.length + 1, 0, 0⟩ [nil1, nil1, nil1, nil1, nil1, nil1, nil1, nil1] = some (H2.set (H.length + 1) (pk8 nil1 nil1 nil1 nil1 nil1 nil1 nil1 nil1)) := by
      simp only [stc, hr1]
      simp [upd, okCells, VV.cell]
    have hfin := lds_own (H := H2.set (H.length + 1) (pk8 nil1 nil1 nil1 nil1 nil1 nil1 nil1 nil1)) (List.getElem?_set_self hj2) 0 8
    simp only [List.length_cons, List.length_nil, Nat.zero_add, Nat.le_refl, if_true, List.drop_zero, List.take_succ_cons, List.take_zero] at hfin
    refine VW.seq (VW.reg ?_)
    refine VOps.rd (v := .agg [nil1, nil1, nil1, nil1, nil1, nil1, nil1, nil1]) rfl rfl ?_
    refine VOps.ef (v := .undef) (H' := H2.set (H.length + 1) (pk8 nil1 nil1 nil1 nil1 nil1 nil1 nil1 nil1)) rfl (by simp [Fr.only, hst]) ?_
    refine VOps.rd rfl rfl ?_
    refine VOps.nil ⟨rfl, VW.ret ⟨.inl rfl, _, ?_, fun _ => none, ⟨hx1.set (by omega) _, fun j _ => by rw [hlL]; exact ⟨.inl rfl, rfl⟩, (fun j _ k e => by cases e), (fun j j' _ _ _ k e => by cases e)⟩, rfl⟩⟩
    unfold pkA pkE
    simp [resV, resL, Fr.only, hfin, hlL, hm, gptr]
  have hm : mayD al gs = true := by simpa using hc
  have ht := mayD_spec hm
  have e0 : pkL al gs 0 = dfN al al.length := by simp [pkL, hm]
  have e1 : pkL al gs 1 = layL (rowsA al) 0 := by simp [pkL, hm]
  have e2 : pkL al gs 2 = layL (rowsA al) 1 := by simp [pkL, hm]
  have e3 : pkL al gs 3 = layL (rowsA al) 2 := by simp [pkL, hm]
  have e4 : pkL al gs 4 = tgN gs (gs.getD 0 []).length := by simp [pkL, hm]
  have e5 : pkL al gs 5 = layL (rowsG gs (gs.getD 0 []).length) 0 := by simp [pkL, hm]
  have e6 : pkL al gs 6 = layL (rowsG gs (gs.getD 0 []).length) 1 := by simp [pkL, hm]
  have e7 : pkL al gs 7 = layL (rowsG gs (gs.getD 0 []).length) 2 := by simp [pkL, hm]
  have hE : pkE al gs = 0 := by unfold pkE; rw [if_pos hm]
  generalize hS : (gs.getD 0 []).length = S at *
  generalize hT : (al.getD 0 []).length = T at *
  have hn2 := ht.n2
  have hs2 := ht.s2
  have hng := ht.ng
  have hgs1 : 0 < gs.length := by have := ht.n1; omega
  refine VW.skip (VW.seq (VW.reg ?_))
  refine VOps.ef (v := .ptr (some ⟨H2.length, 0, 0⟩)) (H' := H2 ++ [pk8 nil1 nil1 nil1 nil1 nil1 nil1 nil1 nil1]) rfl rfl ?_
  refine VOps.nil ⟨rfl, ?_⟩
  show VW _ _ _ _ [(1, .ptr (some ⟨H.length, 0, 0⟩)), (2, .ptr (some ⟨H.length + 1, 0, 0⟩)), (4, .ptr (some ⟨H2.length, 0, 0⟩))] _ _
  have hxc : Ext H2 (H2 ++ [pk8 nil1 nil1 nil1 nil1 nil1 nil1 nil1 nil1]) := .app _ _
  have hipc : (H2 ++ [pk8 nil1 nil1 nil1 nil1 nil1 nil1 nil1 nil1])[H2.length]? = some (pk8 nil1 nil1 nil1 nil1 nil1 nil1 nil1 nil1) := by simp
  generalize H2 ++ [pk8 nil1 nil1 nil1 nil1 nil1 nil1 nil1 nil1] = Hc at *
  obtain ⟨ip, hipe⟩ : ∃ ip, ip = H2.length := ⟨_, rfl⟩
  rw [← hipe] at hipc ⊢
  refine VW.seq (VW.reg ?_)
  refine VOps.rd rfl rfl ?_
  refine VOps.nil ⟨rfl, ?_⟩
  show VW _ _ _ _ [(1, .ptr (some ⟨H.length, 0, 0⟩)), (2, .ptr (some ⟨H.length + 1, 0, 0⟩)), (4, .ptr (some ⟨ip, 0, 0⟩)), (5, nil1)] _ _
  refine VW.seq ?_
  refine VW.mono (refA hb l0 hxc hipc (Nat.le_of_eq hipe.symm) ht.n2 (fun q hq => by rw [ht.rt q hq]; exact ht.t2) (fun q hq k hk => mayA_range (by omega) (ht.ma q hq k (by rw [← ht.rt q hq]; exact hk)))) ?_
  clear hxc hipc
  rintro e F2 H3 ⟨rfl, orr, od, vs3, hcov, hx3, hip3, hg3, hod3, hrp3⟩
  refine VW.sub hcov ?_
  clear hcov
  have hrl : (rowsA al).length = al.length := by simp [rowsA]
  obtain ⟨hs3, hv3⟩ := hrp3.rowV hrl (fun k hk => by have := rowsA_len al k; have := ht.rt k hk; have := ht.t2; omega)
  have hl11 := lay11 (c := al.length) hs3 hv3 (by omega)
  rw [hrl] at hl11
  refine VW.seq (VW.reg ?_)
  refine VOps.rd rfl rfl ?_
  refine VOps.call rfl rfl rfl (hl11.mono ?_)
  rintro r H4 hlr
  obtain ⟨oA, hresA, rfl⟩ := lay_res (by decide) hlr
  clear hlr hl11 hs3 hv3 hrp3
  have hip4 := hresA.ext.get hip3
  have hst4 : stc H4 ⟨ip, 0, 1⟩ (resA oA (rowsA al)) = some (H4.set ip (pk8 (.sl (gptr od) al.length al.length) (.sl (gptr (oA 0)) (layL (rowsA al) 0).length (layL (rowsA al) 0).length) (.sl (gptr (oA 1)) (layL (rowsA al) 1).length (layL (rowsA al) 1).length) (.sl (gptr (oA 2)) (layL (rowsA al) 2).length (layL (rowsA al) 2).length) nil1 nil1 nil1 nil1)) := by
    have hk : okCells (resA oA (rowsA al)) = true := rfl
    simp only [stc, hip4, hk]
    simp [upd]
  refine VOps.rd rfl rfl ?_
  refine VOps.rd rfl rfl ?_
  refine VOps.rd rfl rfl ?_
  refine VOps.rd rfl rfl ?_
  refine VOps.ef (v := .undef) rfl (by simp only [VEf.ev, Od.ev, Fr.pt, Fr.get, reduceIte, Nat.reduceEqDiff, VV.defd, VV.cells, hst4]; simp; rfl) ?_
  refine VOps.nil ⟨rfl, ?_⟩
  show VW _ _ _ _ [(1, .ptr (some ⟨H.length, 0, 0⟩)), (2, .ptr (some ⟨H.length + 1, 0, 0⟩)), (4, .ptr (some ⟨ip, 0, 0⟩))] _ _
  have neD3 := (Own.of hg3).ne hip3 (by decide)
  have ltD : ∀ k, od = some k → k < H3.length := fun k e => (Own.of hg3).lt e
  have ownA4 : ∀ j, j < 3 → Own H4 (oA j) (layL (rowsA al) j) := fun j hj => ⟨hresA.sl j hj, hresA.wr j hj⟩
  have neA4 : ∀ j, j < 3 → oA j ≠ some ip := fun j hj => (ownA4 j hj).ne hip4 (by decide)
  generalize hA0 : layL (rowsA al) 0 = A0 at *
  generalize hA1 : layL (rowsA al) 1 = A1 at *
  generalize hA2 : layL (rowsA al) 2 = A2 at *
  generalize hD0 : dfN al al.length = D0 at *
  have hlD : D0.length = al.length := by rw [← hD0, dfN_len]
  have ownD : Own (H4.set ip (pk8 (.sl (gptr od) al.length al.length) (.sl (gptr (oA 0)) A0.length A0.length) (.sl (gptr (oA 1)) A1.length A1.length) (.sl (gptr (oA 2)) A2.length A2.length) nil1 nil1 nil1 nil1)) od D0 := ((Own.of hg3).ext hresA.ext).set neD3 _
  have ownA : ∀ j, j < 3 → Own (H4.set ip (pk8 (.sl (gptr od) al.length al.length) (.sl (gptr (oA 0)) A0.length A0.length) (.sl (gptr (oA 1)) A1.length A1.length) (.sl (gptr (oA 2)) A2.length A2.length) nil1 nil1 nil1 nil1)) (oA j) (layL (rowsA al) j) := fun j hj => (ownA4 j hj).set (neA4 j hj) _
  have hipA : (H4.set ip (pk8 (.sl (gptr od) al.length al.length) (.sl (gptr (oA 0)) A0.length A0.length) (.sl (gptr (oA 1)) A1.length A1.length) (.sl (gptr (oA 2)) A2.length A2.length) nil1 nil1 nil1 nil1))[ip]? = some (pk8 (.sl (gptr od) al.length al.length) (.sl (gptr (oA 0)) A0.length A0.length) (.sl (gptr (oA 1)) A1.length A1.length) (.sl (gptr (oA 2)) A2.length A2.length) nil1 nil1 nil1 nil1) := List.getElem?_set_self (get_lt hip4)
  have hxA : Ext H2 (H4.set ip (pk8 (.sl (gptr od) al.length al.length) (.sl (gptr (oA 0)) A0.length A0.length) (.sl (gptr (oA 1)) A1.length A1.length) (.sl (gptr (oA 2)) A2.length A2.length) nil1 nil1 nil1 nil1)) := (hx3.trans hresA.ext).set (Nat.le_of_eq hipe.symm) _
  have hlA : (H4.set ip (pk8 (.sl (gptr od) al.length al.length) (.sl (gptr (oA 0)) A0.length A0.length) (.sl (gptr (oA 1)) A1.length A1.length) (.sl (gptr (oA 2)) A2.length A2.length) nil1 nil1 nil1 nil1)).length = H4.length := by simp
  clear hst4
  generalize H4.set ip (pk8 (.sl (gptr od) al.length al.length) (.sl (gptr (oA 0)) A0.length A0.length) (.sl (gptr (oA 1)) A1.length A1.length) (.sl (gptr (oA 2)) A2.length A2.length) nil1 nil1 nil1 nil1) = HA at *
  -- the gotos
  have hlS : S ≤ 65 := ht.s2
  refine VW.seq (VW.reg ?_)
  refine VOps.rd rfl rfl ?_
  refine VOps.nil ⟨rfl, ?_⟩
  show VW _ _ _ _ [(1, .ptr (some ⟨H.length, 0, 0⟩)), (2, .ptr (some ⟨H.length + 1, 0, 0⟩)), (4, .ptr (some ⟨ip, 0, 0⟩)), (5, nil1)] _ _
  refine VW.seq ?_
  refine VW.mono (refG hb l1 hxA (OffB.refl ip HA) hipA (Nat.le_of_eq hipe.symm) (by omega) hgs1 hlS (fun q hq => ht.rs q (by omega))) ?_
  rintro e F2 H5 ⟨rfl, orr2, ot, vs5, hcov, hoff5, hip5, hg5, hot5, hrp5⟩
  refine VW.sub hcov ?_
  clear hcov
  have hrlg : (rowsG gs S).length = S := by simp [rowsG]
  obtain ⟨hs5, hv5⟩ := hrp5.rowV hrlg (fun k hk => by have := rowsG_len gs S k; omega)
  have hl11 := lay11 (c := S) hs5 hv5 (by omega)
  rw [hrlg] at hl11
  refine VW.seq (VW.reg ?_)
  refine VOps.rd rfl rfl ?_
  refine VOps.call rfl rfl rfl (hl11.mono ?_)
  rintro r H6 hlr
  obtain ⟨oG, hresG, rfl⟩ := lay_res (by decide) hlr
  clear hlr hl11 hs5 hv5 hrp5
  have hip6 := hresG.ext.get hip5
  have neT5 := (Own.of hg5).ne hip5 (by decide)
  have ltT : ∀ k, ot = some k → k < H5.length := fun k e => (Own.of hg5).lt e
  have ownG6 : ∀ j, j < 3 → Own H6 (oG j) (layL (rowsG gs S) j) := fun j hj => ⟨hresG.sl j hj, hresG.wr j hj⟩
  have neG6 : ∀ j, j < 3 → oG j ≠ some ip := fun j hj => (ownG6 j hj).ne hip6 (by decide)
  have keep5 : ∀ o l, Own HA o l → o ≠ some ip → Own H5 o l := fun o l ho hne => ho.keep fun k e => hoff5.2 k (ho.lt e) (fun e2 => hne (by rw [e, e2]))
  have ownD6 := (keep5 _ _ ownD neD3).ext hresG.ext
  have ownA6 : ∀ j, j < 3 → Own H6 (oA j) (layL (rowsA al) j) := fun j hj => (keep5 _ _ (ownA j hj) (neA4 j hj)).ext hresG.ext
  have ownT6 := (Own.of hg5).ext hresG.ext
  have hx26 : Ext H2 H6 := (hoff5.ext hxA (Nat.le_of_eq hipe.symm)).trans hresG.ext
  generalize hG0 : layL (rowsG gs S) 0 = G0 at *
  generalize hG1 : layL (rowsG gs S) 1 = G1 at *
  generalize hG2 : layL (rowsG gs S) 2 = G2 at *
  generalize hT0 : tgN gs S = T0 at *
  have hlT : T0.length = S := by rw [← hT0, tgN_len]
  have hst6 : stc H6 ⟨ip, 0, 5⟩ (resA oG (rowsG gs S)) = some (H6.set ip (pk8 (.sl (gptr od) al.length al.length) (.sl (gptr (oA 0)) A0.length A0.length) (.sl (gptr (oA 1)) A1.length A1.length) (.sl (gptr (oA 2)) A2.length A2.length) (.sl (gptr ot) S S) (.sl (gptr (oG 0)) G0.length G0.length) (.sl (gptr (oG 1)) G1.length G1.length) (.sl (gptr (oG 2)) G2.length G2.length))) := by
    have hk : okCells (resA oG (rowsG gs S)) = true := rfl
    simp only [stc, hip6, hk]
    simp [upd, resA, hG0, hG1, hG2]
  refine VOps.rd rfl rfl ?_
  refine VOps.rd rfl rfl ?_
  refine VOps.rd rfl rfl ?_
  refine VOps.rd rfl rfl ?_
  refine VOps.ef (v := .undef) rfl (by simp only [VEf.ev, Od.ev, Fr.pt, Fr.get, reduceIte, Nat.reduceEqDiff, VV.defd, VV.cells, hst6]; simp; rfl) ?_
  refine VOps.nil ⟨rfl, ?_⟩
  show VW _ _ _ _ [(2, .ptr (some ⟨H.length + 1, 0, 0⟩)), (4, .ptr (some ⟨ip, 0, 0⟩))] _ _
  have hr6 := hx26.get hr1
  have hjp : ip ≠ H.length + 1 := by omega
  generalize hnb : pk8 (.sl (gptr od) al.length al.length) (.sl (gptr (oA 0)) A0.length A0.length) (.sl (gptr (oA 1)) A1.length A1.length) (.sl (gptr (oA 2)) A2.length A2.length) (.sl (gptr ot) S S) (.sl (gptr (oG 0)) G0.length G0.length) (.sl (gptr (oG 1)) G1.length G1.length) (.sl (gptr (oG 2)) G2.length G2.length) = nb at *
  have hip7 : (H6.set ip nb)[ip]? = some nb := List.getElem?_set_self (get_lt hip6)
  have hr7 : (H6.set ip nb)[H.length + 1]? = some (pk8 nil1 nil1 nil1 nil1 nil1 nil1 nil1 nil1) := by rw [List.getElem?_set_ne hjp]; exact hr6
  have keep8 : ∀ o l, Own H6 o l → o ≠ some ip → Own ((H6.set ip nb).set (H.length + 1) nb) o l := fun o l ho hne => (ho.set hne nb).set ((ho.set hne nb).ne hr7 (by decide)) nb
  rw [← hnb] at hip7
  have l8 := lds_own hip7 0 8
  simp only [List.length_cons, List.length_nil, Nat.zero_add, Nat.le_refl, if_true, List.drop_zero, List.take_succ_cons, List.take_zero] at l8
  rw [hnb] at l8
  have hst8 : stc (H6.set ip nb) ⟨H.length + 1, 0, 0⟩ [.sl (gptr od) al.length al.length, .sl (gptr (oA 0)) A0.length A0.length, .sl (gptr (oA 1)) A1.length A1.length, .sl (gptr (oA 2)) A2.length A2.length, .sl (gptr ot) S S, .sl (gptr (oG 0)) G0.length G0.length, .sl (gptr (oG 1)) G1.length G1.length, .sl (gptr (oG 2)) G2.length G2.length] = some ((H6.set ip nb).set (H.length + 1) nb) := by
    simp only [stc, hr7]
    rw [← hnb]
    simp [upd, okCells, VV.cell]
  have hj8 : H.length + 1 < (H6.set ip nb).length := by have := hx26.1; simp; omega
  have hx8 : Ext H ((H6.set ip nb).set (H.length + 1) nb) := ((hx1.trans hx26).set (by omega) nb).set (by omega) nb
  have hfin : ((H6.set ip nb).set (H.length + 1) nb)[H.length + 1]? = some nb := List.getElem?_set_self hj8
  rw [← hnb] at hfin
  have lf := lds_own hfin 0 8
  simp only [List.length_cons, List.length_nil, Nat.zero_add, Nat.le_refl, if_true, List.drop_zero, List.take_succ_cons, List.take_zero] at lf
  rw [hnb] at lf
  refine VW.seq (VW.reg ?_)
  refine VOps.rd (v := .agg [.sl (gptr od) al.length al.length, .sl (gptr (oA 0)) A0.length A0.length, .sl (gptr (oA 1)) A1.length A1.length, .sl (gptr (oA 2)) A2.length A2.length, .sl (gptr ot) S S, .sl (gptr (oG 0)) G0.length G0.length, .sl (gptr (oG 1)) G1.length G1.length, .sl (gptr (oG 2)) G2.length G2.length]) rfl (by simp [l8]) ?_
  refine VOps.ef (v := .undef) (H' := (H6.set ip nb).set (H.length + 1) nb) rfl (by simp [hst8]) ?_
  refine VOps.rd rfl rfl ?_
  have hHl := hx3.1
  have hH34 := hresA.ext.1
  have hH5 := hoff5.1
  have hH56 := hresG.ext.1
  refine VOps.nil ⟨rfl, VW.ret ⟨.inl rfl, .tup [.agg [.sl (gptr od) al.length al.length, .sl (gptr (oA 0)) A0.length A0.length, .sl (gptr (oA 1)) A1.length A1.length, .sl (gptr (oA 2)) A2.length A2.length, .sl (gptr ot) S S, .sl (gptr (oG 0)) G0.length G0.length, .sl (gptr (oG 1)) G1.length G1.length, .sl (gptr (oG 2)) G2.length G2.length], .int .i64 0], ?_,
    fun j => match j with | 0 => od | 1 => oA 0 | 2 => oA 1 | 3 => oA 2 | 4 => ot | 5 => oG 0 | 6 => oG 1 | 7 => oG 2 | _ => none, ⟨hx8, fun j hj => ?_, fun j hj k hk => ?_, ?_⟩, ?_⟩⟩
  · simp [resV, resL, Fr.only, lf]
  · match j, hj with
    | 0, _ => rw [e0]; exact keep8 _ _ ownD6 neD3
    | 1, _ => rw [e1, ← hA0]; exact keep8 _ _ (ownA6 0 (by omega)) (neA4 0 (by omega))
    | 2, _ => rw [e2, ← hA1]; exact keep8 _ _ (ownA6 1 (by omega)) (neA4 1 (by omega))
    | 3, _ => rw [e3, ← hA2]; exact keep8 _ _ (ownA6 2 (by omega)) (neA4 2 (by omega))
    | 4, _ => rw [e4]; exact keep8 _ _ ownT6 neT5
    | 5, _ => rw [e5, ← hG0]; exact keep8 _ _ (ownG6 0 (by omega)) (neG6 0 (by omega))
    | 6, _ => rw [e6, ← hG1]; exact keep8 _ _ (ownG6 1 (by omega)) (neG6 1 (by omega))
    | 7, _ => rw [e7, ← hG2]; exact keep8 _ _ (ownG6 2 (by omega)) (neG6 2 (by omega))
  · match j, hj with
    | 0, _ => have := hod3 k hk; omega
    | 1, _ => have := hresA.lo 0 (by omega) k hk; omega
    | 2, _ => have := hresA.lo 1 (by omega) k hk; omega
    | 3, _ => have := hresA.lo 2 (by omega) k hk; omega
    | 4, _ => have := hot5 k hk; omega
    | 5, _ => have := hresG.lo 0 (by omega) k hk; omega
    | 6, _ => have := hresG.lo 1 (by omega) k hk; omega
    | 7, _ => have := hresG.lo 2 (by omega) k hk; omega
  · refine ne8 (a1 := H3.length) (a2 := HA.length) (a3 := H5.length) (fun k e => ltD k e) (fun j h1 h3 k e => ?_) (fun k e => ⟨hot5 k e, ltT k e⟩) (fun j h1 h3 k e => ?_) (by omega) (by omega) (fun j j' h1 h2 h3 h4 hne k e => ?_) (fun j j' h1 h2 h3 h4 hne k e => ?_)
    · have c : j = 1 ∨ j = 2 ∨ j = 3 := by omega
      rw [hlA]
      rcases c with rfl | rfl | rfl
      · exact ⟨hresA.lo 0 (by omega) k e, hresA.hi 0 (by omega) k e⟩
      · exact ⟨hresA.lo 1 (by omega) k e, hresA.hi 1 (by omega) k e⟩
      · exact ⟨hresA.lo 2 (by omega) k e, hresA.hi 2 (by omega) k e⟩
    · have c : j = 5 ∨ j = 6 ∨ j = 7 := by omega
      rcases c with rfl | rfl | rfl
      · exact hresG.lo 0 (by omega) k e
      · exact hresG.lo 1 (by omega) k e
      · exact hresG.lo 2 (by omega) k e
    · have c : j = 1 ∨ j = 2 ∨ j = 3 := by omega
      have c' : j' = 1 ∨ j' = 2 ∨ j' = 3 := by omega
      rcases c with rfl | rfl | rfl <;> rcases c' with rfl | rfl | rfl
      · exact absurd rfl hne
      · exact hresA.ne 0 1 (by omega) (by omega) (by omega) k e
      · exact hresA.ne 0 2 (by omega) (by omega) (by omega) k e
      · exact hresA.ne 1 0 (by omega) (by omega) (by omega) k e
      · exact absurd rfl hne
      · exact hresA.ne 1 2 (by omega) (by omega) (by omega) k e
      · exact hresA.ne 2 0 (by omega) (by omega) (by omega) k e
      · exact hresA.ne 2 1 (by omega) (by omega) (by omega) k e
      · exact absurd rfl hne
    · have c : j = 5 ∨ j = 6 ∨ j = 7 := by omega
      have c' : j' = 5 ∨ j' = 6 ∨ j' = 7 := by omega
      rcases c with rfl | rfl | rfl <;> rcases c' with rfl | rfl | rfl
      · exact absurd rfl hne
      · exact hresG.ne 0 1 (by omega) (by omega) (by omega) k e
      · exact hresG.ne 0 2 (by omega) (by omega) (by omega) k e
      · exact hresG.ne 1 0 (by omega) (by omega) (by omega) k e
      · exact absurd rfl hne
      · exact hresG.ne 1 2 (by omega) (by omega) (by omega) k e
      · exact hresG.ne 2 0 (by omega) (by omega) (by omega) k e
      · exact hresG.ne 2 1 (by omega) (by omega) (by omega) k e
      · exact absurd rfl hne
  · unfold pkA
    rw [e0, e1, e2, e3, e4, e5, e6, e7, hE, hlD, hlT]
    rfl
end
end Go.Proofs.Ytlclbfkdaemilaa

/- A table in memory of its own. -/
namespace Go.Proofs.Ytlclbfkdaemilaa
set_option linter.unusedSimpArgs false
set_option linter.unusedVariables false
open Go Go.Vm Go.Proofs
set_option maxRecDepth 100000
set_option maxHeartbeats 4000000

/-- a copied list -/
def CopyR (H : Hp) (p : Option PA) (z : Nat) (t : TypeId) (es : List (List VV)) : Prop := es = [] ∨ ∃ b, p = some ⟨b, 0, 0⟩ ∧ H[b]? = some (.row t .loose es) ∧ ∀ e ∈ es, e.length = z
theorem CopyR.sl {H : Hp} {p : Option PA} {z : Nat} {t : TypeId} {es : List (List VV)} (h : CopyR H p z t es) : Sl H p z es := by
  rcases h with h | ⟨b, h1, h2, h3⟩
  · exact .inl h
  · exact .inr ⟨b, 0, _, _, _, h1, h2, h3, fun k e hk => by rw [Nat.zero_add]; exact hk⟩
theorem CopyR.keep {H H' : Hp} {p : Option PA} {z : Nat} {t : TypeId} {es : List (List VV)} (h : CopyR H p z t es) (hk : ∀ (k : Nat) (l : List (List VV)), H[k]? = some (.row t .loose l) → H'[k]? = H[k]?) : CopyR H' p z t es := by
  rcases h with h | ⟨b, h1, h2, h3⟩
  · exact .inl h
  · exact .inr ⟨b, h1, by rw [hk b _ h2]; exact h2, h3⟩
theorem copy_row2 {H : Hp} {t : TypeId} {z : Nat} {es : List (List VV)} {p : Option PA} {c bytes : Nat} (h : Sl H p z es) (hz : ∀ e ∈ es, e.length = z) (hb : es.length * bytes ≤ 140737488355328) (h2 : es.length < 4611686018427387904) :
    ∃ q A, srcEls (H ++ [.row t .own []]) z (.sl p es.length c) = some es ∧ appV (H ++ [.row t .own []]) t z bytes (some ⟨H.length, 0, 0⟩) 0 0 es = some (.sl (some q) es.length es.length, A) ∧ CopyR A (some q) z t es ∧ Ext H A ∧ ∃ G, A = (H ++ [.row t .own []]) ++ G := by
  have hsrc := sl_src (c := c) (h.mono [.row t .own []])
  by_cases he : es = []
  · subst he
    exact ⟨⟨H.length, 0, 0⟩, H ++ [.row t .own []], hsrc, by simp [appV], .inl rfl, .app _ _, [], by simp⟩
  · have hpos : 0 < es.length := List.length_pos_iff.2 he
    have hb1 : (H ++ [Blk.row t .own []])[H.length]? = some (.row t .own []) := by simp
    refine ⟨⟨H.length + 1, 0, 0⟩, (H ++ [.row t .own []]) ++ [.row t .loose es], hsrc, ?_, ?_, (Ext.app _ _).push _, _, rfl⟩
    · unfold appV
      simp only [Nat.zero_add]
      rw [if_neg (by omega), if_pos ⟨hb, by omega⟩]
      simp only [hb1, srcEls]
      simp
    · exact .inr ⟨H.length + 1, rfl, by simp, hz⟩

/-- lists of copied lists -/
structure DenC (B0 : Nat) (H : Hp) (tt : TypeId) (z : Nat) (t : TypeId) (oo : Option Nat) (q : Nat) (vs : List VV) (es : Nat → List (List VV)) : Prop where
  blk : GrowR H tt 1 oo (vs.map fun v => [v])
  len : vs.length = q
  done : ∀ k, k < q → ∃ p, vs[k]? = some (.sl (some p) (es k).length (es k).length) ∧ CopyR H (some p) z t (es k)
  lo : ∀ b, oo = some b → B0 ≤ b
section
variable {B0 : Nat} {H H' : Hp} {tt t : TypeId} {z : Nat} {oo : Option Nat} {q : Nat} {vs : List VV} {es : Nat → List (List VV)}
theorem DenC.keep (h : DenC B0 H tt z t oo q vs es) (hk : ∀ (k : Nat) (u : TypeId) (l : List (List VV)), (u = tt ∨ u = t) → H[k]? = some (.row u .loose l) → H'[k]? = H[k]?) : DenC B0 H' tt z t oo q vs es :=
  ⟨h.blk.keep fun b e => by subst e; exact hk b _ _ (.inl rfl) h.blk.1, h.len, fun k hkq => let ⟨p, h1, h2⟩ := h.done k hkq; ⟨p, h1, h2.keep fun b l e => hk b _ l (.inr rfl) e⟩, h.lo⟩
theorem DenC.ext (h : DenC B0 H tt z t oo q vs es) (hx : Ext H H') : DenC B0 H' tt z t oo q vs es := h.keep fun k u l _ hk => hx.2 k (get_lt hk)
theorem DenC.nil : DenC B0 H tt z t none 0 [] es := ⟨rfl, rfl, fun k hk => by omega, fun b e => by cases e⟩
theorem DenC.push (h : DenC B0 H tt z t oo q vs es) (htt : tt ≠ t) (hq : (q + 1) * 24 ≤ 140737488355328) {p : PA} {n : Nat} (hn : n = (es q).length) (hc : CopyR H (some p) z t (es q)) (hB : B0 ≤ H.length) :
    ∃ H', srcEls (H ++ [.row tt .own [[.sl (some p) n n]]]) 1 (.sl (some ⟨H.length, 0, 0⟩) 1 1) = some [[.sl (some p) n n]] ∧
      appV (H ++ [.row tt .own [[.sl (some p) n n]]]) tt 1 24 (gptr oo) q q [[.sl (some p) n n]] = some (.sl (some ⟨H.length + 1, 0, 0⟩) (q + 1) (q + 1), H') ∧
      DenC B0 H' tt z t (some (H.length + 1)) (q + 1) (vs ++ [.sl (some p) n n]) es ∧ H.length ≤ H'.length ∧ ∀ k, k < H.length → oo ≠ some k → H'[k]? = H[k]? := by
  have hl := h.len
  obtain ⟨p1, p2, p3⟩ := h.blk.push (new := [.sl (some p) n n]) rfl (bytes := 24) (by rw [List.length_map, hl]; omega) (by rw [List.length_map, hl]; omega)
  rw [List.length_map, hl] at p2
  have hks : ∀ k, k < H.length → oo ≠ some k → (kill (H ++ [.row tt .own [[.sl (some p) n n]]]) oo ++ [.row tt .loose ((vs.map fun v => [v]) ++ [[.sl (some p) n n]])])[k]? = H[k]? := fun k hk hne => by
    rw [List.getElem?_append_left (by rw [kill_len]; simp; omega), kill_off hne, List.getElem?_append_left hk]
  have hne : ∀ (k : Nat) (l : List (List VV)), H[k]? = some (.row t .loose l) → oo ≠ some k := fun k l hk e => by
    subst e
    have := h.blk.1
    rw [hk] at this
    simp at this
    exact htt this.1.symm
  refine ⟨_, p1, p2, ⟨?_, by simp [hl], fun k hk => ?_, fun b e => by cases e; omega⟩, by simp [kill_len]; omega, hks⟩
  · rw [List.map_append]; exact p3
  · by_cases e : k = q
    · subst e
      exact ⟨p, by rw [List.getElem?_append_right (by omega), hl, Nat.sub_self, ← hn]; rfl, hc.keep fun b l e => hks b (get_lt e) (hne b l e)⟩
    · obtain ⟨p', h1, h2⟩ := h.done k (by omega)
      exact ⟨p', by rw [List.getElem?_append_left (by omega)]; exact h1, h2.keep fun b l e => hks b (get_lt e) (hne b l e)⟩
end

section
variable {B : Nat} {Hb H : Hp} {v2 : VV} {j jo ca cg : Nat} {al : List Edges} {gs : List (List Int)} {pa pg : Option PA} {was wgs : List VV} {x0 x1 : VV}
theorem den0 (h : Den Hb pa pg al gs was wgs) (l0 : ld Hb ⟨j, 0, 0⟩ = some (.sl pa al.length ca)) (hlo : Hb.length ≤ jo)
    (hN : al.length * 24 ≤ 140737488355328) (hR : ∀ k, k < al.length → (al.getD k []).length * 16 ≤ 140737488355328) (hx : Ext Hb H) (hjo : H[jo]? = some (.row 53 .own [[nil1, x1]])) :
    VW Try.prog B 45 (VC.l (VC.r (VC.r w22.vc))) [(1, .ptr (some ⟨j, 0, 0⟩)), (2, v2), (3, .ptr (some ⟨jo, 0, 0⟩))] H
      fun e F2 H' => e = .normal ∧ Cov [(1, .ptr (some ⟨j, 0, 0⟩)), (2, v2), (3, .ptr (some ⟨jo, 0, 0⟩))] F2 ∧ Ext Hb H' ∧ H.length ≤ H'.length ∧ (∀ k, k < H.length → k ≠ jo → H'[k]? = H[k]?) ∧ ∃ oa vs,
        H'[jo]? = some (.row 53 .own [[.sl (gptr oa) al.length al.length, x1]]) ∧ DenC H.length H' 60 2 46 oa al.length vs (fun k => edgeEs (al.getD k [])) := by
  dsimp only [w22, VC.l, VC.r]
  generalize hn : al.length = N at *
  refine VW.seq (VW.reg ?_)
  refine VOps.rd rfl rfl ?_
  refine VOps.nil ⟨rfl, ?_⟩
  show VW _ _ _ _ [(1, .ptr (some ⟨j, 0, 0⟩)), (2, v2), (3, .ptr (some ⟨jo, 0, 0⟩)), (4, .int .i64 0)] _ _
  refine VW.block ?_
  refine VW.loop (fun m F' H' => ∃ (k : Nat) (oa : Option Nat) (vs : List VV), k ≤ N ∧ m = N - k ∧ Cov [(1, .ptr (some ⟨j, 0, 0⟩)), (2, v2), (3, .ptr (some ⟨jo, 0, 0⟩)), (4, .int .i64 k)] F' ∧ OffB jo H H' ∧
      H'[jo]? = some (.row 53 .own [[.sl (gptr oa) k k, x1]]) ∧ DenC H.length H' 60 2 46 oa k vs (fun k => edgeEs (al.getD k []))) N
    ⟨0, none, [], by omega, rfl, by simp [Cov, Fr.only], .refl _ _, hjo, .nil⟩ ?_
  clear hjo
  rintro m F' H2 ⟨k, oa, vs, hk, rfl, hcov, hoff, hjo, hdc⟩
  refine VW.sub hcov ?_
  clear hcov
  have hx2 := hoff.ext hx hlo
  have n0 := ext_ld hx2 l0
  refine VW.seq (VW.seq (VW.reg ?_))
  refine VOps.rd rfl rfl ?_
  refine VOps.rd rfl rfl ?_
  refine VOps.rd (v := .sl pa N ca) rfl (by simp [n0]) ?_
  refine VOps.rd rfl rfl ?_
  refine VOps.rd rfl rfl ?_
  refine VOps.nil ⟨rfl, ?_⟩
  by_cases hlt : k < N
  · have hvk := wrap_id (x := (k : Int) + 1) (by omega) (by omega)
    obtain ⟨pq, pk, ck, hpq, a1, a2, a3, a4⟩ := row_at (h.ext hx2).sa (h.ext hx2).ra (k := k) (by omega)
    have hRk := hR k (by omega)
    have hmx : maxLen = 9223372036854775807 := rfl
    obtain ⟨q2, A, s1, s2, s3, s4, G, hG⟩ := copy_row2 (t := 46) (c := ck) (bytes := 16) a3 (edge_len2 _) (by rw [edgeEs_len]; exact hRk) (by rw [edgeEs_len]; omega)
    rw [edgeEs_len] at s1 s2
    have hjlt := get_lt hjo
    have hdA := hdc.ext s4
    have hl2 := hoff.1
    have hl2A := s4.1
    obtain ⟨H8, p1, p2, hd8, hl8, hk8⟩ := hdA.push (p := q2) (n := (al.getD k []).length) (by decide) (by omega) (by rw [edgeEs_len]) s3 (by omega)
    have hjA := s4.get hjo
    have hnj : oa ≠ some jo := fun e => by
      subst e
      have := hdA.blk.1
      rw [hjA] at this; cases this
    have hj8 : H8[jo]? = some (.row 53 .own [[.sl (gptr oa) k k, x1]]) := by rw [hk8 jo (get_lt hjA) hnj]; exact hjA
    have hoff8 : OffB jo H H8 := ⟨by omega, fun z hz hne => by
      rw [hk8 z (by omega) (fun e => by have := hdA.lo z e; omega), s4.2 z (by omega)]; exact hoff.2 z hz hne⟩
    have hst : stc H8 ⟨jo, 0, 0⟩ [.sl (some ⟨A.length + 1, 0, 0⟩) (k + 1) (k + 1)] = some (H8.set jo (.row 53 .own [[.sl (some ⟨A.length + 1, 0, 0⟩) (k + 1) (k + 1), x1]])) := by
      simp only [stc, hj8]
      simp [upd, okCells, VV.cell]
    have hd9 : DenC H.length (H8.set jo (.row 53 .own [[.sl (some ⟨A.length + 1, 0, 0⟩) (k + 1) (k + 1), x1]])) 60 2 46 (some (A.length + 1)) (k + 1) (vs ++ [.sl (some q2) (al.getD k []).length (al.getD k []).length]) (fun k => edgeEs (al.getD k [])) :=
      hd8.keep fun z u l hu hz => List.getElem?_set_ne (fun e => by rw [← e, hj8] at hz; cases hz)
    have hx1 : Ext H2 (H2 ++ [.row 46 .own []]) := .app _ _
    have m0 := ext_ld hx1 n0
    have m1 := ext_ixp hx1 a1
    have m2 := ext_ld hx1 a2
    have j0 := ld_own hjo 0
    have j1 := ld_own (hx1.get hjo) 0
    have jA := ld_own hjA 0
    have jA2 := ld_own (get_push hjA [.row 60 .own [[.sl (some q2) (al.getD k []).length (al.getD k []).length]]]) 0
    simp only [List.getElem?_cons_zero, List.getElem?_cons_succ] at j0 j1 jA jA2
    refine VW.condT (by simp [Fr.only, hlt]) (VW.skip ?_)
    show VW _ _ _ _ [(1, .ptr (some ⟨j, 0, 0⟩)), (2, v2), (3, .ptr (some ⟨jo, 0, 0⟩)), (4, .int .i64 k), (10, _)] _ _
    generalize (al.getD k []).length = ln at *
    refine VW.seq (VW.block ?_)
    refine VW.mono (Q := fun e F2 H' => e = .normal ∧ Cov [(1, .ptr (some ⟨j, 0, 0⟩)), (2, v2), (3, .ptr (some ⟨jo, 0, 0⟩)), (4, .int .i64 k)] F2 ∧ H' = H8.set jo (.row 53 .own [[.sl (some ⟨A.length + 1, 0, 0⟩) (k + 1) (k + 1), x1]])) ?_ ?_
    · refine VW.dreg [H2, H2 ++ [.row 46 .own []], A, A ++ [.row 60 .own [[.sl (some q2) ln ln]]], H8, H8.set jo (.row 53 .own [[.sl (some ⟨A.length + 1, 0, 0⟩) (k + 1) (k + 1), x1]])] mixed rfl ?_
      refine VX.rdp rfl (fun _ => rfl) ?_
      refine VX.rdd (v := .sl (gptr oa) k k) (k := 0) rfl rfl rfl rfl rfl rfl (by simp [Fr.only, j0]) (by simp [Fr.only, j1]) (by simp [Fr.only, jA]) (by simp [Fr.only, jA2]) ?_
      refine VX.ef1 (v := .sl (some ⟨H2.length, 0, 0⟩) 0 0) (H' := H2 ++ [.row 46 .own []]) rfl rfl rfl ?_
      refine VX.rdp rfl (fun _ => rfl) ?_
      refine VX.rdb (v := .sl pa N ca) (k := 0) rfl rfl rfl rfl (by simp [Fr.only, n0]) (by simp [Fr.only, m0]) ?_
      refine VX.rdp rfl (fun _ => rfl) ?_
      refine VX.rdb (v := .ptr (some (elp (some pq) k))) (k := 0) rfl rfl rfl rfl (by simp [Fr.only, hpq, a1, hlt]) (by simp [Fr.only, hpq, m1, hlt]) ?_
      refine VX.rdb (v := .sl pk ln ck) (k := 0) rfl rfl rfl rfl (by simp [a2]) (by simp [m2]) ?_
      refine VX.ef1 (v := .sl (some q2) ln ln) (H' := A) rfl rfl (by simp only [VEf.ev, Od.ev, Fr.pt, Fr.get, reduceIte, Nat.reduceEqDiff, s1, s2]) ?_
      refine VX.ef1 (v := .sl (some ⟨A.length, 0, 0⟩) 1 1) (H' := A ++ [.row 60 .own [[.sl (some q2) ln ln]]]) rfl rfl rfl ?_
      refine VX.ef1 (v := .sl (some ⟨A.length + 1, 0, 0⟩) (k + 1) (k + 1)) (H' := H8) rfl rfl (by simp only [VEf.ev, Od.ev, Fr.pt, Fr.get, reduceIte, Nat.reduceEqDiff, p1, p2]) ?_
      refine VX.rdp rfl (fun _ => rfl) ?_
      refine VX.ef1 (v := .undef) rfl rfl (by simp [Fr.only, hst]) ?_
      exact VX.nil ⟨rfl, by simp [Cov, Fr.only], rfl⟩
    rintro e F2 H9 ⟨rfl, hcov, rfl⟩
    refine VW.sub hcov (VW.reg ?_)
    refine VOps.rd rfl rfl ?_
    refine VOps.rd rfl rfl ?_
    refine VOps.rd rfl rfl ?_
    exact VOps.nil ⟨rfl, N - (k + 1), by omega, k + 1, some (A.length + 1), _, by omega, rfl, by simp [Cov, Fr.only, hvk], hoff8.set _, List.getElem?_set_self (get_lt hj8), hd9⟩
  · have : k = N := by omega
    subst this
    refine VW.condF (by simp [Fr.only]) (VW.exit ?_)
    simp only [then_normal, then_ret, then_exit, inB_normal, inB_ret, inB_exit, reduceIte, Nat.reduceEqDiff]
    exact ⟨trivial, by simp [Cov, Fr.only], hx2, hoff.1, hoff.2, oa, vs, hjo, hdc⟩
end

section
variable {B : Nat} {Hb H : Hp} {v2 : VV} {j jo ca cg : Nat} {al : List Edges} {gs : List (List Int)} {pa pg : Option PA} {was wgs : List VV} {x0 x1 : VV}
theorem den1 (h : Den Hb pa pg al gs was wgs) (l0 : ld Hb ⟨j, 0, 1⟩ = some (.sl pg gs.length cg)) (hlo : Hb.length ≤ jo)
    (hN : gs.length * 24 ≤ 140737488355328) (hR : ∀ k, k < gs.length → (gs.getD k []).length * 8 ≤ 140737488355328) (hx : Ext Hb H) (hjo : H[jo]? = some (.row 53 .own [[x0, nil1]])) :
    VW Try.prog B 45 (VC.l (VC.r (VC.r (VC.r w22.vc)))) [(1, .ptr (some ⟨j, 0, 0⟩)), (2, v2), (3, .ptr (some ⟨jo, 0, 0⟩))] H
      fun e F2 H' => e = .normal ∧ Cov [(1, .ptr (some ⟨j, 0, 0⟩)), (2, v2), (3, .ptr (some ⟨jo, 0, 0⟩))] F2 ∧ Ext Hb H' ∧ H.length ≤ H'.length ∧ (∀ k, k < H.length → k ≠ jo → H'[k]? = H[k]?) ∧ ∃ oa vs,
        H'[jo]? = some (.row 53 .own [[x0, .sl (gptr oa) gs.length gs.length]]) ∧ DenC H.length H' 24 1 3 oa gs.length vs (fun k => intEs (gs.getD k [])) := by
  dsimp only [w22, VC.l, VC.r]
  generalize hn : gs.length = N at *
  refine VW.seq (VW.reg ?_)
  refine VOps.rd rfl rfl ?_
  refine VOps.nil ⟨rfl, ?_⟩
  show VW _ _ _ _ [(1, .ptr (some ⟨j, 0, 0⟩)), (2, v2), (3, .ptr (some ⟨jo, 0, 0⟩)), (5, .int .i64 0)] _ _
  refine VW.block ?_
  refine VW.loop (fun m F' H' => ∃ (k : Nat) (oa : Option Nat) (vs : List VV), k ≤ N ∧ m = N - k ∧ Cov [(1, .ptr (some ⟨j, 0, 0⟩)), (2, v2), (3, .ptr (some ⟨jo, 0, 0⟩)), (5, .int .i64 k)] F' ∧ OffB jo H H' ∧
      H'[jo]? = some (.row 53 .own [[x0, .sl (gptr oa) k k]]) ∧ DenC H.length H' 24 1 3 oa k vs (fun k => intEs (gs.getD k []))) N
    ⟨0, none, [], by omega, rfl, by simp [Cov, Fr.only], .refl _ _, hjo, .nil⟩ ?_
  clear hjo
  rintro m F' H2 ⟨k, oa, vs, hk, rfl, hcov, hoff, hjo, hdc⟩
  refine VW.sub hcov ?_
  clear hcov
  have hx2 := hoff.ext hx hlo
  have n0 := ext_ld hx2 l0
  refine VW.seq (VW.seq (VW.reg ?_))
  refine VOps.rd rfl rfl ?_
  refine VOps.rd rfl rfl ?_
  refine VOps.rd (v := .sl pg N cg) rfl (by simp [n0]) ?_
  refine VOps.rd rfl rfl ?_
  refine VOps.rd rfl rfl ?_
  refine VOps.nil ⟨rfl, ?_⟩
  by_cases hlt : k < N
  · have hvk := wrap_id (x := (k : Int) + 1) (by omega) (by omega)
    obtain ⟨pq, pk, ck, hpq, a1, a2, a3, a4⟩ := rowI_at (h.ext hx2).sg (h.ext hx2).rg (k := k) (by omega)
    have hRk := hR k (by omega)
    have hmx : maxLen = 9223372036854775807 := rfl
    obtain ⟨q2, A, s1, s2, s3, s4, G, hG⟩ := copy_row2 (t := 3) (c := ck) (bytes := 8) a3 (int_len1 _) (by rw [intEs_len]; exact hRk) (by rw [intEs_len]; omega)
    rw [intEs_len] at s1 s2
    have hjlt := get_lt hjo
    have hdA := hdc.ext s4
    have hl2 := hoff.1
    have hl2A := s4.1
    obtain ⟨H8, p1, p2, hd8, hl8, hk8⟩ := hdA.push (p := q2) (n := (gs.getD k []).length) (by decide) (by omega) (by rw [intEs_len]) s3 (by omega)
    have hjA := s4.get hjo
    have hnj : oa ≠ some jo := fun e => by
      subst e
      have := hdA.blk.1
      rw [hjA] at this; cases this
    have hj8 : H8[jo]? = some (.row 53 .own [[x0, .sl (gptr oa) k k]]) := by rw [hk8 jo (get_lt hjA) hnj]; exact hjA
    have hoff8 : OffB jo H H8 := ⟨by omega, fun z hz hne => by
      rw [hk8 z (by omega) (fun e => by have := hdA.lo z e; omega), s4.2 z (by omega)]; exact hoff.2 z hz hne⟩
    have hst : stc H8 ⟨jo, 0, 1⟩ [.sl (some ⟨A.length + 1, 0, 0⟩) (k + 1) (k + 1)] = some (H8.set jo (.row 53 .own [[x0, .sl (some ⟨A.length + 1, 0, 0⟩) (k + 1) (k + 1)]])) := by
      simp only [stc, hj8]
      simp [upd, okCells, VV.cell]
    have hd9 : DenC H.length (H8.set jo (.row 53 .own [[x0, .sl (some ⟨A.length + 1, 0, 0⟩) (k + 1) (k + 1)]])) 24 1 3 (some (A.length + 1)) (k + 1) (vs ++ [.sl (some q2) (gs.getD k []).length (gs.getD k []).length]) (fun k => intEs (gs.getD k [])) :=
      hd8.keep fun z u l hu hz => List.getElem?_set_ne (fun e => by rw [← e, hj8] at hz; cases hz)
    have hx1 : Ext H2 (H2 ++ [.row 3 .own []]) := .app _ _
    have m0 := ext_ld hx1 n0
    have m1 := ext_ixp hx1 a1
    have m2 := ext_ld hx1 a2
    have j0 := ld_own hjo 1
    have j1 := ld_own (hx1.get hjo) 1
    have jA := ld_own hjA 1
    have jA2 := ld_own (get_push hjA [.row 24 .own [[.sl (some q2) (gs.getD k []).length (gs.getD k []).length]]]) 1
    simp only [List.getElem?_cons_zero, List.getElem?_cons_succ] at j0 j1 jA jA2
    refine VW.condT (by simp [Fr.only, hlt]) (VW.skip ?_)
    show VW _ _ _ _ [(1, .ptr (some ⟨j, 0, 0⟩)), (2, v2), (3, .ptr (some ⟨jo, 0, 0⟩)), (5, .int .i64 k), (29, _)] _ _
    generalize (gs.getD k []).length = ln at *
    refine VW.seq (VW.block ?_)
    refine VW.mono (Q := fun e F2 H' => e = .normal ∧ Cov [(1, .ptr (some ⟨j, 0, 0⟩)), (2, v2), (3, .ptr (some ⟨jo, 0, 0⟩)), (5, .int .i64 k)] F2 ∧ H' = H8.set jo (.row 53 .own [[x0, .sl (some ⟨A.length + 1, 0, 0⟩) (k + 1) (k + 1)]])) ?_ ?_
    · refine VW.dreg [H2, H2 ++ [.row 3 .own []], A, A ++ [.row 24 .own [[.sl (some q2) ln ln]]], H8, H8.set jo (.row 53 .own [[x0, .sl (some ⟨A.length + 1, 0, 0⟩) (k + 1) (k + 1)]])] mixed rfl ?_
      refine VX.rdp rfl (fun _ => rfl) ?_
      refine VX.rdd (v := .sl (gptr oa) k k) (k := 0) rfl rfl rfl rfl rfl rfl (by simp [Fr.only, j0]) (by simp [Fr.only, j1]) (by simp [Fr.only, jA]) (by simp [Fr.only, jA2]) ?_
      refine VX.ef1 (v := .sl (some ⟨H2.length, 0, 0⟩) 0 0) (H' := H2 ++ [.row 3 .own []]) rfl rfl rfl ?_
      refine VX.rdp rfl (fun _ => rfl) ?_
      refine VX.rdb (v := .sl pg N cg) (k := 0) rfl rfl rfl rfl (by simp [Fr.only, n0]) (by simp [Fr.only, m0]) ?_
      refine VX.rdp rfl (fun _ => rfl) ?_
      refine VX.rdb (v := .ptr (some (elp (some pq) k))) (k := 0) rfl rfl rfl rfl (by simp [Fr.only, hpq, a1, hlt]) (by simp [Fr.only, hpq, m1, hlt]) ?_
      refine VX.rdb (v := .sl pk ln ck) (k := 0) rfl rfl rfl rfl (by simp [a2]) (by simp [m2]) ?_
      refine VX.ef1 (v := .sl (some q2) ln ln) (H' := A) rfl rfl (by simp only [VEf.ev, Od.ev, Fr.pt, Fr.get, reduceIte, Nat.reduceEqDiff, s1, s2]) ?_
      refine VX.ef1 (v := .sl (some ⟨A.length, 0, 0⟩) 1 1) (H' := A ++ [.row 24 .own [[.sl (some q2) ln ln]]]) rfl rfl rfl ?_
      refine VX.ef1 (v := .sl (some ⟨A.length + 1, 0, 0⟩) (k + 1) (k + 1)) (H' := H8) rfl rfl (by simp only [VEf.ev, Od.ev, Fr.pt, Fr.get, reduceIte, Nat.reduceEqDiff, p1, p2]) ?_
      refine VX.rdp rfl (fun _ => rfl) ?_
      refine VX.ef1 (v := .undef) rfl rfl (by simp [Fr.only, hst]) ?_
      exact VX.nil ⟨rfl, by simp [Cov, Fr.only], rfl⟩
    rintro e F2 H9 ⟨rfl, hcov, rfl⟩
    refine VW.sub hcov (VW.reg ?_)
    refine VOps.rd rfl rfl ?_
    refine VOps.rd rfl rfl ?_
    refine VOps.rd rfl rfl ?_
    exact VOps.nil ⟨rfl, N - (k + 1), by omega, k + 1, some (A.length + 1), _, by omega, rfl, by simp [Cov, Fr.only, hvk], hoff8.set _, List.getElem?_set_self (get_lt hj8), hd9⟩
  · have : k = N := by omega
    subst this
    refine VW.condF (by simp [Fr.only]) (VW.exit ?_)
    simp only [then_normal, then_ret, then_exit, inB_normal, inB_ret, inB_exit, reduceIte, Nat.reduceEqDiff]
    exact ⟨trivial, by simp [Cov, Fr.only], hx2, hoff.1, hoff.2, oa, vs, hjo, hdc⟩
end
end Go.Proofs.Ytlclbfkdaemilaa

/- dense; Same of packed tables; same of dense ones. -/
namespace Go.Proofs.Ytlclbfkdaemilaa
set_option linter.unusedSimpArgs false
set_option linter.unusedVariables false
open Go Go.Vm Go.Proofs
set_option maxRecDepth 100000
set_option maxHeartbeats 4000000

/-- no list is larger than memory -/
structure Sz (al : List Edges) (gs : List (List Int)) : Prop where
  a : al.length * 24 ≤ 140737488355328
  g : gs.length * 24 ≤ 140737488355328
  ra : ∀ k, k < al.length → (al.getD k []).length * 16 ≤ 140737488355328
  rg : ∀ k, k < gs.length → (gs.getD k []).length * 8 ≤ 140737488355328
section
variable {H : Hp} {pa pg pa' pg' : Option PA} {ca cg ca' cg' : Nat} {al : List Edges} {gs : List (List Int)} {was wgs was' wgs' : List VV}
theorem dense22 (h : Den H pa pg al gs was wgs) (hz : Sz al gs) : FnV Try.prog 22 [denV pa pg ca cg al gs] H fun r H' => Ext H H' ∧ ∃ oa og was' wgs', r = denV (gptr oa) (gptr og) al.length gs.length al gs ∧ Den H' (gptr oa) (gptr og) al gs was' wgs' := by
  refine FnV.enterRow ok22 (by show 1 ≤ 45; decide) fun B => ?_
  dsimp only [w22]
  have hmx : maxLen = 9223372036854775807 := rfl
  have hx1 : Ext H (H ++ [.row 53 .own [[.sl pa al.length ca, .sl pg gs.length cg]], .row 53 .own [[nil1, nil1]]]) := .app _ _
  have hb1 : (H ++ [Blk.row 53 .own [[.sl pa al.length ca, .sl pg gs.length cg]], .row 53 .own [[nil1, nil1]]])[H.length]? = some (.row 53 .own [[.sl pa al.length ca, .sl pg gs.length cg]]) := by simp
  have hr1 : (H ++ [Blk.row 53 .own [[.sl pa al.length ca, .sl pg gs.length cg]], .row 53 .own [[nil1, nil1]]])[H.length + 1]? = some (.row 53 .own [[nil1, nil1]]) := by simp
  refine VW.seq (VW.reg ?_)
  refine VOps.ef (v := .ptr (some ⟨H.length, 0, 0⟩)) (H' := H ++ [.row 53 .own [[.sl pa al.length ca, .sl pg gs.length cg]]]) rfl (by simp [argsF]) ?_
  refine VOps.ef (v := .ptr (some ⟨H.length + 1, 0, 0⟩)) (H' := H ++ [.row 53 .own [[.sl pa al.length ca, .sl pg gs.length cg]], .row 53 .own [[nil1, nil1]]]) rfl (by simp) ?_
  refine VOps.nil ⟨rfl, ?_⟩
  generalize H ++ [.row 53 .own [[.sl pa al.length ca, .sl pg gs.length cg]], .row 53 .own [[nil1, nil1]]] = Hb at *
  show VW _ _ _ _ [(1, .ptr (some ⟨H.length, 0, 0⟩)), (2, .ptr (some ⟨H.length + 1, 0, 0⟩))] _ _
  have hb := h.ext hx1
  have l0 := ld_own hb1 0
  have l1 := ld_own hb1 1
  simp only [List.getElem?_cons_zero, List.getElem?_cons_succ] at l0 l1
  have hj2 : H.length + 1 < Hb.length := get_lt hr1
  have hx2 : Ext Hb (Hb ++ [.row 53 .own [[nil1, nil1]]]) := .app _ _
  have ho2 : (Hb ++ [Blk.row 53 .own [[nil1, nil1]]])[Hb.length]? = some (.row 53 .own [[nil1, nil1]]) := by simp
  refine VW.seq (VW.reg ?_)
  refine VOps.ef (v := .ptr (some ⟨Hb.length, 0, 0⟩)) (H' := Hb ++ [.row 53 .own [[nil1, nil1]]]) rfl rfl ?_
  refine VOps.nil ⟨rfl, ?_⟩
  show VW _ _ _ _ [(1, .ptr (some ⟨H.length, 0, 0⟩)), (2, .ptr (some ⟨H.length + 1, 0, 0⟩)), (3, .ptr (some ⟨Hb.length, 0, 0⟩))] _ _
  generalize Hb ++ [.row 53 .own [[nil1, nil1]]] = H2 at *
  refine VW.seq ?_
  refine VW.mono (den0 hb l0 (Nat.le_refl _) hz.a hz.ra hx2 ho2) ?_
  rintro e F2 H3 ⟨rfl, hcov, hx3, hl3, hk3, oa, was', ho3, hdA⟩
  refine VW.sub hcov ?_
  clear hcov
  refine VW.seq ?_
  refine VW.mono (den1 hb l1 (Nat.le_refl _) hz.g hz.rg hx3 ho3) ?_
  rintro e F2 H4 ⟨rfl, hcov, hx4, hl4, hk4, og, wgs', ho4, hdG⟩
  refine VW.sub hcov ?_
  clear hcov
  have hdA4 : DenC H2.length H4 60 2 46 oa al.length was' (fun k => edgeEs (al.getD k [])) := hdA.keep fun z u l hu hzz => hk4 z (get_lt hzz) fun e => by rw [e, ho3] at hzz; cases hzz
  have hr4 := hx4.get hr1
  have l4 := lds_own ho4 0 2
  simp only [List.length_cons, List.length_nil, Nat.zero_add, Nat.le_refl, if_true, List.drop_zero, List.take_succ_cons, List.take_zero] at l4
  have hst : stc H4 ⟨H.length + 1, 0, 0⟩ [.sl (gptr oa) al.length al.length, .sl (gptr og) gs.length gs.length] = some (H4.set (H.length + 1) (.row 53 .own [[.sl (gptr oa) al.length al.length, .sl (gptr og) gs.length gs.length]])) := by
    simp only [stc, hr4]
    simp [upd, okCells, VV.cell]
  have hj4 := get_lt hr4
  have lf := lds_own (H := H4.set (H.length + 1) (.row 53 .own [[.sl (gptr oa) al.length al.length, .sl (gptr og) gs.length gs.length]])) (List.getElem?_set_self hj4) 0 2
  simp only [List.length_cons, List.length_nil, Nat.zero_add, Nat.le_refl, if_true, List.drop_zero, List.take_succ_cons, List.take_zero] at lf
  have keep : ∀ (z : Nat) (u : TypeId) (l : List (List VV)), H4[z]? = some (.row u .loose l) → (H4.set (H.length + 1) (.row 53 .own [[.sl (gptr oa) al.length al.length, .sl (gptr og) gs.length gs.length]]))[z]? = H4[z]? := fun z u l hzz => List.getElem?_set_ne fun e => by rw [← e, hr4] at hzz; cases hzz
  have dA := hdA4.keep (H' := H4.set (H.length + 1) (.row 53 .own [[.sl (gptr oa) al.length al.length, .sl (gptr og) gs.length gs.length]])) fun z u l _ hzz => keep z u l hzz
  have dG := hdG.keep (H' := H4.set (H.length + 1) (.row 53 .own [[.sl (gptr oa) al.length al.length, .sl (gptr og) gs.length gs.length]])) fun z u l _ hzz => keep z u l hzz
  have hx5 : Ext H (H4.set (H.length + 1) (.row 53 .own [[.sl (gptr oa) al.length al.length, .sl (gptr og) gs.length gs.length]])) := (hx1.trans hx4).set (by omega) _
  refine VW.seq (VW.reg ?_)
  refine VOps.rd (v := .agg [.sl (gptr oa) al.length al.length, .sl (gptr og) gs.length gs.length]) rfl (by simp [l4]) ?_
  refine VOps.ef (v := .undef) (H' := H4.set (H.length + 1) (.row 53 .own [[.sl (gptr oa) al.length al.length, .sl (gptr og) gs.length gs.length]])) rfl (by simp [hst]) ?_
  refine VOps.nil ⟨rfl, VW.ret ⟨.inl rfl, denV (gptr oa) (gptr og) al.length gs.length al gs, ?_, hx5, oa, og, was', wgs', rfl, ⟨dA.blk.sl, ⟨by rw [dA.len], fun k hk => ?_⟩, dG.blk.sl, ⟨by rw [dG.len], fun k hk => ?_⟩, h.la, h.lg⟩⟩⟩
  · simp [resV, resL, Fr.only, lf]
  · obtain ⟨p, g1, g2⟩ := dA.done k hk
    have := hz.ra k hk
    rw [edgeEs_len] at g1
    exact ⟨some p, _, g1, g2.sl, by omega⟩
  · obtain ⟨p, g1, g2⟩ := dG.done k hk
    have := hz.rg k hk
    rw [intEs_len] at g1
    exact ⟨some p, _, g1, g2.sl, by omega⟩

theorem same25 {o o' : Nat → Option Nat} (h : ∀ j, j < 8 → Own H (o j) (pkL al gs j)) (h' : ∀ j, j < 8 → Own H (o' j) (pkL al gs j)) : FnV Try.prog 25 [.agg (pkA o al gs), .agg (pkA o' al gs)] H fun r H' => r = .bool true ∧ H' = H := by
  refine FnV.calm rfl ?_
  refine FnV.enterRow ok25 (by show 2 ≤ 31; decide) fun B => ?_
  dsimp only [w25]
  have hmx : maxLen = 9223372036854775807 := rfl
  have hlm : ∀ j, (pkL al gs j).length ≤ maxLen := fun j => by have := pkL_len al gs j; omega
  have hx : Ext H (H ++ [.row 44 .own [pkA o al gs], .row 44 .own [pkA o' al gs]]) := .app _ _
  have hb1 : (H ++ [Blk.row 44 .own [pkA o al gs], .row 44 .own [pkA o' al gs]])[H.length]? = some (.row 44 .own [pkA o al gs]) := by simp
  have hb2 : (H ++ [Blk.row 44 .own [pkA o al gs], .row 44 .own [pkA o' al gs]])[H.length + 1]? = some (.row 44 .own [pkA o' al gs]) := by simp
  refine VW.seq (VW.reg ?_)
  refine VOps.ef (v := .ptr (some ⟨H.length, 0, 0⟩)) (H' := H ++ [.row 44 .own [pkA o al gs]]) rfl (by simp [argsF, VV.cell]) ?_
  refine VOps.ef (v := .ptr (some ⟨H.length + 1, 0, 0⟩)) (H' := H ++ [.row 44 .own [pkA o al gs], .row 44 .own [pkA o' al gs]]) rfl (by simp [argsF, VV.cell]) ?_
  refine VOps.rd rfl rfl ?_
  refine VOps.nil ⟨rfl, ?_⟩
  show VW _ _ _ _ [(2, .ptr (some ⟨H.length, 0, 0⟩)), (3, .ptr (some ⟨H.length + 1, 0, 0⟩))] _ _
  generalize H ++ [Blk.row 44 .own [pkA o al gs], .row 44 .own [pkA o' al gs]] = H1 at *
  have s1 := fun j hj => (h j hj).1
  have s2 := fun j hj => (h' j hj).1
  replace s1 := fun j hj => hx.sl (s1 j hj)
  replace s2 := fun j hj => hx.sl (s2 j hj)
  have a0 := ld_own hb1 0
  have a4 := ld_own hb1 4
  have b0 := ld_own hb2 0
  have b4 := ld_own hb2 4
  simp only [pkA, List.getElem?_cons_zero, List.getElem?_cons_succ] at a0 a4 b0 b4
  have a1 := lds_own hb1 1 3
  have a5 := lds_own hb1 5 3
  have b1 := lds_own hb2 1 3
  have b5 := lds_own hb2 5 3
  simp only [pkA, List.length_cons, List.length_nil, Nat.zero_add, Nat.reduceAdd, Nat.reduceLeDiff, Nat.le_refl, if_true, List.drop_succ_cons, List.drop_zero, List.take_succ_cons, List.take_zero] at a1 a5 b1 b5
  generalize hL0 : pkL al gs 0 = L0 at *
  generalize hL1 : pkL al gs 1 = L1 at *
  generalize hL2 : pkL al gs 2 = L2 at *
  generalize hL3 : pkL al gs 3 = L3 at *
  generalize hL4 : pkL al gs 4 = L4 at *
  generalize hL5 : pkL al gs 5 = L5 at *
  generalize hL6 : pkL al gs 6 = L6 at *
  generalize hL7 : pkL al gs 7 = L7 at *
  have i0 := ints36 (c := L0.length) (c' := L0.length) (hL0 ▸ s1 0 (by omega)) (hL0 ▸ s2 0 (by omega)) (hL0 ▸ hlm 0)
  have i4 := ints36 (c := L4.length) (c' := L4.length) (hL4 ▸ s1 4 (by omega)) (hL4 ▸ s2 4 (by omega)) (hL4 ▸ hlm 4)
  have m1 := same12 (c1 := L1.length) (c2 := L2.length) (c3 := L3.length) (d1 := L1.length) (d2 := L2.length) (d3 := L3.length) (hL1 ▸ s1 1 (by omega)) (hL2 ▸ s1 2 (by omega)) (hL3 ▸ s1 3 (by omega)) (hL1 ▸ s2 1 (by omega)) (hL2 ▸ s2 2 (by omega)) (hL3 ▸ s2 3 (by omega)) (hL1 ▸ hlm 1) (hL2 ▸ hlm 2) (hL3 ▸ hlm 3)
  have m5 := same12 (c1 := L5.length) (c2 := L6.length) (c3 := L7.length) (d1 := L5.length) (d2 := L6.length) (d3 := L7.length) (hL5 ▸ s1 5 (by omega)) (hL6 ▸ s1 6 (by omega)) (hL7 ▸ s1 7 (by omega)) (hL5 ▸ s2 5 (by omega)) (hL6 ▸ s2 6 (by omega)) (hL7 ▸ s2 7 (by omega)) (hL5 ▸ hlm 5) (hL6 ▸ hlm 6) (hL7 ▸ hlm 7)
  clear s1 s2 hlm hb1 hb2 hL0 hL1 hL2 hL3 hL4 hL5 hL6 hL7
  refine VW.seq (VW.reg ?_)
  refine VOps.rd rfl rfl ?_
  refine VOps.rd (v := .sl (gptr (o 0)) L0.length L0.length) rfl (by simp [a0]) ?_
  refine VOps.rd rfl rfl ?_
  refine VOps.rd (v := .sl (gptr (o' 0)) L0.length L0.length) rfl (by simp [b0]) ?_
  refine VOps.call rfl rfl rfl (i0.mono ?_)
  rintro r Hy ⟨rfl, rfl⟩
  refine VOps.rd rfl rfl ?_
  refine VOps.rd rfl rfl ?_
  refine VOps.rd (v := .agg [.sl (gptr (o 1)) L1.length L1.length, .sl (gptr (o 2)) L2.length L2.length, .sl (gptr (o 3)) L3.length L3.length]) rfl (by simp [a1]) ?_
  refine VOps.rd rfl rfl ?_
  refine VOps.rd (v := .agg [.sl (gptr (o' 1)) L1.length L1.length, .sl (gptr (o' 2)) L2.length L2.length, .sl (gptr (o' 3)) L3.length L3.length]) rfl (by simp [b1]) ?_
  refine VOps.call rfl rfl rfl (m1.mono ?_)
  rintro r Hz ⟨rfl, rfl⟩
  refine VOps.rd rfl rfl ?_
  refine VOps.rd rfl rfl ?_
  refine VOps.rd rfl rfl ?_
  refine VOps.rd (v := .sl (gptr (o 4)) L4.length L4.length) rfl (by simp [a4]) ?_
  refine VOps.rd rfl rfl ?_
  refine VOps.rd (v := .sl (gptr (o' 4)) L4.length L4.length) rfl (by simp [b4]) ?_
  refine VOps.call rfl rfl rfl (i4.mono ?_)
  rintro r Hw ⟨rfl, rfl⟩
  refine VOps.rd rfl rfl ?_
  refine VOps.rd rfl rfl ?_
  refine VOps.rd rfl rfl ?_
  refine VOps.rd (v := .agg [.sl (gptr (o 5)) L5.length L5.length, .sl (gptr (o 6)) L6.length L6.length, .sl (gptr (o 7)) L7.length L7.length]) rfl (by simp [a5]) ?_
  refine VOps.rd rfl rfl ?_
  refine VOps.rd (v := .agg [.sl (gptr (o' 5)) L5.length L5.length, .sl (gptr (o' 6)) L6.length L6.length, .sl (gptr (o' 7)) L7.length L7.length]) rfl (by simp [b5]) ?_
  refine VOps.call rfl rfl rfl (m5.mono ?_)
  rintro r Hv ⟨rfl, rfl⟩
  refine VOps.rd rfl rfl ?_
  refine VOps.rd rfl rfl ?_
  exact VOps.nil ⟨rfl, VW.ret ⟨.inl rfl, _, rfl, rfl, hx⟩⟩
end

section
variable {B : Nat} {H : Hp} {j j' ca cg ca' cg' : Nat} {al : List Edges} {gs : List (List Int)} {pa pg pa' pg' : Option PA} {was wgs was' wgs' : List VV}
theorem sam0 (h : Den H pa pg al gs was wgs) (h' : Den H pa' pg' al gs was' wgs') (l0 : ld H ⟨j, 0, 0⟩ = some (.sl pa al.length ca)) (l0' : ld H ⟨j', 0, 0⟩ = some (.sl pa' al.length ca')) :
    VW Try.prog B 119 (VC.l (VC.r (VC.r w26.vc))) [(2, .ptr (some ⟨j, 0, 0⟩)), (3, .ptr (some ⟨j', 0, 0⟩))] H
      fun e F2 H' => e = .normal ∧ Cov [(2, .ptr (some ⟨j, 0, 0⟩)), (3, .ptr (some ⟨j', 0, 0⟩))] F2 ∧ H' = H := by
  dsimp only [w26, VC.l, VC.r]
  have hmx : maxLen = 9223372036854775807 := rfl
  have hNm : al.length ≤ maxLen := h.la
  generalize hn : al.length = N at *
  refine VW.seq (VW.reg ?_)
  refine VOps.rd rfl rfl ?_
  refine VOps.nil ⟨rfl, ?_⟩
  show VW _ _ _ _ [(2, .ptr (some ⟨j, 0, 0⟩)), (3, .ptr (some ⟨j', 0, 0⟩)), (5, .int .i64 0)] _ _
  refine VW.block ?_
  refine VW.loop (fun m F' H' => ∃ k : Nat, k ≤ N ∧ m = N - k ∧ Cov [(2, .ptr (some ⟨j, 0, 0⟩)), (3, .ptr (some ⟨j', 0, 0⟩)), (5, .int .i64 k)] F' ∧ H' = H) N
    ⟨0, by omega, rfl, by simp [Cov, Fr.only], rfl⟩ ?_
  rintro m F' H2 ⟨k, hk, rfl, hcov, rfl⟩
  refine VW.sub hcov ?_
  clear hcov
  refine VW.seq (VW.seq (VW.reg ?_))
  refine VOps.rd rfl rfl ?_
  refine VOps.rd rfl rfl ?_
  refine VOps.rd (v := .sl pa N ca) rfl (by simp [l0]) ?_
  refine VOps.rd rfl rfl ?_
  refine VOps.rd rfl rfl ?_
  refine VOps.nil ⟨rfl, ?_⟩
  by_cases hlt : k < N
  · have hvk := wrap_id (x := (k : Int) + 1) (by omega) (by omega)
    obtain ⟨q, pk, ck, hq, a1, a2, a3, a4⟩ := row_at h.sa h.ra (k := k) (by omega)
    obtain ⟨q', pk', ck', hq', b1, b2, b3, b4⟩ := row_at h'.sa h'.ra (k := k) (by omega)
    generalize al.getD k [] = l at *
    refine VW.condT (by simp [Fr.only, hlt]) (VW.skip ?_)
    show VW _ _ _ _ [(2, .ptr (some ⟨j, 0, 0⟩)), (3, .ptr (some ⟨j', 0, 0⟩)), (5, .int .i64 k), (29, _)] _ _
    refine VW.seq (VW.block (VW.seq (VW.seq ?_)))
    refine VW.mono (Q := fun e F2 H' => e = .normal ∧ Cov [(2, .ptr (some ⟨j, 0, 0⟩)), (3, .ptr (some ⟨j', 0, 0⟩)), (5, .int .i64 k), (44, .bool false)] F2 ∧ H' = H2) ?_ ?_
    · refine VW.dreg [H2] mixed rfl ?_
      refine VX.rd1 rfl rfl ?_
      refine VX.rd1 (v := .sl pa N ca) rfl (by simp [l0]) ?_
      refine VX.rd1 rfl rfl ?_
      refine VX.rd1 (v := .ptr (some (elp (some q) k))) rfl (by simp [hq, a1, hlt]) ?_
      refine VX.rd1 (v := .sl pk l.length ck) rfl (by simp [a2]) ?_
      refine VX.rd1 rfl rfl ?_
      refine VX.rd1 rfl rfl ?_
      refine VX.rd1 (v := .sl pa' N ca') rfl (by simp [l0']) ?_
      refine VX.rd1 rfl rfl ?_
      refine VX.rd1 (v := .ptr (some (elp (some q') k))) rfl (by simp [hq', b1, hlt]) ?_
      refine VX.rd1 (v := .sl pk' l.length ck') rfl (by simp [b2]) ?_
      refine VX.rd1 rfl rfl ?_
      refine VX.rd1 (v := .bool false) rfl (by simp) ?_
      exact VX.nil ⟨rfl, by simp [Cov, Fr.only], rfl⟩
    rintro e F2 H3 ⟨rfl, hcov, rfl⟩
    refine VW.sub hcov ?_
    clear hcov
    refine VW.condF rfl (VW.skip ?_)
    refine VW.seq (VW.reg ?_)
    refine VOps.rd rfl rfl ?_
    refine VOps.nil ⟨rfl, ?_⟩
    show VW _ _ _ _ [(2, .ptr (some ⟨j, 0, 0⟩)), (3, .ptr (some ⟨j', 0, 0⟩)), (5, .int .i64 k), (6, .int .i64 0)] _ _
    refine VW.mono (Q := fun e F2 H' => e = .normal ∧ Cov [(2, .ptr (some ⟨j, 0, 0⟩)), (3, .ptr (some ⟨j', 0, 0⟩)), (5, .int .i64 k)] F2 ∧ H' = H3) ?_ ?_
    · refine VW.block ?_
      refine VW.loop (fun m F' H' => ∃ i : Nat, i ≤ l.length ∧ m = l.length - i ∧ Cov [(2, .ptr (some ⟨j, 0, 0⟩)), (3, .ptr (some ⟨j', 0, 0⟩)), (5, .int .i64 k), (6, .int .i64 i)] F' ∧ H' = H3) l.length
        ⟨0, by omega, rfl, by simp [Cov, Fr.only], rfl⟩ ?_
      rintro m F' H4 ⟨i, hi, rfl, hcov, rfl⟩
      refine VW.sub hcov ?_
      clear hcov
      refine VW.seq (VW.seq (VW.reg ?_))
      refine VOps.rd rfl rfl ?_
      refine VOps.rd rfl rfl ?_
      refine VOps.rd (v := .sl pa N ca) rfl (by simp [l0]) ?_
      refine VOps.rd rfl rfl ?_
      refine VOps.rd (v := .ptr (some (elp (some q) k))) rfl (by simp [hq, a1, hlt]) ?_
      refine VOps.rd (v := .sl pk l.length ck) rfl (by simp [a2]) ?_
      refine VOps.rd rfl rfl ?_
      refine VOps.rd rfl rfl ?_
      refine VOps.nil ⟨rfl, ?_⟩
      by_cases hil : i < l.length
      · have hvi := wrap_id (x := (i : Int) + 1) (by omega) (by omega)
        obtain ⟨r, hr, r1, _, r2, _⟩ := sl_edge a3 (k := i) hil
        obtain ⟨r', hr', r1', _, r2', _⟩ := sl_edge b3 (k := i) hil
        generalize (l.getD i (0, 0)).1 = x at *
        generalize (l.getD i (0, 0)).2 = y at *
        refine VW.condT (by simp [Fr.only, hil]) (VW.skip ?_)
        show VW _ _ _ _ [(2, .ptr (some ⟨j, 0, 0⟩)), (3, .ptr (some ⟨j', 0, 0⟩)), (5, .int .i64 k), (6, .int .i64 i), (52, _)] _ _
        refine VW.seq (VW.block (VW.seq ?_))
        refine VW.mono (Q := fun e F2 H' => e = .normal ∧ Cov [(2, .ptr (some ⟨j, 0, 0⟩)), (3, .ptr (some ⟨j', 0, 0⟩)), (5, .int .i64 k), (6, .int .i64 i), (71, .bool false)] F2 ∧ H' = H4) ?_ ?_
        · refine VW.dreg [H4] mixed rfl ?_
          refine VX.rd1 rfl rfl ?_
          refine VX.rd1 (v := .sl pa N ca) rfl (by simp [l0]) ?_
          refine VX.rd1 rfl rfl ?_
          refine VX.rd1 (v := .ptr (some (elp (some q) k))) rfl (by simp [hq, a1, hlt]) ?_
          refine VX.rd1 (v := .sl pk l.length ck) rfl (by simp [a2]) ?_
          refine VX.rd1 rfl rfl ?_
          refine VX.rd1 (v := .ptr (some (elp (some r) i))) rfl (by simp [hr, r1, hil]) ?_
          refine VX.rd1 (v := .agg [.int .i64 x, .int .i64 y]) rfl (by simp [r2]) ?_
          refine VX.rd1 rfl rfl ?_
          refine VX.rd1 (v := .sl pa' N ca') rfl (by simp [l0']) ?_
          refine VX.rd1 rfl rfl ?_
          refine VX.rd1 (v := .ptr (some (elp (some q') k))) rfl (by simp [hq', b1, hlt]) ?_
          refine VX.rd1 (v := .sl pk' l.length ck') rfl (by simp [b2]) ?_
          refine VX.rd1 rfl rfl ?_
          refine VX.rd1 (v := .ptr (some (elp (some r') i))) rfl (by simp [hr', r1', hil]) ?_
          refine VX.rd1 (v := .agg [.int .i64 x, .int .i64 y]) rfl (by simp [r2']) ?_
          refine VX.rd1 (v := .bool false) rfl (by simp [aeqK]) ?_
          exact VX.nil ⟨rfl, by simp [Cov, Fr.only], rfl⟩
        rintro e F2 H5 ⟨rfl, hcov, rfl⟩
        refine VW.sub hcov ?_
        clear hcov
        refine VW.condF rfl (VW.skip (VW.reg ?_))
        refine VOps.rd rfl rfl ?_
        refine VOps.rd rfl rfl ?_
        refine VOps.rd rfl rfl ?_
        exact VOps.nil ⟨rfl, l.length - (i + 1), by omega, i + 1, by omega, rfl, by simp [Cov, Fr.only, hvi], rfl⟩
      · have : i = l.length := by omega
        subst this
        refine VW.condF (by simp [Fr.only]) (VW.exit ?_)
        simp only [then_normal, then_ret, then_exit, inB_normal, inB_ret, inB_exit, reduceIte, Nat.reduceEqDiff]
        exact ⟨trivial, by simp [Cov, Fr.only], trivial⟩
    rintro e F2 H4 ⟨rfl, hcov, rfl⟩
    refine VW.sub hcov (VW.reg ?_)
    refine VOps.rd rfl rfl ?_
    refine VOps.rd rfl rfl ?_
    refine VOps.rd rfl rfl ?_
    exact VOps.nil ⟨rfl, N - (k + 1), by omega, k + 1, by omega, rfl, by simp [Cov, Fr.only, hvk], rfl⟩
  · have : k = N := by omega
    subst this
    refine VW.condF (by simp [Fr.only]) (VW.exit ?_)
    simp only [then_normal, then_ret, then_exit, inB_normal, inB_ret, inB_exit, reduceIte, Nat.reduceEqDiff]
    exact ⟨trivial, by simp [Cov, Fr.only], trivial⟩
end

section
variable {B : Nat} {H : Hp} {j j' ca cg ca' cg' : Nat} {al : List Edges} {gs : List (List Int)} {pa pg pa' pg' : Option PA} {was wgs was' wgs' : List VV}
theorem sam1 (h : Den H pa pg al gs was wgs) (h' : Den H pa' pg' al gs was' wgs') (l0 : ld H ⟨j, 0, 1⟩ = some (.sl pg gs.length cg)) (l0' : ld H ⟨j', 0, 1⟩ = some (.sl pg' gs.length cg')) :
    VW Try.prog B 119 (VC.l (VC.r (VC.r (VC.r w26.vc)))) [(2, .ptr (some ⟨j, 0, 0⟩)), (3, .ptr (some ⟨j', 0, 0⟩))] H
      fun e F2 H' => e = .normal ∧ Cov [(2, .ptr (some ⟨j, 0, 0⟩)), (3, .ptr (some ⟨j', 0, 0⟩))] F2 ∧ H' = H := by
  dsimp only [w26, VC.l, VC.r]
  have hmx : maxLen = 9223372036854775807 := rfl
  have hNm : gs.length ≤ maxLen := h.lg
  generalize hn : gs.length = N at *
  refine VW.seq (VW.reg ?_)
  refine VOps.rd rfl rfl ?_
  refine VOps.nil ⟨rfl, ?_⟩
  show VW _ _ _ _ [(2, .ptr (some ⟨j, 0, 0⟩)), (3, .ptr (some ⟨j', 0, 0⟩)), (7, .int .i64 0)] _ _
  refine VW.block ?_
  refine VW.loop (fun m F' H' => ∃ k : Nat, k ≤ N ∧ m = N - k ∧ Cov [(2, .ptr (some ⟨j, 0, 0⟩)), (3, .ptr (some ⟨j', 0, 0⟩)), (7, .int .i64 k)] F' ∧ H' = H) N
    ⟨0, by omega, rfl, by simp [Cov, Fr.only], rfl⟩ ?_
  rintro m F' H2 ⟨k, hk, rfl, hcov, rfl⟩
  refine VW.sub hcov ?_
  clear hcov
  refine VW.seq (VW.seq (VW.reg ?_))
  refine VOps.rd rfl rfl ?_
  refine VOps.rd rfl rfl ?_
  refine VOps.rd (v := .sl pg N cg) rfl (by simp [l0]) ?_
  refine VOps.rd rfl rfl ?_
  refine VOps.rd rfl rfl ?_
  refine VOps.nil ⟨rfl, ?_⟩
  by_cases hlt : k < N
  · have hvk := wrap_id (x := (k : Int) + 1) (by omega) (by omega)
    obtain ⟨q, pk, ck, hq, a1, a2, a3, a4⟩ := rowI_at h.sg h.rg (k := k) (by omega)
    obtain ⟨q', pk', ck', hq', b1, b2, b3, b4⟩ := rowI_at h'.sg h'.rg (k := k) (by omega)
    generalize gs.getD k [] = l at *
    refine VW.condT (by simp [Fr.only, hlt]) (VW.skip ?_)
    show VW _ _ _ _ [(2, .ptr (some ⟨j, 0, 0⟩)), (3, .ptr (some ⟨j', 0, 0⟩)), (7, .int .i64 k), (76, _)] _ _
    refine VW.seq (VW.block (VW.seq (VW.seq ?_)))
    refine VW.mono (Q := fun e F2 H' => e = .normal ∧ Cov [(2, .ptr (some ⟨j, 0, 0⟩)), (3, .ptr (some ⟨j', 0, 0⟩)), (7, .int .i64 k), (91, .bool false)] F2 ∧ H' = H2) ?_ ?_
    · refine VW.dreg [H2] mixed rfl ?_
      refine VX.rd1 rfl rfl ?_
      refine VX.rd1 (v := .sl pg N cg) rfl (by simp [l0]) ?_
      refine VX.rd1 rfl rfl ?_
      refine VX.rd1 (v := .ptr (some (elp (some q) k))) rfl (by simp [hq, a1, hlt]) ?_
      refine VX.rd1 (v := .sl pk l.length ck) rfl (by simp [a2]) ?_
      refine VX.rd1 rfl rfl ?_
      refine VX.rd1 rfl rfl ?_
      refine VX.rd1 (v := .sl pg' N cg') rfl (by simp [l0']) ?_
      refine VX.rd1 rfl rfl ?_
      refine VX.rd1 (v := .ptr (some (elp (some q') k))) rfl (by simp [hq', b1, hlt]) ?_
      refine VX.rd1 (v := .sl pk' l.length ck') rfl (by simp [b2]) ?_
      refine VX.rd1 rfl rfl ?_
      refine VX.rd1 (v := .bool false) rfl (by simp) ?_
      exact VX.nil ⟨rfl, by simp [Cov, Fr.only], rfl⟩
    rintro e F2 H3 ⟨rfl, hcov, rfl⟩
    refine VW.sub hcov ?_
    clear hcov
    refine VW.condF rfl (VW.skip ?_)
    refine VW.seq (VW.reg ?_)
    refine VOps.rd rfl rfl ?_
    refine VOps.nil ⟨rfl, ?_⟩
    show VW _ _ _ _ [(2, .ptr (some ⟨j, 0, 0⟩)), (3, .ptr (some ⟨j', 0, 0⟩)), (7, .int .i64 k), (8, .int .i64 0)] _ _
    refine VW.mono (Q := fun e F2 H' => e = .normal ∧ Cov [(2, .ptr (some ⟨j, 0, 0⟩)), (3, .ptr (some ⟨j', 0, 0⟩)), (7, .int .i64 k)] F2 ∧ H' = H3) ?_ ?_
    · refine VW.block ?_
      refine VW.loop (fun m F' H' => ∃ i : Nat, i ≤ l.length ∧ m = l.length - i ∧ Cov [(2, .ptr (some ⟨j, 0, 0⟩)), (3, .ptr (some ⟨j', 0, 0⟩)), (7, .int .i64 k), (8, .int .i64 i)] F' ∧ H' = H3) l.length
        ⟨0, by omega, rfl, by simp [Cov, Fr.only], rfl⟩ ?_
      rintro m F' H4 ⟨i, hi, rfl, hcov, rfl⟩
      refine VW.sub hcov ?_
      clear hcov
      refine VW.seq (VW.seq (VW.reg ?_))
      refine VOps.rd rfl rfl ?_
      refine VOps.rd rfl rfl ?_
      refine VOps.rd (v := .sl pg N cg) rfl (by simp [l0]) ?_
      refine VOps.rd rfl rfl ?_
      refine VOps.rd (v := .ptr (some (elp (some q) k))) rfl (by simp [hq, a1, hlt]) ?_
      refine VOps.rd (v := .sl pk l.length ck) rfl (by simp [a2]) ?_
      refine VOps.rd rfl rfl ?_
      refine VOps.rd rfl rfl ?_
      refine VOps.nil ⟨rfl, ?_⟩
      by_cases hil : i < l.length
      · have hvi := wrap_id (x := (i : Int) + 1) (by omega) (by omega)
        obtain ⟨r, hr, r1, r2⟩ := sl_int a3 (k := i) hil
        obtain ⟨r', hr', r1', r2'⟩ := sl_int b3 (k := i) hil
        generalize l.getD i 0 = x at *
        refine VW.condT (by simp [Fr.only, hil]) (VW.skip ?_)
        show VW _ _ _ _ [(2, .ptr (some ⟨j, 0, 0⟩)), (3, .ptr (some ⟨j', 0, 0⟩)), (7, .int .i64 k), (8, .int .i64 i), (99, _)] _ _
        refine VW.seq (VW.block (VW.seq ?_))
        refine VW.mono (Q := fun e F2 H' => e = .normal ∧ Cov [(2, .ptr (some ⟨j, 0, 0⟩)), (3, .ptr (some ⟨j', 0, 0⟩)), (7, .int .i64 k), (8, .int .i64 i), (118, .bool false)] F2 ∧ H' = H4) ?_ ?_
        · refine VW.dreg [H4] mixed rfl ?_
          refine VX.rd1 rfl rfl ?_
          refine VX.rd1 (v := .sl pg N cg) rfl (by simp [l0]) ?_
          refine VX.rd1 rfl rfl ?_
          refine VX.rd1 (v := .ptr (some (elp (some q) k))) rfl (by simp [hq, a1, hlt]) ?_
          refine VX.rd1 (v := .sl pk l.length ck) rfl (by simp [a2]) ?_
          refine VX.rd1 rfl rfl ?_
          refine VX.rd1 (v := .ptr (some (elp (some r) i))) rfl (by simp [hr, r1, hil]) ?_
          refine VX.rd1 (v := .int .i64 x) rfl (by simp [r2]) ?_
          refine VX.rd1 rfl rfl ?_
          refine VX.rd1 (v := .sl pg' N cg') rfl (by simp [l0']) ?_
          refine VX.rd1 rfl rfl ?_
          refine VX.rd1 (v := .ptr (some (elp (some q') k))) rfl (by simp [hq', b1, hlt]) ?_
          refine VX.rd1 (v := .sl pk' l.length ck') rfl (by simp [b2]) ?_
          refine VX.rd1 rfl rfl ?_
          refine VX.rd1 (v := .ptr (some (elp (some r') i))) rfl (by simp [hr', r1', hil]) ?_
          refine VX.rd1 (v := .int .i64 x) rfl (by simp [r2']) ?_
          refine VX.rd1 (v := .bool false) rfl (by simp [aeqK]) ?_
          exact VX.nil ⟨rfl, by simp [Cov, Fr.only], rfl⟩
        rintro e F2 H5 ⟨rfl, hcov, rfl⟩
        refine VW.sub hcov ?_
        clear hcov
        refine VW.condF rfl (VW.skip (VW.reg ?_))
        refine VOps.rd rfl rfl ?_
        refine VOps.rd rfl rfl ?_
        refine VOps.rd rfl rfl ?_
        exact VOps.nil ⟨rfl, l.length - (i + 1), by omega, i + 1, by omega, rfl, by simp [Cov, Fr.only, hvi], rfl⟩
      · have : i = l.length := by omega
        subst this
        refine VW.condF (by simp [Fr.only]) (VW.exit ?_)
        simp only [then_normal, then_ret, then_exit, inB_normal, inB_ret, inB_exit, reduceIte, Nat.reduceEqDiff]
        exact ⟨trivial, by simp [Cov, Fr.only], trivial⟩
    rintro e F2 H4 ⟨rfl, hcov, rfl⟩
    refine VW.sub hcov (VW.reg ?_)
    refine VOps.rd rfl rfl ?_
    refine VOps.rd rfl rfl ?_
    refine VOps.rd rfl rfl ?_
    exact VOps.nil ⟨rfl, N - (k + 1), by omega, k + 1, by omega, rfl, by simp [Cov, Fr.only, hvk], rfl⟩
  · have : k = N := by omega
    subst this
    refine VW.condF (by simp [Fr.only]) (VW.exit ?_)
    simp only [then_normal, then_ret, then_exit, inB_normal, inB_ret, inB_exit, reduceIte, Nat.reduceEqDiff]
    exact ⟨trivial, by simp [Cov, Fr.only], trivial⟩
end

section
variable {H : Hp} {pa pg pa' pg' : Option PA} {ca cg ca' cg' : Nat} {al : List Edges} {gs : List (List Int)} {was wgs was' wgs' : List VV}
theorem same26 (h : Den H pa pg al gs was wgs) (h' : Den H pa' pg' al gs was' wgs') : FnV Try.prog 26 [denV pa pg ca cg al gs, denV pa' pg' ca' cg' al gs] H fun r H' => r = .bool true ∧ H' = H := by
  refine FnV.calm rfl ?_
  refine FnV.enterRow ok26 (by show 2 ≤ 119; decide) fun B => ?_
  dsimp only [w26]
  have hx : Ext H (H ++ [.row 53 .own [[.sl pa al.length ca, .sl pg gs.length cg]], .row 53 .own [[.sl pa' al.length ca', .sl pg' gs.length cg']]]) := .app _ _
  have hb1 : (H ++ [Blk.row 53 .own [[.sl pa al.length ca, .sl pg gs.length cg]], .row 53 .own [[.sl pa' al.length ca', .sl pg' gs.length cg']]])[H.length]? = some (.row 53 .own [[.sl pa al.length ca, .sl pg gs.length cg]]) := by simp
  have hb2 : (H ++ [Blk.row 53 .own [[.sl pa al.length ca, .sl pg gs.length cg]], .row 53 .own [[.sl pa' al.length ca', .sl pg' gs.length cg']]])[H.length + 1]? = some (.row 53 .own [[.sl pa' al.length ca', .sl pg' gs.length cg']]) := by simp
  refine VW.seq (VW.reg ?_)
  refine VOps.ef (v := .ptr (some ⟨H.length, 0, 0⟩)) (H' := H ++ [.row 53 .own [[.sl pa al.length ca, .sl pg gs.length cg]]]) rfl (by simp [argsF]) ?_
  refine VOps.ef (v := .ptr (some ⟨H.length + 1, 0, 0⟩)) (H' := H ++ [.row 53 .own [[.sl pa al.length ca, .sl pg gs.length cg]], .row 53 .own [[.sl pa' al.length ca', .sl pg' gs.length cg']]]) rfl (by simp [argsF]) ?_
  refine VOps.rd rfl rfl ?_
  refine VOps.nil ⟨rfl, ?_⟩
  show VW _ _ _ _ [(2, .ptr (some ⟨H.length, 0, 0⟩)), (3, .ptr (some ⟨H.length + 1, 0, 0⟩))] _ _
  generalize H ++ [Blk.row 53 .own [[.sl pa al.length ca, .sl pg gs.length cg]], .row 53 .own [[.sl pa' al.length ca', .sl pg' gs.length cg']]] = H1 at *
  have k0 := ld_own hb1 0
  have k1 := ld_own hb1 1
  have k0' := ld_own hb2 0
  have k1' := ld_own hb2 1
  simp only [List.getElem?_cons_zero, List.getElem?_cons_succ] at k0 k1 k0' k1'
  have g1 := h.ext hx
  have g2 := h'.ext hx
  refine VW.seq (VW.seq (VW.reg ?_))
  refine VOps.rd rfl rfl ?_
  refine VOps.rd (v := .sl pa al.length ca) rfl (by simp [k0]) ?_
  refine VOps.rd rfl rfl ?_
  refine VOps.rd rfl rfl ?_
  refine VOps.rd (v := .sl pa' al.length ca') rfl (by simp [k0']) ?_
  refine VOps.rd rfl rfl ?_
  refine VOps.rd (v := .bool false) rfl (by simp) ?_
  refine VOps.rd rfl rfl ?_
  refine VOps.rd rfl rfl ?_
  refine VOps.rd (v := .sl pg gs.length cg) rfl (by simp [k1]) ?_
  refine VOps.rd rfl rfl ?_
  refine VOps.rd rfl rfl ?_
  refine VOps.rd (v := .sl pg' gs.length cg') rfl (by simp [k1']) ?_
  refine VOps.rd rfl rfl ?_
  refine VOps.rd (v := .bool false) rfl (by simp) ?_
  refine VOps.rd (v := .bool false) rfl rfl ?_
  refine VOps.nil ⟨rfl, VW.condF rfl (VW.skip ?_)⟩
  refine VW.sub (G := [(2, .ptr (some ⟨H.length, 0, 0⟩)), (3, .ptr (some ⟨H.length + 1, 0, 0⟩))]) (by simp [Cov, Fr.only]) ?_
  refine VW.seq ?_
  refine VW.mono (sam0 g1 g2 k0 k0') ?_
  rintro e F2 H2 ⟨rfl, hcov, rfl⟩
  refine VW.sub hcov ?_
  refine VW.seq ?_
  refine VW.mono (sam1 g1 g2 k1 k1') ?_
  rintro e F2 H3 ⟨rfl, hcov, rfl⟩
  refine VW.sub hcov ?_
  refine VW.seq (VW.reg ?_)
  refine VOps.rd rfl rfl ?_
  exact VOps.nil ⟨rfl, VW.ret ⟨.inl rfl, _, rfl, rfl, hx⟩⟩
end
end Go.Proofs.Ytlclbfkdaemilaa

/- PackPacks over the canonical heap. -/
namespace Go.Proofs.Ytlclbfkdaemilaa
set_option linter.unusedSimpArgs false
set_option linter.unusedVariables false
open Go Go.Vm Go.Proofs
set_option maxRecDepth 100000
set_option maxHeartbeats 4000000

theorem stc_last8 {H : Hp} {t : TypeId} {a b c d e f g h a' b' c' d' e' f' g' h' : VV} (hc : okCells [a', b', c', d', e', f', g', h'] = true) : stc (H ++ [.row t .own [[a, b, c, d, e, f, g, h]]]) ⟨H.length, 0, 0⟩ [a', b', c', d', e', f', g', h'] = some (H ++ [.row t .own [[a', b', c', d', e', f', g', h']]]) := by
  have hb : (H ++ [Blk.row t .own [[a, b, c, d, e, f, g, h]]])[H.length]? = some (.row t .own [[a, b, c, d, e, f, g, h]]) := by simp
  simp only [stc, hb, hc]
  simp [upd]
theorem stc_own8 {H : Hp} {i : Nat} {t : TypeId} {a b c d e f g h a' b' c' d' e' f' g' h' : VV} (hb : H[i]? = some (.row t .own [[a, b, c, d, e, f, g, h]])) (hc : okCells [a', b', c', d', e', f', g', h'] = true) : stc H ⟨i, 0, 0⟩ [a', b', c', d', e', f', g', h'] = some (H.set i (.row t .own [[a', b', c', d', e', f', g', h']])) := by
  simp only [stc, hb, hc]
  simp [upd]
section
variable {H : Hp} {pa pg : Option PA} {ca cg : Nat} {al : List Edges} {gs : List (List Int)} {was wgs : List VV}
theorem packPacks_fn (h : Den H pa pg al gs was wgs) (hz : Sz al gs) : FnV Try.prog 7 [denV pa pg ca cg al gs] H fun r _ => r = .bool true := by
  refine FnV.enterRow ok7 (by show 1 ≤ 62; decide) fun B => ?_
  dsimp only [w7]
  have hx1 : Ext H (H ++ [.row 53 .own [[.sl pa al.length ca, .sl pg gs.length cg]]]) := .app _ _
  have hb1 : (H ++ [Blk.row 53 .own [[.sl pa al.length ca, .sl pg gs.length cg]]])[H.length]? = some (.row 53 .own [[.sl pa al.length ca, .sl pg gs.length cg]]) := by simp
  refine VW.seq (VW.reg ?_)
  refine VOps.ef (v := .ptr (some ⟨H.length, 0, 0⟩)) (H' := H ++ [.row 53 .own [[.sl pa al.length ca, .sl pg gs.length cg]]]) rfl (by simp [argsF]) ?_
  refine VOps.rd rfl rfl ?_
  refine VOps.nil ⟨rfl, ?_⟩
  show VW _ _ _ _ [(1, .ptr (some ⟨H.length, 0, 0⟩))] _ _
  replace h := h.ext hx1
  generalize H ++ [.row 53 .own [[.sl pa al.length ca, .sl pg gs.length cg]]] = H1 at *
  generalize H.length = i1 at *
  have l1 := lds_own hb1 0 2
  simp only [List.length_cons, List.length_nil, Nat.zero_add, Nat.le_refl, if_true, List.drop_zero, List.take_succ_cons, List.take_zero] at l1
  -- a table of our own
  refine VW.seq (VW.reg ?_)
  refine VOps.rd (v := denV pa pg ca cg al gs) rfl (by simp [l1]) ?_
  refine VOps.call rfl rfl rfl ((dense22 h hz).mono ?_)
  rintro r H2 ⟨hx2, oa, og, was', wgs', rfl, hd⟩
  refine VOps.ef (v := .ptr (some ⟨H2.length, 0, 0⟩)) (H' := H2 ++ [.row 53 .own [[nil1, nil1]]]) rfl rfl ?_
  refine VOps.ef (v := .undef) (H' := H2 ++ [.row 53 .own [[.sl (gptr oa) al.length al.length, .sl (gptr og) gs.length gs.length]]]) rfl (by simp [stc, okCells, VV.cell, upd]) ?_
  refine VOps.nil ⟨rfl, ?_⟩
  show VW _ _ _ _ [(1, .ptr (some ⟨i1, 0, 0⟩)), (3, .ptr (some ⟨H2.length, 0, 0⟩))] _ _
  have hx23 : Ext H2 (H2 ++ [.row 53 .own [[.sl (gptr oa) al.length al.length, .sl (gptr og) gs.length gs.length]]]) := .app _ _
  have hb3 : (H2 ++ [Blk.row 53 .own [[.sl (gptr oa) al.length al.length, .sl (gptr og) gs.length gs.length]]])[H2.length]? = some (.row 53 .own [[.sl (gptr oa) al.length al.length, .sl (gptr og) gs.length gs.length]]) := by simp
  replace hb1 := (hx2.trans hx23).get hb1
  replace h := h.ext (hx2.trans hx23)
  replace hd := hd.ext hx23
  clear hx1 hx2 hx23 l1
  generalize H2 ++ [.row 53 .own [[.sl (gptr oa) al.length al.length, .sl (gptr og) gs.length gs.length]]] = H3 at *
  generalize H2.length = i3 at *
  have l3 := lds_own hb3 0 2
  simp only [List.length_cons, List.length_nil, Nat.zero_add, Nat.le_refl, if_true, List.drop_zero, List.take_succ_cons, List.take_zero] at l3
  -- packed by the program
  refine VW.seq (VW.reg ?_)
  refine VOps.rd (v := denV (gptr oa) (gptr og) al.length gs.length al gs) rfl (by simp [l3]) ?_
  refine VOps.call rfl rfl rfl ((pack23 hd).mono ?_)
  rintro r H4 ⟨o, hres, rfl⟩
  refine VOps.rd rfl rfl ?_
  refine VOps.rd rfl rfl ?_
  refine VOps.rd rfl rfl ?_
  refine VOps.ef (v := .ptr (some ⟨H4.length, 0, 0⟩)) (H' := H4 ++ [.row 44 .own [[nil1, nil1, nil1, nil1, nil1, nil1, nil1, nil1]]]) rfl rfl ?_
  refine VOps.ef (v := .undef) (H' := H4 ++ [.row 44 .own [pkA o al gs]]) rfl (by
    simp only [VEf.ev, Od.ev, Fr.pt, Fr.get, reduceIte, Nat.reduceEqDiff, VV.defd, VV.cells]
    rw [stc_last8 (by rfl)]; rfl) ?_
  refine VOps.rd rfl rfl ?_
  refine VOps.nil ⟨rfl, ?_⟩
  show VW _ _ _ _ [(1, .ptr (some ⟨i1, 0, 0⟩)), (3, .ptr (some ⟨i3, 0, 0⟩)), (4, .ptr (some ⟨H4.length, 0, 0⟩)), (5, .int .i64 (pkE al gs))] _ _
  have hx45 : Ext H4 (H4 ++ [.row 44 .own [pkA o al gs]]) := .app _ _
  have hb5 : (H4 ++ [Blk.row 44 .own [pkA o al gs]])[H4.length]? = some (.row 44 .own [pkA o al gs]) := by simp
  have hx35 := hres.ext.trans hx45
  have own5 : ∀ j, j < 8 → Own (H4 ++ [Blk.row 44 .own [pkA o al gs]]) (o j) (pkL al gs j) := fun j hj => (hres.own j hj).ext hx45
  have hlt : ∀ j, j < 8 → ∀ k, o j = some k → k < H4.length := fun j hj k e => (hres.own j hj).lt e
  have hl45 := hx45.1
  generalize H4 ++ [.row 44 .own [pkA o al gs]] = H5 at *
  generalize hi4 : H4.length = i4 at *
  have l1 := lds_own (hx35.get hb1) 0 2
  simp only [List.length_cons, List.length_nil, Nat.zero_add, Nat.le_refl, if_true, List.drop_zero, List.take_succ_cons, List.take_zero] at l1
  -- and by the document
  refine VW.seq (VW.reg ?_)
  refine VOps.rd (v := denV pa pg ca cg al gs) rfl (by simp [l1]) ?_
  refine VOps.call rfl rfl rfl ((pack24 (h.ext hx35)).mono ?_)
  rintro r H6 ⟨o', hres', rfl⟩
  refine VOps.rd rfl rfl ?_
  refine VOps.rd rfl rfl ?_
  refine VOps.rd rfl rfl ?_
  refine VOps.ef (v := .ptr (some ⟨H6.length, 0, 0⟩)) (H' := H6 ++ [.row 44 .own [[nil1, nil1, nil1, nil1, nil1, nil1, nil1, nil1]]]) rfl rfl ?_
  refine VOps.ef (v := .undef) (H' := H6 ++ [.row 44 .own [pkA o' al gs]]) rfl (by
    simp only [VEf.ev, Od.ev, Fr.pt, Fr.get, reduceIte, Nat.reduceEqDiff, VV.defd, VV.cells]
    rw [stc_last8 (by rfl)]; rfl) ?_
  refine VOps.rd rfl rfl ?_
  refine VOps.nil ⟨rfl, ?_⟩
  show VW _ _ _ _ [(1, .ptr (some ⟨i1, 0, 0⟩)), (3, .ptr (some ⟨i3, 0, 0⟩)), (4, .ptr (some ⟨i4, 0, 0⟩)), (5, .int .i64 (pkE al gs)), (6, .ptr (some ⟨H6.length, 0, 0⟩)), (7, .int .i64 (pkE al gs))] _ _
  have hx67 : Ext H6 (H6 ++ [.row 44 .own [pkA o' al gs]]) := .app _ _
  have hb7 : (H6 ++ [Blk.row 44 .own [pkA o' al gs]])[H6.length]? = some (.row 44 .own [pkA o' al gs]) := by simp
  have hx57 := hres'.ext.trans hx67
  have own7' : ∀ j, j < 8 → Own (H6 ++ [Blk.row 44 .own [pkA o' al gs]]) (o' j) (pkL al gs j) := fun j hj => (hres'.own j hj).ext hx67
  have hl6 := hres'.ext.1
  generalize H6 ++ [.row 44 .own [pkA o' al gs]] = H7 at *
  generalize hi6 : H6.length = i6 at *
  have own7 : ∀ j, j < 8 → Own H7 (o j) (pkL al gs j) := fun j hj => (own5 j hj).ext hx57
  have hb47 := hx57.get hb5
  have hx37 := hx35.trans hx57
  have hlt45 := get_lt hb5
  clear own5 hb5 hx45 hx67 l1
  have l4 := lds_own hb47 0 8
  have l6 := lds_own hb7 0 8
  have l41 := lds_own hb47 1 3
  simp only [List.length_cons, List.length_nil, Nat.zero_add, Nat.reduceAdd, Nat.reduceLeDiff, Nat.le_refl, if_true, List.drop_succ_cons, List.drop_zero, List.take_succ_cons, List.take_zero] at l4 l6 l41
  refine VW.seq (VW.seq (VW.reg ?_))
  refine VOps.rd rfl rfl ?_
  refine VOps.rd rfl rfl ?_
  refine VOps.rd (v := .bool false) rfl (by simp) ?_
  refine VOps.rd rfl rfl ?_
  refine VOps.rd (v := .agg (pkA o al gs)) rfl (by simp [l4]) ?_
  refine VOps.rd (v := .agg (pkA o' al gs)) rfl (by simp [l6]) ?_
  refine VOps.call rfl rfl rfl ((same25 own7 own7').mono ?_)
  rintro r Hy ⟨rfl, rfl⟩
  refine VOps.rd (v := .bool false) rfl rfl ?_
  refine VOps.rd (v := .bool false) rfl rfl ?_
  refine VOps.nil ⟨rfl, VW.condF rfl (VW.skip ?_)⟩
  -- written over
  have hn : ∀ j, (pkL al gs j).length ≤ 1000000000 := fun j => by have := pkL_len al gs j; omega
  refine VW.seq (VW.reg ?_)
  refine VOps.rd rfl rfl ?_
  refine VOps.rd (v := .agg [.sl (gptr (o 1)) (pkL al gs 1).length (pkL al gs 1).length, .sl (gptr (o 2)) (pkL al gs 2).length (pkL al gs 2).length, .sl (gptr (o 3)) (pkL al gs 3).length (pkL al gs 3).length]) rfl (by simp [Fr.only, l41]) ?_
  refine VOps.call rfl rfl rfl ((spoil14 (o := fun j => o (j + 1)) (n := fun j => (pkL al gs (j + 1)).length) (fun j hj => (own7 (j + 1) (by omega)).2) (fun j hj => hn _) (fun j j' hj hj' hne k e => hres.ne (j + 1) (j' + 1) (by omega) (by omega) (by omega) k e)).mono ?_)
  rintro r H8 ⟨rfl, hw8⟩
  refine VOps.nil ⟨rfl, ?_⟩
  have own8 : ∀ j, j < 8 → (j = 0 ∨ 4 ≤ j) → Own H8 (o j) (pkL al gs j) := fun j hj hc => (own7 j hj).keep fun k e => hw8.2 k ((own7 j hj).lt e) fun j' hj' e' => hres.ne j (j' + 1) hj (by omega) (by omega) k e e'
  have hb48 : H8[i4]? = some (.row 44 .own [pkA o al gs]) := by rw [hw8.2 i4 (get_lt hb47) (fun j hj e => by have := hlt (j + 1) (by omega) i4 e; omega)]; exact hb47
  have l45 := lds_own hb48 5 3
  simp only [List.length_cons, List.length_nil, Nat.zero_add, Nat.reduceAdd, Nat.reduceLeDiff, Nat.le_refl, if_true, List.drop_succ_cons, List.drop_zero, List.take_succ_cons, List.take_zero] at l45
  refine VW.seq (VW.reg ?_)
  refine VOps.rd rfl rfl ?_
  refine VOps.rd (v := .agg [.sl (gptr (o 5)) (pkL al gs 5).length (pkL al gs 5).length, .sl (gptr (o 6)) (pkL al gs 6).length (pkL al gs 6).length, .sl (gptr (o 7)) (pkL al gs 7).length (pkL al gs 7).length]) rfl (by simp [Fr.only, l45]) ?_
  refine VOps.call rfl rfl rfl ((spoil14 (o := fun j => o (j + 5)) (n := fun j => (pkL al gs (j + 5)).length) (fun j hj => (own8 (j + 5) (by omega) (by omega)).2) (fun j hj => hn _) (fun j j' hj hj' hne k e => hres.ne (j + 5) (j' + 5) (by omega) (by omega) (by omega) k e)).mono ?_)
  rintro r H9 ⟨rfl, hw9⟩
  refine VOps.nil ⟨rfl, ?_⟩
  have own9 : ∀ j, j < 8 → (j = 0 ∨ j = 4) → Own H9 (o j) (pkL al gs j) := fun j hj hc => (own8 j hj (by omega)).keep fun k e => hw9.2 k ((own8 j hj (by omega)).lt e) fun j' hj' e' => hres.ne j (j' + 5) hj (by omega) (by omega) k e e'
  have hb49 : H9[i4]? = some (.row 44 .own [pkA o al gs]) := by rw [hw9.2 i4 (get_lt hb48) (fun j hj e => by have := hlt (j + 5) (by omega) i4 e; omega)]; exact hb48
  have c40 := ld_own hb49 0
  have c44 := ld_own hb49 4
  simp only [List.getElem?_cons_zero, List.getElem?_cons_succ] at c40 c44
  refine VW.seq (VW.reg ?_)
  refine VOps.rd rfl rfl ?_
  refine VOps.rd (v := .sl (gptr (o 0)) (pkL al gs 0).length (pkL al gs 0).length) rfl (by simp [Fr.only, c40]) ?_
  refine VOps.rd rfl rfl ?_
  refine VOps.rd (v := .sl (gptr (o 4)) (pkL al gs 4).length (pkL al gs 4).length) rfl (by simp [Fr.only, c44]) ?_
  refine VOps.rd (v := .agg [.sl (gptr (o 0)) (pkL al gs 0).length (pkL al gs 0).length, .sl (gptr (o 4)) (pkL al gs 4).length (pkL al gs 4).length, .sl none 0 0]) rfl rfl ?_
  refine VOps.call rfl rfl rfl ((spoil14 (o := fun j => match j with | 0 => o 0 | 1 => o 4 | _ => none) (n := fun j => match j with | 0 => (pkL al gs 0).length | 1 => (pkL al gs 4).length | _ => 0) (fun j hj => ?_) (fun j hj => ?_) (fun j j' hj hj' hne k e => ?_)).mono ?_)
  · match j, hj with
    | 0, _ => exact (own9 0 (by omega) (by omega)).2
    | 1, _ => exact (own9 4 (by omega) (by omega)).2
    | 2, _ => rfl
  · match j, hj with
    | 0, _ => exact hn _
    | 1, _ => exact hn _
    | 2, _ => exact Nat.zero_le _
  · match j, hj, j', hj' with
    | 0, _, 0, _ => exact absurd rfl hne
    | 0, _, 1, _ => exact hres.ne 0 4 (by omega) (by omega) (by omega) k e
    | 0, _, 2, _ => exact fun h => by cases h
    | 1, _, 0, _ => exact hres.ne 4 0 (by omega) (by omega) (by omega) k e
    | 1, _, 1, _ => exact absurd rfl hne
    | 1, _, 2, _ => exact fun h => by cases h
    | 2, _, 0, _ => cases e
    | 2, _, 1, _ => cases e
    | 2, _, 2, _ => cases e
  rintro r H10 ⟨rfl, hw10⟩
  refine VOps.nil ⟨rfl, ?_⟩
  show VW _ _ _ _ [(1, .ptr (some ⟨i1, 0, 0⟩)), (3, .ptr (some ⟨i3, 0, 0⟩)), (4, .ptr (some ⟨i4, 0, 0⟩)), (6, .ptr (some ⟨i6, 0, 0⟩)), (7, .int .i64 (pkE al gs))] _ _
  -- what is left
  have hl8 := hw8.1
  have hl9 := hw9.1
  have hl10 := hw10.1
  have left10 : ∀ k, k < Hy.length → (∀ j, j < 8 → o j ≠ some k) → H10[k]? = Hy[k]? := fun k hk hno => by
    rw [hw10.2 k (by omega) (fun j hj => by
      match j, hj with
      | 0, _ => exact hno 0 (by omega)
      | 1, _ => exact hno 4 (by omega)
      | 2, _ => exact fun h => by cases h), hw9.2 k (by omega) (fun j hj => hno (j + 5) (by omega)), hw8.2 k hk (fun j hj => hno (j + 1) (by omega))]
  clear hw8 hw9 hw10 own8 own9 hb48 hb49 l45 c40 c44 l4 l6 l41
  have hx310 : Ext H3 H10 := ⟨by have := hx37.1; omega, fun k hk => by
    rw [left10 k (Nat.lt_of_lt_of_le hk hx37.1) (fun j hj e => by have := hres.lo j hj k e; omega)]; exact hx37.2 k hk⟩
  have hl34 := hres.ext.1
  have later : ∀ k, i4 ≤ k → k < Hy.length → H10[k]? = Hy[k]? := fun k h1 h2 => left10 k h2 (fun j hj e => by have := hlt j hj k e; omega)
  have hb410 : H10[i4]? = some (.row 44 .own [pkA o al gs]) := by rw [later i4 (Nat.le_refl _) (get_lt hb47)]; exact hb47
  have hb710 : H10[i6]? = some (.row 44 .own [pkA o' al gs]) := by rw [later i6 (by omega) (get_lt hb7)]; exact hb7
  have own10' : ∀ j, j < 8 → Own H10 (o' j) (pkL al gs j) := fun j hj => (own7' j hj).keep fun k e => later k (by have := hres'.lo j hj k e; omega) ((own7' j hj).lt e)
  clear left10 later own7 own7' hb47 hb7
  have l3 := lds_own (hx310.get hb3) 0 2
  simp only [List.length_cons, List.length_nil, Nat.zero_add, Nat.le_refl, if_true, List.drop_zero, List.take_succ_cons, List.take_zero] at l3
  -- packed again
  refine VW.seq (VW.reg ?_)
  refine VOps.rd (v := denV (gptr oa) (gptr og) al.length gs.length al gs) rfl (by simp [l3]) ?_
  refine VOps.call rfl rfl rfl ((pack23 (hd.ext hx310)).mono ?_)
  rintro r H11 ⟨o2, hres2, rfl⟩
  have hb411 := hres2.ext.get hb410
  have hst : stc H11 ⟨i4, 0, 0⟩ (pkA o2 al gs) = some (H11.set i4 (.row 44 .own [pkA o2 al gs])) := stc_own8 hb411 rfl
  refine VOps.rd rfl rfl ?_
  refine VOps.rd rfl rfl ?_
  refine VOps.rd rfl rfl ?_
  refine VOps.ef (v := .undef) (H' := H11.set i4 (.row 44 .own [pkA o2 al gs])) rfl (by simp only [VEf.ev, Od.ev, Fr.pt, Fr.get, reduceIte, Nat.reduceEqDiff, VV.defd, VV.cells, hst]; simp) ?_
  refine VOps.rd rfl rfl ?_
  refine VOps.nil ⟨rfl, ?_⟩
  show VW _ _ _ _ [(1, .ptr (some ⟨i1, 0, 0⟩)), (3, .ptr (some ⟨i3, 0, 0⟩)), (4, .ptr (some ⟨i4, 0, 0⟩)), (5, .int .i64 (pkE al gs)), (6, .ptr (some ⟨i6, 0, 0⟩)), (7, .int .i64 (pkE al gs))] _ _
  have hx312 : Ext H3 (H11.set i4 (.row 44 .own [pkA o2 al gs])) := (hx310.trans hres2.ext).set (by omega) _
  have hne46 : i4 ≠ i6 := by omega
  have hb712 : (H11.set i4 (.row 44 .own [pkA o2 al gs]))[i6]? = some (.row 44 .own [pkA o' al gs]) := get_ne (hres2.ext.get hb710) hne46
  have hb412 : (H11.set i4 (.row 44 .own [pkA o2 al gs]))[i4]? = some (.row 44 .own [pkA o2 al gs]) := List.getElem?_set_self (get_lt hb411)
  have own12 : ∀ j, j < 8 → Own (H11.set i4 (.row 44 .own [pkA o2 al gs])) (o2 j) (pkL al gs j) := fun j hj => (hres2.own j hj).set ((hres2.own j hj).ne hb411 (by decide)) _
  have own12' : ∀ j, j < 8 → Own (H11.set i4 (.row 44 .own [pkA o2 al gs])) (o' j) (pkL al gs j) := fun j hj => ((own10' j hj).ext hres2.ext).set (((own10' j hj).ext hres2.ext).ne hb411 (by decide)) _
  generalize H11.set i4 (.row 44 .own [pkA o2 al gs]) = H12 at *
  have m4 := lds_own hb412 0 8
  have m6 := lds_own hb712 0 8
  have m3 := lds_own (hx312.get hb3) 0 2
  have m1 := lds_own (hx312.get hb1) 0 2
  simp only [List.length_cons, List.length_nil, Nat.zero_add, Nat.reduceAdd, Nat.reduceLeDiff, Nat.le_refl, if_true, List.drop_succ_cons, List.drop_zero, List.take_succ_cons, List.take_zero] at m4 m6 m3 m1
  refine VW.seq (VW.reg ?_)
  refine VOps.rd rfl rfl ?_
  refine VOps.rd rfl rfl ?_
  refine VOps.rd (v := .bool true) rfl (by simp) ?_
  refine VOps.rd rfl rfl ?_
  refine VOps.rd (v := .agg (pkA o2 al gs)) rfl (by simp [m4]) ?_
  refine VOps.rd (v := .agg (pkA o' al gs)) rfl (by simp [m6]) ?_
  refine VOps.call rfl rfl rfl ((same25 own12 own12').mono ?_)
  rintro r Hv ⟨rfl, rfl⟩
  refine VOps.rd (v := .bool true) rfl rfl ?_
  refine VOps.rd rfl rfl ?_
  refine VOps.rd (v := denV (gptr oa) (gptr og) al.length gs.length al gs) rfl (by simp [m3]) ?_
  refine VOps.rd (v := denV pa pg ca cg al gs) rfl (by simp [m1]) ?_
  refine VOps.call rfl rfl rfl ((same26 (hd.ext hx312) (h.ext hx312)).mono ?_)
  rintro r Hw ⟨rfl, rfl⟩
  refine VOps.rd (v := .bool true) rfl rfl ?_
  refine VOps.rd rfl rfl ?_
  refine VOps.call rfl rfl rfl ((awake_fn _).mono ?_)
  rintro r Hu ⟨rfl, rfl⟩
  refine VOps.rd (v := .bool true) rfl rfl ?_
  refine VOps.rd rfl rfl ?_
  refine VOps.nil ⟨rfl, VW.ret ⟨.inl rfl, .bool true, rfl, rfl⟩⟩
end
end Go.Proofs.Ytlclbfkdaemilaa

