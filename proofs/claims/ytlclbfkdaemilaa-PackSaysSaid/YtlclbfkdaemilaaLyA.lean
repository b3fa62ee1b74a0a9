/- isRow of the program and of the document; the library's search through a list: over the canonical heap. -/
import Derived.Test.YtlclbfkdaemilaaVmQ
import Derived.Test.YtlclbfkdaemilaaFnA
import Derived.Test.YtlclbfkdaemilaaFnD
import Derived.Test.YtlclbfkdaemilaaAt
namespace Go.Proofs.Ytlclbfkdaemilaa
set_option linter.unusedSimpArgs false
set_option linter.unusedVariables false
open Go Go.Vm Go.Proofs
set_option maxRecDepth 100000
set_option maxHeartbeats 1000000

/-- edges: the place and the value -/
abbrev Edges := List (Int × Int)
def edgeEs (l : Edges) : List (List VV) := l.map fun e => [.int .i64 e.1, .int .i64 e.2]
theorem edgeEs_len (l : Edges) : (edgeEs l).length = l.length := by simp [edgeEs]
theorem edgeEs_get {l : Edges} {k : Nat} (h : k < l.length) : (edgeEs l)[k]? = some [.int .i64 (l.getD k (0, 0)).1, .int .i64 (l.getD k (0, 0)).2] := by simp [edgeEs, List.getD, h]
theorem sl_edge {H : Hp} {p : Option PA} {l : Edges} (h : Sl H p 2 (edgeEs l)) {k : Nat} (hk : k < l.length) : ∃ q, p = some q ∧ Vm.ixp H q k 2 = some (elp (some q) k) ∧ Vm.ld H (elp (some q) k) = some (.int .i64 (l.getD k (0, 0)).1) ∧ Vm.lds H (elp (some q) k) 2 = some [.int .i64 (l.getD k (0, 0)).1, .int .i64 (l.getD k (0, 0)).2] ∧ (elp (some q) k).off = 0 := by
  obtain ⟨q, rfl, h1⟩ := h.ixp (k := k) (by simpa [edgeEs] using hk)
  refine ⟨q, rfl, h1, ?_, ?_, rfl⟩
  · have := h.ld0 (edgeEs_get hk); simpa using this
  · exact h.lds (edgeEs_get hk)
theorem stc_last2 {H : Hp} {t : TypeId} {md : Vm.Mode} (hm : md ≠ .ro) {a b c d : VV} (hc : c.cell = true) (hd : d.cell = true) : stc (H ++ [.row t md [[a, b]]]) ⟨H.length, 0, 0⟩ [c, d] = some (H ++ [.row t md [[c, d]]]) := by
  have hb : (H ++ [Blk.row t md [[a, b]]])[H.length]? = some (.row t md [[a, b]]) := by simp
  have hk : okCells [c, d] = true := by simp only [okCells, List.all_cons, List.all_nil, hc, hd, Bool.and_true]
  simp only [stc, hb, if_neg hm, List.getElem?_cons_zero, hk]
  simp [upd]
theorem get_push {H : Hp} {i : Nat} {x : Blk} (h : H[i]? = some x) (G : Hp) : (H ++ G)[i]? = some x := by
  rw [List.getElem?_append_left (List.getElem?_eq_some_iff.1 h).1]; exact h
theorem get_ne {H : Hp} {i j : Nat} {x y : Blk} (h : H[i]? = some x) (hn : j ≠ i) : (H.set j y)[i]? = some x := by
  rw [List.getElem?_set_ne hn]; exact h
theorem get_lt {H : Hp} {i : Nat} {x : Blk} (h : H[i]? = some x) : i < H.length := (List.getElem?_eq_some_iff.1 h).1

def scan (seen : Nat → Bool) : Edges → Bool
  | [] => true
  | e :: r => if e.1 < 0 then false else if 256 ≤ e.1 then false else if seen e.1.toNat then false else scan (fun k => if k = e.1.toNat then true else seen k) r
def isRowS (l : Edges) : Bool := scan (fun _ => false) l
theorem scan_step {seen : Nat → Bool} {l : Edges} {k : Nat} (h : k < l.length) : scan seen (l.drop k) = if (l.getD k (0, 0)).1 < 0 then false else if 256 ≤ (l.getD k (0, 0)).1 then false else if seen (l.getD k (0, 0)).1.toNat then false else scan (fun z => if z = (l.getD k (0, 0)).1.toNat then true else seen z) (l.drop (k + 1)) := by
  rw [List.drop_eq_getElem_cons h]
  have : l.getD k (0, 0) = l[k] := by simp [List.getD, h]
  rw [this]; rfl
theorem scan_end {seen : Nat → Bool} {l : Edges} : scan seen (l.drop l.length) = true := by simp [scan]
/-- how many are yet to be seen -/
def unseen (seen : Nat → Bool) : Nat → Nat
  | 0 => 0
  | n + 1 => unseen seen n + if seen n then 0 else 1
theorem unseen_set {seen : Nat → Bool} {s : Nat} (hs : seen s = false) : ∀ n, s < n → unseen (fun k => if k = s then true else seen k) n + 1 = unseen seen n
  | 0, h => by omega
  | n + 1, h => by
    by_cases e : n = s
    · subst e
      have : ∀ m, m ≤ n → unseen (fun k => if k = n then true else seen k) m = unseen seen m := by
        intro m
        induction m with
        | zero => intro _; rfl
        | succ m ih =>
          intro hm
          have e2 : m ≠ n := by omega
          show unseen _ m + (if (if m = n then true else seen m) = true then 0 else 1) = unseen seen m + _
          rw [ih (by omega), if_neg e2]
      show unseen _ n + (if (if n = n then true else seen n) = true then 0 else 1) + 1 = unseen seen n + (if seen n = true then 0 else 1)
      rw [this n (Nat.le_refl _), if_pos rfl, hs]
      simp
    · have := unseen_set hs n (by omega)
      simp only [unseen, e, if_false]
      omega
theorem unseen_le (seen : Nat → Bool) : ∀ n, unseen seen n ≤ n
  | 0 => Nat.le_refl _
  | n + 1 => by have := unseen_le seen n; unfold unseen; split <;> omega
theorem scan_len : ∀ {l : Edges} {seen : Nat → Bool}, scan seen l = true → l.length ≤ unseen seen 256
  | [], _, _ => by simp
  | e :: r, seen, h => by
    unfold scan at h
    split at h
    · cases h
    · split at h
      · cases h
      · split at h
        · cases h
        · rename_i h1 h2 h3
          have := scan_len h
          have := unseen_set (seen := seen) (s := e.1.toNat) (by simpa using h3) 256 (by omega)
          simp only [List.length_cons]; omega
theorem isRow_len {l : Edges} (h : isRowS l = true) : l.length ≤ 256 := Nat.le_trans (scan_len h) (unseen_le _ _)

section
variable {H : Hp} {p : Option PA} {c : Nat} {l : Edges}

abbrev seenR (seen : Nat → Bool) : List VV := (List.range 256).map fun k => VV.bool (seen k)
theorem isRow30 (h : Sl H p 2 (edgeEs l)) (hl : l.length ≤ maxLen) : FnV Try.prog 30 [.sl p l.length c] H fun r H' => r = .bool (isRowS l) ∧ Ext H H' := by
  refine FnV.enterRow ok30 (by show 1 ≤ 30; decide) fun B => ?_
  dsimp only [w30]
  have hmx : maxLen = 9223372036854775807 := rfl
  refine VW.seq (VW.reg ?_)
  refine VOps.rd rfl rfl ?_
  refine VOps.nil ⟨rfl, ?_⟩
  refine VW.seq (VW.reg ?_)
  refine VOps.ef rfl rfl ?_
  refine VOps.nil ⟨rfl, ?_⟩
  have h0 : (H ++ [Blk.row 78 .own [seenR fun _ => false]])[H.length]? = some (Blk.row 78 .own [seenR fun _ => false]) := by simp
  show VW _ _ _ _ [(0, .sl p l.length c), (3, .ptr (some ⟨H.length, 0, 0⟩))] (H ++ [Blk.row 78 .own [seenR fun _ => false]]) _
  have hx : Ext H (H ++ [Blk.row 78 .own [seenR fun _ => false]]) := .app _ _
  generalize H ++ [Blk.row 78 .own [seenR fun _ => false]] = H1 at *
  refine VW.seq (VW.seq (VW.reg ?_))
  refine VOps.rd rfl rfl ?_
  refine VOps.rd rfl rfl ?_
  refine VOps.rd rfl rfl ?_
  refine VOps.nil ⟨rfl, ?_⟩
  show VW _ _ _ _ [(3, .ptr (some ⟨H.length, 0, 0⟩)), (6, .sl p l.length c), (7, .int .i64 l.length), (8, .int .i64 0)] _ _
  refine VW.block ?_
  refine VW.loop (fun k F' H' => ∃ (i : Int) (seen : Nat → Bool), 0 ≤ i ∧ i ≤ l.length ∧ k = l.length - i.toNat ∧ F' = [(3, .ptr (some ⟨H.length, 0, 0⟩)), (6, .sl p l.length c), (7, .int .i64 l.length), (8, .int .i64 i)] ∧
      Ext H H' ∧ H'[H.length]? = some (Blk.row 78 .own [seenR seen]) ∧ isRowS l = scan seen (l.drop i.toNat)) l.length
      ⟨0, _, by omega, by omega, rfl, rfl, hx, h0, rfl⟩ ?_
  clear hx h0
  rintro k F' H2 ⟨i, seen, i0, il, rfl, rfl, hx, h0, hS⟩
  by_cases hil : i < l.length
  · rw [scan_step (by omega)] at hS
    obtain ⟨q, rfl, hq1, hq2, hq3, hq4⟩ := sl_edge (hx.sl h) (k := i.toNat) (by omega)
    generalize (l.getD i.toNat (0, 0)).1 = sy at *
    generalize (l.getD i.toNat (0, 0)).2 = to at *
    have hs2 := stc_last2 (H := H2) (t := 42) (md := .own) (by decide) (a := .int .i64 0) (b := .int .i64 0) (c := .int .i64 sy) (d := .int .i64 to) rfl rfl
    have hv := wrap_id (x := i + 1) (by omega) (by omega)
    refine VW.seq (VW.reg ?_)
    repeat first
      | (apply VOps.rd; (focus (first | exact rfl | (simp [Fr.only, argsF, *]; done))); (focus (exact rfl)))
      | (apply VOps.sk; (focus (simp [Fr.only, argsF, *]; done)))
      | (apply VOps.rd; (focus (first | exact rfl | (simp [Fr.only, argsF, *]; done))); (focus (simp [Fr.only, argsF, *]; first | done | exact rfl)))
    refine VOps.nil ⟨rfl, ?_⟩
    refine VW.seq (VW.condT (by simp [Fr.only, *]) (VW.skip ?_))
    refine VW.seq (VW.block (VW.seq (VW.reg ?_)))
    repeat first
      | (apply VOps.rd; (focus (first | exact rfl | (simp [Fr.only, argsF, *]; done))); (focus (exact rfl)))
      | (apply VOps.sk; (focus (simp [Fr.only, argsF, *]; done)))
      | (apply VOps.rd; (focus (first | exact rfl | (simp [Fr.only, argsF, *]; done))); (focus (simp [Fr.only, argsF, *]; first | done | exact rfl)))
      | (apply VOps.ef; (focus (first | exact rfl | (simp [Fr.only, argsF, *]; done))); (focus (simp [Fr.only, argsF, *]; first | done | exact rfl | exact ⟨rfl, rfl⟩)))
    refine VOps.nil ⟨rfl, ?_⟩
    show VW _ _ _ _ [(3, .ptr (some ⟨H.length, 0, 0⟩)), (5, .ptr (some ⟨H2.length, 0, 0⟩)), (6, .sl (some q) l.length c), (7, .int .i64 l.length), (8, .int .i64 i)] _ _
    clear hq1 hq2 hq3 hq4 hs2
    have l0 := ld_last H2 42 .own [VV.int .i64 sy, VV.int .i64 to] [] 0
    simp only [List.getElem?_cons_zero] at l0
    replace hx := hx.push [Blk.row 42 Mode.own [[VV.int .i64 sy, VV.int .i64 to]]]
    replace h0 := get_push h0 [Blk.row 42 Mode.own [[VV.int .i64 sy, VV.int .i64 to]]]
    generalize H2 ++ [Blk.row 42 Mode.own [[VV.int .i64 sy, VV.int .i64 to]]] = H3 at *
    generalize H2.length = i3 at *
    have bad : ∀ F, isRowS l = false → Cov [(3, VV.ptr (some ⟨H.length, 0, 0⟩)), (25, .bool true)] F → VW Try.prog B 30 (VC.cond 25 (VC.seq (VC.reg [VI.rd 2 none (VOp.mv (Od.c (VV.bool false)))] [2]) (VC.ret)) (VC.skip)) F H3 (fun e F2 Hx => (e = .ret ∧ F2.get 2 = some (.bool (isRowS l)) ∧ Ext H Hx) ∨ (e = .normal ∧ F2 = [(3, VV.ptr (some ⟨H.length, 0, 0⟩)), (5, .ptr (some ⟨i3, 0, 0⟩)), (6, .sl (some q) l.length c), (7, .int .i64 l.length), (8, .int .i64 i), (25, .bool false)] ∧ Hx = H3 ∧ 0 ≤ sy ∧ sy < 256 ∧ seen sy.toNat = false)) := by
      intro F hb hc
      refine VW.condT hc.2.1 (VW.seq (VW.reg ?_))
      refine VOps.rd rfl rfl ?_
      refine VOps.nil ⟨rfl, VW.ret (.inl ⟨rfl, ?_, hx⟩)⟩
      rw [hb]; rfl
    refine VW.seq ?_
    refine VW.mono (Q := fun e F2 Hx => (e = .ret ∧ F2.get 2 = some (.bool (isRowS l)) ∧ Ext H Hx) ∨ (e = .normal ∧ F2 = [(3, VV.ptr (some ⟨H.length, 0, 0⟩)), (5, .ptr (some ⟨i3, 0, 0⟩)), (6, .sl (some q) l.length c), (7, .int .i64 l.length), (8, .int .i64 i), (25, .bool false)] ∧ Hx = H3 ∧ 0 ≤ sy ∧ sy < 256 ∧ seen sy.toNat = false)) ?_ ?_
    · refine VW.seq (VW.reg ?_)
      by_cases g1 : sy < 0
      · rw [if_pos g1] at hS
        have hbad := fun F => bad F hS
        clear bad
        repeat first
          | (apply VOps.rd; (focus (first | exact rfl | (simp [Fr.only, argsF, *]; done))); (focus (exact rfl)))
          | (apply VOps.sk; (focus (simp [Fr.only, argsF, *]; done)))
          | (apply VOps.rd; (focus (first | exact rfl | (simp [Fr.only, argsF, *]; done))); (focus (simp [Fr.only, argsF, *]; first | done | exact rfl)))
        exact VOps.nil ⟨rfl, hbad _ (by simp [Cov, Fr.only])⟩
      · by_cases g2 : 256 ≤ sy
        · rw [if_neg g1, if_pos g2] at hS
          have hbad := fun F => bad F hS
          clear bad
          repeat first
            | (apply VOps.rd; (focus (first | exact rfl | (simp [Fr.only, argsF, *]; done))); (focus (exact rfl)))
            | (apply VOps.sk; (focus (simp [Fr.only, argsF, *]; done)))
            | (apply VOps.rd; (focus (first | exact rfl | (simp [Fr.only, argsF, *]; done))); (focus (simp [Fr.only, argsF, *]; first | done | exact rfl)))
          exact VOps.nil ⟨rfl, hbad _ (by simp [Cov, Fr.only])⟩
        · rw [if_neg g1, if_neg g2] at hS
          have g3 : 0 ≤ sy := by omega
          have g4 : sy < 256 := by omega
          have hix : ixp H3 ⟨H.length, 0, 0⟩ sy.toNat 1 = some ⟨H.length, 0, sy.toNat⟩ := by
            simp [ixp, eszOf, h0, padd]
          have hld : ld H3 ⟨H.length, 0, sy.toNat⟩ = some (.bool (seen sy.toNat)) := by
            have : sy.toNat < 256 := by omega
            simp [ld, h0, this]
          by_cases hse : seen sy.toNat = true
          · rw [hse, if_pos rfl] at hS
            rw [hse] at hld
            have hbad := fun F => bad F hS
            clear bad
            repeat first
              | (apply VOps.rd; (focus (first | exact rfl | (simp [Fr.only, argsF, *]; done))); (focus (exact rfl)))
              | (apply VOps.sk; (focus (simp [Fr.only, argsF, *]; done)))
              | (apply VOps.rd; (focus (first | exact rfl | (simp [Fr.only, argsF, *]; done))); (focus (simp [Fr.only, argsF, *]; first | done | exact rfl)))
            exact VOps.nil ⟨rfl, hbad _ (by simp [Cov, Fr.only])⟩
          · have hse2 : seen sy.toNat = false := by simpa using hse
            rw [hse2] at hld
            clear bad
            repeat first
              | (apply VOps.rd; (focus (first | exact rfl | (simp [Fr.only, argsF, *]; done))); (focus (exact rfl)))
              | (apply VOps.sk; (focus (simp [Fr.only, argsF, *]; done)))
              | (apply VOps.rd; (focus (first | exact rfl | (simp [Fr.only, argsF, *]; done))); (focus (simp [Fr.only, argsF, *]; first | done | exact rfl)))
            refine VOps.nil ⟨rfl, VW.condF (by simp [Fr.only]) (VW.skip (.inr ⟨rfl, by simp [Fr.only], rfl, g3, g4, hse2⟩))⟩
    rintro e F2 Hx (⟨rfl, h1, h2⟩ | ⟨rfl, rfl, rfl, g3, g4, g5⟩)
    · simp only [then_normal, then_ret, then_exit, inB_normal, inB_ret, inB_exit, reduceIte, Nat.reduceEqDiff]
      exact ⟨by simp, .bool (isRowS l), by simp [resV, resL, h1], rfl, h2⟩
    · rw [if_neg (by omega), if_neg (by omega), g5, if_neg (by simp)] at hS
      have hix : ixp Hx ⟨H.length, 0, 0⟩ sy.toNat 1 = some ⟨H.length, 0, sy.toNat⟩ := by
        simp [ixp, eszOf, h0, padd]
      have hst : stc Hx ⟨H.length, 0, sy.toNat⟩ [.bool true] = some (Hx.set H.length (.row 78 .own [seenR fun k => if k = sy.toNat then true else seen k])) := by
        have hlt : sy.toNat < 256 := by omega
        have hup : ((seenR seen).set sy.toNat (.bool true)) = seenR fun k => if k = sy.toNat then true else seen k := by
          apply List.ext_getElem?
          intro z
          by_cases e : sy.toNat = z
          · subst e
            rw [List.getElem?_set_self (by simpa using hlt)]
            simp [hlt]
          · rw [List.getElem?_set_ne e]
            have : z ≠ sy.toNat := fun h => e h.symm
            by_cases hz : z < 256
            · simp [hz, this]
            · simp [hz]
        simp only [stc, h0, List.getElem?_cons_zero]
        rw [if_neg (by decide), if_pos (by simp [okCells, VV.cell]; omega)]
        simp only [upd, hup, List.set_cons_zero]
      clear bad
      have hx' := hx.set (i := H.length) (Nat.le_refl _) (.row 78 .own [seenR fun k => if k = sy.toNat then true else seen k])
      have h0' : (Hx.set H.length (.row 78 .own [seenR fun k => if k = sy.toNat then true else seen k]))[H.length]? = some (.row 78 .own [seenR fun k => if k = sy.toNat then true else seen k]) := by
        rw [List.getElem?_set_self (get_lt h0)]
      clear hx h0
      generalize Hx.set H.length (.row 78 .own [seenR fun k => if k = sy.toNat then true else seen k]) = H4 at *
      refine VW.reg ?_
      repeat first
        | (apply VOps.rd; (focus (first | exact rfl | (simp [Fr.only, argsF, *]; done))); (focus (exact rfl)))
        | (apply VOps.sk; (focus (simp [Fr.only, argsF, *]; done)))
        | (apply VOps.rd; (focus (first | exact rfl | (simp [Fr.only, argsF, *]; done))); (focus (simp [Fr.only, argsF, *]; first | done | exact rfl)))
        | (apply VOps.ef; (focus (first | exact rfl | (simp [Fr.only, argsF, *]; done))); (focus (simp [Fr.only, argsF, *]; first | done | exact rfl | exact ⟨rfl, rfl⟩)))
      refine VOps.nil ⟨rfl, ?_⟩
      refine VW.reg ?_
      refine VOps.rd rfl rfl ?_
      refine VOps.rd rfl rfl ?_
      refine VOps.nil ⟨rfl, l.length - (i + 1).toNat, by omega, i + 1, _, by omega, by omega, rfl, by simp [Fr.only, hv], hx', h0', ?_⟩
      rw [hS, show (i + 1).toNat = i.toNat + 1 by omega]
  · have : i = l.length := by omega
    subst this
    rw [show ((l.length : Int)).toNat = l.length by omega, scan_end] at hS
    refine VW.seq (VW.reg ?_)
    repeat first
      | (apply VOps.rd; (focus (first | exact rfl | (simp [Fr.only, argsF, *]; done))); (focus (exact rfl)))
      | (apply VOps.sk; (focus (simp [Fr.only, argsF, *]; done)))
      | (apply VOps.rd; (focus (first | exact rfl | (simp [Fr.only, argsF, *]; done))); (focus (simp [Fr.only, argsF, *]; first | done | exact rfl)))
    refine VOps.nil ⟨rfl, ?_⟩
    refine VW.seq (VW.condF (by simp [Fr.only]) (VW.exit ?_))
    simp only [then_normal, then_ret, then_exit, inB_normal, inB_ret, inB_exit, reduceIte, Nat.reduceEqDiff]
    refine VW.seq (VW.reg ?_)
    refine VOps.rd rfl rfl ?_
    refine VOps.nil ⟨rfl, VW.ret ⟨.inl rfl, .bool true, rfl, by rw [hS], hx⟩⟩

theorem lay29 (h : Sl H p 2 (edgeEs l)) (hl : l.length ≤ maxLen) : FnV Try.prog 29 [.sl p l.length c] H fun r H' => r = .bool (!isRowS l) ∧ H' = H := by
  refine FnV.calm rfl ?_
  refine FnV.enterRow ok29 (by show 1 ≤ 6; decide) fun B => ?_
  dsimp only [w29]
  refine VW.seq (VW.reg ?_)
  refine VOps.rd rfl rfl ?_
  refine VOps.nil ⟨rfl, ?_⟩
  refine VW.seq (VW.reg ?_)
  refine VOps.rd rfl rfl ?_
  refine VOps.call rfl rfl rfl ((isRow30 h hl).mono ?_)
  rintro r H2 ⟨rfl, hx⟩
  refine VOps.rd rfl rfl ?_
  refine VOps.rd rfl rfl ?_
  exact VOps.nil ⟨rfl, VW.ret ⟨.inl rfl, _, rfl, rfl, hx⟩⟩
end

section
variable {H : Hp} {p : Option PA} {c : Nat} {f : FuncId} {caps : List VV} {pr : Nat → Bool}
/-- the index of the first one, or -1 -/
def firstAt (pr : Nat → Bool) : Nat → Nat → Int
  | 0, _ => -1
  | n + 1, k => if pr k then k else firstAt pr n (k + 1)
theorem firstAt_no {pr : Nat → Bool} {n k : Nat} (h : pr k = false) : firstAt pr (n + 1) k = firstAt pr n (k + 1) := by
  show (if pr k = true then (k : Int) else firstAt pr n (k + 1)) = _
  rw [if_neg (by simp [h])]
theorem firstAt_nonneg {pr : Nat → Bool} : ∀ n k, (0 ≤ firstAt pr n k) = (∃ j, k ≤ j ∧ j < k + n ∧ pr j = true)
  | 0, k => by simp only [firstAt, eq_iff_iff]; exact ⟨fun h => by omega, fun ⟨j, h1, h2, _⟩ => by omega⟩
  | n + 1, k => by
    unfold firstAt
    by_cases h : pr k = true
    · rw [if_pos h]; simp only [eq_iff_iff]; exact ⟨fun _ => ⟨k, Nat.le_refl _, by omega, h⟩, fun _ => by omega⟩
    · rw [if_neg h, firstAt_nonneg n (k + 1), eq_iff_iff]
      constructor
      · rintro ⟨j, h1, h2, h3⟩; exact ⟨j, by omega, by omega, h3⟩
      · rintro ⟨j, h1, h2, h3⟩
        by_cases e : j = k
        · subst e; exact absurd h3 h
        · exact ⟨j, by omega, by omega, h3⟩

theorem find45 {vs : List VV} (h : Sl H p 1 (vs.map fun v => [v])) (hl : vs.length ≤ maxLen) (hf : ∀ k v, vs[k]? = some v → FnV Try.prog f ([v] ++ caps) H fun r H' => r = .bool (pr k) ∧ H' = H) :
    FnV Try.prog 45 [.sl p vs.length c, .fn f caps] H fun r H' => r = .int .i64 (firstAt pr vs.length 0) ∧ H' = H := by
  refine FnV.enterRow ok45 (by show 2 ≤ 19; decide) fun B => ?_
  dsimp only [w45]
  have hmx : maxLen = 9223372036854775807 := rfl
  refine VW.seq (VW.reg ?_)
  refine VOps.rd rfl rfl ?_
  refine VOps.nil ⟨rfl, ?_⟩
  refine VW.seq (VW.seq (VW.reg ?_))
  refine VOps.rd rfl rfl ?_
  refine VOps.rd rfl rfl ?_
  refine VOps.rd rfl rfl ?_
  refine VOps.nil ⟨rfl, ?_⟩
  show VW _ _ _ _ [(0, .sl p vs.length c), (1, .fn f caps), (7, .int .i64 vs.length), (8, .int .i64 0)] _ _
  refine VW.block ?_
  refine VW.loop (fun k F' H' => ∃ i : Int, 0 ≤ i ∧ i ≤ vs.length ∧ k = vs.length - i.toNat ∧ F' = [(0, .sl p vs.length c), (1, .fn f caps), (7, .int .i64 vs.length), (8, .int .i64 i)] ∧ H' = H ∧ firstAt pr vs.length 0 = firstAt pr (vs.length - i.toNat) i.toNat) vs.length
    ⟨0, by omega, by omega, rfl, rfl, rfl, rfl⟩ ?_
  rintro k F' H' ⟨i, i0, il, rfl, rfl, rfl, hS⟩
  by_cases hil : i < vs.length
  · have hk : i.toNat < vs.length := by omega
    obtain ⟨q, rfl, hq1⟩ := h.ixp (k := i.toNat) (by simpa using hk)
    have hq2 := h.ld0 (k := i.toNat) (e := [vs[i.toNat]]) (by simp [hk])
    simp only [List.getElem?_cons_zero] at hq2
    have hcall := hf i.toNat vs[i.toNat] (List.getElem?_eq_getElem hk)
    generalize vs[i.toNat] = v at *
    rw [show vs.length - i.toNat = (vs.length - (i + 1).toNat) + 1 by omega] at hS
    have hv := wrap_id (x := i + 1) (by omega) (by omega)
    refine VW.seq (VW.reg ?_)
    repeat first
      | (apply VOps.rd; (focus (first | exact rfl | (simp [Fr.only, argsF, *]; done))); (focus (exact rfl)))
      | (apply VOps.sk; (focus (simp [Fr.only, argsF, *]; done)))
      | (apply VOps.rd; (focus (first | exact rfl | (simp [Fr.only, argsF, *]; done))); (focus (simp [Fr.only, argsF, *]; first | done | exact rfl)))
    refine VOps.nil ⟨rfl, ?_⟩
    refine VW.seq (VW.condT (by simp [Fr.only, *]) (VW.skip ?_))
    refine VW.seq (VW.block (VW.seq (VW.reg ?_)))
    refine VOps.rd rfl rfl ?_
    refine VOps.rd rfl rfl ?_
    refine VOps.nil ⟨rfl, ?_⟩
    refine VW.seq (VW.reg ?_)
    refine VOps.rd rfl rfl ?_
    refine VOps.rd rfl rfl ?_
    refine VOps.rd rfl rfl ?_
    refine VOps.rd (v := .ptr (some (elp (some q) i.toNat))) rfl (by simp [Fr.only, *]) ?_
    refine VOps.rd (v := v) rfl (by simp [*]) ?_
    refine VOps.call rfl rfl rfl (hcall.mono ?_)
    rintro r H2 ⟨rfl, rfl⟩
    refine VOps.nil ⟨rfl, ?_⟩
    refine VW.cond rfl (fun a => ?_) (fun a => ?_)
    · have a : pr i.toNat = true := by simpa using a
      refine VW.seq (VW.reg ?_)
      refine VOps.rd rfl rfl ?_
      refine VOps.rd rfl rfl ?_
      refine VOps.nil ⟨rfl, VW.ret ⟨.inl rfl, .int .i64 i, rfl, ?_, rfl⟩⟩
      rw [hS]; unfold firstAt; rw [if_pos a, show ((i.toNat : Nat) : Int) = i by omega]
    · have a : pr i.toNat = false := by simpa using a
      refine VW.skip ?_
      refine VW.reg ?_
      refine VOps.rd rfl rfl ?_
      refine VOps.rd rfl rfl ?_
      refine VOps.nil ⟨rfl, vs.length - (i + 1).toNat, by omega, i + 1, by omega, by omega, rfl, by simp [Fr.only, hv], rfl, ?_⟩
      rw [hS, firstAt_no a, show i.toNat + 1 = (i + 1).toNat by omega]
  · have : i = vs.length := by omega
    subst this
    rw [show vs.length - ((vs.length : Int)).toNat = 0 by omega] at hS
    refine VW.seq (VW.reg ?_)
    repeat first
      | (apply VOps.rd; (focus (first | exact rfl | (simp [Fr.only, argsF, *]; done))); (focus (exact rfl)))
      | (apply VOps.sk; (focus (simp [Fr.only, argsF, *]; done)))
      | (apply VOps.rd; (focus (first | exact rfl | (simp [Fr.only, argsF, *]; done))); (focus (simp [Fr.only, argsF, *]; first | done | exact rfl)))
    refine VOps.nil ⟨rfl, ?_⟩
    refine VW.seq (VW.condF (by simp [Fr.only]) (VW.exit ?_))
    simp only [then_normal, then_ret, then_exit, inB_normal, inB_ret, inB_exit, reduceIte, Nat.reduceEqDiff]
    refine VW.seq (VW.reg ?_)
    refine VOps.rd rfl rfl ?_
    refine VOps.nil ⟨rfl, VW.ret ⟨.inl rfl, .int .i64 (-1), rfl, by rw [hS]; rfl, rfl⟩⟩

theorem has28 {vs : List VV} (h : Sl H p 1 (vs.map fun v => [v])) (hl : vs.length ≤ maxLen) (hf : ∀ k v, vs[k]? = some v → FnV Try.prog f ([v] ++ caps) H fun r H' => r = .bool (pr k) ∧ H' = H) {b : Bool} (hb : b = true ↔ ∃ k, k < vs.length ∧ pr k = true) :
    FnV Try.prog 28 [.sl p vs.length c, .fn f caps] H fun r H' => r = .bool b ∧ H' = H := by
  refine FnV.enterRow ok28 (by show 2 ≤ 9; decide) fun B => ?_
  dsimp only [w28]
  refine VW.seq (VW.reg ?_)
  refine VOps.rd rfl rfl ?_
  refine VOps.nil ⟨rfl, ?_⟩
  refine VW.seq (VW.reg ?_)
  refine VOps.rd rfl rfl ?_
  refine VOps.rd rfl rfl ?_
  refine VOps.call rfl rfl rfl ((find45 h hl hf).mono ?_)
  rintro r H2 ⟨rfl, rfl⟩
  refine VOps.rd rfl rfl ?_
  refine VOps.rd rfl rfl ?_
  refine VOps.nil ⟨rfl, VW.ret ⟨.inl rfl, _, rfl, ?_, rfl⟩⟩
  have := firstAt_nonneg (pr := pr) vs.length 0
  congr 1
  rw [Bool.eq_iff_iff, hb, decide_eq_true_iff, ge_iff_le, this]
  simp

theorem find60 {l : Edges} (h : Sl H p 2 (edgeEs l)) (hl : l.length ≤ maxLen) (hf : ∀ k, k < l.length → FnV Try.prog f ([.agg [.int .i64 (l.getD k (0, 0)).1, .int .i64 (l.getD k (0, 0)).2]] ++ caps) H fun r H' => r = .bool (pr k) ∧ H' = H) :
    FnV Try.prog 60 [.sl p l.length c, .fn f caps] H fun r H' => r = .int .i64 (firstAt pr l.length 0) ∧ H' = H := by
  refine FnV.enterRow ok60 (by show 2 ≤ 19; decide) fun B => ?_
  dsimp only [w60]
  have hmx : maxLen = 9223372036854775807 := rfl
  refine VW.seq (VW.reg ?_)
  refine VOps.rd rfl rfl ?_
  refine VOps.nil ⟨rfl, ?_⟩
  refine VW.seq (VW.seq (VW.reg ?_))
  refine VOps.rd rfl rfl ?_
  refine VOps.rd rfl rfl ?_
  refine VOps.rd rfl rfl ?_
  refine VOps.nil ⟨rfl, ?_⟩
  show VW _ _ _ _ [(0, .sl p l.length c), (1, .fn f caps), (7, .int .i64 l.length), (8, .int .i64 0)] _ _
  refine VW.block ?_
  refine VW.loop (fun k F' H' => ∃ i : Int, 0 ≤ i ∧ i ≤ l.length ∧ k = l.length - i.toNat ∧ F' = [(0, .sl p l.length c), (1, .fn f caps), (7, .int .i64 l.length), (8, .int .i64 i)] ∧ H' = H ∧ firstAt pr l.length 0 = firstAt pr (l.length - i.toNat) i.toNat) l.length
    ⟨0, by omega, by omega, rfl, rfl, rfl, rfl⟩ ?_
  rintro k F' H' ⟨i, i0, il, rfl, rfl, rfl, hS⟩
  by_cases hil : i < l.length
  · have hk : i.toNat < l.length := by omega
    obtain ⟨q, rfl, hq1, hq2, hq3, hq4⟩ := sl_edge h (k := i.toNat) (by omega)
    have hcall := hf i.toNat hk
    generalize (l.getD i.toNat (0, 0)).1 = sy at *
    generalize (l.getD i.toNat (0, 0)).2 = to at *
    rw [show l.length - i.toNat = (l.length - (i + 1).toNat) + 1 by omega] at hS
    have hv := wrap_id (x := i + 1) (by omega) (by omega)
    refine VW.seq (VW.reg ?_)
    repeat first
      | (apply VOps.rd; (focus (first | exact rfl | (simp [Fr.only, argsF, *]; done))); (focus (exact rfl)))
      | (apply VOps.sk; (focus (simp [Fr.only, argsF, *]; done)))
      | (apply VOps.rd; (focus (first | exact rfl | (simp [Fr.only, argsF, *]; done))); (focus (simp [Fr.only, argsF, *]; first | done | exact rfl)))
    refine VOps.nil ⟨rfl, ?_⟩
    refine VW.seq (VW.condT (by simp [Fr.only, *]) (VW.skip ?_))
    refine VW.seq (VW.block (VW.seq (VW.reg ?_)))
    refine VOps.rd rfl rfl ?_
    refine VOps.rd rfl rfl ?_
    refine VOps.nil ⟨rfl, ?_⟩
    refine VW.seq (VW.reg ?_)
    refine VOps.rd rfl rfl ?_
    refine VOps.rd rfl rfl ?_
    refine VOps.rd rfl rfl ?_
    refine VOps.rd (v := .ptr (some (elp (some q) i.toNat))) rfl (by simp [Fr.only, *]) ?_
    refine VOps.rd (v := .agg [.int .i64 sy, .int .i64 to]) rfl (by simp [*]) ?_
    refine VOps.call rfl rfl rfl (hcall.mono ?_)
    rintro r H2 ⟨rfl, rfl⟩
    refine VOps.nil ⟨rfl, ?_⟩
    refine VW.cond rfl (fun a => ?_) (fun a => ?_)
    · have a : pr i.toNat = true := by simpa using a
      refine VW.seq (VW.reg ?_)
      refine VOps.rd rfl rfl ?_
      refine VOps.rd rfl rfl ?_
      refine VOps.nil ⟨rfl, VW.ret ⟨.inl rfl, .int .i64 i, rfl, ?_, rfl⟩⟩
      rw [hS]; unfold firstAt; rw [if_pos a, show ((i.toNat : Nat) : Int) = i by omega]
    · have a : pr i.toNat = false := by simpa using a
      refine VW.skip ?_
      refine VW.reg ?_
      refine VOps.rd rfl rfl ?_
      refine VOps.rd rfl rfl ?_
      refine VOps.nil ⟨rfl, l.length - (i + 1).toNat, by omega, i + 1, by omega, by omega, rfl, by simp [Fr.only, hv], rfl, ?_⟩
      rw [hS, firstAt_no a, show i.toNat + 1 = (i + 1).toNat by omega]
  · have : i = l.length := by omega
    subst this
    rw [show l.length - ((l.length : Int)).toNat = 0 by omega] at hS
    refine VW.seq (VW.reg ?_)
    repeat first
      | (apply VOps.rd; (focus (first | exact rfl | (simp [Fr.only, argsF, *]; done))); (focus (exact rfl)))
      | (apply VOps.sk; (focus (simp [Fr.only, argsF, *]; done)))
      | (apply VOps.rd; (focus (first | exact rfl | (simp [Fr.only, argsF, *]; done))); (focus (simp [Fr.only, argsF, *]; first | done | exact rfl)))
    refine VOps.nil ⟨rfl, ?_⟩
    refine VW.seq (VW.condF (by simp [Fr.only]) (VW.exit ?_))
    simp only [then_normal, then_ret, then_exit, inB_normal, inB_ret, inB_exit, reduceIte, Nat.reduceEqDiff]
    refine VW.seq (VW.reg ?_)
    refine VOps.rd rfl rfl ?_
    refine VOps.nil ⟨rfl, VW.ret ⟨.inl rfl, .int .i64 (-1), rfl, by rw [hS]; rfl, rfl⟩⟩

theorem has55 {l : Edges} (h : Sl H p 2 (edgeEs l)) (hl : l.length ≤ maxLen) (hf : ∀ k, k < l.length → FnV Try.prog f ([.agg [.int .i64 (l.getD k (0, 0)).1, .int .i64 (l.getD k (0, 0)).2]] ++ caps) H fun r H' => r = .bool (pr k) ∧ H' = H) {b : Bool} (hb : b = true ↔ ∃ k, k < l.length ∧ pr k = true) :
    FnV Try.prog 55 [.sl p l.length c, .fn f caps] H fun r H' => r = .bool b ∧ H' = H := by
  refine FnV.enterRow ok55 (by show 2 ≤ 9; decide) fun B => ?_
  dsimp only [w55]
  refine VW.seq (VW.reg ?_)
  refine VOps.rd rfl rfl ?_
  refine VOps.nil ⟨rfl, ?_⟩
  refine VW.seq (VW.reg ?_)
  refine VOps.rd rfl rfl ?_
  refine VOps.rd rfl rfl ?_
  refine VOps.call rfl rfl rfl ((find60 h hl hf).mono ?_)
  rintro r H2 ⟨rfl, rfl⟩
  refine VOps.rd rfl rfl ?_
  refine VOps.rd rfl rfl ?_
  refine VOps.nil ⟨rfl, VW.ret ⟨.inl rfl, _, rfl, ?_, rfl⟩⟩
  have := firstAt_nonneg (pr := pr) l.length 0
  congr 1
  rw [Bool.eq_iff_iff, hb, decide_eq_true_iff, ge_iff_le, this]
  simp
end
end Go.Proofs.Ytlclbfkdaemilaa
