/- Two lists of ints that are the same; the law's own rows (lent, and whether they stay). -/
import Derived.Test.YtlclbfkdaemilaaLyH
namespace Go.Proofs.Ytlclbfkdaemilaa
set_option linter.unusedSimpArgs false
set_option linter.unusedVariables false
open Go Go.Vm Go.Proofs So
set_option maxRecDepth 100000
set_option maxHeartbeats 2000000

section
variable {H : Hp} {p p' : Option PA} {c c' : Nat} {l : List Int}
theorem ints36 (h : Sl H p 1 (intEs l)) (h' : Sl H p' 1 (intEs l)) (hl : l.length ≤ maxLen) : FnV Try.prog 36 [.sl p l.length c, .sl p' l.length c'] H fun r H' => r = .bool true ∧ H' = H := by
  refine FnV.enterRow ok36 (by show 2 ≤ 26; decide) fun B => ?_
  dsimp only [w36]
  have hmx : maxLen = 9223372036854775807 := rfl
  refine VW.seq (VW.reg ?_)
  refine VOps.rd rfl rfl ?_
  refine VOps.nil ⟨rfl, ?_⟩
  refine VW.seq (VW.seq (VW.reg ?_))
  refine VOps.rd rfl rfl ?_
  refine VOps.rd rfl rfl ?_
  refine VOps.rd rfl rfl ?_
  refine VOps.rd rfl rfl ?_
  refine VOps.rd (v := .bool false) rfl (by simp) ?_
  refine VOps.nil ⟨rfl, VW.condF rfl (VW.skip ?_)⟩
  refine VW.seq (VW.seq (VW.reg ?_))
  refine VOps.rd rfl rfl ?_
  refine VOps.nil ⟨rfl, ?_⟩
  show VW _ _ _ _ [(0, .sl p l.length c), (1, .sl p' l.length c'), (5, .int .i64 0)] _ _
  refine VW.block ?_
  refine VW.loop (fun k F' H' => ∃ i : Int, 0 ≤ i ∧ i ≤ l.length ∧ k = l.length - i.toNat ∧ F' = [(0, .sl p l.length c), (1, .sl p' l.length c'), (5, .int .i64 i)] ∧ H' = H) l.length
    ⟨0, by omega, by omega, rfl, rfl, rfl⟩ ?_
  rintro k F' H' ⟨i, i0, il, rfl, rfl, rfl⟩
  by_cases hil : i < l.length
  · have hv := wrap_id (x := i + 1) (by omega) (by omega)
    obtain ⟨q, rfl, e1, e2⟩ := sl_int h (k := i.toNat) (by omega)
    obtain ⟨q', rfl, e3, e4⟩ := sl_int h' (k := i.toNat) (by omega)
    generalize l.getD i.toNat 0 = x at *
    refine VW.seq (VW.seq (VW.reg ?_))
    refine VOps.rd rfl rfl ?_
    refine VOps.rd rfl rfl ?_
    refine VOps.rd rfl rfl ?_
    refine VOps.rd rfl rfl ?_
    refine VOps.nil ⟨rfl, VW.condT (by simp [Fr.only, hil]) (VW.skip ?_)⟩
    refine VW.seq (VW.block (VW.seq ?_))
    refine VW.mono (Q := fun e F2 Hx => e = .normal ∧ Cov [(0, .sl (some q) l.length c), (1, .sl (some q') l.length c'), (5, .int .i64 i), (25, .bool false)] F2 ∧ Hx = H') ?_ ?_
    · refine VW.dreg [H'] mixed rfl ?_
      repeat first
        | (apply VX.rd1; (focus (first | exact rfl | (simp [Fr.only, argsF, *]; done))); (focus (exact rfl)))
        | (apply VX.sk1; (focus (simp [Fr.only, argsF, *]; done)))
        | (apply VX.rd1; (focus (first | exact rfl | (simp [Fr.only, argsF, *]; done))); (focus (simp [Fr.only, argsF, *]; first | done | exact rfl)))
      exact VX.nil ⟨rfl, by simp [Cov, Fr.only], rfl⟩
    rintro e F2 Hx ⟨rfl, hcov, rfl⟩
    refine VW.condF (hcov.get _ _ rfl) (VW.skip ?_)
    refine VW.sub hcov (VW.reg ?_)
    refine VOps.rd rfl rfl ?_
    refine VOps.rd rfl rfl ?_
    refine VOps.rd rfl rfl ?_
    exact VOps.nil ⟨rfl, l.length - (i + 1).toNat, by omega, i + 1, by omega, by omega, rfl, by simp [Fr.only, hv], rfl⟩
  · have : i = l.length := by omega
    subst this
    refine VW.seq (VW.seq (VW.reg ?_))
    refine VOps.rd rfl rfl ?_
    refine VOps.rd rfl rfl ?_
    refine VOps.rd rfl rfl ?_
    refine VOps.rd rfl rfl ?_
    refine VOps.nil ⟨rfl, VW.condF (by simp [Fr.only]) (VW.exit ?_)⟩
    simp only [then_normal, then_ret, then_exit, inB_normal, inB_ret, inB_exit, reduceIte, Nat.reduceEqDiff]
    refine VW.seq (VW.reg ?_)
    refine VOps.rd rfl rfl ?_
    exact VOps.nil ⟨rfl, VW.ret ⟨.inl rfl, _, rfl, rfl, rfl⟩⟩

theorem same12 {p1 p2 p3 q1 q2 q3 : Option PA} {c1 c2 c3 d1 d2 d3 : Nat} {a b e : List Int} (h1 : Sl H p1 1 (intEs a)) (h2 : Sl H p2 1 (intEs b)) (h3 : Sl H p3 1 (intEs e)) (k1 : Sl H q1 1 (intEs a)) (k2 : Sl H q2 1 (intEs b)) (k3 : Sl H q3 1 (intEs e))
    (ha : a.length ≤ maxLen) (hb : b.length ≤ maxLen) (he : e.length ≤ maxLen) :
    FnV Try.prog 12 [.agg [.sl p1 a.length c1, .sl p2 b.length c2, .sl p3 e.length c3], .agg [.sl q1 a.length d1, .sl q2 b.length d2, .sl q3 e.length d3]] H fun r H' => r = .bool true ∧ H' = H := by
  refine FnV.calm rfl ?_
  refine FnV.enterRow ok12 (by show 2 ≤ 24; decide) fun B => ?_
  dsimp only [w12]
  refine VW.seq (VW.reg ?_)
  refine VOps.ef (v := .ptr (some ⟨H.length, 0, 0⟩)) (H' := H ++ [.row 26 .own [[.sl p1 a.length c1, .sl p2 b.length c2, .sl p3 e.length c3]]]) rfl (by simp [argsF, VV.cell]) ?_
  refine VOps.ef (v := .ptr (some ⟨H.length + 1, 0, 0⟩)) (H' := (H ++ [.row 26 .own [[.sl p1 a.length c1, .sl p2 b.length c2, .sl p3 e.length c3]]]) ++ [.row 26 .own [[.sl q1 a.length d1, .sl q2 b.length d2, .sl q3 e.length d3]]]) rfl (by simp [argsF, VV.cell]) ?_
  refine VOps.rd rfl rfl ?_
  refine VOps.nil ⟨rfl, ?_⟩
  have b1 : ((H ++ [.row 26 .own [[.sl p1 a.length c1, .sl p2 b.length c2, .sl p3 e.length c3]]]) ++ [Blk.row 26 .own [[.sl q1 a.length d1, .sl q2 b.length d2, .sl q3 e.length d3]]])[H.length]? = some (.row 26 .own [[.sl p1 a.length c1, .sl p2 b.length c2, .sl p3 e.length c3]]) := by simp
  have b2 : ((H ++ [.row 26 .own [[.sl p1 a.length c1, .sl p2 b.length c2, .sl p3 e.length c3]]]) ++ [Blk.row 26 .own [[.sl q1 a.length d1, .sl q2 b.length d2, .sl q3 e.length d3]]])[H.length + 1]? = some (.row 26 .own [[.sl q1 a.length d1, .sl q2 b.length d2, .sl q3 e.length d3]]) := by simp
  have hx : Ext H ((H ++ [.row 26 .own [[.sl p1 a.length c1, .sl p2 b.length c2, .sl p3 e.length c3]]]) ++ [Blk.row 26 .own [[.sl q1 a.length d1, .sl q2 b.length d2, .sl q3 e.length d3]]]) := (Ext.app _ _).push _
  show VW _ _ _ _ [(2, .ptr (some ⟨H.length, 0, 0⟩)), (3, .ptr (some ⟨H.length + 1, 0, 0⟩))] ((H ++ [.row 26 .own [[.sl p1 a.length c1, .sl p2 b.length c2, .sl p3 e.length c3]]]) ++ [.row 26 .own [[.sl q1 a.length d1, .sl q2 b.length d2, .sl q3 e.length d3]]]) _
  generalize (H ++ [.row 26 .own [[.sl p1 a.length c1, .sl p2 b.length c2, .sl p3 e.length c3]]]) ++ [Blk.row 26 .own [[.sl q1 a.length d1, .sl q2 b.length d2, .sl q3 e.length d3]]] = H1 at *
  have x0 := ld_own b1 0
  have x1 := ld_own b1 1
  have x2 := ld_own b1 2
  have y0 := ld_own b2 0
  have y1 := ld_own b2 1
  have y2 := ld_own b2 2
  simp only [List.getElem?_cons_succ, List.getElem?_cons_zero] at x0 x1 x2 y0 y1 y2
  have z1 := ints36 (c := c1) (c' := d1) (hx.sl h1) (hx.sl k1) ha
  have z2 := ints36 (c := c2) (c' := d2) (hx.sl h2) (hx.sl k2) hb
  have z3 := ints36 (c := c3) (c' := d3) (hx.sl h3) (hx.sl k3) he
  refine VW.seq (VW.reg ?_)
  repeat first
    | (apply VOps.rd; (focus (first | exact rfl | (simp [Fr.only, argsF, *]; done))); (focus (exact rfl)))
    | (apply VOps.sk; (focus (simp [Fr.only, argsF, *]; done)))
    | (apply VOps.rd; (focus (first | exact rfl | (simp [Fr.only, argsF, *]; done))); (focus (simp [Fr.only, argsF, *]; first | done | exact rfl)))
  refine VOps.call rfl rfl rfl (z1.mono ?_)
  rintro r H2 ⟨rfl, rfl⟩
  clear z1
  repeat first
    | (apply VOps.rd; (focus (first | exact rfl | (simp [Fr.only, argsF, *]; done))); (focus (exact rfl)))
    | (apply VOps.sk; (focus (simp [Fr.only, argsF, *]; done)))
    | (apply VOps.rd; (focus (first | exact rfl | (simp [Fr.only, argsF, *]; done))); (focus (simp [Fr.only, argsF, *]; first | done | exact rfl)))
  refine VOps.call (by simp) rfl rfl (z2.mono ?_)
  rintro r H2 ⟨rfl, rfl⟩
  clear z2
  repeat first
    | (apply VOps.rd; (focus (first | exact rfl | (simp [Fr.only, argsF, *]; done))); (focus (exact rfl)))
    | (apply VOps.sk; (focus (simp [Fr.only, argsF, *]; done)))
    | (apply VOps.rd; (focus (first | exact rfl | (simp [Fr.only, argsF, *]; done))); (focus (simp [Fr.only, argsF, *]; first | done | exact rfl)))
  refine VOps.call (by simp) rfl rfl (z3.mono ?_)
  rintro r H2 ⟨rfl, rfl⟩
  clear z3
  refine VOps.rd (v := .bool true) rfl (by simp) ?_
  refine VOps.rd rfl rfl ?_
  exact VOps.nil ⟨rfl, VW.ret ⟨.inl rfl, _, rfl, rfl, hx⟩⟩
end

/-- the elements of a list in rows -/
theorem sl_src {H : Hp} {p : Option PA} {z c : Nat} {es : List (List VV)} (h : Sl H p z es) : srcEls H z (.sl p es.length c) = some es := by
  rcases h with rfl | ⟨b, i, md, t, rows, rfl, h2, h3, h4⟩
  · cases p <;> simp [srcEls]
  · by_cases hes : es = []
    · subst hes; simp [srcEls]
    · have hpos : 0 < es.length := List.length_pos_iff.2 hes
      have hle : i + es.length ≤ rows.length := by
        have := h4 (es.length - 1) _ (List.getElem?_eq_getElem (by omega))
        have := (List.getElem?_eq_some_iff.1 this).1
        omega
      cases rows with
      | nil => exact absurd hle (by simp only [List.length_nil]; omega)
      | cons e rows =>
        have he := h3 e (List.mem_cons_self ..)
        simp only [srcEls, h2]
        rw [if_neg (by omega), if_pos (by refine ⟨by simp, he, ?_⟩; simpa using hle)]
        congr 1
        apply List.ext_getElem?
        intro k
        by_cases hk : k < es.length
        · rw [List.getElem?_take_of_lt hk, List.getElem?_drop, h4 k _ (List.getElem?_eq_getElem hk), List.getElem?_eq_getElem hk]
        · rw [List.getElem?_eq_none (by simp; omega), List.getElem?_eq_none (by omega)]

abbrev mark : List VV := [.int .i64 (-5), .int .i64 (-5)]
/-- a row in a block of its own, with a mark behind it -/
def LentV (H : Hp) (vs : List VV) (rows : List Edges) (n : Nat) : Prop := vs.length = n ∧ ∀ k, k < n → ∃ i, vs[k]? = some (.sl (some ⟨i, 0, 0⟩) (rows.getD k []).length ((rows.getD k []).length + 1)) ∧ H[i]? = some (.row 42 .loose (edgeEs (rows.getD k []) ++ [mark]))
theorem LentV.rowV {H : Hp} {vs : List VV} {rows : List Edges} (h : LentV H vs rows rows.length) (hl : ∀ k, k < rows.length → (rows.getD k []).length ≤ maxLen) : RowV H vs rows := by
  refine ⟨h.1, fun k hk => ?_⟩
  obtain ⟨i, h1, h2⟩ := h.2 k hk
  refine ⟨_, _, h1, .inr ⟨i, 0, .loose, 42, _, rfl, h2, fun e he => ?_, fun j e he => ?_⟩, hl k hk⟩
  · rcases List.mem_append.1 he with he | he
    · obtain ⟨n, _, rfl⟩ := List.mem_map.1 he; rfl
    · rw [List.mem_singleton.1 he]; rfl
  · rw [Nat.zero_add, List.getElem?_append_left (List.getElem?_eq_some_iff.1 he).1]; exact he
theorem LentV.ext {A B : Hp} {vs : List VV} {rows : List Edges} {n : Nat} (h : LentV A vs rows n) (hx : Ext A B) : LentV B vs rows n :=
  ⟨h.1, fun k hk => let ⟨i, h1, h2⟩ := h.2 k hk; ⟨i, h1, hx.get h2⟩⟩

/-- a row is copied, and the mark laid behind it -/
theorem lent_row {H : Hp} {p : Option PA} {c : Nat} {l : Edges} (h : Sl H p 2 (edgeEs l)) (hl : l.length ≤ 1000000000000) :
    ∃ q2 A2 A4, srcEls (H ++ [.row 42 .own []]) 2 (.sl p l.length c) = some (edgeEs l) ∧
      appV (H ++ [.row 42 .own []]) 42 2 16 (some ⟨H.length, 0, 0⟩) 0 0 (edgeEs l) = some (.sl (some q2) l.length l.length, A2) ∧
      srcEls (A2 ++ [.row 42 .own [mark]]) 2 (.sl (some ⟨A2.length, 0, 0⟩) 1 1) = some [mark] ∧
      appV (A2 ++ [.row 42 .own [mark]]) 42 2 16 (some q2) l.length l.length [mark] = some (.sl (some ⟨A2.length + 1, 0, 0⟩) (l.length + 1) (l.length + 1), A4) ∧
      A4[A2.length + 1]? = some (.row 42 .loose (edgeEs l ++ [mark])) ∧ Ext H A4 := by
  have hsrc := sl_src (c := c) (h.mono [.row 42 .own []])
  rw [edgeEs_len] at hsrc
  by_cases he : l = []
  · subst he
    refine ⟨⟨H.length, 0, 0⟩, H ++ [.row 42 .own []], (H ++ [.row 42 .own []]) ++ [.row 42 .own [mark]] ++ [.row 42 .loose [mark]], hsrc, by simp [appV, edgeEs], by simp [srcEls], ?_, ?_, ?_⟩
    · have hb : (H ++ [Blk.row 42 .own []] ++ [.row 42 .own [mark]])[H.length]? = some (.row 42 .own []) := by simp
      simp [appV, srcEls]
    · rw [List.getElem?_append_right (by simp)]; simp [edgeEs]
    · exact ((Ext.app _ _).push _).push _
  · have hpos : 0 < l.length := List.length_pos_iff.2 he
    obtain ⟨x, l', rfl⟩ : ∃ x l', l = x :: l' := by cases l with | nil => exact absurd rfl he | cons x l' => exact ⟨x, l', rfl⟩
    have hb1 : (H ++ [Blk.row 42 .own []])[H.length]? = some (.row 42 .own []) := by simp
    have a1 : appV (H ++ [.row 42 .own []]) 42 2 16 (some ⟨H.length, 0, 0⟩) 0 0 (edgeEs (x :: l')) = some (.sl (some ⟨H.length + 1, 0, 0⟩) (x :: l').length (x :: l').length, (H ++ [.row 42 .own []]) ++ [.row 42 .loose (edgeEs (x :: l'))]) := by
      unfold appV
      simp only [Nat.zero_add, edgeEs_len]
      rw [if_neg (by omega), if_pos (by omega)]
      simp only [hb1, srcEls]
      simp
    have hb2 : ((H ++ [Blk.row 42 .own []]) ++ [Blk.row 42 .loose (edgeEs (x :: l'))] ++ [.row 42 .own [mark]])[H.length + 1]? = some (.row 42 .loose (edgeEs (x :: l'))) := by simp
    have hs2 : srcEls ((H ++ [Blk.row 42 .own []]) ++ [Blk.row 42 .loose (edgeEs (x :: l'))] ++ [.row 42 .own [mark]]) 2 (.sl (some ⟨H.length + 1, 0, 0⟩) (x :: l').length (x :: l').length) = some (edgeEs (x :: l')) := by
      have := sl_src (H := (H ++ [Blk.row 42 .own []]) ++ [Blk.row 42 .loose (edgeEs (x :: l'))] ++ [.row 42 .own [mark]]) (p := some ⟨H.length + 1, 0, 0⟩) (z := 2) (c := (x :: l').length) (es := edgeEs (x :: l')) (.inr ⟨_, 0, _, _, _, rfl, hb2, fun e he => by obtain ⟨n, _, rfl⟩ := List.mem_map.1 he; rfl, fun k e hk => by rw [Nat.zero_add]; exact hk⟩)
      rwa [edgeEs_len] at this
    refine ⟨⟨H.length + 1, 0, 0⟩, (H ++ [Blk.row 42 .own []]) ++ [Blk.row 42 .loose (edgeEs (x :: l'))], (((H ++ [Blk.row 42 .own []]) ++ [Blk.row 42 .loose (edgeEs (x :: l'))] ++ [Blk.row 42 .own [mark]]).set (H.length + 1) Blk.dead) ++ [Blk.row 42 .loose (edgeEs (x :: l') ++ [mark])], hsrc, a1, by simp [srcEls], ?_, ?_, ?_⟩
    · unfold appV
      simp only [List.length_singleton]
      rw [if_neg (by omega), if_pos (by omega)]
      simp only [hb2, hs2]
      rw [if_pos trivial, if_pos ⟨trivial, trivial, by simp [edgeEs]⟩]
      simp
    · rw [List.getElem?_append_right (by simp)]; simp
    · exact ((((Ext.app _ _).push _).push _).set (by omega) _).push _

section
variable {H : Hp} {p : Option PA} {vs : List VV} {rows : List Edges} {c : Nat}
def GrowV (H : Hp) (i : Option Nat) (vs : List VV) : Prop :=
  match i with
  | none => vs = []
  | some i => H[i]? = some (.row 40 .loose (vs.map fun v => [v])) ∧ vs ≠ []
theorem GrowV.push {i : Option Nat} {x : VV} (h : GrowV H i vs) (hl : vs.length ≤ 1000000000000) :
    srcEls (H ++ [.row 40 .own [[x]]]) 1 (.sl (some ⟨H.length, 0, 0⟩) 1 1) = some [[x]] ∧
    appV (H ++ [.row 40 .own [[x]]]) 40 1 24 (gptr i) vs.length vs.length [[x]] = some (.sl (some ⟨H.length + 1, 0, 0⟩) (vs.length + 1) (vs.length + 1), kill (H ++ [.row 40 .own [[x]]]) i ++ [.row 40 .loose ((vs ++ [x]).map fun v => [v])]) ∧
    GrowV (kill (H ++ [.row 40 .own [[x]]]) i ++ [.row 40 .loose ((vs ++ [x]).map fun v => [v])]) (some (H.length + 1)) (vs ++ [x]) := by
  refine ⟨by simp [srcEls], ?_, ?_⟩
  · cases i with
    | none =>
      have : vs = [] := h
      subst this
      simp [appV, gptr, kill]
    | some i =>
      obtain ⟨hb, hne⟩ := h
      have hb' : (H ++ [Blk.row 40 Mode.own [[x]]])[i]? = some (.row 40 .loose (vs.map fun v => [v])) := get_push hb _
      have hsrc := sl_src (H := H ++ [Blk.row 40 Mode.own [[x]]]) (p := some ⟨i, 0, 0⟩) (z := 1) (c := vs.length) (es := vs.map fun v => [v]) (.inr ⟨_, 0, _, _, _, rfl, hb', fun e he => by obtain ⟨n, _, rfl⟩ := List.mem_map.1 he; rfl, fun k e hk => by rw [Nat.zero_add]; exact hk⟩)
      rw [List.length_map] at hsrc
      have hhd : (vs.map fun v => [v]).head?.map List.length = some 1 := by
        cases vs with
        | nil => exact absurd rfl hne
        | cons a l => rfl
      unfold appV
      simp only [gptr, List.length_singleton]
      rw [if_neg (by omega), if_pos (by omega)]
      simp only [hb', hsrc, hhd, if_true, and_self, kill]
      simp
  · refine ⟨?_, by simp⟩
    rw [List.getElem?_append_right (by rw [kill_len]; simp), kill_len]
    simp

theorem lent9 (h : Sl H p 1 (vs.map fun v => [v])) (hr : RowV H vs rows) (hn : rows.length ≤ 1000000000000) (hl : ∀ k, k < rows.length → (rows.getD k []).length ≤ 1000000000000) :
    FnV Try.prog 9 [.sl p rows.length c] H fun r H' => Ext H H' ∧ ∃ io vs', r = .sl (gptr io) rows.length rows.length ∧ GrowV H' io vs' ∧ LentV H' vs' rows rows.length := by
  refine FnV.enterRow ok9 (by show 1 ≤ 33; decide) fun B => ?_
  dsimp only [w9]
  refine VW.seq (VW.reg ?_)
  refine VOps.rd rfl rfl ?_
  refine VOps.nil ⟨rfl, ?_⟩
  refine VW.seq (VW.reg ?_)
  refine VOps.rd rfl rfl ?_
  refine VOps.nil ⟨rfl, ?_⟩
  refine VW.seq (VW.seq (VW.reg ?_))
  refine VOps.rd rfl rfl ?_
  refine VOps.nil ⟨rfl, ?_⟩
  show VW _ _ _ _ [(0, .sl p rows.length c), (3, .sl none 0 0), (4, .int .i64 0)] _ _
  refine VW.block ?_
  refine VW.loop (fun k F' H' => ∃ (i : Int) (io : Option Nat) (vs' : List VV), 0 ≤ i ∧ i ≤ rows.length ∧ k = rows.length - i.toNat ∧ F' = [(0, .sl p rows.length c), (3, .sl (gptr io) i.toNat i.toNat), (4, .int .i64 i)] ∧ Ext H H' ∧ (∀ k, io = some k → H.length ≤ k) ∧ GrowV H' io vs' ∧ LentV H' vs' rows i.toNat) rows.length
    ⟨0, none, [], by omega, by omega, rfl, rfl, .refl _, fun k hk => (by cases hk), rfl, rfl, fun k hk => (by simp at hk)⟩ ?_
  rintro k F' H1 ⟨i, io, vs', i0, il, rfl, rfl, hx, hio, hg, hlv⟩
  by_cases hil : i < rows.length
  · have hk : i.toNat < rows.length := by omega
    have hv := wrap_id (x := i + 1) (by omega) (by omega)
    obtain ⟨qr, pk, ck, rfl, r1, r2, r3, r4⟩ := row_at h hr hk
    have hlk := hl _ hk
    obtain ⟨q2, A2, A4, s1, s2, s3, s4, s5, s6⟩ := lent_row (c := ck) (hx.sl r3) hlk
    have g1 := ext_ixp (hx.push [.row 42 .own []]) r1
    have g2 := ext_ld (hx.push [.row 42 .own []]) r2
    have g3 := ext_ixp (hx.trans s6) r1
    have g4 := ext_ld (hx.trans s6) r2
    generalize hrow : rows.getD i.toNat [] = l at *
    have hslc : slcV A4 2 (some ⟨A2.length + 1, 0, 0⟩) (l.length + 1) (l.length + 1) 0 l.length (l.length + 1) false = some (.sl (some ⟨A2.length + 1, 0, 0⟩) l.length (l.length + 1)) := by
      have hne : ∃ e es, edgeEs l ++ [mark] = e :: es ∧ e.length = 2 := by
        cases l with
        | nil => exact ⟨mark, [], rfl, rfl⟩
        | cons a l => exact ⟨_, _, rfl, rfl⟩
      obtain ⟨e, es, h1, h2⟩ := hne
      rw [h1] at s5
      unfold slcV
      rw [if_pos (by omega)]
      simp only [s5]
      rw [if_neg (by omega), if_neg (by simp [h2])]
      simp
    have hg4 : GrowV A4 io vs' := by
      cases io with
      | none => exact hg
      | some j => exact ⟨s6.get hg.1, hg.2⟩
    have hl4 := hlv.ext s6
    obtain ⟨t1, t2, t3⟩ := hg4.push (x := .sl (some ⟨A2.length + 1, 0, 0⟩) l.length (l.length + 1)) (by rw [hlv.1]; omega)
    rw [hlv.1] at t2
    refine VW.seq (VW.seq (VW.reg ?_))
    refine VOps.rd rfl rfl ?_
    refine VOps.rd rfl rfl ?_
    refine VOps.rd rfl rfl ?_
    refine VOps.rd rfl rfl ?_
    refine VOps.nil ⟨rfl, VW.condT (by simp [Fr.only, hil]) (VW.skip ?_)⟩
    refine VW.seq (VW.block (VW.seq (VW.reg ?_)))
    refine VOps.ef (v := .sl (some ⟨H1.length, 0, 0⟩) 0 0) (H' := H1 ++ [.row 42 .own []]) rfl rfl ?_
    refine VOps.rd rfl rfl ?_
    refine VOps.rd rfl rfl ?_
    refine VOps.rd (v := .ptr (some (elp (some qr) i.toNat))) rfl (by simp [Fr.only, g1, i0, hil]) ?_
    refine VOps.rd (v := .sl pk l.length ck) rfl (by simp [g2]) ?_
    refine VOps.ef (v := .sl (some q2) l.length l.length) (H' := A2) rfl (by simp [s1, s2]) ?_
    refine VOps.rd rfl rfl ?_
    refine VOps.nil ⟨rfl, ?_⟩
    refine VW.seq (VW.reg ?_)
    refine VOps.rd rfl rfl ?_
    refine VOps.rd (v := .agg mark) rfl rfl ?_
    refine VOps.ef (v := .sl (some ⟨A2.length, 0, 0⟩) 1 1) (H' := A2 ++ [.row 42 .own [mark]]) rfl rfl ?_
    refine VOps.ef (v := .sl (some ⟨A2.length + 1, 0, 0⟩) (l.length + 1) (l.length + 1)) (H' := A4) rfl (by simp [Fr.only, s3, s4]) ?_
    refine VOps.rd rfl rfl ?_
    refine VOps.nil ⟨rfl, ?_⟩
    refine VW.reg ?_
    refine VOps.rd rfl rfl ?_
    refine VOps.rd rfl rfl ?_
    refine VOps.rd rfl rfl ?_
    refine VOps.rd rfl rfl ?_
    refine VOps.rd (v := .ptr (some (elp (some qr) i.toNat))) rfl (by simp [Fr.only, g3, i0, hil]) ?_
    refine VOps.rd (v := .sl pk l.length ck) rfl (by simp [g4]) ?_
    refine VOps.rd rfl rfl ?_
    refine VOps.rd (v := .sl (some ⟨A2.length + 1, 0, 0⟩) l.length (l.length + 1)) rfl (by simp [Fr.only, hslc]) ?_
    refine VOps.ef (v := .sl (some ⟨A4.length, 0, 0⟩) 1 1) (H' := A4 ++ [.row 40 .own [[.sl (some ⟨A2.length + 1, 0, 0⟩) l.length (l.length + 1)]]]) rfl rfl ?_
    refine VOps.ef (v := .sl (some ⟨A4.length + 1, 0, 0⟩) (i.toNat + 1) (i.toNat + 1)) (H' := kill (A4 ++ [Blk.row 40 .own [[VV.sl (some ⟨A2.length + 1, 0, 0⟩) l.length (l.length + 1)]]]) io ++ [Blk.row 40 .loose ((vs' ++ [VV.sl (some ⟨A2.length + 1, 0, 0⟩) l.length (l.length + 1)]).map fun v => [v])]) rfl (by simp [Fr.only, t1, t2]) ?_
    refine VOps.rd rfl rfl ?_
    refine VOps.nil ⟨rfl, ?_⟩
    refine VW.reg ?_
    refine VOps.rd rfl rfl ?_
    refine VOps.rd rfl rfl ?_
    refine VOps.rd rfl rfl ?_
    have hx4 := hx.trans s6
    refine VOps.nil ⟨rfl, rows.length - (i + 1).toNat, by omega, i + 1, some (A4.length + 1), _, by omega, by omega, rfl, ?_, ?_, ?_, t3, ?_⟩
    · rw [show (i + 1).toNat = i.toNat + 1 by omega]
      simp [Fr.only, hv, gptr]
    · refine Ext.push (Ext.kill (hx4.push _) hio) _
    · intro k hk; simp at hk; have := hx4.1; omega
    · have kept : ∀ (j : Nat) (e : List (List VV)), A4[j]? = some (.row 42 .loose e) → (kill (A4 ++ [Blk.row 40 .own [[VV.sl (some ⟨A2.length + 1, 0, 0⟩) l.length (l.length + 1)]]]) io ++ [Blk.row 40 .loose ((vs' ++ [VV.sl (some ⟨A2.length + 1, 0, 0⟩) l.length (l.length + 1)]).map fun v => [v])])[j]? = some (.row 42 .loose e) := by
        intro j e hj
        rw [List.getElem?_append_left (by rw [kill_len]; have := get_lt hj; simp; omega), kill_off]
        · exact get_push hj _
        · intro e2; subst e2
          have := hg4.1; rw [hj] at this; simp at this
      refine ⟨by simp [hlv.1]; omega, fun k hk => ?_⟩
      by_cases e : k = i.toNat
      · subst e
        refine ⟨A2.length + 1, ?_, ?_⟩
        · rw [hrow, List.getElem?_append_right (by rw [hlv.1]; omega), hlv.1]; simp
        · rw [hrow]; exact kept _ _ s5
      · obtain ⟨j, e1, e2⟩ := hl4.2 k (by omega)
        exact ⟨j, by rw [List.getElem?_append_left (by rw [hlv.1]; omega)]; exact e1, kept _ _ e2⟩
  · have : i = rows.length := by omega
    subst this
    refine VW.seq (VW.seq (VW.reg ?_))
    refine VOps.rd rfl rfl ?_
    refine VOps.rd rfl rfl ?_
    refine VOps.rd rfl rfl ?_
    refine VOps.rd rfl rfl ?_
    refine VOps.nil ⟨rfl, VW.condF (by simp [Fr.only]) (VW.exit ?_)⟩
    simp only [then_normal, then_ret, then_exit, inB_normal, inB_ret, inB_exit, reduceIte, Nat.reduceEqDiff]
    refine VW.seq (VW.reg ?_)
    refine VOps.rd rfl rfl ?_
    refine VOps.rd rfl rfl ?_
    rw [show ((rows.length : Int)).toNat = rows.length by omega] at hlv
    refine VOps.nil ⟨rfl, VW.ret ⟨.inl rfl, .sl (gptr io) rows.length rows.length, ?_, hx, io, vs', rfl, hg, hlv⟩⟩
    simp [resV, resL, Fr.only]
end
end Go.Proofs.Ytlclbfkdaemilaa
