/- The run is sound: statements and functions. -/
import Derived.Test.YtbcaceeiehjplacGreatDoorWmV
namespace Go.Wm
set_option linter.unusedVariables false
set_option linter.unusedSimpArgs false

/-! ### several orders held together -/
/-- some blocks are forgotten -/
def Less (H H' : Hp) : Prop := H.length = H'.length ∧ ∀ (i : Nat) b, H[i]? = some b → b = .dead ∨ H'[i]? = some b
theorem HRel.less {P : Program} {σ : Sg} {B : Nat} {H H' : Hp} {w : World} (h : HRel P σ B H' w) (hl : Less H H') : HRel P σ B H w := by
  have row : ∀ {i : Nat} {t md es}, H[i]? = some (Blk.row t md es) → H'[i]? = some (Blk.row t md es) := fun hi => (hl.2 _ _ hi).resolve_left (by simp)
  have obj : ∀ {i : Nat} {o}, H[i]? = some (Blk.obj o) → H'[i]? = some (Blk.obj o) := fun hi => (hl.2 _ _ hi).resolve_left (by simp)
  exact ⟨h.base, fun i I hi => by rw [hl.1]; exact h.dom i I hi, fun i t md es hi => h.rows i t md es (row hi), fun i j ti mi esi tj mj esj Ii Ij hi hm hj => h.inj i j ti mi esi tj mj esj Ii Ij (row hi) hm (row hj),
    fun i o hi => h.objs i o (obj hi), fun i j o o' I J hi hj => h.oinj i j o o' I J (obj hi) (obj hj), h.glob, h.fit⟩
theorem VW.less {P : Program} {B N : Nat} {rn : Bool} {c : VC} {F : Fr} {H H' : Hp} {Q : VQ} (hl : Less H H') (h : VW P B N rn c F H Q) : VW P B N rn c F H' Q :=
  fun ro hro K c' hc σ w a hH hF => h ro hro K c' hc σ w a (hH.less hl) hF
theorem mem_insN {s i : Nat} : ∀ {l : List Nat}, i ∈ insN s l ↔ i = s ∨ i ∈ l
  | [] => by simp [insN]
  | x :: l => by
    have ih := mem_insN (s := s) (i := i) (l := l)
    unfold insN
    cases h1 : Nat.blt s x with
    | true => simp
    | false =>
      cases h2 : Nat.beq s x with
      | true =>
        have : s = x := Nat.eq_of_beq_eq_true h2
        subst this
        simp
      | false =>
        simp only [cond_false, List.mem_cons, ih]
        constructor
        · rintro (h | h | h)
          · exact .inr (.inl h)
          · exact .inl h
          · exact .inr (.inr h)
        · rintro (h | h | h)
          · exact .inr (.inl h)
          · exact .inl h
          · exact .inr (.inr h)
theorem mem_insAll {i : Nat} : ∀ {l : List Nat}, i ∈ insAll l ↔ i ∈ l
  | [] => by show i ∈ ([] : List Nat) ↔ _; simp
  | x :: l => by
    have e : insAll (x :: l) = insN x (insAll l) := rfl
    rw [e, mem_insN, mem_insAll, List.mem_cons]
theorem bit_eq (m x : Nat) : Nat.beq (Nat.land (Nat.shiftRight m x) 1) 1 = m.testBit x := by
  have e1 : Nat.land (Nat.shiftRight m x) 1 = (m >>> x) &&& 1 := rfl
  rw [e1, Nat.and_one_is_mod, Nat.testBit_eq_decide_div_mod_eq, Nat.shiftRight_eq_div_pow]
  by_cases hx : m / 2 ^ x % 2 = 1
  · rw [beq_of hx]; simp [hx]
  · rw [beq_of_ne hx]; simp [hx]
theorem mem_dedN {i : Nat} : ∀ {l : List Nat} {m : Nat}, i ∈ dedN l m ↔ i ∈ l ∧ m.testBit i = false
  | [], m => by show i ∈ ([] : List Nat) ↔ _; simp
  | x :: l, m => by
    have e : dedN (x :: l) m = natK x fun x => Bool.rec (natK (Nat.lor m (Nat.shiftLeft 1 x)) fun m => x :: dedN l m) (dedN l m) (Nat.beq (Nat.land (Nat.shiftRight m x) 1) 1) := rfl
    rw [e, natK_eq, bit_eq, natK_eq]
    cases hx : m.testBit x with
    | true =>
      show i ∈ dedN l m ↔ _
      rw [mem_dedN, List.mem_cons]
      constructor
      · rintro ⟨h1, h2⟩; exact ⟨.inr h1, h2⟩
      · rintro ⟨h1 | h1, h2⟩
        · subst h1; rw [hx] at h2; cases h2
        · exact ⟨h1, h2⟩
    | false =>
      show i ∈ x :: dedN l (Nat.lor m (Nat.shiftLeft 1 x)) ↔ _
      have e2 : Nat.lor m (Nat.shiftLeft 1 x) = m ||| 2 ^ x := by rw [← Nat.one_shiftLeft]; rfl
      rw [e2, List.mem_cons, List.mem_cons, mem_dedN, Nat.testBit_or]
      by_cases hi : x = i
      · subst hi
        rw [hx]
        simp
      · have hi' : ¬ i = x := fun e => hi e.symm
        rw [Nat.testBit_two_pow_of_ne hi]
        simp [hi']
theorem mem_sortN {i : Nat} {l : List Nat} : i ∈ sortN l ↔ i ∈ l := by
  unfold sortN
  rw [mem_insAll, mem_dedN]
  simp
theorem upK_get {R : Type} {f : Nat → Blk} : ∀ {L : List Nat} {T : Tr} {k : Tr → Option R} {a : R} {H : Hp}, upK (L.map fun i => (i, f i)) T k = some a → TRep T H →
    ∃ T' H', TRep T' H' ∧ Jr T T' ∧ k T' = some a ∧ ∀ i, treeG T'.t i = if i ∈ L then some (f i) else treeG T.t i
  | [], T, k, a, H, h, hT => ⟨T, H, hT, Jr.refl T, h, fun i => by simp⟩
  | i :: L, T, k, a, H, h, hT => by
    -- one by one
    have h1 : upK [(i, f i)] T (fun T1 => upK (L.map fun i => (i, f i)) T1 k) = some a := by
      obtain ⟨n, t, j⟩ := T
      exact h
    obtain ⟨T1, r1, r2, r3⟩ := upK_some h1 hT
    have g1 : ∀ x, treeG T1.t x = if x = i then some (f i) else treeG T.t x := by
      obtain ⟨n, t, j⟩ := T
      intro x
      rw [r1.g, show treeG (Tr.mk n t j).t x = H[x]? from hT.g x]
      by_cases hlt : i < H.length
      · rw [applyU_set hlt, List.getElem?_set]
        by_cases hx : x = i
        · rw [if_pos hx.symm, if_pos hlt, if_pos hx]
        · rw [if_neg (Ne.symm hx), if_neg hx]
      · have hin : i = H.length := by
          have hn : n = H.length := hT.n
          obtain ⟨t', q1, q2⟩ := treeS_some (show treeS t i (f i) _ = some a from h1)
          have q2 : Bool.rec (motive := fun _ => Option R) (Bool.rec (motive := fun _ => Option R) none (upK (L.map fun i => (i, f i)) ⟨n, t', i :: j⟩ k) (Nat.ble i n)) (natK (Nat.succ n) fun n => upK (L.map fun i => (i, f i)) ⟨n, t', i :: j⟩ k) (Nat.beq i n) = some a := q2
          by_cases hi : i = n
          · omega
          · rw [beq_of_ne hi] at q2
            obtain ⟨q3, _⟩ := brec_some q2
            have := Nat.le_of_ble_eq_true q3
            omega
        subst hin
        rw [applyU_push]
        by_cases hx : x = H.length
        · rw [if_pos hx, hx]; simp
        · rw [if_neg hx]
          rcases Nat.lt_or_ge x H.length with h1 | h1
          · rw [List.getElem?_append_left h1]
          · rw [List.getElem?_eq_none h1, List.getElem?_eq_none (by simp; omega)]
    obtain ⟨T', H', s1, s2, s3, s4⟩ := upK_get r3 r1
    refine ⟨T', H', s1, r2.trans s2, s3, fun x => ?_⟩
    rw [s4, g1]
    by_cases hx : x ∈ L
    · rw [if_pos hx, if_pos (List.mem_cons_of_mem _ hx)]
    · by_cases hxi : x = i
      · rw [if_neg hx, if_pos hxi, hxi, if_pos List.mem_cons_self]
      · rw [if_neg hx, if_neg hxi, if_neg (by simp [hx, hxi])]
theorem mem_jAll {o : Out} {i : Nat} : ∀ {outs : Ans}, o ∈ outs → i ∈ o.2.2.j → i ∈ jAll outs
  | (e, F, T) :: r, h, hi => by
    rcases List.mem_cons.1 h with rfl | h
    · exact List.mem_append_left _ hi
    · exact List.mem_append_right _ (mem_jAll h hi)
theorem frE_eq {F F' : Fr} (h : listE (fun (a b : Nat × VV) => Nat.beq a.1 b.1 && vvE 50 a.2 b.2) F F' = true) : F = F' :=
  listE_eq (fun x y h => by rw [Bool.and_eq_true] at h; exact Prod.ext (Nat.eq_of_beq_eq_true h.1) (vvE_eq 50 _ _ h.2)) h
/-- what is held together stands for each -/
theorem merge_some {outs : Ans} {F : Fr} {n : Nat} {us : Up} (h : merge outs = some (F, n, us)) : ∃ f : Nat → Blk, us = (sortN (jAll outs)).map (fun i => (i, f i)) ∧
    ∀ e F' T', (e, F', T') ∈ outs → e = .normal ∧ F' = F ∧ T'.n = n ∧ ∀ i, i ∈ jAll outs → f i = .dead ∨ treeG T'.t i = some (f i) ∨ treeG T'.t i = none := by
  unfold merge at h
  split at h
  case h_2 => cases h
  rename_i F0 T0 r
  cases hall : r.all (sameF F0 T0.n) with
  | false => rw [hall] at h; cases h
  | true =>
    rw [hall] at h
    simp only [cond_true, Option.some.injEq, Prod.mk.injEq] at h
    obtain ⟨rfl, rfl, rfl⟩ := h
    refine ⟨_, rfl, fun e F' T' ho => ?_⟩
    rcases List.mem_cons.1 ho with ho | ho
    · cases ho
      refine ⟨rfl, rfl, rfl, fun i _ => ?_⟩
      cases r.all (agree T0 i) with
      | false => exact .inl rfl
      | true => simp only [cond_true]; cases hx : treeG T0.t i with
        | none => exact .inr (.inr rfl)
        | some b => exact .inr (.inl rfl)
    · have hs := List.all_eq_true.1 hall _ ho
      cases e with
      | normal =>
        simp only [sameF, Bool.and_eq_true] at hs
        refine ⟨rfl, (frE_eq hs.1).symm, (Nat.eq_of_beq_eq_true hs.2).symm, fun i _ => ?_⟩
        cases hag : r.all (agree T0 i) with
        | false => exact .inl rfl
        | true =>
          have := List.all_eq_true.1 hag _ ho
          have e1 : treeG T0.t i = treeG T'.t i := optE_eq (fun _ _ => blkE_eq) this
          simp only [cond_true]
          rw [← e1]
          cases hx : treeG T0.t i with
          | none => exact .inr (.inr rfl)
          | some b => exact .inr (.inl rfl)
      | ret => cases hs
      | exit i => cases hs

/-! ### statements -/
theorem noD_strip : ∀ {c : VC}, noD c = true → strip c = c
  | .seq x y, h => by simp only [noD, Bool.and_eq_true] at h; simp only [strip]; rw [noD_strip h.1, noD_strip h.2]
  | .cond s x y, h => by simp only [noD, Bool.and_eq_true] at h; simp only [strip]; rw [noD_strip h.1, noD_strip h.2]
  | .block i x, h => by simp only [noD] at h; simp only [strip]; rw [noD_strip h]
  | .loop x, h => by simp only [noD] at h; simp only [strip]; rw [noD_strip h]
  | .scope x, h => by simp only [noD] at h; simp only [strip]; rw [noD_strip h]
  | .dlm a r, h => by cases h
  | .rfunc f ps a b, h => rfl
  | .skip, _ => rfl
  | .reg l k, _ => rfl
  | .dreg l b k, _ => rfl
  | .exit i, _ => rfl
  | .ret, _ => rfl
  | .bad, _ => rfl
def Ne (k : KC) (T : Tr) (ans : Ans) : Prop := ∃ ve F H' T' a', TRep T' H' ∧ Jr T T' ∧ k ve F T' = some a' ∧ ∀ o ∈ a', o ∈ ans
theorem Ne.up {k : KC} {T T' : Tr} {ans ans' : Ans} (h : Ne k T' ans') (hj : Jr T T') (hs : ∀ o ∈ ans', o ∈ ans) : Ne k T ans :=
  let ⟨ve, F, H, T2, a, h1, h2, h3, h4⟩ := h; ⟨ve, F, H, T2, a, h1, hj.trans h2, h3, fun o ho => hs o (h4 o ho)⟩

section
variable {P : Program} {cl : CallK} {yl : YieldK} {n : Nat}
def Fine (P : Program) (cl : CallK) (yl : YieldK) (n : Nat) (c : VC) : Prop := ∀ (B N : Nat) (rn : Bool) (F : Fr) (T : Tr) (H : Hp) (k : KC) (ans : Ans), runCK c cl yl n F T k = some ans → TRep T H → (rn = true → noD c = true) →
  VW P B N rn (strip c) F H (AfC T k ans) ∧ Ne k T ans
/-- put ahead of what follows -/
def Ahead (P : Program) (cl : CallK) (yl : YieldK) (n : Nat) (c : VC) : Prop := ∀ (B N : Nat) (r : VC) (Q : VQ) (F : Fr) (T : Tr) (H : Hp) (k : KC) (ans : Ans), spineOk c = true → runCK c cl yl n F T k = some ans → TRep T H →
  (∀ ve F' H' T' a', TRep T' H' → Jr T T' → k ve F' T' = some a' → (∀ o ∈ a', o ∈ ans) → ve = .normal ∧ VW P B N false r F' H' Q) → VW P B N false (sapp (strip c) r) F H Q
theorem Fine.ahead {c : VC} (h : Fine P cl yl n c) (hs : ∀ r, sapp (strip c) r = .seq (strip c) r) : Ahead P cl yl n c := fun B N r Q F T H k ans _ hrun hT hq => by
  rw [hs]
  refine VW.seq (VW.mono (h B N false F T H k ans hrun hT (fun e => by cases e)).1 fun e F' H' ha => ?_)
  obtain ⟨ve, T', a', rfl, h1, h2, h3, h4⟩ := ha
  obtain ⟨rfl, hv⟩ := hq ve F' H' T' a' h1 h2 h3 h4
  exact hv

theorem loop_ne {g : Fr → Tr → KC → Option Ans} (hg : ∀ F T H k ans, g F T k = some ans → TRep T H → Ne k T ans) : ∀ (m : Nat) (F : Fr) (T : Tr) (H : Hp) (k : KC) (ans : Ans), loopK g m F T k = some ans → TRep T H → Ne k T ans
  | 0, F, T, H, k, ans, h, hT => by cases h
  | m + 1, F, T, H, k, ans, h, hT => by
    obtain ⟨ve, F', H', T', a', h1, h2, h3, h4⟩ := hg F T H _ ans (show g F T _ = some ans from h) hT
    cases ve with
    | normal => exact (loop_ne hg m F' T' H' k a' h3 h1).up h2 h4
    | ret => exact ⟨.ret, F', H', T', a', h1, h2, h3, h4⟩
    | exit i => exact ⟨.exit i, F', H', T', a', h1, h2, h3, h4⟩

theorem runCK_fine (hm : P.follows .mixedOrders = true) (hc : CallOk P cl) (hy : YldOk P yl) (c : VC) : Fine P cl yl n c ∧ Ahead P cl yl n c := by
  induction c with
  | skip =>
    have h : Fine P cl yl n .skip := fun B N rn F T H k ans h hT _ => ⟨VW.skip ⟨.normal, T, ans, rfl, hT, Jr.refl T, h, fun _ h => h⟩, .normal, F, H, T, ans, hT, Jr.refl T, h, fun _ h => h⟩
    exact ⟨h, h.ahead fun _ => rfl⟩
  | exit i =>
    have h : Fine P cl yl n (.exit i) := fun B N rn F T H k ans h hT _ => ⟨VW.exit ⟨.exit i, T, ans, rfl, hT, Jr.refl T, h, fun _ h => h⟩, .exit i, F, H, T, ans, hT, Jr.refl T, h, fun _ h => h⟩
    exact ⟨h, h.ahead fun _ => rfl⟩
  | ret =>
    have h : Fine P cl yl n .ret := fun B N rn F T H k ans h hT _ => ⟨VW.ret ⟨.ret, T, ans, rfl, hT, Jr.refl T, h, fun _ h => h⟩, .ret, F, H, T, ans, hT, Jr.refl T, h, fun _ h => h⟩
    exact ⟨h, h.ahead fun _ => rfl⟩
  | bad =>
    have h : Fine P cl yl n .bad := fun B N rn F T H k ans h hT _ => by cases h
    exact ⟨h, h.ahead fun _ => rfl⟩
  | reg l keep =>
    have h : Fine P cl yl n (.reg l keep) := fun B N rn F T H k ans h hT hnd => by
      have h : runLK l cl yl F T (fun E T => onlyK E keep fun F => k .normal F T) = some ans := h
      obtain ⟨h1, E', H', T', a', h2, h3, h4, h5⟩ := runLK_ok (B := B) (N := N) (rn := rn) hc hy l F T H _ ans h hT hnd
      refine ⟨VW.reg (h1.mono fun e E H2 hq => ⟨hq.1, ?_⟩), ?_⟩
      · obtain ⟨T2, a2, t1, t2, t3, t4⟩ := hq.2
        simp only [onlyK_eq] at t3
        exact ⟨.normal, T2, a2, rfl, t1, t2, t3, t4⟩
      · simp only [onlyK_eq] at h4
        exact ⟨.normal, _, H', T', a', h2, h3, h4, h5⟩
    exact ⟨h, h.ahead fun _ => rfl⟩
  | dreg l b keep =>
    have h : Fine P cl yl n (.dreg l b keep) := fun B N rn F T H k ans h hT hnd => by
      have h : trK T (fun _ t _ => runXK l cl yl b 0 F T [t] [] fun E T hs ck => Bool.rec (motive := fun _ => Option Ans) none (onlyK E keep fun F => k .normal F T) (chkA (Nat.pred (lenN hs)) hs ck)) = some ans := h
      rw [trK_eq] at h
      obtain ⟨E', T', H', hs', HS', nw, ck', q1, q2, q3, q4, q5, q6, q7⟩ := runXK_ok hc hy l b 0 F T H [T.t] [H] [] _ ans h hT ⟨hT.fn, trivial⟩ rfl rfl
      obtain ⟨q8, q9⟩ := brec_some q1
      rw [onlyK_eq] at q9
      have hlen : HS'.length = nw.length + 1 := by rw [q5]; simp
      have hck := chkA_ok q4 (by rw [lenN_eq, q4.length, hlen]; simp) q8
      have hv := q7 hck
      refine ⟨VW.dreg HS'.reverse hm ?_ (hv.mono fun E2 H2 he => ?_), .normal, _, H', T', ans, q2, q3, q9, fun _ h => h⟩
      · rw [q5]; simp
      · obtain ⟨rfl, rfl⟩ := he
        exact ⟨.normal, T', ans, rfl, q2, q3, q9, fun _ h => h⟩
    exact ⟨h, h.ahead fun _ => rfl⟩
  | seq x y ihx ihy =>
    have h : Fine P cl yl n (.seq x y) := fun B N rn F T H k ans h hT hnd => by
      have hnx : rn = true → noD x = true := fun e => by have := hnd e; simp only [noD, Bool.and_eq_true] at this; exact this.1
      have hny : rn = true → noD y = true := fun e => by have := hnd e; simp only [noD, Bool.and_eq_true] at this; exact this.2
      obtain ⟨h1, ve, F', H', T', a', h2, h3, h4, h5⟩ := ihx.1 B N rn F T H _ ans (show runCK x cl yl n F T _ = some ans from h) hT hnx
      refine ⟨VW.seq (h1.mono fun e F' H' ha => ?_), ?_⟩
      · obtain ⟨ve, T', a', rfl, t1, t2, t3, t4⟩ := ha
        cases ve with
        | normal => exact (ihy.1 B N rn F' T' H' k a' t3 t1 hny).1.mono fun e F H hq => hq.up t2 t4
        | ret => exact ⟨.ret, T', a', rfl, t1, t2, t3, t4⟩
        | exit i => exact ⟨.exit i, T', a', rfl, t1, t2, t3, t4⟩
      · cases ve with
        | normal => exact (ihy.1 B N rn F' T' H' k a' h4 h2 hny).2.up h3 h5
        | ret => exact ⟨.ret, F', H', T', a', h2, h3, h4, h5⟩
        | exit i => exact ⟨.exit i, F', H', T', a', h2, h3, h4, h5⟩
    refine ⟨h, fun B N r Q F T H k ans hsp hrun hT hq => ?_⟩
    have h1 := (ihx.1 B N false F T H _ ans (show runCK x cl yl n F T _ = some ans from hrun) hT (fun e => by cases e)).1
    show VW P B N false (.seq (strip x) (sapp (strip y) r)) F H Q
    refine VW.seq (h1.mono fun e F' H' ha => ?_)
    obtain ⟨ve, T', a', rfl, t1, t2, t3, t4⟩ := ha
    cases ve with
    | normal => exact ihy.2 B N r Q F' T' H' k a' hsp t3 t1 fun ve F2 H2 T2 a2 u1 u2 u3 u4 => hq ve F2 H2 T2 a2 u1 (t2.trans u2) u3 fun o ho => t4 o (u4 o ho)
    | ret => exact absurd (hq .ret F' H' T' a' t1 t2 t3 t4).1 (by simp)
    | exit i => exact absurd (hq (.exit i) F' H' T' a' t1 t2 t3 t4).1 (by simp)
  | cond s x y ihx ihy =>
    have h : Fine P cl yl n (.cond s x y) := fun B N rn F T H k ans h hT hnd => by
      have hnx : rn = true → noD x = true := fun e => by have := hnd e; simp only [noD, Bool.and_eq_true] at this; exact this.1
      have hny : rn = true → noD y = true := fun e => by have := hnd e; simp only [noD, Bool.and_eq_true] at this; exact this.2
      obtain ⟨v, e1, h⟩ := getK_some (show getK F s _ = some ans from h)
      obtain ⟨b, rfl, h2⟩ := boolOf_some h
      cases b with
      | true =>
        obtain ⟨q1, q2⟩ := ihx.1 B N rn F T H k ans h2 hT hnx
        exact ⟨VW.cond e1 (fun _ => q1) (fun e => by cases e), q2⟩
      | false =>
        obtain ⟨q1, q2⟩ := ihy.1 B N rn F T H k ans h2 hT hny
        exact ⟨VW.cond e1 (fun e => by cases e) (fun _ => q1), q2⟩
    exact ⟨h, h.ahead fun _ => rfl⟩
  | block id x ih =>
    have h : Fine P cl yl n (.block id x) := fun B N rn F T H k ans h hT hnd => by
      obtain ⟨h1, ve, F', H', T', a', h2, h3, h4, h5⟩ := ih.1 B N rn F T H _ ans (show runCK x cl yl n F T _ = some ans from h) hT hnd
      have ex : ∀ {i F' T' a'}, Bool.rec (motive := fun _ => Option Ans) (k (.exit i) F' T') (k .normal F' T') (Nat.beq i id) = some a' → (i = id ∧ k .normal F' T' = some a') ∨ (i ≠ id ∧ k (.exit i) F' T' = some a') := fun {i F' T' a'} h => by
        by_cases hi : i = id
        · rw [beq_of hi] at h; exact .inl ⟨hi, h⟩
        · rw [beq_of_ne hi] at h; exact .inr ⟨hi, h⟩
      refine ⟨VW.block (h1.mono fun e F' H' ha => ?_), ?_⟩
      · obtain ⟨ve, T', a', rfl, t1, t2, t3, t4⟩ := ha
        cases ve with
        | normal => exact ⟨.normal, T', a', rfl, t1, t2, t3, t4⟩
        | ret => exact ⟨.ret, T', a', rfl, t1, t2, t3, t4⟩
        | exit i =>
          rcases ex t3 with ⟨hi, t3⟩ | ⟨hi, t3⟩
          · show (if i = id then _ else _); rw [if_pos hi]; exact ⟨.normal, T', a', rfl, t1, t2, t3, t4⟩
          · show (if i = id then _ else _); rw [if_neg hi]; exact ⟨.exit i, T', a', rfl, t1, t2, t3, t4⟩
      · cases ve with
        | normal => exact ⟨.normal, F', H', T', a', h2, h3, h4, h5⟩
        | ret => exact ⟨.ret, F', H', T', a', h2, h3, h4, h5⟩
        | exit i =>
          rcases ex h4 with ⟨hi, h4⟩ | ⟨hi, h4⟩
          · exact ⟨.normal, F', H', T', a', h2, h3, h4, h5⟩
          · exact ⟨.exit i, F', H', T', a', h2, h3, h4, h5⟩
    exact ⟨h, h.ahead fun _ => rfl⟩
  | loop x ih =>
    have h : Fine P cl yl n (.loop x) := fun B N rn F T H k ans h hT hnd => by
      have h : loopK (runCK x cl yl n) n F T k = some ans := h
      refine ⟨VW.loop (fun m F' H' => ∃ T' a', TRep T' H' ∧ Jr T T' ∧ loopK (runCK x cl yl n) m F' T' k = some a' ∧ ∀ o ∈ a', o ∈ ans) n ⟨T, ans, hT, Jr.refl T, h, fun _ h => h⟩ fun m F' H' hI => ?_, loop_ne (fun F T H k ans hr hT => (ih.1 B N rn F T H k ans hr hT hnd).2) n F T H k ans h hT⟩
      obtain ⟨T', a', t1, t2, t3, t4⟩ := hI
      cases m with
      | zero => cases t3
      | succ m =>
        refine ((ih.1 B N rn F' T' H' _ a' (show runCK x cl yl n F' T' _ = some a' from t3) t1 hnd).1).mono fun e F2 H2 ha => ?_
        obtain ⟨ve, T2, a2, rfl, u1, u2, u3, u4⟩ := ha
        cases ve with
        | normal => exact ⟨m, Nat.lt_succ_self m, T2, a2, u1, t2.trans u2, u3, fun o ho => t4 o (u4 o ho)⟩
        | ret => exact ⟨.ret, T2, a2, rfl, u1, t2.trans u2, u3, fun o ho => t4 o (u4 o ho)⟩
        | exit i => exact ⟨.exit i, T2, a2, rfl, u1, t2.trans u2, u3, fun o ho => t4 o (u4 o ho)⟩
    exact ⟨h, h.ahead fun _ => rfl⟩
  | scope x ih =>
    have h : Fine P cl yl n (.scope x) := fun B N rn F T H k ans h hT hnd => by
      obtain ⟨h1, h2⟩ := ih.1 B N rn F T H k ans h hT hnd
      refine ⟨VW.scope (h1.mono fun e F' H' ha => ?_), h2⟩
      obtain ⟨ve, T', a', rfl, t⟩ := ha
      cases ve <;> exact ⟨_, T', a', rfl, t⟩
    exact ⟨h, h.ahead fun _ => rfl⟩
  | rfunc f ps va vb iha ihb =>
    have h : Fine P cl yl n (.rfunc f ps va vb) := fun B N rn F T H k ans h hT hnd => by
      have hrn : rn = false := by
        cases hr : rn with
        | false => rfl
        | true => cases hnd hr
      subst hrn
      obtain ⟨fv, e1, h⟩ := odK_some (show odK f F _ = some ans from h)
      rcases fnOf_some h with ⟨fid, caps, rfl, h2⟩ | ⟨b, rfl, h2⟩
      rotate_left
      · cases h2
      rw [trK_eq, natK_eq] at h2
      obtain ⟨T1, r1, r2, r3⟩ := upK_some h2 hT
      have hH2 : applyU H [(T.n, Blk.obj (.defs false)), (Nat.succ T.n, .obj (.loop ⟨0, none, 0, 0, delK F, ps, va, vb, T.n⟩))] = (H ++ [.obj (.defs false)]) ++ [.obj (.loop ⟨0, none, 0, 0, F.del dslot, ps, va, vb, H.length⟩)] := by
        rw [hT.n]
        have e : ∀ b c, applyU H [(H.length, b), (Nat.succ H.length, c)] = (H ++ [b]) ++ [c] := fun b c => by
          have : applyU H [(H.length, b), (Nat.succ H.length, c)] = applyU (H ++ [b]) [(Nat.succ H.length, c)] := by
            show applyU (if H.length < H.length then _ else H ++ [b]) _ = _
            rw [if_neg (Nat.lt_irrefl _)]
          rw [this, show Nat.succ H.length = (H ++ [b]).length by simp, applyU_push]
        exact e _ _
      rw [hH2] at r1
      obtain ⟨q1, v, H', T', a', q2, q3, q4, q5⟩ := hc _ _ T1 _ _ ans r1 r3
      have fin : ∀ {T2 : Tr} {H2 : Hp} {a2 : Ans}, TRep T2 H2 → Jr T1 T2 → (match treeG T2.t (Nat.succ T.n) with
          | some (.obj (.loop r)) => Bool.rec (motive := fun _ => Option Ans) (upK [(Nat.succ T.n, .obj (.loop { r with st := 3 }))] T2 fun T3 => dferK F (.map (some T.n)) fun F' => Option.rec (motive := fun _ => Option Ans) (k .normal F' T3) (fun e => k e F' T3) r.pend) none (Nat.beq r.st 2)
          | _ => none) = some a2 → (∀ o ∈ a2, o ∈ ans) → ∃ r, H2[H.length + 1]? = some (.obj (.loop r)) ∧ (r.st == 2) = false ∧ ∃ T3, TRep T3 (H2.set (H.length + 1) (.obj (.loop { r with st := 3 }))) ∧ Jr T T3 ∧
            ∃ ve, exOf r.pend = VE.to ve ∧ k ve (F.defer (.map (some H.length))) T3 = some a2 := fun {T2 H2 a2} g1 g2 g3 g4 => by
        split at g3
        case h_2 => cases g3
        rename_i r hr
        rw [g1.g, hT.n] at hr
        have hr : H2[H.length + 1]? = some (.obj (.loop r)) := hr
        have hst : Nat.beq r.st 2 = false := by
          cases hb : Nat.beq r.st 2 with
          | false => rfl
          | true => rw [hb] at g3; cases g3
        rw [hst] at g3
        obtain ⟨T3, s1, s2, s3⟩ := upK_some g3 g1
        rw [hT.n] at s1
        have s1 : TRep T3 (H2.set (H.length + 1) (.obj (.loop { r with st := 3 }))) := by
          have := applyU_set (H := H2) (i := H.length + 1) (List.getElem?_eq_some_iff.1 hr).1 (.obj (.loop { r with st := 3 }))
          rw [← this]; exact s1
        have s4 := dferK_some s3
        rw [hT.n] at s4
        refine ⟨r, hr, ?_, T3, s1, (r2.trans g2).trans s2, ?_⟩
        · cases hd : (r.st == 2) with
          | false => rfl
          | true => have := eq_of_beq hd; rw [beq_of this] at hst; cases hst
        · cases hp : r.pend with
          | none => rw [hp] at s4; exact ⟨.normal, rfl, s4⟩
          | some e => rw [hp] at s4; exact ⟨e, rfl, s4⟩
      rw [hT.n] at q1
      refine ⟨VW.rfunc e1 (q1.mono fun r H' hr => ?_), ?_⟩
      · rw [← hT.n] at hr
        obtain ⟨T2, a2, t1, t2, t3, t4⟩ := hr
        obtain ⟨lr, l1, l2, T3, l3, l4, ve, l5, l6⟩ := fin t1 t2 t3 t4
        exact ⟨lr, l1, l2, ve, T3, a2, l5, l3, l4, l6, t4⟩
      · obtain ⟨lr, l1, l2, T3, l3, l4, ve, l5, l6⟩ := fin q2 q3 q4 q5
        exact ⟨ve, _, _, T3, a', l3, l4, l6, q5⟩
    exact ⟨h, h.ahead fun _ => rfl⟩
  | dlm a r iha ihr =>
    have h : Fine P cl yl n (.dlm a r) := fun B N rn F T H k ans h hT hnd => by
      have hrn : rn = false := by
        cases hr : rn with
        | false => rfl
        | true => cases hnd hr
      subst hrn
      obtain ⟨hsp, h⟩ := brec_some (show Bool.rec (motive := fun _ => Option Ans) none _ (spineOk a) = some ans from h)
      rw [trK_eq] at h
      obtain ⟨outs, h1, h2⟩ := obK_some h
      obtain ⟨⟨F1, n1, us⟩, h3, h4⟩ := obK_some h2
      have h4 : upsK us (fun us => upK us ⟨T.n, T.t, []⟩ fun T2 => trK T2 fun n2 t2 j2 => Bool.rec (motive := fun _ => Option Ans) none (appK j2 T.j fun j => runCK r cl yl n F1 ⟨n2, t2, j⟩ k) (Nat.beq n1 n2)) = some ans := h4
      rw [upsK_eq] at h4
      obtain ⟨f, rfl, hf⟩ := merge_some h3
      have hT0 : TRep ⟨T.n, T.t, []⟩ H := ⟨hT.n, hT.g⟩
      obtain ⟨T2, H2, s1, s2, s3, s4⟩ := upK_get h4 hT0
      rw [trK_eq] at s3
      obtain ⟨s5, s6⟩ := brec_some s3
      rw [appK_eq] at s6
      have s5 := Nat.eq_of_beq_eq_true s5
      have hT3 : TRep ⟨T2.n, T2.t, T2.j ++ T.j⟩ H2 := ⟨s1.n, s1.g⟩
      have hJ3 : Jr T ⟨T2.n, T2.t, T2.j ++ T.j⟩ := fun i hi => by
        simp only [List.mem_append, not_or] at hi
        exact ⟨hi.2, (s2 i hi.1).2⟩
      have step := ihr.1 B N false F1 _ H2 k ans s6 hT3 (fun e => by cases e)
      refine ⟨?_, step.2.up hJ3 fun _ h => h⟩
      refine iha.2 B N (strip r) _ F _ H _ outs hsp h1 hT0 fun ve F' H' T' a' t1 t2 t3 t4 => ?_
      have ha : a' = [(ve, F', T')] := (Option.some.inj t3).symm
      subst ha
      obtain ⟨g1, g2, g3, g4⟩ := hf ve F' T' (t4 _ (List.mem_singleton.2 rfl))
      subst g1; subst g2
      refine ⟨rfl, VW.less ?_ (step.1.mono fun e F H hq => hq.up hJ3 fun _ h => h)⟩
      refine ⟨by rw [← s1.n, ← s5, ← g3, t1.n], fun i b hb => ?_⟩
      rw [← s1.g, s4] at hb
      by_cases hi : i ∈ sortN (jAll outs)
      · rw [if_pos hi] at hb
        cases hb
        rcases g4 i (mem_sortN.1 hi) with h | h | h
        · exact .inl h
        · right; rw [← t1.g]; exact h
        · exfalso
          have e1 : T2.t = T2.t := rfl
          have : H2[i]? = some (f i) := by rw [← s1.g, s4, if_pos hi]
          have hlt := (List.getElem?_eq_some_iff.1 this).1
          rw [t1.g] at h
          have := List.getElem?_eq_none_iff.1 h
          have hl : H2.length = H'.length := by rw [← s1.n, ← s5, ← g3, t1.n]
          omega
      · rw [if_neg hi] at hb
        right
        rw [← t1.g, (t2 i fun hj => hi (mem_sortN.2 (mem_jAll (t4 _ (List.mem_singleton.2 rfl)) hj))).2]
        exact hb
    refine ⟨h, fun B N r Q F T H k ans hsp => by cases hsp⟩
end
end Go.Wm
