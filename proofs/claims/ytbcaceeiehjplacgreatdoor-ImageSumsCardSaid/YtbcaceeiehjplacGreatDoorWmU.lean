/- The run is sound: what it comes to, the machine of the model comes to, in whatever order. -/
import Derived.Test.YtbcaceeiehjplacGreatDoorWmP
import Derived.Test.YtbcaceeiehjplacGreatDoorWmS
namespace Go.Wm
set_option linter.unusedVariables false
set_option linter.unusedSimpArgs false

/-- the tree says what the heap says -/
structure TRep (T : Tr) (H : Hp) : Prop where
  n : T.n = H.length
  g : ∀ i, treeG T.t i = H[i]?
theorem TRep.fn {T : Tr} {H : Hp} (h : TRep T H) : treeG T.t = H.g := funext h.g
theorem TRep.uniq {T : Tr} {H H' : Hp} (h : TRep T H) (h' : TRep T H') : H = H' := List.ext_getElem? fun i => by rw [← h.g, ← h'.g]
/-- what was not written down is as it was -/
def Jr (T T' : Tr) : Prop := ∀ i, i ∉ T'.j → i ∉ T.j ∧ treeG T'.t i = treeG T.t i
theorem Jr.refl (T : Tr) : Jr T T := fun i h => ⟨h, rfl⟩
theorem Jr.trans {T T' T2 : Tr} (h : Jr T T') (k : Jr T' T2) : Jr T T2 := fun i hi => let ⟨h1, h2⟩ := k i hi; let ⟨h3, h4⟩ := h i h1; ⟨h3, h2.trans h4⟩

theorem upK_some {R : Type} : ∀ {us : Up} {T : Tr} {k : Tr → Option R} {a : R} {H : Hp}, upK us T k = some a → TRep T H → ∃ T', TRep T' (applyU H us) ∧ Jr T T' ∧ k T' = some a
  | [], T, k, a, H, h, hT => ⟨T, hT, Jr.refl T, h⟩
  | (i, b) :: us, T, k, a, H, h, hT => by
    obtain ⟨n, t, j⟩ := T
    have hn : n = H.length := hT.n
    obtain ⟨t', q1, q2⟩ := treeS_some (show treeS t i b _ = some a from h)
    have hg : ∀ i, treeG t i = H[i]? := hT.g
    have hj : ∀ m, Jr ⟨n, t, j⟩ ⟨m, t', i :: j⟩ := fun m x hx => by
      simp only [List.mem_cons, not_or] at hx
      exact ⟨hx.2, by show treeG t' x = treeG t x; rw [q1, if_neg hx.1]⟩
    have q2 : Bool.rec (motive := fun _ => Option R) (Bool.rec (motive := fun _ => Option R) none (upK us ⟨n, t', i :: j⟩ k) (Nat.ble i n)) (natK (Nat.succ n) fun n => upK us ⟨n, t', i :: j⟩ k) (Nat.beq i n) = some a := q2
    by_cases hi : i = n
    · rw [beq_of hi] at q2
      simp only [natK_eq] at q2
      have hT' : TRep ⟨n + 1, t', i :: j⟩ (H ++ [b]) := ⟨by simp [hn], fun x => by
        show treeG t' x = _
        rw [q1, hg]
        by_cases hx : x = i
        · rw [if_pos hx, hx, hi, hn]; simp
        · rw [if_neg hx]
          rcases Nat.lt_or_ge x H.length with hlt | hge
          · rw [List.getElem?_append_left hlt]
          · rw [List.getElem?_eq_none hge, List.getElem?_eq_none (by simp; omega)]⟩
      obtain ⟨T', r1, r2, r3⟩ := upK_some q2 hT'
      refine ⟨T', ?_, (hj (n + 1)).trans r2, r3⟩
      unfold applyU
      rw [if_neg (by omega)]
      exact r1
    · rw [beq_of_ne hi] at q2
      obtain ⟨q3, q4⟩ := brec_some q2
      have hle := Nat.le_of_ble_eq_true q3
      have hlt : i < H.length := by omega
      have hT' : TRep ⟨n, t', i :: j⟩ (H.set i b) := ⟨by simp [hn], fun x => by
        show treeG t' x = _
        rw [q1, hg, List.getElem?_set]
        by_cases hx : x = i
        · rw [if_pos hx, if_pos hx.symm, if_pos hlt]
        · rw [if_neg hx, if_neg (Ne.symm hx)]⟩
      obtain ⟨T', r1, r2, r3⟩ := upK_some q4 hT'
      refine ⟨T', ?_, (hj n).trans r2, r3⟩
      unfold applyU
      rw [if_pos hlt]
      exact r1

section
variable {R : Type}
theorem wantK_some {g : Option (Nat × Bool)} {E : Fr} {x y : Option R} {a : R} (h : wantK g E x y = some a) : (want E g = some true ∧ x = some a) ∨ (want E g = some false ∧ y = some a) := by
  cases g with
  | none => exact .inl ⟨rfl, h⟩
  | some p =>
    obtain ⟨s, b⟩ := p
    obtain ⟨c, h1, h2⟩ := obK_some (show obK (want E (some (s, b))) _ = some a from h)
    cases c with
    | true => exact .inl ⟨h1, h2⟩
    | false => exact .inr ⟨h1, h2⟩
theorem ptK_eq (d : Option Nat) (v : VV) (E : Fr) (k : Fr → R) : ptK d v E k = k (E.pt d v) := by cases d <;> rfl
theorem fnOf_some {v : VV} {k : FuncId → List VV → Option R} {k2 : Nat → Option R} {a : R} (h : fnOf v k k2 = some a) : (∃ f l, v = .fn f l ∧ k f l = some a) ∨ ∃ b, v = .yield b ∧ k2 b = some a := by
  cases v with
  | fn f l => exact .inl ⟨f, l, rfl, h⟩
  | yield b => exact .inr ⟨b, rfl, h⟩
  | _ => cases h
theorem appK_eq {α : Type} : ∀ (a b : List α) (k : List α → R), appK a b k = k (a ++ b)
  | [], b, k => rfl
  | x :: a, b, k => appK_eq a b fun l => k (x :: l)
theorem filtK_eq : ∀ (F : Fr) (m : Nat) (k : Fr → R), filtK F m k = k (F.filt m)
  | [], m, k => rfl
  | (s, v) :: F, m, k => by
    have e : filtK ((s, v) :: F) m k = Bool.rec (motive := fun _ => R) (filtK F m k) (natK (Nat.xor m (Nat.shiftLeft 1 s)) fun m => filtK F m fun G => k ((s, v) :: G)) (Nat.beq (Nat.land (Nat.shiftRight m s) 1) 1) := rfl
    rw [e]
    unfold Fr.filt
    cases Nat.beq (Nat.land (Nat.shiftRight m s) 1) 1
    · exact filtK_eq F m k
    · simp only [natK_eq, cond_true]; exact filtK_eq F _ _
theorem onlyK_eq (F : Fr) (m : Nat) (k : Fr → R) : onlyK F m k = k (F.only m) := by
  unfold onlyK Fr.only
  cases Nat.beq m 0
  · exact filtK_eq _ _ _
  · rfl
theorem dferK_some {E : Fr} {v : VV} {k : Fr → Option R} {a : R} (h : dferK E v k = some a) : k (E.defer v) = some a := by
  unfold dferK at h
  rw [geto_eq] at h
  unfold Fr.defer
  cases hx : E.get dslot with
  | none => rw [hx] at h; exact h
  | some o =>
    rw [hx] at h
    obtain ⟨l, rfl, h2⟩ := tupOf_some h
    exact h2
theorem argsK_eq : ∀ (l : List VV) (n : Nat) (k : Fr → R), argsK l n k = k (argsF n l)
  | [], n, k => rfl
  | v :: l, n, k => by
    have e : argsK (v :: l) n k = natK (Nat.succ n) fun m => argsK l m fun F => k ((n, v) :: F) := rfl
    rw [e, natK_eq, argsK_eq]; rfl
theorem and_true {a b : Bool} (h : and a b = true) : a = true ∧ b = true := by cases a <;> cases b <;> first | exact ⟨rfl, rfl⟩ | cases h
end

/-! ### what is left to be gone -/
def AfL (T : Tr) (k : Fr → Tr → Option Ans) (ans : Ans) (E : Fr) (H : Hp) : Prop := ∃ T' a', TRep T' H ∧ Jr T T' ∧ k E T' = some a' ∧ ∀ o ∈ a', o ∈ ans
def AfV (T : Tr) (k : VV → Tr → Option Ans) (ans : Ans) (v : VV) (H : Hp) : Prop := ∃ T' a', TRep T' H ∧ Jr T T' ∧ k v T' = some a' ∧ ∀ o ∈ a', o ∈ ans
def AfC (T : Tr) (k : KC) (ans : Ans) : VQ := fun e F H => ∃ ve T' a', e = VE.to ve ∧ TRep T' H ∧ Jr T T' ∧ k ve F T' = some a' ∧ ∀ o ∈ a', o ∈ ans
theorem AfL.up {T T' : Tr} {k : Fr → Tr → Option Ans} {ans ans' : Ans} {E : Fr} {H : Hp} (h : AfL T' k ans' E H) (hj : Jr T T') (hs : ∀ o ∈ ans', o ∈ ans) : AfL T k ans E H :=
  let ⟨T2, a, h1, h2, h3, h4⟩ := h; ⟨T2, a, h1, hj.trans h2, h3, fun o ho => hs o (h4 o ho)⟩
theorem AfV.up {T T' : Tr} {k : VV → Tr → Option Ans} {ans ans' : Ans} {v : VV} {H : Hp} (h : AfV T' k ans' v H) (hj : Jr T T') (hs : ∀ o ∈ ans', o ∈ ans) : AfV T k ans v H :=
  let ⟨T2, a, h1, h2, h3, h4⟩ := h; ⟨T2, a, h1, hj.trans h2, h3, fun o ho => hs o (h4 o ho)⟩
theorem AfC.up {T T' : Tr} {k : KC} {ans ans' : Ans} {e : Exit} {F : Fr} {H : Hp} (h : AfC T' k ans' e F H) (hj : Jr T T') (hs : ∀ o ∈ ans', o ∈ ans) : AfC T k ans e F H :=
  let ⟨ve, T2, a, h0, h1, h2, h3, h4⟩ := h; ⟨ve, T2, a, h0, h1, hj.trans h2, h3, fun o ho => hs o (h4 o ho)⟩
def CallOk (P : Program) (cl : CallK) : Prop := ∀ f args T H k ans, TRep T H → cl f args T k = some ans → FnV P f args H (AfV T k ans) ∧ ∃ v H', AfV T k ans v H'
def YldOk (P : Program) (yl : YieldK) : Prop := ∀ b args T H k ans, TRep T H → yl b args T k = some ans → YldV P b args H (AfV T k ans) ∧ ∃ v H', AfV T k ans v H'
def DefOk (P : Program) (dl : CallK) : Prop := ∀ f args T H k ans, TRep T H → dl f args T k = some ans → FnD P f args H (AfV T k ans) ∧ ∃ v H', AfV T k ans v H'

section
variable {P : Program} {B N : Nat} {rn : Bool} {cl : CallK} {yl : YieldK}
theorem VOps.mono {l : List VI} {E : Fr} {H : Hp} {Q Q' : VQ} (h : VOps P B N rn l E H Q) (hq : ∀ e F H, Q e F H → Q' e F H) : VOps P B N rn l E H Q' :=
  fun ro hro ops os hc σ w a hH hF => wpListIn_mono (fun _ _ _ hp => hp.mono hq) _ _ _ (h ro hro ops os hc σ w a hH hF)
/-- a block may be forgotten -/
theorem VOps.forget {l : List VI} {E : Fr} {H : Hp} {Q : VQ} (i : Nat) (h : VOps P B N rn l E (H.set i .dead) Q) : VOps P B N rn l E H Q :=
  fun ro hro ops os hc σ w a hH hF => h ro hro ops os hc σ w a (hH.kill i) hF
theorem VW.forget {c : VC} {F : Fr} {H : Hp} {Q : VQ} (i : Nat) (h : VW P B N rn c F (H.set i .dead) Q) : VW P B N rn c F H Q :=
  fun ro hro K c' hc σ w a hH hF => h ro hro K c' hc σ w a (hH.kill i) hF

theorem callK_some {f : Od} {ar : List Od} {E : Fr} {T : Tr} {k : VV → Tr → Option Ans} {ans : Ans} (h : callK cl yl f ar E T k = some ans) :
    (∃ fid caps vs, f.ev E = some (.fn fid caps) ∧ Od.evs E ar = some vs ∧ cl fid (vs ++ caps) T k = some ans) ∨ ∃ b vs, f.ev E = some (.yield b) ∧ Od.evs E ar = some vs ∧ yl b vs T k = some ans := by
  obtain ⟨fv, h1, h2⟩ := odK_some (show odK f E _ = some ans from h)
  obtain ⟨vs, h3, h4⟩ := odsK_some h2
  rcases fnOf_some h4 with ⟨g, l, rfl, h5⟩ | ⟨b, rfl, h5⟩
  · rw [appK_eq] at h5; exact .inl ⟨g, l, vs, h1, h3, h5⟩
  · exact .inr ⟨b, vs, h1, h3, h5⟩
theorem appA_eq : ∀ a b : Ans, appA a b = a ++ b
  | [], b => rfl
  | x :: a, b => congrArg (x :: ·) (appA_eq a b)
theorem anyO_some {α : Type} {f : α → Option Ans} : ∀ {l : List α} {ans : Ans}, anyO f l = some ans → ∀ x ∈ l, ∃ a, f x = some a ∧ ∀ o ∈ a, o ∈ ans
  | [], ans, h, x, hx => by cases hx
  | y :: l, ans, h, x, hx => by
    obtain ⟨a, h1, h2⟩ := obK_some (show obK (f y) _ = some ans from h)
    obtain ⟨b, h3, h4⟩ := obK_some h2
    have h5 : ans = a ++ b := by rw [← appA_eq]; exact (Option.some.inj h4).symm
    rcases List.mem_cons.1 hx with rfl | hx
    · exact ⟨a, h1, fun o ho => by rw [h5]; exact List.mem_append_left _ ho⟩
    · obtain ⟨a', q1, q2⟩ := anyO_some h3 x hx
      exact ⟨a', q1, fun o ho => by rw [h5]; exact List.mem_append_right _ (q2 o ho)⟩
theorem any_beq {seen : List Nat} {i : Nat} : seen.any (Nat.beq i) = true ↔ i ∈ seen := by
  rw [List.any_eq_true]
  exact ⟨fun ⟨x, h1, h2⟩ => by rw [Nat.eq_of_beq_eq_true h2]; exact h1, fun h => ⟨i, h, beq_of rfl⟩⟩
theorem mem_unseen {seen : List Nat} : ∀ {es : List (VV × VV)} {k i : Nat} {e : VV × VV}, k + i ∉ seen → es[i]? = some e → (k + i, e) ∈ unseen es k seen
  | [], k, i, e, _, h => by simp at h
  | x :: es, k, 0, e, hn, h => by
    simp at h; subst h
    have : seen.any (Nat.beq k) = false := by
      cases hs : seen.any (Nat.beq k) with
      | false => rfl
      | true => exact absurd (any_beq.1 hs) hn
    simp [unseen, this]
  | x :: es, k, i + 1, e, hn, h => by
    have ih := mem_unseen (es := es) (k := Nat.succ k) (i := i) (e := e) (by rw [show Nat.succ k + i = k + (i + 1) by omega]; exact hn) (by simpa using h)
    rw [show Nat.succ k + i = k + (i + 1) by omega] at ih
    unfold unseen
    cases seen.any (Nat.beq k)
    · exact List.mem_cons_of_mem _ ih
    · exact ih
theorem of_unseen {seen : List Nat} : ∀ {es : List (VV × VV)} {k : Nat} {p : Nat × VV × VV}, p ∈ unseen es k seen → p.1 ∉ seen ∧ k ≤ p.1 ∧ p.1 < k + es.length ∧ es[p.1 - k]? = some p.2
  | [], k, p, h => by simp [unseen] at h
  | x :: es, k, p, h => by
    unfold unseen at h
    have rest : p ∈ unseen es (Nat.succ k) seen → p.1 ∉ seen ∧ k ≤ p.1 ∧ p.1 < k + (x :: es).length ∧ (x :: es)[p.1 - k]? = some p.2 := fun h => by
      obtain ⟨h1, h2, h3, h4⟩ := of_unseen h
      refine ⟨h1, by omega, by simp; omega, ?_⟩
      rw [show p.1 - k = (p.1 - Nat.succ k) + 1 by omega]
      simpa using h4
    cases hs : seen.any (Nat.beq k) with
    | false =>
      rw [hs] at h
      rcases List.mem_cons.1 h with rfl | h
      · exact ⟨fun hm => (by rw [any_beq.2 hm] at hs; cases hs), Nat.le_refl _, by simp, by simp⟩
      · exact rest h
    | true => rw [hs] at h; exact rest h

theorem runLK_ok (hc : CallOk P cl) (hy : YldOk P yl) : ∀ (l : List VI) (E : Fr) (T : Tr) (H : Hp) (k : Fr → Tr → Option Ans) (ans : Ans), runLK l cl yl E T k = some ans → TRep T H → (rn = true → l.all noDI = true) →
    VOps P B N rn l E H (fun e E' H' => e = .normal ∧ AfL T k ans E' H') ∧ ∃ E' H', AfL T k ans E' H'
  | [], E, T, H, k, ans, h, hT, _ => ⟨VOps.nil ⟨rfl, T, ans, hT, Jr.refl T, h, fun _ ho => ho⟩, E, H, T, ans, hT, Jr.refl T, h, fun _ ho => ho⟩
  | x :: l, E, T, H, k, ans, h, hT, hnd => by
    have hnd' : rn = true → l.all noDI = true := fun e => by have := hnd e; simp only [List.all_cons, Bool.and_eq_true] at this; exact this.2
    have h : stepK x (runLK l) cl yl E T k = some ans := h
    have sk : want E x.gd = some false → runLK l cl yl (E.pt x.ds (.tup [])) T k = some ans → VOps P B N rn (x :: l) E H (fun e E' H' => e = .normal ∧ AfL T k ans E' H') ∧ ∃ E' H', AfL T k ans E' H' := fun hw h =>
      let ⟨h1, h2⟩ := runLK_ok hc hy l _ T H k ans h hT hnd'
      ⟨VOps.skip hw h1, h2⟩
    have next : ∀ {T' : Tr} {H' : Hp} {E' : Fr} {a' : Ans}, TRep T' H' → Jr T T' → runLK l cl yl E' T' k = some a' → (∀ o ∈ a', o ∈ ans) → VOps P B N rn l E' H' (fun e E' H' => e = .normal ∧ AfL T k ans E' H') ∧ ∃ E' H', AfL T k ans E' H' := fun {T' H' E' a'} q1 q2 q3 q4 =>
      let ⟨h1, E2, H2, h2⟩ := runLK_ok hc hy l E' T' H' k a' q3 q1 hnd'
      ⟨h1.mono fun e F H hq => ⟨hq.1, hq.2.up q2 q4⟩, E2, H2, h2.up q2 q4⟩
    cases x with
    | rd d g y =>
      rcases wantK_some (show wantK g E _ _ = some ans from h) with ⟨hw, h⟩ | ⟨hw, h⟩
      · obtain ⟨v, q1, q2⟩ := rdK_some h
        rw [hT.fn] at q1
        obtain ⟨r1, r2⟩ := next hT (Jr.refl T) q2 fun _ ho => ho
        exact ⟨VOps.rd hw q1 r1, r2⟩
      · exact sk hw h
    | ef d g y =>
      rcases wantK_some (show wantK g E _ _ = some ans from h) with ⟨hw, h⟩ | ⟨hw, h⟩
      · rw [trK_eq] at h
        obtain ⟨v, us, q1, q2⟩ := efK_some h
        rw [hT.fn, hT.n] at q1
        obtain ⟨T', r1, r2, r3⟩ := upK_some q2 hT
        rw [ptK_eq] at r3
        obtain ⟨s1, s2⟩ := next r1 r2 r3 fun _ ho => ho
        exact ⟨VOps.ef hw q1 s1, s2⟩
      · rw [ptK_eq] at h; exact sk hw h
    | call d g f ar =>
      rcases wantK_some (show wantK g E _ _ = some ans from h) with ⟨hw, h⟩ | ⟨hw, h⟩
      · rcases callK_some h with ⟨fid, caps, vs, e1, e2, e3⟩ | ⟨b, vs, e1, e2, e3⟩
        · obtain ⟨q1, v, H', T', a', q2, q3, q4, q5⟩ := hc _ _ T H _ ans hT e3
          refine ⟨VOps.call hw e1 e2 (q1.mono fun r H' hr => ?_), ?_⟩
          · obtain ⟨T', a', t1, t2, t3, t4⟩ := hr
            simp only [ptK_eq] at t3
            exact (next t1 t2 t3 t4).1
          · simp only [ptK_eq] at q4
            exact (next q2 q3 q4 q5).2
        · obtain ⟨q1, v, H', T', a', q2, q3, q4, q5⟩ := hy _ _ T H _ ans hT e3
          refine ⟨VOps.yld hw e1 e2 (q1.mono fun r H' hr => ?_), ?_⟩
          · obtain ⟨T', a', t1, t2, t3, t4⟩ := hr
            simp only [ptK_eq] at t3
            exact (next t1 t2 t3 t4).1
          · simp only [ptK_eq] at q4
            exact (next q2 q3 q4 q5).2
      · rw [ptK_eq] at h; exact sk hw h
    | nx d g y =>
      rcases wantK_some (show wantK g E _ _ = some ans from h) with ⟨hw, h⟩ | ⟨hw, h⟩
      · obtain ⟨u, e1, h⟩ := odK_some (show odK y E _ = some ans from h)
        obtain ⟨p, rfl, h2⟩ := ptrOf_some h
        replace h := h2
        clear h2
        split at h
        case h_2 => cases h
        rename_i b
        split at h
        case h_2 => cases h
        rename_i m n seen hb
        split at h
        case h_2 => cases h
        rename_i es hm
        rw [hT.g] at hb hm
        have hbl : b < H.length := (List.getElem?_eq_some_iff.1 hb).1
        cases hlen : Nat.beq (lenN es) n with
        | false => rw [hlen] at h; cases h
        | true =>
        rw [hlen] at h
        simp only [cond_true] at h
        have hn : es.length = n := by rw [← lenN_eq]; exact Nat.eq_of_beq_eq_true hlen
        split at h
        · rename_i hu
          obtain ⟨T', r1, r2, r3⟩ := upK_some h hT
          rw [applyU_set hbl] at r1
          obtain ⟨s1, s2⟩ := next r1 r2 r3 fun _ ho => ho
          refine ⟨VOps.nx hw e1 hb hm hn (fun _ => VOps.forget b s1) fun i e hi he => ?_, s2⟩
          have := mem_unseen (k := 0) (seen := seen) (es := es) (i := i) (e := e) (by simpa using hi) he
          rw [hu] at this; cases this
        · rename_i hne
          have one : ∀ p ∈ unseen es 0 seen, VOps P B N rn l ((d, .tup [.bool true, p.2.1, p.2.2]) :: E) (H.set b (.obj (.iter m n (seen ++ [p.1])))) (fun e E' H' => e = .normal ∧ AfL T k ans E' H') ∧ ∃ E' H', AfL T k ans E' H' := fun p hp => by
            obtain ⟨a, q1, q2⟩ := anyO_some h p hp
            rw [natsK_eq] at q1
            obtain ⟨T', r1, r2, r3⟩ := upK_some q1 hT
            rw [applyU_set hbl] at r1
            rw [vvK_eq] at r3
            exact next r1 r2 r3 q2
          refine ⟨VOps.nx hw e1 hb hm hn (fun hall => ?_) fun i e hi he => ?_, ?_⟩
          · exfalso
            cases hu : unseen es 0 seen with
            | nil => exact hne hu
            | cons p r =>
              obtain ⟨u1, u2, u3, _⟩ := of_unseen (p := p) (seen := seen) (es := es) (k := 0) (by rw [hu]; simp)
              exact u1 (hall p.1 (by omega))
          · have := mem_unseen (k := 0) (seen := seen) (es := es) (i := i) (e := e) (by simpa using hi) he
            have q := (one _ this).1
            simpa using q
          · cases hu : unseen es 0 seen with
            | nil => exact absurd hu hne
            | cons p r => exact (one p (by rw [hu]; simp)).2
      · exact sk hw h
    | dfr d g f ar =>
      rcases wantK_some (show wantK g E _ _ = some ans from h) with ⟨hw, h⟩ | ⟨hw, h⟩
      · have hrn : rn = false := by
          cases hr : rn with
          | false => rfl
          | true => have := hnd hr; simp [noDI] at this
        obtain ⟨fv, e1, h⟩ := odK_some (show odK f E _ = some ans from h)
        obtain ⟨vs, e2, h⟩ := odsK_some h
        rcases fnOf_some h with ⟨fid, caps, rfl, h2⟩ | ⟨b, rfl, h2⟩
        · rw [vvK_eq] at h2
          have h3 := dferK_some h2
          rw [ptK_eq] at h3
          obtain ⟨s1, s2⟩ := next hT (Jr.refl T) h3 fun _ ho => ho
          exact ⟨VOps.dfr hrn hw e1 e2 s1, s2⟩
        · cases h2
      · rw [ptK_eq] at h; exact sk hw h
    | rcv d g =>
      rcases wantK_some (show wantK g E _ _ = some ans from h) with ⟨hw, h⟩ | ⟨hw, h⟩
      · cases h
      · exact sk hw h
    | bad d g =>
      rcases wantK_some (show wantK g E _ _ = some ans from h) with ⟨hw, h⟩ | ⟨hw, h⟩
      · cases h
      · rw [ptK_eq] at h; exact sk hw h
end
end Go.Wm
