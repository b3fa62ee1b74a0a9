/- The run is sound: regions that draw their order, statements, functions. -/
import Derived.Test.YtbcaceeiehjplacGreatDoorWmU
namespace Go.Wm
set_option linter.unusedVariables false
set_option linter.unusedSimpArgs false

section
variable {P : Program} {B N : Nat} {rn : Bool} {cl : CallK} {yl : YieldK}
/-! ### regions that draw their order -/
theorem bdK_some {R : Type} {b : List (Nat × Nat)} {k : Nat → Nat → List (Nat × Nat) → Option R} {a : R} (h : bdK b k = some a) : ∃ lo hi r, b = (lo, hi) :: r ∧ k lo hi r = some a := by
  cases b with
  | nil => cases h
  | cons p r => obtain ⟨lo, hi⟩ := p; exact ⟨lo, hi, r, rfl, h⟩
/-- the trees that were kept, and the heaps for which they stand -/
def HsRep : List (Tree Blk) → List Hp → Prop
  | [], [] => True
  | t :: ts, H :: Hs => treeG t = H.g ∧ HsRep ts Hs
  | _, _ => False
theorem HsRep.length : ∀ {ts : List (Tree Blk)} {Hs : List Hp}, HsRep ts Hs → ts.length = Hs.length
  | [], [], _ => rfl
  | _ :: _, _ :: _, h => congrArg (· + 1) (HsRep.length h.2)
  | [], _ :: _, h => h.elim
  | _ :: _, [], h => h.elim
def ChkOk (HS : List Hp) : Chk → Prop
  | (y, E, v, lo, hi) => ∀ j H1, lo ≤ j → j ≤ hi → HS[j]? = some H1 → y.ev E H1.g = some v
theorem chkT_ok {y : VOp} {E : Fr} {v : VV} {lo hi : Nat} : ∀ {ts : List (Tree Blk)} {Hs : List Hp} {n : Nat}, HsRep ts Hs → n + 1 = ts.length → chkT y E v lo hi n ts = true → ChkOk Hs.reverse (y, E, v, lo, hi)
  | [], _, n, _, hn, _ => by simp at hn
  | t :: ts, [], n, h, _, _ => h.elim
  | t :: ts, H :: Hs, n, h, hn, hc => by
    obtain ⟨h1, h2⟩ := h
    unfold chkT at hc
    rw [Bool.and_eq_true] at hc
    obtain ⟨c1, c2⟩ := hc
    have hl := h2.length
    simp at hn
    intro j H1 hlo hhi hj
    rw [List.reverse_cons] at hj
    rcases Nat.lt_or_ge j Hs.length with hlt | hge
    · rw [List.getElem?_append_left (by simpa using hlt)] at hj
      cases n with
      | zero => omega
      | succ n => exact chkT_ok h2 hn.symm.symm c2 j H1 hlo hhi hj
    · rw [List.getElem?_append_right (by simpa using hge)] at hj
      have hjn : j = n := by
        rcases Nat.eq_or_lt_of_le hge with h | h
        · omega
        · rw [List.getElem?_eq_none (by simp; omega)] at hj; cases hj
      subst hjn
      have : j - Hs.reverse.length = 0 := by simp; omega
      rw [this] at hj
      simp at hj
      subst hj
      have hb : (Nat.ble lo j && Nat.ble j hi) = true := by rw [Bool.and_eq_true]; exact ⟨Nat.ble_eq_true_of_le hlo, Nat.ble_eq_true_of_le hhi⟩
      rw [hb] at c1
      simp only [cond_true] at c1
      rw [VOp.evF_eq, h1] at c1
      split at c1
      · rename_i u hu; rw [hu, vvE_eq 50 _ _ c1]
      · cases c1
theorem chkA_ok {ts : List (Tree Blk)} {Hs : List Hp} {n : Nat} (h : HsRep ts Hs) (hn : n + 1 = ts.length) : ∀ {ck : List Chk}, chkA n ts ck = true → ∀ c ∈ ck, ChkOk Hs.reverse c
  | [], _, c, hc => by cases hc
  | (y, E, v, lo, hi) :: r, hk, c, hc => by
    unfold chkA at hk
    rw [Bool.and_eq_true] at hk
    rcases List.mem_cons.1 hc with rfl | hc
    · exact chkT_ok h hn hk.1
    · exact chkA_ok h hn hk.2 c hc

theorem callF_some {f : Od} {ar : List Od} {E : Fr} {T : Tr} {k : VV → Tr → Option Ans} {ans : Ans} (h : callF cl f ar E T k = some ans) :
    ∃ fid caps vs, f.ev E = some (.fn fid caps) ∧ Od.evs E ar = some vs ∧ cl fid (vs ++ caps) T k = some ans := by
  obtain ⟨fv, h1, h2⟩ := odK_some (show odK f E _ = some ans from h)
  obtain ⟨vs, h3, h4⟩ := odsK_some h2
  rcases fnOf_some h4 with ⟨g, l, rfl, h5⟩ | ⟨b, rfl, h5⟩
  · rw [appK_eq] at h5; exact ⟨g, l, vs, h1, h3, h5⟩
  · cases h5
theorem dcall_some {f : Od} {ar : List Od} {E : Fr} {T : Tr} {H : Hp} {k : VV → Tr → Option Ans} {ans : Ans} (hc : CallOk P cl) (hy : YldOk P yl) (hT : TRep T H) (h : dcall cl yl f ar E T k = some ans) :
    ∃ fid caps vs r T' H', f.ev E = some (.fn fid caps) ∧ Od.evs E ar = some vs ∧ FnV P fid (vs ++ caps) H (fun r2 H2 => r2 = r ∧ H2 = H') ∧ TRep T' H' ∧ Jr T T' ∧ k r T' = some ans := by
  obtain ⟨outs, h1, h2⟩ := obK_some (show obK (callF cl f ar E T _) _ = some ans from h)
  split at h2
  case h_2 => cases h2
  rename_i e0 s0 r T'
  obtain ⟨fid, caps, vs, e1, e2, e3⟩ := callF_some h1
  · obtain ⟨q1, v, H', T1, a', q2, q3, q4, q5⟩ := hc _ _ T H _ _ hT e3
    have key : ∀ {v : VV} {T1 : Tr} {a' : Ans}, some [((VE.normal, [(0, v)], T1) : Out)] = some a' → (∀ o ∈ a', o ∈ [((e0, [(s0, r)], T') : Out)]) → v = r ∧ T1 = T' := fun {v T1 a'} g1 g2 => by
      have : a' = [(.normal, [(0, v)], T1)] := (Option.some.inj g1).symm
      subst this
      have := g2 _ (List.mem_singleton.2 rfl)
      simp at this
      exact ⟨this.2.1.2, this.2.2⟩
    obtain ⟨rfl, rfl⟩ := key q4 q5
    refine ⟨fid, caps, vs, v, T1, H', e1, e2, q1.mono fun r2 H2 ⟨T2, a2, t1, t2, t3, t4⟩ => ?_, q2, q3, h2⟩
    obtain ⟨rfl, rfl⟩ := key t3 t4
    exact ⟨rfl, t1.uniq q2⟩

theorem rev_at {HS nw : List Hp} {H : Hp} {m : Nat} (hl : HS.length = m + 1) (hh : HS.head? = some H) : (nw ++ HS).reverse[m]? = some H := by
  cases HS with
  | nil => simp at hl
  | cons x r =>
    simp at hh hl
    subst hh
    rw [List.reverse_append, List.reverse_cons, List.append_assoc, List.getElem?_append_right (by simp; omega)]
    simp [hl]

theorem runXK_ok (hc : CallOk P cl) (hy : YldOk P yl) : ∀ (l : List VI) (b : List (Nat × Nat)) (m : Nat) (E : Fr) (T : Tr) (H : Hp) (hs : List (Tree Blk)) (HS : List Hp) (ck : List Chk) (k : Fr → Tr → List (Tree Blk) → List Chk → Option Ans) (ans : Ans),
    runXK l cl yl b m E T hs ck k = some ans → TRep T H → HsRep hs HS → HS.length = m + 1 → HS.head? = some H →
    ∃ E' T' H' hs' HS' nw ck', k E' T' hs' ck' = some ans ∧ TRep T' H' ∧ Jr T T' ∧ HsRep hs' HS' ∧ HS' = nw ++ HS ∧ (∀ c ∈ ck, c ∈ ck') ∧ ((∀ c ∈ ck', ChkOk HS'.reverse c) → VX P HS'.reverse l b m E H fun E2 H2 => E2 = E' ∧ H2 = H')
  | [], b, m, E, T, H, hs, HS, ck, k, ans, h, hT, hr, hl, hh => ⟨E, T, H, hs, HS, [], ck, h, hT, Jr.refl T, hr, rfl, fun _ h => h, fun _ => ⟨rfl, rfl⟩⟩
  | x :: l, b, m, E, T, H, hs, HS, ck, k, ans, h, hT, hr, hl, hh => by
    have h : xstepK x (runXK l) cl yl b m E T hs ck k = some ans := h
    -- what is passed over
    have sk0 : ∀ {lo hi r}, b = (lo, hi) :: r → x.isEf = false → want E x.gd = some false → runXK l cl yl r m (E.pt x.ds (.tup [])) T hs ck k = some ans → ∃ E' T' H' hs' HS' nw ck', k E' T' hs' ck' = some ans ∧ TRep T' H' ∧ Jr T T' ∧ HsRep hs' HS' ∧ HS' = nw ++ HS ∧ (∀ c ∈ ck, c ∈ ck') ∧ ((∀ c ∈ ck', ChkOk HS'.reverse c) → VX P HS'.reverse (x :: l) b m E H fun E2 H2 => E2 = E' ∧ H2 = H') := fun {lo hi r} hb hx hw h => by
      obtain ⟨E', T', H', hs', HS', nw, ck', q1, q2, q3, q4, q5, q6, q7⟩ := runXK_ok hc hy l r m _ T H hs HS ck k ans h hT hr hl hh
      exact ⟨E', T', H', hs', HS', nw, ck', q1, q2, q3, q4, q5, q6, fun hck => .inl ⟨hw, fun e => (by rw [hx] at e; cases e), (by rw [hb]; unfold VI.next; rw [hx]; exact q7 hck)⟩⟩
    -- an effect
    have ef : ∀ {lo hi r v T1 H1}, b = (lo, hi) :: r → x.isEf = true → want E x.gd = some true → TRep T1 H1 → Jr T T1 → (∀ HS' : List Hp, HS'[m + 1]? = some H1 → Does P HS' lo hi m x E H v H1) → runXK l cl yl r (m + 1) (E.pt x.ds v) T1 (T1.t :: hs) ck k = some ans →
        ∃ E' T' H' hs' HS' nw ck', k E' T' hs' ck' = some ans ∧ TRep T' H' ∧ Jr T T' ∧ HsRep hs' HS' ∧ HS' = nw ++ HS ∧ (∀ c ∈ ck, c ∈ ck') ∧ ((∀ c ∈ ck', ChkOk HS'.reverse c) → VX P HS'.reverse (x :: l) b m E H fun E2 H2 => E2 = E' ∧ H2 = H') := fun {lo hi r v T1 H1} hb hx hw g1 g2 g3 h => by
      obtain ⟨E', T', H', hs', HS', nw, ck', q1, q2, q3, q4, q5, q6, q7⟩ := runXK_ok hc hy l r (m + 1) _ T1 H1 (T1.t :: hs) (H1 :: HS) ck k ans h g1 ⟨g1.fn, hr⟩ (by simp [hl]) rfl
      refine ⟨E', T', H', hs', HS', nw ++ [H1], ck', q1, q2, g2.trans q3, q4, by rw [q5]; simp, q6, fun hck => .inr ⟨hw, v, H1, ?_, ?_⟩⟩
      · rw [hb]; exact g3 _ (by rw [q5]; exact rev_at (by simp [hl]) rfl)
      · rw [hb]; unfold VI.next; rw [hx]; exact q7 hck
    have efs : ∀ {lo hi r}, b = (lo, hi) :: r → x.isEf = true → want E x.gd = some false → runXK l cl yl r (m + 1) (E.pt x.ds (.tup [])) T (T.t :: hs) ck k = some ans →
        ∃ E' T' H' hs' HS' nw ck', k E' T' hs' ck' = some ans ∧ TRep T' H' ∧ Jr T T' ∧ HsRep hs' HS' ∧ HS' = nw ++ HS ∧ (∀ c ∈ ck, c ∈ ck') ∧ ((∀ c ∈ ck', ChkOk HS'.reverse c) → VX P HS'.reverse (x :: l) b m E H fun E2 H2 => E2 = E' ∧ H2 = H') := fun {lo hi r} hb hx hw h => by
      obtain ⟨E', T', H', hs', HS', nw, ck', q1, q2, q3, q4, q5, q6, q7⟩ := runXK_ok hc hy l r (m + 1) _ T H (T.t :: hs) (H :: HS) ck k ans h hT ⟨hT.fn, hr⟩ (by simp [hl]) rfl
      refine ⟨E', T', H', hs', HS', nw ++ [H], ck', q1, q2, q3, q4, by rw [q5]; simp, q6, fun hck => .inl ⟨hw, fun _ => ?_, ?_⟩⟩
      · rw [q5]; exact rev_at (by simp [hl]) rfl
      · rw [hb]; unfold VI.next; rw [hx]; exact q7 hck
    cases x with
    | rd d g y =>
      have h : x_rd d g y (runXK l) cl yl b m E T hs ck k = some ans := h
      unfold x_rd at h
      obtain ⟨lo, hi, r, hb, h⟩ := bdK_some h
      rcases wantK_some h with ⟨hw, h⟩ | ⟨hw, h⟩
      · obtain ⟨v, e1, h⟩ := rdK_some h
        rw [hT.fn] at e1
        have step : ∀ ck2, (∀ c ∈ ck, c ∈ ck2) → runXK l cl yl r m ((d, v) :: E) T hs ck2 k = some ans → (∀ HS' nw, HS' = nw ++ HS → (∀ c ∈ ck2, ChkOk HS'.reverse c) → ∀ j H1, lo ≤ j → j ≤ hi → HS'.reverse[j]? = some H1 → y.ev E H1.g = some v) →
            ∃ E' T' H' hs' HS' nw ck', k E' T' hs' ck' = some ans ∧ TRep T' H' ∧ Jr T T' ∧ HsRep hs' HS' ∧ HS' = nw ++ HS ∧ (∀ c ∈ ck, c ∈ ck') ∧ ((∀ c ∈ ck', ChkOk HS'.reverse c) → VX P HS'.reverse (.rd d g y :: l) b m E H fun E2 H2 => E2 = E' ∧ H2 = H') := fun ck2 hsub h hck2 => by
          obtain ⟨E', T', H', hs', HS', nw, ck', q1, q2, q3, q4, q5, q6, q7⟩ := runXK_ok hc hy l r m _ T H hs HS ck2 k ans h hT hr hl hh
          refine ⟨E', T', H', hs', HS', nw, ck', q1, q2, q3, q4, q5, fun c hc => q6 c (hsub c hc), fun hck => .inr ⟨hw, v, H, ⟨rfl, ?_⟩, ?_⟩⟩
          · rw [hb]; exact hck2 HS' nw q5 fun c hc => hck c (q6 c hc)
          · rw [hb]; exact q7 hck
        cases hbd : and (Nat.beq lo m) (Nat.beq hi m) with
        | false =>
          rw [hbd] at h
          exact step ((y, E, v, lo, hi) :: ck) (fun c hc => List.mem_cons_of_mem _ hc) h fun HS' nw _ hck => hck _ List.mem_cons_self
        | true =>
          rw [hbd] at h
          obtain ⟨b1, b2⟩ := and_true hbd
          have b1 := Nat.eq_of_beq_eq_true b1
          have b2 := Nat.eq_of_beq_eq_true b2
          refine step ck (fun _ h => h) h fun HS' nw hHS _ j H1 h1 h2 h3 => ?_
          have : j = m := by omega
          subst this
          rw [hHS, rev_at hl hh] at h3
          cases h3
          exact e1
      · exact sk0 hb rfl hw h
    | ef d g y =>
      have h : x_ef d g y (runXK l) cl yl b m E T hs ck k = some ans := h
      unfold x_ef at h
      obtain ⟨lo, hi, r, hb, h⟩ := bdK_some h
      rcases wantK_some h with ⟨hw, h⟩ | ⟨hw, h⟩
      · rw [trK_eq] at h
        obtain ⟨v, us, e1, h⟩ := efK_some h
        rw [hT.fn, hT.n] at e1
        obtain ⟨T1, r1, r2, h⟩ := upK_some h hT
        rw [ptK_eq, natK_eq, trK_eq] at h
        exact ef hb rfl hw r1 r2 (fun HS' hq => ⟨⟨us, e1, rfl⟩, hq⟩) h
      · rw [ptK_eq, natK_eq, trK_eq] at h
        exact efs hb rfl hw h
    | call d g f ar =>
      have h : x_call d g f ar (runXK l) cl yl b m E T hs ck k = some ans := h
      unfold x_call at h
      obtain ⟨lo, hi, r, hb, h⟩ := bdK_some h
      rcases wantK_some h with ⟨hw, h⟩ | ⟨hw, h⟩
      · obtain ⟨fid, caps, vs, v, T1, H1, e1, e2, e3, r1, r2, h⟩ := dcall_some hc hy hT h
        rw [ptK_eq, natK_eq, trK_eq] at h
        exact ef hb rfl hw r1 r2 (fun HS' hq => ⟨⟨fid, caps, vs, e1, e2, e3⟩, hq⟩) h
      · rw [ptK_eq, natK_eq, trK_eq] at h
        exact efs hb rfl hw h
    | nx d g y =>
      have h : x_no (some d) g (runXK l) cl yl b m E T hs ck k = some ans := h
      unfold x_no at h
      obtain ⟨lo, hi, r, hb, h⟩ := bdK_some h
      rcases wantK_some h with ⟨hw, h⟩ | ⟨hw, h⟩
      · cases h
      · rw [ptK_eq] at h; exact sk0 hb rfl hw h
    | dfr d g f ar =>
      have h : x_no d g (runXK l) cl yl b m E T hs ck k = some ans := h
      unfold x_no at h
      obtain ⟨lo, hi, r, hb, h⟩ := bdK_some h
      rcases wantK_some h with ⟨hw, h⟩ | ⟨hw, h⟩
      · cases h
      · rw [ptK_eq] at h; exact sk0 hb rfl hw h
    | rcv d g =>
      have h : x_no (some d) g (runXK l) cl yl b m E T hs ck k = some ans := h
      unfold x_no at h
      obtain ⟨lo, hi, r, hb, h⟩ := bdK_some h
      rcases wantK_some h with ⟨hw, h⟩ | ⟨hw, h⟩
      · cases h
      · rw [ptK_eq] at h; exact sk0 hb rfl hw h
    | bad d g =>
      have h : x_no d g (runXK l) cl yl b m E T hs ck k = some ans := h
      unfold x_no at h
      obtain ⟨lo, hi, r, hb, h⟩ := bdK_some h
      rcases wantK_some h with ⟨hw, h⟩ | ⟨hw, h⟩
      · cases h
      · rw [ptK_eq] at h; exact sk0 hb rfl hw h
end
end Go.Wm
