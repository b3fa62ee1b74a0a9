/- Calls that were run before: what they came to is taken as it stands. So a long run is cut into pieces. -/
import Derived.Test.YtbcaceeiehjplacGreatDoorWmX
namespace Go.Wm
set_option linter.unusedVariables false
set_option linter.unusedSimpArgs false

structure Cut where
  f : Nat
  args : List VV
  T : Tr
  v : VV
  T2 : Tr
/-- the first says all that the second says -/
def blkW : Blk → Blk → Bool
  | _, .dead => true
  | a, b => blkE a b
def wkB : Tree Blk → Tree Blk → Bool
  | .e, .e => true
  | .n a l r, .n b m s => blkW a b && (wkB l m && wkB r s)
  | _, _ => false
def wkT (T T' : Tr) : Bool := Nat.beq T.n T'.n && wkB T.t T'.t
noncomputable def allJ (n : Nat) (j : List Nat) : List Nat := Nat.rec (motive := fun _ => List Nat) j (fun m ih => m :: ih) n
noncomputable def hit (c : Cut) (f : FuncId) (args : List VV) (T : Tr) : Bool := Nat.beq f c.f && (listE (vvE 50) args c.args && (wkT T c.T && Nat.ble T.n c.T2.n))
noncomputable def ovr (cs : List Cut) (cl : CallK) : CallK := fun f args T k =>
  List.rec (motive := fun _ => Option Ans) (cl f args T k) (fun c _ ih => Bool.rec ih (k c.v ⟨c.T2.n, c.T2.t, allJ c.T2.n T.j⟩) (hit c f args T)) cs
noncomputable def machO (cs : List Cut) (TT : Tree FRow) (n : Nat) (d : Nat) : Mach :=
  Nat.rec (motive := fun _ => Mach) ⟨fun _ _ _ _ => none, fun _ _ _ _ => none, fun _ _ _ _ => none⟩ (fun _ ih => ⟨ovr cs (m_call TT n ih), m_yield n ih, m_defer TT n ih⟩) d
/-- the piece: from what stands at the cut, to what is to stand behind it -/
noncomputable def piece (cs : List Cut) (TT : Tree FRow) (n d : Nat) (c : Cut) : Option Ans :=
  (Nat.rec (motive := fun _ => Option Ans) none (fun d _ => m_call TT n (machO cs TT n d) c.f c.args c.T fun v T => Bool.rec none (some []) (and (vvE 50 v c.v) (wkT T c.T2))) d)
def CutOk (P : Program) (c : Cut) : Prop := ∀ H, TRep c.T H → ∃ H2, TRep c.T2 H2 ∧ FnV P c.f c.args H fun v H' => v = c.v ∧ H' = H2

theorem blkW_ok {a b : Blk} (h : blkW a b = true) : b = .dead ∨ b = a := by
  cases b with
  | dead => exact .inl rfl
  | row t m es => exact .inr (blkE_eq (show blkE a (.row t m es) = true by cases a <;> exact h)).symm
  | obj o => exact .inr (blkE_eq (show blkE a (.obj o) = true by cases a <;> exact h)).symm
theorem wkB_ok : ∀ {t t' : Tree Blk}, wkB t t' = true → ∀ i, treeG t' i = treeG t i ∨ (treeG t' i = some .dead ∧ ∃ b, treeG t i = some b)
  | .e, .e, _, i => .inl rfl
  | .n a l r, .n b m s, h, i => by
    simp only [wkB, Bool.and_eq_true] at h
    obtain ⟨h1, h2, h3⟩ := h
    rw [treeG_n, treeG_n]
    by_cases h0 : i = 0
    · rw [if_pos h0, if_pos h0]
      rcases blkW_ok h1 with rfl | rfl
      · exact .inr ⟨rfl, _, rfl⟩
      · exact .inl rfl
    · rw [if_neg h0, if_neg h0]
      by_cases h1 : i % 2 = 1
      · rw [if_pos h1, if_pos h1]; exact wkB_ok h2 _
      · rw [if_neg h1, if_neg h1]; exact wkB_ok h3 _
  | .e, .n _ _ _, h, _ => by cases h
  | .n _ _ _, .e, h, _ => by cases h
theorem wkT_ok {T T' : Tr} {H : Hp} (h : wkT T T' = true) (hT : TRep T H) : ∃ H', TRep T' H' ∧ Less H' H := by
  simp only [wkT, Bool.and_eq_true] at h
  obtain ⟨h1, h2⟩ := h
  have hn : T.n = T'.n := Nat.eq_of_beq_eq_true h1
  have g : ∀ i, treeG T'.t i = H[i]? ∨ (treeG T'.t i = some .dead ∧ ∃ b, H[i]? = some b) := fun i => by
    rcases wkB_ok h2 i with h | ⟨h, b, hb⟩
    · exact .inl (h.trans (hT.g i))
    · exact .inr ⟨h, b, (hT.g i).symm.trans hb⟩
  refine ⟨(List.range H.length).map fun i => (treeG T'.t i).getD .dead, ⟨by simp [← hn, hT.n], fun i => ?_⟩, by simp, fun i b hb => ?_⟩
  · rw [List.getElem?_map]
    by_cases hi : i < H.length
    · rw [List.getElem?_range hi]
      rcases g i with h | ⟨h, _⟩
      · simp only [Option.map_some, h, List.getElem?_eq_getElem hi, Option.getD_some]
      · simp only [Option.map_some, h, Option.getD_some]
    · rw [List.getElem?_eq_none (by simp; omega)]
      rcases g i with h | ⟨h, b, hb⟩
      · rw [h, List.getElem?_eq_none (by omega)]; rfl
      · rw [List.getElem?_eq_none (by omega)] at hb; cases hb
  · rw [List.getElem?_map] at hb
    by_cases hi : i < H.length
    · rw [List.getElem?_range hi] at hb
      simp only [Option.map_some, Option.some.injEq] at hb
      rcases g i with h | ⟨h, b', hb'⟩
      · rw [h, List.getElem?_eq_getElem hi] at hb
        simp only [Option.getD_some] at hb
        exact .inr (by rw [List.getElem?_eq_getElem hi, hb])
      · rw [h] at hb; exact .inl hb.symm
    · rw [List.getElem?_eq_none (by simp; omega)] at hb; cases hb

theorem RowFOk.of {P : Program} {r : FRow} {fn : Func} {ks : List Nat} (h1 : P.funcs[r.f]? = some fn) (h2 : (fn.name == "runtime.NumGoroutine") = false) (h3 : fn.ntmps = r.n) (h4 : Nat.ble r.n dslot = true)
    (h5 : (fn.body.bind (compC P r.n fun i => ks.getD i 0)) = some (strip r.vc)) (h6 : compR P fn.results.toList = some r.rs) : RowFOk P r := by
  cases hb : fn.body with
  | none => rw [hb] at h5; cases h5
  | some c => rw [hb] at h5; exact ⟨fn, c, _, h1, h2, hb, by rw [h3]; exact h5, h6, h3, by rw [h3]; exact Nat.le_of_ble_eq_true h4⟩
theorem RowFOk.of1 {P : Program} {r : FRow} {fn : Func} {ks : List Nat} (h : (P.funcs[r.f]?, (fn.name == "runtime.NumGoroutine"), fn.ntmps, Nat.ble r.n dslot, fn.body.bind (compC P r.n fun i => ks.getD i 0), compR P fn.results.toList) = (some fn, false, r.n, true, some (strip r.vc), some r.rs)) : RowFOk P r := by
  simp only [Prod.mk.injEq] at h
  exact RowFOk.of h.1 h.2.1 h.2.2.1 h.2.2.2.1 h.2.2.2.2.1 h.2.2.2.2.2
def badRow : FRow := ⟨0, 0, .bad, []⟩
/-- what the regions of a row keep, by their numbers -/
def ksC : VC → Code → List (Nat × Nat)
  | .reg _ k, .region id _ _ | .dreg _ _ k, .region id _ _ => [(id, k)]
  | .seq x y, .seq a b | .cond _ x y, .cond (.tmp _) a b => ksC x a ++ ksC y b
  | x, .cond (.const (.bool true)) a _ => ksC x a
  | x, .cond (.const (.bool false)) _ b => ksC x b
  | .block _ x, .block _ a | .loop x, .loop a | .scope x, .scope a => ksC x a
  | .rfunc _ _ x y, .rangeFunc _ _ a b => ksC x a ++ ksC y b
  | _, _ => []
def kOf : List (Nat × Nat) → Nat → Nat
  | [], _ => 0
  | (i, k) :: l, j => bif Nat.beq i j then k else kOf l j
theorem RowFOk.of2 {P : Program} {r : FRow} {fn : Func} (h : (P.funcs[r.f]?, (fn.name == "runtime.NumGoroutine"), fn.ntmps, Nat.ble r.n dslot, fn.body.bind (fun c => compC P r.n (kOf (ksC (strip r.vc) c)) c), compR P fn.results.toList) = (some fn, false, r.n, true, some (strip r.vc), some r.rs)) : RowFOk P r := by
  simp only [Prod.mk.injEq] at h
  obtain ⟨h1, h2, h3, h4, h5, h6⟩ := h
  obtain ⟨c, h7, h8⟩ := Option.bind_eq_some_iff.1 h5
  exact ⟨fn, c, _, h1, h2, h7, by rw [h3]; exact h8, h6, h3, by rw [h3]; exact Nat.le_of_ble_eq_true h4⟩
def ROk (P : Program) (r : FRow) : Prop := r.vc = .bad ∨ RowFOk P r
theorem TabOk.of {P : Program} {TT : Tree FRow} (h : TAll (ROk P) TT) : TabOk P TT := fun i r e => h.get i r e

section
variable {P : Program}
theorem FnV.less {f : FuncId} {args : List VV} {H Hc : Hp} {R : VV → Hp → Prop} (hl : Less Hc H) (h : FnV P f args Hc R) : FnV P f args H R :=
  ⟨h.1, fun σ B w vs h1 h2 => h.2 σ B w vs (HRel.less h1 hl) h2⟩
theorem FnV.lessPost {f : FuncId} {args : List VV} {H : Hp} {R R' : VV → Hp → Prop} (h : FnV P f args H R) (hr : ∀ r H', R r H' → ∃ H2, Less H2 H' ∧ R' r H2) : FnV P f args H R' := by
  refine ⟨h.1, fun σ B w vs h1 h2 => (h.2 σ B w vs h1 h2).mono fun e w' hq => ?_⟩
  obtain ⟨r, v, H', τ, q1, q2, q3, q4, q5⟩ := hq
  obtain ⟨H2, s1, s2⟩ := hr _ _ q3
  exact ⟨r, v, H2, τ, q1, q2, s2, q4, q5.less s1⟩
theorem mem_allJ {n : Nat} {j : List Nat} {i : Nat} : i ∈ allJ n j ↔ i < n ∨ i ∈ j := by
  induction n with
  | zero => exact ⟨.inr, fun h => h.resolve_left (Nat.not_lt_zero _)⟩
  | succ n ih =>
    show i ∈ n :: allJ n j ↔ _
    rw [List.mem_cons, ih]
    constructor
    · rintro (h | h | h)
      · left; omega
      · left; omega
      · right; exact h
    · rintro (h | h)
      · rcases Nat.lt_or_ge i n with h' | h'
        · exact .inr (.inl h')
        · left; omega
      · exact .inr (.inr h)
theorem brec_true {α : Type} {b : Bool} {a : α} (h : Bool.rec (motive := fun _ => Option α) none (some a) b = some a) : b = true := by cases b <;> first | rfl | cases h

theorem ovr_ok {cs : List Cut} {cl : CallK} (hc : ∀ c ∈ cs, CutOk P c) (h : CallOk P cl) : CallOk P (ovr cs cl) := by
  intro f args T H k ans hT hr
  induction cs with
  | nil => exact h f args T H k ans hT hr
  | cons c cs ih =>
    have e : Bool.rec (motive := fun _ => Option Ans) (ovr cs cl f args T k) (k c.v ⟨c.T2.n, c.T2.t, allJ c.T2.n T.j⟩) (hit c f args T) = some ans := hr
    cases hh : hit c f args T with
    | false => rw [hh] at e; exact ih (fun c hm => hc c (List.mem_cons_of_mem _ hm)) e
    | true =>
      rw [hh] at e
      simp only [hit, Bool.and_eq_true] at hh
      obtain ⟨h1, h2, h3, h4⟩ := hh
      have hf : f = c.f := Nat.eq_of_beq_eq_true h1
      have ha : args = c.args := listE_eq (vvE_eq 50) h2
      subst hf ha
      obtain ⟨Hc, q1, q2⟩ := wkT_ok h3 hT
      obtain ⟨H2, s1, s2⟩ := hc c List.mem_cons_self Hc q1
      have hgo : AfV T k ans c.v H2 := by
        refine ⟨⟨c.T2.n, c.T2.t, allJ c.T2.n T.j⟩, ans, ⟨s1.n, s1.g⟩, fun i hi => ?_, e, fun o ho => ho⟩
        have hi : i ∉ allJ c.T2.n T.j := hi
        rw [mem_allJ, not_or] at hi
        refine ⟨hi.2, ?_⟩
        show treeG c.T2.t i = treeG T.t i
        have hn : T.n ≤ c.T2.n := Nat.le_of_ble_eq_true h4
        rw [s1.g, hT.g, List.getElem?_eq_none (by rw [← s1.n]; omega), List.getElem?_eq_none (by rw [← hT.n]; omega)]
      refine ⟨(s2.less q2).mono fun v H' ⟨e1, e2⟩ => ?_, c.v, H2, hgo⟩
      subst e1 e2
      exact hgo
variable {TT : Tree FRow} {n : Nat}
theorem machO_ok (hm : P.follows .mixedOrders = true) (ht : TabOk P TT) {cs : List Cut} (hc : ∀ c ∈ cs, CutOk P c) : ∀ d, MachOk P (machO cs TT n d)
  | 0 => ⟨fun _ _ _ _ _ _ _ h => (by cases h), fun _ _ _ _ _ _ _ h => (by cases h), fun _ _ _ _ _ _ _ h => (by cases h)⟩
  | d + 1 =>
    have ih := machO_ok hm ht hc d
    ⟨ovr_ok hc (m_call_ok hm ht ih.c ih.y ih.d), m_yield_ok hm ih.c ih.y, m_defer_ok hm ht ih.c ih.y⟩
theorem cut_ok (hm : P.follows .mixedOrders = true) (ht : TabOk P TT) {cs : List Cut} (hc : ∀ c ∈ cs, CutOk P c) {d : Nat} {c : Cut} (h : piece cs TT n d c = some []) : CutOk P c := by
  intro H hT
  cases d with
  | zero => cases h
  | succ d =>
    have ih := machO_ok (n := n) hm ht hc d
    obtain ⟨h1, v, H', h2⟩ := m_call_ok (n := n) hm ht ih.c ih.y ih.d c.f c.args c.T H _ [] hT h
    have key : ∀ v H', AfV c.T (fun v T => Bool.rec (motive := fun _ => Option Ans) none (some []) (and (vvE 50 v c.v) (wkT T c.T2))) [] v H' → v = c.v ∧ ∃ H2, TRep c.T2 H2 ∧ Less H2 H' := fun v H' ⟨T', a', q1, q2, q3, q4⟩ => by
      have q3 : Bool.rec (motive := fun _ => Option Ans) none (some []) (and (vvE 50 v c.v) (wkT T' c.T2)) = some a' := q3
      cases hb : and (vvE 50 v c.v) (wkT T' c.T2) with
      | false => rw [hb] at q3; cases q3
      | true =>
        obtain ⟨b1, b2⟩ := and_true hb
        exact ⟨vvE_eq 50 _ _ b1, wkT_ok b2 q1⟩
    obtain ⟨_, H2, g1, g2⟩ := key _ _ h2
    refine ⟨H2, g1, h1.lessPost fun r H' hr => ?_⟩
    obtain ⟨e1, H3, g3, g4⟩ := key _ _ hr
    exact ⟨H3, g4, e1, TRep.uniq g3 g1⟩
end
/-! ### short words for rows -/
namespace Z
abbrev m (d s : Nat) : VI := .rd d none (.mv (.t s))
abbrev l (d s : Nat) : VI := .rd d none (.load 1 false (.t s))
abbrev f (d o s : Nat) : VI := .rd d none (.faddr o (.t s))
abbrev n (d s : Nat) : VI := .rd d none (.lens (.t s))
abbrev k (d s : Nat) : VI := .rd d none (.nilck (.t s))
abbrev e (d i s : Nat) : VI := .rd d none (.ext i (.t s))
abbrev x (d z s i : Nat) : VI := .rd d none (.ixa z (.t s) (.t i))
abbrev b (d : Nat) (op : BinOp) (s t : Nat) : VI := .rd d none (.bin op (.t s) (.t t))
abbrev i (d : Nat) (op : BinOp) (s : Nat) (v : Int) : VI := .rd d none (.bin op (.t s) (.c (.int .i64 v)))
abbrev p (d c a : Nat) (v : Bool) : VI := .rd d none (.pick (.t c) (.t a) (.c (.bool v)))
abbrev s (n x v : Nat) : VI := .ef none none (.store n (.t x) (.t v))
abbrev a (d : Nat) (y : VEf) : VI := .ef (some d) none y
abbrev c (d f : Nat) (l : List Od) : VI := .call (some d) none (.c (.fn f [])) l
abbrev u (d g : Nat) (y : VOp) : VI := .rd d (some (g, true)) y
abbrev v (d g : Nat) (y : VOp) : VI := .rd d (some (g, false)) y
abbrev w (d g s : Nat) : VI := .rd d (some (g, true)) (.mv (.t s))
abbrev r (d : Nat) (y : VOp) : VI := .rd d none y
abbrev j (k : Int) : Od := .c (.int .i64 k)
abbrev yes : Od := .c (.bool true)
abbrev no : Od := .c (.bool false)
abbrev ns : VV := .sl none 0 0
abbrev z0 : VV := .int .i64 0
end Z
end Go.Wm
