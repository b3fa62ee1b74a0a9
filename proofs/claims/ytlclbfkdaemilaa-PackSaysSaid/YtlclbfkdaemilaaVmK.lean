/- A region that draws its order: one walk in the text's order, every order served. -/
import Derived.Test.YtlclbfkdaemilaaVmI
namespace Go.Vm
set_option linter.unusedSimpArgs false
set_option linter.unusedVariables false
open Go.RowKit

/-! ### what an operation looks at -/
def Od.uses : Od → List Nat
  | .t s => [s]
  | .c _ => []
def usesL : List Od → List Nat
  | [] => []
  | x :: l => x.uses ++ usesL l
def usesO : Option Od → List Nat
  | none => []
  | some x => x.uses
def usesP : List (Nat × Nat × Od) → List Nat
  | [] => []
  | (_, _, x) :: l => x.uses ++ usesP l
def usesR : List (Nat × Od) → List Nat
  | [] => []
  | (_, x) :: l => x.uses ++ usesR l
def VOp.uses : VOp → List Nat
  | .mv x => x.uses
  | .pick c a b => c.uses ++ (a.uses ++ b.uses)
  | .load _ _ x => x.uses
  | .nilck x => x.uses
  | .bin _ x y => x.uses ++ y.uses
  | .sh _ x y => x.uses ++ y.uses
  | .beq _ x y => x.uses ++ y.uses
  | .not x => x.uses
  | .conv _ x => x.uses
  | .mkfn _ l => usesL l
  | .faddr _ x => x.uses
  | .fld _ _ _ x => x.uses
  | .ixa _ x y => x.uses ++ y.uses
  | .ixar _ _ x y => x.uses ++ y.uses
  | .lens x => x.uses
  | .lent x => x.uses
  | .min2 x y => x.uses ++ y.uses
  | .max2 x y => x.uses ++ y.uses
  | .ext _ x => x.uses
  | .build _ ps => usesP ps
  | .slc _ x a b c => x.uses ++ (usesO a ++ (usesO b ++ usesO c))
  | .slstr x a b => x.uses ++ (usesO a ++ usesO b)
  | .ixs x y => x.uses ++ y.uses
  | .aeq _ _ x y => x.uses ++ y.uses
  | .lkp _ _ _ x y => x.uses ++ y.uses
  | .ent x => x.uses
def VEf.uses : VEf → List Nat
  | .store _ x y => x.uses ++ y.uses
  | .alloc _ _ => []
  | .box _ x => x.uses
  | .mkrow _ _ _ ps => usesR ps
  | .mksl _ _ _ x y => x.uses ++ y.uses
  | .app _ _ _ x y => x.uses ++ y.uses
  | .mkmap => []
  | .mset _ x y z => x.uses ++ (y.uses ++ z.uses)
  | .rng x => x.uses
def usesG : Option (Nat × Bool) → List Nat
  | none => []
  | some (s, _) => [s]
def VI.gd : VI → Option (Nat × Bool)
  | .rd _ g _ | .ef _ g _ | .call _ g _ _ | .nx _ g _ => g
def VI.ds : VI → Option Nat
  | .rd d _ _ | .nx d _ _ => some d
  | .ef d _ _ | .call d _ _ _ => d
def VI.isEf : VI → Bool
  | .ef _ _ _ => true
  | _ => false
def VI.uses : VI → List Nat
  | .rd _ g x => usesG g ++ x.uses
  | .ef _ g x => usesG g ++ x.uses
  | .call _ g f l => usesG g ++ (f.uses ++ usesL l)
  | .nx _ g x => usesG g ++ x.uses

abbrev Alike (E E' : Fr) (l : List Nat) : Prop := ∀ s ∈ l, E.get s = E'.get s
section
variable {E E' : Fr}
theorem Alike.l {a b : List Nat} (h : Alike E E' (a ++ b)) : Alike E E' a := fun s hs => h s (List.mem_append_left _ hs)
theorem Alike.r {a b : List Nat} (h : Alike E E' (a ++ b)) : Alike E E' b := fun s hs => h s (List.mem_append_right _ hs)
theorem Od.ev_alike {x : Od} (h : Alike E E' x.uses) : x.ev E = x.ev E' := by
  cases x with
  | t s => exact h s (by simp [Od.uses])
  | c v => rfl
theorem evs_alike : ∀ {l : List Od}, Alike E E' (usesL l) → Od.evs E l = Od.evs E' l
  | [], _ => rfl
  | x :: l, h => by simp only [Od.evs, Od.ev_alike h.l, evs_alike h.r]
theorem oev_alike {d : Int} : ∀ {x : Option Od}, Alike E E' (usesO x) → Od.oev E d x = Od.oev E' d x
  | none, _ => rfl
  | some x, h => by simp only [Od.oev, Od.ev_alike (x := x) h]
theorem fillVV_alike : ∀ {l : List (Nat × Nat × Od)} {cs : List VV}, Alike E E' (usesP l) → fillVV E cs l = fillVV E' cs l
  | [], _, _ => rfl
  | (o, n, x) :: l, cs, h => by
    simp only [fillVV, Od.ev_alike (x := x) h.l]
    cases x.ev E' with
    | none => rfl
    | some v => simp only [fillVV_alike (l := l) h.r]
theorem fillRows_alike {m : Nat} : ∀ {l : List (Nat × Od)} {es : List (List VV)}, Alike E E' (usesR l) → fillRows E m es l = fillRows E' m es l
  | [], _, _ => rfl
  | (i, x) :: l, es, h => by
    simp only [fillRows, Od.ev_alike (x := x) h.l]
    cases x.ev E' with
    | none => rfl
    | some v => simp only [fillRows_alike (l := l) h.r]
theorem VOp.ev_alike {H : Hp} {x : VOp} (h : Alike E E' x.uses) : x.ev E H = x.ev E' H := by
  cases x with
  | mkfn f l => simp only [VOp.ev, evs_alike (l := l) h]
  | build zs ps => simp only [VOp.ev, fillVV_alike (l := ps) h]
  | slc n x a b c => simp only [VOp.ev, Od.ev_alike (x := x) h.l, oev_alike (x := a) h.r.l, oev_alike (x := b) h.r.r.l, oev_alike (x := c) h.r.r.r]
  | slstr x a b => simp only [VOp.ev, Od.ev_alike (x := x) h.l, oev_alike (x := a) h.r.l, oev_alike (x := b) h.r.r]
  | pick c a b => simp only [VOp.ev, Od.ev_alike (x := c) h.l, Od.ev_alike (x := a) h.r.l, Od.ev_alike (x := b) h.r.r]
  | bin o x y => simp only [VOp.ev, Od.ev_alike (x := x) h.l, Od.ev_alike (x := y) h.r]
  | sh o x y => simp only [VOp.ev, Od.ev_alike (x := x) h.l, Od.ev_alike (x := y) h.r]
  | beq o x y => simp only [VOp.ev, Od.ev_alike (x := x) h.l, Od.ev_alike (x := y) h.r]
  | ixa n x y => simp only [VOp.ev, Od.ev_alike (x := x) h.l, Od.ev_alike (x := y) h.r]
  | ixar m n x y => simp only [VOp.ev, Od.ev_alike (x := x) h.l, Od.ev_alike (x := y) h.r]
  | min2 x y => simp only [VOp.ev, Od.ev_alike (x := x) h.l, Od.ev_alike (x := y) h.r]
  | max2 x y => simp only [VOp.ev, Od.ev_alike (x := x) h.l, Od.ev_alike (x := y) h.r]
  | ixs x y => simp only [VOp.ev, Od.ev_alike (x := x) h.l, Od.ev_alike (x := y) h.r]
  | aeq n k x y => simp only [VOp.ev, Od.ev_alike (x := x) h.l, Od.ev_alike (x := y) h.r]
  | mv x => simp only [VOp.ev, Od.ev_alike (x := x) h]
  | load n a x => simp only [VOp.ev, Od.ev_alike (x := x) h]
  | nilck x => simp only [VOp.ev, Od.ev_alike (x := x) h]
  | not x => simp only [VOp.ev, Od.ev_alike (x := x) h]
  | conv k x => simp only [VOp.ev, Od.ev_alike (x := x) h]
  | faddr k x => simp only [VOp.ev, Od.ev_alike (x := x) h]
  | fld a b c x => simp only [VOp.ev, Od.ev_alike (x := x) h]
  | lens x => simp only [VOp.ev, Od.ev_alike (x := x) h]
  | lent x => simp only [VOp.ev, Od.ev_alike (x := x) h]
  | ext i x => simp only [VOp.ev, Od.ev_alike (x := x) h]
  | lkp kk z o x y => simp only [VOp.ev, Od.ev_alike (x := x) h.l, Od.ev_alike (x := y) h.r]
  | ent x => simp only [VOp.ev, Od.ev_alike (x := x) h]
theorem VEf.ev_alike {H : Hp} {x : VEf} (h : Alike E E' x.uses) : x.ev E H = x.ev E' H := by
  cases x with
  | mkrow t zs m ps => simp only [VEf.ev, fillRows_alike (l := ps) h]
  | alloc t zs => rfl
  | box t x => simp only [VEf.ev, Od.ev_alike (x := x) h]
  | store n x y => simp only [VEf.ev, Od.ev_alike (x := x) h.l, Od.ev_alike (x := y) h.r]
  | mksl t b z x y => simp only [VEf.ev, Od.ev_alike (x := x) h.l, Od.ev_alike (x := y) h.r]
  | app t b z x y => simp only [VEf.ev, Od.ev_alike (x := x) h.l, Od.ev_alike (x := y) h.r]
  | mkmap => rfl
  | rng x => simp only [VEf.ev, Od.ev_alike (x := x) h]
  | mset kk x y z => simp only [VEf.ev, Od.ev_alike (x := x) h.l, Od.ev_alike (x := y) h.r.l, Od.ev_alike (x := z) h.r.r]
theorem want_alike {g : Option (Nat × Bool)} (h : Alike E E' (usesG g)) : want E g = want E' g := by
  cases g with
  | none => rfl
  | some p => obtain ⟨s, b⟩ := p; simp only [want, h s (by simp [usesG])]
end

/-! ### the walk -/
def cnt (l : List VI) (k : Nat) : Nat := (l.take k).countP VI.isEf
/-- 'hs': the heaps on the way, one behind each effect; 'lo', 'hi': how many effects may lie behind it -/
def Does (P : Program) (hs : List Hp) (lo hi m : Nat) : VI → Fr → Hp → VV → Hp → Prop
  | .rd _ _ x, E, H, v, H' => H' = H ∧ ∀ j H1, lo ≤ j → j ≤ hi → hs[j]? = some H1 → x.ev E H1 = some v
  | .ef _ _ x, E, H, v, H' => x.ev E H = some (v, H') ∧ hs[m + 1]? = some H'
  | .call _ _ f ar, E, H, v, H' => H' = H ∧ ∃ fid caps vs, f.ev E = some (.fn fid caps) ∧ Od.evs E ar = some vs ∧ ∀ j H1, lo ≤ j → j ≤ hi → hs[j]? = some H1 → FnV P fid (vs ++ caps) H1 fun r H2 => r = v ∧ H2 = H1
  | .nx _ _ _, _, _, _, _ => False
def VI.next (x : VI) (m : Nat) : Nat := if x.isEf then m + 1 else m

def VX (P : Program) (hs : List Hp) : List VI → List (Nat × Nat) → Nat → Fr → Hp → (Fr → Hp → Prop) → Prop
  | [], _, _, E, H, Q => Q E H
  | x :: l, b, m, E, H, Q => (want E x.gd = some false ∧ (x.isEf = true → hs[m + 1]? = some H) ∧ VX P hs l b.tail (x.next m) (E.pt x.ds (.tup [])) H Q) ∨
      (want E x.gd = some true ∧ ∃ v H', Does P hs (b.headD (0, 0)).1 (b.headD (0, 0)).2 m x E H v H' ∧ VX P hs l b.tail (x.next m) (E.pt x.ds v) H' Q)
theorem VX.mono {P : Program} {hs : List Hp} {Q Q' : Fr → Hp → Prop} (hq : ∀ E H, Q E H → Q' E H) : ∀ {l : List VI} {b : List (Nat × Nat)} {m : Nat} {E : Fr} {H : Hp}, VX P hs l b m E H Q → VX P hs l b m E H Q'
  | [], _, _, E, H, h => hq _ _ h
  | x :: l, b, m, E, H, h => by
    rcases h with ⟨h1, h0, h2⟩ | ⟨h1, v, H', h2, h3⟩
    · exact .inl ⟨h1, h0, VX.mono hq h2⟩
    · exact .inr ⟨h1, v, H', h2, VX.mono hq h3⟩
def StepAt (P : Program) (hs : List Hp) (lo hi m : Nat) (x : VI) (E : Fr) (H : Hp) (v : VV) (H' : Hp) : Prop :=
  (want E x.gd = some false ∧ v = .tup [] ∧ H' = H ∧ (x.isEf = true → hs[m + 1]? = some H)) ∨ (want E x.gd = some true ∧ Does P hs lo hi m x E H v H')
theorem cnt_succ (l : List VI) (k : Nat) (x : VI) (h : l[k]? = some x) : cnt l (k + 1) = x.next (cnt l k) := by
  unfold cnt
  rw [List.take_add_one, h]
  simp only [Option.toList, List.countP_append, VI.next]
  cases hx : x.isEf <;> simp [hx]
theorem VX.trace {P : Program} {hs : List Hp} {Q : Fr → Hp → Prop} : ∀ {l : List VI} {b : List (Nat × Nat)} {m : Nat} {E : Fr} {H : Hp}, VX P hs l b m E H Q →
    ∃ (v : Nat → VV) (Hs : Nat → Hp) (Es : Nat → Fr), Es 0 = E ∧ Hs 0 = H ∧ Q (Es l.length) (Hs l.length) ∧
      ∀ i x, l[i]? = some x → Es (i + 1) = (Es i).pt x.ds (v i) ∧ StepAt P hs (b.getD i (0, 0)).1 (b.getD i (0, 0)).2 (m + cnt l i) x (Es i) (Hs i) (v i) (Hs (i + 1))
  | [], b, m, E, H, h => ⟨fun _ => .undef, fun _ => H, fun _ => E, rfl, rfl, h, fun i x hx => by simp at hx⟩
  | x :: l, b, m, E, H, h => by
    have key : ∃ v0 H0, StepAt P hs (b.headD (0, 0)).1 (b.headD (0, 0)).2 m x E H v0 H0 ∧ VX P hs l b.tail (x.next m) (E.pt x.ds v0) H0 Q := by
      rcases h with ⟨h1, h0, h2⟩ | ⟨h1, v, H', h2, h3⟩
      · exact ⟨_, _, .inl ⟨h1, rfl, rfl, h0⟩, h2⟩
      · exact ⟨v, H', .inr ⟨h1, h2⟩, h3⟩
    obtain ⟨v0, H0, hs0, hx⟩ := key
    obtain ⟨v, Hs, Es, q1, q2, q3, q4⟩ := VX.trace hx
    refine ⟨fun i => match i with | 0 => v0 | i + 1 => v i, fun i => match i with | 0 => H | i + 1 => Hs i, fun i => match i with | 0 => E | i + 1 => Es i, rfl, rfl, q3, ?_⟩
    intro i y hy
    have hb : ∀ i, b.tail.getD i (0, 0) = b.getD (i + 1) (0, 0) := fun i => by cases b <;> simp [List.getD]
    have hb0 : b.headD (0, 0) = b.getD 0 (0, 0) := by cases b <;> simp [List.getD]
    cases i with
    | zero => simp at hy; subst hy; exact ⟨q1, by show StepAt P hs _ _ (m + cnt (x :: l) 0) x E H v0 (Hs 0); rw [q2, ← hb0]; exact hs0⟩
    | succ i =>
      obtain ⟨r1, r2⟩ := q4 i y (by simpa using hy)
      refine ⟨r1, ?_⟩
      rw [hb] at r2
      have hc : m + cnt (x :: l) (i + 1) = x.next m + cnt l i := by
        unfold cnt VI.next
        simp only [List.take_succ_cons, List.countP_cons]
        cases x.isEf <;> simp
        omega
      rw [hc]
      exact r2

/-! ### what the region's edges must say -/
def ancRow (acc : List (List Nat)) (es : List Edge) : List Nat :=
  match es with
  | [] => []
  | e :: r => if Region.binds .any e then e.on :: (acc.getD e.on [] ++ (ancRow acc r).filter fun j => !(acc.getD e.on []).contains j) else ancRow acc r
def ancTab : List Oper → List (List Nat) → List (List Nat)
  | [], acc => acc
  | o :: r, acc => ancTab r (acc ++ [ancRow acc o.after.toList])
/-- between how many effects each operation may come -/
def bnds (ops : Array Oper) (l : List VI) : List (Nat × Nat) :=
  let A := ancTab ops.toList []
  let es := (List.range l.length).filter fun e => match l[e]? with | some y => y.isEf | none => false
  (List.range l.length).map fun i => ((es.filter fun e => (A.getD i []).contains e).length, (es.filter fun e => !((A.getD e []).contains i) && !(decide (e = i))).length)
def okX (ops : Array Oper) (l : List VI) (b : List (Nat × Nat)) : Bool :=
  let A := ancTab ops.toList []
  let n := l.length
  (List.range n).all fun i => ((A.getD i []).all (fun j => decide (j < i)) && ((match ops[i]? with | some o => o.after.all (fun e => !Region.binds .any e || decide (e.on < i)) | none => true) && decide ((b.getD i (0, 0)).1 ≤ cnt l n))) &&
    (match l[i]? with
     | none => true
     | some x => (List.range n).all fun j => match l[j]? with
       | none => true
       | some y => (match y.ds with
           | none => true
           | some s => (decide (i = j) || !(x.ds == some s)) && (!(x.uses.contains s) || decide (i = j) || (A.getD i []).contains j || (A.getD j []).contains i)) &&
         ((!(x.isEf && y.isEf && decide (i < j)) || (A.getD j []).contains i) &&
          (!y.isEf || ((decide ((b.getD i (0, 0)).1 ≤ cnt l j) || (A.getD i []).contains j) && (decide (cnt l j < (b.getD i (0, 0)).2) || (A.getD j []).contains i || decide (i = j))))))

section
variable {ops : Array Oper} {L : Nat → Prop}
theorem ancRow_sound {acc : List (List Nat)} (hacc : ∀ i l, acc[i]? = some l → L i → ∀ j ∈ l, L j) : ∀ {es : List Edge}, (∀ e ∈ es, Region.binds .any e = true → L e.on) → ∀ j ∈ ancRow acc es, L j
  | [], _, j, hj => by simp [ancRow] at hj
  | e :: r, h, j, hj => by
    have ih := ancRow_sound hacc (es := r) fun e he => h e (by simp [he])
    unfold ancRow at hj
    split at hj
    · rename_i hb
      have he := h e (by simp) hb
      rcases List.mem_cons.1 hj with rfl | hj
      · exact he
      · rcases List.mem_append.1 hj with hj | hj
        · cases hx : acc[e.on]? with
          | none => simp [List.getD, hx] at hj
          | some l => simp [List.getD, hx] at hj; exact hacc _ _ hx he _ hj
        · exact ih j (List.mem_filter.1 hj).1
    · exact ih j hj
theorem ancTab_sound (hcl : ∀ (i : Nat) (o : Oper), ops[i]? = some o → L i → ∀ e ∈ o.after, Region.binds .any e = true → L e.on) : ∀ (os : List Oper) (acc : List (List Nat)), (∀ j, os[j]? = ops[acc.length + j]?) →
    (∀ (i : Nat) (l : List Nat), acc[i]? = some l → ∃ o : Oper, ops[i]? = some o ∧ ((∀ e ∈ o.after, Region.binds .any e = true → L e.on) → ∀ j ∈ l, L j)) →
    ∀ (i : Nat) (l : List Nat), (ancTab os acc)[i]? = some l → ∃ o : Oper, ops[i]? = some o ∧ ((∀ e ∈ o.after, Region.binds .any e = true → L e.on) → ∀ j ∈ l, L j)
  | [], acc, _, h => h
  | o :: os, acc, ho, h => by
    have h0 : ops[acc.length]? = some o := by simpa using (ho 0).symm
    refine ancTab_sound hcl os (acc ++ [ancRow acc o.after.toList]) (fun j => by have := ho (j + 1); simpa [Nat.add_assoc, Nat.add_comm 1 j] using this) ?_
    intro i l hl
    rcases Nat.lt_trichotomy i acc.length with hi | hi | hi
    · rw [List.getElem?_append_left hi] at hl
      exact h i l hl
    · subst hi
      simp at hl
      subst hl
      refine ⟨o, h0, fun hd => ancRow_sound ?_ fun e he hb => hd e (by simpa using he) hb⟩
      intro i l hl hi
      obtain ⟨o', h1, h2⟩ := h i l hl
      exact h2 (hcl i o' h1 hi)
    · rw [List.getElem?_eq_none (by simp; omega)] at hl
      cases hl
/-- a set that holds what its members wait for -/
def Shut (ops : Array Oper) (L : Nat → Prop) : Prop := ∀ (i : Nat) (o : Oper), ops[i]? = some o → L i → ∀ e ∈ o.after, Region.binds .any e = true → L e.on
theorem anc_of_ready (hcl : Shut ops L) {i : Nat} {o : Oper} (ho : ops[i]? = some o) (hd : ∀ e ∈ o.after, Region.binds .any e = true → L e.on) {j : Nat} (hj : j ∈ (ancTab ops.toList []).getD i []) : L j := by
  cases hx : (ancTab ops.toList [])[i]? with
  | none => simp [List.getD, hx] at hj
  | some l =>
    simp [List.getD, hx] at hj
    obtain ⟨o', h1, h2⟩ := ancTab_sound (L := L) hcl ops.toList [] (by simp) (by simp) i l hx
    have : o' = o := Option.some.inj (h1.symm.trans ho)
    subst this
    exact h2 hd j hj
theorem anc_of_in (hcl : Shut ops L) {i : Nat} {o : Oper} (ho : ops[i]? = some o) (hi : L i) {j : Nat} (hj : j ∈ (ancTab ops.toList []).getD i []) : L j :=
  anc_of_ready hcl ho (hcl i o ho hi) hj

theorem okX_spec {l : List VI} {b : List (Nat × Nat)} (h : okX ops l b = true) {i : Nat} (hi : i < l.length) :
    ((∀ j ∈ (ancTab ops.toList []).getD i [], j < i) ∧ (∀ o : Oper, ops[i]? = some o → ∀ e ∈ o.after, Region.binds .any e = true → e.on < i) ∧ (b.getD i (0, 0)).1 ≤ cnt l l.length) ∧ ∀ x, l[i]? = some x → ∀ j y, l[j]? = some y →
      (∀ s, y.ds = some s → (i = j ∨ x.ds ≠ some s) ∧ (s ∈ x.uses → i = j ∨ j ∈ (ancTab ops.toList []).getD i [] ∨ i ∈ (ancTab ops.toList []).getD j [])) ∧
      (x.isEf = true → y.isEf = true → i < j → i ∈ (ancTab ops.toList []).getD j []) ∧
      (y.isEf = true → ((b.getD i (0, 0)).1 ≤ cnt l j ∨ j ∈ (ancTab ops.toList []).getD i []) ∧ (cnt l j < (b.getD i (0, 0)).2 ∨ i ∈ (ancTab ops.toList []).getD j [] ∨ i = j)) := by
  unfold okX at h
  have h1 := List.all_eq_true.1 h i (List.mem_range.2 hi)
  rw [Bool.and_eq_true] at h1
  obtain ⟨h1, h2⟩ := h1
  rw [Bool.and_eq_true, Bool.and_eq_true] at h1
  refine ⟨⟨fun j hj => by simpa using List.all_eq_true.1 h1.1 j hj, fun o ho e he hb => ?_, by simpa using h1.2.2⟩, ?_⟩
  · have h3 := h1.2.1
    rw [ho] at h3
    have h4 := (Array.all_eq_true'.1 h3) e he
    simpa [hb] using h4
  intro x hx j y hy
  rw [hx] at h2
  have hj : j < l.length := (List.getElem?_eq_some_iff.1 hy).1
  have h3 := List.all_eq_true.1 h2 j (List.mem_range.2 hj)
  rw [hy] at h3
  rw [Bool.and_eq_true, Bool.and_eq_true] at h3
  obtain ⟨h3, h4, h5⟩ := h3
  refine ⟨fun s hs => ?_, fun e1 e2 e3 => ?_, fun e1 => ?_⟩
  · rw [hs] at h3
    simp only [Bool.and_eq_true, Bool.or_eq_true, decide_eq_true_eq, Bool.not_eq_true', beq_eq_false_iff_ne, List.contains_iff_mem] at h3
    refine ⟨h3.1, fun hm => ?_⟩
    rcases h3.2 with ((h5 | h5) | h5) | h5
    · exact absurd hm (by simpa using h5)
    · exact .inl h5
    · exact .inr (.inl h5)
    · exact .inr (.inr h5)
  · rw [e1, e2] at h4
    simpa [e3] using h4
  · rw [e1] at h5
    simp only [Bool.not_true, Bool.false_or, Bool.and_eq_true, Bool.or_eq_true, decide_eq_true_eq, List.contains_iff_mem] at h5
    refine ⟨h5.1, ?_⟩
    rcases h5.2 with (h | h) | h
    · exact .inl h
    · exact .inr (.inl h)
    · exact .inr (.inr h)

/-! ### the theorem -/
theorem compL_get {P : Program} {N : Nat} : ∀ {os : List Oper} {l : List VI}, compL P N ops os = some l → os.length = l.length ∧ ∀ (i : Nat) (o : Oper), os[i]? = some o → ∃ x, l[i]? = some x ∧ compI P N ops o = some x
  | [], l, h => by simp [compL] at h; subst h; simp
  | o :: os, [], h => by unfold compL at h; split at h <;> simp at h
  | o :: os, x :: l, h => by
    obtain ⟨o', os', e, h1, h2⟩ := compL_cons h
    obtain ⟨rfl, rfl⟩ := List.cons.inj e
    obtain ⟨q1, q2⟩ := compL_get h2
    refine ⟨by simp [q1], fun i p hp => ?_⟩
    cases i with
    | zero => simp at hp; subst hp; exact ⟨x, by simp, h1⟩
    | succ i => simpa using q2 i p (by simpa using hp)
theorem compI_dst {P : Program} {N : Nat} {o : Oper} {x : VI} (h : compI P N ops o = some x) : o.dst = x.ds := by
  obtain ⟨_, h⟩ := compI_inv h
  cases x <;> simp only at h
  · exact h.2.1
  · exact h.2.1
  · exact h.2.1
  · exact h.2.1

theorem wpOp_of_list {P : Program} {i : Nat} {o : Oper} (ho : ops[i]? = some o) {Q Q1 : Exit → Act → World → Prop} {K : Act → World → Prop} {a : Act} {w : World} (hn : ∀ e a w, Q1 e a w → e = .normal) (hk : ∀ a w, Q1 .normal a w → K a w)
    (h : wpList P ops Q1 [o] a w) : wpOp P ops Q i K a w := by
  unfold wpOp
  rw [ho]
  simp only
  unfold wpList at h
  split
  · rename_i hw
    rw [if_pos hw] at h
    rcases h with h | ⟨_, a', w', h⟩
    · left
      refine operWp_mono (fun a w h => hk a w h) (fun e a w h => ?_) (?_ : o.wp P a w (wpList P ops Q1 []) fun e a w => Q1 e a w ∧ e ≠ .normal)
      · exact absurd (hn _ _ _ h.1) h.2
      · unfold Oper.wp at h ⊢
        generalize (execOp a.eval o).run P w = r at *
        cases r with
        | ok n w' =>
          cases n <;> simp only [Oper.upon] at h ⊢
          case value => exact h
          case skip => exact h
          case defer => exact h
          case enter f args =>
            refine h.mono fun e w'' h => ?_
            cases e with
            | returned v => exact h
            | panicked ch => exact absurd (hn _ _ _ h) (by intro hh; cases hh)
            | outgrown => obtain ⟨a, w, h⟩ := h; exact absurd (hn _ _ _ h) (by intro hh; cases hh)
          case row => exact h
        | halt x w' => cases x <;> simp only [Oper.upon] at h ⊢; exact absurd (hn _ _ _ h) (by intro hh; cases hh)
    · exact absurd (hn _ _ _ h) (by intro hh; cases hh)
  · rename_i hw
    rw [if_neg hw] at h
    exact hk _ _ h

theorem countP_drop {p q : Nat → Bool} {i : Nat} (hp : p i = true) (hq : ∀ j, q j = true → p j = true ∧ j ≠ i) : ∀ {l : List Nat}, i ∈ l → l.countP q < l.countP p
  | [], h => by cases h
  | x :: l, h => by
    have hle : l.countP q ≤ l.countP p := List.countP_mono_left fun j _ hj => (hq j hj).1
    rw [List.countP_cons, List.countP_cons]
    by_cases hx : x = i
    · subst hx
      have : q x = false := by
        cases hqx : q x with
        | false => rfl
        | true => exact absurd rfl (hq x hqx).2
      rw [hp, this]
      simp
      omega
    · have ih := countP_drop hp hq (l := l) (by
        rcases List.mem_cons.1 h with h | h
        · exact absurd h.symm hx
        · exact h)
      cases hqx : q x with
      | false => simp; split <;> omega
      | true => rw [(hq x hqx).1]; simp; omega

abbrev Lst (listed : Array Bool) (i : Nat) : Prop := listed.getD i false = true
theorem lst_set {listed : Array Bool} {i j : Nat} (hi : i < listed.size) : Lst (listed.setIfInBounds i true) j ↔ Lst listed j ∨ j = i := by
  unfold Lst
  simp only [Array.getD_eq_getD_getElem?, Array.getElem?_setIfInBounds]
  by_cases h : i = j
  · subst h; simp [hi]
  · simp [h, Ne.symm h]

section
variable {P : Program} {B N : Nat} {l : List VI} {b : List (Nat × Nat)} {hs : List Hp} {F : Fr} {v : Nat → VV} {Hs : Nat → Hp} {Es : Nat → Fr}
/-- where the region stands, once those of 'listed' are done -/
structure XSt (ops : Array Oper) (B N : Nat) (l : List VI) (F : Fr) (v : Nat → VV) (Hs : Nat → Hp) (σ0 : Sg) (w0 : World) (listed : Array Bool) (a : Act) (w : World) (X : Fr) (σ : Sg) (k : Nat) : Prop where
  le : σ0.le σ
  fr : FRel σ N X a
  hp : HRel σ B (Hs k) w
  bl : Below B w0 w
  sz : listed.size = ops.size
  shut : Shut ops (Lst listed)
  done : ∀ j y, l[j]? = some y → Lst listed j → ∀ s, y.ds = some s → X.get s = some (v j)
  rest : ∀ s, (∀ j y, l[j]? = some y → Lst listed j → y.ds ≠ some s) → X.get s = F.get s
  kn : k ≤ l.length
  ke : ∀ j y, l[j]? = some y → y.isEf = true → (j < k ↔ Lst listed j)

theorem pt_get (E : Fr) (d : Option Nat) (u : VV) (s : Nat) : (E.pt d u).get s = if d = some s then some u else E.get s := by
  cases d with
  | none => simp [Fr.pt]
  | some d => simp only [Fr.pt, Fr.get, Option.some.injEq]

theorem lex_frame (hok : okX ops l b = true) (h0 : Es 0 = F) (ht : ∀ i x, l[i]? = some x → Es (i + 1) = (Es i).pt x.ds (v i) ∧ StepAt P hs (b.getD i (0, 0)).1 (b.getD i (0, 0)).2 (cnt l i) x (Es i) (Hs i) (v i) (Hs (i + 1))) : ∀ i, i ≤ l.length →
    (∀ j y, l[j]? = some y → j < i → ∀ s, y.ds = some s → (Es i).get s = some (v j)) ∧ (∀ s, (∀ j y, l[j]? = some y → j < i → y.ds ≠ some s) → (Es i).get s = F.get s)
  | 0, _ => ⟨fun j y _ hj => absurd hj (by omega), fun s _ => by rw [h0]⟩
  | i + 1, hi => by
    obtain ⟨q1, q2⟩ := lex_frame hok h0 ht i (by omega)
    have hx : l[i]? = some l[i] := List.getElem?_eq_getElem (by omega)
    obtain ⟨e, _⟩ := ht i _ hx
    rw [e]
    refine ⟨fun j y hy hj s hs => ?_, fun s hs => ?_⟩
    · rw [pt_get]
      by_cases hji : j = i
      · subst hji
        have : y = l[j] := Option.some.inj (hy.symm.trans hx)
        subst this
        rw [if_pos hs]
      · rw [if_neg, q1 j y hy (by omega) s hs]
        rcases ((okX_spec hok (i := i) (by omega)).2 _ hx j y hy).1 s hs with ⟨h | h, _⟩
        · exact absurd h.symm hji
        · exact h
    · rw [pt_get, if_neg (hs i _ hx (by omega)), q2 s fun j y hy hj => hs j y hy (by omega)]

theorem lex_heap (ht : ∀ i x, l[i]? = some x → Es (i + 1) = (Es i).pt x.ds (v i) ∧ StepAt P hs (b.getD i (0, 0)).1 (b.getD i (0, 0)).2 (cnt l i) x (Es i) (Hs i) (v i) (Hs (i + 1))) {i : Nat} (hi : i < l.length) (he : l[i].isEf = false) : Hs (i + 1) = Hs i := by
  obtain ⟨_, h⟩ := ht i _ (List.getElem?_eq_getElem hi)
  rcases h with ⟨_, _, h, _⟩ | ⟨_, h⟩
  · exact h
  · cases hx : l[i] <;> rw [hx] at h he
    · exact h.1
    · cases he
    · exact h.1
    · exact h.elim
theorem lex_heaps (ht : ∀ i x, l[i]? = some x → Es (i + 1) = (Es i).pt x.ds (v i) ∧ StepAt P hs (b.getD i (0, 0)).1 (b.getD i (0, 0)).2 (cnt l i) x (Es i) (Hs i) (v i) (Hs (i + 1))) {a : Nat} : ∀ (d : Nat), a + d ≤ l.length → (∀ j y, l[j]? = some y → y.isEf = true → a ≤ j → j < a + d → False) → Hs (a + d) = Hs a
  | 0, _, _ => rfl
  | d + 1, hd, h => by
    have ih := lex_heaps ht d (by omega) fun j y hy he h1 h2 => h j y hy he h1 (by omega)
    have hlt : a + d < l.length := by omega
    rw [← Nat.add_assoc, lex_heap ht hlt, ih]
    cases he : l[a + d].isEf with
    | false => rfl
    | true => exact (h (a + d) _ (List.getElem?_eq_getElem hlt) he (by omega) (by omega)).elim
theorem lex_hs (h0 : hs[0]? = some (Hs 0)) (ht : ∀ i x, l[i]? = some x → Es (i + 1) = (Es i).pt x.ds (v i) ∧ StepAt P hs (b.getD i (0, 0)).1 (b.getD i (0, 0)).2 (cnt l i) x (Es i) (Hs i) (v i) (Hs (i + 1))) : ∀ i, i ≤ l.length → hs[cnt l i]? = some (Hs i)
  | 0, _ => by simpa [cnt] using h0
  | i + 1, hi => by
    have ih := lex_hs h0 ht i (by omega)
    have hx : l[i]? = some l[i] := List.getElem?_eq_getElem (by omega)
    obtain ⟨_, h⟩ := ht i _ hx
    rw [cnt_succ l i _ hx]
    unfold VI.next
    cases he : l[i].isEf with
    | false => rw [lex_heap ht (by omega) he]; simpa using ih
    | true =>
      rcases h with ⟨_, _, h, h2⟩ | ⟨_, h⟩
      · rw [h]; simpa using h2 he
      · cases hy : l[i] <;> rw [hy] at h he
        · cases he
        · simpa using h.2
        · cases he
        · cases he
theorem cnt_le (l : List VI) (k : Nat) : cnt l k ≤ cnt l (k + 1) := by
  cases h : l[k]? with
  | none =>
    have hk : l.length ≤ k := List.getElem?_eq_none_iff.1 h
    unfold cnt
    rw [List.take_of_length_le hk, List.take_of_length_le (by omega)]
    exact Nat.le_refl _
  | some x => rw [cnt_succ l k x h]; unfold VI.next; split <;> omega
theorem cnt_below (l : List VI) (c : Nat) : ∀ k, k ≤ l.length → c < cnt l k → ∃ e y, l[e]? = some y ∧ y.isEf = true ∧ e < k ∧ cnt l e = c
  | 0, _, h => by simp [cnt] at h
  | k + 1, hk, h => by
    have hx : l[k]? = some l[k] := List.getElem?_eq_getElem (by omega)
    by_cases hc : c < cnt l k
    · obtain ⟨e, y, h1, h2, h3, h4⟩ := cnt_below l c k (by omega) hc
      exact ⟨e, y, h1, h2, by omega, h4⟩
    · rw [cnt_succ l k _ hx] at h
      unfold VI.next at h
      cases he : l[k].isEf with
      | false => rw [he] at h; simp at h; omega
      | true => rw [he] at h; simp at h; exact ⟨k, _, hx, he, by omega, by omega⟩
theorem cnt_above (l : List VI) : ∀ (d k : Nat), k + d ≤ l.length → cnt l k < cnt l (k + d) → ∃ e y, l[e]? = some y ∧ y.isEf = true ∧ k ≤ e ∧ cnt l e = cnt l k
  | 0, k, _, h => by simp at h
  | d + 1, k, hk, h => by
    have hx : l[k]? = some l[k] := List.getElem?_eq_getElem (by omega)
    cases he : l[k].isEf with
    | true => exact ⟨k, _, hx, he, by omega, rfl⟩
    | false =>
      have hc : cnt l (k + 1) = cnt l k := by rw [cnt_succ l k _ hx]; simp [VI.next, he]
      obtain ⟨e, y, h1, h2, h3, h4⟩ := cnt_above l d (k + 1) (by omega) (by rw [hc, show k + 1 + d = k + (d + 1) by omega]; exact h)
      exact ⟨e, y, h1, h2, by omega, by rw [h4, hc]⟩

theorem x_step {σ0 : Sg} {w0 : World} (hcl : compL P N ops ops.toList = some l) (hok : okX ops l b = true) (h0 : Es 0 = F) (hC0 : hs[0]? = some (Hs 0))
    (ht : ∀ i x, l[i]? = some x → Es (i + 1) = (Es i).pt x.ds (v i) ∧ StepAt P hs (b.getD i (0, 0)).1 (b.getD i (0, 0)).2 (cnt l i) x (Es i) (Hs i) (v i) (Hs (i + 1)))
    {listed : Array Bool} {a : Act} {w : World} {X : Fr} {σ : Sg} {k i : Nat} (hS : XSt ops B N l F v Hs σ0 w0 listed a w X σ k) (hr : i ∈ Region.ready .any ops listed) {Q : Exit → Act → World → Prop} {K : Act → World → Prop}
    (hK : ∀ a' w' X' σ' k', XSt ops B N l F v Hs σ0 w0 (listed.setIfInBounds i true) a' w' X' σ' k' → K a' w') : wpOp P ops Q i K a w := by
  obtain ⟨hun, o, ho, hall⟩ := mem_ready.1 hr
  obtain ⟨hlen, hget⟩ := compL_get hcl
  obtain ⟨x, hx, hcx⟩ := hget i o (by simpa using ho)
  have hil : i < l.length := (List.getElem?_eq_some_iff.1 hx).1
  have hio : i < listed.size := by rw [hS.sz, ← Array.length_toList, hlen]; exact hil
  have hnot : ¬ Lst listed i := by unfold Lst; rw [Array.getD_eq_getD_getElem?] at hun ⊢; rw [Array.getElem?_eq_getElem hio] at hun ⊢; simpa using hun
  have hspec := okX_spec hok hil
  have hanc : ∀ j ∈ (ancTab ops.toList []).getD i [], Lst listed j := fun j hj => anc_of_ready hS.shut ho hall hj
  obtain ⟨hE, hstep⟩ := ht i x hx
  obtain ⟨hf1, hf2⟩ := lex_frame hok h0 ht i (by omega)
  have hobj : ∀ j y, l[j]? = some y → ∃ o' : Oper, ops[j]? = some o' := fun j y hy => by
    have hj : j < ops.size := by rw [← Array.length_toList, hlen]; exact (List.getElem?_eq_some_iff.1 hy).1
    exact ⟨_, Array.getElem?_eq_getElem hj⟩
  have hup : ∀ j y, l[j]? = some y → i ∈ (ancTab ops.toList []).getD j [] → ¬ Lst listed j := fun j y hy hj hl => by
    obtain ⟨o', ho'⟩ := hobj j y hy
    exact hnot (anc_of_in hS.shut ho' hl hj)
  have hal : Alike X (Es i) x.uses := by
    intro s hs
    by_cases hd : ∃ (j : Nat) (y : VI), l[j]? = some y ∧ y.ds = some s
    · obtain ⟨j, y, hy, hys⟩ := hd
      have huniq : ∀ j' y', l[j']? = some y' → y'.ds = some s → j' = j := fun j' y' hy' hs' => by
        rcases (((okX_spec hok (i := j') (List.getElem?_eq_some_iff.1 hy').1).2 y' hy' j y hy).1 s hys).1 with h | h
        · exact h
        · exact absurd hs' h
      rcases ((hspec.2 x hx j y hy).1 s hys).2 hs with h | h | h
      · subst h
        rw [hS.rest s fun j' y' hy' hl hs' => hnot (huniq j' y' hy' hs' ▸ hl), hf2 s fun j' y' hy' hlt hs' => by have := huniq j' y' hy' hs'; omega]
      · rw [hS.done j y hy (hanc j h) s hys, hf1 j y hy (hspec.1.1 j h) s hys]
      · have hij : i < j := (okX_spec hok (i := j) (List.getElem?_eq_some_iff.1 hy).1).1.1 i h
        rw [hS.rest s fun j' y' hy' hl hs' => hup j y hy h (huniq j' y' hy' hs' ▸ hl), hf2 s fun j' y' hy' hlt hs' => by have := huniq j' y' hy' hs'; omega]
    · have hd' : ∀ (j : Nat) (y : VI), l[j]? = some y → y.ds ≠ some s := fun j y hy h => hd ⟨j, y, hy, h⟩
      rw [hS.rest s fun j y hy _ => hd' j y hy, hf2 s fun j y hy _ => hd' j y hy]
  have hg : want X x.gd = want (Es i) x.gd := want_alike fun s hs => hal s (by cases x <;> exact List.mem_append_left _ hs)
  have hCk : hs[cnt l k]? = some (Hs k) := lex_hs hC0 ht k hS.kn
  have hup2 : ∀ j y, l[j]? = some y → i ∈ (ancTab ops.toList []).getD j [] → ¬ Lst listed j := hup
  have hcu : cnt l k ≤ (b.getD i (0, 0)).2 := by
    refine Nat.le_of_not_lt fun hlt => ?_
    obtain ⟨e, y, e1, e2, e3, e4⟩ := cnt_below l _ k hS.kn hlt
    have hle := (hS.ke e y e1 e2).1 e3
    rcases (((hspec.2 x hx e y e1).2.2 e2).2) with h | h | h
    · omega
    · exact hup e y e1 h hle
    · subst h; exact hnot hle
  have hcl' : (b.getD i (0, 0)).1 ≤ cnt l k := by
    refine Nat.le_of_not_lt fun hlt => ?_
    have htot := hspec.1.2.2
    obtain ⟨e, y, e1, e2, e3, e4⟩ := cnt_above l (l.length - k) k (by have := hS.kn; omega) (by rw [show k + (l.length - k) = l.length by have := hS.kn; omega]; omega)
    rcases (((hspec.2 x hx e y e1).2.2 e2).1) with h | h
    · omega
    · have := (hS.ke e y e1 e2).2 (hanc e h); omega
  -- the state behind it
  have fin : ∀ {a' w' σ' k'}, FRel σ' N (X.pt x.ds (v i)) a' → HRel σ' B (Hs k') w' → σ0.le σ' → Below B w0 w' → k' ≤ l.length → (∀ j y, l[j]? = some y → y.isEf = true → (j < k' ↔ Lst listed j ∨ j = i)) →
      K a' w' := fun {a' w' σ' k'} q1 q2 q3 q4 q5 q6 => by
    refine hK a' w' (X.pt x.ds (v i)) σ' k' ⟨q3, q1, q2, q4, by simpa using hS.sz, ?_, ?_, ?_, q5, fun j y hy he => by rw [lst_set hio]; exact q6 j y hy he⟩
    · intro j o' ho' hl e he hb
      rw [lst_set hio] at hl ⊢
      rcases hl with hl | rfl
      · exact .inl (hS.shut j o' ho' hl e he hb)
      · have : o' = o := Option.some.inj (ho'.symm.trans ho)
        subst this
        exact .inl (hall e he hb)
    · intro j y hy hl s hs
      rw [lst_set hio] at hl
      rw [pt_get]
      by_cases hji : j = i
      · subst hji
        have : y = x := Option.some.inj (hy.symm.trans hx)
        subst this
        rw [if_pos hs]
      · rw [if_neg, hS.done j y hy (hl.resolve_right hji) s hs]
        rcases ((hspec.2 x hx j y hy).1 s hs).1 with h | h
        · exact absurd h.symm hji
        · exact h
    · intro s hs
      rw [pt_get, if_neg (hs i x hx (by rw [lst_set hio]; exact .inr rfl)), hS.rest s fun j y hy hl => hs j y hy (by rw [lst_set hio]; exact .inl hl)]
  have hkne : x.isEf = false → ∀ j y, l[j]? = some y → y.isEf = true → (j < k ↔ Lst listed j ∨ j = i) := fun hxe j y hy he => by
    rw [hS.ke j y hy he]
    refine ⟨.inl, fun h => h.resolve_right ?_⟩
    rintro rfl
    have : y = x := Option.some.inj (hy.symm.trans hx)
    subst this
    rw [he] at hxe; cases hxe
  have hke : x.isEf = true → Hs k = Hs i ∧ ∀ j y, l[j]? = some y → y.isEf = true → (j < i + 1 ↔ Lst listed j ∨ j = i) := fun hxe => by
    have hlo : ∀ j y, l[j]? = some y → y.isEf = true → j < i → Lst listed j := fun j y hy he hj => hanc j (((okX_spec hok (i := j) (List.getElem?_eq_some_iff.1 hy).1).2 y hy i x hx).2.1 he hxe hj)
    have hhi : ∀ j y, l[j]? = some y → y.isEf = true → i < j → ¬ Lst listed j := fun j y hy he hj => hup j y hy ((hspec.2 x hx j y hy).2.1 hxe he hj)
    refine ⟨?_, fun j y hy he => ⟨fun h => ?_, fun h => ?_⟩⟩
    · rcases Nat.le_total k i with h | h
      · have := lex_heaps ht (a := k) (i - k) (by omega) fun j y hy he h1 h2 => by
          have := (hS.ke j y hy he).2 (hlo j y hy he (by omega)); omega
        rw [show k + (i - k) = i by omega] at this
        exact this.symm
      · have := lex_heaps ht (a := i) (k - i) (by have := hS.kn; omega) fun j y hy he h1 h2 => by
          have hl := (hS.ke j y hy he).1 (by omega)
          by_cases hji : j = i
          · subst hji; exact hnot hl
          · exact hhi j y hy he (by omega) hl
        rw [show i + (k - i) = k by omega] at this
        exact this
    · by_cases hji : j = i
      · exact .inr hji
      · exact .inl (hlo j y hy he (by omega))
    · rcases h with h | h
      · by_cases hlt : i < j
        · exact absurd h (hhi j y hy he hlt)
        · omega
      · omega
  have hcl1 : compL P N ops [o] = some [x] := by simp [compL, hcx]
  -- one operation
  have run : ∀ {H' : Hp} {k' : Nat}, k' ≤ l.length → H' = Hs k' → (∀ j y, l[j]? = some y → y.isEf = true → (j < k' ↔ Lst listed j ∨ j = i)) →
      VOps P B N [x] X (Hs k) (fun e F' H2 => e = .normal ∧ F' = X.pt x.ds (v i) ∧ H2 = H') → wpOp P ops Q i K a w := fun {H' k'} hk' hH' hkk h => by
    refine wpOp_of_list ho (Q1 := Post B N σ w fun e F' H2 => e = .normal ∧ F' = X.pt x.ds (v i) ∧ H2 = H') (fun e a w hp => ?_) (fun a' w' hp => ?_) (h ops [o] hcl1 σ w a hS.hp hS.fr)
    · obtain ⟨_, _, _, h, _⟩ := hp; exact h.1
    · obtain ⟨F', H2, σ', ⟨_, rfl, rfl⟩, q1, q2, q3, q4⟩ := hp
      exact fin q3 (by rw [← hH']; exact q2) (Sg.le_trans hS.le q1) (hS.bl.trans q4) hk' hkk
  rcases hstep with ⟨hw, hv, hH, _⟩ | ⟨hw, hD⟩
  · -- passed over
    have hw' : want X x.gd = some false := by rw [hg]; exact hw
    have hbody : VOps P B N [x] X (Hs k) (fun e F' H2 => e = .normal ∧ F' = X.pt x.ds (v i) ∧ H2 = Hs k) := by
      rw [hv]
      cases x with
      | rd d g y => exact VOps.skip (d := some d) (.inl ⟨y, d, rfl, rfl⟩) hw' (VOps.nil ⟨rfl, rfl, rfl⟩)
      | ef d g y => exact VOps.skip (d := d) (.inr (.inl ⟨y, rfl⟩)) hw' (VOps.nil ⟨rfl, rfl, rfl⟩)
      | call d g f ar => exact VOps.skip (d := d) (.inr (.inr ⟨f, ar, rfl⟩)) hw' (VOps.nil ⟨rfl, rfl, rfl⟩)
      | nx d g y => exact VOps.skn hw' (VOps.nil ⟨rfl, rfl, rfl⟩)
    cases hxe : x.isEf with
    | false => exact run hS.kn rfl (hkne hxe) hbody
    | true =>
      obtain ⟨h1, h2⟩ := hke hxe
      exact run (k' := i + 1) (by omega) (by rw [hH, h1]) h2 hbody
  · have hw' : want X x.gd = some true := by rw [hg]; exact hw
    cases x with
    | rd d g y =>
      obtain ⟨_, he⟩ := hD
      refine run hS.kn rfl (hkne rfl) (VOps.rd (v := v i) hw' ?_ (VOps.nil ⟨rfl, rfl, rfl⟩))
      rw [VOp.ev_alike (E' := Es i) fun s hs => hal s (List.mem_append_right _ hs)]
      exact he _ _ hcl' hcu hCk
    | ef d g y =>
      obtain ⟨he, _⟩ := hD
      obtain ⟨h1, h2⟩ := hke rfl
      refine run (k' := i + 1) (H' := Hs (i + 1)) (by omega) rfl h2 (VOps.ef (v := v i) hw' ?_ (VOps.nil ⟨rfl, rfl, rfl⟩))
      rw [VEf.ev_alike (E' := Es i) fun s hs => hal s (List.mem_append_right _ hs), h1]
      exact he
    | call d g f ar =>
      obtain ⟨_, fid, caps, vs, e1, e2, he⟩ := hD
      refine run hS.kn rfl (hkne rfl) (VOps.call (f := fid) (caps := caps) (vs := vs) hw' ?_ ?_ ((he _ _ hcl' hcu hCk).mono fun r H2 hr => ?_))
      · rw [Od.ev_alike (E' := Es i) fun s hs => hal s (List.mem_append_right _ (List.mem_append_left _ hs))]; exact e1
      · rw [evs_alike (E' := Es i) fun s hs => hal s (List.mem_append_right _ (List.mem_append_right _ hs))]; exact e2
      · obtain ⟨rfl, rfl⟩ := hr
        exact VOps.nil ⟨rfl, rfl, rfl⟩
    | nx d g y => exact hD.elim

theorem all_listed (hlen : ops.size = l.length) (hok : okX ops l b = true) {listed : Array Bool} (hsz : listed.size = ops.size) (hr : Region.ready .any ops listed = []) : ∀ i, i < l.length → Lst listed i := by
  intro i
  induction i using Nat.strongRecOn with
  | _ i ih =>
    intro hi
    cases h : listed.getD i false with
    | true => exact h
    | false =>
      have : i ∈ Region.ready .any ops listed := by
        refine mem_ready.2 ⟨?_, _, Array.getElem?_eq_getElem (by omega), fun e he hb => ?_⟩
        · rw [Array.getD_eq_getD_getElem?, Array.getElem?_eq_getElem (by omega)] at h ⊢; simpa using h
        · have hlt := (okX_spec hok hi).1.2.1 _ (Array.getElem?_eq_getElem (by omega)) e he hb
          exact ih _ hlt (by omega)
      rw [hr] at this; cases this

theorem x_any {σ0 : Sg} {w0 : World} (hcl : compL P N ops ops.toList = some l) (hok : okX ops l b = true) (h0 : Es 0 = F) (hC0 : hs[0]? = some (Hs 0))
    (ht : ∀ i x, l[i]? = some x → Es (i + 1) = (Es i).pt x.ds (v i) ∧ StepAt P hs (b.getD i (0, 0)).1 (b.getD i (0, 0)).2 (cnt l i) x (Es i) (Hs i) (v i) (Hs (i + 1))) {Q : Exit → Act → World → Prop}
    (hQ : ∀ a w σ, σ0.le σ → FRel σ N (Es l.length) a → HRel σ B (Hs l.length) w → Below B w0 w → Q .normal a w) :
    ∀ (fuel : Nat) (listed : Array Bool) (a : Act) (w : World) (X : Fr) (σ : Sg) (k : Nat), (List.range l.length).countP (fun i => !listed.getD i false) ≤ fuel → XSt ops B N l F v Hs σ0 w0 listed a w X σ k → wpAny P .any ops Q fuel listed a w := by
  have hlen : ops.size = l.length := by rw [← (compL_get hcl).1, Array.length_toList]
  have done : ∀ (listed : Array Bool) (a : Act) (w : World) (X : Fr) (σ : Sg) (k : Nat), (∀ i, i < l.length → Lst listed i) → XSt ops B N l F v Hs σ0 w0 listed a w X σ k → Q .normal a w := fun listed a w X σ k hall hS => by
    obtain ⟨f1, f2⟩ := lex_frame hok h0 ht l.length (Nat.le_refl _)
    have hk : Hs k = Hs l.length := by
      have := lex_heaps ht (a := k) (l.length - k) (by have := hS.kn; omega) fun j y hy he h1 h2 => by
        have := (hS.ke j y hy he).2 (hall j (by have := hS.kn; omega)); omega
      rw [show k + (l.length - k) = l.length by have := hS.kn; omega] at this
      exact this.symm
    refine hQ a w σ hS.le ?_ (hk ▸ hS.hp) hS.bl
    refine ⟨hS.fr.1, hS.fr.2.1, fun s u hu => hS.fr.2.2 s u ?_⟩
    rw [← hu]
    by_cases hd : ∃ (j : Nat) (y : VI), l[j]? = some y ∧ y.ds = some s
    · obtain ⟨j, y, hy, hys⟩ := hd
      have hj : j < l.length := (List.getElem?_eq_some_iff.1 hy).1
      rw [hS.done j y hy (hall j hj) s hys, f1 j y hy hj s hys]
    · have hd' : ∀ (j : Nat) (y : VI), l[j]? = some y → y.ds ≠ some s := fun j y hy h => hd ⟨j, y, hy, h⟩
      rw [hS.rest s fun j y hy _ => hd' j y hy, f2 s fun j y hy _ => hd' j y hy]
  intro fuel
  induction fuel with
  | zero =>
    intro listed a w X σ k hc hS
    have hall : ∀ i, i < l.length → Lst listed i := fun i hi => by
      have h := List.countP_eq_zero.1 (Nat.le_zero.1 hc) i (List.mem_range.2 hi)
      unfold Lst
      cases hh : listed.getD i false with
      | true => rfl
      | false => rw [hh] at h; exact absurd rfl h
    refine ⟨?_, done listed a w X σ k hall hS⟩
    cases hr : Region.ready .any ops listed with
    | nil => rfl
    | cons i r =>
      have hi : i ∈ Region.ready .any ops listed := by rw [hr]; simp
      obtain ⟨hun, o, ho, _⟩ := mem_ready.1 hi
      have hil : i < l.length := by rw [← hlen]; exact (Array.getElem?_eq_some_iff.1 ho).1
      have h2 := hall i hil
      unfold Lst at h2
      rw [Array.getD_eq_getD_getElem?, Array.getElem?_eq_getElem (by rw [hS.sz, hlen]; exact hil)] at hun h2
      simp at hun h2
      rw [h2] at hun; cases hun
  | succ fuel ih =>
    intro listed a w X σ k hc hS
    refine ⟨fun hr => done listed a w X σ k (all_listed hlen hok hS.sz hr) hS, fun i hi => ?_⟩
    refine x_step hcl hok h0 hC0 ht hS hi fun a' w' X' σ' k' hS' => ih _ a' w' X' σ' k' ?_ hS'
    obtain ⟨hun, o, ho, _⟩ := mem_ready.1 hi
    have hil : i < l.length := by rw [← hlen]; exact (Array.getElem?_eq_some_iff.1 ho).1
    have his : i < listed.size := by rw [hS.sz, hlen]; exact hil
    have := countP_drop (p := fun i => !listed.getD i false) (q := fun j => !(listed.setIfInBounds i true).getD j false) (i := i) (by
      rw [Array.getD_eq_getD_getElem?, Array.getElem?_eq_getElem his] at hun ⊢; simpa using hun) (fun j hj => by
        have h1 : ¬ Lst (listed.setIfInBounds i true) j := by simpa [Lst] using hj
        rw [lst_set his] at h1
        refine ⟨?_, fun h => h1 (.inr h)⟩
        have h2 : ¬ Lst listed j := fun h => h1 (.inl h)
        simpa [Lst] using h2) (List.mem_range.2 hil)
    omega

theorem x_region {id : Nat} {H : Hp} {Q : Exit → Act → World → Prop} {R : Fr → Hp → Prop} {σ : Sg} {w : World} {a : Act} (hm : P.follows .mixedOrders = true) (hcl : compL P N ops ops.toList = some l) (hok : okX ops l b = true) (hC0 : hs[0]? = some H)
    (h : VX P hs l b 0 F H R) (hH : HRel σ B H w) (hF : FRel σ N F a)
    (hQ : ∀ E' H' a' w' σ', R E' H' → σ.le σ' → FRel σ' N E' a' → HRel σ' B H' w' → Below B w w' → Q .normal a' w') : (Code.region id ops true).wp P Q a w := by
  obtain ⟨v, Hs, Es, h1, h2, h3, ht⟩ := h.trace
  simp only [Nat.zero_add] at ht
  have hlen : ops.size = l.length := by rw [← (compL_get hcl).1, Array.length_toList]
  have hb : Below w.heap.size w { w with drawn := w.drawn + 1 } := ⟨rfl, rfl, rfl, Nat.le_refl _, fun _ _ => rfl⟩
  refine wp_region_any hm ?_
  refine x_any (σ0 := σ) (w0 := w) (B := B) (v := v) (Hs := Hs) (Es := Es) hcl hok h1 (by rw [h2]; exact hC0) ht (fun a' w' σ' q1 q2 q3 q4 => hQ _ _ a' w' σ' h3 q1 q2 q3 q4) ops.size _ a _ F σ 0 ?_ ?_
  · rw [hlen]; exact Nat.le_trans List.countP_le_length (by simp)
  · have hno : ∀ j, ¬ Lst (Array.replicate ops.size false) j := fun j => by
      unfold Lst; rw [Array.getD_eq_getD_getElem?, Array.getElem?_replicate]; split <;> simp
    refine ⟨Sg.le_refl _, hF, by rw [h2]; exact hH.later hb, hb.mono hH.base, by simp, fun i o _ hl => absurd hl (hno i), fun j y _ hl => absurd hl (hno j), fun _ _ => rfl, by omega, fun j y hy he => ⟨fun h => by omega, fun h => absurd h (hno j)⟩⟩
end
end
end Go.Vm
