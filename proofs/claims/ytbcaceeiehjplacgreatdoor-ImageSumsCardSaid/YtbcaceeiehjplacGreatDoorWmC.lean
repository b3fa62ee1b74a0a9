/- The canonical machine: what its values and its heap say of a world of the model. -/
import Derived.Test.YtbcaceeiehjplacGreatDoorWmB
namespace Go.Wm
set_option linter.unusedSimpArgs false
set_option linter.unusedVariables false
open Go.RowKit

structure Info where
  real : Nat
  base : Nat
  esz : Nat
  n : Nat
  room : Option Nat

abbrev Sg := Nat → Option Info
def Sg.le (σ τ : Sg) : Prop := ∀ i I, σ i = some I → τ i = some I
theorem Sg.le_refl (σ : Sg) : σ.le σ := fun _ _ h => h
theorem Sg.le_trans {a b c : Sg} (h : a.le b) (k : b.le c) : a.le c := fun i I e => k i I (h i I e)

def Sg.place (σ : Sg) (p : PA) (a : Addr) : Prop := ∃ I, σ p.blk = some I ∧ a = ⟨I.real, I.base + p.idx * I.esz + p.off, none⟩

def SlRel (σ : Sg) (p : PA) (len cap : Nat) (a : Addr) (cap' : Nat) : Prop :=
  len ≤ cap ∧ ((σ.place p a ∧ cap' = cap) ∨
    (∃ I m, σ p.blk = some I ∧ I.room = some m ∧ p.off = 0 ∧ σ.place p a ∧ p.idx + cap = I.n ∧ p.idx + cap' = m ∧ cap ≤ cap') ∨
    (cap = 0 ∧ cap' = 0 ∧ ∃ I, σ p.blk = some I))

mutual
inductive VRel (σ : Sg) : VV → Value → Prop
  | undef (v : Value) : VRel σ .undef v
  | bool (b : Bool) : VRel σ (.bool b) (.bool b)
  | int (k : IntKind) (n : Int) : VRel σ (.int k n) (.int k n)
  | str (s : List UInt8) : VRel σ (.str s) (.string ⟨s.toArray⟩)
  | ptrNil : VRel σ (.ptr none) (.pointer none)
  | ptr {p : PA} {a : Addr} (h : σ.place p a) : VRel σ (.ptr (some p)) (.pointer (some a))
  | slNil : VRel σ (.sl none 0 0) (.slice none 0 0)
  | sl {p : PA} {len cap : Nat} {a : Addr} {cap' : Nat} (h : SlRel σ p len cap a cap') : VRel σ (.sl (some p) len cap) (.slice (some a) len cap')
  | fn {f : FuncId} {caps : List VV} {caps' : Array Value} (h : LRel σ caps caps'.toList) : VRel σ (.fn f caps) (.func (.func f) #[] caps')
  | nilFn : VRel σ .nilFn .nilFunc
  | agg {cs : List VV} {cs' : Array Value} (h : LRel σ cs cs'.toList) : VRel σ (.agg cs) (.agg cs')
  | tup {cs : List VV} {cs' : Array Value} (h : LRel σ cs cs'.toList) : VRel σ (.tup cs) (.tuple cs')
  | mapNil : VRel σ (.map none) (.map none)
  | map {b : Nat} {I : Info} (h : σ b = some I) : VRel σ (.map (some b)) (.map (some I.real))
  | nilI : VRel σ .nilI .nilIface
  | yield {b : Nat} {I : Info} (h : σ b = some I) : VRel σ (.yield b) (.func (.yield I.real) #[] #[])
  | ifc {t : TypeId} {v : VV} {v' : Value} (h : VRel σ v v') : VRel σ (.ifc t v) (.iface t v')
inductive LRel (σ : Sg) : List VV → List Value → Prop
  | nil : LRel σ [] []
  | cons {v : VV} {v' : Value} {l : List VV} {l' : List Value} (h : VRel σ v v') (t : LRel σ l l') : LRel σ (v :: l) (v' :: l')
end

theorem SlRel.mono {σ τ : Sg} (hl : σ.le τ) {p : PA} {len cap : Nat} {a : Addr} {cap' : Nat} (h : SlRel σ p len cap a cap') : SlRel τ p len cap a cap' := by
  obtain ⟨h0, h⟩ := h
  refine ⟨h0, ?_⟩
  rcases h with ⟨⟨I, h1, h2⟩, h3⟩ | ⟨I, m, h1, h2, h3, ⟨J, h4, h5⟩, h6, h7, h8⟩ | h
  · exact .inl ⟨⟨I, hl _ _ h1, h2⟩, h3⟩
  · exact .inr (.inl ⟨I, m, hl _ _ h1, h2, h3, ⟨J, hl _ _ h4, h5⟩, h6, h7, h8⟩)
  · exact .inr (.inr ⟨h.1, h.2.1, let ⟨I, e⟩ := h.2.2; ⟨I, hl _ _ e⟩⟩)

mutual
theorem VRel.mono {σ τ : Sg} (hl : σ.le τ) : ∀ {v : VV} {v' : Value}, VRel σ v v' → VRel τ v v'
  | _, _, .undef v => .undef v
  | _, _, .bool b => .bool b
  | _, _, .int k n => .int k n
  | _, _, .str s => .str s
  | _, _, .ptrNil => .ptrNil
  | _, _, .ptr h => .ptr (let ⟨I, h1, h2⟩ := h; ⟨I, hl _ _ h1, h2⟩)
  | _, _, .slNil => .slNil
  | _, _, .sl h => .sl (h.mono hl)
  | _, _, .fn h => .fn (LRel.mono hl h)
  | _, _, .nilFn => .nilFn
  | _, _, .agg h => .agg (LRel.mono hl h)
  | _, _, .tup h => .tup (LRel.mono hl h)
  | _, _, .mapNil => .mapNil
  | _, _, .map h => .map (hl _ _ h)
  | _, _, .nilI => .nilI
  | _, _, .yield h => .yield (hl _ _ h)
  | _, _, .ifc h => .ifc (VRel.mono hl h)
theorem LRel.mono {σ τ : Sg} (hl : σ.le τ) : ∀ {v : List VV} {v' : List Value}, LRel σ v v' → LRel τ v v'
  | _, _, .nil => .nil
  | _, _, .cons h t => .cons (VRel.mono hl h) (LRel.mono hl t)
end

theorem LRel.length {σ : Sg} : ∀ {l : List VV} {l' : List Value}, LRel σ l l' → l.length = l'.length
  | _, _, .nil => rfl
  | _, _, .cons _ t => by simp [LRel.length t]
theorem LRel.get {σ : Sg} : ∀ {l : List VV} {l' : List Value}, LRel σ l l' → ∀ {i : Nat} {v : VV}, l[i]? = some v → ∃ v', l'[i]? = some v' ∧ VRel σ v v'
  | _, _, .nil, i, v, h => by simp at h
  | _, _, .cons h t, 0, v, e => by simp at e; subst e; exact ⟨_, by simp, h⟩
  | _, _, .cons h t, i + 1, v, e => by simp at e; obtain ⟨v', h1, h2⟩ := LRel.get t e; exact ⟨v', by simpa using h1, h2⟩
theorem LRel.of_get {σ : Sg} : ∀ {l : List VV} {l' : List Value}, l.length = l'.length → (∀ (i : Nat) v, l[i]? = some v → ∃ v', l'[i]? = some v' ∧ VRel σ v v') → LRel σ l l'
  | [], [], _, _ => .nil
  | v :: l, v' :: l', hl, h => .cons (by obtain ⟨x, h1, h2⟩ := h 0 v (by simp); simp at h1; subst h1; exact h2)
      (LRel.of_get (by simpa using hl) fun i u hu => by obtain ⟨x, h1, h2⟩ := h (i + 1) u (by simpa using hu); exact ⟨x, by simpa using h1, h2⟩)
  | [], _ :: _, h, _ => by simp at h
  | _ :: _, [], h, _ => by simp at h
theorem LRel.append {σ : Sg} : ∀ {l m : List VV} {l' m' : List Value}, LRel σ l l' → LRel σ m m' → LRel σ (l ++ m) (l' ++ m')
  | _, _, _, _, .nil, k => k
  | _, _, _, _, .cons h t, k => .cons h (LRel.append t k)

theorem VRel.oneCell {σ : Sg} {v : VV} {v' : Value} (h : VRel σ v v') (hc : v.cell = true) : v'.oneCell' = true := by
  cases h <;> first | rfl | simp [VV.cell] at hc
theorem VRel.cellsOne {σ : Sg} {v : VV} {v' : Value} (h : VRel σ v v') (hc : v.cell = true) : v'.cells = #[v'] ∧ v.cells = [v] := by
  cases h <;> first | exact ⟨rfl, rfl⟩ | simp [VV.cell] at hc

/-! ### blocks -/
def stOf : Nat → LoopState
  | 0 => .ready
  | 1 => .done
  | 2 => .busy
  | _ => .exhausted
def pendOf : Option VE → Option Code
  | none => none
  | some .normal => some .skip
  | some .ret => some .ret
  | some (.exit i) => some (.exit i)
def LoopRel (P : Program) (σ : Sg) (r : LoopR) (R : Loop) : Prop :=
  R.state = stOf r.st ∧ R.pending = pendOf r.pend ∧ R.params.toList = r.ps ∧ r.E.get dslot = none ∧ (∀ s v, r.E.get s = some v → VRel σ v (R.tmps.getD s undef)) ∧
  (∃ n, R.tmps.size = n ∧ n ≤ dslot ∧ (∀ s ∈ r.ps, s < n) ∧ (∃ K, compC P n K R.assign = some r.va) ∧ (∃ K, compC P n K R.body = some r.vb)) ∧ ∃ J, σ r.db = some J ∧ R.defers = J.real
def ObRel (P : Program) (σ : Sg) : MOb → Obj → Prop
  | .map es, .map cur clk => clk = es.length ∧ cur.size = es.length ∧ ∀ (k : Nat) e, es[k]? = some e → ∃ e', cur[k]? = some e' ∧ e'.born = k ∧ VRel σ e.1 e'.key ∧ VRel σ e.2 e'.val
  | .iter m n seen, .mapIter r since s st => (∃ J, σ m = some J ∧ r = some J.real) ∧ since = n ∧ st = n ∧ s.toList = seen
  | .siter s pos, .stringIter t q => t.data.toList = s ∧ q = pos
  | .loop r, .loop R => LoopRel P σ r R
  | .defs b, .deferred o => o = if b then none else some []
  | .bytes s, .cells cur _ fr => fr ≠ (0, 0) ∧ ∀ (k : Nat) b, s[k]? = some b → cur[k]? = some (.int .u8 b.toNat)
  | _, _ => False
theorem LoopRel.mono {P : Program} {σ τ : Sg} (hl : σ.le τ) {r : LoopR} {R : Loop} (h : LoopRel P σ r R) : LoopRel P τ r R :=
  let ⟨h1, h2, h3, h4, h5, h6, J, e, e'⟩ := h
  ⟨h1, h2, h3, h4, fun s v e => (h5 s v e).mono hl, h6, J, hl _ _ e, e'⟩
theorem ObRel.mono {P : Program} {σ τ : Sg} (hl : σ.le τ) {o : MOb} {ho : Obj} (h : ObRel P σ o ho) : ObRel P τ o ho := by
  cases o <;> cases ho <;> simp only [ObRel] at h ⊢ <;> try exact h
  · obtain ⟨h1, h2, h3⟩ := h
    exact ⟨h1, h2, fun k e he => let ⟨e', q1, q2, q3, q4⟩ := h3 k e he; ⟨e', q1, q2, q3.mono hl, q4.mono hl⟩⟩
  · obtain ⟨⟨J, h1, h2⟩, h3⟩ := h
    exact ⟨⟨J, hl _ _ h1, h2⟩, h3⟩
  · exact h.mono hl
theorem ObRel.noCells {P : Program} {σ : Sg} {o : MOb} {cur : Array Value} {t : TypeId} (h : ObRel P σ o (.cells cur t (0, 0))) : False := by
  cases o <;> simp [ObRel] at h



structure RowOk (σ : Sg) (B : Nat) (w : World) (i : Nat) (t : TypeId) (md : Mode) (es : List (List VV)) (I : Info) : Prop where
  here : σ i = some I
  lt : I.real < w.heap.size
  len : es.length = I.n
  esz : ∀ e ∈ es, e.length = I.esz
  cell : ∀ k e j v, es[k]? = some e → e[j]? = some v → v.cell = true ∧ ∃ v', w.cell? ⟨I.real, I.base + k * I.esz + j, none⟩ = some v' ∧ VRel σ v v'
  old : md = .ro → I.real < B ∧ I.room = none
  own : md ≠ .ro → B ≤ I.real ∧ (md = .own → I.room = none ∧ I.base = 0) ∧ (md = .loose → ∃ m, I.room = some m ∧ I.n ≤ m) ∧
    ∃ cur, w.heap[I.real]? = some (.cells cur t (0, 0)) ∧ cur.size = I.base + I.room.getD I.n * I.esz

/-- the package variables lie where the first blocks say -/
def Gl (σ : Sg) : Prop := ∀ i g, GL[i]? = some g → ∃ I, σ i = some I ∧ I.real = g ∧ I.base = 0
theorem Gl.mono {σ τ : Sg} (hl : σ.le τ) (h : Gl σ) : Gl τ := fun i g e => let ⟨I, h1, h2⟩ := h i g e; ⟨I, hl _ _ h1, h2⟩
structure HRel (P : Program) (σ : Sg) (B : Nat) (H : Hp) (w : World) : Prop where
  base : B ≤ w.heap.size
  dom : ∀ i I, σ i = some I → i < H.length
  rows : ∀ (i : Nat) t md es, H[i]? = some (Blk.row t md es) → ∃ I, RowOk σ B w i t md es I
  inj : ∀ (i j : Nat) ti mi esi tj mj esj Ii Ij, H[i]? = some (Blk.row ti mi esi) → mi ≠ .ro → H[j]? = some (Blk.row tj mj esj) → σ i = some Ii → σ j = some Ij → Ii.real = Ij.real → i = j
  objs : ∀ (i : Nat) o, H[i]? = some (Blk.obj o) → ∃ I ho, σ i = some I ∧ B ≤ I.real ∧ I.base = 0 ∧ w.heap[I.real]? = some ho ∧ ObRel P σ o ho
  oinj : ∀ (i j : Nat) o o' I J, H[i]? = some (Blk.obj o) → H[j]? = some (Blk.obj o') → σ i = some I → σ j = some J → I.real = J.real → i = j
  glob : Gl σ
  fit : ∀ i I, σ i = some I → I.real < w.heap.size

/-! ### frames -/
def Fr.set : Fr → Nat → VV → Fr
  | [], s, v => [(s, v)]
  | (k, u) :: r, s, v => if k = s then (s, v) :: r else (k, u) :: Fr.set r s v
/-- one call that is put off: a function's, or the mark of a loop over a function -/
inductive DItem (σ : Sg) : VV → Deferred → Prop
  | call {f : FuncId} {caps args : List VV} {cap' arg' : Array Value} (h : LRel σ caps cap'.toList) (h' : LRel σ args arg'.toList) : DItem σ (.tup (.fn f caps :: args)) { target := .fn (.func f) cap', args := arg' }
  | mark {b : Nat} {I : Info} (h : σ b = some I) : DItem σ (.map (some b)) { target := .collected I.real, args := #[] }
inductive DItems (σ : Sg) : List VV → List Deferred → Prop
  | nil : DItems σ [] []
  | cons {v : VV} {d : Deferred} {l : List VV} {m : List Deferred} (h : DItem σ v d) (t : DItems σ l m) : DItems σ (v :: l) (d :: m)
inductive DRel (σ : Sg) : Option VV → List Deferred → Prop
  | none : DRel σ none []
  | some {l : List VV} {m : List Deferred} (h : DItems σ l m) : DRel σ (some (.tup l)) m
theorem DItem.mono {σ τ : Sg} (hl : σ.le τ) {v : VV} {d : Deferred} : DItem σ v d → DItem τ v d
  | .call h h' => .call (h.mono hl) (h'.mono hl)
  | .mark h => .mark (hl _ _ h)
theorem DItems.mono {σ τ : Sg} (hl : σ.le τ) : ∀ {l : List VV} {m : List Deferred}, DItems σ l m → DItems τ l m
  | _, _, .nil => .nil
  | _, _, .cons h t => .cons (h.mono hl) (DItems.mono hl t)
theorem DRel.mono {σ τ : Sg} (hl : σ.le τ) {o : Option VV} {m : List Deferred} : DRel σ o m → DRel τ o m
  | .none => .none
  | .some h => .some (h.mono hl)

def FRel (σ : Sg) (N : Nat) (F : Fr) (a : Act) : Prop :=
  a.tmps.size = N ∧ (N ≤ dslot ∧ Gl σ) ∧ DRel σ (F.get dslot) a.defers ∧ ∀ s v, s ≠ dslot → F.get s = some v → VRel σ v (a.tmps.getD s undef)

theorem beq_of {k s : Nat} (h : k = s) : Nat.beq k s = true := by subst h; exact Nat.beq_refl k
theorem beq_of_ne {k s : Nat} (h : k ≠ s) : Nat.beq k s = false := by
  cases e : Nat.beq k s with
  | false => rfl
  | true => exact absurd (Nat.eq_of_beq_eq_true e) h
theorem Fr.get_cons (k : Nat) (v : VV) (F : Fr) (s : Nat) : Fr.get ((k, v) :: F) s = if k = s then some v else F.get s := by
  simp only [Fr.get]
  by_cases h : k = s
  · simp [beq_of h, h]
  · simp [beq_of_ne h, h]
theorem Fr.get_filt : ∀ (F : Fr) (m r : Nat) (v : VV), (Fr.filt F m).get r = some v → F.get r = some v ∧ Nat.testBit m r = true
  | [], m, r, v, h => by simp [Fr.filt, Fr.get] at h
  | (k, u) :: F, m, r, v, h => by
    unfold Fr.filt at h
    have hb : Nat.beq (Nat.land (Nat.shiftRight m k) 1) 1 = Nat.testBit m k := by
      have e1 : Nat.land (Nat.shiftRight m k) 1 = (m >>> k) &&& 1 := rfl
      rw [e1, Nat.and_one_is_mod, Nat.testBit_eq_decide_div_mod_eq, Nat.shiftRight_eq_div_pow]
      by_cases hx : m / 2 ^ k % 2 = 1
      · rw [beq_of hx]; simp [hx]
      · rw [beq_of_ne hx]; simp [hx]
    rw [hb] at h
    rw [Fr.get_cons]
    cases ht : Nat.testBit m k with
    | false =>
      rw [ht] at h
      obtain ⟨h1, h2⟩ := Fr.get_filt F m r v h
      have : k ≠ r := by rintro rfl; rw [ht] at h2; cases h2
      rw [if_neg this]
      exact ⟨h1, h2⟩
    | true =>
      rw [ht] at h
      simp only [cond_true, Fr.get_cons] at h
      by_cases hk : k = r
      · subst hk; simp at h; subst h; simp [ht]
      · rw [if_neg hk] at h
        obtain ⟨h1, h2⟩ := Fr.get_filt F _ r v h
        rw [if_neg hk]
        refine ⟨h1, ?_⟩
        have e2 : Nat.xor m (Nat.shiftLeft 1 k) = m ^^^ (1 <<< k) := rfl
        rw [e2, Nat.testBit_xor, Nat.one_shiftLeft, Nat.testBit_two_pow_of_ne hk] at h2
        simpa using h2
theorem Fr.filt_get : ∀ (F : Fr) (m r : Nat) (v : VV), F.get r = some v → Nat.testBit m r = true → (Fr.filt F m).get r = some v
  | [], m, r, v, h, _ => by simp [Fr.get] at h
  | (k, u) :: F, m, r, v, h, hm => by
    unfold Fr.filt
    have hb : Nat.beq (Nat.land (Nat.shiftRight m k) 1) 1 = Nat.testBit m k := by
      have e1 : Nat.land (Nat.shiftRight m k) 1 = (m >>> k) &&& 1 := rfl
      rw [e1, Nat.and_one_is_mod, Nat.testBit_eq_decide_div_mod_eq, Nat.shiftRight_eq_div_pow]
      by_cases hx : m / 2 ^ k % 2 = 1
      · rw [beq_of hx]; simp [hx]
      · rw [beq_of_ne hx]; simp [hx]
    rw [hb]
    rw [Fr.get_cons] at h
    by_cases hk : k = r
    · subst hk
      rw [hm]
      simp only [cond_true, Fr.get_cons, if_true]
      simpa using h
    · rw [if_neg hk] at h
      cases ht : Nat.testBit m k with
      | false => exact Fr.filt_get F m r v h hm
      | true =>
        simp only [cond_true, Fr.get_cons]
        rw [if_neg hk]
        refine Fr.filt_get F _ r v h ?_
        have e2 : Nat.xor m (Nat.shiftLeft 1 k) = m ^^^ (1 <<< k) := rfl
        rw [e2, Nat.testBit_xor, Nat.one_shiftLeft, Nat.testBit_two_pow_of_ne hk, hm]
        rfl
theorem Fr.get_only (F : Fr) (m r : Nat) (v : VV) (h : (Fr.only F m).get r = some v) : F.get r = some v := by
  unfold Fr.only at h
  cases hm : Nat.beq m 0 <;> rw [hm] at h
  · exact (Fr.get_filt F _ r v h).1
  · exact h
theorem Fr.only_dslot (F : Fr) (m : Nat) : (Fr.only F m).get dslot = F.get dslot := by
  unfold Fr.only
  cases hm : Nat.beq m 0
  · simp only [cond_false]
    have hb : Nat.testBit (Nat.lor m (Nat.shiftLeft 1 dslot)) dslot = true := by
      have e2 : Nat.lor m (Nat.shiftLeft 1 dslot) = m ||| (1 <<< dslot) := rfl
      rw [e2, Nat.testBit_or, Nat.one_shiftLeft, Nat.testBit_two_pow_self]; simp
    cases hd : Fr.get F dslot with
    | none =>
      cases he : (Fr.filt F (Nat.lor m (Nat.shiftLeft 1 dslot))).get dslot with
      | none => rfl
      | some v => rw [(Fr.get_filt F _ _ _ he).1] at hd; cases hd
    | some u => exact Fr.filt_get F _ _ _ hd hb
  · rfl

theorem FRel.mono {σ τ : Sg} (hl : σ.le τ) {N : Nat} {F : Fr} {a : Act} (h : FRel σ N F a) : FRel τ N F a :=
  ⟨h.1, ⟨h.2.1.1, h.2.1.2.mono hl⟩, h.2.2.1.mono hl, fun s v hs e => (h.2.2.2 s v hs e).mono hl⟩
theorem FRel.only {σ : Sg} {N : Nat} {F : Fr} {a : Act} (h : FRel σ N F a) (l : Nat) : FRel σ N (F.only l) a :=
  ⟨h.1, h.2.1, by rw [Fr.only_dslot]; exact h.2.2.1, fun s v hs e => h.2.2.2 s v hs (Fr.get_only F l s v e)⟩
theorem put_defers (a : Act) (d : Option Tmp) (v : Value) : (a.put d v).defers = a.defers := by cases d <;> rfl
theorem FRel.put {σ : Sg} {N : Nat} {F : Fr} {a : Act} (h : FRel σ N F a) {d : Nat} (hd : d < N) {v : VV} {v' : Value} (hv : VRel σ v v') : FRel σ N ((d, v) :: F) (a.put (some d) v') := by
  refine ⟨by simp [Act.put, h.1], h.2.1, ?_, fun s u hs e => ?_⟩
  · rw [put_defers, Fr.get_cons, if_neg (by have := h.2.1.1; omega)]; exact h.2.2.1
  simp only [Fr.get_cons] at e
  have hd' : d < a.tmps.size := by rw [h.1]; exact hd
  by_cases hds : d = s
  · subst hds
    simp at e
    subst e
    simpa [Act.put, hd'] using hv
  · simp [hds] at e
    have := h.2.2.2 s u hs e
    simpa [Act.put, Array.getD_eq_getD_getElem?, Array.getElem?_setIfInBounds, hds] using this
theorem FRel.sub {σ : Sg} {N : Nat} {F G : Fr} {a : Act} (h : FRel σ N F a) (hd : G.get dslot = F.get dslot) (hs : ∀ s v, s ≠ dslot → G.get s = some v → F.get s = some v) : FRel σ N G a :=
  ⟨h.1, h.2.1, by rw [hd]; exact h.2.2.1, fun s v hn e => h.2.2.2 s v hn (hs s v hn e)⟩

/-! ### what a step may turn -/
/-- from one world to a later one: what σ told still stands; what lay outside (below B, or in no block that is told of) is as it was; what is told anew is new -/
structure Mv (B : Nat) (σ τ : Sg) (w w' : World) : Prop where
  le : σ.le τ
  bl : Below B w w'
  out : ∀ r, r < w.heap.size → (∀ i I, σ i = some I → I.real ≠ r) → w'.heap[r]? = w.heap[r]?
  new : ∀ i I, τ i = some I → (∃ j J, σ j = some J ∧ J.real = I.real) ∨ w.heap.size ≤ I.real
theorem Mv.refl (B : Nat) (σ : Sg) (w : World) : Mv B σ σ w w := ⟨Sg.le_refl _, Below.refl _ _, fun _ _ _ => rfl, fun i I h => .inl ⟨i, I, h, rfl⟩⟩
theorem Mv.trans {B : Nat} {σ τ υ : Sg} {w w1 w2 : World} (h : Mv B σ τ w w1) (k : Mv B τ υ w1 w2) : Mv B σ υ w w2 := by
  refine ⟨Sg.le_trans h.le k.le, h.bl.trans k.bl, fun r hr hn => ?_, fun i I hi => ?_⟩
  · rw [k.out r (Nat.lt_of_lt_of_le hr h.bl.size) fun i I hi => ?_, h.out r hr hn]
    rcases h.new i I hi with ⟨j, J, h1, h2⟩ | h1
    · rw [← h2]; exact hn j J h1
    · omega
  · rcases k.new i I hi with ⟨j, J, h1, h2⟩ | h1
    · rw [← h2]; exact h.new j J h1
    · exact .inr (Nat.le_trans h.bl.size h1)
/-- the heap is as it was -/
theorem Mv.same {B : Nat} {σ : Sg} {w w' : World} (hb : Below B w w') (h : w'.heap = w.heap) : Mv B σ σ w w' := ⟨Sg.le_refl _, hb, fun r _ _ => by rw [h], fun i I h => .inl ⟨i, I, h, rfl⟩⟩
end Go.Wm
