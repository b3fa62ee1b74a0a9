/- The canonical heap: values, blocks, and what they say of a world of the model. -/
import Derived.Calls
import Derived.Below
import Derived.Laws.World
import Derived.Laws.Sem
import Derived.Laws.Cells
import Derived.MapKept
import Derived.Laws.IdiomRangeMap
import Derived.Deep.Quiet
import Derived.StillTail
import Derived.KernelRfl
namespace Go.Vm
set_option linter.unusedSimpArgs false
set_option linter.unusedVariables false
open Go.RowKit

/-- a place: a block, an element of it, a cell of that element -/
structure PA where
  blk : Nat
  idx : Nat
  off : Nat

inductive VV where
  | undef
  | bool (b : Bool)
  | int (k : IntKind) (n : Int)
  | str (s : List UInt8)
  | ptr (p : Option PA)
  | sl (p : Option PA) (len cap : Nat)
  | fn (f : FuncId) (caps : List VV)
  | nilFn
  | agg (cs : List VV)
  | tup (vs : List VV)
  | map (p : Option Nat)
  deriving Inhabited

/-- may it stand in a cell? -/
def VV.cell : VV → Bool
  | .undef | .agg _ | .tup _ => false
  | _ => true

/-- its cells -/
def VV.cells : VV → List VV
  | .agg cs => cs
  | v => [v]

structure Info where
  real : Nat
  base : Nat
  esz : Nat
  n : Nat
  room : Option Nat

abbrev Sg := Nat → Option Info
def Sg.le (σ τ : Sg) : Prop := ∀ i I, σ i = some I → τ i = some I
theorem Sg.le_refl (σ : Sg) : σ.le σ := fun _ _ h => h
theorem Sg.le_trans {a b c : Sg} (h : a.le b) (k : b.le c) : a.le c := fun i I e => k i I (h i I e)

def Sg.place (σ : Sg) (p : PA) (a : Addr) : Prop := ∃ I, σ p.blk = some I ∧ a = ⟨I.real, I.base + p.idx * I.esz + p.off, none⟩

def SlRel (σ : Sg) (p : PA) (len cap : Nat) (a : Addr) (cap' : Nat) : Prop :=
  len ≤ cap ∧ ((σ.place p a ∧ cap' = cap) ∨
    (∃ I m, σ p.blk = some I ∧ I.room = some m ∧ p.off = 0 ∧ σ.place p a ∧ p.idx + cap = I.n ∧ p.idx + cap' = m ∧ cap ≤ cap') ∨
    (cap = 0 ∧ cap' = 0 ∧ ∃ I, σ p.blk = some I))

mutual
inductive VRel (σ : Sg) : VV → Value → Prop
  | undef (v : Value) : VRel σ .undef v
  | bool (b : Bool) : VRel σ (.bool b) (.bool b)
  | int (k : IntKind) (n : Int) : VRel σ (.int k n) (.int k n)
  | str (s : List UInt8) : VRel σ (.str s) (.string ⟨s.toArray⟩)
  | ptrNil : VRel σ (.ptr none) (.pointer none)
  | ptr {p : PA} {a : Addr} (h : σ.place p a) : VRel σ (.ptr (some p)) (.pointer (some a))
  | slNil : VRel σ (.sl none 0 0) (.slice none 0 0)
  | sl {p : PA} {len cap : Nat} {a : Addr} {cap' : Nat} (h : SlRel σ p len cap a cap') : VRel σ (.sl (some p) len cap) (.slice (some a) len cap')
  | fn {f : FuncId} {caps : List VV} {caps' : Array Value} (h : LRel σ caps caps'.toList) : VRel σ (.fn f caps) (.func (.func f) #[] caps')
  | nilFn : VRel σ .nilFn .nilFunc
  | agg {cs : List VV} {cs' : Array Value} (h : LRel σ cs cs'.toList) : VRel σ (.agg cs) (.agg cs')
  | tup {cs : List VV} {cs' : Array Value} (h : LRel σ cs cs'.toList) : VRel σ (.tup cs) (.tuple cs')
  | mapNil : VRel σ (.map none) (.map none)
  | map {b : Nat} {I : Info} (h : σ b = some I) : VRel σ (.map (some b)) (.map (some I.real))
inductive LRel (σ : Sg) : List VV → List Value → Prop
  | nil : LRel σ [] []
  | cons {v : VV} {v' : Value} {l : List VV} {l' : List Value} (h : VRel σ v v') (t : LRel σ l l') : LRel σ (v :: l) (v' :: l')
end

theorem SlRel.mono {σ τ : Sg} (hl : σ.le τ) {p : PA} {len cap : Nat} {a : Addr} {cap' : Nat} (h : SlRel σ p len cap a cap') : SlRel τ p len cap a cap' := by
  obtain ⟨h0, h⟩ := h
  refine ⟨h0, ?_⟩
  rcases h with ⟨⟨I, h1, h2⟩, h3⟩ | ⟨I, m, h1, h2, h3, ⟨J, h4, h5⟩, h6, h7, h8⟩ | h
  · exact .inl ⟨⟨I, hl _ _ h1, h2⟩, h3⟩
  · exact .inr (.inl ⟨I, m, hl _ _ h1, h2, h3, ⟨J, hl _ _ h4, h5⟩, h6, h7, h8⟩)
  · exact .inr (.inr ⟨h.1, h.2.1, let ⟨I, e⟩ := h.2.2; ⟨I, hl _ _ e⟩⟩)

mutual
theorem VRel.mono {σ τ : Sg} (hl : σ.le τ) : ∀ {v : VV} {v' : Value}, VRel σ v v' → VRel τ v v'
  | _, _, .undef v => .undef v
  | _, _, .bool b => .bool b
  | _, _, .int k n => .int k n
  | _, _, .str s => .str s
  | _, _, .ptrNil => .ptrNil
  | _, _, .ptr h => .ptr (let ⟨I, h1, h2⟩ := h; ⟨I, hl _ _ h1, h2⟩)
  | _, _, .slNil => .slNil
  | _, _, .sl h => .sl (h.mono hl)
  | _, _, .fn h => .fn (LRel.mono hl h)
  | _, _, .nilFn => .nilFn
  | _, _, .agg h => .agg (LRel.mono hl h)
  | _, _, .tup h => .tup (LRel.mono hl h)
  | _, _, .mapNil => .mapNil
  | _, _, .map h => .map (hl _ _ h)
theorem LRel.mono {σ τ : Sg} (hl : σ.le τ) : ∀ {v : List VV} {v' : List Value}, LRel σ v v' → LRel τ v v'
  | _, _, .nil => .nil
  | _, _, .cons h t => .cons (VRel.mono hl h) (LRel.mono hl t)
end

theorem LRel.length {σ : Sg} : ∀ {l : List VV} {l' : List Value}, LRel σ l l' → l.length = l'.length
  | _, _, .nil => rfl
  | _, _, .cons _ t => by simp [LRel.length t]
theorem LRel.get {σ : Sg} : ∀ {l : List VV} {l' : List Value}, LRel σ l l' → ∀ {i : Nat} {v : VV}, l[i]? = some v → ∃ v', l'[i]? = some v' ∧ VRel σ v v'
  | _, _, .nil, i, v, h => by simp at h
  | _, _, .cons h t, 0, v, e => by simp at e; subst e; exact ⟨_, by simp, h⟩
  | _, _, .cons h t, i + 1, v, e => by simp at e; obtain ⟨v', h1, h2⟩ := LRel.get t e; exact ⟨v', by simpa using h1, h2⟩
theorem LRel.of_get {σ : Sg} : ∀ {l : List VV} {l' : List Value}, l.length = l'.length → (∀ (i : Nat) v, l[i]? = some v → ∃ v', l'[i]? = some v' ∧ VRel σ v v') → LRel σ l l'
  | [], [], _, _ => .nil
  | v :: l, v' :: l', hl, h => .cons (by obtain ⟨x, h1, h2⟩ := h 0 v (by simp); simp at h1; subst h1; exact h2)
      (LRel.of_get (by simpa using hl) fun i u hu => by obtain ⟨x, h1, h2⟩ := h (i + 1) u (by simpa using hu); exact ⟨x, by simpa using h1, h2⟩)
  | [], _ :: _, h, _ => by simp at h
  | _ :: _, [], h, _ => by simp at h
theorem LRel.append {σ : Sg} : ∀ {l m : List VV} {l' m' : List Value}, LRel σ l l' → LRel σ m m' → LRel σ (l ++ m) (l' ++ m')
  | _, _, _, _, .nil, k => k
  | _, _, _, _, .cons h t, k => .cons h (LRel.append t k)

theorem VRel.oneCell {σ : Sg} {v : VV} {v' : Value} (h : VRel σ v v') (hc : v.cell = true) : v'.oneCell' = true := by
  cases h <;> first | rfl | simp [VV.cell] at hc
theorem VRel.cellsOne {σ : Sg} {v : VV} {v' : Value} (h : VRel σ v v') (hc : v.cell = true) : v'.cells = #[v'] ∧ v.cells = [v] := by
  cases h <;> first | exact ⟨rfl, rfl⟩ | simp [VV.cell] at hc

/-! ### blocks -/
/-- a block that came in and is only read; one of the call's own; one of the call's own that may have more room than is told -/
inductive Mode where
  | ro | own | loose
  deriving DecidableEq, Inhabited
/-- a map: its entries in the order in which they were laid; a loop over a map: which map, how many entries it had, which were handed out -/
inductive MOb where
  | map (es : List (VV × VV))
  | iter (m n : Nat) (seen : List Nat)
  deriving Inhabited
inductive Blk where
  | dead
  | row (t : TypeId) (md : Mode) (es : List (List VV))
  | obj (o : MOb)
  deriving Inhabited

def ObRel (σ : Sg) : MOb → Obj → Prop
  | .map es, .map cur clk => clk = es.length ∧ cur.size = es.length ∧ ∀ (k : Nat) e, es[k]? = some e → ∃ e', cur[k]? = some e' ∧ e'.born = k ∧ VRel σ e.1 e'.key ∧ VRel σ e.2 e'.val
  | .iter m n seen, .mapIter r since s st => (∃ J, σ m = some J ∧ r = some J.real) ∧ since = n ∧ st = n ∧ s.toList = seen
  | _, _ => False
theorem ObRel.mono {σ τ : Sg} (hl : σ.le τ) {o : MOb} {ho : Obj} (h : ObRel σ o ho) : ObRel τ o ho := by
  cases o <;> cases ho <;> simp only [ObRel] at h ⊢ <;> try exact h
  · obtain ⟨h1, h2, h3⟩ := h
    exact ⟨h1, h2, fun k e he => let ⟨e', q1, q2, q3, q4⟩ := h3 k e he; ⟨e', q1, q2, q3.mono hl, q4.mono hl⟩⟩
  · obtain ⟨⟨J, h1, h2⟩, h3⟩ := h
    exact ⟨⟨J, hl _ _ h1, h2⟩, h3⟩
theorem ObRel.noCells {σ : Sg} {o : MOb} {cur : Array Value} {t : TypeId} {fr : Nat × Nat} (h : ObRel σ o (.cells cur t fr)) : False := by
  cases o <;> simp [ObRel] at h

abbrev Hp := List Blk

structure RowOk (σ : Sg) (B : Nat) (w : World) (i : Nat) (t : TypeId) (md : Mode) (es : List (List VV)) (I : Info) : Prop where
  here : σ i = some I
  lt : I.real < w.heap.size
  len : es.length = I.n
  esz : ∀ e ∈ es, e.length = I.esz
  cell : ∀ k e j v, es[k]? = some e → e[j]? = some v → v.cell = true ∧ ∃ v', w.cell? ⟨I.real, I.base + k * I.esz + j, none⟩ = some v' ∧ VRel σ v v'
  old : md = .ro → I.real < B ∧ I.room = none
  own : md ≠ .ro → B ≤ I.real ∧ (md = .own → I.room = none) ∧ (md = .loose → ∃ m, I.room = some m ∧ I.n ≤ m) ∧
    ∃ cur, w.heap[I.real]? = some (.cells cur t (0, 0)) ∧ cur.size = I.base + I.room.getD I.n * I.esz

structure HRel (σ : Sg) (B : Nat) (H : Hp) (w : World) : Prop where
  base : B ≤ w.heap.size
  dom : ∀ i I, σ i = some I → i < H.length
  rows : ∀ (i : Nat) t md es, H[i]? = some (Blk.row t md es) → ∃ I, RowOk σ B w i t md es I
  inj : ∀ (i j : Nat) ti mi esi tj mj esj Ii Ij, H[i]? = some (Blk.row ti mi esi) → mi ≠ .ro → H[j]? = some (Blk.row tj mj esj) → σ i = some Ii → σ j = some Ij → Ii.real = Ij.real → i = j
  objs : ∀ (i : Nat) o, H[i]? = some (Blk.obj o) → ∃ I ho, σ i = some I ∧ B ≤ I.real ∧ I.base = 0 ∧ w.heap[I.real]? = some ho ∧ ObRel σ o ho
  oinj : ∀ (i j : Nat) o o' I J, H[i]? = some (Blk.obj o) → H[j]? = some (Blk.obj o') → σ i = some I → σ j = some J → I.real = J.real → i = j

/-! ### frames -/
abbrev Fr := List (Nat × VV)
def Fr.get : Fr → Nat → Option VV
  | [], _ => none
  | (k, v) :: r, s => if k = s then some v else Fr.get r s
def Fr.set : Fr → Nat → VV → Fr
  | [], s, v => [(s, v)]
  | (k, u) :: r, s, v => if k = s then (s, v) :: r else (k, u) :: Fr.set r s v
def Fr.outs (F E : Fr) : List Nat → Fr
  | [] => F
  | s :: r => Fr.outs (match Fr.get E s with | some v => Fr.set F s v | none => F) E r
def Fr.only (F : Fr) : List Nat → Fr
  | [] => []
  | s :: r => match Fr.get F s with | some v => (s, v) :: Fr.only F r | none => Fr.only F r

def FRel (σ : Sg) (N : Nat) (F : Fr) (a : Act) : Prop :=
  a.tmps.size = N ∧ a.defers = [] ∧ ∀ s v, F.get s = some v → VRel σ v (a.tmps.getD s undef)

theorem Fr.get_set (F : Fr) (s : Nat) (v : VV) (r : Nat) : (Fr.set F s v).get r = if s = r then some v else F.get r := by
  induction F with
  | nil => simp [Fr.set, Fr.get]
  | cons x F ih =>
    obtain ⟨k, u⟩ := x
    unfold Fr.set
    by_cases h : k = s
    · subst h; simp only [if_true, Fr.get]; by_cases h2 : k = r <;> simp [h2]
    · simp only [h, if_false, Fr.get, ih]
      by_cases h2 : k = r
      · subst h2; simp [Ne.symm h]
      · simp [h2]
theorem Fr.get_outs (E : Fr) : ∀ (l : List Nat) (F : Fr) (r : Nat) (v : VV), (Fr.outs F E l).get r = some v → (∃ u, E.get r = some u ∧ u = v) ∨ F.get r = some v
  | [], F, r, v, h => .inr h
  | s :: l, F, r, v, h => by
    unfold Fr.outs at h
    rcases Fr.get_outs E l _ r v h with h | h
    · exact .inl h
    · cases he : Fr.get E s with
      | none => rw [he] at h; exact .inr h
      | some u =>
        rw [he] at h
        simp only [Fr.get_set] at h
        by_cases hs : s = r
        · subst hs; simp at h; exact .inl ⟨u, he, h⟩
        · simp [hs] at h; exact .inr h
theorem Fr.get_only (F : Fr) : ∀ (l : List Nat) (r : Nat) (v : VV), (Fr.only F l).get r = some v → F.get r = some v
  | [], r, v, h => by simp [Fr.only, Fr.get] at h
  | s :: l, r, v, h => by
    unfold Fr.only at h
    cases he : Fr.get F s with
    | none => rw [he] at h; exact Fr.get_only F l r v h
    | some u =>
      rw [he] at h
      simp only [Fr.get] at h
      by_cases hs : s = r
      · subst hs; simp at h; subst h; exact he
      · simp [hs] at h; exact Fr.get_only F l r v h

theorem FRel.mono {σ τ : Sg} (hl : σ.le τ) {N : Nat} {F : Fr} {a : Act} (h : FRel σ N F a) : FRel τ N F a :=
  ⟨h.1, h.2.1, fun s v e => (h.2.2 s v e).mono hl⟩
theorem FRel.only {σ : Sg} {N : Nat} {F : Fr} {a : Act} (h : FRel σ N F a) (l : List Nat) : FRel σ N (F.only l) a :=
  ⟨h.1, h.2.1, fun s v e => h.2.2 s v (Fr.get_only F l s v e)⟩
theorem FRel.put {σ : Sg} {N : Nat} {F : Fr} {a : Act} (h : FRel σ N F a) {d : Nat} (hd : d < N) {v : VV} {v' : Value} (hv : VRel σ v v') : FRel σ N ((d, v) :: F) (a.put (some d) v') := by
  refine ⟨by simp [Act.put, h.1], h.2.1, fun s u e => ?_⟩
  simp only [Fr.get] at e
  have hd' : d < a.tmps.size := by rw [h.1]; exact hd
  by_cases hs : d = s
  · subst hs
    simp at e
    subst e
    simpa [Act.put, hd'] using hv
  · simp [hs] at e
    have := h.2.2 s u e
    simpa [Act.put, Array.getD_eq_getD_getElem?, Array.getElem?_setIfInBounds, hs] using this
theorem FRel.sub {σ : Sg} {N : Nat} {F G : Fr} {a : Act} (h : FRel σ N F a) (hs : ∀ s v, G.get s = some v → F.get s = some v) : FRel σ N G a :=
  ⟨h.1, h.2.1, fun s v e => h.2.2 s v (hs s v e)⟩
end Go.Vm
