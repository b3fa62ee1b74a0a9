/- What comes in: a reading of the arguments becomes rows of the canonical heap that are only read. -/
import Derived.Test.YtbcaceeiehjplacGreatDoorWmY
import Derived.Deep.Slices
namespace Go.Wm
set_option linter.unusedSimpArgs false
set_option linter.unusedVariables false
open Go.RowKit

section
variable {P : Program} {σ : Sg} {B : Nat} {H : Hp} {w : World}

theorem HRel.pushRo (h : HRel P σ B H w) (t : TypeId) (es : List (List VV)) (I : Info) (hI : I.real < B) (hroom : I.room = none) (hn : es.length = I.n) (hz : ∀ e ∈ es, e.length = I.esz)
    (hcell : ∀ (k : Nat) e (j : Nat) v, es[k]? = some e → e[j]? = some v → v.cell = true ∧ ∃ v', w.cell? ⟨I.real, I.base + k * I.esz + j, none⟩ = some v' ∧ VRel σ v v') :
    HRel P (σ.push H.length I) B (H ++ [.row t .ro es]) w := by
  have hle := Sg.le_push (I := I) h.fresh
  have hself : σ.push H.length I H.length = some I := by simp [Sg.push]
  have hold : ∀ k, k ≠ H.length → σ.push H.length I k = σ k := fun k hk => by simp [Sg.push, hk]
  have part : ∀ (k : Nat) tk mk ek, (H ++ [Blk.row t .ro es])[k]? = some (Blk.row tk mk ek) → (k = H.length ∧ tk = t ∧ mk = .ro ∧ ek = es) ∨ (k < H.length ∧ H[k]? = some (Blk.row tk mk ek)) := by
    intro k tk mk ek hk
    rcases Nat.lt_or_ge k H.length with hlt | hge
    · rw [List.getElem?_append_left hlt] at hk; exact .inr ⟨hlt, hk⟩
    · rw [List.getElem?_append_right hge] at hk
      have hk0 : k - H.length = 0 := by
        rcases Nat.eq_zero_or_pos (k - H.length) with h0 | h0
        · exact h0
        · rw [List.getElem?_eq_none (by simp; omega)] at hk; cases hk
      rw [hk0] at hk
      obtain ⟨rfl, rfl, rfl⟩ : t = tk ∧ Mode.ro = mk ∧ es = ek := by simpa using hk
      exact .inl ⟨by omega, rfl, rfl, rfl⟩
  have partO : ∀ (k : Nat) o, (H ++ [Blk.row t .ro es])[k]? = some (Blk.obj o) → k < H.length ∧ H[k]? = some (Blk.obj o) := by
    intro k o hk
    rcases Nat.lt_or_ge k H.length with hlt | hge
    · rw [List.getElem?_append_left hlt] at hk; exact ⟨hlt, hk⟩
    · rw [List.getElem?_append_right hge] at hk
      cases hk0 : k - H.length with
      | zero => rw [hk0] at hk; simp at hk
      | succ z => rw [hk0] at hk; simp at hk
  refine ⟨h.base, fun k K hk => ?_, fun k tk mk ek hk => ?_, fun k j tk mk ek tj mj ej Ik Ij hk hmk hj hσk hσj hreal => ?_, fun k o hk => ?_, fun k j o o' Ik Ij hk hj hσk hσj hreal => ?_, h.glob.mono hle, fun k K hk => ?_⟩
  rotate_right 1
  · by_cases hkl : k = H.length
    · subst hkl
      simp [Sg.push] at hk
      subst hk
      exact Nat.lt_of_lt_of_le hI h.base
    · rw [hold k hkl] at hk
      exact h.fit k K hk
  rotate_right 2
  · obtain ⟨hlt, hk'⟩ := partO k o hk
    obtain ⟨J, ho, j1, j2, j3, j4, j5⟩ := h.objs k o hk'
    exact ⟨J, ho, hle _ _ j1, j2, j3, j4, j5.mono hle⟩
  · obtain ⟨hlt, hk'⟩ := partO k o hk
    obtain ⟨hlt2, hj'⟩ := partO j o' hj
    rw [hold k (by omega)] at hσk
    rw [hold j (by omega)] at hσj
    exact h.oinj k j o o' Ik Ij hk' hj' hσk hσj hreal
  · by_cases hkl : k = H.length
    · subst hkl; simp
    · rw [hold k hkl] at hk
      have := h.dom k K hk
      simp; omega
  · rcases part k tk mk ek hk with ⟨rfl, rfl, rfl, rfl⟩ | ⟨hlt, hk'⟩
    · refine ⟨I, hself, Nat.lt_of_lt_of_le hI h.base, hn, hz, fun a e j v he hv => ?_, fun _ => ⟨hI, hroom⟩, fun h' => absurd rfl h'⟩
      obtain ⟨h1, v', h2, h3⟩ := hcell a e j v he hv
      exact ⟨h1, v', h2, h3.mono hle⟩
    · obtain ⟨K, hK⟩ := h.rows k tk mk ek hk'
      refine ⟨K, hle _ _ hK.here, hK.lt, hK.len, hK.esz, fun a e j v he hv => ?_, hK.old, hK.own⟩
      obtain ⟨h1, v', h2, h3⟩ := hK.cell a e j v he hv
      exact ⟨h1, v', h2, h3.mono hle⟩
  · rcases part k tk mk ek hk with ⟨rfl, _, rfl, _⟩ | ⟨hlt, hk'⟩
    · exact absurd rfl hmk
    · rw [hold k (by omega)] at hσk
      obtain ⟨K, hK⟩ := h.rows k tk mk ek hk'
      have hKI : K = Ik := Option.some.inj (hK.here.symm.trans hσk)
      subst hKI
      rcases part j tj mj ej hj with ⟨rfl, _⟩ | ⟨hlt', hj'⟩
      · rw [hself] at hσj; cases hσj
        have := (hK.own hmk).1
        omega
      · rw [hold j (by omega)] at hσj
        exact h.inj k j tk mk ek tj mj ej K Ij hk' hmk hj' hσk hσj hreal

theorem HRel.pushDead (h : HRel P σ B H w) (I : Info) (hI : I.real < w.heap.size) : HRel P (σ.push H.length I) B (H ++ [.dead]) w := by
  have hle := Sg.le_push (I := I) h.fresh
  have hold : ∀ k, k ≠ H.length → σ.push H.length I k = σ k := fun k hk => by simp [Sg.push, hk]
  have part : ∀ (k : Nat) tk mk ek, (H ++ [Blk.dead])[k]? = some (Blk.row tk mk ek) → k < H.length ∧ H[k]? = some (Blk.row tk mk ek) := by
    intro k tk mk ek hk
    rcases Nat.lt_or_ge k H.length with hlt | hge
    · rw [List.getElem?_append_left hlt] at hk; exact ⟨hlt, hk⟩
    · rw [List.getElem?_append_right hge] at hk
      have hk0 : k - H.length = 0 := by
        rcases Nat.eq_zero_or_pos (k - H.length) with h0 | h0
        · exact h0
        · rw [List.getElem?_eq_none (by simp; omega)] at hk; cases hk
      rw [hk0] at hk
      simp at hk
  have partO : ∀ (k : Nat) o, (H ++ [Blk.dead])[k]? = some (Blk.obj o) → k < H.length ∧ H[k]? = some (Blk.obj o) := by
    intro k o hk
    rcases Nat.lt_or_ge k H.length with hlt | hge
    · rw [List.getElem?_append_left hlt] at hk; exact ⟨hlt, hk⟩
    · rw [List.getElem?_append_right hge] at hk
      cases hk0 : k - H.length with
      | zero => rw [hk0] at hk; simp at hk
      | succ z => rw [hk0] at hk; simp at hk
  refine ⟨h.base, fun k K hk => ?_, fun k tk mk ek hk => ?_, fun k j tk mk ek tj mj ej Ik Ij hk hmk hj hσk hσj hreal => ?_, fun k o hk => ?_, fun k j o o' Ik Ij hk hj hσk hσj hreal => ?_, h.glob.mono hle, fun k K hk => ?_⟩
  rotate_right 1
  · by_cases hkl : k = H.length
    · subst hkl
      simp [Sg.push] at hk
      subst hk
      exact hI
    · rw [hold k hkl] at hk
      exact h.fit k K hk
  rotate_right 2
  · obtain ⟨hlt, hk'⟩ := partO k o hk
    obtain ⟨J, ho, j1, j2, j3, j4, j5⟩ := h.objs k o hk'
    exact ⟨J, ho, hle _ _ j1, j2, j3, j4, j5.mono hle⟩
  · obtain ⟨hlt, hk'⟩ := partO k o hk
    obtain ⟨hlt2, hj'⟩ := partO j o' hj
    rw [hold k (by omega)] at hσk
    rw [hold j (by omega)] at hσj
    exact h.oinj k j o o' Ik Ij hk' hj' hσk hσj hreal
  · by_cases hkl : k = H.length
    · subst hkl; simp
    · rw [hold k hkl] at hk
      have := h.dom k K hk
      simp; omega
  · obtain ⟨hlt, hk'⟩ := part k tk mk ek hk
    obtain ⟨K, hK⟩ := h.rows k tk mk ek hk'
    refine ⟨K, hle _ _ hK.here, hK.lt, hK.len, hK.esz, fun a e j v he hv => ?_, hK.old, hK.own⟩
    obtain ⟨h1, v', h2, h3⟩ := hK.cell a e j v he hv
    exact ⟨h1, v', h2, h3.mono hle⟩
  · obtain ⟨hlt, hk'⟩ := part k tk mk ek hk
    obtain ⟨hlt', hj'⟩ := part j tj mj ej hj
    rw [hold k (by omega)] at hσk
    rw [hold j (by omega)] at hσj
    exact h.inj k j tk mk ek tj mj ej Ik Ij hk' hmk hj' hσk hσj hreal
end

/-! ### what a reading becomes -/
inductive Rd {D : Type} (P : Program) (H : Hp) : TypeId → List VV → DataW D → Prop
  | bool {t : TypeId} (ht : P.underlying t = some .bool) (b : Bool) : Rd P H t [.bool b] (.lit (.bool b))
  | int {t : TypeId} {k : IntKind} {n : Int} (ht : P.underlying t = some (.int k)) (hw : (Lit.int k n).wf = true) : Rd P H t [.int k n] (.lit (.int k n))
  | str {t : TypeId} {s : List UInt8} (ht : P.underlying t = some .string) (hs : s.length ≤ maxLen) : Rd P H t [.str s] (.lit (.string s))
  | nil {t e : TypeId} (ht : P.underlying t = some (.slice e)) : Rd P H t [.sl none 0 0] .nil
  | sl {t e : TypeId} (ht : P.underlying t = some (.slice e)) (b len cap : Nat) (es : List (List VV)) (ds rest : List (DataW D)) (hlc : len ≤ cap) (hm : cap ≤ maxLen) (hd : ds.length = len) (hr : rest.length = cap - len)
      (hrow : 0 < cap → H[b]? = some (.row e .ro es)) (hes : es.length = cap) (hln : ∀ c ∈ es, c.length = P.cellsOf e) (hel : ∀ (i : Nat) c d, es[i]? = some c → (ds ++ rest)[i]? = some d → Rd P H e c d) : Rd P H t [.sl (some ⟨b, 0, 0⟩) len cap] (.slice ds rest)
  | struct {t : TypeId} {fs : Array Field} (ht : P.underlying t = some (.struct fs)) (ps : List (List VV)) (ds : List (DataW D)) (hp : ps.length = fs.size) (hd : ds.length = fs.size)
      (hln : ∀ (i : Nat) (f : Field) p, fs[i]? = some f → ps[i]? = some p → p.length = P.cellsOf f.type) (h : ∀ (i : Nat) (f : Field) p d, fs[i]? = some f → ps[i]? = some p → ds[i]? = some d → Rd P H f.type p d) : Rd P H t ps.flatten (.agg ds)

theorem Rd.mono {D : Type} {P : Program} {H : Hp} (G : Hp) {t : TypeId} {vs : List VV} {d : DataW D} (h : Rd P H t vs d) : Rd P (H ++ G) t vs d := by
  induction h with
  | bool ht b => exact .bool ht b
  | int ht hw => exact .int ht hw
  | str ht hs => exact .str ht hs
  | nil ht => exact .nil ht
  | sl ht b len cap es ds rest hlc hm hd hr hrow hes hln hel ih =>
    exact .sl ht b len cap es ds rest hlc hm hd hr (fun hc => by
      have := hrow hc
      rw [List.getElem?_append_left (List.getElem?_eq_some_iff.1 this).1]; exact this) hes hln ih
  | struct ht ps ds hp hd hln h ih => exact .struct ht ps ds hp hd hln ih

/-- the fields lie one behind the other -/
def contB (P : Program) : Nat → List Field → Option Nat
  | o, [] => some o
  | o, f :: fs => if f.offset = o then contB P (o + P.cellsOf f.type) fs else none
def plainB (P : Program) : Nat → TypeId → Bool
  | 0, _ => false
  | d + 1, t => match P.underlying t with
    | some .bool | some (.int _) | some .string => true
    | some (.slice e) => plainB P d e && decide (0 < P.cellsOf e)
    | some (.struct fs) => fs.toList.all (fun f => plainB P d f.type) && decide (contB P 0 fs.toList = some (P.cellsOf t))
    | _ => false

section
variable {D : Type} {enc : TypeId × Value → D} {P : Program} {W : World} {held : Bool}

def Opens (enc : TypeId × Value → D) (P : Program) (W : World) (held : Bool) (fuel : Nat) (t : TypeId) : Prop :=
  ∀ (cs : List Value) (x : DataW D × List MemPlace) (σ : Sg) (H : Hp), DataW.trod enc P W 0 (fun _ => true) held fuel t cs = some x → HRel P σ W.heap.size H W →
    ∃ σ' G vs, σ.le σ' ∧ HRel P σ' W.heap.size (H ++ G) W ∧ LRel σ' vs cs ∧ (∀ v ∈ vs, v.cell = true) ∧ Rd P (H ++ G) t vs x.1

theorem opens_many {fuel : Nat} {e : TypeId} (ih : Opens enc P W held fuel e) (css : Nat → List Value) (xs : Nat → DataW D × List MemPlace) (m : Nat) (hx : ∀ i, i < m → DataW.trod enc P W 0 (fun _ => true) held fuel e (css i) = some (xs i)) {σ : Sg} {H : Hp} (hH : HRel P σ W.heap.size H W) :
    ∀ k, k ≤ m → ∃ (σ' : Sg) (G : Hp) (ces : List (List VV)), σ.le σ' ∧ HRel P σ' W.heap.size (H ++ G) W ∧ ces.length = k ∧
      ∀ (i : Nat) c, ces[i]? = some c → LRel σ' c (css i) ∧ (∀ v ∈ c, v.cell = true) ∧ Rd P (H ++ G) e c (xs i).1
  | 0, _ => ⟨σ, [], [], Sg.le_refl _, by simpa using hH, rfl, fun i c h => by simp at h⟩
  | k + 1, hk => by
    obtain ⟨σ1, G1, ces, q1, q2, q3, q4⟩ := opens_many ih css xs m hx hH k (by omega)
    obtain ⟨σ2, G2, vs, r1, r2, r3, r4, r5⟩ := ih _ _ σ1 (H ++ G1) (hx k (by omega)) q2
    refine ⟨σ2, G1 ++ G2, ces ++ [vs], Sg.le_trans q1 r1, by rw [← List.append_assoc]; exact r2, by simp [q3], fun i c hc => ?_⟩
    rw [← List.append_assoc]
    rcases Nat.lt_or_ge i ces.length with hi | hi
    · rw [List.getElem?_append_left hi] at hc
      obtain ⟨s1, s2, s3⟩ := q4 i c hc
      exact ⟨s1.mono r1, s2, s3.mono G2⟩
    · rw [List.getElem?_append_right hi] at hc
      have hi0 : i - ces.length = 0 := by
        rcases Nat.eq_zero_or_pos (i - ces.length) with h0 | h0
        · exact h0
        · rw [List.getElem?_eq_none (by simp; omega)] at hc; cases hc
      rw [hi0] at hc
      simp at hc
      subst hc
      have : i = k := by omega
      subst this
      exact ⟨r3, r4, r5⟩

theorem opens_fields {fuel : Nat} {cs : List Value} : ∀ (fs : List Field) (_ : ∀ f ∈ fs, Opens enc P W held fuel f.type) (xs : List (DataW D × List MemPlace)) (_ : xs.length = fs.length)
    (_ : ∀ (i : Nat) (f : Field), fs[i]? = some f → DataW.trod enc P W 0 (fun _ => true) held fuel f.type ((cs.drop f.offset).take (P.cellsOf f.type)) = xs[i]?) (o z : Nat) (_ : contB P o fs = some z) (_ : z ≤ cs.length)
    {σ : Sg} {H : Hp} (_ : HRel P σ W.heap.size H W),
    o ≤ z ∧ ∃ (σ' : Sg) (G : Hp) (ps : List (List VV)), σ.le σ' ∧ HRel P σ' W.heap.size (H ++ G) W ∧ ps.length = fs.length ∧ LRel σ' ps.flatten ((cs.drop o).take (z - o)) ∧ (∀ v ∈ ps.flatten, v.cell = true) ∧
      (∀ (i : Nat) (f : Field) p, fs[i]? = some f → ps[i]? = some p → p.length = P.cellsOf f.type) ∧ ∀ (i : Nat) (f : Field) p d, fs[i]? = some f → ps[i]? = some p → (xs.map (·.1))[i]? = some d → Rd P (H ++ G) f.type p d
  | [], _, xs, _, _, o, z, hc, _, σ, H, hH => by
    simp [contB] at hc
    subst hc
    exact ⟨Nat.le_refl _, σ, [], [], Sg.le_refl _, by simpa using hH, rfl, by simp; exact .nil, by simp, by simp, by simp⟩
  | f :: fs, ih, [], hl, _, o, z, _, _, _, _, _ => by simp at hl
  | f :: fs, ih, x :: xs, hl, hx, o, z, hc, hz, σ, H, hH => by
    simp only [contB] at hc
    split at hc
    case isFalse => cases hc
    rename_i ho
    subst ho
    have h0 := hx 0 f (by simp)
    simp only [List.getElem?_cons_zero] at h0
    obtain ⟨σ1, G1, vs, q1, q2, q3, q4, q5⟩ := ih f (by simp) _ _ σ H h0 hH
    obtain ⟨hoz, σ2, G2, ps, r1, r2, r3, r4, r5, r6, r7⟩ := opens_fields fs (fun g hg => ih g (by simp [hg])) xs (by simpa using hl) (fun i g hg => by have := hx (i + 1) g (by simpa using hg); simpa using this) _ z hc hz q2
    refine ⟨by omega, σ2, G1 ++ G2, vs :: ps, Sg.le_trans q1 r1, by rw [← List.append_assoc]; exact r2, by simp [r3], ?_, ?_, ?_, ?_⟩
    · have hsplit : (cs.drop f.offset).take (z - f.offset) = (cs.drop f.offset).take (P.cellsOf f.type) ++ (cs.drop (f.offset + P.cellsOf f.type)).take (z - (f.offset + P.cellsOf f.type)) := by
        rw [← List.drop_drop, ← List.take_add]
        congr 1
        omega
      rw [List.flatten_cons, hsplit]
      exact (q3.mono r1).append r4
    · intro v hv
      rw [List.flatten_cons] at hv
      rcases List.mem_append.1 hv with hv | hv
      · exact q4 v hv
      · exact r5 v hv
    · intro i g p hg hp
      cases i with
      | zero =>
        simp at hg hp
        subst hg hp
        have := q3.length
        rw [this]
        simp
        omega
      | succ i => exact r6 i g p (by simpa using hg) (by simpa using hp)
    · intro i g p d hg hp hd
      rw [← List.append_assoc]
      cases i with
      | zero => simp at hg hp hd; subst hg hp hd; exact q5.mono G2
      | succ i => exact r7 i g p d (by simpa using hg) (by simpa using hp) (by simpa using hd)

theorem opens (hpos : 0 < W.heap.size) : ∀ (fuel : Nat) (d : Nat) (t : TypeId), plainB P d t = true → Opens enc P W held fuel t := by
  intro fuel
  induction fuel with
  | zero => intro d t _ cs x σ H h _; simp [DataW.trod] at h
  | succ fuel ih =>
    intro d t hp cs x σ H h hH
    cases d with
    | zero => cases hp
    | succ d =>
      unfold plainB at hp
      split at hp
      · rename_i ht
        obtain ⟨b, rfl, rfl⟩ := DataW.trod_bool ht h
        exact ⟨σ, [], [.bool b], Sg.le_refl _, by simpa using hH, .cons (.bool b) .nil, by simp [VV.cell], .bool ht b⟩
      · rename_i k ht
        obtain ⟨n, rfl, rfl, hw⟩ := DataW.trod_int ht h
        exact ⟨σ, [], [.int k n], Sg.le_refl _, by simpa using hH, .cons (.int k n) .nil, by simp [VV.cell], .int ht hw⟩
      · rename_i ht
        obtain ⟨s, rfl, rfl, hs⟩ := DataW.trod_string ht h
        refine ⟨σ, [], [.str s.data.toList], Sg.le_refl _, by simpa using hH, .cons ?_ .nil, by simp [VV.cell], .str ht (by simpa using hs)⟩
        have : VRel σ (.str s.data.toList) (.string ⟨s.data.toList.toArray⟩) := .str _
        simpa using this
      · rename_i e ht
        simp only [Bool.and_eq_true, decide_eq_true_eq] at hp
        rcases DataW.trod_slice ht h with ⟨rfl, rfl⟩ | ⟨a, len, cap, elems, rest, n, hfn, rfl, rfl, _, hlc, hm, hlen, hel, hsp, _⟩
        · exact ⟨σ, [], [.sl none 0 0], Sg.le_refl _, by simpa using hH, .cons .slNil .nil, by simp [VV.cell], .nil ht⟩
        · have hfn' : fuel = n := by omega
          subst hfn'
          obtain ⟨hrl, hre⟩ := hsp rfl
          -- every element, those of the spare places too
          have hall : ∀ i, i < cap → ∃ cs' x', W.cells? 0 (a.add (i * P.cellsOf e)) (P.cellsOf e) = some cs' ∧ DataW.trod enc P W 0 (fun _ => true) held fuel e cs' = some x' ∧ (elems ++ rest)[i]? = some x' := by
            intro i hi
            have key : (W.cells? 0 (a.add (i * P.cellsOf e)) (P.cellsOf e)).bind (DataW.trod enc P W 0 (fun _ => true) held fuel e) = (elems ++ rest)[i]? := by
              rcases Nat.lt_or_ge i len with hil | hil
              · rw [List.getElem?_append_left (by omega)]; exact hel i hil
              · rw [List.getElem?_append_right (by omega), hlen]
                have := hre (i - len) (by omega)
                rw [show len + (i - len) = i by omega] at this
                exact this
            have hsome : (elems ++ rest)[i]? = some ((elems ++ rest)[i]'(by rw [List.length_append]; omega)) := List.getElem?_eq_getElem _
            rw [hsome] at key
            cases hc : W.cells? 0 (a.add (i * P.cellsOf e)) (P.cellsOf e) with
            | none => rw [hc] at key; cases key
            | some cs' => rw [hc] at key; exact ⟨cs', _, rfl, key, hsome⟩
          obtain ⟨css, hcss⟩ := Deep.choose_lt (α := List Value) (p := fun i cs' => ∃ x', W.cells? 0 (a.add (i * P.cellsOf e)) (P.cellsOf e) = some cs' ∧ DataW.trod enc P W 0 (fun _ => true) held fuel e cs' = some x' ∧ (elems ++ rest)[i]? = some x') hall
          obtain ⟨xs, hxs⟩ := Deep.choose_lt (α := DataW D × List MemPlace) (p := fun i x' => W.cells? 0 (a.add (i * P.cellsOf e)) (P.cellsOf e) = some (css i) ∧ DataW.trod enc P W 0 (fun _ => true) held fuel e (css i) = some x' ∧ (elems ++ rest)[i]? = some x') hcss
          obtain ⟨σ1, G1, ces, q1, q2, q3, q4⟩ := opens_many (ih d e hp.1) css xs cap (fun i hi => (hxs i hi).2.1) hH cap (Nat.le_refl _)
          have hln : ∀ c ∈ ces, c.length = P.cellsOf e := by
            intro c hc
            obtain ⟨i, hi⟩ := List.mem_iff_getElem?.1 hc
            have hic : i < cap := by rw [← q3]; exact (List.getElem?_eq_some_iff.1 hi).1
            rw [(q4 i c hi).1.length]
            exact (World.cells?_some (hxs i hic).1).2.1
          have hget : ∀ {G : Hp} (i : Nat) c d', ces[i]? = some c → (elems.map (·.1) ++ rest.map (·.1))[i]? = some d' → Rd P (H ++ G1 ++ G) e c d' := by
            intro G i c d' hc hd'
            have hic : i < cap := by rw [← q3]; exact (List.getElem?_eq_some_iff.1 hc).1
            rw [← List.map_append, List.getElem?_map, (hxs i hic).2.2] at hd'
            simp at hd'
            subst hd'
            exact ((q4 i c hc).2.2).mono G
          rcases Nat.eq_zero_or_pos cap with hc0 | hc0
          · -- no room: wherever it points
            refine ⟨σ1.push (H ++ G1).length ⟨0, 0, 0, 0, none⟩, G1 ++ [.dead], [.sl (some ⟨(H ++ G1).length, 0, 0⟩) len cap], Sg.le_trans q1 (Sg.le_push q2.fresh), by rw [← List.append_assoc]; exact q2.pushDead _ hpos, .cons (.sl ⟨hlc, .inr (.inr ⟨hc0, hc0, ⟨0, 0, 0, 0, none⟩, by simp [Sg.push]⟩)⟩) .nil, by simp [VV.cell], ?_⟩
            rw [← List.append_assoc]
            exact .sl ht _ len cap ces _ _ hlc hm (by simp [hlen]) (by simp [hrl]) (fun h => by omega) q3 hln hget
          · obtain ⟨_, _, hc1⟩ := World.cells?_some (hxs 0 hc0).1
            have h00 := hc1 0 hp.2
            simp [Addr.add] at h00
            have hcl : (css 0).length = P.cellsOf e := (World.cells?_some (hxs 0 hc0).1).2.1
            have hsm : (css 0)[0]? = some ((css 0)[0]'(by rw [hcl]; exact hp.2)) := List.getElem?_eq_getElem _
            rw [hsm] at h00
            have hblk : a.block < W.heap.size ∧ a.spot = none := by
              unfold World.cell? at h00
              split at h00
              · rename_i hb
                refine ⟨(Array.getElem?_eq_some_iff.1 hb).1, ?_⟩
                split at h00
                · cases h00
                · rename_i hs; simpa using hs
              · cases h00
            obtain ⟨ab, ao, asp⟩ := a
            simp only at hblk
            obtain ⟨hb1, rfl⟩ := hblk
            refine ⟨σ1.push (H ++ G1).length ⟨ab, ao, P.cellsOf e, cap, none⟩, G1 ++ [.row e .ro ces], [.sl (some ⟨(H ++ G1).length, 0, 0⟩) len cap], Sg.le_trans q1 (Sg.le_push q2.fresh), ?_, ?_, by simp [VV.cell], ?_⟩
            · rw [← List.append_assoc]
              refine q2.pushRo e ces ⟨ab, ao, P.cellsOf e, cap, none⟩ hb1 rfl q3 hln ?_
              intro k c j v hc hv
              have hkc : k < cap := by rw [← q3]; exact (List.getElem?_eq_some_iff.1 hc).1
              obtain ⟨s1, s2, _⟩ := q4 k c hc
              obtain ⟨v', t1, t2⟩ := s1.get hv
              refine ⟨s2 v (List.mem_of_getElem? hv), v', ?_, t2⟩
              obtain ⟨_, u2, u3⟩ := World.cells?_some (hxs k hkc).1
              have hj : j < P.cellsOf e := by rw [← u2]; exact (List.getElem?_eq_some_iff.1 t1).1
              rw [← t1, ← u3 j hj]
              congr 1
              unfold Addr.add
              by_cases h1 : k * P.cellsOf e = 0
              · rw [if_pos h1]
                by_cases h2 : j = 0
                · rw [if_pos h2, h1, h2]; simp
                · rw [if_neg h2, h1]; simp
              · rw [if_neg h1]
                by_cases h2 : j = 0
                · rw [if_pos h2, h2]; simp
                · rw [if_neg h2]
            · refine .cons (.sl ⟨hlc, .inl ⟨⟨⟨ab, ao, P.cellsOf e, cap, none⟩, by simp [Sg.push], ?_⟩, rfl⟩⟩) .nil
              simp
            · rw [← List.append_assoc]
              exact .sl ht _ len cap ces _ _ hlc hm (by simp [hlen]) (by simp [hrl]) (fun _ => by rw [List.getElem?_append_right (Nat.le_refl _)]; simp) q3 hln hget
      · rename_i fs ht
        simp only [Bool.and_eq_true, decide_eq_true_eq] at hp
        obtain ⟨xs, n, hfn, rfl, hcl, hxl, hx⟩ := DataW.trod_struct ht h
        have hfn' : fuel = n := by omega
        subst hfn'
        obtain ⟨_, σ1, G, ps, q1, q2, q3, q4, q5, q6, q7⟩ := opens_fields fs.toList (fun f hf => ih d f.type (List.all_eq_true.1 hp.1 f hf)) xs (by simpa using hxl) (fun i f hf => hx i f (by simpa using hf)) 0 _ hp.2 (by omega) hH
        refine ⟨σ1, G, ps.flatten, q1, q2, ?_, q5, .struct ht ps _ (by simpa using q3) (by simpa using hxl) (fun i f p hf hp => q6 i f p (by simpa using hf) hp) (fun i f p d' hf hp hd => q7 i f p d' (by simpa using hf) hp hd)⟩
        rw [List.drop_zero, Nat.sub_zero, List.take_of_length_le (by omega)] at q4
        exact q4
      · cases hp
end
end Go.Wm
