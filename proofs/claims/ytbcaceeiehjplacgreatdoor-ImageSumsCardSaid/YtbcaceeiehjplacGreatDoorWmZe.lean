/- Where the package variables lie; a call beside rows that it does not know of. -/
import Derived.Test.YtbcaceeiehjplacGreatDoorWmZc
import Derived.Lib.LaidTab
namespace Go.Wm
set_option linter.unusedSimpArgs false
set_option linter.unusedVariables false
open Go.RowKit

section
variable {P : Program} {σ : Sg} {B : Nat} {H : Hp} {w : World}
theorem HRel.dead0 {W : World} (L : List Info) (hL : ∀ (i : Nat) g, GL[i]? = some g → ∃ I, L[i]? = some I ∧ I.real = g ∧ I.base = 0) (hfit : ∀ I ∈ L, I.real < W.heap.size) :
    HRel P (fun i => L[i]?) W.heap.size (List.replicate L.length .dead) W := by
  have hd : ∀ (i : Nat) (b : Blk), (List.replicate L.length Blk.dead)[i]? = some b → b = .dead := fun i b h => by
    rw [List.getElem?_replicate] at h
    split at h
    · exact (Option.some.inj h).symm
    · cases h
  exact { base := Nat.le_refl _, dom := fun i I h => by simpa using (List.getElem?_eq_some_iff.1 h).1, rows := fun i t md es h => (by have := hd _ _ h; cases this), inj := fun i j ti mi esi tj mj esj Ii Ij h => (by have := hd _ _ h; cases this), objs := fun i o h => (by have := hd _ _ h; cases this), oinj := fun i j o o' I J h => (by have := hd _ _ h; cases this), glob := hL, fit := fun i I h => hfit I (List.mem_of_getElem? h) }

/-- a block of which nothing was told is told of -/
theorem HRel.wake (h : HRel P σ B H w) {i : Nat} {I : Info} (hi : H[i]? = some .dead) (hσ : σ i = some I) (hB : I.real < B) (hroom : I.room = none) (t : TypeId) (es : List (List VV)) (hn : es.length = I.n) (hz : ∀ e ∈ es, e.length = I.esz)
    (hcell : ∀ (k : Nat) e (j : Nat) v, es[k]? = some e → e[j]? = some v → v.cell = true ∧ ∃ v', w.cell? ⟨I.real, I.base + k * I.esz + j, none⟩ = some v' ∧ VRel σ v v') :
    HRel P σ B (H.set i (.row t .ro es)) w := by
  have hlt : i < H.length := (List.getElem?_eq_some_iff.1 hi).1
  have part : ∀ (k : Nat) tk mk ek, (H.set i (Blk.row t .ro es))[k]? = some (Blk.row tk mk ek) → (k = i ∧ tk = t ∧ mk = .ro ∧ ek = es) ∨ (k ≠ i ∧ H[k]? = some (Blk.row tk mk ek)) := by
    intro k tk mk ek hk
    by_cases hki : k = i
    · subst hki
      rw [List.getElem?_set_self hlt] at hk
      obtain ⟨rfl, rfl, rfl⟩ : t = tk ∧ Mode.ro = mk ∧ es = ek := by simpa using hk
      exact .inl ⟨rfl, rfl, rfl, rfl⟩
    · rw [List.getElem?_set_ne (Ne.symm hki)] at hk; exact .inr ⟨hki, hk⟩
  have partO : ∀ (k : Nat) o, (H.set i (Blk.row t .ro es))[k]? = some (Blk.obj o) → H[k]? = some (Blk.obj o) := by
    intro k o hk
    by_cases hki : k = i
    · subst hki; rw [List.getElem?_set_self hlt] at hk; cases hk
    · rwa [List.getElem?_set_ne (Ne.symm hki)] at hk
  refine ⟨h.base, fun k K hk => by rw [List.length_set]; exact h.dom k K hk, fun k tk mk ek hk => ?_, fun k j tk mk ek tj mj ej Ik Ij hk hmk hj hσk hσj hreal => ?_, fun k o hk => h.objs k o (partO k o hk), fun k j o o' Ik Ij hk hj => h.oinj k j o o' Ik Ij (partO _ _ hk) (partO _ _ hj), h.glob, h.fit⟩
  · rcases part k tk mk ek hk with ⟨rfl, rfl, rfl, rfl⟩ | ⟨_, hk'⟩
    · exact ⟨I, hσ, Nat.lt_of_lt_of_le hB h.base, hn, hz, hcell, fun _ => ⟨hB, hroom⟩, fun h' => absurd rfl h'⟩
    · exact h.rows k tk mk ek hk'
  · rcases part k tk mk ek hk with ⟨rfl, _, rfl, _⟩ | ⟨_, hk'⟩
    · exact absurd rfl hmk
    · rcases part j tj mj ej hj with ⟨rfl, _⟩ | ⟨_, hj'⟩
      · obtain ⟨K, hK⟩ := h.rows k tk mk ek hk'
        have e1 : K = Ik := Option.some.inj (hK.here.symm.trans hσk)
        subst e1
        have e2 : I = Ij := Option.some.inj (hσ.symm.trans hσj)
        subst e2
        have := (hK.own hmk).1
        omega
      · exact h.inj k j tk mk ek tj mj ej Ik Ij hk' hmk hj' hσk hσj hreal

/-- a slice of strings that was laid -/
theorem strs_of_trod {D : Type} {enc : TypeId × Value → D} {W : World} {held : Bool} {fuel : Nat} {t e : TypeId} {cs : List Value} {ss : List (List UInt8)} {p : List MemPlace} (ht : P.underlying t = some (.slice e)) (he : P.underlying e = some .string) (hce : P.cellsOf e = 1)
    (h : DataW.trod enc P W 0 (fun _ => true) held fuel t cs = some (.slice (ss.map fun s => .lit (.string s)) [], p)) (hne : 0 < ss.length) :
    ∃ a : Addr, cs = [.slice (some a) ss.length ss.length] ∧ a.spot = none ∧ a.block < W.heap.size ∧ ∀ (i : Nat) s, ss[i]? = some s → W.cell? ⟨a.block, a.off + i, none⟩ = some (.string ⟨s.toArray⟩) := by
  rcases DataW.trod_slice ht h with ⟨_, hx⟩ | ⟨a, len, cap, elems, rest, n, _, rfl, hx, _, hlc, _, hlen, hel, hsp, _⟩
  · simp at hx
  · simp only [Prod.mk.injEq, DataW.slice.injEq] at hx
    obtain ⟨⟨h1, h2⟩, _⟩ := hx
    have hr : rest = [] := by cases rest with | nil => rfl | cons _ _ => simp at h2
    obtain ⟨hr1, _⟩ := hsp rfl
    rw [hr] at hr1
    simp at hr1
    have hl : ss.length = len := by have := congrArg List.length h1; simp at this; omega
    have hcell : ∀ (i : Nat) s, ss[i]? = some s → W.cell? (a.add i) = some (.string ⟨s.toArray⟩) ∧ (a.add i).block = a.block := by
      intro i s hs
      have hi : i < len := by rw [← hl]; exact (List.getElem?_eq_some_iff.1 hs).1
      have h3 := hel i hi
      have h4 : (elems.map (·.1))[i]? = some (.lit (.string s)) := by rw [← h1, List.getElem?_map, hs]; rfl
      rw [List.getElem?_map] at h4
      obtain ⟨x, hx1, hx2⟩ := Option.map_eq_some_iff.1 h4
      rw [hx1, hce, Nat.mul_one] at h3
      obtain ⟨cs', c1, c2⟩ := Option.bind_eq_some_iff.1 h3
      obtain ⟨s', rfl, e2, _⟩ := DataW.trod_string he c2
      rw [e2] at hx2
      simp only [DataW.lit.injEq, Lit.string.injEq] at hx2
      obtain ⟨_, _, u3⟩ := World.cells?_some c1
      have := u3 0 (by decide)
      refine ⟨?_, by unfold Addr.add; split <;> rfl⟩
      have e0 : (a.add i).add 0 = a.add i := by simp [Addr.add]
      rw [e0] at this
      rw [this]
      subst hx2
      simp
    have h0 := hcell 0 _ (List.getElem?_eq_getElem hne)
    have hblk : a.block < W.heap.size ∧ a.spot = none := by
      have h5 := h0.1
      simp only [Addr.add, if_true] at h5
      unfold World.cell? at h5
      split at h5
      · rename_i hb
        refine ⟨(Array.getElem?_eq_some_iff.1 hb).1, ?_⟩
        split at h5
        · cases h5
        · rename_i hs; simpa using hs
      · cases h5
    obtain ⟨ab, ao, asp⟩ := a
    simp only at hblk
    obtain ⟨hb1, rfl⟩ := hblk
    refine ⟨⟨ab, ao, none⟩, by rw [hl, show cap = len by omega], rfl, hb1, fun i s hs => ?_⟩
    have := (hcell i s hs).1
    unfold Addr.add at this
    by_cases hi : i = 0
    · subst hi; simpa using this
    · rw [if_neg hi] at this; exact this

/-! ### a call beside rows that it does not know of -/
/-- a value that tells of no block from 'n' on -/
def VV.lo (n : Nat) : VV → Bool
  | .undef | .bool _ | .int _ _ | .str _ | .ptr none | .sl none 0 0 | .nilFn | .map none | .nilI => true
  | .ptr (some p) => decide (p.blk < n)
  | .sl (some p) _ _ => decide (p.blk < n)
  | _ => false
def Sg.low (σ : Sg) (n : Nat) : Sg := fun i => if i < n then σ i else none
theorem Sg.low_le (σ : Sg) (n : Nat) : (σ.low n).le σ := fun i I h => by
  unfold Sg.low at h
  split at h
  · exact h
  · cases h
theorem VRel.low {n : Nat} {v : VV} {v' : Value} (hv : VV.lo n v = true) (h : VRel σ v v') : VRel (σ.low n) v v' := by
  have hp : ∀ {p : PA} {a : Addr}, p.blk < n → σ.place p a → (σ.low n).place p a := fun hl ⟨I, h1, h2⟩ => ⟨I, by simp [Sg.low, hl, h1], h2⟩
  cases h with
  | undef => exact .undef _
  | bool => exact .bool _
  | int => exact .int _ _
  | str => exact .str _
  | ptrNil => exact .ptrNil
  | ptr h => exact .ptr (hp (by simpa [VV.lo] using hv) h)
  | slNil => exact .slNil
  | @sl p len cap a cap' h =>
    have hl : p.blk < n := by simpa [VV.lo] using hv
    obtain ⟨h0, h1⟩ := h
    refine .sl ⟨h0, ?_⟩
    rcases h1 with ⟨h1, h2⟩ | ⟨I, m, h1, h2, h3, h4, h5⟩ | ⟨h1, h2, I, h3⟩
    · exact .inl ⟨hp hl h1, h2⟩
    · exact .inr (.inl ⟨I, m, by simp [Sg.low, hl, h1], h2, h3, hp hl h4, h5⟩)
    · exact .inr (.inr ⟨h1, h2, I, by simp [Sg.low, hl, h3]⟩)
  | nilFn => exact .nilFn
  | mapNil => exact .mapNil
  | nilI => exact .nilI
  | fn h => simp [VV.lo] at hv
  | agg h => simp [VV.lo] at hv
  | tup h => simp [VV.lo] at hv
  | map h => simp [VV.lo] at hv
  | yield h => simp [VV.lo] at hv
  | ifc h => simp [VV.lo] at hv
/-- rows that are only read, and that tell of nothing beyond; a package variable that nobody looks into may be left out, if one of which is told stands as high -/
def RoHp (H : Hp) : Prop := ∀ i, i < H.length → (H[i]? = some Blk.dead ∧ ∃ (g j g' : Nat) (t : TypeId) (es : List (List VV)), GL[i]? = some g ∧ GL[j]? = some g' ∧ g ≤ g' ∧ H[j]? = some (Blk.row t .ro es)) ∨ ∃ t es, H[i]? = some (Blk.row t .ro es) ∧ ∀ (k : Nat) e (j : Nat) v, es[k]? = some e → e[j]? = some v → VV.lo H.length v = true
def roAt (H : Hp) (i : Nat) : Bool := match H[i]? with
  | some (.row _ .ro es) => es.all fun e => e.all fun v => VV.lo H.length v
  | some .dead => (match GL[i]? with
    | some g => (List.range GL.length).any fun j => match GL[j]?, H[j]? with | some g', some (.row _ .ro _) => Nat.ble g g' | _, _ => false
    | none => false)
  | _ => false
theorem RoHp.of {H : Hp} (h : (List.range H.length).all (roAt H) = true) : RoHp H := by
  intro i hi
  have h1 := List.all_eq_true.1 h i (List.mem_range.2 hi)
  unfold roAt at h1
  split at h1
  · rename_i t es hb
    exact .inr ⟨t, es, hb, fun k e j v he hv => List.all_eq_true.1 (List.all_eq_true.1 h1 e (List.mem_of_getElem? he)) v (List.mem_of_getElem? hv)⟩
  · rename_i hb
    split at h1
    · rename_i g hg
      obtain ⟨j, _, h2⟩ := List.any_eq_true.1 h1
      split at h2
      · rename_i g' t es h3 h4
        exact .inl ⟨hb, g, j, g', t, es, hg, h3, Nat.le_of_ble_eq_true h2, h4⟩
      · cases h2
    · cases h1
  · cases h1
/-- what lies low is old -/
theorem RoHp.old {P : Program} {σ : Sg} {B : Nat} {H0 G : Hp} {w : World} (hr : RoHp H0) (h : HRel P σ B (H0 ++ G) w) {j : Nat} {J : Info} (hj : j < H0.length) (hJ : σ j = some J) : J.real < B := by
  have key : ∀ {j : Nat} {J : Info} {t : TypeId} {es : List (List VV)}, H0[j]? = some (.row t .ro es) → σ j = some J → J.real < B := fun {j J t es} e1 hJ => by
    obtain ⟨K, hK⟩ := h.rows j t .ro es (by rw [List.getElem?_append_left (List.getElem?_eq_some_iff.1 e1).1]; exact e1)
    have e2 : K = J := Option.some.inj (hK.here.symm.trans hJ)
    subst e2
    exact (hK.old rfl).1
  rcases hr j hj with ⟨_, g, k, g', t, es, h1, h2, h3, h4⟩ | ⟨t, es, e1, _⟩
  · obtain ⟨K, k1, k2, _⟩ := h.glob j g h1
    obtain ⟨L, l1, l2, _⟩ := h.glob k g' h2
    have e2 : K = J := Option.some.inj (k1.symm.trans hJ)
    subst e2
    have := key h4 l1
    omega
  · exact key e1 hJ
theorem HRel.low {H0 G : Hp} (h : HRel P σ B (H0 ++ G) w) (hr : RoHp H0) (hG : GL.length ≤ H0.length) : HRel P (σ.low H0.length) B H0 w := by
  have hle := Sg.low_le σ H0.length
  have get : ∀ {i : Nat} {b : Blk}, H0[i]? = some b → (H0 ++ G)[i]? = some b := fun hi => by rw [List.getElem?_append_left (List.getElem?_eq_some_iff.1 hi).1]; exact hi
  have ro : ∀ {i : Nat} {t md es}, H0[i]? = some (Blk.row t md es) → md = .ro := fun hi => by
    rcases hr _ (List.getElem?_eq_some_iff.1 hi).1 with ⟨h0, _⟩ | ⟨t, es, h1, _⟩
    · rw [h0] at hi; cases hi
    · rw [h1] at hi; cases hi; rfl
  have ob : ∀ {i : Nat} {o}, H0[i]? = some (Blk.obj o) → False := fun hi => by
    rcases hr _ (List.getElem?_eq_some_iff.1 hi).1 with ⟨h0, _⟩ | ⟨t, es, h1, _⟩
    · rw [h0] at hi; cases hi
    · rw [h1] at hi; cases hi
  refine ⟨h.base, fun i I hi => ?_, fun i t md es hi => ?_, fun i j ti mi esi tj mj esj Ii Ij hi hm => absurd (ro hi) hm, fun i o hi => (ob hi).elim, fun i j o o' I J hi => (ob hi).elim, fun i g hg => ?_, fun i I hi => h.fit i I (hle i I hi)⟩
  · unfold Sg.low at hi
    split at hi
    · assumption
    · cases hi
  · have hlt := (List.getElem?_eq_some_iff.1 hi).1
    obtain ⟨I, hI⟩ := h.rows i t md es (get hi)
    refine ⟨I, by simp [Sg.low, hlt, hI.here], hI.lt, hI.len, hI.esz, fun k e j v he hv => ?_, hI.old, hI.own⟩
    obtain ⟨h1, v', h2, h3⟩ := hI.cell k e j v he hv
    rcases hr i hlt with ⟨h0, _⟩ | ⟨t', es', h4, h5⟩
    · rw [hi] at h0; cases h0
    rw [hi] at h4
    cases h4
    exact ⟨h1, v', h2, h3.low (h5 k e j v he hv)⟩
  · obtain ⟨I, h1, h2⟩ := h.glob i g hg
    have : i < H0.length := Nat.lt_of_lt_of_le (List.getElem?_eq_some_iff.1 hg).1 hG
    exact ⟨I, by simp [Sg.low, this, h1], h2⟩
/-- nothing that is told of has turned -/
theorem HRel.calm {w' : World} (h : HRel P σ B H w) (hb : Below B w w') (hs : ∀ i I, σ i = some I → B ≤ I.real → w'.heap[I.real]? = w.heap[I.real]?) : HRel P σ B H w' := by
  have eqH : ∀ i I, σ i = some I → w'.heap[I.real]? = w.heap[I.real]? := fun i I hi => by
    rcases Nat.lt_or_ge I.real B with hlt | hge
    · exact hb.block _ hlt
    · exact hs i I hi hge
  refine ⟨Nat.le_trans h.base hb.size, h.dom, fun i t md es hi => ?_, h.inj, fun i o hi => ?_, h.oinj, h.glob, fun i I hi => Nat.lt_of_lt_of_le (h.fit i I hi) hb.size⟩
  · obtain ⟨I, hI⟩ := h.rows i t md es hi
    have he := eqH i I hI.here
    have hc : ∀ o, w'.cell? ⟨I.real, o, none⟩ = w.cell? ⟨I.real, o, none⟩ := fun o => by simp only [World.cell?, he]
    exact ⟨I, hI.here, Nat.lt_of_lt_of_le hI.lt hb.size, hI.len, hI.esz, fun k e j v h1 h2 => by rw [hc]; exact hI.cell k e j v h1 h2, hI.old, fun hm => by rw [he]; exact hI.own hm⟩
  · obtain ⟨I, ho, h1, h2, h3, h4, h5⟩ := h.objs i o hi
    exact ⟨I, ho, h1, h2, h3, by rw [eqH i I h1]; exact h4, h5⟩
theorem VRel.flat {τ : Sg} {v : VV} {v' : Value} (hv : VV.lo 0 v = true) (h : VRel τ v v') : VRel σ v v' :=
  (h.low hv).mono fun i I hi => by simp [Sg.low] at hi
theorem FnV.aside {f : FuncId} {H0 : Hp} {v : VV} (hv : VV.lo 0 v = true) (hr : RoHp H0) (hG : GL.length ≤ H0.length) (h : FnV P f [] H0 fun r _ => r = v) (G : Hp) : FnV P f [] (H0 ++ G) fun r H' => r = v ∧ H' = H0 ++ G := by
  refine ⟨h.1, fun σ B w vs h1 h2 => ?_⟩
  have hle := Sg.low_le σ H0.length
  have h3 : LRel (σ.low H0.length) [] vs.toList := by
    generalize vs.toList = l at h2
    cases h2; exact .nil
  refine (h.2 _ B w vs (h1.low hr hG) h3).mono ?_
  rintro e w' ⟨r, v', H', τ, q1, q2, rfl, q4, q5⟩
  have hout : ∀ i I, σ i = some I → B ≤ I.real → w'.heap[I.real]? = w.heap[I.real]? := fun i I hi hB => by
    refine q4.out I.real (h1.fit i I hi) fun j J hj he => ?_
    have hjl : j < H0.length := by
      unfold Sg.low at hj
      split at hj
      · assumption
      · cases hj
    have := hr.old h1 hjl (hle j J hj)
    omega
  refine ⟨r, v', H0 ++ G, σ, q1, q2.flat hv, ⟨rfl, rfl⟩, ⟨Sg.le_refl _, q4.bl, fun r' hr' hn => q4.out r' hr' fun i I hi => hn i I (hle i I hi), fun i I hi => .inl ⟨i, I, hi, rfl⟩⟩, h1.calm q4.bl hout⟩
end
end Go.Wm
