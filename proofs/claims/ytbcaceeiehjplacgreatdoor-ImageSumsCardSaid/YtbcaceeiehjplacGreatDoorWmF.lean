/- What a store and a new block do to the canonical heap. -/
import Derived.Test.YtbcaceeiehjplacGreatDoorWmE
import Derived.Laws.Append
import Derived.Laws.CopyRow
namespace Go.Wm
set_option linter.unusedSimpArgs false
set_option linter.unusedVariables false
open Go.RowKit

theorem cell?_setRow_other (w : World) (g : Nat) (cs : Array Value) (a : Addr) (h : a.block ≠ g) : (w.setRow g cs).cell? a = w.cell? a := by
  simp only [World.setRow, World.cell?, Array.getElem?_modify]
  rw [if_neg (fun e => h e.symm)]
theorem heap_setRow_other (w : World) (g : Nat) (cs : Array Value) (k : Nat) (h : k ≠ g) : (w.setRow g cs).heap[k]? = w.heap[k]? := by
  simp only [World.setRow, Array.getElem?_modify]
  rw [if_neg (fun e => h e.symm)]
theorem size_setRow (w : World) (g : Nat) (cs : Array Value) : (w.setRow g cs).heap.size = w.heap.size := by simp [World.setRow]
theorem cell?_of_heap {w : World} {g o : Nat} {cur : Array Value} {t : TypeId} {fr : Nat × Nat} (h : w.heap[g]? = some (.cells cur t fr)) : w.cell? ⟨g, o, none⟩ = cur[o]? := by
  simp [World.cell?, h]
theorem Below.setRow {B : Nat} {w : World} {g : Nat} (h : B ≤ g) (cs : Array Value) : Below B w (w.setRow g cs) :=
  ⟨rfl, rfl, rfl, by rw [size_setRow]; exact Nat.le_refl _, fun k hk => heap_setRow_other w g cs k (by omega)⟩

section
variable {P : Program} {σ : Sg} {B N : Nat} {H : Hp} {w : World}

/-- one block that is told of is written over -/
theorem Mv.set {i : Nat} {I : Info} (hI : σ i = some I) {w' : World} (hb : Below B w w') (h : ∀ k, k ≠ I.real → w'.heap[k]? = w.heap[k]?) : Mv B σ σ w w' :=
  ⟨Sg.le_refl _, hb, fun r _ hn => h r (Ne.symm (hn i I hI)), fun i I h => .inl ⟨i, I, h, rfl⟩⟩
/-- the relation with one block more -/
def Sg.push (σ : Sg) (i : Nat) (I : Info) : Sg := fun k => if k = i then some I else σ k
theorem Sg.le_push {i : Nat} {I : Info} (h : σ i = none) : σ.le (σ.push i I) := fun k K e => by
  unfold Sg.push
  by_cases hk : k = i
  · subst hk; rw [h] at e; cases e
  · rw [if_neg hk]; exact e
theorem fit_push {σ : Sg} {i : Nat} {I : Info} {n m : Nat} (h : ∀ i I, σ i = some I → I.real < n) (hI : I.real < m) (hm : n ≤ m) : ∀ k K, σ.push i I k = some K → K.real < m := fun k K hk => by
  unfold Sg.push at hk
  by_cases e : k = i
  · rw [if_pos e] at hk; cases hk; exact hI
  · rw [if_neg e] at hk; exact Nat.lt_of_lt_of_le (h k K hk) hm
theorem Mv.alloc {i : Nat} {I : Info} (hi : σ i = none) (hI : I.real = w.heap.size) (hB : B ≤ w.heap.size) (ho : Obj) : Mv B σ (σ.push i I) w (w.alloc ho) :=
  ⟨Sg.le_push hi, (Below.refl _ _).alloc hB _, fun r hr _ => Below.heap_alloc _ _ _ hr, fun k K hk => by
    unfold Sg.push at hk
    by_cases h : k = i
    · rw [if_pos h] at hk; cases hk; exact .inr (by rw [hI]; exact Nat.le_refl _)
    · rw [if_neg h] at hk; exact .inl ⟨k, K, hk, rfl⟩⟩

/-- a row and an object are never at one place -/
theorem HRel.apart (h : HRel P σ B H w) {i j : Nat} {t : TypeId} {md : Mode} {es : List (List VV)} {o : MOb} {I J : Info} (hi : H[i]? = some (.row t md es)) (hj : H[j]? = some (.obj o)) (hI : σ i = some I) (hJ : σ j = some J) : I.real ≠ J.real := by
  intro e
  obtain ⟨I', hR⟩ := h.rows i t md es hi
  have : I' = I := Option.some.inj (hR.here.symm.trans hI)
  subst this
  obtain ⟨J', ho, h1, h2, _, h4, h5⟩ := h.objs j o hj
  have : J' = J := Option.some.inj (h1.symm.trans hJ)
  subst this
  by_cases hmd : md = .ro
  · have := (hR.old hmd).1; omega
  · obtain ⟨_, _, _, cur, hc, _⟩ := hR.own hmd
    rw [e, h4] at hc
    cases hc
    exact h5.noCells

/-- one row of the call's own is written over -/
theorem HRel.store (h : HRel P σ B H w) {i : Nat} {t : TypeId} {md : Mode} {es es2 : List (List VV)} (hb : H[i]? = some (.row t md es)) (hmd : md ≠ .ro) {I : Info} (hI : σ i = some I)
    {cur cur2 : Array Value} (hc : w.heap[I.real]? = some (.cells cur t (0, 0))) (hs : cur2.size = cur.size) (hl : es2.length = es.length) (hz : ∀ e ∈ es2, e.length = I.esz)
    (hcell : ∀ (k : Nat) e (j : Nat) v, es2[k]? = some e → e[j]? = some v → v.cell = true ∧ ∃ v', cur2[I.base + k * I.esz + j]? = some v' ∧ VRel σ v v') :
    HRel P σ B (H.set i (.row t md es2)) (w.setRow I.real cur2) ∧ Mv B σ σ w (w.setRow I.real cur2) := by
  obtain ⟨I', hR⟩ := h.rows i t md es hb
  have e0 : I' = I := Option.some.inj (hR.here.symm.trans hI)
  subst e0
  obtain ⟨hB, ho1, ho2, cur', hc', hs'⟩ := hR.own hmd
  have e1 : cur' = cur := by have := hc'.symm.trans hc; simpa using this
  subst e1
  have hil : i < H.length := (List.getElem?_eq_some_iff.1 hb).1
  have backO : ∀ (m : Nat) o, (H.set i (.row t md es2))[m]? = some (Blk.obj o) → H[m]? = some (Blk.obj o) := by
    intro m o hm
    by_cases hmi : m = i
    · subst hmi; rw [List.getElem?_set_self hil] at hm; cases hm
    · rwa [List.getElem?_set_ne (Ne.symm hmi)] at hm
  refine ⟨⟨by rw [size_setRow]; exact h.base, fun k K hk => ?_, fun k tk mk esk hk => ?_, fun k j tk mk esk tj mj esj Ik Ij hk hmk hj hσk hσj hreal => ?_, fun k o hk => ?_, fun k j o o' Ik Ij hk hj => h.oinj k j o o' Ik Ij (backO k o hk) (backO j o' hj), h.glob, by rw [size_setRow]; exact h.fit⟩, Mv.set hI (Below.setRow hB _) fun k hk => heap_setRow_other _ _ _ _ hk⟩
  rotate_right
  · obtain ⟨J, ho, j1, j2, j3, j4, j5⟩ := h.objs k o (backO k o hk)
    exact ⟨J, ho, j1, j2, j3, by rw [heap_setRow_other _ _ _ _ (Ne.symm (h.apart hb (backO k o hk) hI j1))]; exact j4, j5⟩
  · rw [List.length_set]; exact h.dom k K hk
  · by_cases hki : k = i
    · subst hki
      rw [List.getElem?_set_self hil] at hk
      obtain ⟨rfl, rfl, rfl⟩ : t = tk ∧ md = mk ∧ es2 = esk := by simpa using hk
      refine ⟨I', hI, by rw [size_setRow]; exact hR.lt, by rw [hl]; exact hR.len, hz, fun k e j v he hv => ?_, hR.old, fun _ => ⟨hB, ho1, ho2, cur2, setRow_heap _ _ _ _ _ _ hc, by rw [hs]; exact hs'⟩⟩
      obtain ⟨h1, v', h2, h3⟩ := hcell k e j v he hv
      refine ⟨h1, v', ?_, h3⟩
      rw [cell?_of_heap (setRow_heap _ _ _ _ _ _ hc)]
      exact h2
    · rw [List.getElem?_set_ne (Ne.symm hki)] at hk
      obtain ⟨K, hK⟩ := h.rows k tk mk esk hk
      have hne : K.real ≠ I'.real := by
        intro e
        exact hki (h.inj i k t md es tk mk esk I' K hb hmd hk hI hK.here e.symm).symm
      refine ⟨K, hK.here, by rw [size_setRow]; exact hK.lt, hK.len, hK.esz, fun a e j v he hv => ?_, hK.old, fun hm => ?_⟩
      · obtain ⟨h1, v', h2, h3⟩ := hK.cell a e j v he hv
        exact ⟨h1, v', by rw [cell?_setRow_other _ _ _ _ hne]; exact h2, h3⟩
      · obtain ⟨q1, q3, q4, c, q5, q6⟩ := hK.own hm
        exact ⟨q1, q3, q4, c, by rw [heap_setRow_other _ _ _ _ hne]; exact q5, q6⟩
  · -- the same blocks stand at the same places
    have back : ∀ (m : Nat) tm mm em, (H.set i (.row t md es2))[m]? = some (Blk.row tm mm em) → ∃ em', H[m]? = some (Blk.row tm mm em') := by
      intro m tm mm em hm
      by_cases hmi : m = i
      · subst hmi
        rw [List.getElem?_set_self hil] at hm
        obtain ⟨rfl, rfl, rfl⟩ : t = tm ∧ md = mm ∧ es2 = em := by simpa using hm
        exact ⟨es, hb⟩
      · rw [List.getElem?_set_ne (Ne.symm hmi)] at hm
        exact ⟨em, hm⟩
    obtain ⟨ek, hk'⟩ := back k tk mk esk hk
    obtain ⟨ej, hj'⟩ := back j tj mj esj hj
    exact h.inj k j tk mk ek tj mj ej Ik Ij hk' hmk hj' hσk hσj hreal

theorem HRel.fresh (h : HRel P σ B H w) : σ H.length = none := by
  cases e : σ H.length with
  | none => rfl
  | some I => exact absurd (h.dom _ _ e) (Nat.lt_irrefl _)

/-- a new block, laid in a world that has nothing else new -/
theorem HRel.push (h : HRel P σ B H w) (t : TypeId) (md : Mode) (hmd : md ≠ .ro) (es : List (List VV)) (cur : Array Value) (z : Nat) (room : Option Nat)
    (hz : ∀ e ∈ es, e.length = z) (hs : cur.size = room.getD es.length * z) (hown : md = .own → room = none) (hloose : md = .loose → ∃ m, room = some m ∧ es.length ≤ m)
    (hcell : ∀ (k : Nat) e (j : Nat) v, es[k]? = some e → e[j]? = some v → v.cell = true ∧ ∃ v', cur[k * z + j]? = some v' ∧ VRel (σ.push H.length ⟨w.heap.size, 0, z, es.length, room⟩) v v') :
    HRel P (σ.push H.length ⟨w.heap.size, 0, z, es.length, room⟩) B (H ++ [.row t md es]) (w.alloc (.cells cur t)) ∧ Mv B σ (σ.push H.length ⟨w.heap.size, 0, z, es.length, room⟩) w (w.alloc (.cells cur t)) := by
  have hle := Sg.le_push (I := ⟨w.heap.size, 0, z, es.length, room⟩) h.fresh
  have hself : σ.push H.length ⟨w.heap.size, 0, z, es.length, room⟩ H.length = some ⟨w.heap.size, 0, z, es.length, room⟩ := by simp [Sg.push]
  have hold : ∀ k, k ≠ H.length → σ.push H.length ⟨w.heap.size, 0, z, es.length, room⟩ k = σ k := fun k hk => by simp [Sg.push, hk]
  have hnew : (w.alloc (.cells cur t)).heap[w.heap.size]? = some (.cells cur t (0, 0)) := by show (w.heap.push _)[w.heap.size]? = _; simp
  have hkeep : ∀ k, k < w.heap.size → (w.alloc (.cells cur t)).heap[k]? = w.heap[k]? := fun k hk => Below.heap_alloc _ _ _ hk
  have part : ∀ (k : Nat) tk mk ek, (H ++ [Blk.row t md es])[k]? = some (Blk.row tk mk ek) → (k = H.length ∧ tk = t ∧ mk = md ∧ ek = es) ∨ (k < H.length ∧ H[k]? = some (Blk.row tk mk ek)) := by
    intro k tk mk ek hk
    rcases Nat.lt_or_ge k H.length with hlt | hge
    · rw [List.getElem?_append_left hlt] at hk; exact .inr ⟨hlt, hk⟩
    · rw [List.getElem?_append_right hge] at hk
      have hk0 : k - H.length = 0 := by
        rcases Nat.eq_zero_or_pos (k - H.length) with h0 | h0
        · exact h0
        · rw [List.getElem?_eq_none (by simp; omega)] at hk; cases hk
      rw [hk0] at hk
      obtain ⟨rfl, rfl, rfl⟩ : t = tk ∧ md = mk ∧ es = ek := by simpa using hk
      exact .inl ⟨by omega, rfl, rfl, rfl⟩
  have partO : ∀ (k : Nat) o, (H ++ [Blk.row t md es])[k]? = some (Blk.obj o) → k < H.length ∧ H[k]? = some (Blk.obj o) := by
    intro k o hk
    rcases Nat.lt_or_ge k H.length with hlt | hge
    · rw [List.getElem?_append_left hlt] at hk; exact ⟨hlt, hk⟩
    · rw [List.getElem?_append_right hge] at hk
      cases hk0 : k - H.length with
      | zero => rw [hk0] at hk; simp at hk
      | succ z => rw [hk0] at hk; simp at hk
  refine ⟨⟨by simp; exact Nat.le_succ_of_le h.base, fun k K hk => ?_, fun k tk mk ek hk => ?_, fun k j tk mk ek tj mj ej Ik Ij hk hmk hj hσk hσj hreal => ?_, fun k o hk => ?_, fun k j o o' Ik Ij hk hj hσk hσj hreal => ?_, h.glob.mono hle, fit_push h.fit (by simp) (by simp)⟩, Mv.alloc h.fresh rfl h.base _⟩
  rotate_right 2
  · obtain ⟨hlt, hk'⟩ := partO k o hk
    obtain ⟨J, ho, j1, j2, j3, j4, j5⟩ := h.objs k o hk'
    exact ⟨J, ho, hle _ _ j1, j2, j3, by rw [hkeep _ (Array.getElem?_eq_some_iff.1 j4).1]; exact j4, j5.mono hle⟩
  · obtain ⟨hlt, hk'⟩ := partO k o hk
    obtain ⟨hlt2, hj'⟩ := partO j o' hj
    rw [hold k (by omega)] at hσk
    rw [hold j (by omega)] at hσj
    exact h.oinj k j o o' Ik Ij hk' hj' hσk hσj hreal
  · by_cases hkl : k = H.length
    · subst hkl; rw [hself] at hk; cases hk; simp
    · rw [hold k hkl] at hk
      have := h.dom k K hk
      simp; omega
  · rcases part k tk mk ek hk with ⟨rfl, rfl, rfl, rfl⟩ | ⟨hlt, hk'⟩
    · refine ⟨_, hself, by simp, rfl, hz, fun a e j v he hv => ?_, fun h' => absurd h' hmd, fun _ => ⟨h.base, fun hm => ⟨hown hm, rfl⟩, hloose, cur, hnew, by simpa using hs⟩⟩
      obtain ⟨h1, v', h2, h3⟩ := hcell a e j v he hv
      exact ⟨h1, v', by rw [cell?_of_heap hnew, Nat.zero_add]; exact h2, h3⟩
    · obtain ⟨K, hK⟩ := h.rows k tk mk ek hk'
      have hKr := hK.lt
      refine ⟨K, hle _ _ hK.here, by simp; omega, hK.len, hK.esz, fun a e j v he hv => ?_, hK.old, fun hm => ?_⟩
      · obtain ⟨h1, v', h2, h3⟩ := hK.cell a e j v he hv
        exact ⟨h1, v', by rw [World.cell?_alloc_lt _ _ _ hKr]; exact h2, h3.mono hle⟩
      · obtain ⟨q1, q3, q4, c, q5, q6⟩ := hK.own hm
        exact ⟨q1, q3, q4, c, by rw [hkeep _ hKr]; exact q5, q6⟩
  · rcases part k tk mk ek hk with ⟨rfl, _⟩ | ⟨hlt, hk'⟩ <;> rcases part j tj mj ej hj with ⟨rfl, _⟩ | ⟨hlt', hj'⟩
    · rfl
    · rw [hself] at hσk; cases hσk
      rw [hold j (by omega)] at hσj
      obtain ⟨J, hJ⟩ := h.rows j tj mj ej hj'
      have hJI : J = Ij := Option.some.inj (hJ.here.symm.trans hσj)
      have := hJ.lt
      rw [hJI] at this
      simp at hreal; omega
    · rw [hself] at hσj; cases hσj
      rw [hold k (by omega)] at hσk
      obtain ⟨J, hJ⟩ := h.rows k tk mk ek hk'
      have hJI : J = Ik := Option.some.inj (hJ.here.symm.trans hσk)
      have := hJ.lt
      rw [hJI] at this
      simp at hreal; omega
    · rw [hold k (by omega)] at hσk
      rw [hold j (by omega)] at hσj
      exact h.inj k j tk mk ek tj mj ej Ik Ij hk' hmk hj' hσk hσj hreal

/-- what is forgotten does no harm -/
theorem HRel.kill (h : HRel P σ B H w) (i : Nat) : HRel P σ B (H.set i .dead) w := by
  have back : ∀ (m : Nat) tm mm em, (H.set i .dead)[m]? = some (Blk.row tm mm em) → H[m]? = some (Blk.row tm mm em) := by
    intro m tm mm em hm
    by_cases hmi : m = i
    · subst hmi
      rcases Nat.lt_or_ge m H.length with hlt | hge
      · rw [List.getElem?_set_self hlt] at hm; cases hm
      · rw [List.getElem?_eq_none (by simp; exact hge)] at hm; cases hm
    · rwa [List.getElem?_set_ne (Ne.symm hmi)] at hm
  have backO : ∀ (m : Nat) o, (H.set i .dead)[m]? = some (Blk.obj o) → H[m]? = some (Blk.obj o) := by
    intro m o hm
    by_cases hmi : m = i
    · subst hmi
      rcases Nat.lt_or_ge m H.length with hlt | hge
      · rw [List.getElem?_set_self hlt] at hm; cases hm
      · rw [List.getElem?_eq_none (by simp; exact hge)] at hm; cases hm
    · rwa [List.getElem?_set_ne (Ne.symm hmi)] at hm
  exact ⟨h.base, fun k K hk => by rw [List.length_set]; exact h.dom k K hk, fun k tk mk ek hk => h.rows k tk mk ek (back _ _ _ _ hk),
    fun k j tk mk ek tj mj ej Ik Ij hk hmk hj => h.inj k j tk mk ek tj mj ej Ik Ij (back _ _ _ _ hk) hmk (back _ _ _ _ hj), fun k o hk => h.objs k o (backO _ _ hk), fun k j o o' Ik Ij hk hj => h.oinj k j o o' Ik Ij (backO _ _ hk) (backO _ _ hj), h.glob, h.fit⟩

/-- draws turn nothing -/
theorem HRel.heap_eq {w' : World} (h : HRel P σ B H w) (he : w'.heap = w.heap) : HRel P σ B H w' := by
  have hc : ∀ a, w'.cell? a = w.cell? a := fun a => by simp [World.cell?, he]
  exact ⟨by rw [he]; exact h.base, fun k K hk => h.dom k K hk, fun k tk mk ek hk => by
    obtain ⟨I, hI⟩ := h.rows k tk mk ek hk
    exact ⟨I, hI.here, by rw [he]; exact hI.lt, hI.len, hI.esz, fun a e j v he hv => by rw [hc]; exact hI.cell a e j v he hv, hI.old, fun hm => by rw [he]; exact hI.own hm⟩, h.inj, fun k o hk => by rw [he]; exact h.objs k o hk, h.oinj, h.glob, by rw [he]; exact h.fit⟩

/-- a later world in which nothing that was there has turned -/
theorem HRel.later {w' : World} (h : HRel P σ B H w) (hb : Below w.heap.size w w') : HRel P σ B H w' := by
  refine ⟨Nat.le_trans h.base hb.size, fun k K hk => h.dom k K hk, fun k tk mk ek hk => ?_, h.inj, fun k o hk => ?_, h.oinj, h.glob, fun k K hk => Nat.lt_of_lt_of_le (h.fit k K hk) hb.size⟩
  rotate_right
  · obtain ⟨J, ho, j1, j2, j3, j4, j5⟩ := h.objs k o hk
    exact ⟨J, ho, j1, j2, j3, by rw [hb.block _ (Array.getElem?_eq_some_iff.1 j4).1]; exact j4, j5⟩
  obtain ⟨I, hI⟩ := h.rows k tk mk ek hk
  have hr := hI.lt
  exact ⟨I, hI.here, Nat.lt_of_lt_of_le hr hb.size, hI.len, hI.esz, fun a e j v he hv => by rw [hb.cell (p := ⟨I.real, _, none⟩) hr]; exact hI.cell a e j v he hv, hI.old,
    fun hm => by rw [hb.block _ hr]; exact hI.own hm⟩
/-- a new object -/
theorem HRel.pushObjI (h : HRel P σ B H w) (I : Info) (hI1 : I.real = w.heap.size) (hI2 : I.base = 0) (o : MOb) (ho : Obj) (hr : ∀ τ : Sg, σ.le τ → ObRel P τ o ho) :
    HRel P (σ.push H.length I) B (H ++ [.obj o]) (w.alloc ho) ∧ Mv B σ (σ.push H.length I) w (w.alloc ho) := by
  have hle := Sg.le_push (I := I) h.fresh
  have hself : σ.push H.length I H.length = some I := by simp [Sg.push]
  have hold : ∀ k, k ≠ H.length → σ.push H.length I k = σ k := fun k hk => by simp [Sg.push, hk]
  have hnew : (w.alloc ho).heap[w.heap.size]? = some ho := by show (w.heap.push _)[w.heap.size]? = _; simp
  have hkeep : ∀ k, k < w.heap.size → (w.alloc ho).heap[k]? = w.heap[k]? := fun k hk => Below.heap_alloc _ _ _ hk
  have part : ∀ (k : Nat) tk mk ek, (H ++ [Blk.obj o])[k]? = some (Blk.row tk mk ek) → k < H.length ∧ H[k]? = some (Blk.row tk mk ek) := by
    intro k tk mk ek hk
    rcases Nat.lt_or_ge k H.length with hlt | hge
    · rw [List.getElem?_append_left hlt] at hk; exact ⟨hlt, hk⟩
    · rw [List.getElem?_append_right hge] at hk
      cases hk0 : k - H.length with
      | zero => rw [hk0] at hk; simp at hk
      | succ z => rw [hk0] at hk; simp at hk
  have partO : ∀ (k : Nat) o', (H ++ [Blk.obj o])[k]? = some (Blk.obj o') → (k = H.length ∧ o' = o) ∨ (k < H.length ∧ H[k]? = some (Blk.obj o')) := by
    intro k o' hk
    rcases Nat.lt_or_ge k H.length with hlt | hge
    · rw [List.getElem?_append_left hlt] at hk; exact .inr ⟨hlt, hk⟩
    · rw [List.getElem?_append_right hge] at hk
      cases hk0 : k - H.length with
      | zero => rw [hk0] at hk; simp at hk; exact .inl ⟨by omega, hk.symm⟩
      | succ z => rw [hk0] at hk; simp at hk
  refine ⟨⟨by simp; exact Nat.le_succ_of_le h.base, fun k K hk => ?_, fun k tk mk ek hk => ?_, fun k j tk mk ek tj mj ej Ik Ij hk hmk hj hσk hσj hreal => ?_, fun k o' hk => ?_, fun k j o1 o2 Ik Ij hk hj hσk hσj hreal => ?_, h.glob.mono hle, fit_push h.fit (by rw [hI1]; simp) (by simp)⟩, Mv.alloc h.fresh hI1 h.base _⟩
  · by_cases hkl : k = H.length
    · subst hkl; rw [hself] at hk; cases hk; simp
    · rw [hold k hkl] at hk
      have := h.dom k K hk
      simp; omega
  · obtain ⟨hlt, hk'⟩ := part k tk mk ek hk
    obtain ⟨K, hK⟩ := h.rows k tk mk ek hk'
    have hKr := hK.lt
    refine ⟨K, hle _ _ hK.here, by simp; omega, hK.len, hK.esz, fun a e j v he hv => ?_, hK.old, fun hm => ?_⟩
    · obtain ⟨h1, v', h2, h3⟩ := hK.cell a e j v he hv
      exact ⟨h1, v', by rw [World.cell?_alloc_lt _ _ _ hKr]; exact h2, h3.mono hle⟩
    · obtain ⟨q1, q3, q4, c, q5, q6⟩ := hK.own hm
      exact ⟨q1, q3, q4, c, by rw [hkeep _ hKr]; exact q5, q6⟩
  · obtain ⟨hlt, hk'⟩ := part k tk mk ek hk
    obtain ⟨hlt', hj'⟩ := part j tj mj ej hj
    rw [hold k (by omega)] at hσk
    rw [hold j (by omega)] at hσj
    exact h.inj k j tk mk ek tj mj ej Ik Ij hk' hmk hj' hσk hσj hreal
  · rcases partO k o' hk with ⟨rfl, rfl⟩ | ⟨hlt, hk'⟩
    · exact ⟨I, ho, hself, by rw [hI1]; exact h.base, hI2, by rw [hI1]; exact hnew, hr _ hle⟩
    · obtain ⟨J, ho', j1, j2, j3, j4, j5⟩ := h.objs k o' hk'
      exact ⟨J, ho', hle _ _ j1, j2, j3, by rw [hkeep _ (Array.getElem?_eq_some_iff.1 j4).1]; exact j4, j5.mono hle⟩
  · rcases partO k o1 hk with ⟨rfl, _⟩ | ⟨hlt, hk'⟩ <;> rcases partO j o2 hj with ⟨rfl, _⟩ | ⟨hlt', hj'⟩
    · rfl
    · rw [hself] at hσk; cases hσk
      rw [hold j (by omega)] at hσj
      obtain ⟨J, ho', j1, _, _, j4, _⟩ := h.objs j o2 hj'
      have hJI : J = Ij := Option.some.inj (j1.symm.trans hσj)
      have := (Array.getElem?_eq_some_iff.1 j4).1
      rw [hJI] at this
      rw [hI1] at hreal; omega
    · rw [hself] at hσj; cases hσj
      rw [hold k (by omega)] at hσk
      obtain ⟨J, ho', j1, _, _, j4, _⟩ := h.objs k o1 hk'
      have hJI : J = Ik := Option.some.inj (j1.symm.trans hσk)
      have := (Array.getElem?_eq_some_iff.1 j4).1
      rw [hJI] at this
      rw [hI1] at hreal; omega
    · rw [hold k (by omega)] at hσk
      rw [hold j (by omega)] at hσj
      exact h.oinj k j o1 o2 Ik Ij hk' hj' hσk hσj hreal

theorem HRel.pushObj (h : HRel P σ B H w) (o : MOb) (ho : Obj) (hno : ∀ cur t fr, ho ≠ .cells cur t fr) (hr : ∀ τ : Sg, σ.le τ → ObRel P τ o ho) :
    HRel P (σ.push H.length ⟨w.heap.size, 0, 0, 0, none⟩) B (H ++ [.obj o]) (w.alloc ho) ∧ Mv B σ (σ.push H.length ⟨w.heap.size, 0, 0, 0, none⟩) w (w.alloc ho) := h.pushObjI _ rfl rfl o ho hr

/-- an object is written over -/
theorem HRel.setObj (h : HRel P σ B H w) {i : Nat} {o o' : MOb} {I : Info} (hb : H[i]? = some (.obj o)) (hI : σ i = some I) {w' : World} {ho : Obj} (hsz : w'.heap.size = w.heap.size) (hnew : w'.heap[I.real]? = some ho) (hold : ∀ k, k ≠ I.real → w'.heap[k]? = w.heap[k]?)
    (hos : w'.os = w.os) (hr : ObRel P σ o' ho) (hbl : Below B w w') : HRel P σ B (H.set i (.obj o')) w' := by
  have hil : i < H.length := (List.getElem?_eq_some_iff.1 hb).1
  obtain ⟨I', ho0, i1, i2, i3, i4, i5⟩ := h.objs i o hb
  have : I' = I := Option.some.inj (i1.symm.trans hI)
  subst this
  have back : ∀ (m : Nat) tm mm em, (H.set i (.obj o'))[m]? = some (Blk.row tm mm em) → H[m]? = some (Blk.row tm mm em) := by
    intro m tm mm em hm
    by_cases hmi : m = i
    · subst hmi; rw [List.getElem?_set_self hil] at hm; cases hm
    · rwa [List.getElem?_set_ne (Ne.symm hmi)] at hm
  have cellq : ∀ a : Addr, a.block ≠ I'.real → w'.cell? a = w.cell? a := fun a ha => by simp only [World.cell?, hold _ ha]
  refine ⟨by rw [hsz]; exact h.base, fun k K hk => by rw [List.length_set]; exact h.dom k K hk, fun k tk mk ek hk => ?_, fun k j tk mk ek tj mj ej Ik Ij hk hmk hj => h.inj k j tk mk ek tj mj ej Ik Ij (back _ _ _ _ hk) hmk (back _ _ _ _ hj), fun k o1 hk => ?_, fun k j o1 o2 Ik Ij hk hj => ?_, h.glob, by rw [hsz]; exact h.fit⟩
  · have hk' := back _ _ _ _ hk
    obtain ⟨K, hK⟩ := h.rows k tk mk ek hk'
    have hne := h.apart hk' hb hK.here hI
    refine ⟨K, hK.here, by rw [hsz]; exact hK.lt, hK.len, hK.esz, fun a e j v he hv => ?_, hK.old, fun hm => ?_⟩
    · obtain ⟨h1, v', h2, h3⟩ := hK.cell a e j v he hv
      exact ⟨h1, v', by rw [cellq _ hne]; exact h2, h3⟩
    · obtain ⟨q1, q3, q4, c, q5, q6⟩ := hK.own hm
      exact ⟨q1, q3, q4, c, by rw [hold _ hne]; exact q5, q6⟩
  · by_cases hki : k = i
    · subst hki
      rw [List.getElem?_set_self hil] at hk
      cases hk
      exact ⟨I', ho, hI, i2, i3, hnew, hr⟩
    · rw [List.getElem?_set_ne (Ne.symm hki)] at hk
      obtain ⟨J, ho', j1, j2, j3, j4, j5⟩ := h.objs k o1 hk
      have hne : J.real ≠ I'.real := fun e => hki (h.oinj k i o1 o J I' hk hb j1 hI e)
      exact ⟨J, ho', j1, j2, j3, by rw [hold _ hne]; exact j4, j5⟩
  · have b2 : ∀ (m : Nat) om, (H.set i (.obj o'))[m]? = some (Blk.obj om) → ∃ om', H[m]? = some (Blk.obj om') := by
      intro m om hm
      by_cases hmi : m = i
      · subst hmi; exact ⟨o, hb⟩
      · rw [List.getElem?_set_ne (Ne.symm hmi)] at hm; exact ⟨om, hm⟩
    obtain ⟨ok, hk'⟩ := b2 k o1 hk
    obtain ⟨oj, hj'⟩ := b2 j o2 hj
    exact h.oinj k j ok oj Ik Ij hk' hj'
end
end Go.Wm
