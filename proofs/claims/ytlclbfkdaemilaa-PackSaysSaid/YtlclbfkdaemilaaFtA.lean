/- What laid rows are like: each edge is told, nothing else is, each owned place is some edge's, the last place is owned, no row could have had a lesser base. Plain: no program is in sight. -/
import Derived.Test.YtlclbfkdaemilaaLyF
namespace Go.Proofs.Ytlclbfkdaemilaa
set_option linter.unusedSimpArgs false
set_option linter.unusedVariables false
open Go Go.Vm Go.Proofs So
set_option maxRecDepth 100000
set_option maxHeartbeats 1000000

def Nd (l : Edges) : Prop := l.Pairwise fun a b => a.1 ≠ b.1
theorem scan_nd : ∀ {l : Edges} {seen : Nat → Bool}, scan seen l = true → (∀ e ∈ l, seen e.1.toNat = false) ∧ Nd l
  | [], _, _ => ⟨by simp, .nil⟩
  | x :: r, seen, h => by
    unfold scan at h
    split at h
    · cases h
    · split at h
      · cases h
      · split at h
        · cases h
        · rename_i h1 h2 h3
          have hok := scan_ok h
          obtain ⟨k1, k2⟩ := scan_nd h
          refine ⟨fun e he => ?_, List.pairwise_cons.2 ⟨fun e he => ?_, k2⟩⟩
          · rcases List.mem_cons.1 he with rfl | he
            · simpa using h3
            · have := k1 e he
              by_cases e1 : e.1.toNat = x.1.toNat
              · rw [if_pos e1] at this; cases this
              · rw [if_neg e1] at this; exact this
          · intro e1
            have := k1 e he
            rw [if_pos (by rw [e1])] at this; cases this
theorem isRow_nd {l : Edges} (h : isRowS l = true) : Nd l := (scan_nd h).2

/-- how many places are owned -/
def owned (o : List Int) : Nat := o.countP fun z => decide (0 ≤ z)
theorem getD_set {l : List Int} {k : Nat} {y d : Int} (hk : k < l.length) (x : Nat) : (l.set k y).getD x d = if x = k then y else l.getD x d := by
  simp only [List.getD_eq_getElem?_getD]
  by_cases e : x = k
  · subst e; rw [List.getElem?_set_self hk, if_pos rfl]; rfl
  · rw [List.getElem?_set_ne (Ne.symm e), if_neg e]
theorem getD_pad {l : List Int} {k : Nat} {d : Int} (x : Nat) : (pad l k d).getD x d = l.getD x d := by
  unfold pad
  simp only [List.getD_eq_getElem?_getD]
  by_cases hx : x < l.length
  · rw [List.getElem?_append_left hx]
  · rw [List.getElem?_append_right (by omega), List.getElem?_eq_none (by omega : l.length ≤ x), List.getElem?_replicate]
    split <;> rfl
theorem owned_pad (l : List Int) (k : Nat) : owned (pad l k (-1)) = owned l := by
  unfold owned pad
  rw [List.countP_append, List.countP_replicate]
  simp
theorem owned_set : ∀ {l : List Int} {k : Nat} {y : Int}, k < l.length → l.getD k (-1) < 0 → 0 ≤ y → owned (l.set k y) = owned l + 1
  | [], k, y, hk, _, _ => by simp at hk
  | x :: l, 0, y, hk, h1, h2 => by
    simp only [List.getD_cons_zero] at h1
    unfold owned
    rw [List.set_cons_zero, List.countP_cons, List.countP_cons, if_pos (by simpa using h2), if_neg (by simp; omega)]
  | x :: l, k + 1, y, hk, h1, h2 => by
    simp only [List.getD_cons_succ] at h1
    have ih := owned_set (l := l) (k := k) (by simpa using hk) h1 h2
    unfold owned at ih ⊢
    rw [List.set_cons_succ, List.countP_cons, List.countP_cons, ih]
    omega

/-- the row is laid, edge by edge -/
structure Mid (o v : List Int) (b : Int) (j : Nat) (pe : Edges) (o' v' : List Int) : Prop where
  len : o'.length = v'.length
  le : o.length ≤ o'.length
  oin : ∀ e ∈ pe, (b + e.1).toNat < o'.length ∧ o'.getD (b + e.1).toNat (-1) = j ∧ v'.getD (b + e.1).toNat 0 = e.2
  out : ∀ x : Nat, (∀ e ∈ pe, x ≠ (b + e.1).toNat) → o'.getD x (-1) = o.getD x (-1) ∧ v'.getD x 0 = v.getD x 0
  last : o' ≠ [] → 0 ≤ o'.getD (o'.length - 1) (-1)
  cnt : owned o' = owned o + pe.length
theorem mid_step {o v o' v' : List Int} {b : Int} {j : Nat} {pe : Edges} {e : Int × Int} (h : Mid o v b j pe o' v') (hb : 0 ≤ b) (he : 0 ≤ e.1) (hfree : o.getD (b + e.1).toNat (-1) < 0) (hne : ∀ f ∈ pe, 0 ≤ f.1 ∧ f.1 ≠ e.1) :
    Mid o v b j (pe ++ [e]) (place b j (o', v') e).1 (place b j (o', v') e).2 := by
  obtain ⟨q1, q2⟩ := place_len (b := b) (i := j) (ov := (o', v')) (e := e) h.len
  have k1 : (b + e.1).toNat < (pad o' (b + e.1).toNat (-1)).length := by rw [pad_len]; split <;> omega
  have k2 : (b + e.1).toNat < (pad v' (b + e.1).toNat 0).length := by rw [pad_len]; split <;> omega
  have gO : ∀ x, (place b j (o', v') e).1.getD x (-1) = if x = (b + e.1).toNat then (j : Int) else o'.getD x (-1) := fun x => by
    unfold place; rw [getD_set k1, getD_pad]
  have gV : ∀ x, (place b j (o', v') e).2.getD x 0 = if x = (b + e.1).toNat then e.2 else v'.getD x 0 := fun x => by
    unfold place; rw [getD_set k2, getD_pad]
  have hfr : o'.getD (b + e.1).toNat (-1) < 0 := by
    rw [(h.out _ fun f hf => by have := hne f hf; omega).1]; exact hfree
  simp only at q2
  refine ⟨q1, by rw [q2]; have := h.le; split <;> omega, fun f hf => ?_, fun x hx => ?_, fun _ => ?_, ?_⟩
  · rcases List.mem_append.1 hf with hf | hf
    · obtain ⟨a1, a2, a3⟩ := h.oin f hf
      have := hne f hf
      rw [gO, gV, if_neg (by omega), if_neg (by omega), q2]
      exact ⟨by split <;> omega, a2, a3⟩
    · rw [List.mem_singleton.1 hf, gO, gV, if_pos rfl, if_pos rfl, q2]
      exact ⟨by split <;> omega, rfl, rfl⟩
  · have hx2 := hx e (by simp)
    rw [gO, gV, if_neg hx2, if_neg hx2]
    exact h.out x fun f hf => hx f (by simp [hf])
  · rw [gO, q2]
    split
    · split
      · omega
      · refine h.last fun e2 => ?_
        have : o'.length = 0 := by rw [e2]; rfl
        omega
    · rw [if_pos (by omega)]; omega
  · show owned ((pad o' (b + e.1).toNat (-1)).set (b + e.1).toNat j) = _
    rw [owned_set k1 (by rw [getD_pad]; exact hfr) (by omega), owned_pad, h.cnt, List.length_append, List.length_singleton]; omega
theorem mid_fold {o v : List Int} {b : Int} {j : Nat} (hb : 0 ≤ b) : ∀ (es pe : Edges) (o' v' : List Int), Ok (pe ++ es) → Nd (pe ++ es) → (∀ e ∈ es, o.getD (b + e.1).toNat (-1) < 0) → Mid o v b j pe o' v' →
    Mid o v b j (pe ++ es) (es.foldl (place b j) (o', v')).1 (es.foldl (place b j) (o', v')).2
  | [], pe, o', v', _, _, _, h => by simpa using h
  | e :: es, pe, o', v', hok, hnd, hf, h => by
    have h1 := mid_step (e := e) h hb (hok e (by simp)).1 (hf e (by simp)) fun f hf2 => by
      refine ⟨(hok f (by simp [hf2])).1, ?_⟩
      have := (List.pairwise_append.1 hnd).2.2 f hf2 e (by simp)
      exact this
    have := mid_fold hb es (pe ++ [e]) _ _ (by simpa using hok) (by simpa using hnd) (fun f hf2 => hf f (by simp [hf2])) h1
    rw [List.append_assoc] at this
    exact this

/-- the base is the first that fits -/
theorem fitAt_spec {o : List Int} {l : Edges} (hl : Ok l) : ∀ (n : Nat) (b : Int), o.length ≤ b + n → b ≤ o.length → fitsB o l (fitAt o l n b) = true ∧ ∀ c, b ≤ c → c < fitAt o l n b → fitsB o l c = false
  | 0, b, h1, h2 => ⟨fitsB_far hl (by simp only [fitAt]; omega), fun c h3 h4 => by simp only [fitAt] at h4; omega⟩
  | n + 1, b, h1, h2 => by
    cases hf : fitsB o l b with
    | true => rw [fitAt_stop hf]; exact ⟨hf, fun c h3 h4 => by omega⟩
    | false =>
      rw [fitAt_step hf]
      have hlt : b < o.length := by
        apply Int.lt_of_not_ge
        intro hge
        rw [fitsB_far hl hge] at hf; cases hf
      obtain ⟨k1, k2⟩ := fitAt_spec (o := o) hl n (b + 1) (by omega) (by omega)
      refine ⟨k1, fun c h3 h4 => ?_⟩
      by_cases e : c = b
      · rw [e]; exact hf
      · exact k2 c (by omega) h4
theorem hit_iff {o : List Int} {b : Int} {e : Int × Int} (h : 0 ≤ b + e.1) : hit o b e = true ↔ (b + e.1).toNat < o.length ∧ 0 ≤ o.getD (b + e.1).toNat (-1) := by
  unfold hit
  rw [Bool.and_eq_true, decide_eq_true_iff, decide_eq_true_iff]
  constructor
  · rintro ⟨h1, h2⟩
    refine ⟨by omega, ?_⟩
    rw [List.getD_eq_getElem?_getD, List.getElem?_eq_getElem (by omega)] at h2 ⊢
    exact h2
  · rintro ⟨h1, h2⟩
    refine ⟨by omega, ?_⟩
    rw [List.getD_eq_getElem?_getD, List.getElem?_eq_getElem (by omega)] at h2 ⊢
    exact h2
theorem free_of_fits {o : List Int} {l : Edges} {b : Int} (hl : Ok l) (hb : 0 ≤ b) (h : fitsB o l b = true) : ∀ e ∈ l, o.getD (b + e.1).toNat (-1) < 0 := by
  intro e he
  unfold fitsB at h
  rw [Bool.not_eq_true', List.any_eq_false] at h
  have h1 := h e he
  have := hl e he
  rw [hit_iff (by omega)] at h1
  by_cases hx : (b + e.1).toNat < o.length
  · apply Int.lt_of_not_ge
    intro hge
    exact h1 ⟨hx, hge⟩
  · rw [List.getD_eq_getElem?_getD, List.getElem?_eq_none (by omega)]; simp

structure Inv (rows : List Edges) (done : List Nat) (s : Laid) : Prop where
  len : s.o.length = s.v.length
  bsl : s.bs.length = rows.length
  b0 : ∀ j, 0 ≤ s.bs.getD j 0
  z0 : ∀ j, j ∉ done → s.bs.getD j 0 = 0
  own : ∀ j ∈ done, ∀ e ∈ rows.getD j [], (s.bs.getD j 0 + e.1).toNat < s.o.length ∧ s.o.getD (s.bs.getD j 0 + e.1).toNat (-1) = j ∧ s.v.getD (s.bs.getD j 0 + e.1).toNat 0 = e.2
  all : ∀ x : Nat, (s.o.getD x (-1) = -1 ∧ s.v.getD x 0 = 0) ∨ ∃ j ∈ done, ∃ e ∈ rows.getD j [], (x : Int) = s.bs.getD j 0 + e.1 ∧ s.o.getD x (-1) = j
  last : s.o ≠ [] → 0 ≤ s.o.getD (s.o.length - 1) (-1)
  way : ∀ j ∈ done, ∀ b, 0 ≤ b → b < s.bs.getD j 0 → ∃ e ∈ rows.getD j [], (b + e.1).toNat < s.o.length ∧ ∃ i ∈ done, s.o.getD (b + e.1).toNat (-1) = i ∧ Rr rows i j
  cnt : owned s.o = (done.map (rowLen rows)).sum
theorem inv_step {rows : List Edges} {done : List Nat} {s : Laid} {j : Nat} (h : Inv rows done s) (hj : j < rows.length) (hnd : j ∉ done) (hlt : ∀ i ∈ done, Rr rows i j) (hok : Ok (rows.getD j [])) (hn : Nd (rows.getD j [])) :
    Inv rows (done ++ [j]) (putR rows s j) := by
  obtain ⟨b0, b1⟩ := baseS_le (o := s.o) hok
  obtain ⟨f1, f2⟩ := fitAt_spec (o := s.o) hok s.o.length 0 (by omega) (by omega)
  have hfree := free_of_fits hok b0 f1
  have m0 : Mid s.o s.v (baseS s.o (rows.getD j [])) j [] s.o s.v := ⟨h.len, Nat.le_refl _, by simp, fun x _ => ⟨rfl, rfl⟩, h.last, rfl⟩
  have m := mid_fold b0 (rows.getD j []) [] s.o s.v (by simpa using hok) (by simpa using hn) hfree m0
  rw [List.nil_append] at m
  have hs : putR rows s j = ⟨s.bs.set j (baseS s.o (rows.getD j [])), ((rows.getD j []).foldl (place (baseS s.o (rows.getD j [])) j) (s.o, s.v)).1, ((rows.getD j []).foldl (place (baseS s.o (rows.getD j [])) j) (s.o, s.v)).2⟩ := rfl
  rw [hs]
  have hbj : j < s.bs.length := by rw [h.bsl]; exact hj
  have gB : ∀ i, (s.bs.set j (baseS s.o (rows.getD j []))).getD i 0 = if i = j then baseS s.o (rows.getD j []) else s.bs.getD i 0 := fun i => getD_set hbj i
  have hf2 : ∀ c, 0 ≤ c → c < baseS s.o (rows.getD j []) → fitsB s.o (rows.getD j []) c = false := fun c h1 h2 => f2 c h1 h2
  clear hs f2 f1
  generalize baseS s.o (rows.getD j []) = b at *
  generalize ((rows.getD j []).foldl (place b j) (s.o, s.v)).1 = o' at *
  generalize ((rows.getD j []).foldl (place b j) (s.o, s.v)).2 = v' at *
  -- a place that was owned is none of the row's
  have hdis : ∀ x : Nat, 0 ≤ s.o.getD x (-1) → ∀ e ∈ rows.getD j [], x ≠ (b + e.1).toNat := fun x hx e he e2 => by
    have := hfree e he; rw [← e2] at this; omega
  have hin : ∀ i ∈ done, i ≠ j := fun i hi e => hnd (by rw [← e]; exact hi)
  refine ⟨m.len, by simp [h.bsl], fun i => ?_, fun i hi => ?_, fun i hi e he => ?_, fun x => ?_, m.last, fun i hi c hc1 hc2 => ?_, ?_⟩
  · simp only [gB]; split
    · exact b0
    · exact h.b0 i
  · simp only [gB]
    rw [List.mem_append, List.mem_singleton] at hi
    rw [if_neg (fun e => hi (.inr e))]; exact h.z0 i (fun e => hi (.inl e))
  · simp only [gB]
    rcases List.mem_append.1 hi with hi | hi
    · rw [if_neg (hin i hi)]
      obtain ⟨a1, a2, a3⟩ := h.own i hi e he
      have := m.out _ (hdis _ (by rw [a2]; omega))
      rw [this.1, this.2]
      exact ⟨Nat.lt_of_lt_of_le a1 m.le, a2, a3⟩
    · have hij := List.mem_singleton.1 hi
      subst hij
      rw [if_pos rfl]
      exact m.oin e he
  · by_cases hx : ∃ e ∈ rows.getD j [], x = (b + e.1).toNat
    · obtain ⟨e, he, rfl⟩ := hx
      right
      refine ⟨j, by simp, e, he, ?_, (m.oin e he).2.1⟩
      simp only [gB, if_pos]
      have := hok e he
      omega
    · have hx2 : ∀ e ∈ rows.getD j [], x ≠ (b + e.1).toNat := fun e he e2 => hx ⟨e, he, e2⟩
      have := m.out x hx2
      simp only [this.1, this.2, gB]
      rcases h.all x with h1 | ⟨i, hi, e, he, h1, h2⟩
      · exact .inl h1
      · exact .inr ⟨i, by simp [hi], e, he, by rw [if_neg (hin i hi)]; exact h1, h2⟩
  · simp only [gB] at hc2
    rcases List.mem_append.1 hi with hi | hi
    · rw [if_neg (hin i hi)] at hc2
      obtain ⟨e, he, a1, k, hk, a2, a3⟩ := h.way i hi c hc1 hc2
      refine ⟨e, he, Nat.lt_of_lt_of_le a1 m.le, k, by simp [hk], ?_, a3⟩
      rw [(m.out _ (hdis _ (by rw [a2]; omega))).1]; exact a2
    · have hij := List.mem_singleton.1 hi
      subst hij
      rw [if_pos rfl] at hc2
      have hf := hf2 c hc1 hc2
      unfold fitsB at hf
      rw [Bool.not_eq_false', List.any_eq_true] at hf
      obtain ⟨e, he, h1⟩ := hf
      have hoe := hok e he
      rw [hit_iff (by omega)] at h1
      refine ⟨e, he, Nat.lt_of_lt_of_le h1.1 m.le, ?_⟩
      rcases h.all (c + e.1).toNat with h2 | ⟨k, hk, f, hf, h3, h4⟩
      · rw [h2.1] at h1; omega
      · refine ⟨k, by simp [hk], ?_, hlt k hk⟩
        rw [(m.out _ (hdis _ h1.2)).1]; exact h4
  · rw [List.map_append, List.sum_append]
    have : rowLen rows j = (rows.getD j []).length := rfl
    simp only [List.map_cons, List.map_nil, List.sum_cons, List.sum_nil, this, ← h.cnt]
    exact m.cnt
theorem inv_fold {rows : List Edges} (hall : rows.all isRowS = true) : ∀ (js done : List Nat) (s : Laid), (done ++ js).Pairwise (Rr rows) → (∀ j ∈ js, j < rows.length) → Inv rows done s → Inv rows (done ++ js) (js.foldl (putR rows) s)
  | [], done, s, _, _, h => by simpa using h
  | j :: js, done, s, hp, hj, h => by
    have hlt : ∀ i ∈ done, Rr rows i j := fun i hi => (List.pairwise_append.1 hp).2.2 i hi j (by simp)
    have hnd : j ∉ done := fun hm => by have := hlt j hm; unfold Rr lt at this; omega
    have hn : Nd (rows.getD j []) := by
      have := hj j (by simp)
      rw [List.getD_eq_getElem?_getD, List.getElem?_eq_getElem this]
      exact isRow_nd (List.all_eq_true.1 hall _ (List.getElem_mem ..))
    have h1 := inv_step h (hj j (by simp)) hnd hlt (rows_ok hall j) hn
    have := inv_fold hall js (done ++ [j]) _ (by simpa using hp) (fun i hi => hj i (by simp [hi])) h1
    rw [List.append_assoc] at this
    exact this
theorem inv_lay {rows : List Edges} (hall : rows.all isRowS = true) : Inv rows (ordN rows 256) (layR rows) := by
  have h0 : Inv rows [] ⟨List.replicate rows.length 0, [], []⟩ := by
    refine ⟨rfl, by simp, fun j => ?_, fun j _ => ?_, fun j hj => (by cases hj), fun x => .inl ⟨rfl, rfl⟩, fun h => absurd rfl h, fun j hj => (by cases hj), rfl⟩
    all_goals simp only [List.getD_eq_getElem?_getD, List.getElem?_replicate]
    all_goals split <;> simp
  exact inv_fold hall (ordN rows 256) [] _ (by simpa using ordN_pairwise 256) (fun j hj => ((mem_ordN 256).1 hj).1) h0

theorem filter_sum {p : Nat → Bool} {f g h : Nat → Nat} (hh : ∀ x, h x = if p x = true then f x else g x) (hz : ∀ x, p x = true → g x = 0) : ∀ l : List Nat, ((l.filter p).map f).sum + (l.map g).sum = (l.map h).sum
  | [] => rfl
  | x :: l => by
    have ih := filter_sum hh hz l
    rw [List.filter_cons, List.map_cons, List.map_cons, List.sum_cons, List.sum_cons, hh x]
    by_cases hp : p x = true
    · rw [if_pos hp, if_pos hp, List.map_cons, List.sum_cons, hz x hp]; omega
    · rw [if_neg hp, if_neg hp]; omega
theorem ordN_sum {rows : List Edges} : ∀ n, ((ordN rows n).map (rowLen rows)).sum = ((List.range rows.length).map fun i => if rowLen rows i ≤ n then rowLen rows i else 0).sum
  | 0 => by
    have : ∀ l : List Nat, (l.map fun i => if rowLen rows i ≤ 0 then rowLen rows i else 0).sum = 0 := by
      intro l
      induction l with
      | nil => rfl
      | cons x l ih => rw [List.map_cons, List.sum_cons, ih]; split <;> omega
    rw [this]; rfl
  | n + 1 => by
    rw [ordN, List.map_append, List.sum_append, ordN_sum n]
    unfold idxOf
    refine filter_sum (fun x => ?_) (fun x hx => ?_) _
    · simp only [beq_iff_eq]
      split <;> split <;> (try split) <;> omega
    · simp only [beq_iff_eq] at hx
      rw [if_neg (by omega)]
def edgesTo (rows : List Edges) (i : Nat) : Nat := ((List.range i).map (rowLen rows)).sum
theorem edgesTo_step (rows : List Edges) (i : Nat) : edgesTo rows (i + 1) = edgesTo rows i + rowLen rows i := by
  unfold edgesTo; rw [List.range_succ, List.map_append, List.sum_append]; simp
theorem owned_lay {rows : List Edges} (hall : rows.all isRowS = true) : owned (layR rows).o = edgesTo rows rows.length := by
  rw [(inv_lay hall).cnt, ordN_sum]
  unfold edgesTo
  congr 1
  apply List.map_congr_left
  intro i _
  rw [if_pos (rows_len hall i)]

section
variable {rows : List Edges} {s : Laid} {i : Nat}
theorem in_ord {e : Int × Int} (hall : rows.all isRowS = true) (hi : i < rows.length) (he : e ∈ rows.getD i []) : i ∈ ordN rows 256 := by
  rw [mem_ordN]
  refine ⟨hi, ?_, rows_len hall i⟩
  unfold rowLen
  exact List.length_pos_of_mem he
theorem at_edge (hall : rows.all isRowS = true) (hi : i < rows.length) {e : Int × Int} (he : e ∈ rows.getD i []) :
    atS (layR rows).bs (layR rows).v (layR rows).o i e.1 = (e.2, true) := by
  have h := inv_lay hall
  obtain ⟨h1, h2, h3⟩ := h.own i (in_ord hall hi he) e he
  have hok := rows_ok hall i e he
  have hb := h.b0 i
  have hbl := h.bsl
  have hl := h.len
  have hi2 : ((i : Int)).toNat = i := by omega
  unfold atS
  rw [if_neg (by omega), if_neg (by omega), if_neg (by omega)]
  simp only [hi2]
  generalize (layR rows).bs.getD i 0 = b at *
  rw [if_neg (by omega), if_neg (by omega), if_neg (by split <;> omega)]
  have e0 : (layR rows).o.getD (b + e.1).toNat 0 = i := by
    rw [List.getD_eq_getElem?_getD, List.getElem?_eq_getElem h1] at h2 ⊢; exact h2
  rw [if_neg (by rw [e0]; simp), h3]
theorem at_none (hall : rows.all isRowS = true) (hi : i < rows.length) {x : Int} (hx : ∀ e ∈ rows.getD i [], e.1 ≠ x) :
    atS (layR rows).bs (layR rows).v (layR rows).o i x = (0, false) := by
  have h := inv_lay hall
  have hb := h.b0 i
  have hbl := h.bsl
  have hl := h.len
  have hi2 : ((i : Int)).toNat = i := by omega
  unfold atS
  rw [if_neg (by omega), if_neg (by omega)]
  by_cases h1 : x < 0
  · rw [if_pos h1]
  rw [if_neg h1]
  simp only [hi2]
  have ha := h.all ((layR rows).bs.getD i 0 + x).toNat
  generalize hbb : (layR rows).bs.getD i 0 = b at *
  rw [if_neg (by omega)]
  have hmin : (if ((layR rows).o.length : Int) < (layR rows).v.length then ((layR rows).o.length : Int) else (layR rows).v.length) = (layR rows).o.length := by split <;> omega
  rw [hmin]
  by_cases h2 : ((layR rows).o.length : Int) < b
  · rw [if_pos h2]
  rw [if_neg h2]
  by_cases h3 : ((layR rows).o.length : Int) - b ≤ x
  · rw [if_pos h3]
  rw [if_neg h3]
  have h4 : (b + x).toNat < (layR rows).o.length := by omega
  have e0 : (layR rows).o.getD (b + x).toNat 0 = (layR rows).o.getD (b + x).toNat (-1) := by
    rw [List.getD_eq_getElem?_getD, List.getD_eq_getElem?_getD, List.getElem?_eq_getElem h4]; rfl
  rw [if_pos]
  rw [e0]
  intro e1
  rcases ha with ha | ⟨j, _, f, hf, h5, h6⟩
  · rw [ha.1] at e1; omega
  · rw [h6] at e1
    have : j = i := by omega
    subst this
    rw [hbb] at h5
    exact hx f hf (by omega)
end
end Go.Proofs.Ytlclbfkdaemilaa
