/- append. -/
import Derived.Test.YtlclbfkdaemilaaVmF
namespace Go.Vm
set_option linter.unusedSimpArgs false
set_option linter.unusedVariables false
open Go.RowKit
section
variable {P : Program} {σ : Sg} {B N : Nat} {H H' : Hp} {w : World} {a : Act} {E : Fr} {o : Oper} {v : VV}

/-- what is appended, as the model sees it -/
structure SrcOk (P : Program) (σ : Sg) (w : World) (z : Nat) (news : List (List VV)) (x : Value) (cs : List Value) : Prop where
  flat : Flat σ z news cs.toArray
  len : cs.length = news.length * z
  one : ∀ u ∈ cs, u.oneCell' = true
  lenOf : ∀ w2, (Builtin.lenOf x).run P w2 = .ok news.length w2
  first : ∀ w2, Below w.heap.size w w2 → (Builtin.firstCells z news.length x).run P w2 = .ok cs.toArray w2
  here : ∀ ad m c, x = .slice (some ad) m c → ∀ (q : Nat) u, cs[q]? = some u → w.cell? (ad.add q) = some u

theorem flat_nil (z : Nat) : Flat σ z [] #[] := ⟨by simp, by simp, by simp⟩

theorem src_ok (hH : HRel σ B H w) {z : Nat} (hz : 0 < z) {u : VV} {u' : Value} (hu : VRel σ u u') {news : List (List VV)} (hs : srcEls H z u = some news) : ∃ cs, SrcOk P σ w z news u' cs := by
  unfold srcEls at hs
  split at hs
  · simp at hs; subst hs
    cases hu
    exact ⟨[], flat_nil z, by simp, by simp, fun w2 => by simp [Builtin.lenOf], fun w2 _ => by simp [Builtin.firstCells], by simp⟩
  · rename_i p len cap
    obtain ⟨ad, c', e1, hsl⟩ := sl_inv hu
    subst e1
    split at hs
    · rename_i h0
      simp at hs; subst hs; subst h0
      exact ⟨[], flat_nil z, by simp, by simp, fun w2 => by simp [Builtin.lenOf], fun w2 _ => by simp [Builtin.firstCells, loadCells, loadCellsFrom], by simp⟩
    · rename_i h0
      split at hs
      case h_2 => cases hs
      rename_i t md e es hb
      split at hs
      case isFalse => cases hs
      rename_i hc
      obtain ⟨hoff, hez, hfit⟩ := hc
      simp at hs
      obtain ⟨I, hR⟩ := hH.rows _ _ _ _ hb
      obtain ⟨J, hJ, had⟩ := hsl.placed (by omega)
      have eI : I = J := Option.some.inj (hR.here.symm.trans hJ)
      subst eI
      have hIz : I.esz = z := by rw [← hez]; exact (hR.esz e (by simp)).symm
      have hnl : news.length = len := by rw [← hs]; simp; omega
      have hget : ∀ k : Nat, k < len → news[k]? = (e :: es)[p.idx + k]? := fun k hk => by
        rw [← hs, List.getElem?_take, if_pos hk, List.getElem?_drop]
      have hcell : ∀ (k : Nat) e2 (j : Nat) v, news[k]? = some e2 → e2[j]? = some v → v.cell = true ∧ ∃ v', w.cell? (ad.add (k * z + j)) = some v' ∧ VRel σ v v' := by
        intro k e2 j v hk hj
        have hkl : k < len := by rw [← hnl]; exact (List.getElem?_eq_some_iff.1 hk).1
        rw [hget k hkl] at hk
        obtain ⟨q0, v', q1, q2⟩ := hR.cell _ _ _ _ hk hj
        refine ⟨q0, v', ?_, q2⟩
        rw [← q1, had, hIz]
        have : (I.base + p.idx * z + p.off + (k * z + j)) = I.base + (p.idx + k) * z + j := by rw [Nat.add_mul, hoff]; omega
        unfold Addr.add
        split
        · rename_i h0; rw [h0] at this; simp at this; simp [this]
        · simp [this]
      have hesz : ∀ e2 ∈ news, e2.length = z := fun e2 he2 => by
        obtain ⟨k, hk⟩ := List.getElem?_of_mem he2
        have hkl : k < len := by rw [← hnl]; exact (List.getElem?_eq_some_iff.1 hk).1
        rw [hget k hkl] at hk
        rw [← hIz]; exact hR.esz e2 (List.mem_of_getElem? hk)
      let f : Nat → Value := fun q => (w.cell? (ad.add q)).getD undef
      have hall : ∀ q, q < len * z → ∃ v v', w.cell? (ad.add q) = some v' ∧ VRel σ v v' ∧ v.cell = true := by
        intro q hq
        have hk : q / z < len := Nat.div_lt_of_lt_mul (by rw [Nat.mul_comm]; exact hq)
        have hj : q % z < z := Nat.mod_lt _ hz
        have hk' : q / z < news.length := by omega
        have hj' : q % z < news[q / z].length := by rw [hesz _ (List.getElem_mem hk')]; exact hj
        obtain ⟨q0, v', q1, q2⟩ := hcell (q / z) news[q / z] (q % z) news[q / z][q % z] (List.getElem?_eq_getElem hk') (List.getElem?_eq_getElem hj')
        rw [show q / z * z + q % z = q by rw [Nat.mul_comm]; exact Nat.div_add_mod q z] at q1
        exact ⟨_, v', q1, q2, q0⟩
      refine ⟨(List.range (len * z)).map f, ⟨by simp [hnl], hesz, fun k e2 j v hk hj => ?_⟩, by simp [hnl], ?_, fun w2 => by simp [Builtin.lenOf, hnl], fun w2 hw2 => ?_, fun ad' m' c'' hx q u hq => ?_⟩
      · obtain ⟨q0, v', q1, q2⟩ := hcell k e2 j v hk hj
        refine ⟨q0, v', ?_, q2⟩
        have hkl : k < len := by rw [← hnl]; exact (List.getElem?_eq_some_iff.1 hk).1
        have hjz : j < z := by rw [← hesz e2 (List.mem_of_getElem? hk)]; exact (List.getElem?_eq_some_iff.1 hj).1
        have hlt : k * z + j < len * z := by
          have : (k + 1) * z ≤ len * z := Nat.mul_le_mul_right _ hkl
          rw [Nat.add_mul] at this; omega
        simp [hlt, f, q1]
      · intro u hu
        obtain ⟨q, hq, rfl⟩ := List.mem_map.1 hu
        obtain ⟨v, v', q1, q2, q0⟩ := hall q (by simpa using hq)
        simp [f, q1]
        exact q2.oneCell q0
      · have hr := hR.lt
        have h3 := run_loadCells (P := P) w2 ad (len * z) f (fun q hq => by
          obtain ⟨v, v', q1, _⟩ := hall q hq
          rw [hw2.cell (p := ad.add q) (by rw [had]; unfold Addr.add; split <;> exact hr), q1]
          simp [f, q1])
        simp only [Builtin.firstCells, hnl, h3]
      · obtain ⟨rfl, _, _⟩ : ad = ad' ∧ len = m' ∧ c' = c'' := by simpa using hx
        have hql : q < len * z := by have := (List.getElem?_eq_some_iff.1 hq).1; simpa using this
        obtain ⟨v, v', q1, _⟩ := hall q hql
        rw [q1]
        simp [hql, f, q1] at hq
        rw [hq]
  · rename_i s
    split at hs
    case isFalse => cases hs
    rename_i hz1
    subst hz1
    simp at hs
    have e1 := str_inv hu
    subst e1
    have hnl : news.length = s.length := by rw [← hs]; simp
    refine ⟨s.map fun b => .int .u8 b.toNat, ⟨by simp [hnl], fun e he => ?_, fun k e j v hk hj => ?_⟩, by simp [hnl], fun u hu => ?_, fun w2 => ?_, fun w2 _ => ?_, by simp⟩
    · rw [← hs] at he; obtain ⟨b, _, rfl⟩ := List.mem_map.1 he; rfl
    · rw [← hs] at hk
      rw [List.getElem?_map] at hk
      cases hsk : s[k]? with
      | none => simp [hsk] at hk
      | some b =>
        simp [hsk] at hk; subst hk
        cases j with
        | succ j => simp at hj
        | zero => simp at hj; subst hj; exact ⟨rfl, _, by simp [hsk], .int _ _⟩
    · obtain ⟨b, _, rfl⟩ := List.mem_map.1 hu; rfl
    · simp [Builtin.lenOf, hnl]; rfl
    · simp only [Builtin.firstCells, Sem.run_pure, hnl]
      congr 1
      have : (⟨s.toArray⟩ : ByteArray).extract 0 s.length = ⟨s.toArray⟩ := by
        apply ByteArray.ext
        rw [ByteArray.data_extract]
        apply Array.ext'
        simp
      rw [this]
      apply Array.ext'
      simp
  · cases hs

theorem updRows_get : ∀ (news es : List (List VV)) (k : Nat), k + news.length ≤ es.length → (updRows es k news).length = es.length ∧
    ∀ i : Nat, (updRows es k news)[i]? = if k ≤ i ∧ i < k + news.length then news[i - k]? else es[i]?
  | [], es, k, h => ⟨rfl, fun i => by
      have : ¬ (k ≤ i ∧ i < k + ([] : List (List VV)).length) := by intro h; simp at h; omega
      rw [if_neg this]; rfl⟩
  | e :: news, es, k, h => by
    have hd : updRows es k (e :: news) = updRows (es.set k e) (k + 1) news := rfl
    obtain ⟨h1, h2⟩ := updRows_get news (es.set k e) (k + 1) (by simp at h ⊢; omega)
    refine ⟨by rw [hd, h1]; simp, fun i => ?_⟩
    rw [hd, h2, List.length_cons]
    by_cases hk : i = k
    · subst hk
      rw [if_neg (by omega), if_pos (by omega), List.getElem?_set_self (by simp at h; omega)]
      simp
    · by_cases hk2 : k + 1 ≤ i ∧ i < k + 1 + news.length
      · rw [if_pos hk2, if_pos (by omega), show i - k = (i - (k + 1)) + 1 by omega]; rfl
      · rw [if_neg hk2, if_neg (by omega), List.getElem?_set_ne (Ne.symm hk)]

/-- append, where there is room -/
theorem run_app_room {t u ty e : TypeId} {i : TypeInfo} {d : TypeDesc} {base : Option Addr} {len cap : Nat} {x : Value} {cs : List Value} {n : Nat} (ht : P.underlying t = some (.slice e)) (hu : P.underlying u = some d) (hd : ∀ k, d ≠ .int k) (hi : P.info? e = some i)
    (hl : (Builtin.lenOf x).run P w = .ok n w) (hf : (Builtin.firstCells i.size n x).run P w = .ok cs.toArray w) (hfit : len + n ≤ cap) {w' : World}
    (hst : ∀ ad, base = some ad → (storeCells (ad.add (len * i.size)) cs).run P w = .ok () w') (hn : base = none → w' = w) :
    (Builtin.append_ #[t, u] ty #[.slice base len cap, x]).run P w = .ok (.slice base (len + n) cap) w' := by
  have hm : (d matches .int _) = false := by cases d <;> first | rfl | (exfalso; exact hd _ rfl)
  cases base with
  | none => have := hn rfl; subst this; simp [Builtin.append_, underlying, ht, hu, hm, sizeOf, typeInfo, hi, hl, hfit, hf]
  | some ad => simp [Builtin.append_, underlying, ht, hu, hm, sizeOf, typeInfo, hi, hl, hfit, hf, hst ad rfl]

/-- .. where there is none -/
theorem run_app_grow {t u ty e : TypeId} {i : TypeInfo} {d : TypeDesc} {z : Value} {base : Option Addr} {len cap : Nat} {x : Value} {cs os : List Value} {n : Nat} (ht : P.underlying t = some (.slice e)) (hu : P.underlying u = some d) (hd : ∀ k, d ≠ .int k) (hi : P.info? e = some i) (hz : i.zero = some z)
    (hl : (Builtin.lenOf x).run P w = .ok n w) (hf : ∀ w2, Below w.heap.size w w2 → (Builtin.firstCells i.size n x).run P w2 = .ok cs.toArray w2) (ho : ∀ w2, Below w.heap.size w w2 → (Builtin.firstCells i.size len (.slice base len cap)).run P w2 = .ok os.toArray w2)
    (hg : cap < len + n) (h63 : len + n ≤ 4611686018427387904) (hb : (len + n) * i.bytes ≤ 140737488355328) (hbp : 0 < i.bytes) :
    (Builtin.append_ #[t, u] ty #[.slice base len cap, x]).run P w =
      .ok (.slice (some ⟨w.heap.size, 0, none⟩) (len + n) (grownCap w (len + n) cap e))
        (w.drew.alloc (.cells (os.toArray ++ cs.toArray ++ Builtin.zeroCells z.cells (grownCap w (len + n) cap e - (len + n))) e)) := by
  have hm : (d matches .int _) = false := by cases d <;> first | rfl | (exfalso; exact hd _ rfl)
  have hn : ¬ (len + n ≤ cap) := by omega
  have h63' : ¬ (9223372036854775807 < ((len : Int) + (n : Int))) := by omega
  have h48 : ¬ (281474976710656 < Builtin.nextslicecap (len + n) cap * i.bytes) := by
    have := growslice_fits (bytes := i.bytes) hg hb; omega
  have hdr : Below w.heap.size w w.drew := (Below.refl _ _).drew
  have hbz : i.bytes ≠ 0 := by omega
  have h2 := hf w.drew hdr
  have h3 := ho w.drew hdr
  simp [Builtin.append_, underlying, ht, hu, hm, sizeOf, typeInfo, zeroValue, hi, hz, hl, hn, h63', h48, hbz, Question.forced, h2, h3, newRow, grownCap]
  congr 2
  apply Array.ext'
  simp [List.append_assoc]

/-- a block that stood under another number -/
theorem HRel.again (h : HRel σ B H w) (r : Nat) (hB : B ≤ r) (hr : r < w.heap.size) (hno : ∀ (j : Nat) tj mj ej Ij, H[j]? = some (Blk.row tj mj ej) → σ j = some Ij → Ij.real ≠ r)
    (t : TypeId) (es : List (List VV)) {cur cur2 : Array Value} (hcur : w.heap[r]? = some (.cells cur t (0, 0))) (hs2 : cur2.size = cur.size) (b z m : Nat)
    (hz : ∀ e ∈ es, e.length = z) (hs : cur.size = b + m * z) (hm : es.length ≤ m)
    (hcell : ∀ (k : Nat) e (j : Nat) v, es[k]? = some e → e[j]? = some v → v.cell = true ∧ ∃ v', cur2[b + k * z + j]? = some v' ∧ VRel σ v v') :
    HRel (σ.push H.length ⟨r, b, z, es.length, some m⟩) B (H ++ [.row t .loose es]) (w.setRow r cur2) ∧ Below B w (w.setRow r cur2) := by
  have hle := Sg.le_push (I := ⟨r, b, z, es.length, some m⟩) h.fresh
  have hself : σ.push H.length ⟨r, b, z, es.length, some m⟩ H.length = some ⟨r, b, z, es.length, some m⟩ := by simp [Sg.push]
  have hold : ∀ k, k ≠ H.length → σ.push H.length ⟨r, b, z, es.length, some m⟩ k = σ k := fun k hk => by simp [Sg.push, hk]
  have part : ∀ (k : Nat) tk mk ek, (H ++ [Blk.row t Mode.loose es])[k]? = some (Blk.row tk mk ek) → (k = H.length ∧ tk = t ∧ mk = .loose ∧ ek = es) ∨ (k < H.length ∧ H[k]? = some (Blk.row tk mk ek)) := by
    intro k tk mk ek hk
    rcases Nat.lt_or_ge k H.length with hlt | hge
    · rw [List.getElem?_append_left hlt] at hk; exact .inr ⟨hlt, hk⟩
    · rw [List.getElem?_append_right hge] at hk
      have hk0 : k - H.length = 0 := by
        rcases Nat.eq_zero_or_pos (k - H.length) with h0 | h0
        · exact h0
        · rw [List.getElem?_eq_none (by simp; omega)] at hk; cases hk
      rw [hk0] at hk
      obtain ⟨rfl, rfl, rfl⟩ : t = tk ∧ Mode.loose = mk ∧ es = ek := by simpa using hk
      exact .inl ⟨by omega, rfl, rfl, rfl⟩
  have partO : ∀ (k : Nat) o, (H ++ [Blk.row t Mode.loose es])[k]? = some (Blk.obj o) → k < H.length ∧ H[k]? = some (Blk.obj o) := by
    intro k o hk
    rcases Nat.lt_or_ge k H.length with hlt | hge
    · rw [List.getElem?_append_left hlt] at hk; exact ⟨hlt, hk⟩
    · rw [List.getElem?_append_right hge] at hk
      cases hk0 : k - H.length with
      | zero => rw [hk0] at hk; simp at hk
      | succ z => rw [hk0] at hk; simp at hk
  refine ⟨⟨by rw [size_setRow]; exact h.base, fun k K hk => ?_, fun k tk mk ek hk => ?_, fun k j tk mk ek tj mj ej Ik Ij hk hmk hj hσk hσj hreal => ?_, fun k o hk => ?_, fun k j o o' Ik Ij hk hj hσk hσj hreal => ?_⟩, Below.setRow hB _⟩
  rotate_right 2
  · obtain ⟨hlt, hk'⟩ := partO k o hk
    obtain ⟨J, ho, j1, j2, j3, j4, j5⟩ := h.objs k o hk'
    have hne : J.real ≠ r := fun e => by
      rw [e, hcur] at j4
      cases j4
      exact j5.noCells
    exact ⟨J, ho, hle _ _ j1, j2, j3, by rw [heap_setRow_other _ _ _ _ hne]; exact j4, j5.mono hle⟩
  · obtain ⟨hlt, hk'⟩ := partO k o hk
    obtain ⟨hlt2, hj'⟩ := partO j o' hj
    rw [hold k (by omega)] at hσk
    rw [hold j (by omega)] at hσj
    exact h.oinj k j o o' Ik Ij hk' hj' hσk hσj hreal
  · by_cases hkl : k = H.length
    · subst hkl; simp
    · rw [hold k hkl] at hk
      have := h.dom k K hk
      simp; omega
  · rcases part k tk mk ek hk with ⟨rfl, rfl, rfl, rfl⟩ | ⟨hlt, hk'⟩
    · refine ⟨_, hself, by rw [size_setRow]; exact hr, rfl, hz, fun c e j v he hv => ?_, (by intro h'; cases h'), fun _ => ⟨hB, (by intro h'; cases h'), fun _ => ⟨m, rfl, hm⟩, cur2, setRow_heap _ _ _ _ _ _ hcur, by simp; rw [hs2]; exact hs⟩⟩
      obtain ⟨h1, v', h2, h3⟩ := hcell c e j v he hv
      exact ⟨h1, v', by rw [cell?_of_heap (setRow_heap _ _ _ _ _ _ hcur)]; exact h2, h3.mono hle⟩
    · obtain ⟨K, hK⟩ := h.rows k tk mk ek hk'
      have hne := hno k tk mk ek K hk' hK.here
      refine ⟨K, hle _ _ hK.here, by rw [size_setRow]; exact hK.lt, hK.len, hK.esz, fun c e j v he hv => ?_, hK.old, fun hm' => ?_⟩
      · obtain ⟨h1, v', h2, h3⟩ := hK.cell c e j v he hv
        exact ⟨h1, v', by rw [cell?_setRow_other _ _ _ _ hne]; exact h2, h3.mono hle⟩
      · obtain ⟨q1, q3, q4, c, q5, q6⟩ := hK.own hm'
        exact ⟨q1, q3, q4, c, by rw [heap_setRow_other _ _ _ _ hne]; exact q5, q6⟩
  · rcases part k tk mk ek hk with ⟨rfl, _⟩ | ⟨hlt, hk'⟩ <;> rcases part j tj mj ej hj with ⟨rfl, _⟩ | ⟨hlt', hj'⟩
    · rfl
    · rw [hself] at hσk; cases hσk
      rw [hold j (by omega)] at hσj
      exact absurd hreal.symm (hno j tj mj ej Ij hj' hσj)
    · rw [hself] at hσj; cases hσj
      rw [hold k (by omega)] at hσk
      exact absurd hreal (hno k tk mk ek Ik hk' hσk)
    · rw [hold k (by omega)] at hσk
      rw [hold j (by omega)] at hσj
      exact h.inj k j tk mk ek tj mj ej Ik Ij hk' hmk hj' hσk hσj hreal
end
end Go.Vm
