/- New rows, and append. -/
import Derived.Test.YtbcaceeiehjplacGreatDoorWmG
namespace Go.Wm
set_option linter.unusedSimpArgs false
set_option linter.unusedVariables false
open Go.RowKit
section
variable {P : Program} {σ : Sg} {B N : Nat} {H : Hp} {us : Up} {w : World} {a : Act} {E : Fr} {o : Oper} {v : VV}

theorem foldl_set_get (off : Nat) : ∀ (vs : List Value) (k : Nat) (cur : Array Value), off + k + vs.length ≤ cur.size →
    ((vs.zipIdx k).foldl (fun (c : Array Value) (x : Value × Nat) => c.setIfInBounds (off + x.2) x.1) cur).size = cur.size ∧
    ∀ q : Nat, ((vs.zipIdx k).foldl (fun (c : Array Value) (x : Value × Nat) => c.setIfInBounds (off + x.2) x.1) cur)[q]? = if off + k ≤ q ∧ q < off + k + vs.length then vs[q - (off + k)]? else cur[q]?
  | [], k, cur, h => ⟨rfl, fun q => by
      have : ¬ (off + k ≤ q ∧ q < off + k + ([] : List Value).length) := by intro h; simp at h; omega
      rw [if_neg this]; rfl⟩
  | x :: vs, k, cur, h => by
    simp only [List.zipIdx_cons, List.foldl_cons]
    obtain ⟨h1, h2⟩ := foldl_set_get off vs (k + 1) (cur.setIfInBounds (off + k) x) (by simp at h ⊢; omega)
    refine ⟨by rw [h1]; simp, fun q => ?_⟩
    rw [h2, List.length_cons]
    by_cases hq : q = off + k
    · subst hq
      rw [if_neg (by omega), if_pos (by omega), Array.getElem?_setIfInBounds_self_of_lt (by simp at h; omega)]
      simp
    · by_cases hq2 : off + (k + 1) ≤ q ∧ q < off + (k + 1) + vs.length
      · rw [if_pos hq2, if_pos (by omega), show q - (off + k) = (q - (off + (k + 1))) + 1 by omega]; rfl
      · rw [if_neg hq2, if_neg (by omega), Array.getElem?_setIfInBounds_ne (Ne.symm hq)]

/-- one element of a row is another -/
theorem Flat.set {z : Nat} {es : List (List VV)} {cur cur2 : Array Value} (h : Flat σ z es cur) {i : Nat} (hi : i < es.length) {e : List VV} {vs : List Value} (hr : LRel σ e vs) (he : e.length = z) (hok : okCells e = true)
    (hs : cur2.size = cur.size) (hg : ∀ q : Nat, cur2[q]? = if i * z ≤ q ∧ q < i * z + vs.length then vs[q - i * z]? else cur[q]?) : Flat σ z (es.set i e) cur2 := by
  have hvl : vs.length = z := by rw [← hr.length, he]
  refine ⟨by rw [List.length_set, hs]; exact h.size, fun e2 he2 => ?_, fun k e2 j u hk hj => ?_⟩
  · rcases List.mem_or_eq_of_mem_set he2 with h' | h'
    · exact h.esz e2 h'
    · rw [h']; exact he
  · rw [hg]
    by_cases hki : k = i
    · subst hki
      rw [List.getElem?_set_self hi] at hk
      simp at hk; subst hk
      obtain ⟨u', q1, q2⟩ := hr.get hj
      have hjz : j < z := by rw [← he]; exact (List.getElem?_eq_some_iff.1 hj).1
      refine ⟨okCells_get hok hj, u', ?_, q2⟩
      rw [if_pos (by omega), ← q1]
      congr 1; omega
    · rw [List.getElem?_set_ne (Ne.symm hki)] at hk
      obtain ⟨q0, u', q1, q2⟩ := h.cell k e2 j u hk hj
      refine ⟨q0, u', ?_, q2⟩
      have hjz : j < z := by rw [← h.esz e2 (List.mem_of_getElem? hk)]; exact (List.getElem?_eq_some_iff.1 hj).1
      rw [if_neg ?_]
      · exact q1
      · rw [hvl]
        intro ⟨c1, c2⟩
        rcases Nat.lt_or_gt_of_ne hki with h' | h'
        · have : (k + 1) * z ≤ i * z := Nat.mul_le_mul_right _ h'
          rw [Nat.add_mul] at this; omega
        · have : (i + 1) * z ≤ k * z := Nat.mul_le_mul_right _ h'
          rw [Nat.add_mul] at this; omega

theorem fillRows_rel {z : Nat} : ∀ (parts : List (Nat × Operand)) {l : List (Nat × Od)} {es es' : List (List VV)} {cur : Array Value}, FRel σ N E a → Flat σ z es cur → compRows parts = some l → fillRows E z es l = some es' →
    ∃ cur', Instr.fill (fun i => some (i * z, z)) cur (parts.map fun x => (x.1, a.eval x.2)) = some cur' ∧ Flat σ z es' cur' ∧ cur'.size = cur.size ∧ es'.length = es.length
  | [], l, es, es', cur, hF, h, hl, hr => by
    simp [compRows] at hl; subst hl; simp [fillRows] at hr; subst hr
    exact ⟨cur, rfl, h, rfl, rfl⟩
  | (i, x) :: parts, l, es, es', cur, hF, h, hl, hr => by
    unfold compRows at hl
    split at hl
    case h_2 => cases hl
    rename_i y l' hy hrest
    simp at hl; subst hl
    simp only [fillRows] at hr
    cases hv : y.ev E with
    | none => simp [hv] at hr
    | some u =>
      rw [hv] at hr
      simp only at hr
      split at hr
      case isFalse => cases hr
      rename_i hc
      obtain ⟨hd, hn, hok, hi⟩ := hc
      have hcr := cells_rel (compOd_ok hy hF hv) hd
      have hlen : (a.eval x).cells.toList.length = z := by rw [← hcr.length]; exact hn
      have hsz : (a.eval x).cells.size = z := by simpa using hlen
      have hfit : i * z + 0 + (a.eval x).cells.toList.length ≤ cur.size := by
        have h1 : (i + 1) * z ≤ es.length * z := Nat.mul_le_mul_right _ hi
        have h2 := h.size
        rw [Nat.add_mul] at h1
        omega
      obtain ⟨f1, f2⟩ := foldl_set_get (i * z) (a.eval x).cells.toList 0 cur hfit
      have hset := h.set hi hcr hn hok f1 (fun q => by rw [f2]; simp only [Nat.add_zero])
      obtain ⟨cur', q1, q2, q3, q4⟩ := fillRows_rel parts hF hset hrest hr
      refine ⟨cur', ?_, q2, by rw [q3, f1], by rw [q4, List.length_set]⟩
      rw [← q1]
      have hsz2 : ¬ (i * z + z > cur.size) := by omega
      simp only [List.map_cons, Instr.fill, hsz, hsz2, ne_eq, not_true_eq_false, decide_false, Bool.or_self, bne_self_eq_false, Bool.false_eq_true, if_false]
      congr 1
      rw [← Array.foldl_toList, Array.toList_zipIdx]

theorem flat_zeros {zs : List VV} {zc : Array Value} (hr : LRel σ zs zc.toList) (hok : okCells zs = true) (hz : 0 < zs.length) (m : Nat) (cur : Array Value) (hs : cur.size = m * zs.length) (hc : ∀ q, q < m * zs.length → cur[q]? = zc[q % zs.length]?) :
    Flat σ zs.length (List.replicate m zs) cur := by
  refine ⟨by simp [hs], fun e he => by rw [(List.mem_replicate.1 he).2], fun k e j u hk hj => ?_⟩
  have hkm : k < m := by
    have := (List.getElem?_eq_some_iff.1 hk).1
    simpa using this
  have he : e = zs := by
    rw [List.getElem?_eq_getElem (by simpa using hkm)] at hk
    simpa using hk.symm
  subst he
  obtain ⟨u', q1, q2⟩ := hr.get hj
  have hj' := (List.getElem?_eq_some_iff.1 hj).1
  refine ⟨okCells_get hok hj, u', ?_, q2⟩
  have hlt : k * e.length + j < m * e.length := by
    have : (k + 1) * e.length ≤ m * e.length := Nat.mul_le_mul_right _ hkm
    rw [Nat.add_mul] at this; omega
  rw [hc _ hlt]
  have hmod : (k * e.length + j) % e.length = j := by
    rw [Nat.mul_comm, Nat.mul_add_mod, Nat.mod_eq_of_lt hj']
  rw [hmod]
  simpa using q1

theorem zeroRow_get (zc : Array Value) (n z : Nat) (hz : zc.size = z) (hp : 0 < z) : ((Array.range n).map fun x => zc[x % zc.size]!).size = n ∧ ∀ q, q < n → ((Array.range n).map fun x => zc[x % zc.size]!)[q]? = zc[q % z]? := by
  refine ⟨by simp, fun q hq => ?_⟩
  have : q % zc.size < zc.size := Nat.mod_lt _ (by omega)
  simp [hq]
  rw [getElem!_pos zc (q % zc.size) this]
  subst hz
  rw [getElem?_pos zc (q % zc.size) this]

theorem eff_mkrow {t e : TypeId} {n : Nat} {ps : Array (Nat × Operand)} {zs : List VV} {i : TypeInfo} {l : List (Nat × Od)} (ho : o.op = .buildSlice t n ps) (ht : P.underlying t = some (.slice e)) (hz : zerosOf P e = some zs) (hi : P.info? e = some i)
    (hl : compRows ps.toList = some l) (hok : okCells zs = true) (his : i.size = zs.length) (hp : 0 < zs.length) (hbig : n * zs.length ≤ 16777216)
    (hH : HRel P σ B H w) (hF : FRel σ N E a) (he : (VEf.mkrow e zs n l).ev E H.g H.length = some (v, us)) : EffOk P σ B (applyU H us) w a o v := by
  simp only [VEf.ev] at he
  cases hf : fillRows E zs.length (List.replicate n zs) l with
  | none => simp [hf] at he
  | some es =>
    simp [hf] at he
    obtain ⟨rfl, rfl⟩ := he
    obtain ⟨zv, hz1, ⟨i', hi', hiz⟩, hz2⟩ := zerosOf_run (σ := σ) hz
    have hzs : zv.cells.size = zs.length := by rw [hz1.length]; simp
    obtain ⟨s1, s2⟩ := zeroRow_get zv.cells (n * zs.length) zs.length hzs hp
    have hflat := flat_zeros hz1 hok hp n _ s1 s2
    obtain ⟨cur', q1, q2, q3, q4⟩ := fillRows_rel ps.toList hF hflat hl hf
    simp at q4
    rw [applyU_push]
    obtain ⟨σ', r1, r2, r3⟩ := push_rows hH e q2 (by rw [q3, s1, q4]) n (by omega)
    rw [q4] at r3
    refine ⟨σ', _, _, r1, r2, r3, .inl ?_⟩
    have hb : ¬ (n * zs.length > 16777216) := by omega
    by_cases hn : n * zs.length = 0
    · have : n = 0 := by rcases Nat.mul_eq_zero.1 hn with h | h <;> omega
      subst this
      have hr0 : ∀ f : Nat → Value, (Array.range (0 * zs.length)).map f = #[] := fun f => by simp
      rw [hr0] at q1
      have hr1 : ∀ f : Nat → Value, (Array.range 0).map f = #[] := fun f => by simp
      simp only [execOp, ho, Instr.buildSlice, underlying, Sem.run_bind, run_program, Result.andThen_ok, ht, Sem.run_pure, sizeOf, typeInfo, hi, his, Nat.zero_mul, hr1, Array.toList_map, q1, newRow]
      simp
    · simp only [hzs] at q1
      simp [execOp, ho, Instr.buildSlice, underlying, ht, sizeOf, typeInfo, hi, his, hb, hn, hz2, hzs, newRow, q1]

theorem eff_mksl {t e : TypeId} {x y : Operand} {x' y' : Od} {zs : List VV} {i : TypeInfo} (ho : o.op = .makeSlice t x y) (ht : P.underlying t = some (.slice e)) (hz : zerosOf P e = some zs) (hi : P.info? e = some i)
    (hx : compOd x = some x') (hy : compOd y = some y') (hok : okCells zs = true) (his : i.size = zs.length) (hp : 0 < zs.length)
    (hH : HRel P σ B H w) (hF : FRel σ N E a) (he : (VEf.mksl e i.bytes zs x' y').ev E H.g H.length = some (v, us)) : EffOk P σ B (applyU H us) w a o v := by
  simp only [VEf.ev] at he
  split at he
  case h_2 => cases he
  rename_i n1 n2 h1 h2
  have r1 := compOd_ok hx hF h1
  have r2 := compOd_ok hy hF h2
  split at he
  case isFalse => cases he
  rename_i hc
  obtain ⟨c0, c1, c2, c3⟩ := hc
  simp at he
  obtain ⟨rfl, rfl⟩ := he
  have e1 := int_inv r1
  have e2 := int_inv r2
  obtain ⟨zv, hz1, _, hz2⟩ := zerosOf_run (σ := σ) hz
  have hzs : zv.cells.size = zs.length := by rw [hz1.length]; simp
  obtain ⟨s1, s2⟩ := zeroRow_get zv.cells (n2.toNat * zs.length) zs.length hzs hp
  have hflat := flat_zeros hz1 hok hp n2.toNat _ s1 s2
  rw [applyU_push]
  obtain ⟨σ', q1, q2, q3⟩ := push_rows hH e hflat (by rw [s1]; simp) n1.toNat (by simp; omega)
  simp at q3
  refine ⟨σ', _, _, q1, q2, q3, .inl ?_⟩
  have w1 : IntKind.i64.wrap n1 = n1 := by
    simp only [IntKind.wrap, IntKind.signed, IntKind.bits]; simp; omega
  have w2 : IntKind.i64.wrap n2 = n2 := by
    simp only [IntKind.wrap, IntKind.signed, IntKind.bits]; simp; omega
  have g1 : ¬ (n2 < 0) := by omega
  have g2 : ¬ ((i.bytes : Int) * n2 > 281474976710656) := by omega
  have g3 : ¬ (n1 < 0) := by omega
  have g4 : ¬ (n1 > n2) := by omega
  by_cases hn : n2.toNat = 0
  · have hn2 : n2 = 0 := by omega
    subst hn2
    simp [execOp, ho, e1, e2, Instr.makeSlice, underlying, ht, asInt, asIntOf, typeInfo, hi, w1, w2, g3, g4, sizeOf, his, newRow]
    have hr1 : ∀ f : Nat → Value, (Array.range 0).map f = #[] := fun f => by simp
    rw [hr1, hr1]
  · have hn' : n2.toNat * zs.length ≠ 0 := Nat.mul_ne_zero hn (by omega)
    have hn3 : ¬ (n2 ≤ 0) := by omega
    have hp' : ¬ (zs = []) := by intro h; subst h; simp at hp
    simp [execOp, ho, e1, e2, Instr.makeSlice, underlying, ht, asInt, asIntOf, typeInfo, hi, w1, w2, g1, g2, g3, g4, sizeOf, his, hn', hn3, hp', hz2, newRow, hzs]
end
end Go.Wm
