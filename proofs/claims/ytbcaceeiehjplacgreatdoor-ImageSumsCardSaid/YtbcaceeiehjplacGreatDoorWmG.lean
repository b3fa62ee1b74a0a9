/- The operations that write or make memory: the first of them. -/
import Derived.Test.YtbcaceeiehjplacGreatDoorWmF
namespace Go.Wm
set_option linter.unusedSimpArgs false
set_option linter.unusedVariables false
open Go.RowKit

/-- what was written, in the list of the blocks -/
def applyU : Hp → Up → Hp
  | H, [] => H
  | H, (i, b) :: r => applyU (if i < H.length then H.set i b else H ++ [b]) r
theorem applyU_nil (H : Hp) : applyU H [] = H := rfl
theorem applyU_set {H : Hp} {i : Nat} (h : i < H.length) (b : Blk) : applyU H [(i, b)] = H.set i b := by simp [applyU, h]
theorem applyU_push (H : Hp) (b : Blk) : applyU H [(H.length, b)] = H ++ [b] := by simp [applyU]

def EffOk (P : Program) (σ : Sg) (B : Nat) (H' : Hp) (w : World) (a : Act) (o : Oper) (v : VV) : Prop :=
  ∃ σ' v' w', Mv B σ σ' w w' ∧ HRel P σ' B H' w' ∧ VRel σ' v v' ∧
    ((execOp a.eval o).run P w = .ok (.value v') w' ∨ ((execOp a.eval o).run P w = .ok .skip w' ∧ v' = undef))

section
variable {P : Program} {σ : Sg} {B N : Nat} {H : Hp} {us : Up} {w : World} {a : Act} {E : Fr} {o : Oper} {v : VV}

theorem okCells_get {l : List VV} (h : okCells l = true) {i : Nat} {u : VV} (hu : l[i]? = some u) : u.cell = true :=
  List.all_eq_true.1 h u (List.mem_of_getElem? hu)
theorem cells_one {l : List VV} {l' : List Value} (h : okCells l = true) (hr : LRel σ l l') : ∀ u ∈ l', u.oneCell' = true := by
  intro u hu
  obtain ⟨i, hi⟩ := List.getElem?_of_mem hu
  have hlt : i < l.length := by rw [hr.length]; exact (List.getElem?_eq_some_iff.1 hi).1
  obtain ⟨u', h1, h2⟩ := hr.get (List.getElem?_eq_getElem hlt)
  have : u' = u := by rw [h1] at hi; exact Option.some.inj hi
  subst this
  exact h2.oneCell (okCells_get h (List.getElem?_eq_getElem hlt))

/-- cells written into a row, seen by index -/
theorem splice_get (cur : Array Value) (o : Nat) (vs : List Value) (h : o + vs.length ≤ cur.size) :
    (cur.toList.take o ++ vs ++ cur.toList.drop (o + vs.length)).toArray.size = cur.size ∧
    ∀ k : Nat, (cur.toList.take o ++ vs ++ cur.toList.drop (o + vs.length)).toArray[k]? = if o ≤ k ∧ k < o + vs.length then vs[k - o]? else cur[k]? := by
  refine ⟨by simp; omega, fun k => ?_⟩
  rw [List.getElem?_toArray]
  by_cases h1 : k < o
  · rw [if_neg (by omega), List.append_assoc, List.getElem?_append_left (by simp; omega), List.getElem?_take, if_pos h1, Array.getElem?_toList]
  · by_cases h2 : k < o + vs.length
    · rw [if_pos (by omega), List.getElem?_append_left (by simp; omega), List.getElem?_append_right (by simp; omega)]
      congr 1; simp; omega
    · rw [if_neg (by omega), List.getElem?_append_right (by simp; omega), List.getElem?_drop, Array.getElem?_toList]
      congr 1; simp; omega

theorem eff_store {t : TypeId} {x y : Operand} {x' y' : Od} {i : TypeInfo} (ho : o.op = .store t x y) (hi : P.info? t = some i) (hx : compOd x = some x') (hy : compOd y = some y')
    (hH : HRel P σ B H w) (hF : FRel σ N E a) (he : (VEf.store i.size x' y').ev E H.g H.length = some (v, us)) : EffOk P σ B (applyU H us) w a o v := by
  simp only [VEf.ev] at he
  cases h1 : x'.ev E with
  | none => simp [h1] at he
  | some p' =>
    cases h2 : y'.ev E with
    | none => cases p' <;> simp [h1, h2] at he
    | some u =>
      have r1 := compOd_ok hx hF h1
      have r2 := compOd_ok hy hF h2
      cases p' <;> simp [h1, h2] at he
      rename_i q
      cases q with
      | none => simp at he
      | some p =>
        simp at he
        obtain ⟨⟨hd, hn⟩, he⟩ := he
        obtain ⟨ad, e1, J, hJ, had⟩ := ptr_inv r1
        cases hs : stc H.g p u.cells with
        | none => simp [hs] at he
        | some K =>
          simp [hs] at he
          obtain ⟨rfl, rfl⟩ := he
          unfold stc at hs
          split at hs
          case h_2 => cases hs
          rename_i t' md es hb
          split at hs
          case isTrue => cases hs
          rename_i hmd
          split at hs
          case h_2 => cases hs
          rename_i e hes
          split at hs
          case isFalse => cases hs
          rename_i hfit
          obtain ⟨hfit, hok⟩ := hfit
          simp at hs; subst hs
          have hil : p.blk < H.length := (List.getElem?_eq_some_iff.1 hb).1
          rw [applyU_set hil]
          obtain ⟨I, hR⟩ := hH.rows _ _ _ _ hb
          have eI : I = J := Option.some.inj (hR.here.symm.trans hJ)
          subst eI
          obtain ⟨hB, _, hlo, cur, hcur, hsz⟩ := hR.own hmd
          have hel := hR.esz e (List.mem_of_getElem? hes)
          have hidx : p.idx < I.n := by rw [← hR.len]; exact (List.getElem?_eq_some_iff.1 hes).1
          have hcr := cells_rel r2 hd
          have hone := cells_one hok hcr
          have hroom : I.n ≤ I.room.getD I.n := by
            cases md with
            | ro => exact absurd rfl hmd
            | own => have := ((hR.own hmd).2.1 rfl).1; simp [this]
            | loose => obtain ⟨m, hm, hle⟩ := hlo rfl; simp [hm]; exact hle
          have hlen : (a.eval y).cells.toList.length = u.cells.length := hcr.length.symm
          have hoff : I.base + p.idx * I.esz + p.off + (a.eval y).cells.toList.length ≤ cur.size := by
            rw [hsz, hlen]
            have h3 : (p.idx + 1) * I.esz ≤ I.room.getD I.n * I.esz := Nat.mul_le_mul_right _ (by omega)
            rw [Nat.add_mul, Nat.one_mul] at h3
            omega
          have hst := run_storeCells_at P I.real (I.base + p.idx * I.esz + p.off) t' (a.eval y).cells.toList 0 cur w hcur (by omega) hone
          simp only [Nat.add_zero] at hst
          obtain ⟨g1, g2⟩ := splice_get cur (I.base + p.idx * I.esz + p.off) _ hoff
          obtain ⟨u1, u2⟩ := upd_get u.cells e p.off hfit
          have hset := hH.store hb hmd hJ hcur g1 (es2 := es.set p.idx (upd e p.off u.cells)) (by simp) (fun e2 he2 => by
              rcases List.mem_or_eq_of_mem_set he2 with h' | h'
              · exact hR.esz e2 h'
              · rw [h', u1]; exact hel) (fun k e2 j u' hk hj => by
              rw [g2]
              by_cases hkp : k = p.idx
              · subst hkp
                rw [List.getElem?_set_self (by rw [hR.len]; exact hidx)] at hk
                simp at hk; subst hk
                rw [u2] at hj
                split at hj
                · rename_i hjr
                  obtain ⟨u'', q1, q2⟩ := hcr.get hj
                  refine ⟨okCells_get hok hj, u'', ?_, q2⟩
                  rw [if_pos (by rw [hlen]; omega), ← q1]
                  congr 1; omega
                · rename_i hjr
                  obtain ⟨q0, v', q1, q2⟩ := hR.cell _ _ _ _ hes hj
                  refine ⟨q0, v', ?_, q2⟩
                  rw [if_neg (by rw [hlen]; omega)]
                  rw [cell?_of_heap hcur] at q1
                  exact q1
              · rw [List.getElem?_set_ne (Ne.symm hkp)] at hk
                obtain ⟨q0, v', q1, q2⟩ := hR.cell _ _ _ _ hk hj
                refine ⟨q0, v', ?_, q2⟩
                rw [cell?_of_heap hcur] at q1
                have hj2 : j < I.esz := by rw [← hR.esz e2 (List.mem_of_getElem? hk)]; exact (List.getElem?_eq_some_iff.1 hj).1
                rw [if_neg ?_]
                · exact q1
                · rw [hlen]
                  intro ⟨c1, c2⟩
                  rcases Nat.lt_or_gt_of_ne hkp with h' | h'
                  · have : (k + 1) * I.esz ≤ p.idx * I.esz := Nat.mul_le_mul_right _ h'
                    rw [Nat.add_mul] at this; omega
                  · have : (p.idx + 1) * I.esz ≤ k * I.esz := Nat.mul_le_mul_right _ h'
                    rw [Nat.add_mul] at this; omega)
          refine ⟨σ, undef, _, hset.2, hset.1, .undef _, .inr ⟨?_, rfl⟩⟩
          have hsize : (a.eval y).cells.size = i.size := by rw [← hn, ← hlen]; simp
          have hst' : (storeCells ad (a.eval y).cells.toList).run P w = .ok () (w.setRow I.real (cur.toList.take (I.base + p.idx * I.esz + p.off) ++ (a.eval y).cells.toList ++ cur.toList.drop (I.base + p.idx * I.esz + p.off + (a.eval y).cells.toList.length)).toArray) := by
            rw [had]; exact hst
          simp only [execOp, ho, e1, Instr.storeAt, Instr.sureAddr, Sem.run_bind, Sem.run_pure, Result.andThen_ok, storeVar, sizeOf, typeInfo, run_program, hi, hsize, ne_eq, not_true_eq_false, if_false, hst']

/-- a new block of one element -/
theorem push_one (hH : HRel P σ B H w) (t : TypeId) {l : List VV} {l' : Array Value} (hr : LRel σ l l'.toList) (hok : okCells l = true) :
    ∃ σ', Mv B σ σ' w (w.alloc (.cells l' t)) ∧ HRel P σ' B (H ++ [.row t .own [l]]) (w.alloc (.cells l' t)) ∧ VRel σ' (.ptr (some ⟨H.length, 0, 0⟩)) (.pointer (some ⟨w.heap.size, 0, none⟩)) := by
  have hle := Sg.le_push (I := ⟨w.heap.size, 0, l.length, 1, none⟩) hH.fresh
  have h := hH.push t .own (by simp) [l] l' l.length none (by simp) (by simp [hr.length]) (fun _ => rfl) (by simp) (fun k e j v hk hj => by
    cases k with
    | succ k => simp at hk
    | zero =>
      simp at hk; subst hk
      obtain ⟨v', h1, h2⟩ := hr.get hj
      exact ⟨okCells_get hok hj, v', by simpa using h1, h2.mono hle⟩)
  exact ⟨_, h.2, h.1, .ptr ⟨_, by simp [Sg.push]; rfl, by simp⟩⟩

theorem eff_alloc {t : TypeId} {zs : List VV} (ho : o.op = .alloc t) (hz : zerosOf P t = some zs) (hok : okCells zs = true)
    (hH : HRel P σ B H w) (he : (VEf.alloc t zs).ev E H.g H.length = some (v, us)) : EffOk P σ B (applyU H us) w a o v := by
  simp [VEf.ev] at he
  obtain ⟨rfl, rfl⟩ := he
  obtain ⟨z, hz1, _, hz2⟩ := zerosOf_run (σ := σ) hz
  rw [applyU_push]
  obtain ⟨σ', q1, q2, q3⟩ := push_one hH t hz1 hok
  refine ⟨σ', _, _, q1, q2, q3, .inl ?_⟩
  simp [execOp, ho, Instr.alloc, hz2, newVar, newRow]

theorem eff_box {t : TypeId} {x : Operand} {x' : Od} (ho : o.op = .box t x) (hx : compOd x = some x')
    (hH : HRel P σ B H w) (hF : FRel σ N E a) (he : (VEf.box t x').ev E H.g H.length = some (v, us)) : EffOk P σ B (applyU H us) w a o v := by
  simp only [VEf.ev] at he
  cases h1 : x'.ev E with
  | none => simp [h1] at he
  | some u =>
    have r1 := compOd_ok hx hF h1
    simp [h1] at he
    obtain ⟨⟨hd, hok⟩, rfl, rfl⟩ := he
    rw [applyU_push]
    obtain ⟨σ', q1, q2, q3⟩ := push_one hH t (cells_rel r1 hd) hok
    refine ⟨σ', _, _, q1, q2, q3, .inl ?_⟩
    simp [execOp, ho, Instr.box, newVar, newRow]

/-- a new block of many -/
theorem push_rows (hH : HRel P σ B H w) (t : TypeId) {es : List (List VV)} {cur : Array Value} {z : Nat} (hf : Flat σ z es cur) (hs : cur.size = es.length * z) (m : Nat) (hm : m ≤ es.length) :
    ∃ σ', Mv B σ σ' w (w.alloc (.cells cur t)) ∧ HRel P σ' B (H ++ [.row t .own es]) (w.alloc (.cells cur t)) ∧ VRel σ' (.sl (some ⟨H.length, 0, 0⟩) m es.length) (.slice (some ⟨w.heap.size, 0, none⟩) m es.length) := by
  have hle := Sg.le_push (I := ⟨w.heap.size, 0, z, es.length, none⟩) hH.fresh
  have h := hH.push t .own (by simp) es cur z none hf.esz (by simp [hs]) (fun _ => rfl) (by simp) (fun k e j v hk hj => by
    obtain ⟨q0, v', q1, q2⟩ := hf.cell k e j v hk hj
    exact ⟨q0, v', q1, q2.mono hle⟩)
  exact ⟨_, h.2, h.1, .sl ⟨hm, .inl ⟨⟨_, by simp [Sg.push]; rfl, by simp⟩, rfl⟩⟩⟩

/-! ### maps -/
theorem Below.putObj {B r : Nat} {w : World} (h : B ≤ r) (o : Obj) : Below B w { w with heap := w.heap.setIfInBounds r o } :=
  ⟨rfl, rfl, rfl, by simp, fun k hk => by rw [Array.getElem?_setIfInBounds_ne (by omega)]⟩
theorem eff_mkmap {t : TypeId} (ho : o.op = .makeMap t none) (hH : HRel P σ B H w) (he : VEf.mkmap.ev E H.g H.length = some (v, us)) : EffOk P σ B (applyU H us) w a o v := by
  simp [VEf.ev] at he
  obtain ⟨rfl, rfl⟩ := he
  obtain ⟨q1, q2⟩ := hH.pushObj (.map []) (.map #[] 0) (by intro cur t fr h; cases h) (fun τ _ => ⟨rfl, rfl, fun k e he => by simp at he⟩)
  rw [applyU_push]
  refine ⟨_, .map (some w.heap.size), _, q2, q1, ?_, .inl ?_⟩
  · exact VRel.map (I := ⟨w.heap.size, 0, 0, 0, none⟩) (by simp [Sg.push])
  · simp [execOp, ho, Instr.makeMap, newObj, Sem.run]
theorem eff_mset {t kt et : TypeId} {x k y : Operand} {x' k' y' : Od} {kk : KK} (ho : o.op = .mapUpdate t x k y ∨ o.op = .insert t x k y) (ht : P.underlying t = some (.map kt et)) (hkk : keyKind P kt = some kk) (hx : compOd x = some x') (hk : compOd k = some k') (hy : compOd y = some y')
    (hH : HRel P σ B H w) (hF : FRel σ N E a) (he : (VEf.mset kk x' k' y').ev E H.g H.length = some (v, us)) : EffOk P σ B (applyU H us) w a o v := by
  simp only [VEf.ev] at he
  cases h1 : x'.ev E with
  | none => simp [h1] at he
  | some u =>
    cases h2 : k'.ev E with
    | none => simp [h1, h2] at he
    | some kv =>
      cases h3 : y'.ev E with
      | none => simp [h1, h2, h3] at he
      | some yv =>
        have r1 := compOd_ok hx hF h1
        have r2 := compOd_ok hk hF h2
        have r3 := compOd_ok hy hF h3
        cases u <;> simp [h1, h2, h3] at he
        rename_i p
        cases p with
        | none => simp at he
        | some b =>
          simp only at he
          split at he
          case isFalse => cases he
          rename_i hki
          split at he
          case h_2 => cases he
          rename_i es hb
          rcases map_inv r1 with ⟨hc, _⟩ | ⟨b', I, hc, hI, e1⟩
          · cases hc
          · cases hc
            obtain ⟨hB, hlt, cur, hc, hent, hborn⟩ := obj_at hH hb hI
            obtain ⟨kr1, kr2, kr3⟩ := key_run hkk hki r2
            have hil : b < H.length := (List.getElem?_eq_some_iff.1 hb).1
            have hcs : cur.size = es.length := by have := hent.1; simpa using this.symm
            cases hf : findV kk kv es 0 with
            | none => simp [hf] at he
            | some r =>
              obtain ⟨r', q1, q2⟩ := kr3 hent hf
              have hex : ∀ w2, (execOp a.eval o).run P w = .ok .skip w2 ↔ (Instr.mapUpdate t (a.eval x) (a.eval k) (a.eval y)).run P w = .ok () w2 := by
                intro w2
                rcases ho with ho | ho
                · simp only [execOp, ho, Sem.run_bind]
                  cases (Instr.mapUpdate t (a.eval x) (a.eval k) (a.eval y)).run P w <;> simp [Result.andThen]
                · simp only [execOp, ho, Sem.run_bind]
                  cases (Instr.mapUpdate t (a.eval x) (a.eval k) (a.eval y)).run P w <;> simp [Result.andThen]
              rcases q2 with ⟨rfl, rfl⟩ | ⟨j, y0, y0', rfl, rfl, a3, e, e', b1, b2, b3, b6⟩
              · simp [hf] at he
                obtain ⟨rfl, rfl⟩ := he
                rw [applyU_set hil]
                have hrel : ObRel P σ (.map (es ++ [(kv, yv)])) (.map (cur.push { key := a.eval k, val := a.eval y, born := es.length }) (es.length + 1)) := by
                  refine ⟨by simp, by simp [hcs], fun z e he => ?_⟩
                  by_cases hz : z < es.length
                  · rw [List.getElem?_append_left hz] at he
                    obtain ⟨e', f1, f2, f3⟩ := hent.2 z e he
                    rw [Array.getElem?_toList] at f1
                    exact ⟨e', by rw [Array.getElem?_push_lt (by omega)]; rw [Array.getElem?_eq_getElem (by omega)] at f1; exact f1, hborn z e' f1, f2, f3⟩
                  · rw [List.getElem?_append_right (by omega)] at he
                    have hz0 : z = es.length := by
                      have := (List.getElem?_eq_some_iff.1 he).1
                      simp at this; omega
                    subst hz0
                    simp at he; subst he
                    exact ⟨{ key := a.eval k, val := a.eval y, born := es.length }, by have := Array.getElem?_push_size (xs := cur) (x := ({ key := a.eval k, val := a.eval y, born := es.length } : MapEntry)); rw [hcs] at this; exact this, rfl, r2, r3⟩
                refine ⟨σ, undef, { w with heap := w.heap.setIfInBounds I.real (.map (cur.push { key := a.eval k, val := a.eval y, born := es.length }) (es.length + 1)) }, Mv.set hI (Below.putObj hB _) (fun z hz => by rw [Array.getElem?_setIfInBounds_ne (Ne.symm hz)]), hH.setObj hb hI (by simp) (by simp [hlt]) (fun z hz => by rw [Array.getElem?_setIfInBounds_ne (Ne.symm hz)]) rfl hrel (Below.putObj hB _), .undef _, .inr ⟨?_, rfl⟩⟩
                rw [hex]
                simp [Instr.mapUpdate, run_underlying ht, e1, MapKept.run_getObj_map hc, kr1, q1, MapKept.run_setObj_map _ hc, Result.andThen]
              · simp [hf] at he
                obtain ⟨rfl, rfl⟩ := he
                rw [applyU_set hil]
                have hjl : j < es.length := (List.getElem?_eq_some_iff.1 b1).1
                rw [Array.getElem?_toList] at b2
                have hrel : ObRel P σ (.map (es.set j (kv, yv))) (.map (cur.modify j fun e => { e with key := a.eval k, val := a.eval y }) es.length) := by
                  refine ⟨by simp, by simp [hcs], fun z e2 he => ?_⟩
                  by_cases hz : z = j
                  · subst hz
                    rw [List.getElem?_set_self hjl] at he
                    cases he
                    exact ⟨{ e' with key := a.eval k, val := a.eval y }, by rw [Array.getElem?_modify, if_pos rfl, b2]; rfl, hborn z e' b2, r2, r3⟩
                  · rw [List.getElem?_set_ne (Ne.symm hz)] at he
                    obtain ⟨e3, f1, f2, f3⟩ := hent.2 z e2 he
                    rw [Array.getElem?_toList] at f1
                    exact ⟨e3, by rw [Array.getElem?_modify, if_neg (fun e => hz e.symm)]; exact f1, hborn z e3 f1, f2, f3⟩
                refine ⟨σ, undef, { w with heap := w.heap.setIfInBounds I.real (.map (cur.modify j fun e => { e with key := a.eval k, val := a.eval y }) es.length) }, Mv.set hI (Below.putObj hB _) (fun z hz => by rw [Array.getElem?_setIfInBounds_ne (Ne.symm hz)]), hH.setObj hb hI (by simp) (by simp [hlt]) (fun z hz => by rw [Array.getElem?_setIfInBounds_ne (Ne.symm hz)]) rfl hrel (Below.putObj hB _), .undef _, .inr ⟨?_, rfl⟩⟩
                rw [hex]
                have hst := kr2 w
                simp [Instr.mapUpdate, run_underlying ht, e1, MapKept.run_getObj_map hc, kr1, q1, MapKept.run_setObj_map _ hc, Result.andThen, b2, b6, hst]
theorem eff_rng {t kt et : TypeId} {x : Operand} {x' : Od} (ho : o.op = .range t x) (ht : P.underlying t = some (.map kt et)) (hx : compOd x = some x') (hH : HRel P σ B H w) (hF : FRel σ N E a) (he : (VEf.rng x').ev E H.g H.length = some (v, us)) : EffOk P σ B (applyU H us) w a o v := by
  simp only [VEf.ev] at he
  cases h1 : x'.ev E with
  | none => simp [h1] at he
  | some u =>
    have r1 := compOd_ok hx hF h1
    cases u <;> simp [h1] at he
    rename_i p
    cases p with
    | none => simp at he
    | some b =>
      simp only at he
      split at he
      case h_2 => cases he
      rename_i es hb
      simp at he
      obtain ⟨rfl, rfl⟩ := he
      rcases map_inv r1 with ⟨hc, _⟩ | ⟨b', I, hc, hI, e1⟩
      · cases hc
      · cases hc
        obtain ⟨hB, hlt, cur, hc, hent, hborn⟩ := obj_at hH hb hI
        obtain ⟨q1, q2⟩ := hH.pushObj (.iter b es.length []) (.mapIter (some I.real) es.length #[] es.length) (by intro cur t fr h; cases h) (fun τ hτ => ⟨⟨I, hτ _ _ hI, rfl⟩, rfl, rfl, rfl⟩)
        rw [applyU_push]
        refine ⟨_, .pointer (some ⟨w.heap.size, 0, none⟩), _, q2, q1, ?_, .inl ?_⟩
        · exact .ptr ⟨⟨w.heap.size, 0, 0, 0, none⟩, by simp [Sg.push], by simp⟩
        · simp [execOp, ho, e1, run_range_map w t kt et I.real cur es.length ht hc]
end
end Go.Wm
