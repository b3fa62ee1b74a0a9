/- append. -/
import Derived.Test.YtbcaceeiehjplacGreatDoorWmH
namespace Go.Wm
set_option linter.unusedSimpArgs false
set_option linter.unusedVariables false
open Go.RowKit
section
variable {P : Program} {σ : Sg} {B N : Nat} {H : Hp} {us : Up} {w : World} {a : Act} {E : Fr} {o : Oper} {v : VV}

theorem updRows_get : ∀ (news es : List (List VV)) (k : Nat), k + news.length ≤ es.length → (updRows es k news).length = es.length ∧
    ∀ i : Nat, (updRows es k news)[i]? = if k ≤ i ∧ i < k + news.length then news[i - k]? else es[i]?
  | [], es, k, h => ⟨rfl, fun i => by
      have : ¬ (k ≤ i ∧ i < k + ([] : List (List VV)).length) := by intro h; simp at h; omega
      rw [if_neg this]; rfl⟩
  | e :: news, es, k, h => by
    have hd : updRows es k (e :: news) = updRows (es.set k e) (k + 1) news := rfl
    obtain ⟨h1, h2⟩ := updRows_get news (es.set k e) (k + 1) (by simp at h ⊢; omega)
    refine ⟨by rw [hd, h1]; simp, fun i => ?_⟩
    rw [hd, h2, List.length_cons]
    by_cases hk : i = k
    · subst hk
      rw [if_neg (by omega), if_pos (by omega), List.getElem?_set_self (by simp at h; omega)]
      simp
    · by_cases hk2 : k + 1 ≤ i ∧ i < k + 1 + news.length
      · rw [if_pos hk2, if_pos (by omega), show i - k = (i - (k + 1)) + 1 by omega]; rfl
      · rw [if_neg hk2, if_neg (by omega), List.getElem?_set_ne (Ne.symm hk)]

/-- append, where there is room -/
theorem run_app_room {t u ty e : TypeId} {i : TypeInfo} {d : TypeDesc} {base : Option Addr} {len cap : Nat} {x : Value} {cs : List Value} {n : Nat} (ht : P.underlying t = some (.slice e)) (hu : P.underlying u = some d) (hd : ∀ k, d ≠ .int k) (hi : P.info? e = some i)
    (hl : (Builtin.lenOf x).run P w = .ok n w) (hf : (Builtin.firstCells i.size n x).run P w = .ok cs.toArray w) (hfit : len + n ≤ cap) {w' : World}
    (hst : ∀ ad, base = some ad → (storeCells (ad.add (len * i.size)) cs).run P w = .ok () w') (hn : base = none → w' = w) :
    (Builtin.append_ #[t, u] ty #[.slice base len cap, x]).run P w = .ok (.slice base (len + n) cap) w' := by
  have hm : (d matches .int _) = false := by cases d <;> first | rfl | (exfalso; exact hd _ rfl)
  cases base with
  | none => have := hn rfl; subst this; simp [Builtin.append_, underlying, ht, hu, hm, sizeOf, typeInfo, hi, hl, hfit, hf]
  | some ad => simp [Builtin.append_, underlying, ht, hu, hm, sizeOf, typeInfo, hi, hl, hfit, hf, hst ad rfl]

/-- .. where there is none -/
theorem run_app_grow {t u ty e : TypeId} {i : TypeInfo} {d : TypeDesc} {z : Value} {base : Option Addr} {len cap : Nat} {x : Value} {cs os : List Value} {n : Nat} (ht : P.underlying t = some (.slice e)) (hu : P.underlying u = some d) (hd : ∀ k, d ≠ .int k) (hi : P.info? e = some i) (hz : i.zero = some z)
    (hl : (Builtin.lenOf x).run P w = .ok n w) (hf : ∀ w2, Below w.heap.size w w2 → (Builtin.firstCells i.size n x).run P w2 = .ok cs.toArray w2) (ho : ∀ w2, Below w.heap.size w w2 → (Builtin.firstCells i.size len (.slice base len cap)).run P w2 = .ok os.toArray w2)
    (hg : cap < len + n) (h63 : len + n ≤ 4611686018427387904) (hb : (len + n) * i.bytes ≤ 140737488355328) (hbp : 0 < i.bytes) :
    (Builtin.append_ #[t, u] ty #[.slice base len cap, x]).run P w =
      .ok (.slice (some ⟨w.heap.size, 0, none⟩) (len + n) (grownCap w (len + n) cap e))
        (w.drew.alloc (.cells (os.toArray ++ cs.toArray ++ Builtin.zeroCells z.cells (grownCap w (len + n) cap e - (len + n))) e)) := by
  have hm : (d matches .int _) = false := by cases d <;> first | rfl | (exfalso; exact hd _ rfl)
  have hn : ¬ (len + n ≤ cap) := by omega
  have h63' : ¬ (9223372036854775807 < ((len : Int) + (n : Int))) := by omega
  have h48 : ¬ (281474976710656 < Builtin.nextslicecap (len + n) cap * i.bytes) := by
    have := growslice_fits (bytes := i.bytes) hg hb; omega
  have hdr : Below w.heap.size w w.drew := (Below.refl _ _).drew
  have hbz : i.bytes ≠ 0 := by omega
  have h2 := hf w.drew hdr
  have h3 := ho w.drew hdr
  simp [Builtin.append_, underlying, ht, hu, hm, sizeOf, typeInfo, zeroValue, hi, hz, hl, hn, h63', h48, hbz, Question.forced, h2, h3, newRow, grownCap]
  congr 2
  apply Array.ext'
  simp [List.append_assoc]

/-- a block that stood under another number -/
theorem HRel.again (h : HRel P σ B H w) (r : Nat) (hB : B ≤ r) (hr : r < w.heap.size) (hno : ∀ (j : Nat) tj mj ej Ij, H[j]? = some (Blk.row tj mj ej) → σ j = some Ij → Ij.real ≠ r)
    (t : TypeId) (es : List (List VV)) {cur cur2 : Array Value} (hcur : w.heap[r]? = some (.cells cur t (0, 0))) (hs2 : cur2.size = cur.size) (b z m : Nat)
    (hz : ∀ e ∈ es, e.length = z) (hs : cur.size = b + m * z) (hm : es.length ≤ m)
    (hcell : ∀ (k : Nat) e (j : Nat) v, es[k]? = some e → e[j]? = some v → v.cell = true ∧ ∃ v', cur2[b + k * z + j]? = some v' ∧ VRel σ v v') :
    HRel P (σ.push H.length ⟨r, b, z, es.length, some m⟩) B (H ++ [.row t .loose es]) (w.setRow r cur2) ∧ (∀ i0 I0, σ i0 = some I0 → I0.real = r → Mv B σ (σ.push H.length ⟨r, b, z, es.length, some m⟩) w (w.setRow r cur2)) := by
  have hle := Sg.le_push (I := ⟨r, b, z, es.length, some m⟩) h.fresh
  have hself : σ.push H.length ⟨r, b, z, es.length, some m⟩ H.length = some ⟨r, b, z, es.length, some m⟩ := by simp [Sg.push]
  have hold : ∀ k, k ≠ H.length → σ.push H.length ⟨r, b, z, es.length, some m⟩ k = σ k := fun k hk => by simp [Sg.push, hk]
  have part : ∀ (k : Nat) tk mk ek, (H ++ [Blk.row t Mode.loose es])[k]? = some (Blk.row tk mk ek) → (k = H.length ∧ tk = t ∧ mk = .loose ∧ ek = es) ∨ (k < H.length ∧ H[k]? = some (Blk.row tk mk ek)) := by
    intro k tk mk ek hk
    rcases Nat.lt_or_ge k H.length with hlt | hge
    · rw [List.getElem?_append_left hlt] at hk; exact .inr ⟨hlt, hk⟩
    · rw [List.getElem?_append_right hge] at hk
      have hk0 : k - H.length = 0 := by
        rcases Nat.eq_zero_or_pos (k - H.length) with h0 | h0
        · exact h0
        · rw [List.getElem?_eq_none (by simp; omega)] at hk; cases hk
      rw [hk0] at hk
      obtain ⟨rfl, rfl, rfl⟩ : t = tk ∧ Mode.loose = mk ∧ es = ek := by simpa using hk
      exact .inl ⟨by omega, rfl, rfl, rfl⟩
  have partO : ∀ (k : Nat) o, (H ++ [Blk.row t Mode.loose es])[k]? = some (Blk.obj o) → k < H.length ∧ H[k]? = some (Blk.obj o) := by
    intro k o hk
    rcases Nat.lt_or_ge k H.length with hlt | hge
    · rw [List.getElem?_append_left hlt] at hk; exact ⟨hlt, hk⟩
    · rw [List.getElem?_append_right hge] at hk
      cases hk0 : k - H.length with
      | zero => rw [hk0] at hk; simp at hk
      | succ z => rw [hk0] at hk; simp at hk
  refine ⟨⟨by rw [size_setRow]; exact h.base, fun k K hk => ?_, fun k tk mk ek hk => ?_, fun k j tk mk ek tj mj ej Ik Ij hk hmk hj hσk hσj hreal => ?_, fun k o hk => ?_, fun k j o o' Ik Ij hk hj hσk hσj hreal => ?_, h.glob.mono hle, fit_push h.fit (by rw [size_setRow]; exact hr) (by rw [size_setRow]; exact Nat.le_refl _)⟩, fun i0 I0 hi0 hr0 => ⟨hle, Below.setRow hB _, fun k hk hn => heap_setRow_other _ _ _ _ (fun e => hn i0 I0 hi0 (hr0.trans e.symm)), fun k K hk => by
    unfold Sg.push at hk
    by_cases hkl : k = H.length
    · rw [if_pos hkl] at hk; cases hk; exact .inl ⟨i0, I0, hi0, hr0⟩
    · rw [if_neg hkl] at hk; exact .inl ⟨k, K, hk, rfl⟩⟩⟩
  rotate_right 2
  · obtain ⟨hlt, hk'⟩ := partO k o hk
    obtain ⟨J, ho, j1, j2, j3, j4, j5⟩ := h.objs k o hk'
    have hne : J.real ≠ r := fun e => by
      rw [e, hcur] at j4
      cases j4
      exact j5.noCells
    exact ⟨J, ho, hle _ _ j1, j2, j3, by rw [heap_setRow_other _ _ _ _ hne]; exact j4, j5.mono hle⟩
  · obtain ⟨hlt, hk'⟩ := partO k o hk
    obtain ⟨hlt2, hj'⟩ := partO j o' hj
    rw [hold k (by omega)] at hσk
    rw [hold j (by omega)] at hσj
    exact h.oinj k j o o' Ik Ij hk' hj' hσk hσj hreal
  · by_cases hkl : k = H.length
    · subst hkl; simp
    · rw [hold k hkl] at hk
      have := h.dom k K hk
      simp; omega
  · rcases part k tk mk ek hk with ⟨rfl, rfl, rfl, rfl⟩ | ⟨hlt, hk'⟩
    · refine ⟨_, hself, by rw [size_setRow]; exact hr, rfl, hz, fun c e j v he hv => ?_, (by intro h'; cases h'), fun _ => ⟨hB, (by intro h'; cases h'), fun _ => ⟨m, rfl, hm⟩, cur2, setRow_heap _ _ _ _ _ _ hcur, by simp; rw [hs2]; exact hs⟩⟩
      obtain ⟨h1, v', h2, h3⟩ := hcell c e j v he hv
      exact ⟨h1, v', by rw [cell?_of_heap (setRow_heap _ _ _ _ _ _ hcur)]; exact h2, h3.mono hle⟩
    · obtain ⟨K, hK⟩ := h.rows k tk mk ek hk'
      have hne := hno k tk mk ek K hk' hK.here
      refine ⟨K, hle _ _ hK.here, by rw [size_setRow]; exact hK.lt, hK.len, hK.esz, fun c e j v he hv => ?_, hK.old, fun hm' => ?_⟩
      · obtain ⟨h1, v', h2, h3⟩ := hK.cell c e j v he hv
        exact ⟨h1, v', by rw [cell?_setRow_other _ _ _ _ hne]; exact h2, h3.mono hle⟩
      · obtain ⟨q1, q3, q4, c, q5, q6⟩ := hK.own hm'
        exact ⟨q1, q3, q4, c, by rw [heap_setRow_other _ _ _ _ hne]; exact q5, q6⟩
  · rcases part k tk mk ek hk with ⟨rfl, _⟩ | ⟨hlt, hk'⟩ <;> rcases part j tj mj ej hj with ⟨rfl, _⟩ | ⟨hlt', hj'⟩
    · rfl
    · rw [hself] at hσk; cases hσk
      rw [hold j (by omega)] at hσj
      exact absurd hreal.symm (hno j tj mj ej Ij hj' hσj)
    · rw [hself] at hσj; cases hσj
      rw [hold k (by omega)] at hσk
      exact absurd hreal (hno k tk mk ek Ik hk' hσk)
    · rw [hold k (by omega)] at hσk
      rw [hold j (by omega)] at hσj
      exact h.inj k j tk mk ek tj mj ej Ik Ij hk' hmk hj' hσk hσj hreal
theorem drew_alloc_below (hB : B ≤ w.heap.size) (ob : Obj) : Below B w (w.drew.alloc ob) := ((Below.refl _ _).drew).alloc hB ob
theorem HRel.drew (h : HRel P σ B H w) : HRel P σ B H w.drew := h.heap_eq rfl

/-- the grown row, in a world of its own -/
theorem grow_push (hH : HRel P σ B H w) {e : TypeId} {z : Nat} {olds news : List (List VV)} {os cs : List Value} (ho : Flat σ z olds os.toArray) (hol : os.length = olds.length * z) (hc : Flat σ z news cs.toArray) (hcl : cs.length = news.length * z) (c : Nat) (hge : olds.length + news.length ≤ c) (zc : Array Value) (hzc : zc.size = z) :
    ∃ σ', Mv B σ σ' w (w.drew.alloc (.cells (os.toArray ++ cs.toArray ++ Builtin.zeroCells zc (c - (olds.length + news.length))) e)) ∧ HRel P σ' B (H ++ [.row e .loose (olds ++ news)]) (w.drew.alloc (.cells (os.toArray ++ cs.toArray ++ Builtin.zeroCells zc (c - (olds.length + news.length))) e)) ∧
      VRel σ' (.sl (some ⟨H.length, 0, 0⟩) (olds.length + news.length) (olds.length + news.length)) (.slice (some ⟨w.heap.size, 0, none⟩) (olds.length + news.length) c) := by
  have hH' := hH.drew
  have hsz : (os.toArray ++ cs.toArray ++ Builtin.zeroCells zc (c - (olds.length + news.length))).size = c * z := by
    simp only [Array.size_append, List.size_toArray, Builtin.zeroCells, Array.size_map, Array.size_range, hzc, hol, hcl, ← Nat.add_mul]
    congr 1; omega
  have hle := Sg.le_push (I := ⟨w.drew.heap.size, 0, z, (olds ++ news).length, some c⟩) hH'.fresh
  have hesz : ∀ x ∈ olds ++ news, x.length = z := fun x hx => by
    rcases List.mem_append.1 hx with hx | hx
    · exact ho.esz x hx
    · exact hc.esz x hx
  have h := hH'.push e .loose (by simp) (olds ++ news) (os.toArray ++ cs.toArray ++ Builtin.zeroCells zc (c - (olds.length + news.length))) z (some c) hesz (by simpa using hsz) (by simp) (fun _ => ⟨c, rfl, by simpa using hge⟩) (fun k x j u hk hj => by
    have hjz : j < z := by rw [← hesz x (List.mem_of_getElem? hk)]; exact (List.getElem?_eq_some_iff.1 hj).1
    rcases Nat.lt_or_ge k olds.length with hlt | hge'
    · rw [List.getElem?_append_left hlt] at hk
      obtain ⟨q0, u', q1, q2⟩ := ho.cell k x j u hk hj
      refine ⟨q0, u', ?_, q2.mono hle⟩
      have hlt' : k * z + j < os.toArray.size := (Array.getElem?_eq_some_iff.1 q1).1
      rw [Array.append_assoc, Array.getElem?_append_left hlt']
      exact q1
    · rw [List.getElem?_append_right hge'] at hk
      obtain ⟨q0, u', q1, q2⟩ := hc.cell _ x j u hk hj
      refine ⟨q0, u', ?_, q2.mono hle⟩
      have hlt' : (k - olds.length) * z + j < cs.toArray.size := (Array.getElem?_eq_some_iff.1 q1).1
      have he : k * z + j = os.toArray.size + ((k - olds.length) * z + j) := by
        rw [List.size_toArray, hol, ← Nat.add_assoc, ← Nat.add_mul]; congr 2; omega
      rw [Array.append_assoc, he, Array.getElem?_append_right (by omega), Nat.add_sub_cancel_left, Array.getElem?_append_left hlt']
      exact q1)
  refine ⟨_, (Mv.same (Below.refl _ _).drew rfl).trans h.2, h.1, ?_⟩
  refine .sl ⟨Nat.le_refl _, .inr (.inl ⟨_, c, by simp [Sg.push]; rfl, rfl, rfl, ⟨_, by simp [Sg.push]; rfl, by simp⟩, by simp, by simp, hge⟩)⟩

theorem eff_app {t u e : TypeId} {d : TypeDesc} {s x : Operand} {s' x' : Od} {i : TypeInfo} {z : Value} {c : Call} (ho : o.op = .call c) (hc : c.callee = .builtin .append) (ha : c.args.toList = [s, x]) (hta : c.argTypes.toList = [t, u])
    (ht : P.underlying t = some (.slice e)) (hu : P.underlying u = some d) (hd : ∀ k, d ≠ .int k) (hi : P.info? e = some i) (hz : i.zero = some z) (hsz : 0 < i.size) (hby : 0 < i.bytes) (hzs : z.cells.size = i.size)
    (hs : compOd s = some s') (hx : compOd x = some x') (hH : HRel P σ B H w) (hF : FRel σ N E a) (he : (VEf.app e i.size i.bytes s' x').ev E H.g H.length = some (v, us)) : EffOk P σ B (applyU H us) w a o v := by
  have ha' : c.args = #[s, x] := by cases hh : c.args; rw [hh] at ha; simp at ha; rw [ha]
  have hta' : c.argTypes = #[t, u] := by cases hh : c.argTypes; rw [hh] at hta; simp at hta; rw [hta]
  simp only [VEf.ev] at he
  split at he
  case h_2 => cases he
  rename_i q len cap x1 h1 h2
  have r1 := compOd_ok hs hF h1
  have r2 := compOd_ok hx hF h2
  cases hsrc : srcEls H.g i.size x1 with
  | none => simp [hsrc] at he
  | some news =>
    rw [hsrc] at he
    simp only at he
    obtain ⟨cs, hS⟩ := src_ok (P := P) hH hsz r2 hsrc
    have hf0 := hS.first w (Below.refl _ _)
    have exec : ∀ {r : Value} {w' : World}, (Builtin.append_ #[t, u] o.type #[a.eval s, a.eval x]).run P w = .ok r w' → (execOp a.eval o).run P w = .ok (.value r) w' := fun {r w'} h => by
      simp [execOp, ho, resolve, hc, ha', invoke, builtin, hta', h]
    unfold appV at he
    simp only at he
    split at he
    · -- there is room
      rename_i hfit
      split at he
      · rename_i hn
        simp at he
        obtain ⟨rfl, rfl⟩ := he
        subst hn
        obtain ⟨ad, c', e1⟩ := sl_inv' r1
        have hcs : cs = [] := List.eq_nil_of_length_eq_zero (by have := hS.len; simpa using this)
        subst hcs
        have hcc : cap ≤ c' := by
          rw [e1] at r1
          cases r1 with
          | slNil => exact Nat.le_refl _
          | sl h => obtain ⟨_, h⟩ := h; rcases h with ⟨_, h⟩ | ⟨_, _, _, _, _, _, _, _, h⟩ | ⟨h, h', _⟩ <;> omega
        refine ⟨σ, a.eval s, w, Mv.refl _ _ _, hH, r1, .inl (exec ?_)⟩
        rw [e1]
        have := run_app_room (P := P) (w := w) (ty := o.type) (base := ad) (len := len) (cap := c') ht hu hd hi (hS.lenOf w) hf0 (by simp at hfit ⊢; omega) (w' := w) (fun _ _ => by simp [storeCells]) (fun _ => rfl)
        simpa using this
      · rename_i hn
        have hnl : 0 < news.length := List.length_pos_iff.2 hn
        cases q with
        | none => cases he
        | some p =>
          simp only at he
          split at he
          case h_2 => cases he
          rename_i t' md ee es hb
          split at he
          case isFalse => cases he
          rename_i hcond
          obtain ⟨hmd, hoff, hez, hin⟩ := hcond
          simp at he
          obtain ⟨rfl, rfl⟩ := he
          obtain ⟨ad, c', e1, hsl⟩ := sl_inv r1
          have hsl0 := hsl
          obtain ⟨hlc, hsl⟩ := hsl
          have hcc : cap ≤ c' := by rcases hsl with ⟨_, h⟩ | ⟨_, _, _, _, _, _, _, _, h⟩ | ⟨h, h', _⟩ <;> omega
          have hplace : σ.place p ad := by
            rcases hsl with ⟨h, _⟩ | ⟨_, _, _, _, _, h, _⟩ | ⟨h, _⟩
            · exact h
            · exact h
            · omega
          obtain ⟨I, hR⟩ := hH.rows _ _ _ _ hb
          obtain ⟨J, hJ, had⟩ := hplace
          have eI : I = J := Option.some.inj (hR.here.symm.trans hJ)
          subst eI
          have hIz : I.esz = i.size := by rw [← hez]; exact (hR.esz ee (by simp)).symm
          obtain ⟨hB, _, hlo, cur, hcur, hcsz⟩ := hR.own hmd
          have hroom : I.n ≤ I.room.getD I.n := by
            cases md with
            | ro => exact absurd rfl hmd
            | own => have := ((hR.own hmd).2.1 rfl).1; simp [this]
            | loose => obtain ⟨m, hm, hle⟩ := hlo rfl; simp [hm]; exact hle
          have hIn : I.n = es.length + 1 := by rw [← hR.len]; simp
          have hcl : cs.length = news.length * I.esz := by rw [hIz]; exact hS.len
          have hend : I.base + (p.idx + len) * I.esz + cs.length ≤ cur.size := by
            rw [hcsz, hcl, Nat.add_assoc, ← Nat.add_mul]
            have : (p.idx + len + news.length) * I.esz ≤ I.room.getD I.n * I.esz := Nat.mul_le_mul_right _ (by omega)
            omega
          have hst := run_storeCells_at P I.real (I.base + (p.idx + len) * I.esz) t' cs 0 cur w hcur (by omega) hS.one
          simp only [Nat.add_zero] at hst
          obtain ⟨g1, g2⟩ := splice_get cur (I.base + (p.idx + len) * I.esz) cs hend
          obtain ⟨u1, u2⟩ := updRows_get news (ee :: es) (p.idx + len) (by simp; omega)
          have hset := hH.store hb hmd hJ hcur g1 (es2 := updRows (ee :: es) (p.idx + len) news) u1 (fun x hx => by
              obtain ⟨k, hk⟩ := List.getElem?_of_mem hx
              rw [u2] at hk
              split at hk
              · rw [hIz]; exact hS.flat.esz x (List.mem_of_getElem? hk)
              · exact hR.esz x (List.mem_of_getElem? hk)) (fun k x j u' hk hj => by
              rw [g2]
              rw [u2] at hk
              have hjz : j < I.esz := by
                split at hk
                · rw [hIz, ← hS.flat.esz x (List.mem_of_getElem? hk)]; exact (List.getElem?_eq_some_iff.1 hj).1
                · rw [← hR.esz x (List.mem_of_getElem? hk)]; exact (List.getElem?_eq_some_iff.1 hj).1
              split at hk
              · rename_i hkr
                obtain ⟨q0, u'', q1, q2⟩ := hS.flat.cell _ x j u' hk hj
                refine ⟨q0, u'', ?_, q2⟩
                have hlt : (k - (p.idx + len)) * i.size + j < cs.length := by simpa using (Array.getElem?_eq_some_iff.1 q1).1
                have he : I.base + k * I.esz + j = I.base + (p.idx + len) * I.esz + ((k - (p.idx + len)) * i.size + j) := by
                  rw [← hIz, Nat.add_assoc, Nat.add_assoc, ← Nat.add_assoc ((p.idx + len) * I.esz), ← Nat.add_mul]; congr 3; omega
                rw [he, if_pos (by omega), Nat.add_sub_cancel_left]
                simpa using q1
              · rename_i hkr
                obtain ⟨q0, u'', q1, q2⟩ := hR.cell k x j u' hk hj
                refine ⟨q0, u'', ?_, q2⟩
                rw [cell?_of_heap hcur] at q1
                rw [if_neg ?_]
                · exact q1
                · rw [hcl]
                  intro ⟨c1, c2⟩
                  rcases Nat.lt_or_ge k (p.idx + len) with h' | h'
                  · have : (k + 1) * I.esz ≤ (p.idx + len) * I.esz := Nat.mul_le_mul_right _ h'
                    rw [Nat.add_mul] at this; omega
                  · have : (p.idx + len + news.length) * I.esz ≤ k * I.esz := Nat.mul_le_mul_right _ (by omega)
                    rw [Nat.add_mul (p.idx + len)] at this; omega)
          have hval : VRel σ (.sl (some p) (len + news.length) cap) (.slice (some ad) (len + news.length) c') := .sl ⟨hfit, hsl⟩
          rw [applyU_set (List.getElem?_eq_some_iff.1 hb).1]
          refine ⟨σ, _, _, hset.2, hset.1, hval, .inl (exec ?_)⟩
          rw [e1]
          refine run_app_room (P := P) (w := w) (ty := o.type) (base := some ad) (len := len) (cap := c') ht hu hd hi (hS.lenOf w) hf0 (by omega) (fun ad' hadq => ?_) (by simp)
          simp at hadq; subst hadq
          have hadd : ad.add (len * i.size) = ⟨I.real, I.base + (p.idx + len) * I.esz, none⟩ := by
            rw [had, hoff, hIz]
            unfold Addr.add
            split
            · rename_i h0; simp [Nat.add_mul, h0]
            · simp [Nat.add_mul, Nat.add_assoc]
          rw [hadd]; exact hst
    · -- there is none that we know of
      rename_i hfit
      split at he
      case isFalse => cases he
      rename_i hbig
      obtain ⟨hb47, hn62⟩ := hbig
      cases q with
      | none =>
        simp at he
        obtain ⟨rfl, rfl⟩ := he
        have e0 : len = 0 ∧ cap = 0 ∧ a.eval s = .slice none 0 0 := by
          generalize a.eval s = y at r1
          cases r1; exact ⟨rfl, rfl, rfl⟩
        obtain ⟨rfl, rfl, e1⟩ := e0
        have hge := grownCap_ge w (0 + news.length) 0 e
        rw [applyU_push]
        obtain ⟨σ', q1, q2, q3⟩ := grow_push hH (e := e) (olds := []) (os := []) (flat_nil i.size) (by simp) hS.flat hS.len (grownCap w (0 + news.length) 0 e) (by simpa using hge) z.cells hzs
        simp only [List.nil_append, List.length_nil] at q1 q2 q3
        refine ⟨σ', _, _, q1, q2, by simpa using q3, .inl (exec ?_)⟩
        rw [e1]
        have := run_app_grow (P := P) (w := w) (ty := o.type) (base := none) (len := 0) (cap := 0) (os := []) ht hu hd hi hz (hS.lenOf w) hS.first (fun w2 _ => by simp [Builtin.firstCells]) (by omega) hn62 hb47 hby
        simpa using this
      | some p =>
        simp only at he
        split at he
        case h_2 => cases he
        rename_i t' md es olds hb hsold
        obtain ⟨ad, c', e1, hsl⟩ := sl_inv r1
        obtain ⟨cso, hO⟩ := src_ok (P := P) hH hsz r1 hsold
        have hol : olds.length = len := by
          have h3 := hO.lenOf w
          rw [e1] at h3
          simpa [Builtin.lenOf] using h3.symm
        obtain ⟨I, hR⟩ := hH.rows _ _ _ _ hb
        -- the way through a new row
        have grow : c' < len + news.length → ∀ K : Hp, HRel P σ B K w → EffOk P σ B (K ++ [.row e .loose (olds ++ news)]) w a o (.sl (some ⟨K.length, 0, 0⟩) (len + news.length) (len + news.length)) := by
          intro hlt K hK
          have hge := grownCap_ge w (len + news.length) c' e
          obtain ⟨σ', q1, q2, q3⟩ := grow_push hK (e := e) hO.flat hO.len hS.flat hS.len (grownCap w (len + news.length) c' e) (by omega) z.cells hzs
          rw [hol] at q1 q2 q3
          refine ⟨σ', _, _, q1, q2, q3, .inl (exec ?_)⟩
          rw [e1]
          have hfo : ∀ w2, Below w.heap.size w w2 → (Builtin.firstCells i.size len (.slice (some ad) len c')).run P w2 = .ok cso.toArray w2 := fun w2 hw2 => by
            have := hO.first w2 hw2
            rwa [hol, e1] at this
          exact run_app_grow (P := P) (w := w) (ty := o.type) (base := some ad) (len := len) (cap := c') (os := cso) ht hu hd hi hz (hS.lenOf w) hS.first hfo hlt hn62 hb47 hby
        split at he
        · rename_i hmd
          subst hmd
          split at he
          case isFalse => cases he
          rename_i hcond
          obtain ⟨rfl, hoff, hhead⟩ := hcond
          simp at he
          obtain ⟨rfl, rfl⟩ := he
          have hil : p.blk < H.length := (List.getElem?_eq_some_iff.1 hb).1
          have happ : applyU H [(p.blk, Blk.dead), (H.length, Blk.row t' .loose (olds ++ news))] = H.set p.blk .dead ++ [Blk.row t' .loose (olds ++ news)] := by
            simp [applyU, hil]
          rw [happ]
          have hkill := hH.kill p.blk
          rcases Nat.lt_or_ge c' (len + news.length) with hlt | hge
          · have := grow hlt _ hkill
            rwa [List.length_set] at this
          · -- in its own row
            obtain ⟨hlc, hsl⟩ := hsl
            obtain ⟨J, m, hJ, hm, _, hplace, hend, hroom, hcc⟩ : ∃ J m, σ p.blk = some J ∧ J.room = some m ∧ p.off = 0 ∧ σ.place p ad ∧ p.idx + cap = J.n ∧ p.idx + c' = m ∧ cap ≤ c' := by
              rcases hsl with ⟨_, h⟩ | h | ⟨_, h⟩
              · omega
              · exact h
              · omega
            have eI : I = J := Option.some.inj (hR.here.symm.trans hJ)
            subst eI
            obtain ⟨J', hJ', had⟩ := hplace
            have eI : I = J' := Option.some.inj (hR.here.symm.trans hJ')
            subst eI
            obtain ⟨hB, _, _, cur, hcur, hcsz⟩ := hR.own (by simp)
            have hIz : I.esz = i.size := by
              cases hes : es with
              | nil => rw [hes] at hhead; simp at hhead
              | cons e0 es0 =>
                rw [hes] at hhead
                simp at hhead
                rw [← hhead]; exact (hR.esz e0 (by rw [hes]; simp)).symm
            have hcl : cs.length = news.length * i.size := hS.len
            have hstart : I.base + p.idx * i.size + len * i.size + cs.length ≤ cur.size := by
              rw [hcsz, hm, hIz, hcl]
              simp only [Option.getD_some]
              have : (p.idx + len + news.length) * i.size ≤ m * i.size := Nat.mul_le_mul_right _ (by omega)
              rw [Nat.add_mul, Nat.add_mul] at this
              omega
            have hst := run_storeCells_at P I.real (I.base + p.idx * i.size + len * i.size) t' cs 0 cur w hcur (by omega) hS.one
            simp only [Nat.add_zero] at hst
            obtain ⟨g1, g2⟩ := splice_get cur (I.base + p.idx * i.size + len * i.size) cs hstart
            have hno : ∀ (j : Nat) tj mj ej Ij, (H.set p.blk .dead)[j]? = some (Blk.row tj mj ej) → σ j = some Ij → Ij.real ≠ I.real := by
              intro j tj mj ej Ij hj hσj hreal
              by_cases hjp : j = p.blk
              · subst hjp
                rw [List.getElem?_set_self (List.getElem?_eq_some_iff.1 hb).1] at hj; cases hj
              · rw [List.getElem?_set_ne (Ne.symm hjp)] at hj
                exact hjp (hH.inj p.blk j _ _ _ _ _ _ I Ij hb (by simp) hj hR.here hσj hreal.symm).symm
            have hagain := hkill.again I.real hB hR.lt hno t' (olds ++ news) hcur g1 (I.base + p.idx * i.size) i.size c' (fun x hx => by
                rcases List.mem_append.1 hx with hx | hx
                · exact hO.flat.esz x hx
                · exact hS.flat.esz x hx) (by rw [hcsz, hm, hIz]; simp only [Option.getD_some]; rw [← hroom, Nat.add_mul]; omega) (by simp; omega) (fun k x j u' hk hj => by
                rw [g2]
                rcases Nat.lt_or_ge k olds.length with hlt | hge'
                · rw [List.getElem?_append_left hlt] at hk
                  obtain ⟨q0, u'', q1, q2⟩ := hO.flat.cell k x j u' hk hj
                  refine ⟨q0, u'', ?_, q2⟩
                  have hjz : j < i.size := by rw [← hO.flat.esz x (List.mem_of_getElem? hk)]; exact (List.getElem?_eq_some_iff.1 hj).1
                  have hkl : k * i.size + j < len * i.size := by
                    have : (k + 1) * i.size ≤ len * i.size := Nat.mul_le_mul_right _ (by omega)
                    rw [Nat.add_mul] at this; omega
                  rw [if_neg (by omega)]
                  have h6 := hO.here ad len c' e1 (k * i.size + j) u'' (by simpa using q1)
                  have hadd : ad.add (k * i.size + j) = ⟨I.real, I.base + p.idx * i.size + k * i.size + j, none⟩ := by
                    rw [had, hoff, hIz]
                    unfold Addr.add
                    split
                    · rename_i h0; simp; omega
                    · simp [Nat.add_assoc]
                  rw [hadd, cell?_of_heap hcur] at h6
                  exact h6
                · rw [List.getElem?_append_right hge'] at hk
                  obtain ⟨q0, u'', q1, q2⟩ := hS.flat.cell _ x j u' hk hj
                  refine ⟨q0, u'', ?_, q2⟩
                  have hlt : (k - olds.length) * i.size + j < cs.length := by simpa using (Array.getElem?_eq_some_iff.1 q1).1
                  have he : I.base + p.idx * i.size + k * i.size + j = I.base + p.idx * i.size + len * i.size + ((k - olds.length) * i.size + j) := by
                    have : k * i.size = len * i.size + (k - olds.length) * i.size := by rw [← Nat.add_mul]; congr 1; omega
                    omega
                  rw [he, if_pos (by omega), Nat.add_sub_cancel_left]
                  simpa using q1)
            rw [List.length_set] at hagain
            have hle := Sg.le_push (I := ⟨I.real, I.base + p.idx * i.size, i.size, (olds ++ news).length, some c'⟩) (by have := hkill.fresh; rwa [List.length_set] at this)
            refine ⟨_, .slice (some ad) (len + news.length) c', _, hagain.2 _ _ hR.here rfl, hagain.1, ?_, .inl (exec ?_)⟩
            · refine .sl ⟨Nat.le_refl _, .inr (.inl ⟨_, c', by simp [Sg.push]; rfl, rfl, rfl, ⟨_, by simp [Sg.push]; rfl, ?_⟩, by simp; omega, by simp, hge⟩)⟩
              rw [had, hoff, hIz]; simp
            · rw [e1]
              refine run_app_room (P := P) (w := w) (ty := o.type) (base := some ad) (len := len) (cap := c') ht hu hd hi (hS.lenOf w) hf0 hge (fun ad' h' => ?_) (by simp)
              simp at h'; subst h'
              have hadd : ad.add (len * i.size) = ⟨I.real, I.base + p.idx * i.size + len * i.size, none⟩ := by
                rw [had, hoff, hIz]
                unfold Addr.add
                split
                · rename_i h0; simp [h0]
                · simp
              rw [hadd]; exact hst
        · rename_i hmd
          simp at he
          obtain ⟨rfl, rfl⟩ := he
          -- it has no room that we do not know of
          have hc' : c' < len + news.length := by
            obtain ⟨hlc, hsl⟩ := hsl
            rcases hsl with ⟨_, h⟩ | ⟨J, m, hJ, hm, _⟩ | ⟨_, h⟩
            · omega
            · have eI : I = J := Option.some.inj (hR.here.symm.trans hJ)
              subst eI
              cases md with
              | ro => have := (hR.old rfl).2; rw [this] at hm; cases hm
              | own => have := ((hR.own (by simp)).2.1 rfl).1; rw [this] at hm; cases hm
              | loose => exact absurd rfl hmd
            · omega
          rw [applyU_push]
          exact grow hc' H hH
end
end Go.Wm
