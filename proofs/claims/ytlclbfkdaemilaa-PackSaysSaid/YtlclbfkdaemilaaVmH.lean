/- append, whole; and every operation that writes or makes memory. -/
import Derived.Test.YtlclbfkdaemilaaVmG
namespace Go.Vm
set_option linter.unusedSimpArgs false
set_option linter.unusedVariables false
open Go.RowKit
section
variable {P : Program} {σ : Sg} {B N : Nat} {H H' : Hp} {w : World} {a : Act} {E : Fr} {o : Oper} {v : VV}

theorem drew_alloc_below (hB : B ≤ w.heap.size) (ob : Obj) : Below B w (w.drew.alloc ob) := ((Below.refl _ _).drew).alloc hB ob
theorem HRel.drew (h : HRel σ B H w) : HRel σ B H w.drew := h.heap_eq rfl

/-- the grown row, in a world of its own -/
theorem grow_push (hH : HRel σ B H w) {e : TypeId} {z : Nat} {olds news : List (List VV)} {os cs : List Value} (ho : Flat σ z olds os.toArray) (hol : os.length = olds.length * z) (hc : Flat σ z news cs.toArray) (hcl : cs.length = news.length * z) (c : Nat) (hge : olds.length + news.length ≤ c) (zc : Array Value) (hzc : zc.size = z) :
    ∃ σ', σ.le σ' ∧ HRel σ' B (H ++ [.row e .loose (olds ++ news)]) (w.drew.alloc (.cells (os.toArray ++ cs.toArray ++ Builtin.zeroCells zc (c - (olds.length + news.length))) e)) ∧
      VRel σ' (.sl (some ⟨H.length, 0, 0⟩) (olds.length + news.length) (olds.length + news.length)) (.slice (some ⟨w.heap.size, 0, none⟩) (olds.length + news.length) c) ∧
      Below B w (w.drew.alloc (.cells (os.toArray ++ cs.toArray ++ Builtin.zeroCells zc (c - (olds.length + news.length))) e)) := by
  have hH' := hH.drew
  have hsz : (os.toArray ++ cs.toArray ++ Builtin.zeroCells zc (c - (olds.length + news.length))).size = c * z := by
    simp only [Array.size_append, List.size_toArray, Builtin.zeroCells, Array.size_map, Array.size_range, hzc, hol, hcl, ← Nat.add_mul]
    congr 1; omega
  have hle := Sg.le_push (I := ⟨w.drew.heap.size, 0, z, (olds ++ news).length, some c⟩) hH'.fresh
  have hesz : ∀ x ∈ olds ++ news, x.length = z := fun x hx => by
    rcases List.mem_append.1 hx with hx | hx
    · exact ho.esz x hx
    · exact hc.esz x hx
  have h := hH'.push e .loose (by simp) (olds ++ news) (os.toArray ++ cs.toArray ++ Builtin.zeroCells zc (c - (olds.length + news.length))) z (some c) hesz (by simpa using hsz) (by simp) (fun _ => ⟨c, rfl, by simpa using hge⟩) (fun k x j u hk hj => by
    have hjz : j < z := by rw [← hesz x (List.mem_of_getElem? hk)]; exact (List.getElem?_eq_some_iff.1 hj).1
    rcases Nat.lt_or_ge k olds.length with hlt | hge'
    · rw [List.getElem?_append_left hlt] at hk
      obtain ⟨q0, u', q1, q2⟩ := ho.cell k x j u hk hj
      refine ⟨q0, u', ?_, q2.mono hle⟩
      have hlt' : k * z + j < os.toArray.size := (Array.getElem?_eq_some_iff.1 q1).1
      rw [Array.append_assoc, Array.getElem?_append_left hlt']
      exact q1
    · rw [List.getElem?_append_right hge'] at hk
      obtain ⟨q0, u', q1, q2⟩ := hc.cell _ x j u hk hj
      refine ⟨q0, u', ?_, q2.mono hle⟩
      have hlt' : (k - olds.length) * z + j < cs.toArray.size := (Array.getElem?_eq_some_iff.1 q1).1
      have he : k * z + j = os.toArray.size + ((k - olds.length) * z + j) := by
        rw [List.size_toArray, hol, ← Nat.add_assoc, ← Nat.add_mul]; congr 2; omega
      rw [Array.append_assoc, he, Array.getElem?_append_right (by omega), Nat.add_sub_cancel_left, Array.getElem?_append_left hlt']
      exact q1)
  refine ⟨_, hle, h.1, ?_, drew_alloc_below hH.base _⟩
  refine .sl ⟨Nat.le_refl _, .inr (.inl ⟨_, c, by simp [Sg.push]; rfl, rfl, rfl, ⟨_, by simp [Sg.push]; rfl, by simp⟩, by simp, by simp, hge⟩)⟩

theorem eff_app {t u e : TypeId} {d : TypeDesc} {s x : Operand} {s' x' : Od} {i : TypeInfo} {z : Value} {c : Call} (ho : o.op = .call c) (hc : c.callee = .builtin .append) (ha : c.args.toList = [s, x]) (hta : c.argTypes.toList = [t, u])
    (ht : P.underlying t = some (.slice e)) (hu : P.underlying u = some d) (hd : ∀ k, d ≠ .int k) (hi : P.info? e = some i) (hz : i.zero = some z) (hsz : 0 < i.size) (hby : 0 < i.bytes) (hzs : z.cells.size = i.size)
    (hs : compOd s = some s') (hx : compOd x = some x') (hH : HRel σ B H w) (hF : FRel σ N E a) (he : (VEf.app e i.size i.bytes s' x').ev E H = some (v, H')) : EffOk P σ B H' w a o v := by
  have ha' : c.args = #[s, x] := by cases hh : c.args; rw [hh] at ha; simp at ha; rw [ha]
  have hta' : c.argTypes = #[t, u] := by cases hh : c.argTypes; rw [hh] at hta; simp at hta; rw [hta]
  simp only [VEf.ev] at he
  split at he
  case h_2 => cases he
  rename_i q len cap x1 h1 h2
  have r1 := compOd_ok hs hF h1
  have r2 := compOd_ok hx hF h2
  cases hsrc : srcEls H i.size x1 with
  | none => simp [hsrc] at he
  | some news =>
    rw [hsrc] at he
    simp only at he
    obtain ⟨cs, hS⟩ := src_ok (P := P) hH hsz r2 hsrc
    have hf0 := hS.first w (Below.refl _ _)
    have exec : ∀ {r : Value} {w' : World}, (Builtin.append_ #[t, u] o.type #[a.eval s, a.eval x]).run P w = .ok r w' → (execOp a.eval o).run P w = .ok (.value r) w' := fun {r w'} h => by
      simp [execOp, ho, resolve, hc, ha', invoke, builtin, hta', h]
    unfold appV at he
    simp only at he
    split at he
    · -- there is room
      rename_i hfit
      split at he
      · rename_i hn
        simp at he
        obtain ⟨rfl, rfl⟩ := he
        subst hn
        obtain ⟨ad, c', e1⟩ := sl_inv' r1
        have hcs : cs = [] := List.eq_nil_of_length_eq_zero (by have := hS.len; simpa using this)
        subst hcs
        have hcc : cap ≤ c' := by
          rw [e1] at r1
          cases r1 with
          | slNil => exact Nat.le_refl _
          | sl h => obtain ⟨_, h⟩ := h; rcases h with ⟨_, h⟩ | ⟨_, _, _, _, _, _, _, _, h⟩ | ⟨h, h', _⟩ <;> omega
        refine ⟨σ, a.eval s, w, Sg.le_refl _, hH, r1, Below.refl _ _, .inl (exec ?_)⟩
        rw [e1]
        have := run_app_room (P := P) (w := w) (ty := o.type) (base := ad) (len := len) (cap := c') ht hu hd hi (hS.lenOf w) hf0 (by simp at hfit ⊢; omega) (w' := w) (fun _ _ => by simp [storeCells]) (fun _ => rfl)
        simpa using this
      · rename_i hn
        have hnl : 0 < news.length := List.length_pos_iff.2 hn
        cases q with
        | none => cases he
        | some p =>
          simp only at he
          split at he
          case h_2 => cases he
          rename_i t' md ee es hb
          split at he
          case isFalse => cases he
          rename_i hcond
          obtain ⟨hmd, hoff, hez, hin⟩ := hcond
          simp at he
          obtain ⟨rfl, rfl⟩ := he
          obtain ⟨ad, c', e1, hsl⟩ := sl_inv r1
          have hsl0 := hsl
          obtain ⟨hlc, hsl⟩ := hsl
          have hcc : cap ≤ c' := by rcases hsl with ⟨_, h⟩ | ⟨_, _, _, _, _, _, _, _, h⟩ | ⟨h, h', _⟩ <;> omega
          have hplace : σ.place p ad := by
            rcases hsl with ⟨h, _⟩ | ⟨_, _, _, _, _, h, _⟩ | ⟨h, _⟩
            · exact h
            · exact h
            · omega
          obtain ⟨I, hR⟩ := hH.rows _ _ _ _ hb
          obtain ⟨J, hJ, had⟩ := hplace
          have eI : I = J := Option.some.inj (hR.here.symm.trans hJ)
          subst eI
          have hIz : I.esz = i.size := by rw [← hez]; exact (hR.esz ee (by simp)).symm
          obtain ⟨hB, _, hlo, cur, hcur, hcsz⟩ := hR.own hmd
          have hroom : I.n ≤ I.room.getD I.n := by
            cases md with
            | ro => exact absurd rfl hmd
            | own => have := (hR.own hmd).2.1 rfl; simp [this]
            | loose => obtain ⟨m, hm, hle⟩ := hlo rfl; simp [hm]; exact hle
          have hIn : I.n = es.length + 1 := by rw [← hR.len]; simp
          have hcl : cs.length = news.length * I.esz := by rw [hIz]; exact hS.len
          have hend : I.base + (p.idx + len) * I.esz + cs.length ≤ cur.size := by
            rw [hcsz, hcl, Nat.add_assoc, ← Nat.add_mul]
            have : (p.idx + len + news.length) * I.esz ≤ I.room.getD I.n * I.esz := Nat.mul_le_mul_right _ (by omega)
            omega
          have hst := run_storeCells_at P I.real (I.base + (p.idx + len) * I.esz) t' cs 0 cur w hcur (by omega) hS.one
          simp only [Nat.add_zero] at hst
          obtain ⟨g1, g2⟩ := splice_get cur (I.base + (p.idx + len) * I.esz) cs hend
          obtain ⟨u1, u2⟩ := updRows_get news (ee :: es) (p.idx + len) (by simp; omega)
          have hset := hH.store hb hmd hJ hcur g1 (es2 := updRows (ee :: es) (p.idx + len) news) u1 (fun x hx => by
              obtain ⟨k, hk⟩ := List.getElem?_of_mem hx
              rw [u2] at hk
              split at hk
              · rw [hIz]; exact hS.flat.esz x (List.mem_of_getElem? hk)
              · exact hR.esz x (List.mem_of_getElem? hk)) (fun k x j u' hk hj => by
              rw [g2]
              rw [u2] at hk
              have hjz : j < I.esz := by
                split at hk
                · rw [hIz, ← hS.flat.esz x (List.mem_of_getElem? hk)]; exact (List.getElem?_eq_some_iff.1 hj).1
                · rw [← hR.esz x (List.mem_of_getElem? hk)]; exact (List.getElem?_eq_some_iff.1 hj).1
              split at hk
              · rename_i hkr
                obtain ⟨q0, u'', q1, q2⟩ := hS.flat.cell _ x j u' hk hj
                refine ⟨q0, u'', ?_, q2⟩
                have hlt : (k - (p.idx + len)) * i.size + j < cs.length := by simpa using (Array.getElem?_eq_some_iff.1 q1).1
                have he : I.base + k * I.esz + j = I.base + (p.idx + len) * I.esz + ((k - (p.idx + len)) * i.size + j) := by
                  rw [← hIz, Nat.add_assoc, Nat.add_assoc, ← Nat.add_assoc ((p.idx + len) * I.esz), ← Nat.add_mul]; congr 3; omega
                rw [he, if_pos (by omega), Nat.add_sub_cancel_left]
                simpa using q1
              · rename_i hkr
                obtain ⟨q0, u'', q1, q2⟩ := hR.cell k x j u' hk hj
                refine ⟨q0, u'', ?_, q2⟩
                rw [cell?_of_heap hcur] at q1
                rw [if_neg ?_]
                · exact q1
                · rw [hcl]
                  intro ⟨c1, c2⟩
                  rcases Nat.lt_or_ge k (p.idx + len) with h' | h'
                  · have : (k + 1) * I.esz ≤ (p.idx + len) * I.esz := Nat.mul_le_mul_right _ h'
                    rw [Nat.add_mul] at this; omega
                  · have : (p.idx + len + news.length) * I.esz ≤ k * I.esz := Nat.mul_le_mul_right _ (by omega)
                    rw [Nat.add_mul (p.idx + len)] at this; omega)
          have hval : VRel σ (.sl (some p) (len + news.length) cap) (.slice (some ad) (len + news.length) c') := .sl ⟨hfit, hsl⟩
          refine ⟨σ, _, _, Sg.le_refl _, hset.1, hval, hset.2, .inl (exec ?_)⟩
          rw [e1]
          refine run_app_room (P := P) (w := w) (ty := o.type) (base := some ad) (len := len) (cap := c') ht hu hd hi (hS.lenOf w) hf0 (by omega) (fun ad' hadq => ?_) (by simp)
          simp at hadq; subst hadq
          have hadd : ad.add (len * i.size) = ⟨I.real, I.base + (p.idx + len) * I.esz, none⟩ := by
            rw [had, hoff, hIz]
            unfold Addr.add
            split
            · rename_i h0; simp [Nat.add_mul, h0]
            · simp [Nat.add_mul, Nat.add_assoc]
          rw [hadd]; exact hst
    · -- there is none that we know of
      rename_i hfit
      split at he
      case isFalse => cases he
      rename_i hbig
      obtain ⟨hb47, hn62⟩ := hbig
      cases q with
      | none =>
        simp at he
        obtain ⟨rfl, rfl⟩ := he
        have e0 : len = 0 ∧ cap = 0 ∧ a.eval s = .slice none 0 0 := by
          generalize a.eval s = y at r1
          cases r1; exact ⟨rfl, rfl, rfl⟩
        obtain ⟨rfl, rfl, e1⟩ := e0
        have hge := grownCap_ge w (0 + news.length) 0 e
        obtain ⟨σ', q1, q2, q3, q4⟩ := grow_push hH (e := e) (olds := []) (os := []) (flat_nil i.size) (by simp) hS.flat hS.len (grownCap w (0 + news.length) 0 e) (by simpa using hge) z.cells hzs
        simp only [List.nil_append, List.length_nil] at q2 q3 q4
        refine ⟨σ', _, _, q1, q2, by simpa using q3, q4, .inl (exec ?_)⟩
        rw [e1]
        have := run_app_grow (P := P) (w := w) (ty := o.type) (base := none) (len := 0) (cap := 0) (os := []) ht hu hd hi hz (hS.lenOf w) hS.first (fun w2 _ => by simp [Builtin.firstCells]) (by omega) hn62 hb47 hby
        simpa using this
      | some p =>
        simp only at he
        split at he
        case h_2 => cases he
        rename_i t' md es olds hb hsold
        obtain ⟨ad, c', e1, hsl⟩ := sl_inv r1
        obtain ⟨cso, hO⟩ := src_ok (P := P) hH hsz r1 hsold
        have hol : olds.length = len := by
          have h3 := hO.lenOf w
          rw [e1] at h3
          simpa [Builtin.lenOf] using h3.symm
        obtain ⟨I, hR⟩ := hH.rows _ _ _ _ hb
        -- the way through a new row
        have grow : c' < len + news.length → ∀ K : Hp, HRel σ B K w → EffOk P σ B (K ++ [.row e .loose (olds ++ news)]) w a o (.sl (some ⟨K.length, 0, 0⟩) (len + news.length) (len + news.length)) := by
          intro hlt K hK
          have hge := grownCap_ge w (len + news.length) c' e
          obtain ⟨σ', q1, q2, q3, q4⟩ := grow_push hK (e := e) hO.flat hO.len hS.flat hS.len (grownCap w (len + news.length) c' e) (by omega) z.cells hzs
          rw [hol] at q2 q3 q4
          refine ⟨σ', _, _, q1, q2, q3, q4, .inl (exec ?_)⟩
          rw [e1]
          have hfo : ∀ w2, Below w.heap.size w w2 → (Builtin.firstCells i.size len (.slice (some ad) len c')).run P w2 = .ok cso.toArray w2 := fun w2 hw2 => by
            have := hO.first w2 hw2
            rwa [hol, e1] at this
          exact run_app_grow (P := P) (w := w) (ty := o.type) (base := some ad) (len := len) (cap := c') (os := cso) ht hu hd hi hz (hS.lenOf w) hS.first hfo hlt hn62 hb47 hby
        split at he
        · rename_i hmd
          subst hmd
          split at he
          case isFalse => cases he
          rename_i hcond
          obtain ⟨rfl, hoff, hhead⟩ := hcond
          simp at he
          obtain ⟨rfl, rfl⟩ := he
          have hkill := hH.kill p.blk
          rcases Nat.lt_or_ge c' (len + news.length) with hlt | hge
          · have := grow hlt _ hkill
            rwa [List.length_set] at this
          · -- in its own row
            obtain ⟨hlc, hsl⟩ := hsl
            obtain ⟨J, m, hJ, hm, _, hplace, hend, hroom, hcc⟩ : ∃ J m, σ p.blk = some J ∧ J.room = some m ∧ p.off = 0 ∧ σ.place p ad ∧ p.idx + cap = J.n ∧ p.idx + c' = m ∧ cap ≤ c' := by
              rcases hsl with ⟨_, h⟩ | h | ⟨_, h⟩
              · omega
              · exact h
              · omega
            have eI : I = J := Option.some.inj (hR.here.symm.trans hJ)
            subst eI
            obtain ⟨J', hJ', had⟩ := hplace
            have eI : I = J' := Option.some.inj (hR.here.symm.trans hJ')
            subst eI
            obtain ⟨hB, _, _, cur, hcur, hcsz⟩ := hR.own (by simp)
            have hIz : I.esz = i.size := by
              cases hes : es with
              | nil => rw [hes] at hhead; simp at hhead
              | cons e0 es0 =>
                rw [hes] at hhead
                simp at hhead
                rw [← hhead]; exact (hR.esz e0 (by rw [hes]; simp)).symm
            have hcl : cs.length = news.length * i.size := hS.len
            have hstart : I.base + p.idx * i.size + len * i.size + cs.length ≤ cur.size := by
              rw [hcsz, hm, hIz, hcl]
              simp only [Option.getD_some]
              have : (p.idx + len + news.length) * i.size ≤ m * i.size := Nat.mul_le_mul_right _ (by omega)
              rw [Nat.add_mul, Nat.add_mul] at this
              omega
            have hst := run_storeCells_at P I.real (I.base + p.idx * i.size + len * i.size) t' cs 0 cur w hcur (by omega) hS.one
            simp only [Nat.add_zero] at hst
            obtain ⟨g1, g2⟩ := splice_get cur (I.base + p.idx * i.size + len * i.size) cs hstart
            have hno : ∀ (j : Nat) tj mj ej Ij, (H.set p.blk .dead)[j]? = some (Blk.row tj mj ej) → σ j = some Ij → Ij.real ≠ I.real := by
              intro j tj mj ej Ij hj hσj hreal
              by_cases hjp : j = p.blk
              · subst hjp
                rw [List.getElem?_set_self (List.getElem?_eq_some_iff.1 hb).1] at hj; cases hj
              · rw [List.getElem?_set_ne (Ne.symm hjp)] at hj
                exact hjp (hH.inj p.blk j _ _ _ _ _ _ I Ij hb (by simp) hj hR.here hσj hreal.symm).symm
            have hagain := hkill.again I.real hB hR.lt hno t' (olds ++ news) hcur g1 (I.base + p.idx * i.size) i.size c' (fun x hx => by
                rcases List.mem_append.1 hx with hx | hx
                · exact hO.flat.esz x hx
                · exact hS.flat.esz x hx) (by rw [hcsz, hm, hIz]; simp only [Option.getD_some]; rw [← hroom, Nat.add_mul]; omega) (by simp; omega) (fun k x j u' hk hj => by
                rw [g2]
                rcases Nat.lt_or_ge k olds.length with hlt | hge'
                · rw [List.getElem?_append_left hlt] at hk
                  obtain ⟨q0, u'', q1, q2⟩ := hO.flat.cell k x j u' hk hj
                  refine ⟨q0, u'', ?_, q2⟩
                  have hjz : j < i.size := by rw [← hO.flat.esz x (List.mem_of_getElem? hk)]; exact (List.getElem?_eq_some_iff.1 hj).1
                  have hkl : k * i.size + j < len * i.size := by
                    have : (k + 1) * i.size ≤ len * i.size := Nat.mul_le_mul_right _ (by omega)
                    rw [Nat.add_mul] at this; omega
                  rw [if_neg (by omega)]
                  have h6 := hO.here ad len c' e1 (k * i.size + j) u'' (by simpa using q1)
                  have hadd : ad.add (k * i.size + j) = ⟨I.real, I.base + p.idx * i.size + k * i.size + j, none⟩ := by
                    rw [had, hoff, hIz]
                    unfold Addr.add
                    split
                    · rename_i h0; simp; omega
                    · simp [Nat.add_assoc]
                  rw [hadd, cell?_of_heap hcur] at h6
                  exact h6
                · rw [List.getElem?_append_right hge'] at hk
                  obtain ⟨q0, u'', q1, q2⟩ := hS.flat.cell _ x j u' hk hj
                  refine ⟨q0, u'', ?_, q2⟩
                  have hlt : (k - olds.length) * i.size + j < cs.length := by simpa using (Array.getElem?_eq_some_iff.1 q1).1
                  have he : I.base + p.idx * i.size + k * i.size + j = I.base + p.idx * i.size + len * i.size + ((k - olds.length) * i.size + j) := by
                    have : k * i.size = len * i.size + (k - olds.length) * i.size := by rw [← Nat.add_mul]; congr 1; omega
                    omega
                  rw [he, if_pos (by omega), Nat.add_sub_cancel_left]
                  simpa using q1)
            rw [List.length_set] at hagain
            have hle := Sg.le_push (I := ⟨I.real, I.base + p.idx * i.size, i.size, (olds ++ news).length, some c'⟩) (by have := hkill.fresh; rwa [List.length_set] at this)
            refine ⟨_, .slice (some ad) (len + news.length) c', _, hle, hagain.1, ?_, hagain.2, .inl (exec ?_)⟩
            · refine .sl ⟨Nat.le_refl _, .inr (.inl ⟨_, c', by simp [Sg.push]; rfl, rfl, rfl, ⟨_, by simp [Sg.push]; rfl, ?_⟩, by simp; omega, by simp, hge⟩)⟩
              rw [had, hoff, hIz]; simp
            · rw [e1]
              refine run_app_room (P := P) (w := w) (ty := o.type) (base := some ad) (len := len) (cap := c') ht hu hd hi (hS.lenOf w) hf0 hge (fun ad' h' => ?_) (by simp)
              simp at h'; subst h'
              have hadd : ad.add (len * i.size) = ⟨I.real, I.base + p.idx * i.size + len * i.size, none⟩ := by
                rw [had, hoff, hIz]
                unfold Addr.add
                split
                · rename_i h0; simp [h0]
                · simp
              rw [hadd]; exact hst
        · rename_i hmd
          simp at he
          obtain ⟨rfl, rfl⟩ := he
          -- it has no room that we do not know of
          have hc' : c' < len + news.length := by
            obtain ⟨hlc, hsl⟩ := hsl
            rcases hsl with ⟨_, h⟩ | ⟨J, m, hJ, hm, _⟩ | ⟨_, h⟩
            · omega
            · have eI : I = J := Option.some.inj (hR.here.symm.trans hJ)
              subst eI
              cases md with
              | ro => have := (hR.old rfl).2; rw [this] at hm; cases hm
              | own => have := (hR.own (by simp)).2.1 rfl; rw [this] at hm; cases hm
              | loose => exact absurd rfl hmd
            · omega
          exact grow hc' H hH
end
end Go.Vm
