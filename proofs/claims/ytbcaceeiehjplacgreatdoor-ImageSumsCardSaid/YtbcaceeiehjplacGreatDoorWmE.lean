/- The operations that only read, the others: texts, nil, map's length; all of them. -/
import Derived.Test.YtbcaceeiehjplacGreatDoorWmD
import Derived.ChangeKeysEq
import Derived.Laws.Externs
namespace Go.Wm
set_option linter.unusedSimpArgs false
set_option linter.unusedVariables false
open Go.RowKit

section
variable {P : Program} {σ : Sg} {B N : Nat} {H : Hp} {w : World} {a : Act} {E : Fr} {o : Oper} {v : VV}

theorem read_lenm {c : Call} {x : Operand} {y : Od} {t k e : TypeId} (ho : o.op = .call c) (hc : c.callee = .builtin .len) (ha : c.args.toList = [x]) (hta : c.argTypes.toList = [t]) (ht : P.underlying t = some (.map k e)) (hx : compOd x = some y)
    (hH : HRel P σ B H w) (hF : FRel σ N E a) (he : (VOp.lenm y).ev E H.g = some v) : ReadOk P σ w a o v := by
  obtain ⟨ha', hta'⟩ := one_arg ha hta
  simp only [VOp.ev] at he
  cases h1 : y.ev E with
  | none => simp [h1] at he
  | some u =>
    simp only [h1] at he
    have r1 := compOd_ok hx hF h1
    cases hm : mapOf H.g u with
    | none => simp [hm] at he
    | some es =>
      simp [hm] at he
      subst he
      cases u <;> simp [mapOf] at hm
      rename_i p
      rcases map_inv r1 with ⟨rfl, e1⟩ | ⟨b, I, rfl, hI, e1⟩
      · simp at hm; subst hm
        exact .of (.int _ _) fun w2 _ => by simp [execOp, ho, resolve, hc, ha', invoke, builtin, Builtin.len_, hta', e1, underlying, ht, goInt]
      · simp only at hm
        split at hm
        case h_2 => cases hm
        rename_i es' hb
        simp at hm; subst hm
        obtain ⟨_, hlt, cur, hcu, hent, _⟩ := obj_at hH hb hI
        refine .of (.int _ _) fun w2 hw2 => ?_
        have hc2 : w2.heap[I.real]? = some (.map cur es'.length) := by rw [hw2.block _ hlt]; exact hcu
        have hsz : cur.size = es'.length := by have := hent.1; simpa using this.symm
        simp [execOp, ho, resolve, hc, ha', invoke, builtin, Builtin.len_, hta', e1, underlying, ht, goInt, MapKept.run_getObj_map hc2, Result.andThen, hsz]

theorem read_neg {t : TypeId} {x : Operand} {y : Od} (ho : o.op = .unOp .neg t x) (hx : compOd x = some y)
    (hF : FRel σ N E a) (he : (VOp.neg y).ev E H.g = some v) : ReadOk P σ w a o v := by
  simp only [VOp.ev] at he
  cases h1 : y.ev E with
  | none => simp [h1] at he
  | some u =>
    have hu := compOd_ok hx hF h1
    cases u <;> simp [h1] at he
    subst he
    have e1 := int_inv hu
    exact .of (.int _ _) fun w2 _ => by simp [execOp, ho, e1, Op.unary, Op.intArith, wrapK_eq, ineg_eq]

theorem read_mki {t : TypeId} {d : TypeDesc} {x : Operand} {y : Od} (ho : o.op = .makeInterface t x) (ht : P.underlying t = some d) (hd : ∀ ms, d = .interface ms → False) (hx : compOd x = some y)
    (hF : FRel σ N E a) (he : (VOp.mki t y).ev E H.g = some v) : ReadOk P σ w a o v := by
  simp only [VOp.ev] at he
  cases h1 : y.ev E with
  | none => simp [h1] at he
  | some u =>
    simp [h1] at he
    subst he
    have r1 := compOd_ok hx hF h1
    refine .of (.ifc r1) fun w2 _ => ?_
    have hm : (Instr.makeInterface t (a.eval x)).run P w2 = .ok (.iface t (a.eval x)) w2 := by
      simp only [Instr.makeInterface, underlying, Sem.run_bind, run_program, ht, Result.andThen_ok]
      cases d <;> first | rfl | exact (hd _ rfl).elim
    simp [execOp, ho, hm]
theorem read_capm {c : Call} {x : Operand} {y : Od} {t e : TypeId} (ho : o.op = .call c) (hc : c.callee = .builtin .cap) (ha : c.args.toList = [x]) (hta : c.argTypes.toList = [t]) (ht : P.underlying t = some (.slice e)) (hx : compOd x = some y)
    (hH : HRel P σ B H w) (hF : FRel σ N E a) (he : (VOp.capm y).ev E H.g = some v) : ReadOk P σ w a o v := by
  obtain ⟨ha', hta'⟩ := one_arg ha hta
  simp only [VOp.ev] at he
  have fin : ∀ (ad : Option Addr) (m c : Nat), a.eval x = .slice ad m c → v = .int .i64 c → ReadOk P σ w a o v := fun ad m c e1 e2 => by
    subst e2
    refine .of (.int _ _) fun w2 _ => ?_
    simp [execOp, ho, resolve, hc, ha', invoke, builtin, Builtin.cap_, hta', e1, underlying, ht, goInt]
  split at he
  · rename_i h1
    have r1 := compOd_ok hx hF h1
    generalize hq : a.eval x = q at r1
    cases r1
    cases he
    exact fin _ _ _ hq rfl
  · rename_i p m c h1
    have r1 := compOd_ok hx hF h1
    obtain ⟨ad, c', e1, hsl⟩ := sl_inv r1
    have key : ∀ (t : TypeId) (md : Mode) (es : List (List VV)), H.g p.blk = some (.row t md es) → md ≠ .loose → c' = c := fun t md es hb hm => by
      obtain ⟨I, hR⟩ := hH.rows _ _ _ _ hb
      obtain ⟨_, h⟩ := hsl
      rcases h with ⟨_, h⟩ | ⟨J, n, hJ, hn, _⟩ | ⟨h2, h3, _⟩
      · exact h
      · have eI : I = J := Option.some.inj (hR.here.symm.trans hJ)
        subst eI
        cases md with
        | ro => rw [(hR.old rfl).2] at hn; cases hn
        | own => rw [((hR.own (by simp)).2.1 rfl).1] at hn; cases hn
        | loose => exact absurd rfl hm
      · omega
    split at he
    · rename_i t es hb
      cases he
      exact fin _ _ _ e1 (by rw [key _ _ _ hb (by simp)])
    · rename_i t es hb
      cases he
      exact fin _ _ _ e1 (by rw [key _ _ _ hb (by simp)])
    · cases he
  · cases he
theorem read_chr {s d : TypeId} {x : Operand} {y : Od} {k' : IntKind} (ho : o.op = .convert s d x) (hs : P.underlying s = some (.int k')) (hd : P.underlying d = some .string) (hx : compOd x = some y)
    (hF : FRel σ N E a) (he : (VOp.chr y).ev E H.g = some v) : ReadOk P σ w a o v := by
  simp only [VOp.ev] at he
  cases h1 : y.ev E with
  | none => simp [h1] at he
  | some u =>
    have hu := compOd_ok hx hF h1
    cases u <;> simp [h1] at he
    rename_i k n
    have e1 := int_inv hu
    have e2 : ∀ w2, (execOp a.eval o).run P w2 = .ok (.value (.string (Utf8.encode n))) w2 := fun w2 => by
      simp [execOp, ho, e1, Go.convert, underlying, hs, hd, Conv.intToString]
    have e3 : v = .str (Utf8.encode n).data.toList := by
      split at he
      · rename_i h
        obtain ⟨h0, h2⟩ := h
        simp at he
        subst he
        have hv : Utf8.valid n = true := by simp [Utf8.valid]; omega
        have hlt : n.toNat < 128 := by omega
        simp [Utf8.encode, hv, hlt]
      · simp at he; exact he.symm
    subst e3
    exact .of (.str _) fun w2 _ => e2 w2

/-- rows of cells, element by element, in one array -/
structure Flat (σ : Sg) (z : Nat) (es : List (List VV)) (cur : Array Value) : Prop where
  size : es.length * z ≤ cur.size
  esz : ∀ e ∈ es, e.length = z
  cell : ∀ (k : Nat) e (j : Nat) v, es[k]? = some e → e[j]? = some v → v.cell = true ∧ ∃ v', cur[k * z + j]? = some v' ∧ VRel σ v v'

/-- what is appended, as the model sees it -/
structure SrcOk (P : Program) (σ : Sg) (w : World) (z : Nat) (news : List (List VV)) (x : Value) (cs : List Value) : Prop where
  flat : Flat σ z news cs.toArray
  len : cs.length = news.length * z
  one : ∀ u ∈ cs, u.oneCell' = true
  lenOf : ∀ w2, (Builtin.lenOf x).run P w2 = .ok news.length w2
  first : ∀ w2, Below w.heap.size w w2 → (Builtin.firstCells z news.length x).run P w2 = .ok cs.toArray w2
  here : ∀ ad m c, x = .slice (some ad) m c → ∀ (q : Nat) u, cs[q]? = some u → w.cell? (ad.add q) = some u

theorem flat_nil (z : Nat) : Flat σ z [] #[] := ⟨by simp, by simp, by simp⟩

theorem src_ok (hH : HRel P σ B H w) {z : Nat} (hz : 0 < z) {u : VV} {u' : Value} (hu : VRel σ u u') {news : List (List VV)} (hs : srcEls H.g z u = some news) : ∃ cs, SrcOk P σ w z news u' cs := by
  unfold srcEls at hs
  split at hs
  · simp at hs; subst hs
    cases hu
    exact ⟨[], flat_nil z, by simp, by simp, fun w2 => by simp [Builtin.lenOf], fun w2 _ => by simp [Builtin.firstCells], by simp⟩
  · rename_i p len cap
    obtain ⟨ad, c', e1, hsl⟩ := sl_inv hu
    subst e1
    split at hs
    · rename_i h0
      simp at hs; subst hs; subst h0
      exact ⟨[], flat_nil z, by simp, by simp, fun w2 => by simp [Builtin.lenOf], fun w2 _ => by simp [Builtin.firstCells, loadCells, loadCellsFrom], by simp⟩
    · rename_i h0
      split at hs
      case h_2 => cases hs
      rename_i t md e es hb
      split at hs
      case isFalse => cases hs
      rename_i hc
      obtain ⟨hoff, hez, hfit⟩ := hc
      simp at hs
      obtain ⟨I, hR⟩ := hH.rows _ _ _ _ hb
      obtain ⟨J, hJ, had⟩ := hsl.placed (by omega)
      have eI : I = J := Option.some.inj (hR.here.symm.trans hJ)
      subst eI
      have hIz : I.esz = z := by rw [← hez]; exact (hR.esz e (by simp)).symm
      have hnl : news.length = len := by rw [← hs]; simp; omega
      have hget : ∀ k : Nat, k < len → news[k]? = (e :: es)[p.idx + k]? := fun k hk => by
        rw [← hs, List.getElem?_take, if_pos hk, List.getElem?_drop]
      have hcell : ∀ (k : Nat) e2 (j : Nat) v, news[k]? = some e2 → e2[j]? = some v → v.cell = true ∧ ∃ v', w.cell? (ad.add (k * z + j)) = some v' ∧ VRel σ v v' := by
        intro k e2 j v hk hj
        have hkl : k < len := by rw [← hnl]; exact (List.getElem?_eq_some_iff.1 hk).1
        rw [hget k hkl] at hk
        obtain ⟨q0, v', q1, q2⟩ := hR.cell _ _ _ _ hk hj
        refine ⟨q0, v', ?_, q2⟩
        rw [← q1, had, hIz]
        have : (I.base + p.idx * z + p.off + (k * z + j)) = I.base + (p.idx + k) * z + j := by rw [Nat.add_mul, hoff]; omega
        unfold Addr.add
        split
        · rename_i h0; rw [h0] at this; simp at this; simp [this]
        · simp [this]
      have hesz : ∀ e2 ∈ news, e2.length = z := fun e2 he2 => by
        obtain ⟨k, hk⟩ := List.getElem?_of_mem he2
        have hkl : k < len := by rw [← hnl]; exact (List.getElem?_eq_some_iff.1 hk).1
        rw [hget k hkl] at hk
        rw [← hIz]; exact hR.esz e2 (List.mem_of_getElem? hk)
      let f : Nat → Value := fun q => (w.cell? (ad.add q)).getD undef
      have hall : ∀ q, q < len * z → ∃ v v', w.cell? (ad.add q) = some v' ∧ VRel σ v v' ∧ v.cell = true := by
        intro q hq
        have hk : q / z < len := Nat.div_lt_of_lt_mul (by rw [Nat.mul_comm]; exact hq)
        have hj : q % z < z := Nat.mod_lt _ hz
        have hk' : q / z < news.length := by omega
        have hj' : q % z < news[q / z].length := by rw [hesz _ (List.getElem_mem hk')]; exact hj
        obtain ⟨q0, v', q1, q2⟩ := hcell (q / z) news[q / z] (q % z) news[q / z][q % z] (List.getElem?_eq_getElem hk') (List.getElem?_eq_getElem hj')
        rw [show q / z * z + q % z = q by rw [Nat.mul_comm]; exact Nat.div_add_mod q z] at q1
        exact ⟨_, v', q1, q2, q0⟩
      refine ⟨(List.range (len * z)).map f, ⟨by simp [hnl], hesz, fun k e2 j v hk hj => ?_⟩, by simp [hnl], ?_, fun w2 => by simp [Builtin.lenOf, hnl], fun w2 hw2 => ?_, fun ad' m' c'' hx q u hq => ?_⟩
      · obtain ⟨q0, v', q1, q2⟩ := hcell k e2 j v hk hj
        refine ⟨q0, v', ?_, q2⟩
        have hkl : k < len := by rw [← hnl]; exact (List.getElem?_eq_some_iff.1 hk).1
        have hjz : j < z := by rw [← hesz e2 (List.mem_of_getElem? hk)]; exact (List.getElem?_eq_some_iff.1 hj).1
        have hlt : k * z + j < len * z := by
          have : (k + 1) * z ≤ len * z := Nat.mul_le_mul_right _ hkl
          rw [Nat.add_mul] at this; omega
        simp [hlt, f, q1]
      · intro u hu
        obtain ⟨q, hq, rfl⟩ := List.mem_map.1 hu
        obtain ⟨v, v', q1, q2, q0⟩ := hall q (by simpa using hq)
        simp [f, q1]
        exact q2.oneCell q0
      · have hr := hR.lt
        have h3 := run_loadCells (P := P) w2 ad (len * z) f (fun q hq => by
          obtain ⟨v, v', q1, _⟩ := hall q hq
          rw [hw2.cell (p := ad.add q) (by rw [had]; unfold Addr.add; split <;> exact hr), q1]
          simp [f, q1])
        simp only [Builtin.firstCells, hnl, h3]
      · obtain ⟨rfl, _, _⟩ : ad = ad' ∧ len = m' ∧ c' = c'' := by simpa using hx
        have hql : q < len * z := by have := (List.getElem?_eq_some_iff.1 hq).1; simpa using this
        obtain ⟨v, v', q1, _⟩ := hall q hql
        rw [q1]
        simp [hql, f, q1] at hq
        rw [hq]
  · rename_i s
    split at hs
    case isFalse => cases hs
    rename_i hz1
    subst hz1
    simp at hs
    have e1 := str_inv hu
    subst e1
    have hnl : news.length = s.length := by rw [← hs]; simp
    refine ⟨s.map fun b => .int .u8 b.toNat, ⟨by simp [hnl], fun e he => ?_, fun k e j v hk hj => ?_⟩, by simp [hnl], fun u hu => ?_, fun w2 => ?_, fun w2 _ => ?_, by simp⟩
    · rw [← hs] at he; obtain ⟨b, _, rfl⟩ := List.mem_map.1 he; rfl
    · rw [← hs] at hk
      rw [List.getElem?_map] at hk
      cases hsk : s[k]? with
      | none => simp [hsk] at hk
      | some b =>
        simp [hsk] at hk; subst hk
        cases j with
        | succ j => simp at hj
        | zero => simp at hj; subst hj; exact ⟨rfl, _, by simp [hsk], .int _ _⟩
    · obtain ⟨b, _, rfl⟩ := List.mem_map.1 hu; rfl
    · simp [Builtin.lenOf, hnl]; rfl
    · simp only [Builtin.firstCells, Sem.run_pure, hnl]
      congr 1
      have : (⟨s.toArray⟩ : ByteArray).extract 0 s.length = ⟨s.toArray⟩ := by
        apply ByteArray.ext
        rw [ByteArray.data_extract]
        apply Array.ext'
        simp
      rw [this]
      apply Array.ext'
      simp
  · cases hs


theorem run_bytes (g : Value → ByteArray → Sem (ForInStep ByteArray)) (hg : ∀ n s, g (.int .u8 n) s = pure (ForInStep.yield (s.push (UInt8.ofNat n.toNat)))) : ∀ (ns : List Int) (s : ByteArray) (w : World), (forIn (m := Sem) (ns.map (Value.int .u8)) s g).run P w = .ok ⟨s.data ++ (ns.map fun n => UInt8.ofNat n.toNat).toArray⟩ w
  | [], s, w => by simp
  | n :: ns, s, w => by
    rw [List.map_cons, List.forIn_cons, hg]
    simp only [Sem.run_bind, Sem.run_pure, Result.andThen_ok]
    rw [run_bytes g hg ns]
    congr 1
    simp [ByteArray.push]

theorem bytesOf_map : ∀ {es : List (List VV)} {s : List UInt8}, bytesOf es = some s → ∃ ns : List Int, es = ns.map (fun n => [.int .u8 n]) ∧ s = ns.map fun n => UInt8.ofNat n.toNat
  | [], s, h => by simp [bytesOf] at h; subst h; exact ⟨[], rfl, rfl⟩
  | e :: es, s, h => by
    unfold bytesOf at h
    split at h
    · rename_i q; cases q
    · rename_i n r q
      obtain ⟨rfl, rfl⟩ := List.cons.inj q
      split at h
      case h_2 => cases h
      rename_i s' hs'
      simp at h; subst h
      obtain ⟨ns, rfl, rfl⟩ := bytesOf_map hs'
      exact ⟨n :: ns, rfl, rfl⟩
    · cases h
theorem flat_bytes {ns : List Int} {cs : List Value} (h : Flat σ 1 (ns.map fun n => [.int .u8 n]) cs.toArray) (hl : cs.length = ns.length) : cs = ns.map (.int .u8) := by
  apply List.ext_getElem?
  intro k
  by_cases hk : k < ns.length
  · obtain ⟨_, v', h1, h2⟩ := h.cell k [.int .u8 ns[k]] 0 (.int .u8 ns[k]) (by simp [hk]) rfl
    simp at h1
    rw [h1]
    cases h2
    simp [hk]
  · rw [List.getElem?_eq_none (by omega), List.getElem?_eq_none (by simp; omega)]

theorem read_bstr {s d e : TypeId} {x : Operand} {y : Od} (ho : o.op = .convert s d x) (hs : P.underlying s = some (.slice e)) (hd : P.underlying d = some .string) (hx : compOd x = some y) (he8 : P.underlying e = some (.int .u8))
    (hH : HRel P σ B H w) (hF : FRel σ N E a) (he : (VOp.bstr y).ev E H.g = some v) : ReadOk P σ w a o v := by
  simp only [VOp.ev] at he
  cases h1 : y.ev E with
  | none => simp [h1] at he
  | some u =>
    have hu := compOd_ok hx hF h1
    cases u <;> simp [h1] at he
    rename_i q m c
    cases hsrc : srcEls H.g 1 (.sl q m c) with
    | none => simp [hsrc] at he
    | some els =>
      simp [hsrc] at he
      cases hb : bytesOf els with
      | none => simp [hb] at he
      | some bs =>
        simp [hb] at he
        subst he
        obtain ⟨cs, hsok⟩ := src_ok hH (by decide) hu hsrc
        obtain ⟨ns, rfl, rfl⟩ := bytesOf_map hb
        have hcs : cs = ns.map (.int .u8) := flat_bytes hsok.flat (by have := hsok.len; simpa using this)
        obtain ⟨ad, c', e1⟩ := sl_inv' hu
        refine .of (.str _) fun w2 hw2 => ?_
        have hconv : (Conv.bytesToString (a.eval x)).run P w2 = .ok (.string ⟨(ns.map fun n => UInt8.ofNat n.toNat).toArray⟩) w2 := by
          have hf := hsok.first w2 hw2
          have hl := hsok.lenOf w2
          rw [e1] at hf hl ⊢
          have hm : m = ns.length := by simpa [Builtin.lenOf] using hl
          cases ad with
          | none =>
            simp [Builtin.firstCells] at hf
            rw [hcs] at hf
            have : ns = [] := by simpa using hf.symm
            subst this
            simp [Conv.bytesToString]
            rfl
          | some ad =>
            simp [Builtin.firstCells] at hf
            have hload : (loadCells ad m).run P w2 = .ok cs.toArray w2 := by rw [hm]; exact hf
            simp only [Conv.bytesToString, Sem.run_bind, hload, Result.andThen_ok, hcs, List.forIn_toArray]
            rw [run_bytes (P := P) _ (fun _ _ => rfl) ns ByteArray.empty w2]
            simp
        have hrun : (execOp a.eval o).run P w2 = ((Conv.bytesToString (a.eval x)).run P w2).andThen fun v w => .ok (.value v) w := by
          simp [execOp, ho, Go.convert, underlying, hs, hd, he8, e1]
        rw [hrun, hconv]
        rfl

theorem read_seq {op : BinOp} {t t' : TypeId} {x y : Operand} {x' y' : Od} (ho : o.op = .binOp op t x y t') (hx : compOd x = some x') (hy : compOd y = some y')
    (hF : FRel σ N E a) (he : (VOp.seq op x' y').ev E H.g = some v) : ReadOk P σ w a o v := by
  simp only [VOp.ev] at he
  cases h1 : x'.ev E with
  | none => simp [h1] at he
  | some u =>
    cases h2 : y'.ev E with
    | none => cases u <;> simp [h1, h2] at he
    | some u2 =>
      have r1 := compOd_ok hx hF h1
      have r2 := compOd_ok hy hF h2
      cases u <;> simp [h1, h2] at he
      rename_i s
      cases u2 <;> simp at he
      rename_i r
      have e1 := str_inv r1
      have e2 := str_inv r2
      have hg : ∀ w2, (eqGuard op t x y (.string ⟨s.toArray⟩) (.string ⟨r.toArray⟩)).run P w2 = .ok () w2 := fun w2 => run_eqGuard_scalar (.inr (.inr ⟨_, rfl⟩)) w2
      have l1 : (⟨s.toArray⟩ : ByteArray).toList = s := by rw [ByteArray.toList_eq]
      have l2 : (⟨r.toArray⟩ : ByteArray).toList = r := by rw [ByteArray.toList_eq]
      have s1 : (⟨s.toArray⟩ : ByteArray).size = s.length := rfl
      have s2 : (⟨r.toArray⟩ : ByteArray).size = r.length := rfl
      cases op <;> simp [strOp] at he
      case add =>
        obtain ⟨hle, rfl⟩ := he
        have hcat : (⟨s.toArray⟩ : ByteArray) ++ ⟨r.toArray⟩ = ⟨(s ++ r).toArray⟩ := by
          apply ByteArray.ext; simp
        refine .of (.str (s ++ r)) fun w2 _ => ?_
        have hno : ¬ (((⟨s.toArray⟩ : ByteArray).size + (⟨r.toArray⟩ : ByteArray).size : Nat) : Int) > IntKind.i64.max := by
          rw [s1, s2, show IntKind.i64.max = 9223372036854775807 from rfl]; omega
        simp only [execOp, ho, e1, e2, Sem.run_bind, hg, Result.andThen_ok, Go.binOp, Op.stringOp, if_neg hno, hcat, Sem.run_pure]
      all_goals
        subst he
        exact .of (.bool _) fun w2 _ => by simp [execOp, ho, e1, e2, hg, Result.andThen, Go.binOp, Op.stringOp, l1, l2]

def TyOf (P : Program) (t : TypeId) : Nat → Prop
  | 0 => ∃ e, P.underlying t = some (.pointer e) ∧ ((P.info? e).map (·.size)).getD 0 ≠ 0
  | 1 => ∃ e, P.underlying t = some (.slice e)
  | 2 => ∃ k e, P.underlying t = some (.map k e)
  | 3 => ∃ m, P.underlying t = some (.interface m)
  | _ => ∃ p r b, P.underlying t = some (.func p r b)
theorem neqV_run {kd : Nat} {t : TypeId} (ht : TyOf P t kd) {u v : VV} {u' v' : Value} (hu : VRel σ u u') (hv : VRel σ v v') {b : Bool} (hH : HRel P σ B H w) (hb : neqV H.g kd u v = some b) :
    (∀ w2, Below w.heap.size w w2 → (Op.equal t u' v').run P w2 = .ok b w2) ∧ (∀ op w2, Below w.heap.size w w2 → op = .eql ∨ op = .neq → (Go.binOp op t u' v').run P w2 = .ok (.bool (if op = .neq then !b else b)) w2) ∧
    (∀ op x y w2, (kd = 3 → isConst y = true) → (eqGuard op t x y u' v').run P w2 = .ok () w2) := by
  have gen : ∀ d w2, Below w.heap.size w w2 → (Op.equalIn (d + 1) t u' v').run P w2 = .ok b w2 := by
    intro d w2 hw2
    unfold neqV at hb
    split at hb
    · obtain ⟨e, ht, hi⟩ := ht
      simp only [Option.some.injEq] at hb; subst hb
      cases hu
      cases hv <;> simp only [Op.equalIn, Sem.run_bind, run_underlying ht, Result.andThen_ok, Sem.run_pure, Option.isNone]
    · obtain ⟨e, ht, hi⟩ := ht
      simp only [Option.some.injEq] at hb; subst hb
      cases hu; cases hv
      simp only [Op.equalIn, Sem.run_bind, run_underlying ht, Result.andThen_ok, Sem.run_pure, Option.isNone]
    · obtain ⟨e, ht, hi⟩ := ht
      rename_i p q
      have hsz0 : ∃ i, P.info? e = some i ∧ i.size ≠ 0 := by
        cases h0 : P.info? e with
        | none => simp [h0] at hi
        | some i => exact ⟨i, rfl, by simpa [h0] using hi⟩
      obtain ⟨i, hi, hsz1⟩ := hsz0
      have hsz : (sizeOf e).run P w2 = .ok i.size w2 := by simp [sizeOf, typeInfo, hi]
      split at hb
      case isFalse =>
        split at hb
        · cases hb
        · rename_i hne
          split at hb
          · rename_i t1 m1 es1 t2 m2 es2 hm1 hm2
            split at hb
            · rename_i hro
              simp only [Option.some.injEq] at hb; subst hb
              cases hu with | ptr h1 => cases hv with | ptr h2 =>
              obtain ⟨I, i1, rfl⟩ := h1
              obtain ⟨J, j1, rfl⟩ := h2
              obtain ⟨I', hI⟩ := hH.rows _ _ _ _ hm1
              obtain ⟨J', hJ⟩ := hH.rows _ _ _ _ hm2
              obtain rfl := Option.some.inj (i1.symm.trans hI.here)
              obtain rfl := Option.some.inj (j1.symm.trans hJ.here)
              have q1 : m1 ≠ .ro := by intro h; rw [h] at hro; simp [roB] at hro
              have q2 : m2 ≠ .ro := by intro h; rw [h] at hro; simp [roB] at hro
              have hreal : I.real ≠ J.real := fun h => hne (hH.inj _ _ _ _ _ _ _ _ _ _ hm1 q1 hm2 i1 j1 h)
              obtain ⟨_, _, _, c1, e1, _⟩ := hI.own q1
              obtain ⟨_, _, _, c2, e2, _⟩ := hJ.own q2
              have e1' := hw2.block _ hI.lt
              have e2' := hw2.block _ hJ.lt
              rw [← e1'] at e1
              rw [← e2'] at e2
              simp only [Op.equalIn, Sem.run_bind, run_underlying ht, Result.andThen_ok, hsz, if_pos hsz1]
              have hbl : (I.real == J.real) = false := by simpa using hreal
              simp [sameAddr, hreal, World.frozen?, e1, e2, noView, viewAt, World.shape?, mayBeOne, stringish]
            · cases hb
          · cases hb
      rename_i hpq
      simp only [Option.some.injEq] at hb; subst hb
      obtain ⟨pb, pi, po⟩ := p
      obtain ⟨qb, qi, qo⟩ := q
      obtain ⟨rfl, rfl, rfl⟩ := hpq
      cases hu with | ptr h1 => cases hv with | ptr h2 =>
      obtain ⟨I, i1, rfl⟩ := h1
      obtain ⟨J, j1, rfl⟩ := h2
      have : I = J := Option.some.inj (i1.symm.trans j1)
      subst this
      simp only [Op.equalIn, Sem.run_bind, run_underlying ht, Result.andThen_ok, hsz]
      split
      · simp only [sameAddr, beq_self_eq_true, if_true, Sem.run_pure]
      · rename_i hno; exact absurd hsz1 hno
    · obtain ⟨e, ht⟩ := ht
      simp only [Option.some.injEq] at hb; subst hb
      cases hu
      cases hv <;> simp only [Op.equalIn, Sem.run_bind, run_underlying ht, Result.andThen_ok, Sem.run_pure, Option.isNone]
    · obtain ⟨e, ht⟩ := ht
      simp only [Option.some.injEq] at hb; subst hb
      cases hu; cases hv
      simp only [Op.equalIn, Sem.run_bind, run_underlying ht, Result.andThen_ok, Sem.run_pure, Option.isNone]
    · obtain ⟨k, e, ht⟩ := ht
      simp only [Option.some.injEq] at hb; subst hb
      cases hu
      cases hv <;> simp only [Op.equalIn, Sem.run_bind, run_underlying ht, Result.andThen_ok, Sem.run_pure, Option.isNone]
    · obtain ⟨k, e, ht⟩ := ht
      simp only [Option.some.injEq] at hb; subst hb
      cases hu; cases hv
      simp only [Op.equalIn, Sem.run_bind, run_underlying ht, Result.andThen_ok, Sem.run_pure, Option.isNone]
    · obtain ⟨m, ht⟩ := ht
      simp only [Option.some.injEq] at hb; subst hb
      cases hu; cases hv
      simp only [Op.equalIn, Sem.run_bind, run_underlying ht, Result.andThen_ok, Sem.run_pure]
    · obtain ⟨p, r, b, ht⟩ := ht
      simp only [Option.some.injEq] at hb; subst hb
      cases hu; cases hv
      simp only [Op.equalIn, Sem.run_bind, run_underlying ht, Result.andThen_ok, Sem.run_pure]
    · obtain ⟨p, r, b, ht⟩ := ht
      simp only [Option.some.injEq] at hb; subst hb
      cases hu; cases hv
      simp only [Op.equalIn, Sem.run_bind, run_underlying ht, Result.andThen_ok, Sem.run_pure]
    · obtain ⟨p, r, b, ht⟩ := ht
      simp only [Option.some.injEq] at hb; subst hb
      cases hu; cases hv
      simp only [Op.equalIn, Sem.run_bind, run_underlying ht, Result.andThen_ok, Sem.run_pure]
    · cases hb
  have key : ∀ w2, Below w.heap.size w w2 → (Op.equal t u' v').run P w2 = .ok b w2 := fun w2 => gen 9999 w2
  refine ⟨key, fun op w2 hw2 hop => ?_, fun op x y w2 hc => ?_⟩
  · have hs : (Go.binOp op t u' v').run P w2 = ((Op.equal t u' v').run P w2).andThen fun b w => .ok (.bool (if op = .neq then !b else b)) w := by
      unfold neqV at hb
      rcases hop with rfl | rfl <;> (split at hb <;> (try cases hb)) <;> cases hu <;> cases hv <;> simp [Go.binOp]
    rw [hs, key w2 hw2, Result.andThen_ok]
  · unfold neqV at hb
    split at hb <;> (try cases hb) <;> cases hu <;> cases hv <;> (try (unfold eqGuard; split <;> rfl))
    have hy := hc rfl
    unfold isConst at hy
    split at hy
    · unfold eqGuard; simp <;> (try (split <;> rfl))
    · cases hy
theorem read_neq {kd : Nat} {ng : Bool} {t t' : TypeId} {x y : Operand} {x' y' : Od} (ho : o.op = .binOp (if ng then .neq else .eql) t x y t') (ht : TyOf P t kd) (hk : kd = 3 → isConst y = true)
    (hx : compOd x = some x') (hy : compOd y = some y') (hH : HRel P σ B H w)
    (hF : FRel σ N E a) (he : (VOp.neq kd ng x' y').ev E H.g = some v) : ReadOk P σ w a o v := by
  simp only [VOp.ev] at he
  cases h1 : x'.ev E with
  | none => simp [h1] at he
  | some u =>
    cases h2 : y'.ev E with
    | none => simp [h1, h2] at he
    | some u2 =>
      simp only [h1, h2] at he
      cases h3 : neqV H.g kd u u2 with
      | none => simp [h3] at he
      | some b =>
        simp [h3] at he
        subst he
        obtain ⟨_, q2, q3⟩ := neqV_run ht (compOd_ok hx hF h1) (compOd_ok hy hF h2) hH h3
        refine .of (.bool _) fun w2 hw2 => ?_
        cases ng with
        | false =>
          simp only [Bool.false_eq_true, if_false] at ho
          have q4 := q2 .eql w2 hw2 (.inl rfl)
          simp only [execOp, ho, Sem.run_bind, q3 _ _ _ _ hk, Result.andThen_ok, q4, Sem.run_pure, reduceCtorEq, if_false]
          try rfl
        | true =>
          simp only [if_true] at ho
          have q4 := q2 .neq w2 hw2 (.inr rfl)
          simp only [execOp, ho, Sem.run_bind, q3 _ _ _ _ hk, Result.andThen_ok, q4, Sem.run_pure]
          try rfl

theorem idx_gen (c : UInt8) : ∀ (s : List UInt8) (k : Nat) (f : Nat → UInt8), (∀ i, i < s.length → f (k + i) = s.getD i 0) →
    (match ((List.range' k s.length).find? fun i => f i == c) with | some i => (i : Int) | none => -1) = idxOf8 c s k
  | [], k, f, _ => rfl
  | b :: s, k, f, h => by
    have h0 : f k = b := by simpa using h 0 (by simp)
    have ih := idx_gen c s (k + 1) f fun i hi => by have := h (i + 1) (by simpa using hi); rw [show k + 1 + i = k + (i + 1) by omega, this]; rfl
    simp only [List.length_cons, List.range'_succ, List.find?_cons, h0, idxOf8]
    by_cases e : b = c
    · subst e; simp
    · rw [if_neg e]
      have : (b == c) = false := by simpa using e
      simp only [this]
      exact ih
theorem firstIdx_eq (s : List UInt8) (n : Nat) : firstIdx ⟨s.toArray⟩ n.toUInt8 = idxOf8 (UInt8.ofNat n) s 0 := by
  have hc : n.toUInt8 = UInt8.ofNat n := rfl
  rw [hc]
  unfold firstIdx
  have := idx_gen (UInt8.ofNat n) s 0 (fun i => (⟨s.toArray⟩ : ByteArray)[i]!) fun i hi => by
    rw [Nat.zero_add]
    have hi' : i < (⟨s.toArray⟩ : ByteArray).size := hi
    rw [getElem!_pos (⟨s.toArray⟩ : ByteArray) i hi']
    show s.toArray[i] = _
    simp [List.getD, hi]
  rw [← List.range_eq_range'] at this
  exact this
theorem read_ixb {c : Call} {f : FuncId} {x y : Operand} {x' y' : Od} (ho : o.op = .call c) (hc : c.callee = .value (.func f)) (ha : c.args.toList = [x, y]) (hb : bodyless P f "internal/bytealg.IndexByteString" = true) (hx : compOd x = some x') (hy : compOd y = some y')
    (hF : FRel σ N E a) (he : (VOp.ixb x' y').ev E H.g = some v) : ReadOk P σ w a o v := by
  simp only [VOp.ev] at he
  cases h1 : x'.ev E with
  | none => simp [h1] at he
  | some u =>
    cases h2 : y'.ev E with
    | none => cases u <;> simp [h1, h2] at he
    | some u2 =>
      have r1 := compOd_ok hx hF h1
      have r2 := compOd_ok hy hF h2
      cases u <;> simp [h1, h2] at he
      rename_i s
      cases u2 <;> try (cases he; done)
      rename_i k n
      cases k <;> try (cases he; done)
      cases he
      have e1 := str_inv r1
      have e2 := int_inv r2
      unfold bodyless at hb
      cases hf : P.funcs[f]? with
      | none => simp [hf] at hb
      | some fn =>
        simp only [hf, Bool.and_eq_true, beq_iff_eq] at hb
        obtain ⟨hb1, hb2, hb3⟩ := hb
        have hfind : Extern.find fn = some Extern.BytealgIndexByte.indexByte := by
          have q1 : Extern.allGenericRows.lookup "internal/bytealg.IndexByteString" = none := by kernel_rfl
          have q2 : Extern.allTypedRows.lookup "internal/bytealg.IndexByteString" = none := by kernel_rfl
          have q3 : Extern.allRows.lookup "internal/bytealg.IndexByteString" = some Extern.BytealgIndexByte.indexByte := by kernel_rfl
          simp [Extern.find, hb2, q1, q2, q3]
        have hargs : c.args = #[x, y] := Array.toList_inj.1 (by simpa using ha)
        refine .of (.int _ _) fun w2 _ => ?_
        have hcall := run_callFunc_extern (P := P) hf (by rw [hb2]; rfl) hb1 (by simpa using hb3) hfind #[.string ⟨s.toArray⟩, .int .u8 n] w2
        rw [run_indexByte_string] at hcall
        rw [firstIdx_eq] at hcall
        simp only [Result.andThen_ok] at hcall
        have hev : a.eval (.func f) = .func (.func f) #[] #[] := rfl
        simp [execOp, ho, resolve, hc, hargs, hev, Deferred.ofValue, invoke, e1, e2]
        exact hcall

/-! ### arrays of bytes -/
theorem cell?_of_heap' {w : World} {g o : Nat} {cur : Array Value} {t : TypeId} {fr : Nat × Nat} (h : w.heap[g]? = some (.cells cur t fr)) : w.cell? ⟨g, o, none⟩ = cur[o]? := by
  simp [World.cell?, h]
theorem read_s2a {t e : TypeId} {n : Nat} {x : Operand} {y : Od} (ho : o.op = .sliceToArrayPointer t x) (ht : P.underlying t = some (.array n e)) (hx : compOd x = some y)
    (hF : FRel σ N E a) (he : (VOp.s2a n y).ev E H.g = some v) : ReadOk P σ w a o v := by
  simp only [VOp.ev] at he
  split at he
  case h_2 => cases he
  rename_i p m c h1
  split at he
  case isFalse => cases he
  rename_i hn
  obtain ⟨hn0, hn⟩ := hn
  simp at he; subst he
  obtain ⟨ad, c', e1, hle, hsl⟩ := sl_inv (compOd_ok hx hF h1)
  have hpl : σ.place p ad := by
    rcases hsl with ⟨h, _⟩ | ⟨_, _, _, _, _, h, _⟩ | ⟨h, _⟩
    · exact h
    · exact h
    · omega
  refine .of (.ptr hpl) fun w2 _ => ?_
  have hlt : ¬ m < n := by omega
  simp [execOp, ho, e1, Instr.arrayAt, underlying, ht, hlt]
theorem read_lda {t : TypeId} {x : Operand} {y : Od} {n : Nat} {b : Bool} (ho : o.op = .load t x) (ht : aggOf P t = some (n, b)) (hb : bytesArr P t = true) (hx : compOd x = some y)
    (hH : HRel P σ B H w) (hF : FRel σ N E a) (he : (VOp.lda n y).ev E H.g = some v) : ReadOk P σ w a o v := by
  have hbt : b = true := by
    unfold bytesArr at hb
    unfold aggOf at ht
    split at hb
    · rename_i k e hu
      rw [hu] at ht
      split at ht
      · rename_i i u _ hu2
        cases hu2
        simp at ht
        rw [← ht.2]
      · cases ht
    · cases hb
  subst hbt
  simp only [VOp.ev] at he
  split at he
  case h_2 => cases he
  rename_i p h1
  split at he
  · rename_i l hl
    simp at he; subst he
    exact read_load ho ht hx hH hF (by simp [VOp.ev, h1, hl])
  · split at he
    case h_2 => cases he
    rename_i s hbk
    split at he
    case isFalse => cases he
    rename_i hc
    obtain ⟨h3, h4, h5⟩ := hc
    simp at he; subst he
    obtain ⟨ad, e1, J, hJ, had⟩ := ptr_inv (compOd_ok hx hF h1)
    obtain ⟨I, ho', i1, i2, i3, i4, i5⟩ := hH.objs _ _ hbk
    have : I = J := Option.some.inj (i1.symm.trans hJ)
    subst this
    cases ho' <;> simp only [ObRel] at i5
    rename_i cur t' fr
    have had0 : ad = ⟨I.real, 0, none⟩ := by rw [had, i3, h3, h4]; simp
    have hlt : I.real < w.heap.size := (Array.getElem?_eq_some_iff.1 i4).1
    have hL : ∀ l : List UInt8, LRel σ (l.map fun b => VV.int .u8 b.toNat) (l.map fun b => Value.int .u8 b.toNat) := fun l => by
      induction l with
      | nil => exact .nil
      | cons b l ih => exact .cons (.int _ _) ih
    refine .of (.agg (cs' := ((s.take n).map fun b => Value.int .u8 b.toNat).toArray) (by simpa using hL (s.take n))) fun w2 hw2 => ?_
    have h6 := run_loadCells_list (P := P) w2 ad ((s.take n).map fun b => Value.int .u8 b.toNat) (fun j v hj => by
      have hblk : (ad.add j).block < w.heap.size := by rw [had0]; unfold Addr.add; split <;> exact hlt
      rw [hw2.cell (p := ad.add j) hblk]
      simp only [List.getElem?_map, Option.map_eq_some_iff] at hj
      obtain ⟨c, hc, rfl⟩ := hj
      have hc' : s[j]? = some c := by
        rw [List.getElem?_take] at hc
        split at hc
        · exact hc
        · cases hc
      have : ad.add j = ⟨I.real, j, none⟩ := by rw [had0]; unfold Addr.add; split <;> simp_all
      rw [this, cell?_of_heap' i4]
      exact i5.2 j c hc')
    have hlen : ((s.take n).map fun b => Value.int .u8 b.toNat).length = n := by simp; omega
    rw [hlen] at h6
    simp [execOp, ho, e1, Instr.loadAt, Instr.sureAddr, loadVar, aggOf_run ht, h6]
theorem items_run {d : Nat} {e : TypeId} {k : IntKind} (hu : P.underlying e = some (.int k)) (hag : aggOf P e = some (1, false)) : ∀ (m i : Nat) (cs ds : List VV) (cs' ds' : Array Value) (b : Bool), LRel σ cs cs'.toList → LRel σ ds ds'.toList →
    aeqK (List.replicate m 0) (cs.drop i) (ds.drop i) = some b → ∀ w2, (Op.eqItems (d + 1) e 1 cs' ds' (List.range' i m)).run P w2 = .ok b w2
  | 0, i, cs, ds, cs', ds', b, h1, h2, he, w2 => by
    cases hc : cs.drop i with
    | nil => cases hd : ds.drop i with
      | nil => rw [hc, hd] at he; simp [aeqK] at he; subst he; simp [Op.eqItems]
      | cons x l => rw [hc, hd] at he; simp [aeqK] at he
    | cons x l => rw [hc] at he; simp [aeqK] at he
  | m + 1, i, cs, ds, cs', ds', b, h1, h2, he, w2 => by
    have part : ∀ (es : List VV) (es' : Array Value) (x : VV) (l : List VV), LRel σ es es'.toList → es.drop i = x :: l → l = es.drop (i + 1) ∧ ∃ u, VRel σ x u ∧ ∀ w2, (part e es' i).run P w2 = .ok u w2 := by
      intro es es' x l hr hd
      have hi : i < es.length := by
        rcases Nat.lt_or_ge i es.length with h | h
        · exact h
        · rw [List.drop_eq_nil_of_le h] at hd; cases hd
      rw [List.drop_eq_getElem_cons hi] at hd
      injection hd with hx hl
      obtain ⟨u, p1, p2⟩ := part_run (σ := σ) (v := x) hag hr (off := i) (by simp [partOf, hi, hx])
      exact ⟨hl.symm, u, p1, p2⟩
    cases hc : cs.drop i with
    | nil => rw [hc] at he; simp [aeqK, List.replicate_succ] at he
    | cons x l =>
      cases hd : ds.drop i with
      | nil => rw [hc, hd] at he; cases x <;> simp [aeqK, List.replicate_succ] at he
      | cons y mm =>
        rw [hc, hd] at he
        cases x <;> cases y <;> simp [aeqK, List.replicate_succ] at he
        rename_i k1 n1 k2 n2
        obtain ⟨hkk, he⟩ := he
        subst hkk
        cases haq : aeqK (List.replicate m 0) l mm with
        | none => rw [haq] at he; simp at he
        | some b' =>
          rw [haq] at he; simp at he
          obtain ⟨e1, u, p1, p2⟩ := part cs cs' _ l h1 hc
          obtain ⟨e2, u2, p3, p4⟩ := part ds ds' _ mm h2 hd
          have ih := items_run (d := d) hu hag m (i + 1) cs ds cs' ds' b' h1 h2 (by rw [← e1, ← e2]; exact haq) w2
          rw [int_inv p1] at p2
          rw [int_inv p3] at p4
          simp only [List.range'_succ, Op.eqItems, Nat.mul_one, Sem.run_bind, p2, p4, Result.andThen_ok, run_equalIn_int w2 d e k1 k n1 n2 hu, Sem.run_ite, Sem.run_pure]
          subst he
          cases hq : n1 == n2 with
          | true => simpa using ih
          | false => rfl
theorem read_aeqA {neg : Bool} {t t' : TypeId} {ks : List Nat} {x y : Operand} {x' y' : Od} (ho : o.op = .binOp (if neg then .neq else .eql) t x y t') (ht : arrKinds P t = some ks) (hx : compOd x = some x') (hy : compOd y = some y')
    (hF : FRel σ N E a) (he : (VOp.aeq neg ks x' y').ev E H.g = some v) : ReadOk P σ w a o v := by
  simp only [VOp.ev] at he
  cases h1 : x'.ev E with
  | none => simp [h1] at he
  | some u =>
    cases h2 : y'.ev E with
    | none => cases u <;> simp [h1, h2] at he
    | some u2 =>
      have r1 := compOd_ok hx hF h1
      have r2 := compOd_ok hy hF h2
      cases u <;> simp [h1, h2] at he
      rename_i cs
      cases u2 <;> simp at he
      rename_i ds
      cases haq : aeqK ks cs ds with
      | none => simp [haq] at he
      | some b =>
        simp [haq] at he
        obtain ⟨cs', e1, l1⟩ := agg_inv r1
        obtain ⟨ds', e2, l2⟩ := agg_inv r2
        unfold arrKinds at ht
        split at ht
        case h_2 => cases ht
        rename_i n e hu
        split at ht
        case isFalse => cases ht
        rename_i hg
        obtain ⟨hb, hg2⟩ := hg
        simp at ht; subst ht
        have hel : P.underlying e = some (.int .u8) ∧ ∃ i, P.info? e = some i ∧ i.size = 1 := by
          unfold bytesArr at hb
          rw [hu] at hb
          simp only at hb
          split at hb
          · rename_i i h3 h4; exact ⟨h3, i, h4, Nat.eq_of_beq_eq_true hb⟩
          · cases hb
        obtain ⟨hue, i, hi, his⟩ := hel
        have hag : aggOf P e = some (1, false) := by simp [aggOf, hi, hue, his]
        have hce : P.cellsOf e = 1 := by simp [Program.cellsOf, hi, his]
        have run : ∀ w2, (Op.equalIn 10000 t (.agg cs') (.agg ds')).run P w2 = .ok b w2 := fun w2 => by
          rw [run_equalIn_array w2 9999 cs' ds' hu hi, hce, List.range_eq_range']
          exact items_run (d := 9998) hue hag n 0 cs ds cs' ds' b l1 l2 (by simpa using haq) w2
        subst he
        cases neg with
        | false =>
          refine .of (.bool _) fun w2 _ => ?_
          simp only [Bool.false_eq_true, if_false] at ho
          simp only [execOp, ho, e1, e2, Sem.run_bind, run_eqGuard_agg w2 _ t x y cs' ds' hg2, Result.andThen_ok, run_eql_struct, run, Sem.run_pure, Bool.false_eq_true, if_false]
        | true =>
          refine .of (.bool _) fun w2 _ => ?_
          simp only [if_true] at ho
          simp only [execOp, ho, e1, e2, Sem.run_bind, run_eqGuard_agg w2 _ t x y cs' ds' hg2, Result.andThen_ok, run_neq_struct, run, Sem.run_pure, if_true]

theorem read_ok {vo : VOp} (hc : compRead P o.op = some vo) (hH : HRel P σ B H w) (hF : FRel σ N E a) (he : vo.ev E H.g = some v) : ReadOk P σ w a o v := by
  unfold compRead at hc
  split at hc
  case h_1 x ho | h_2 x ho =>
    cases h1 : compOd x with
    | none => simp [h1] at hc
    | some y => simp [h1] at hc; subst hc; exact read_mv (by first | exact .inl ho | exact .inr ho) h1 hF he
  case h_3 c x y ho =>
    split at hc
    · simp at hc; subst hc; exact read_pick ho (by assumption) (by assumption) (by assumption) hF he
    · cases hc
  case h_4 t x ho =>
    split at hc
    · split at hc
      · rename_i hb
        simp at hc; subst hc; exact read_lda ho (by assumption) hb (by assumption) hH hF he
      · simp at hc; subst hc; exact read_load ho (by assumption) (by assumption) hH hF he
    · cases hc
  case h_5 x ho =>
    cases h1 : compOd x with
    | none => simp [h1] at hc
    | some y => simp [h1] at hc; subst hc; exact read_nilck ho h1 hF he
  case h_6 op t x y t' ho =>
    split at hc
    case h_2 => cases hc
    rename_i x' y' hx hy
    split at hc
    · simp at hc; subst hc; exact read_beq (neg := false) (by simpa using ho) (by assumption) hx hy hF he
    · simp at hc; subst hc; exact read_beq (neg := true) (by simpa using ho) (by assumption) hx hy hF he
    · split at hc
      · simp at hc; subst hc; exact read_aeq (neg := false) (by simpa using ho) (by assumption) hx hy hF he
      · cases hc
    · split at hc
      · simp at hc; subst hc; exact read_aeq (neg := true) (by simpa using ho) (by assumption) hx hy hF he
      · cases hc
    · split at hc
      · simp at hc; subst hc; exact read_aeqA (neg := false) (by simpa using ho) (by assumption) hx hy hF he
      · cases hc
    · split at hc
      · simp at hc; subst hc; exact read_aeqA (neg := true) (by simpa using ho) (by assumption) hx hy hF he
      · cases hc
    · simp at hc; subst hc; exact read_sh (left := true) (by simpa using ho) hx hy hF he
    · simp at hc; subst hc; exact read_sh (left := false) (by simpa using ho) hx hy hF he
    · simp at hc; subst hc; exact read_bin ho (by intro h; simp_all) (by intro h; simp_all) hx hy hF he
    · simp at hc; subst hc; exact read_seq ho hx hy hF he
    · split at hc
      · simp at hc; subst hc; exact read_neq (kd := 0) (ng := false) (by simpa using ho) ⟨_, by assumption, by assumption⟩ (fun h => by cases h) hx hy hH hF he
      · cases hc
    · simp at hc; subst hc; exact read_neq (kd := 1) (ng := false) (by simpa using ho) ⟨_, by assumption⟩ (fun h => by cases h) hx hy hH hF he
    · simp at hc; subst hc; exact read_neq (kd := 2) (ng := false) (by simpa using ho) ⟨_, _, by assumption⟩ (fun h => by cases h) hx hy hH hF he
    · split at hc
      · simp at hc; subst hc; exact read_neq (kd := 3) (ng := false) (by simpa using ho) ⟨_, by assumption⟩ (fun _ => by assumption) hx hy hH hF he
      · cases hc
    · simp at hc; subst hc; exact read_neq (kd := 4) (ng := false) (by simpa using ho) ⟨_, _, _, by assumption⟩ (fun h => by cases h) hx hy hH hF he
    · split at hc
      · simp at hc; subst hc; exact read_neq (kd := 0) (ng := true) (by simpa using ho) ⟨_, by assumption, by assumption⟩ (fun h => by cases h) hx hy hH hF he
      · cases hc
    · simp at hc; subst hc; exact read_neq (kd := 1) (ng := true) (by simpa using ho) ⟨_, by assumption⟩ (fun h => by cases h) hx hy hH hF he
    · simp at hc; subst hc; exact read_neq (kd := 2) (ng := true) (by simpa using ho) ⟨_, _, by assumption⟩ (fun h => by cases h) hx hy hH hF he
    · split at hc
      · simp at hc; subst hc; exact read_neq (kd := 3) (ng := true) (by simpa using ho) ⟨_, by assumption⟩ (fun _ => by assumption) hx hy hH hF he
      · cases hc
    · simp at hc; subst hc; exact read_neq (kd := 4) (ng := true) (by simpa using ho) ⟨_, _, _, by assumption⟩ (fun h => by cases h) hx hy hH hF he
    · cases hc
  case h_7 t x ho =>
    cases h1 : compOd x with
    | none => simp [h1] at hc
    | some y => simp [h1] at hc; subst hc; exact read_not ho h1 hF he
  case h_8 t x ho =>
    cases h1 : compOd x with
    | none => simp [h1] at hc
    | some y => simp [h1] at hc; subst hc; exact read_neg ho h1 hF he
  case h_9 s d x ho =>
    split at hc
    · simp at hc; subst hc; exact read_conv ho (by assumption) (by assumption) (by assumption) hF he
    · simp at hc; subst hc; exact read_chr ho (by assumption) (by assumption) (by assumption) hF he
    · split at hc
      · simp at hc; subst hc; exact read_bstr ho (by assumption) (by assumption) (by assumption) (by assumption) hH hF he
      · cases hc
    · cases hc
  case h_10 f first caps ho =>
    split at hc
    · split at hc
      · simp at hc; subst hc; exact read_mkfn ho (by assumption) (by assumption) hF he
      · cases hc
    · cases hc
  case h_11 s x f ho =>
    split at hc
    · split at hc
      · split at hc
        · cases hc
        · simp at hc; subst hc; exact read_faddr ho (by assumption) (by assumption) (by assumption) (by assumption) hF he
      · cases hc
    · cases hc
  case h_12 s x f ho =>
    split at hc
    · split at hc
      · simp at hc; subst hc; exact read_fld ho (by assumption) (by assumption) (by assumption) hF he
      · cases hc
    · cases hc
  case h_13 t x i ho =>
    split at hc
    · split at hc
      · simp at hc; subst hc; exact read_ixa ho (by assumption) (by assumption) (by assumption) (by assumption) hH hF he
      · cases hc
    · split at hc
      · simp at hc; subst hc; exact read_ixar ho (by assumption) (by assumption) (by assumption) (by assumption) hH hF he
      · cases hc
    · cases hc
  case h_14 x i ho =>
    cases h1 : compOd x with
    | none => simp [h1] at hc
    | some y => simp [h1] at hc; subst hc; exact read_ext ho h1 hF he
  case h_15 t ps ho =>
    split at hc
    · split at hc
      · split at hc
        · simp at hc; subst hc; exact read_build_struct ho (by assumption) (by assumption) (by assumption) (by assumption) hF he
        · cases hc
      · cases hc
    · split at hc
      · split at hc
        · simp at hc; subst hc; exact read_build_array ho (by assumption) (by assumption) (by assumption) (by assumption) hF he
        · cases hc
      · cases hc
    · cases hc
  case h_16 t x lo hi mx ho =>
    split at hc
    · split at hc
      · cases hc
      · rename_i hno
        split at hc
        · simp at hc; subst hc
          exact read_slc ho (by assumption) (by assumption) (by assumption) (by assumption) (by assumption) (by assumption) (by intro h; simp [h] at hno; exact Option.isSome_iff_ne_none.2 hno) hH hF he
        · cases hc
    · simp at hc; subst hc; exact read_slstr ho (by assumption) (by assumption) (by assumption) (by assumption) (by assumption) hF he
    · cases hc
  case h_17 t x i ho =>
    split at hc
    · simp at hc; subst hc; exact read_ixs ho (by assumption) (by assumption) (by assumption) hF he
    · cases hc
  case h_18 t x k ok ho =>
    split at hc
    · split at hc
      · simp at hc; subst hc; exact read_lkp ho (by assumption) (by assumption) (by assumption) (by assumption) (by assumption) hH hF he
      · cases hc
    · cases hc
  case h_19 x ho =>
    cases h1 : compOd x with
    | none => simp [h1] at hc
    | some y => simp [h1] at hc; subst hc; exact read_ent ho h1 hH hF he
  case h_20 c ho =>
    split at hc
    · split at hc
      · simp at hc; subst hc; exact read_lens ho (by assumption) (by assumption) (by assumption) (by assumption) (by assumption) hF he
      · simp at hc; subst hc; exact read_lent ho (by assumption) (by assumption) (by assumption) (by assumption) (by assumption) hF he
      · simp at hc; subst hc; exact read_lenm ho (by assumption) (by assumption) (by assumption) (by assumption) (by assumption) hH hF he
      · cases hc
    · split at hc
      · simp at hc; subst hc; exact read_capm ho (by assumption) (by assumption) (by assumption) (by assumption) (by assumption) hH hF he
      · cases hc
    · split at hc
      · simp at hc; subst hc; exact read_min ho (by assumption) (by assumption) (by assumption) (by assumption) hF he
      · cases hc
    · split at hc
      · simp at hc; subst hc; exact read_max ho (by assumption) (by assumption) (by assumption) (by assumption) hF he
      · cases hc
    · split at hc
      · split at hc
        · simp at hc; subst hc; exact read_ixb ho (by assumption) (by assumption) (by assumption) (by assumption) (by assumption) hF he
        · cases hc
      · cases hc
    · cases hc
  case h_21 t x ho =>
    split at hc
    · cases hc
    · simp at hc; subst hc; exact read_mki ho (by assumption) (by assumption) (by assumption) hF he
    · cases hc
  case h_22 t x ho =>
    split at hc
    · simp at hc; subst hc; exact read_s2a ho (by assumption) (by assumption) hF he
    · cases hc
  · cases hc
end
end Go.Wm
