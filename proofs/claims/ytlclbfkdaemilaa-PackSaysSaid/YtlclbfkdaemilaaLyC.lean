/- Laying rows: what the lists become, and the blocks that hold them. -/
import Derived.Test.YtlclbfkdaemilaaLyB
namespace Go.Proofs.Ytlclbfkdaemilaa
set_option linter.unusedSimpArgs false
set_option linter.unusedVariables false
open Go Go.Vm Go.Proofs
set_option maxRecDepth 100000
set_option maxHeartbeats 1000000

/-! ### what is laid -/
def hit (o : List Int) (b : Int) (e : Int × Int) : Bool := decide (b + e.1 < o.length) && decide (0 ≤ o.getD (b + e.1).toNat 0)
def fitsB (o : List Int) (l : Edges) (b : Int) : Bool := !l.any (hit o b)
/-- the first base that fits, at most so many steps on -/
def fitAt (o : List Int) (l : Edges) : Nat → Int → Int
  | 0, b => b
  | n + 1, b => if fitsB o l b then b else fitAt o l n (b + 1)
def baseS (o : List Int) (l : Edges) : Int := fitAt o l o.length 0
def pad (l : List Int) (k : Nat) (d : Int) : List Int := l ++ List.replicate (k + 1 - l.length) d
def place (b i : Int) (ov : List Int × List Int) (e : Int × Int) : List Int × List Int :=
  ((pad ov.1 (b + e.1).toNat (-1)).set (b + e.1).toNat i, (pad ov.2 (b + e.1).toNat 0).set (b + e.1).toNat e.2)
structure Laid where
  bs : List Int
  o : List Int
  v : List Int
def putS (s : Laid) (i : Nat) (l : Edges) : Laid :=
  ⟨s.bs.set i (baseS s.o l), (l.foldl (place (baseS s.o l) i) (s.o, s.v)).1, (l.foldl (place (baseS s.o l) i) (s.o, s.v)).2⟩
/-- all places lie in [0, 256) -/
def Ok (l : Edges) : Prop := ∀ e ∈ l, 0 ≤ e.1 ∧ e.1 < 256

theorem scan_ok : ∀ {l : Edges} {seen : Nat → Bool}, scan seen l = true → Ok l
  | [], _, _ => by intro e he; cases he
  | x :: r, seen, h => by
    unfold scan at h
    split at h
    · cases h
    · split at h
      · cases h
      · split at h
        · cases h
        · intro e he
          rcases List.mem_cons.1 he with rfl | he
          · omega
          · exact scan_ok h e he
theorem isRow_ok {l : Edges} (h : isRowS l = true) : Ok l := scan_ok h
theorem fitsB_far {o : List Int} {l : Edges} {b : Int} (hl : Ok l) (hb : o.length ≤ b) : fitsB o l b = true := by
  unfold fitsB
  rw [Bool.not_eq_true', List.any_eq_false]
  intro e he
  have := hl e he
  simp [hit]
  omega
theorem fitAt_le {o : List Int} {l : Edges} (hl : Ok l) : ∀ (n : Nat) (b : Int), o.length ≤ b + n → b ≤ o.length → b ≤ fitAt o l n b ∧ fitAt o l n b ≤ o.length
  | 0, b, h, h2 => by simp only [fitAt]; omega
  | n + 1, b, h, h2 => by
    unfold fitAt
    by_cases hb : (o.length : Int) ≤ b
    · rw [if_pos (fitsB_far hl hb)]; omega
    · split
      · omega
      · have := fitAt_le (o := o) hl n (b + 1) (by omega) (by omega); omega
theorem baseS_le {o : List Int} {l : Edges} (hl : Ok l) : 0 ≤ baseS o l ∧ baseS o l ≤ o.length := fitAt_le hl _ _ (by omega) (by omega)
theorem fitAt_step {o : List Int} {l : Edges} {n : Nat} {b : Int} (h : fitsB o l b = false) : fitAt o l (n + 1) b = fitAt o l n (b + 1) := by
  show (if fitsB o l b then b else _) = _
  rw [if_neg (by simp [h])]
theorem fitAt_stop {o : List Int} {l : Edges} {n : Nat} {b : Int} (h : fitsB o l b = true) : fitAt o l n b = b := by
  cases n with
  | zero => rfl
  | succ n => show (if fitsB o l b then b else _) = _; rw [if_pos h]
theorem pad_len (l : List Int) (k : Nat) (d : Int) : (pad l k d).length = if k < l.length then l.length else k + 1 := by
  unfold pad; simp; split <;> omega
theorem pad_of_lt {l : List Int} {k : Nat} {d : Int} (h : k < l.length) : pad l k d = l := by
  unfold pad; rw [show k + 1 - l.length = 0 by omega]; simp
theorem pad_push {l : List Int} {k : Nat} {d : Int} (h : l.length ≤ k) : pad (l ++ [d]) k d = pad l k d := by
  unfold pad
  rw [List.length_append, List.length_singleton, List.append_assoc]
  congr 1
  rw [show k + 1 - l.length = (k + 1 - (l.length + 1)) + 1 by omega, List.replicate_succ]
  rfl
theorem place_len {b i : Int} {ov : List Int × List Int} {e : Int × Int} (h : ov.1.length = ov.2.length) : (place b i ov e).1.length = (place b i ov e).2.length ∧ (place b i ov e).1.length = (if (b + e.1).toNat < ov.1.length then ov.1.length else (b + e.1).toNat + 1) := by
  unfold place
  simp only [List.length_set, pad_len, h]
  exact ⟨trivial, trivial⟩
theorem places_len {b i : Int} : ∀ (l : Edges) (ov : List Int × List Int), Ok l → ov.1.length = ov.2.length → ∀ (N : Nat), 0 ≤ b → b + 256 ≤ N → ov.1.length ≤ N → (l.foldl (place b i) ov).1.length = (l.foldl (place b i) ov).2.length ∧ (l.foldl (place b i) ov).1.length ≤ N
  | [], ov, _, h, N, _, _, h2 => ⟨h, h2⟩
  | e :: l, ov, hl, h, N, hb, hN, h2 => by
    have he := hl e (List.mem_cons_self ..)
    obtain ⟨q1, q2⟩ := place_len (b := b) (i := i) (e := e) h
    exact places_len l (place b i ov e) (fun e he => hl e (List.mem_cons_of_mem _ he)) q1 N hb hN (by rw [q2]; split <;> omega)
theorem putS_len {s : Laid} {i : Nat} {l : Edges} (hl : Ok l) (h : s.o.length = s.v.length) : (putS s i l).o.length = (putS s i l).v.length ∧ (putS s i l).o.length ≤ s.o.length + 256 ∧ (putS s i l).bs.length = s.bs.length := by
  have hb := baseS_le (o := s.o) hl
  obtain ⟨q1, q2⟩ := places_len (b := baseS s.o l) (i := i) l (s.o, s.v) hl h (s.o.length + 256) hb.1 (by omega) (by simp)
  exact ⟨q1, q2, by simp [putS]⟩

/-! ### the blocks -/
def Grow (H : Hp) (x : VV) (i : Option Nat) (l : List Int) : Prop :=
  match i with
  | none => x = .sl none 0 0 ∧ l = []
  | some i => x = .sl (some ⟨i, 0, 0⟩) l.length l.length ∧ H[i]? = some (.row 3 .loose (intEs l)) ∧ l ≠ []
def gptr : Option Nat → Option PA
  | none => none
  | some i => some ⟨i, 0, 0⟩
section
variable {H : Hp} {x : VV} {i : Option Nat} {l : List Int}
theorem Grow.eq (h : Grow H x i l) : x = .sl (gptr i) l.length l.length := by
  cases i with
  | none => obtain ⟨rfl, rfl⟩ := h; rfl
  | some i => exact h.1
theorem Grow.sl (h : Grow H x i l) : Sl H (gptr i) 1 (intEs l) := by
  cases i with
  | none => obtain ⟨rfl, rfl⟩ := h; exact .inl rfl
  | some i =>
    refine .inr ⟨i, 0, .loose, 3, intEs l, rfl, h.2.1, fun e he => ?_, fun k e he => by simpa using he⟩
    obtain ⟨n, _, rfl⟩ := List.mem_map.1 he; rfl
theorem Grow.keep (h : Grow H x i l) {H' : Hp} (hk : ∀ k, i = some k → H'[k]? = H[k]?) : Grow H' x i l := by
  cases i with
  | none => exact h
  | some i => exact ⟨h.1, by rw [hk i rfl]; exact h.2.1, h.2.2⟩
end
def kill (H : Hp) : Option Nat → Hp
  | none => H
  | some i => H.set i .dead
theorem kill_len (H : Hp) (i : Option Nat) : (kill H i).length = H.length := by cases i <;> simp [kill]
theorem kill_off {H : Hp} {i : Option Nat} {k : Nat} (h : i ≠ some k) : (kill H i)[k]? = H[k]? := by
  cases i with
  | none => rfl
  | some i => unfold kill; rw [List.getElem?_set_ne (fun e => h (by rw [e]))]

/-- an append of one int that has no room -/
theorem Grow.push {H : Hp} {x : VV} {i : Option Nat} {l : List Int} (h : Grow H x i l) (hl : l.length ≤ 1000000) (d : Int) :
    srcEls (H ++ [.row 3 .own [[.int .i64 d]]]) 1 (.sl (some ⟨H.length, 0, 0⟩) 1 1) = some [[.int .i64 d]] ∧
    appV (H ++ [.row 3 .own [[.int .i64 d]]]) 3 1 8 (gptr i) l.length l.length [[.int .i64 d]] = some (.sl (some ⟨H.length + 1, 0, 0⟩) (l.length + 1) (l.length + 1), kill (H ++ [.row 3 .own [[.int .i64 d]]]) i ++ [.row 3 .loose (intEs (l ++ [d]))]) ∧
    Grow (kill (H ++ [.row 3 .own [[.int .i64 d]]]) i ++ [.row 3 .loose (intEs (l ++ [d]))]) (.sl (some ⟨H.length + 1, 0, 0⟩) (l.length + 1) (l.length + 1)) (some (H.length + 1)) (l ++ [d]) := by
  refine ⟨by simp [srcEls], ?_, ?_⟩
  · cases i with
    | none =>
      obtain ⟨rfl, rfl⟩ := h
      simp [appV, gptr, kill, intEs]
    | some i =>
      obtain ⟨rfl, hb, hne⟩ := h
      have hlt := get_lt hb
      have hb' : (H ++ [Blk.row 3 Mode.own [[VV.int .i64 d]]])[i]? = some (.row 3 .loose (intEs l)) := get_push hb _
      have hsrc : srcEls (H ++ [Blk.row 3 Mode.own [[VV.int .i64 d]]]) 1 (.sl (some ⟨i, 0, 0⟩) l.length l.length) = some (intEs l) := by
        cases l with
        | nil => exact absurd rfl hne
        | cons a l =>
          simp only [srcEls, hb', intEs, List.map_cons, List.length_cons]
          rw [if_neg (by omega), if_pos (by simp)]
          simp [List.take_of_length_le]
      have hhd : (intEs l).head?.map List.length = some 1 := by
        cases l with
        | nil => exact absurd rfl hne
        | cons a l => rfl
      unfold appV
      simp only [gptr, List.length_singleton]
      rw [if_neg (by omega), if_pos (by omega)]
      simp only [hb', hsrc, hhd, if_true, and_self, kill]
      simp [intEs]
  · refine ⟨by simp, ?_, by simp⟩
    rw [List.getElem?_append_right (by rw [kill_len]; simp), kill_len]
    simp

/-- edges in blocks of their own stay -/
def Kept (H H' : Hp) : Prop := ∀ (k : Nat) (e : List (List VV)), H[k]? = some (.row 42 .own e) → H'[k]? = some (.row 42 .own e)
theorem Kept.trans {A B C : Hp} (h : Kept A B) (k : Kept B C) : Kept A C := fun i e he => k i e (h i e he)
structure Comb (t0 : TypeId) (H0 H : Hp) (ic ib : Nat) (iv io : Option Nat) (s : Laid) : Prop where
  ext : Ext H0 H
  box : H[ic]? = some (.row t0 .own [[.sl (some ⟨ib, 0, 0⟩) s.bs.length s.bs.length, .sl (gptr iv) s.v.length s.v.length, .sl (gptr io) s.o.length s.o.length]])
  bas : H[ib]? = some (.row 3 .own (intEs s.bs))
  gv : Grow H (.sl (gptr iv) s.v.length s.v.length) iv s.v
  go : Grow H (.sl (gptr io) s.o.length s.o.length) io s.o
  lc : H0.length ≤ ic
  lb : H0.length ≤ ib
  lv : ∀ k, iv = some k → H0.length ≤ k
  lo : ∀ k, io = some k → H0.length ≤ k
  ne : ∀ k, iv = some k → io ≠ some k

section
variable {t0 : TypeId} {H0 H : Hp} {ic ib : Nat} {iv io : Option Nat} {s : Laid}
theorem Comb.ld2 (h : Comb t0 H0 H ic ib iv io s) : Vm.ld H ⟨ic, 0, 2⟩ = some (.sl (gptr io) s.o.length s.o.length) := by simp [Vm.ld, h.box]
theorem Comb.ld1 (h : Comb t0 H0 H ic ib iv io s) : Vm.ld H ⟨ic, 0, 1⟩ = some (.sl (gptr iv) s.v.length s.v.length) := by simp [Vm.ld, h.box]
theorem Comb.ld0 (h : Comb t0 H0 H ic ib iv io s) : Vm.ld H ⟨ic, 0, 0⟩ = some (.sl (some ⟨ib, 0, 0⟩) s.bs.length s.bs.length) := by simp [Vm.ld, h.box]
theorem Comb.lds (h : Comb t0 H0 H ic ib iv io s) : Vm.lds H ⟨ic, 0, 0⟩ 3 = some [.sl (some ⟨ib, 0, 0⟩) s.bs.length s.bs.length, .sl (gptr iv) s.v.length s.v.length, .sl (gptr io) s.o.length s.o.length] := by simp [Vm.lds, h.box]
theorem Comb.push (h : Comb t0 H0 H ic ib iv io s) (G : Hp) : Comb t0 H0 (H ++ G) ic ib iv io s :=
  ⟨h.ext.push G, get_push h.box G, get_push h.bas G, h.gv.keep fun k hk => by subst hk; rw [List.getElem?_append_left (get_lt h.gv.2.1)], h.go.keep fun k hk => by subst hk; rw [List.getElem?_append_left (get_lt h.go.2.1)], h.lc, h.lb, h.lv, h.lo, h.ne⟩
theorem Comb.nec (h : Comb t0 H0 H ic ib iv io s) (ht : t0 ≠ 3) : ic ≠ ib ∧ (∀ k, iv = some k → k ≠ ic ∧ k ≠ ib) ∧ (∀ k, io = some k → k ≠ ic ∧ k ≠ ib) := by
  refine ⟨fun e => ?_, fun k hk => ⟨fun e => ?_, fun e => ?_⟩, fun k hk => ⟨fun e => ?_, fun e => ?_⟩⟩
  · have := h.bas; rw [← e, h.box] at this; simp at this; exact ht this.1
  · subst hk e; have := h.gv.2.1; rw [h.box] at this; simp at this
  · subst hk e; have := h.gv.2.1; rw [h.bas] at this; simp at this
  · subst hk e; have := h.go.2.1; rw [h.box] at this; simp at this
  · subst hk e; have := h.go.2.1; rw [h.bas] at this; simp at this
theorem Ext.kill {A B : Hp} (h : Ext A B) {i : Option Nat} (hi : ∀ k, i = some k → A.length ≤ k) : Ext A (kill B i) := by
  cases i with
  | none => exact h
  | some i => exact Ext.set h (hi i rfl) _

/-- one more owner: none -/
theorem Comb.pushO (h : Comb t0 H0 H ic ib iv io s) (ht : t0 ≠ 3) (ht2 : t0 ≠ 42) (hl : s.o.length ≤ 1000000) (d : Int) :
    ∃ H2 H3, srcEls (H ++ [.row 3 .own [[.int .i64 d]]]) 1 (.sl (some ⟨H.length, 0, 0⟩) 1 1) = some [[.int .i64 d]] ∧
      appV (H ++ [.row 3 .own [[.int .i64 d]]]) 3 1 8 (gptr io) s.o.length s.o.length [[.int .i64 d]] = some (.sl (some ⟨H.length + 1, 0, 0⟩) (s.o.length + 1) (s.o.length + 1), H2) ∧
      stc H2 ⟨ic, 0, 2⟩ [.sl (some ⟨H.length + 1, 0, 0⟩) (s.o.length + 1) (s.o.length + 1)] = some H3 ∧ Comb t0 H0 H3 ic ib iv (some (H.length + 1)) ⟨s.bs, s.o ++ [d], s.v⟩ ∧ Kept H H3 := by
  obtain ⟨n1, n2, n3⟩ := h.nec ht
  obtain ⟨a1, a2, a3⟩ := h.go.push hl d
  have h1 := h.push [.row 3 .own [[.int .i64 d]]]
  have hge := h.ext.1
  have off : ∀ k, k < (H ++ [Blk.row 3 Mode.own [[VV.int .i64 d]]]).length → io ≠ some k → (kill (H ++ [Blk.row 3 Mode.own [[VV.int .i64 d]]]) io ++ [.row 3 .loose (intEs (s.o ++ [d]))])[k]? = (H ++ [Blk.row 3 Mode.own [[VV.int .i64 d]]])[k]? := fun k hk hne => by
    rw [List.getElem?_append_left (by rw [kill_len]; exact hk), kill_off hne]
  have e2 : Ext H0 (kill (H ++ [Blk.row 3 Mode.own [[VV.int .i64 d]]]) io ++ [.row 3 .loose (intEs (s.o ++ [d]))]) := (Ext.kill h1.ext h.lo).push _
  have b2 := (off ic (get_lt h1.box) (fun e => (n3 _ e).1 rfl)).trans h1.box
  have c2 := (off ib (get_lt h1.bas) (fun e => (n3 _ e).2 rfl)).trans h1.bas
  have g2 : Grow (kill (H ++ [Blk.row 3 Mode.own [[VV.int .i64 d]]]) io ++ [.row 3 .loose (intEs (s.o ++ [d]))]) (.sl (gptr iv) s.v.length s.v.length) iv s.v := h1.gv.keep fun k hk => by
    subst hk; exact off k (get_lt h1.gv.2.1) (h.ne k rfl)
  have kp : Kept H (kill (H ++ [Blk.row 3 Mode.own [[VV.int .i64 d]]]) io ++ [.row 3 .loose (intEs (s.o ++ [d]))]) := fun k e he => by
    rw [off k (by have := get_lt he; simp; omega) (fun e2 => by subst e2; have := h.go.2.1; rw [he] at this; simp at this)]
    exact get_push he _
  generalize kill (H ++ [Blk.row 3 Mode.own [[VV.int .i64 d]]]) io ++ [.row 3 .loose (intEs (s.o ++ [d]))] = H2 at *
  refine ⟨H2, H2.set ic (.row t0 .own [[.sl (some ⟨ib, 0, 0⟩) s.bs.length s.bs.length, .sl (gptr iv) s.v.length s.v.length, .sl (some ⟨H.length + 1, 0, 0⟩) (s.o.length + 1) (s.o.length + 1)]]), a1, a2, ?_, ?_⟩
  · simp [stc, b2, okCells, VV.cell, upd]
  · have hic : H.length + 1 ≠ ic := by have := get_lt h.box; omega
    refine ⟨⟨e2.set h.lc _, ?_, ?_, ?_, ?_, h.lc, h.lb, h.lv, fun k hk => ?_, fun k hk e => ?_⟩, fun k e he => get_ne (kp k e he) (fun e2 => by subst e2; have := h.box; rw [he] at this; simp at this; exact ht2 this.1.symm)⟩
    · rw [List.getElem?_set_self (get_lt b2)]; simp [gptr]
    · exact get_ne c2 n1
    · exact g2.keep fun k hk => List.getElem?_set_ne (fun e => (n2 k hk).1 e.symm)
    · have := a3.keep (H' := H2.set ic (.row t0 .own [[.sl (some ⟨ib, 0, 0⟩) s.bs.length s.bs.length, .sl (gptr iv) s.v.length s.v.length, .sl (some ⟨H.length + 1, 0, 0⟩) (s.o.length + 1) (s.o.length + 1)]])) (fun k hk => by
        simp at hk; subst hk; exact List.getElem?_set_ne (Ne.symm hic))
      simpa [gptr] using this
    · simp at hk; subst hk; omega
    · simp at e; subst hk; have := get_lt h.gv.2.1; omega
/-- one more value: zero -/
theorem Comb.pushV (h : Comb t0 H0 H ic ib iv io s) (ht : t0 ≠ 3) (ht2 : t0 ≠ 42) (hl : s.v.length ≤ 1000000) (d : Int) :
    ∃ H2 H3, srcEls (H ++ [.row 3 .own [[.int .i64 d]]]) 1 (.sl (some ⟨H.length, 0, 0⟩) 1 1) = some [[.int .i64 d]] ∧
      appV (H ++ [.row 3 .own [[.int .i64 d]]]) 3 1 8 (gptr iv) s.v.length s.v.length [[.int .i64 d]] = some (.sl (some ⟨H.length + 1, 0, 0⟩) (s.v.length + 1) (s.v.length + 1), H2) ∧
      stc H2 ⟨ic, 0, 1⟩ [.sl (some ⟨H.length + 1, 0, 0⟩) (s.v.length + 1) (s.v.length + 1)] = some H3 ∧ Comb t0 H0 H3 ic ib (some (H.length + 1)) io ⟨s.bs, s.o, s.v ++ [d]⟩ ∧ Kept H H3 := by
  obtain ⟨n1, n2, n3⟩ := h.nec ht
  obtain ⟨a1, a2, a3⟩ := h.gv.push hl d
  have h1 := h.push [.row 3 .own [[.int .i64 d]]]
  have hge := h.ext.1
  have off : ∀ k, k < (H ++ [Blk.row 3 Mode.own [[VV.int .i64 d]]]).length → iv ≠ some k → (kill (H ++ [Blk.row 3 Mode.own [[VV.int .i64 d]]]) iv ++ [.row 3 .loose (intEs (s.v ++ [d]))])[k]? = (H ++ [Blk.row 3 Mode.own [[VV.int .i64 d]]])[k]? := fun k hk hne => by
    rw [List.getElem?_append_left (by rw [kill_len]; exact hk), kill_off hne]
  have e2 : Ext H0 (kill (H ++ [Blk.row 3 Mode.own [[VV.int .i64 d]]]) iv ++ [.row 3 .loose (intEs (s.v ++ [d]))]) := (Ext.kill h1.ext h.lv).push _
  have b2 := (off ic (get_lt h1.box) (fun e => (n2 _ e).1 rfl)).trans h1.box
  have c2 := (off ib (get_lt h1.bas) (fun e => (n2 _ e).2 rfl)).trans h1.bas
  have g2 : Grow (kill (H ++ [Blk.row 3 Mode.own [[VV.int .i64 d]]]) iv ++ [.row 3 .loose (intEs (s.v ++ [d]))]) (.sl (gptr io) s.o.length s.o.length) io s.o := h1.go.keep fun k hk => by
    subst hk; exact off k (get_lt h1.go.2.1) (fun e => h.ne k e rfl)
  have kp : Kept H (kill (H ++ [Blk.row 3 Mode.own [[VV.int .i64 d]]]) iv ++ [.row 3 .loose (intEs (s.v ++ [d]))]) := fun k e he => by
    rw [off k (by have := get_lt he; simp; omega) (fun e2 => by subst e2; have := h.gv.2.1; rw [he] at this; simp at this)]
    exact get_push he _
  generalize kill (H ++ [Blk.row 3 Mode.own [[VV.int .i64 d]]]) iv ++ [.row 3 .loose (intEs (s.v ++ [d]))] = H2 at *
  refine ⟨H2, H2.set ic (.row t0 .own [[.sl (some ⟨ib, 0, 0⟩) s.bs.length s.bs.length, .sl (some ⟨H.length + 1, 0, 0⟩) (s.v.length + 1) (s.v.length + 1), .sl (gptr io) s.o.length s.o.length]]), a1, a2, ?_, ?_⟩
  · simp [stc, b2, okCells, VV.cell, upd]
  · have hic : H.length + 1 ≠ ic := by have := get_lt h.box; omega
    refine ⟨⟨e2.set h.lc _, ?_, ?_, ?_, ?_, h.lc, h.lb, fun k hk => ?_, h.lo, fun k hk e => ?_⟩, fun k e he => get_ne (kp k e he) (fun e2 => by subst e2; have := h.box; rw [he] at this; simp at this; exact ht2 this.1.symm)⟩
    · rw [List.getElem?_set_self (get_lt b2)]; simp [gptr]
    · exact get_ne c2 n1
    · have := a3.keep (H' := H2.set ic (.row t0 .own [[.sl (some ⟨ib, 0, 0⟩) s.bs.length s.bs.length, .sl (some ⟨H.length + 1, 0, 0⟩) (s.v.length + 1) (s.v.length + 1), .sl (gptr io) s.o.length s.o.length]])) (fun k hk => by
        simp at hk; subst hk; exact List.getElem?_set_ne (Ne.symm hic))
      simpa [gptr] using this
    · exact g2.keep fun k hk => List.getElem?_set_ne (fun e => (n3 k hk).1 e.symm)
    · simp at hk; subst hk; omega
    · simp at hk; subst e; have := get_lt h.go.2.1; omega

theorem intEs_set (l : List Int) (k : Nat) (x : Int) : (intEs l).set k [.int .i64 x] = intEs (l.set k x) := by simp [intEs, List.map_set]
theorem stc_int {H : Hp} {i : Nat} {md : Vm.Mode} {l : List Int} (hm : md ≠ .ro) (hb : H[i]? = some (.row 3 md (intEs l))) {k : Nat} (hk : k < l.length) (x : Int) :
    Vm.ixp H ⟨i, 0, 0⟩ k 1 = some ⟨i, k, 0⟩ ∧ stc H ⟨i, k, 0⟩ [.int .i64 x] = some (H.set i (.row 3 md (intEs (l.set k x)))) := by
  constructor
  · cases l with
    | nil => simp at hk
    | cons a l => simp [Vm.ixp, eszOf, hb, intEs, padd]
  · have he : (intEs l)[k]? = some [.int .i64 l[k]] := by rw [intEs_get]; simp [hk]
    simp only [stc, hb, he, if_neg hm]
    rw [if_pos (by simp [okCells, VV.cell])]
    simp only [upd, List.set_cons_zero, intEs_set]
theorem Comb.setO (h : Comb t0 H0 H ic ib iv io s) (ht : t0 ≠ 3) {k : Nat} (hk : k < s.o.length) (x : Int) :
    ∃ j H', gptr io = some ⟨j, 0, 0⟩ ∧ Vm.ixp H ⟨j, 0, 0⟩ k 1 = some ⟨j, k, 0⟩ ∧ stc H ⟨j, k, 0⟩ [.int .i64 x] = some H' ∧ Comb t0 H0 H' ic ib iv io ⟨s.bs, s.o.set k x, s.v⟩ ∧ Kept H H' := by
  obtain ⟨n1, n2, n3⟩ := h.nec ht
  cases io with
  | none => have := h.go.2; rw [this] at hk; simp at hk
  | some j =>
    obtain ⟨q1, q2⟩ := stc_int (md := .loose) (by decide) h.go.2.1 hk x
    refine ⟨j, _, rfl, q1, q2, ⟨h.ext.set (h.lo j rfl) _, ?_, ?_, ?_, ?_, h.lc, h.lb, h.lv, h.lo, h.ne⟩, fun k e he => get_ne he (fun e2 => by subst e2; have := h.go.2.1; rw [he] at this; simp at this)⟩
    · rw [get_ne h.box (n3 j rfl).1]; simp
    · exact get_ne h.bas (n3 j rfl).2
    · exact h.gv.keep fun k hk => List.getElem?_set_ne (fun e => h.ne k hk (by rw [e]))
    · exact ⟨by simp [gptr], by rw [List.getElem?_set_self (get_lt h.go.2.1)], by intro e; have := congrArg List.length e; simp at this; rw [this] at hk; simp at hk⟩
theorem Comb.setV (h : Comb t0 H0 H ic ib iv io s) (ht : t0 ≠ 3) {k : Nat} (hk : k < s.v.length) (x : Int) :
    ∃ j H', gptr iv = some ⟨j, 0, 0⟩ ∧ Vm.ixp H ⟨j, 0, 0⟩ k 1 = some ⟨j, k, 0⟩ ∧ stc H ⟨j, k, 0⟩ [.int .i64 x] = some H' ∧ Comb t0 H0 H' ic ib iv io ⟨s.bs, s.o, s.v.set k x⟩ ∧ Kept H H' := by
  obtain ⟨n1, n2, n3⟩ := h.nec ht
  cases iv with
  | none => have := h.gv.2; rw [this] at hk; simp at hk
  | some j =>
    obtain ⟨q1, q2⟩ := stc_int (md := .loose) (by decide) h.gv.2.1 hk x
    refine ⟨j, _, rfl, q1, q2, ⟨h.ext.set (h.lv j rfl) _, ?_, ?_, ?_, ?_, h.lc, h.lb, h.lv, h.lo, h.ne⟩, fun k e he => get_ne he (fun e2 => by subst e2; have := h.gv.2.1; rw [he] at this; simp at this)⟩
    · rw [get_ne h.box (n2 j rfl).1]; simp
    · exact get_ne h.bas (n2 j rfl).2
    · exact ⟨by simp [gptr], by rw [List.getElem?_set_self (get_lt h.gv.2.1)], by intro e; have := congrArg List.length e; simp at this; rw [this] at hk; simp at hk⟩
    · exact h.go.keep fun k hk => List.getElem?_set_ne (fun e => h.ne j rfl (by rw [e]; exact hk))
theorem Comb.setB (h : Comb t0 H0 H ic ib iv io s) (ht : t0 ≠ 3) {k : Nat} (hk : k < s.bs.length) (x : Int) :
    ∃ H', Vm.ixp H ⟨ib, 0, 0⟩ k 1 = some ⟨ib, k, 0⟩ ∧ stc H ⟨ib, k, 0⟩ [.int .i64 x] = some H' ∧ Comb t0 H0 H' ic ib iv io ⟨s.bs.set k x, s.o, s.v⟩ := by
  obtain ⟨n1, n2, n3⟩ := h.nec ht
  obtain ⟨q1, q2⟩ := stc_int (md := .own) (by decide) h.bas hk x
  refine ⟨_, q1, q2, h.ext.set h.lb _, ?_, ?_, ?_, ?_, h.lc, h.lb, h.lv, h.lo, h.ne⟩
  · rw [get_ne h.box (Ne.symm n1)]; simp
  · rw [List.getElem?_set_self (get_lt h.bas)]
  · exact h.gv.keep fun k hk => List.getElem?_set_ne (fun e => (n2 k hk).2 e.symm)
  · exact h.go.keep fun k hk => List.getElem?_set_ne (fun e => (n3 k hk).2 e.symm)
end
end Go.Proofs.Ytlclbfkdaemilaa
