/- The program's function for the number that stands most often: it counts in a map, and ranges over the map in whatever order. -/
import Derived.Test.YtlclbfkdaemilaaMoA
namespace Go.Proofs.Ytlclbfkdaemilaa
set_option linter.unusedSimpArgs false
set_option linter.unusedVariables false
open Go Go.Vm Go.Proofs
set_option maxRecDepth 100000
set_option maxHeartbeats 2000000

theorem beq_natCast (a b : Nat) : ((a : Int) == (b : Int)) = decide (a = b) := by
  by_cases h : a = b
  · subst h; simp
  · have h2 : ¬ (a : Int) = b := by omega
    rw [decide_eq_false h, beq_eq_false_iff_ne]; exact h2
/-- a map from ints to ints -/
def ents (us : List Int) (c : Int → Int) : List (VV × VV) := us.map fun u => (VV.int .i64 u, VV.int .i64 (c u))
theorem find_no {us : List Int} {c : Int → Int} {k : Int} (h : k ∉ us) : ∀ i, findV (.int .i64) (.int .i64 k) (ents us c) i = some none := by
  induction us with
  | nil => intro i; rfl
  | cons u us ih =>
    intro i
    have h1 : k ≠ u := fun e => h (by simp [e])
    show (if KK.is (.int .i64) (.int .i64 u) = true then (if KK.same (.int .i64 k) (.int .i64 u) = true then _ else findV _ _ (ents us c) (i + 1)) else none) = _
    rw [if_pos (by simp [KK.is]), if_neg (by simp [KK.same, h1]), ih (fun hm => h (by simp [hm]))]
theorem find_yes {c : Int → Int} {k : Int} : ∀ {us : List Int} {j : Nat}, us.Nodup → us[j]? = some k → ∀ i, findV (.int .i64) (.int .i64 k) (ents us c) i = some (some (i + j, .int .i64 (c k)))
  | [], j, _, h, i => by simp at h
  | u :: us, 0, hn, h, i => by
    simp at h; subst h
    show (if KK.is (.int .i64) (.int .i64 u) = true then (if KK.same (.int .i64 u) (.int .i64 u) = true then some (some (i, VV.int .i64 (c u))) else findV _ _ (ents us c) (i + 1)) else none) = _
    rw [if_pos (by simp [KK.is]), if_pos (by simp [KK.same])]; rfl
  | u :: us, j + 1, hn, h, i => by
    rw [List.nodup_cons] at hn
    simp at h
    have h1 : k ≠ u := fun e => hn.1 (by rw [← e]; exact List.mem_of_getElem? h)
    show (if KK.is (.int .i64) (.int .i64 u) = true then (if KK.same (.int .i64 k) (.int .i64 u) = true then _ else findV _ _ (ents us c) (i + 1)) else none) = _
    rw [if_pos (by simp [KK.is]), if_neg (by simp [KK.same, h1]), find_yes hn.2 h (i + 1)]
    congr 3; omega
theorem ents_set {us : List Int} {c : Int → Int} {k : Int} {j : Nat} (hn : us.Nodup) (h : us[j]? = some k) (y : Int) : (ents us c).set j (.int .i64 k, .int .i64 y) = ents us fun u => if u = k then y else c u := by
  apply List.ext_getElem?
  intro i
  unfold ents
  have hj : j < us.length := (List.getElem?_eq_some_iff.1 h).1
  by_cases e : j = i
  · subst e
    rw [List.getElem?_set_self (by simpa using hj)]
    simp [h]
  · rw [List.getElem?_set_ne e, List.getElem?_map, List.getElem?_map]
    cases hi : us[i]? with
    | none => rfl
    | some u =>
      have : u ≠ k := fun e2 => by
        subst e2
        rw [List.nodup_iff_pairwise_ne, List.pairwise_iff_getElem] at hn
        obtain ⟨i1, i2⟩ := List.getElem?_eq_some_iff.1 hi
        obtain ⟨j1, j2⟩ := List.getElem?_eq_some_iff.1 h
        rcases Nat.lt_or_gt_of_ne e with q | q
        · exact hn j i j1 i1 q (by rw [i2, j2])
        · exact hn i j i1 j1 q (by rw [i2, j2])
      simp [this]
/-- what the map says of the keys so far -/
structure Cnts (us : List Int) (c : Int → Int) (ks : List Int) : Prop where
  nd : us.Nodup
  mem : ∀ k, k ∈ us ↔ k ∈ ks
  cnt : ∀ k ∈ us, c k = cntI ks k
theorem cnt_push (ks : List Int) (k n : Int) : cntI (ks ++ [k]) n = cntI ks n + if k = n then 1 else 0 := by
  unfold cntI; rw [List.countP_append]; simp [List.countP_cons]
theorem Cnts.look {us : List Int} {c : Int → Int} {ks : List Int} (h : Cnts us c ks) (k : Int) : (∃ j, us[j]? = some k ∧ findV (.int .i64) (.int .i64 k) (ents us c) 0 = some (some (j, .int .i64 (cntI ks k)))) ∨ (k ∉ us ∧ cntI ks k = 0 ∧ findV (.int .i64) (.int .i64 k) (ents us c) 0 = some none) := by
  by_cases hk : k ∈ us
  · obtain ⟨j, hj⟩ := List.getElem?_of_mem hk
    refine .inl ⟨j, hj, ?_⟩
    rw [find_yes h.nd hj 0, h.cnt k hk, Nat.zero_add]
  · refine .inr ⟨hk, ?_, find_no hk 0⟩
    have : ¬ 0 < cntI ks k := fun h2 => hk ((h.mem k).2 (cntI_pos.1 h2))
    omega
/-- one more -/
theorem Cnts.push {us : List Int} {c : Int → Int} {ks : List Int} (h : Cnts us c ks) (k : Int) : ∃ us' c', Cnts us' c' (ks ++ [k]) ∧
    ((∃ j, us[j]? = some k ∧ (ents us c).set j (.int .i64 k, .int .i64 ((cntI ks k : Int) + 1)) = ents us' c') ∨ (k ∉ us ∧ cntI ks k = 0 ∧ ents us c ++ [(.int .i64 k, .int .i64 ((cntI ks k : Int) + 1))] = ents us' c')) := by
  by_cases hk : k ∈ us
  · obtain ⟨j, hj⟩ := List.getElem?_of_mem hk
    refine ⟨us, _, ⟨h.nd, fun z => ?_, fun z hz => ?_⟩, .inl ⟨j, hj, ents_set h.nd hj _⟩⟩
    · rw [List.mem_append, List.mem_singleton, ← h.mem]
      exact ⟨.inl, fun q => q.elim id fun e => by rw [e]; exact hk⟩
    · rw [cnt_push]
      by_cases e : z = k
      · simp [e]
      · have := h.cnt z hz
        simp [e, Ne.symm e, this]
  · have h0 : cntI ks k = 0 := by
      have : ¬ 0 < cntI ks k := fun h2 => hk ((h.mem k).2 (cntI_pos.1 h2))
      omega
    refine ⟨us ++ [k], fun u => if u = k then 1 else c u, ⟨?_, fun z => ?_, fun z hz => ?_⟩, .inr ⟨hk, h0, ?_⟩⟩
    · rw [List.nodup_append]
      exact ⟨h.nd, by simp, fun a ha b hb e => hk (by rw [List.mem_singleton] at hb; rw [← hb, ← e]; exact ha)⟩
    · simp [h.mem]
    · rw [cnt_push]
      by_cases e : z = k
      · subst e; simp [h0]
      · have hz2 : z ∈ us := by
          rcases List.mem_append.1 hz with hz | hz
          · exact hz
          · exact absurd (List.mem_singleton.1 hz) e
        have := h.cnt z hz2
        simp [e, Ne.symm e, this]
    · unfold ents
      rw [List.map_append, h0]
      congr 1
      · apply List.map_congr_left
        intro u hu
        have : u ≠ k := fun e => hk (by rw [← e]; exact hu)
        simp [this]
      · simp
/-- the best one of those that were handed out -/
def BestIn (us ks : List Int) (seen : List Nat) (b : Int) : Prop :=
  (seen = [] ∧ b = -1) ∨ ((∃ i ∈ seen, us[i]? = some b) ∧ ∀ i ∈ seen, ∀ u, us[i]? = some u → cntI ks u ≤ cntI ks b ∧ (cntI ks u = cntI ks b → b ≤ u))
theorem BestIn.step {us ks : List Int} {seen : List Nat} {b u : Int} {i : Nat} (h : BestIn us ks seen b) (hu : us[i]? = some u) (hp : 0 < cntI ks u) (hb : b = -1 → cntI ks b = 0) :
    BestIn us ks (seen ++ [i]) (if cntI ks b < cntI ks u ∨ (cntI ks u = cntI ks b ∧ u < b) then u else b) := by
  right
  rcases h with ⟨rfl, h2⟩ | ⟨⟨j, hj, hju⟩, h2⟩
  · have := hb h2
    rw [if_pos (.inl (by omega))]
    refine ⟨⟨i, by simp, hu⟩, fun z hz x hx => ?_⟩
    have : z = i := by simpa using hz
    subst this
    rw [hu] at hx; cases hx; omega
  · split
    · rename_i hc
      refine ⟨⟨i, by simp, hu⟩, fun z hz x hx => ?_⟩
      rcases List.mem_append.1 hz with hz | hz
      · have := h2 z hz x hx; omega
      · have : z = i := by simpa using hz
        subst this
        rw [hu] at hx; cases hx; omega
    · rename_i hc
      refine ⟨⟨j, by simp [hj], hju⟩, fun z hz x hx => ?_⟩
      rcases List.mem_append.1 hz with hz | hz
      · exact h2 z hz x hx
      · have : z = i := by simpa using hz
        subst this
        rw [hu] at hx; cases hx; omega
theorem BestIn.done {us ks : List Int} {c : Int → Int} {seen : List Nat} {b : Int} (hc : Cnts us c ks) (h : BestIn us ks seen b) (hall : ∀ i, i < us.length → i ∈ seen) : IsMost ks b := by
  rcases h with ⟨rfl, h2⟩ | ⟨⟨j, hj, hju⟩, h2⟩
  · left
    refine ⟨?_, h2⟩
    cases ks with
    | nil => rfl
    | cons k ks =>
      have : k ∈ us := (hc.mem k).2 (by simp)
      obtain ⟨i, hi⟩ := List.getElem?_of_mem this
      have := hall i (List.getElem?_eq_some_iff.1 hi).1
      simp at this
  · right
    refine ⟨(hc.mem b).1 (List.mem_of_getElem? hju), fun k hk => ?_⟩
    obtain ⟨i, hi⟩ := List.getElem?_of_mem ((hc.mem k).2 hk)
    exact h2 i (hall i (List.getElem?_eq_some_iff.1 hi).1) k hi

def keyStep (key : Nat → Int) (ok : Nat → Bool) (k : Nat) : List Int := if ok k = true then [key k] else []
/-- the keys that count -/
def keysOf (key : Nat → Int) (ok : Nat → Bool) : Nat → List Int
  | 0 => []
  | n + 1 => keysOf key ok n ++ keyStep key ok n
theorem keysOf_len (key : Nat → Int) (ok : Nat → Bool) : ∀ n, (keysOf key ok n).length ≤ n
  | 0 => by simp [keysOf]
  | n + 1 => by have := keysOf_len key ok n; unfold keysOf keyStep; split <;> simp <;> omega
theorem keysOf_mem {key : Nat → Int} {ok : Nat → Bool} {x : Int} : ∀ {n : Nat}, x ∈ keysOf key ok n → ∃ k, k < n ∧ ok k = true ∧ key k = x
  | 0, h => by cases h
  | n + 1, h => by
    unfold keysOf keyStep at h
    rcases List.mem_append.1 h with h | h
    · obtain ⟨k, h1, h2⟩ := keysOf_mem h; exact ⟨k, by omega, h2⟩
    · split at h
      · rename_i ho; exact ⟨n, by omega, ho, (List.mem_singleton.1 h).symm⟩
      · cases h

section
variable {H : Hp} {p : Option PA} {c : Nat} {f : FuncId} {caps : List VV} {key : Nat → Int} {ok : Nat → Bool} {n : Nat}
theorem most38 {es : Edges} (h : Sl H p 2 (edgeEs es)) (hes : es.length = n) (hn : n ≤ 1000000000)
    (hf : ∀ k, k < n → ∀ H', Ext H H' → FnV Try.prog f ([.agg [.int .i64 (es.getD k (0, 0)).1, .int .i64 (es.getD k (0, 0)).2]] ++ caps) H' fun r H2 => r = .tup [.int .i64 (key k), .bool (ok k)] ∧ H2 = H') (hk : ∀ k, k < n → ok k = true → 0 ≤ key k ∧ key k ≤ 256) :
    FnV Try.prog 38 [.sl p n c, .fn f caps, .int .i64 (-1)] H fun r H' => r = .int .i64 (mostS (keysOf key ok n)) ∧ H' = H := by
  refine FnV.calm rfl ?_
  refine FnV.enterRow ok38 (by show 3 ≤ 61; decide) fun B => ?_
  dsimp only [w38]
  refine VW.seq (VW.reg ?_)
  refine VOps.rd rfl rfl ?_
  refine VOps.nil ⟨rfl, ?_⟩
  refine VW.seq (VW.reg ?_)
  refine VOps.ef (v := .map (some H.length)) (H' := H ++ [.obj (.map [])]) rfl rfl ?_
  refine VOps.rd rfl rfl ?_
  refine VOps.nil ⟨rfl, ?_⟩
  refine VW.seq (VW.reg ?_)
  refine VOps.rd rfl rfl ?_
  refine VOps.rd rfl rfl ?_
  refine VOps.nil ⟨rfl, ?_⟩
  refine VW.seq (VW.seq (VW.reg ?_))
  refine VOps.rd rfl rfl ?_
  refine VOps.rd rfl rfl ?_
  refine VOps.rd rfl rfl ?_
  refine VOps.nil ⟨rfl, ?_⟩
  show VW _ _ _ _ [(1, .fn f caps), (7, .map (some H.length)), (8, .int .i64 (-1)), (17, .sl p n c), (18, .int .i64 n), (19, .int .i64 0)] _ _
  have hx0 : Ext H (H ++ [.obj (.map [])]) := .app _ _
  have hm0 : (H ++ [Blk.obj (.map [])])[H.length]? = some (.obj (.map [])) := by simp
  generalize H ++ [Blk.obj (.map [])] = H1 at *
  refine VW.mono (Q := fun e F2 H' => e = .normal ∧ Cov [(7, .map (some H.length)), (8, .int .i64 (-1))] F2 ∧ Ext H H' ∧ ∃ us cf, H'[H.length]? = some (.obj (.map (ents us cf))) ∧ Cnts us cf (keysOf key ok n)) ?_ ?_
  · refine VW.block ?_
    refine VW.loop (fun m F' H' => ∃ (k : Nat) (us : List Int) (cf : Int → Int), k ≤ n ∧ m = n - k ∧ F' = [(1, .fn f caps), (7, .map (some H.length)), (8, .int .i64 (-1)), (17, .sl p n c), (18, .int .i64 n), (19, .int .i64 k)] ∧ Ext H H' ∧
        H'[H.length]? = some (.obj (.map (ents us cf))) ∧ Cnts us cf (keysOf key ok k)) n
      ⟨0, [], fun _ => 0, by omega, rfl, rfl, hx0, hm0, ⟨.nil, fun k => by simp [keysOf], fun k hk => by cases hk⟩⟩ ?_
    clear hm0 hx0
    rintro m F' H2 ⟨k, us, cf, hkn, rfl, rfl, hx, hm, hc⟩
    by_cases hlt : k < n
    · have hvk := wrap_id (x := (k : Int) + 1) (by omega) (by omega)
      have hko : keysOf key ok (k + 1) = keysOf key ok k ++ keyStep key ok k := rfl
      refine VW.seq (VW.reg ?_)
      refine VOps.rd rfl rfl ?_
      refine VOps.nil ⟨rfl, VW.seq (VW.condT (by simp [Fr.only, hlt]) (VW.skip ?_))⟩
      refine VW.seq (VW.block (VW.seq (VW.reg ?_)))
      have hcall0 := hf k hlt
      obtain ⟨q, hpq, q1, q2, q3, q4⟩ := sl_edge (hx.sl h) (k := k) (by omega)
      generalize (es.getD k (0, 0)).1 = sy at *
      generalize (es.getD k (0, 0)).2 = to at *
      have hs2 := stc_last2 (H := H2) (t := 46) (md := .own) (by decide) (a := .int .i64 0) (b := .int .i64 0) (c := .int .i64 sy) (d := .int .i64 to) rfl rfl
      refine VOps.rd (v := .ptr (some (elp (some q) k))) rfl (by simp [Fr.only, hpq, q1, hlt]) ?_
      refine VOps.rd (v := .agg [.int .i64 sy, .int .i64 to]) rfl (by simp [q3]) ?_
      refine VOps.ef (v := .ptr (some ⟨H2.length, 0, 0⟩)) (H' := H2 ++ [.row 46 .own [[.int .i64 0, .int .i64 0]]]) rfl (by simp) ?_
      refine VOps.ef (v := .undef) (H' := H2 ++ [.row 46 .own [[.int .i64 sy, .int .i64 to]]]) rfl (by simp [hs2]) ?_
      refine VOps.nil ⟨rfl, ?_⟩
      show VW _ _ _ _ [(1, .fn f caps), (7, .map (some H.length)), (8, .int .i64 (-1)), (10, .ptr (some ⟨H2.length, 0, 0⟩)), (17, .sl p n c), (18, .int .i64 n), (19, .int .i64 k)] _ _
      have lx := lds_last H2 46 .own [VV.int .i64 sy, VV.int .i64 to] [] 0 2
      simp only [List.length_cons, List.length_nil, Nat.zero_add, Nat.le_refl, if_true, List.drop_zero, List.take_succ_cons, List.take_zero] at lx
      have hx3 := hx.push [.row 46 .own [[.int .i64 sy, .int .i64 to]]]
      have hm3 := get_push hm [.row 46 .own [[.int .i64 sy, .int .i64 to]]]
      clear hx hm q1 q2 q3 q4 hs2 hpq
      generalize H2 ++ [.row 46 .own [[.int .i64 sy, .int .i64 to]]] = H3 at *
      have hcall := hcall0 H3 hx3
      refine VW.seq (VW.reg ?_)
      refine VOps.rd rfl rfl ?_
      refine VOps.rd (v := .agg [.int .i64 sy, .int .i64 to]) rfl (by simp [lx]) ?_
      refine VOps.call rfl rfl rfl (hcall.mono ?_)
      rintro r H3 ⟨rfl, rfl⟩
      refine VOps.rd rfl rfl ?_
      refine VOps.rd (v := .int .i64 (key k)) rfl rfl ?_
      refine VOps.rd (v := .bool (ok k)) rfl rfl ?_
      refine VOps.rd rfl rfl ?_
      refine VOps.rd rfl rfl ?_
      refine VOps.nil ⟨rfl, ?_⟩
      show VW _ _ _ _ [(1, .fn f caps), (7, .map (some H.length)), (8, .int .i64 (-1)), (11, .int .i64 (key k)), (12, .bool (ok k)), (17, .sl p n c), (18, .int .i64 n), (19, .int .i64 k)] _ _
      have leave : ∀ F H4 us' cf', Cov [(1, .fn f caps), (7, .map (some H.length)), (8, .int .i64 (-1)), (17, .sl p n c), (18, .int .i64 n), (19, .int .i64 k)] F → Ext H H4 → H4[H.length]? = some (.obj (.map (ents us' cf'))) → Cnts us' cf' (keysOf key ok (k + 1)) →
          VW Try.prog B 61 (VC.reg [VI.rd 34 none (VOp.bin (BinOp.add) (Od.t 19) (Od.c (VV.int (IntKind.i64) 1))), VI.rd 19 none (VOp.mv (Od.t 34))] [1, 7, 8, 17, 18, 19]) F H4
            (Then (fun F2 H5 => ∃ m, m < n - k ∧ ∃ (k : Nat) (us : List Int) (cf : Int → Int), k ≤ n ∧ m = n - k ∧ F2 = [(1, .fn f caps), (7, .map (some H.length)), (8, .int .i64 (-1)), (17, .sl p n c), (18, .int .i64 n), (19, .int .i64 k)] ∧ Ext H H5 ∧
              H5[H.length]? = some (.obj (.map (ents us cf))) ∧ Cnts us cf (keysOf key ok k))
              (inB 0 fun e F2 H' => e = .normal ∧ Cov [(7, .map (some H.length)), (8, .int .i64 (-1))] F2 ∧ Ext H H' ∧ ∃ us cf, H'[H.length]? = some (.obj (.map (ents us cf))) ∧ Cnts us cf (keysOf key ok n))) := by
        intro F H4 us' cf' hcv g1 g2 g3
        refine VW.sub hcv (VW.reg ?_)
        refine VOps.rd rfl rfl ?_
        refine VOps.rd rfl rfl ?_
        refine VOps.nil ⟨rfl, n - (k + 1), by omega, k + 1, us', cf', by omega, rfl, ?_, g1, g2, g3⟩
        simp [Fr.only, hvk]
      refine VW.seq (VW.reg ?_)
      refine VOps.rd rfl rfl ?_
      refine VOps.nil ⟨rfl, ?_⟩
      refine VW.cond rfl (fun a => ?_) (fun a => ?_)
      · have a : ok k = true := by simpa using a
        unfold keyStep at hko
        rw [if_pos a] at hko
        have hkk := hk k hlt a
        have hle : cntI (keysOf key ok k) (key k) ≤ n := Nat.le_trans (cntI_le _ _) (Nat.le_trans (keysOf_len key ok k) (by omega))
        have hvc := wrap_id (x := (cntI (keysOf key ok k) (key k) : Int) + 1) (by omega) (by omega)
        obtain ⟨us', cf', hc', hset⟩ := hc.push (key k)
        have hmo : mapOf H3 (.map (some H.length)) = some (ents us cf) := by simp [mapOf, hm3]
        have his : KK.is (.int .i64) (.int .i64 (key k)) = true := by simp [KK.is]
        have hset2 : (VEf.mset (KK.int IntKind.i64) (Od.c (.map (some H.length))) (Od.c (.int .i64 (key k))) (Od.c (.int .i64 ((cntI (keysOf key ok k) (key k) : Int) + 1)))).ev [] H3 = some (.undef, H3.set H.length (.obj (.map (ents us' cf')))) := by
          rcases hset with ⟨j, hj, hset⟩ | ⟨hno, h0, hset⟩
          · have hfy := find_yes (c := cf) hc.nd hj 0
            rw [Nat.zero_add] at hfy
            simp only [VEf.ev, Od.ev, his, if_true, hm3, hfy, hset]
          · have hfn := find_no (c := cf) hno 0
            simp only [VEf.ev, Od.ev, his, if_true, hm3, hfn, hset]
        have hlk : (VOp.lkp (KK.int IntKind.i64) (VV.int IntKind.i64 0) false (Od.c (.map (some H.length))) (Od.c (.int .i64 (key k)))).ev [] H3 = some (.int .i64 (cntI (keysOf key ok k) (key k))) := by
          rcases hc.look (key k) with ⟨j, _, hl⟩ | ⟨_, h0, hl⟩
          · simp only [VOp.ev, Od.ev, hmo, his, if_true, hl]; rfl
          · simp only [VOp.ev, Od.ev, hmo, his, if_true, hl, h0]; rfl
        refine VW.reg ?_
        refine VOps.rd rfl rfl ?_
        refine VOps.rd rfl rfl ?_
        refine VOps.rd rfl hlk ?_
        refine VOps.rd (v := .int .i64 ((cntI (keysOf key ok k) (key k) : Int) + 1)) rfl (by simp [hvc]) ?_
        refine VOps.ef rfl hset2 ?_
        refine VOps.nil ⟨rfl, ?_⟩
        exact leave _ _ us' cf' (by simp [Cov, Fr.only]) (hx3.set (Nat.le_refl _) _) (List.getElem?_set_self (get_lt hm3)) (by rw [hko]; exact hc')
      · have a : ok k = false := by simpa using a
        unfold keyStep at hko
        rw [if_neg (by simp [a]), List.append_nil] at hko
        exact VW.skip (leave _ _ us cf (by simp [Cov, Fr.only]) hx3 hm3 (by rw [hko]; exact hc))
    · have : k = n := by omega
      subst this
      refine VW.seq (VW.reg ?_)
      refine VOps.rd rfl rfl ?_
      refine VOps.nil ⟨rfl, VW.seq (VW.condF (by simp [Fr.only]) (VW.exit ?_))⟩
      simp only [then_normal, then_ret, then_exit, inB_normal, inB_ret, inB_exit, reduceIte, Nat.reduceEqDiff]
      exact ⟨trivial, by simp [Cov, Fr.only], hx, us, cf, hm, hc⟩
  rintro e F2 H2 ⟨rfl, hcov, hx, us, cf, hm, hc⟩
  refine VW.sub hcov ?_
  clear hcov hx0 hm0
  have hkr : ∀ k ∈ keysOf key ok n, 0 ≤ k ∧ k ≤ 256 := fun x hx => by
    obtain ⟨k, h1, h2, rfl⟩ := keysOf_mem hx
    exact hk k h1 h2
  have hln := keysOf_len key ok n
  generalize keysOf key ok n = ks at *
  have hus : (ents us cf).length = us.length := by simp [ents]
  refine VW.seq (VW.seq (VW.reg ?_))
  refine VOps.rd rfl rfl ?_
  refine VOps.ef (v := .ptr (some ⟨H2.length, 0, 0⟩)) (H' := H2 ++ [.obj (.iter H.length us.length [])]) rfl (by simp [hm, hus]) ?_
  refine VOps.nil ⟨rfl, ?_⟩
  show VW _ _ _ _ [(7, .map (some H.length)), (8, .int .i64 (-1)), (36, .ptr (some ⟨H2.length, 0, 0⟩))] _ _
  have hx3 := hx.push [.obj (.iter H.length us.length [])]
  have hm3 := get_push hm [.obj (.iter H.length us.length [])]
  have hi3 : (H2 ++ [Blk.obj (.iter H.length us.length [])])[H2.length]? = some (.obj (.iter H.length us.length [])) := by simp
  have hge := hx.1
  have hne : H2.length ≠ H.length := fun e => by have := get_lt hm; omega
  generalize H2 ++ [Blk.obj (.iter H.length us.length [])] = H3 at *
  generalize H2.length = bi at *
  refine VW.mono (Q := fun e F2 H' => e = .normal ∧ Cov [(8, .int .i64 (mostS ks))] F2 ∧ Ext H H') ?_ ?_
  · refine VW.block ?_
    refine VW.loop (fun m F' H' => ∃ (seen : List Nat) (b : Int), m = (List.range us.length).countP (fun i => !seen.contains i) ∧ Cov [(7, .map (some H.length)), (8, .int .i64 b), (36, .ptr (some ⟨bi, 0, 0⟩))] F' ∧ Ext H H' ∧ H'[H.length]? = some (.obj (.map (ents us cf))) ∧
        H'[bi]? = some (.obj (.iter H.length us.length seen)) ∧ BestIn us ks seen b) ((List.range us.length).countP (fun i => !([] : List Nat).contains i))
      ⟨[], -1, rfl, by simp [Cov, Fr.only], hx3, hm3, hi3, .inl ⟨rfl, rfl⟩⟩ ?_
    clear hx3 hm3 hi3 hx hm
    rintro m F' H4 ⟨seen, b, rfl, hcov, hx, hm, hi, hb⟩
    refine VW.sub hcov ?_
    refine VW.seq (VW.reg ?_)
    refine VOps.nx rfl rfl hi hm hus (fun hall => ?_) (fun i en hin hen => ?_)
    · refine VOps.rd (v := .bool false) rfl rfl ?_
      refine VOps.nil ⟨rfl, VW.seq (VW.condF rfl (VW.exit ?_))⟩
      simp only [then_normal, then_ret, then_exit, inB_normal, inB_ret, inB_exit, reduceIte, Nat.reduceEqDiff]
      rw [most_unique hkr (hb.done hc hall)]
      exact ⟨trivial, by simp [Cov, Fr.only], hx⟩
    · have hi5 : (H4.set bi (.obj (.iter H.length us.length (seen ++ [i]))))[bi]? = some (.obj (.iter H.length us.length (seen ++ [i]))) := List.getElem?_set_self (get_lt hi)
      have hm5 : (H4.set bi (.obj (.iter H.length us.length (seen ++ [i]))))[H.length]? = some (.obj (.map (ents us cf))) := get_ne hm hne
      have hx5 := hx.set hge (.obj (.iter H.length us.length (seen ++ [i])))
      generalize H4.set bi (.obj (.iter H.length us.length (seen ++ [i]))) = H5 at *
      obtain ⟨u, hu, rfl⟩ : ∃ u, us[i]? = some u ∧ en = (.int .i64 u, .int .i64 (cf u)) := by
        unfold ents at hen
        rw [List.getElem?_map] at hen
        cases hq : us[i]? with
        | none => rw [hq] at hen; cases hen
        | some u => rw [hq] at hen; simp at hen; exact ⟨u, rfl, hen.symm⟩
      have hum : u ∈ us := List.mem_of_getElem? hu
      have hcu := hc.cnt u hum
      have hup : 0 < cntI ks u := cntI_pos.2 ((hc.mem u).1 hum)
      have hu0 := hkr u ((hc.mem u).1 hum)
      have hb0 : b = -1 → cntI ks b = 0 := fun e => by
        have : ¬ 0 < cntI ks b := fun h2 => by have := hkr b (cntI_pos.1 h2); omega
        omega
      have hent : (VOp.ent (Od.c (.ptr (some ⟨bi, 0, 0⟩)))).ev [] H5 = some (.tup [.int .i64 u, .int .i64 (cf u)]) := by
        have hen2 : (ents us cf)[i]? = some (.int .i64 u, .int .i64 (cf u)) := hen
        simp only [VOp.ev, Od.ev, hi5, List.getLast?_append, List.getLast?_singleton, Option.some_or, hm5, hus, hen2]
        simp
      have hmo : mapOf H5 (.map (some H.length)) = some (ents us cf) := by simp [mapOf, hm5]
      have hlk : (VOp.lkp (KK.int IntKind.i64) (VV.int IntKind.i64 0) false (Od.c (.map (some H.length))) (Od.c (.int .i64 b))).ev [] H5 = some (.int .i64 (cntI ks b)) := by
        have his : KK.is (.int .i64) (.int .i64 b) = true := by simp [KK.is]
        rcases hc.look b with ⟨j, _, hl⟩ | ⟨_, h0, hl⟩
        · simp only [VOp.ev, Od.ev, hmo, his, if_true, hl]; rfl
        · simp only [VOp.ev, Od.ev, hmo, his, if_true, hl, h0]; rfl
      have hst := hb.step hu hup hb0
      refine VOps.rd (v := .bool true) rfl rfl ?_
      refine VOps.nil ⟨rfl, VW.seq (VW.condT rfl (VW.skip ?_))⟩
      refine VW.block (VW.seq (VW.reg ?_))
      refine VOps.rd rfl hent ?_
      refine VOps.rd (v := .int .i64 u) rfl rfl ?_
      refine VOps.rd (v := .int .i64 (cf u)) rfl rfl ?_
      refine VOps.rd rfl rfl ?_
      refine VOps.rd rfl rfl ?_
      refine VOps.nil ⟨rfl, ?_⟩
      rw [hcu]
      show VW _ _ _ _ [(7, .map (some H.length)), (8, .int .i64 b), (13, .int .i64 u), (14, .int .i64 (cntI ks u)), (36, .ptr (some ⟨bi, 0, 0⟩))] _ _
      have hmeas : (List.range us.length).countP (fun z => !(seen ++ [i]).contains z) < (List.range us.length).countP (fun z => !seen.contains z) := by
        have hil : i < us.length := (List.getElem?_eq_some_iff.1 hu).1
        refine countP_drop (i := i) (by simpa using hin) (fun j hj => ?_) (List.mem_range.2 hil)
        simp at hj
        exact ⟨by simpa using hj.1, hj.2⟩
      refine VW.seq ?_
      refine VW.mono (Q := fun e F2 H' => e = .normal ∧ F2 = [(7, .map (some H.length)), (8, .int .i64 b), (13, .int .i64 u), (36, .ptr (some ⟨bi, 0, 0⟩)), (58, .bool (decide (cntI ks b < cntI ks u ∨ (cntI ks u = cntI ks b ∧ u < b))))] ∧ H' = H5) ?_ ?_
      · refine VW.reg ?_
        refine VOps.rd rfl rfl ?_
        refine VOps.rd rfl rfl ?_
        refine VOps.rd rfl rfl ?_
        refine VOps.rd rfl hlk ?_
        refine VOps.rd (v := .bool (decide (cntI ks b < cntI ks u))) rfl (by simp) ?_
        refine VOps.rd rfl rfl ?_
        by_cases y1 : cntI ks b < cntI ks u
        · rw [decide_eq_true y1]
          iterate 10 refine VOps.sk rfl ?_
          refine VOps.rd (v := .bool true) rfl rfl ?_
          refine VOps.nil ⟨rfl, rfl, ?_, rfl⟩
          rw [decide_eq_true (.inl y1)]; rfl
        · rw [decide_eq_false y1]
          refine VOps.rd rfl rfl ?_
          refine VOps.rd rfl rfl ?_
          refine VOps.rd rfl rfl ?_
          refine VOps.rd rfl hlk ?_
          refine VOps.rd (v := .bool (decide (cntI ks u = cntI ks b))) rfl (by simp [beq_natCast]) ?_
          refine VOps.rd rfl rfl ?_
          by_cases y2 : cntI ks u = cntI ks b
          · rw [decide_eq_true y2]
            refine VOps.rd rfl rfl ?_
            refine VOps.rd rfl rfl ?_
            refine VOps.rd rfl rfl ?_
            refine VOps.rd (v := .bool (decide (u < b))) rfl rfl ?_
            refine VOps.rd (v := .bool (decide (u < b))) rfl rfl ?_
            refine VOps.nil ⟨rfl, rfl, ?_, rfl⟩
            rw [show decide (cntI ks b < cntI ks u ∨ (cntI ks u = cntI ks b ∧ u < b)) = decide (u < b) by simp [y1, y2]]; rfl
          · rw [decide_eq_false y2]
            iterate 3 refine VOps.sk rfl ?_
            refine VOps.rd (v := .bool false) rfl rfl ?_
            refine VOps.rd (v := .bool false) rfl rfl ?_
            refine VOps.nil ⟨rfl, rfl, ?_, rfl⟩
            rw [decide_eq_false (by omega)]; rfl
      rintro e F2 H6 ⟨rfl, rfl, rfl⟩
      refine VW.cond rfl (fun a => ?_) (fun a => ?_)
      · have a := of_decide_eq_true a
        rw [if_pos a] at hst
        refine VW.reg ?_
        refine VOps.rd rfl rfl ?_
        refine VOps.rd rfl rfl ?_
        exact VOps.nil ⟨rfl, _, hmeas, seen ++ [i], u, rfl, by simp [Cov, Fr.only], hx5, hm5, hi5, hst⟩
      · have a := of_decide_eq_false a
        rw [if_neg a] at hst
        refine VW.skip ?_
        exact ⟨_, hmeas, seen ++ [i], b, rfl, by simp [Cov, Fr.only], hx5, hm5, hi5, hst⟩
  rintro e F2 H6 ⟨rfl, hcov, hx6⟩
  refine VW.sub hcov (VW.seq (VW.reg ?_))
  refine VOps.rd rfl rfl ?_
  refine VOps.rd rfl rfl ?_
  exact VOps.nil ⟨rfl, VW.ret ⟨.inl rfl, _, rfl, rfl, hx6⟩⟩
end

section
variable {H : Hp} {p : Option PA} {c : Nat} {f : FuncId} {caps : List VV} {key : Nat → Int} {ok : Nat → Bool} {n : Nat}
theorem most41 {vs : List VV} (h : Sl H p 1 (vs.map fun v => [v])) (hvs : vs.length = n) (hn : n ≤ 1000000000)
    (hf : ∀ k, k < n → ∀ H', Ext H H' → FnV Try.prog f ([vs.getD k .undef] ++ caps) H' fun r H2 => r = .tup [.int .i64 (key k), .bool (ok k)] ∧ H2 = H') (hk : ∀ k, k < n → ok k = true → 0 ≤ key k ∧ key k ≤ 256) :
    FnV Try.prog 41 [.sl p n c, .fn f caps, .int .i64 (-1)] H fun r H' => r = .int .i64 (mostS (keysOf key ok n)) ∧ H' = H := by
  refine FnV.calm rfl ?_
  refine FnV.enterRow ok41 (by show 3 ≤ 61; decide) fun B => ?_
  dsimp only [w41]
  refine VW.seq (VW.reg ?_)
  refine VOps.rd rfl rfl ?_
  refine VOps.nil ⟨rfl, ?_⟩
  refine VW.seq (VW.reg ?_)
  refine VOps.ef (v := .map (some H.length)) (H' := H ++ [.obj (.map [])]) rfl rfl ?_
  refine VOps.rd rfl rfl ?_
  refine VOps.nil ⟨rfl, ?_⟩
  refine VW.seq (VW.reg ?_)
  refine VOps.rd rfl rfl ?_
  refine VOps.rd rfl rfl ?_
  refine VOps.nil ⟨rfl, ?_⟩
  refine VW.seq (VW.seq (VW.reg ?_))
  refine VOps.rd rfl rfl ?_
  refine VOps.rd rfl rfl ?_
  refine VOps.rd rfl rfl ?_
  refine VOps.nil ⟨rfl, ?_⟩
  show VW _ _ _ _ [(1, .fn f caps), (7, .map (some H.length)), (8, .int .i64 (-1)), (17, .sl p n c), (18, .int .i64 n), (19, .int .i64 0)] _ _
  have hx0 : Ext H (H ++ [.obj (.map [])]) := .app _ _
  have hm0 : (H ++ [Blk.obj (.map [])])[H.length]? = some (.obj (.map [])) := by simp
  generalize H ++ [Blk.obj (.map [])] = H1 at *
  refine VW.mono (Q := fun e F2 H' => e = .normal ∧ Cov [(7, .map (some H.length)), (8, .int .i64 (-1))] F2 ∧ Ext H H' ∧ ∃ us cf, H'[H.length]? = some (.obj (.map (ents us cf))) ∧ Cnts us cf (keysOf key ok n)) ?_ ?_
  · refine VW.block ?_
    refine VW.loop (fun m F' H' => ∃ (k : Nat) (us : List Int) (cf : Int → Int), k ≤ n ∧ m = n - k ∧ F' = [(1, .fn f caps), (7, .map (some H.length)), (8, .int .i64 (-1)), (17, .sl p n c), (18, .int .i64 n), (19, .int .i64 k)] ∧ Ext H H' ∧
        H'[H.length]? = some (.obj (.map (ents us cf))) ∧ Cnts us cf (keysOf key ok k)) n
      ⟨0, [], fun _ => 0, by omega, rfl, rfl, hx0, hm0, ⟨.nil, fun k => by simp [keysOf], fun k hk => by cases hk⟩⟩ ?_
    clear hm0 hx0
    rintro m F' H2 ⟨k, us, cf, hkn, rfl, rfl, hx, hm, hc⟩
    by_cases hlt : k < n
    · have hvk := wrap_id (x := (k : Int) + 1) (by omega) (by omega)
      have hko : keysOf key ok (k + 1) = keysOf key ok k ++ keyStep key ok k := rfl
      refine VW.seq (VW.reg ?_)
      refine VOps.rd rfl rfl ?_
      refine VOps.nil ⟨rfl, VW.seq (VW.condT (by simp [Fr.only, hlt]) (VW.skip ?_))⟩
      refine VW.seq (VW.block (VW.seq (VW.reg ?_)))
      obtain ⟨q, hpq, q1⟩ := (hx.sl h).ixp (k := k) (by simpa [hvs] using hlt)
      have q2 := (hx.sl h).ld0 (k := k) (e := [vs.getD k .undef]) (by rw [List.getElem?_map, List.getElem?_eq_getElem (by omega)]; simp [List.getD, show k < vs.length by omega])
      simp only [List.getElem?_cons_zero] at q2
      refine VOps.rd (v := .ptr (some (elp (some q) k))) rfl (by simp [Fr.only, hpq, q1, hlt]) ?_
      refine VOps.rd (v := vs.getD k .undef) rfl (by rw [hpq] at q2; simpa [Fr.only] using q2) ?_
      refine VOps.rd rfl rfl ?_
      refine VOps.nil ⟨rfl, ?_⟩
      have hx3 := hx
      have hm3 := hm
      have hcall := hf k hlt H2 hx3
      clear hx hm q1 q2 hpq
      refine VW.seq (VW.reg ?_)
      refine VOps.rd rfl rfl ?_
      refine VOps.rd rfl rfl ?_
      refine VOps.call rfl rfl rfl (hcall.mono ?_)
      rintro r H3 ⟨rfl, rfl⟩
      refine VOps.rd rfl rfl ?_
      refine VOps.rd (v := .int .i64 (key k)) rfl rfl ?_
      refine VOps.rd (v := .bool (ok k)) rfl rfl ?_
      refine VOps.rd rfl rfl ?_
      refine VOps.rd rfl rfl ?_
      refine VOps.nil ⟨rfl, ?_⟩
      show VW _ _ _ _ [(1, .fn f caps), (7, .map (some H.length)), (8, .int .i64 (-1)), (11, .int .i64 (key k)), (12, .bool (ok k)), (17, .sl p n c), (18, .int .i64 n), (19, .int .i64 k)] _ _
      have leave : ∀ F H4 us' cf', Cov [(1, .fn f caps), (7, .map (some H.length)), (8, .int .i64 (-1)), (17, .sl p n c), (18, .int .i64 n), (19, .int .i64 k)] F → Ext H H4 → H4[H.length]? = some (.obj (.map (ents us' cf'))) → Cnts us' cf' (keysOf key ok (k + 1)) →
          VW Try.prog B 61 (VC.reg [VI.rd 34 none (VOp.bin (BinOp.add) (Od.t 19) (Od.c (VV.int (IntKind.i64) 1))), VI.rd 19 none (VOp.mv (Od.t 34))] [1, 7, 8, 17, 18, 19]) F H4
            (Then (fun F2 H5 => ∃ m, m < n - k ∧ ∃ (k : Nat) (us : List Int) (cf : Int → Int), k ≤ n ∧ m = n - k ∧ F2 = [(1, .fn f caps), (7, .map (some H.length)), (8, .int .i64 (-1)), (17, .sl p n c), (18, .int .i64 n), (19, .int .i64 k)] ∧ Ext H H5 ∧
              H5[H.length]? = some (.obj (.map (ents us cf))) ∧ Cnts us cf (keysOf key ok k))
              (inB 0 fun e F2 H' => e = .normal ∧ Cov [(7, .map (some H.length)), (8, .int .i64 (-1))] F2 ∧ Ext H H' ∧ ∃ us cf, H'[H.length]? = some (.obj (.map (ents us cf))) ∧ Cnts us cf (keysOf key ok n))) := by
        intro F H4 us' cf' hcv g1 g2 g3
        refine VW.sub hcv (VW.reg ?_)
        refine VOps.rd rfl rfl ?_
        refine VOps.rd rfl rfl ?_
        refine VOps.nil ⟨rfl, n - (k + 1), by omega, k + 1, us', cf', by omega, rfl, ?_, g1, g2, g3⟩
        simp [Fr.only, hvk]
      refine VW.seq (VW.reg ?_)
      refine VOps.rd rfl rfl ?_
      refine VOps.nil ⟨rfl, ?_⟩
      refine VW.cond rfl (fun a => ?_) (fun a => ?_)
      · have a : ok k = true := by simpa using a
        unfold keyStep at hko
        rw [if_pos a] at hko
        have hkk := hk k hlt a
        have hle : cntI (keysOf key ok k) (key k) ≤ n := Nat.le_trans (cntI_le _ _) (Nat.le_trans (keysOf_len key ok k) (by omega))
        have hvc := wrap_id (x := (cntI (keysOf key ok k) (key k) : Int) + 1) (by omega) (by omega)
        obtain ⟨us', cf', hc', hset⟩ := hc.push (key k)
        have hmo : mapOf H3 (.map (some H.length)) = some (ents us cf) := by simp [mapOf, hm3]
        have his : KK.is (.int .i64) (.int .i64 (key k)) = true := by simp [KK.is]
        have hset2 : (VEf.mset (KK.int IntKind.i64) (Od.c (.map (some H.length))) (Od.c (.int .i64 (key k))) (Od.c (.int .i64 ((cntI (keysOf key ok k) (key k) : Int) + 1)))).ev [] H3 = some (.undef, H3.set H.length (.obj (.map (ents us' cf')))) := by
          rcases hset with ⟨j, hj, hset⟩ | ⟨hno, h0, hset⟩
          · have hfy := find_yes (c := cf) hc.nd hj 0
            rw [Nat.zero_add] at hfy
            simp only [VEf.ev, Od.ev, his, if_true, hm3, hfy, hset]
          · have hfn := find_no (c := cf) hno 0
            simp only [VEf.ev, Od.ev, his, if_true, hm3, hfn, hset]
        have hlk : (VOp.lkp (KK.int IntKind.i64) (VV.int IntKind.i64 0) false (Od.c (.map (some H.length))) (Od.c (.int .i64 (key k)))).ev [] H3 = some (.int .i64 (cntI (keysOf key ok k) (key k))) := by
          rcases hc.look (key k) with ⟨j, _, hl⟩ | ⟨_, h0, hl⟩
          · simp only [VOp.ev, Od.ev, hmo, his, if_true, hl]; rfl
          · simp only [VOp.ev, Od.ev, hmo, his, if_true, hl, h0]; rfl
        refine VW.reg ?_
        refine VOps.rd rfl rfl ?_
        refine VOps.rd rfl rfl ?_
        refine VOps.rd rfl hlk ?_
        refine VOps.rd (v := .int .i64 ((cntI (keysOf key ok k) (key k) : Int) + 1)) rfl (by simp [hvc]) ?_
        refine VOps.ef rfl hset2 ?_
        refine VOps.nil ⟨rfl, ?_⟩
        exact leave _ _ us' cf' (by simp [Cov, Fr.only]) (hx3.set (Nat.le_refl _) _) (List.getElem?_set_self (get_lt hm3)) (by rw [hko]; exact hc')
      · have a : ok k = false := by simpa using a
        unfold keyStep at hko
        rw [if_neg (by simp [a]), List.append_nil] at hko
        exact VW.skip (leave _ _ us cf (by simp [Cov, Fr.only]) hx3 hm3 (by rw [hko]; exact hc))
    · have : k = n := by omega
      subst this
      refine VW.seq (VW.reg ?_)
      refine VOps.rd rfl rfl ?_
      refine VOps.nil ⟨rfl, VW.seq (VW.condF (by simp [Fr.only]) (VW.exit ?_))⟩
      simp only [then_normal, then_ret, then_exit, inB_normal, inB_ret, inB_exit, reduceIte, Nat.reduceEqDiff]
      exact ⟨trivial, by simp [Cov, Fr.only], hx, us, cf, hm, hc⟩
  rintro e F2 H2 ⟨rfl, hcov, hx, us, cf, hm, hc⟩
  refine VW.sub hcov ?_
  clear hcov hx0 hm0
  have hkr : ∀ k ∈ keysOf key ok n, 0 ≤ k ∧ k ≤ 256 := fun x hx => by
    obtain ⟨k, h1, h2, rfl⟩ := keysOf_mem hx
    exact hk k h1 h2
  have hln := keysOf_len key ok n
  generalize keysOf key ok n = ks at *
  have hus : (ents us cf).length = us.length := by simp [ents]
  refine VW.seq (VW.seq (VW.reg ?_))
  refine VOps.rd rfl rfl ?_
  refine VOps.ef (v := .ptr (some ⟨H2.length, 0, 0⟩)) (H' := H2 ++ [.obj (.iter H.length us.length [])]) rfl (by simp [hm, hus]) ?_
  refine VOps.nil ⟨rfl, ?_⟩
  show VW _ _ _ _ [(7, .map (some H.length)), (8, .int .i64 (-1)), (36, .ptr (some ⟨H2.length, 0, 0⟩))] _ _
  have hx3 := hx.push [.obj (.iter H.length us.length [])]
  have hm3 := get_push hm [.obj (.iter H.length us.length [])]
  have hi3 : (H2 ++ [Blk.obj (.iter H.length us.length [])])[H2.length]? = some (.obj (.iter H.length us.length [])) := by simp
  have hge := hx.1
  have hne : H2.length ≠ H.length := fun e => by have := get_lt hm; omega
  generalize H2 ++ [Blk.obj (.iter H.length us.length [])] = H3 at *
  generalize H2.length = bi at *
  refine VW.mono (Q := fun e F2 H' => e = .normal ∧ Cov [(8, .int .i64 (mostS ks))] F2 ∧ Ext H H') ?_ ?_
  · refine VW.block ?_
    refine VW.loop (fun m F' H' => ∃ (seen : List Nat) (b : Int), m = (List.range us.length).countP (fun i => !seen.contains i) ∧ Cov [(7, .map (some H.length)), (8, .int .i64 b), (36, .ptr (some ⟨bi, 0, 0⟩))] F' ∧ Ext H H' ∧ H'[H.length]? = some (.obj (.map (ents us cf))) ∧
        H'[bi]? = some (.obj (.iter H.length us.length seen)) ∧ BestIn us ks seen b) ((List.range us.length).countP (fun i => !([] : List Nat).contains i))
      ⟨[], -1, rfl, by simp [Cov, Fr.only], hx3, hm3, hi3, .inl ⟨rfl, rfl⟩⟩ ?_
    clear hx3 hm3 hi3 hx hm
    rintro m F' H4 ⟨seen, b, rfl, hcov, hx, hm, hi, hb⟩
    refine VW.sub hcov ?_
    refine VW.seq (VW.reg ?_)
    refine VOps.nx rfl rfl hi hm hus (fun hall => ?_) (fun i en hin hen => ?_)
    · refine VOps.rd (v := .bool false) rfl rfl ?_
      refine VOps.nil ⟨rfl, VW.seq (VW.condF rfl (VW.exit ?_))⟩
      simp only [then_normal, then_ret, then_exit, inB_normal, inB_ret, inB_exit, reduceIte, Nat.reduceEqDiff]
      rw [most_unique hkr (hb.done hc hall)]
      exact ⟨trivial, by simp [Cov, Fr.only], hx⟩
    · have hi5 : (H4.set bi (.obj (.iter H.length us.length (seen ++ [i]))))[bi]? = some (.obj (.iter H.length us.length (seen ++ [i]))) := List.getElem?_set_self (get_lt hi)
      have hm5 : (H4.set bi (.obj (.iter H.length us.length (seen ++ [i]))))[H.length]? = some (.obj (.map (ents us cf))) := get_ne hm hne
      have hx5 := hx.set hge (.obj (.iter H.length us.length (seen ++ [i])))
      generalize H4.set bi (.obj (.iter H.length us.length (seen ++ [i]))) = H5 at *
      obtain ⟨u, hu, rfl⟩ : ∃ u, us[i]? = some u ∧ en = (.int .i64 u, .int .i64 (cf u)) := by
        unfold ents at hen
        rw [List.getElem?_map] at hen
        cases hq : us[i]? with
        | none => rw [hq] at hen; cases hen
        | some u => rw [hq] at hen; simp at hen; exact ⟨u, rfl, hen.symm⟩
      have hum : u ∈ us := List.mem_of_getElem? hu
      have hcu := hc.cnt u hum
      have hup : 0 < cntI ks u := cntI_pos.2 ((hc.mem u).1 hum)
      have hu0 := hkr u ((hc.mem u).1 hum)
      have hb0 : b = -1 → cntI ks b = 0 := fun e => by
        have : ¬ 0 < cntI ks b := fun h2 => by have := hkr b (cntI_pos.1 h2); omega
        omega
      have hent : (VOp.ent (Od.c (.ptr (some ⟨bi, 0, 0⟩)))).ev [] H5 = some (.tup [.int .i64 u, .int .i64 (cf u)]) := by
        have hen2 : (ents us cf)[i]? = some (.int .i64 u, .int .i64 (cf u)) := hen
        simp only [VOp.ev, Od.ev, hi5, List.getLast?_append, List.getLast?_singleton, Option.some_or, hm5, hus, hen2]
        simp
      have hmo : mapOf H5 (.map (some H.length)) = some (ents us cf) := by simp [mapOf, hm5]
      have hlk : (VOp.lkp (KK.int IntKind.i64) (VV.int IntKind.i64 0) false (Od.c (.map (some H.length))) (Od.c (.int .i64 b))).ev [] H5 = some (.int .i64 (cntI ks b)) := by
        have his : KK.is (.int .i64) (.int .i64 b) = true := by simp [KK.is]
        rcases hc.look b with ⟨j, _, hl⟩ | ⟨_, h0, hl⟩
        · simp only [VOp.ev, Od.ev, hmo, his, if_true, hl]; rfl
        · simp only [VOp.ev, Od.ev, hmo, his, if_true, hl, h0]; rfl
      have hst := hb.step hu hup hb0
      refine VOps.rd (v := .bool true) rfl rfl ?_
      refine VOps.nil ⟨rfl, VW.seq (VW.condT rfl (VW.skip ?_))⟩
      refine VW.block (VW.seq (VW.reg ?_))
      refine VOps.rd rfl hent ?_
      refine VOps.rd (v := .int .i64 u) rfl rfl ?_
      refine VOps.rd (v := .int .i64 (cf u)) rfl rfl ?_
      refine VOps.rd rfl rfl ?_
      refine VOps.rd rfl rfl ?_
      refine VOps.nil ⟨rfl, ?_⟩
      rw [hcu]
      show VW _ _ _ _ [(7, .map (some H.length)), (8, .int .i64 b), (13, .int .i64 u), (14, .int .i64 (cntI ks u)), (36, .ptr (some ⟨bi, 0, 0⟩))] _ _
      have hmeas : (List.range us.length).countP (fun z => !(seen ++ [i]).contains z) < (List.range us.length).countP (fun z => !seen.contains z) := by
        have hil : i < us.length := (List.getElem?_eq_some_iff.1 hu).1
        refine countP_drop (i := i) (by simpa using hin) (fun j hj => ?_) (List.mem_range.2 hil)
        simp at hj
        exact ⟨by simpa using hj.1, hj.2⟩
      refine VW.seq ?_
      refine VW.mono (Q := fun e F2 H' => e = .normal ∧ F2 = [(7, .map (some H.length)), (8, .int .i64 b), (13, .int .i64 u), (36, .ptr (some ⟨bi, 0, 0⟩)), (58, .bool (decide (cntI ks b < cntI ks u ∨ (cntI ks u = cntI ks b ∧ u < b))))] ∧ H' = H5) ?_ ?_
      · refine VW.reg ?_
        refine VOps.rd rfl rfl ?_
        refine VOps.rd rfl rfl ?_
        refine VOps.rd rfl rfl ?_
        refine VOps.rd rfl hlk ?_
        refine VOps.rd (v := .bool (decide (cntI ks b < cntI ks u))) rfl (by simp) ?_
        refine VOps.rd rfl rfl ?_
        by_cases y1 : cntI ks b < cntI ks u
        · rw [decide_eq_true y1]
          iterate 10 refine VOps.sk rfl ?_
          refine VOps.rd (v := .bool true) rfl rfl ?_
          refine VOps.nil ⟨rfl, rfl, ?_, rfl⟩
          rw [decide_eq_true (.inl y1)]; rfl
        · rw [decide_eq_false y1]
          refine VOps.rd rfl rfl ?_
          refine VOps.rd rfl rfl ?_
          refine VOps.rd rfl rfl ?_
          refine VOps.rd rfl hlk ?_
          refine VOps.rd (v := .bool (decide (cntI ks u = cntI ks b))) rfl (by simp [beq_natCast]) ?_
          refine VOps.rd rfl rfl ?_
          by_cases y2 : cntI ks u = cntI ks b
          · rw [decide_eq_true y2]
            refine VOps.rd rfl rfl ?_
            refine VOps.rd rfl rfl ?_
            refine VOps.rd rfl rfl ?_
            refine VOps.rd (v := .bool (decide (u < b))) rfl rfl ?_
            refine VOps.rd (v := .bool (decide (u < b))) rfl rfl ?_
            refine VOps.nil ⟨rfl, rfl, ?_, rfl⟩
            rw [show decide (cntI ks b < cntI ks u ∨ (cntI ks u = cntI ks b ∧ u < b)) = decide (u < b) by simp [y1, y2]]; rfl
          · rw [decide_eq_false y2]
            iterate 3 refine VOps.sk rfl ?_
            refine VOps.rd (v := .bool false) rfl rfl ?_
            refine VOps.rd (v := .bool false) rfl rfl ?_
            refine VOps.nil ⟨rfl, rfl, ?_, rfl⟩
            rw [decide_eq_false (by omega)]; rfl
      rintro e F2 H6 ⟨rfl, rfl, rfl⟩
      refine VW.cond rfl (fun a => ?_) (fun a => ?_)
      · have a := of_decide_eq_true a
        rw [if_pos a] at hst
        refine VW.reg ?_
        refine VOps.rd rfl rfl ?_
        refine VOps.rd rfl rfl ?_
        exact VOps.nil ⟨rfl, _, hmeas, seen ++ [i], u, rfl, by simp [Cov, Fr.only], hx5, hm5, hi5, hst⟩
      · have a := of_decide_eq_false a
        rw [if_neg a] at hst
        refine VW.skip ?_
        exact ⟨_, hmeas, seen ++ [i], b, rfl, by simp [Cov, Fr.only], hx5, hm5, hi5, hst⟩
  rintro e F2 H6 ⟨rfl, hcov, hx6⟩
  refine VW.sub hcov (VW.seq (VW.reg ?_))
  refine VOps.rd rfl rfl ?_
  refine VOps.rd rfl rfl ?_
  exact VOps.nil ⟨rfl, VW.ret ⟨.inl rfl, _, rfl, rfl, hx6⟩⟩
end
end Go.Proofs.Ytlclbfkdaemilaa
