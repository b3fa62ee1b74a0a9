/- The number that stands most often in a list, of several the least: what it is; the document's function. -/
import Derived.Test.YtlclbfkdaemilaaVmQ
import Derived.Test.YtlclbfkdaemilaaFnE
import Derived.Test.YtlclbfkdaemilaaFnG
import Derived.Test.YtlclbfkdaemilaaAt
import Derived.Test.YtlclbfkdaemilaaLyD
namespace Go.Proofs.Ytlclbfkdaemilaa
set_option linter.unusedSimpArgs false
set_option linter.unusedVariables false
open Go Go.Vm Go.Proofs
set_option maxRecDepth 100000
set_option maxHeartbeats 1000000

def cntI (ks : List Int) (n : Int) : Nat := ks.countP fun k => decide (k = n)
def bestN (ks : List Int) : Nat → Int × Nat
  | 0 => (-1, 0)
  | m + 1 => if (bestN ks m).2 < cntI ks m then ((m : Int), cntI ks m) else bestN ks m
def mostS (ks : List Int) : Int := (bestN ks 257).1
def IsMost (ks : List Int) (m : Int) : Prop := (ks = [] ∧ m = -1) ∨ (m ∈ ks ∧ ∀ k ∈ ks, cntI ks k ≤ cntI ks m ∧ (cntI ks k = cntI ks m → m ≤ k))
theorem cntI_pos {ks : List Int} {n : Int} : 0 < cntI ks n ↔ n ∈ ks := by
  unfold cntI
  rw [List.countP_pos_iff]
  constructor
  · rintro ⟨a, h1, h2⟩; have := of_decide_eq_true h2; rw [← this]; exact h1
  · intro h; exact ⟨n, h, by simp⟩
theorem bestN_spec (ks : List Int) : ∀ m, ((bestN ks m).2 = 0 ∧ (bestN ks m).1 = -1 ∧ ∀ k : Nat, k < m → cntI ks k = 0) ∨
    (∃ b : Nat, (bestN ks m).1 = b ∧ b < m ∧ (bestN ks m).2 = cntI ks b ∧ 0 < cntI ks b ∧ ∀ k : Nat, k < m → cntI ks k ≤ cntI ks b ∧ (cntI ks k = cntI ks b → b ≤ k))
  | 0 => .inl ⟨rfl, rfl, fun k hk => by omega⟩
  | m + 1 => by
    have ih := bestN_spec ks m
    unfold bestN
    by_cases h : (bestN ks m).2 < cntI ks m
    · rw [if_pos h]
      right
      refine ⟨m, rfl, by omega, rfl, by omega, fun k hk => ?_⟩
      by_cases e : k = m
      · subst e; omega
      · rcases ih with ⟨h1, h2, h3⟩ | ⟨b, h1, h2, h3, h4, h5⟩
        · have := h3 k (by omega); omega
        · have := (h5 k (by omega)).1; omega
    · rw [if_neg h]
      rcases ih with ⟨h1, h2, h3⟩ | ⟨b, h1, h2, h3, h4, h5⟩
      · left
        refine ⟨h1, h2, fun k hk => ?_⟩
        by_cases e : k = m
        · subst e; omega
        · exact h3 k (by omega)
      · right
        refine ⟨b, h1, by omega, h3, h4, fun k hk => ?_⟩
        by_cases e : k = m
        · subst e; omega
        · exact h5 k (by omega)
theorem most_unique {ks : List Int} {m : Int} (hk : ∀ k ∈ ks, 0 ≤ k ∧ k ≤ 256) (h : IsMost ks m) : mostS ks = m := by
  unfold mostS
  rcases bestN_spec ks 257 with ⟨h1, h2, h3⟩ | ⟨b, h1, h2, h3, h4, h5⟩
  · rcases h with ⟨rfl, rfl⟩ | ⟨hm, _⟩
    · exact h2
    · have := hk m hm
      have h4 := h3 m.toNat (by omega)
      rw [show ((m.toNat : Nat) : Int) = m by omega] at h4
      have := cntI_pos.2 hm
      omega
  · have hb := cntI_pos.1 h4
    rcases h with ⟨rfl, rfl⟩ | ⟨hm, hm2⟩
    · cases hb
    · have h6 := hm2 _ hb
      have := hk m hm
      have h7 := h5 m.toNat (by omega)
      rw [show ((m.toNat : Nat) : Int) = m by omega] at h7
      rw [h1]
      omega
theorem mostS_congr {ks ls : List Int} (h : ∀ n : Nat, cntI ks n = cntI ls n) : mostS ks = mostS ls := by
  unfold mostS
  have : ∀ m, bestN ks m = bestN ls m := by
    intro m
    induction m with
    | zero => rfl
    | succ m ih => unfold bestN; rw [ih, h m]
  rw [this]
theorem mostS_range (ks : List Int) : -1 ≤ mostS ks ∧ mostS ks ≤ 256 := by
  unfold mostS
  rcases bestN_spec ks 257 with ⟨h1, h2, h3⟩ | ⟨b, h1, h2, h3, h4, h5⟩ <;> omega
theorem mostS_mem {ks : List Int} (h : mostS ks ≠ -1) : mostS ks ∈ ks := by
  unfold mostS at *
  rcases bestN_spec ks 257 with ⟨h1, h2, h3⟩ | ⟨b, h1, h2, h3, h4, h5⟩
  · exact absurd h2 h
  · rw [h1]; exact cntI_pos.1 h4
theorem cntI_take {ks : List Int} {k : Nat} (h : k < ks.length) (n : Int) : cntI (ks.take (k + 1)) n = cntI (ks.take k) n + if ks.getD k 0 = n then 1 else 0 := by
  unfold cntI
  rw [List.take_add_one, List.countP_append]
  have : ks[k]? = some (ks.getD k 0) := by rw [List.getD_eq_getElem?_getD, List.getElem?_eq_getElem h]; rfl
  rw [this]
  simp [List.countP_cons]
theorem cntI_le (ks : List Int) (n : Int) : cntI ks n ≤ ks.length := List.countP_le_length

section
variable {H : Hp} {p : Option PA} {c : Nat} {ks : List Int}
theorem most43 (h : Sl H p 1 (intEs ks)) (hl : ks.length ≤ maxLen) : FnV Try.prog 43 [.sl p ks.length c] H fun r H' => r = .int .i64 (mostS ks) ∧ H' = H := by
  refine FnV.enterRow ok43 (by show 1 ≤ 32; decide) fun B => ?_
  dsimp only [w43]
  have hmx : maxLen = 9223372036854775807 := rfl
  refine VW.seq (VW.reg ?_)
  refine VOps.rd rfl rfl ?_
  refine VOps.nil ⟨rfl, ?_⟩
  refine VW.seq (VW.reg ?_)
  refine VOps.rd rfl rfl ?_
  refine VOps.nil ⟨rfl, ?_⟩
  refine VW.seq (VW.reg ?_)
  refine VOps.rd rfl rfl ?_
  refine VOps.nil ⟨rfl, ?_⟩
  refine VW.seq (VW.seq (VW.reg ?_))
  refine VOps.rd rfl rfl ?_
  refine VOps.nil ⟨rfl, ?_⟩
  show VW _ _ _ _ [(0, .sl p ks.length c), (3, .int .i64 (-1)), (4, .int .i64 0), (5, .int .i64 0)] _ _
  refine VW.mono (Q := fun e F2 Hx => e = .normal ∧ Cov [(3, .int .i64 (mostS ks))] F2 ∧ Hx = H) ?_ ?_
  · refine VW.block ?_
    refine VW.loop (fun m F' H' => ∃ n : Nat, n ≤ 257 ∧ m = 257 - n ∧ F' = [(0, .sl p ks.length c), (3, .int .i64 (bestN ks n).1), (4, .int .i64 (bestN ks n).2), (5, .int .i64 n)] ∧ H' = H) 257
      ⟨0, by omega, rfl, rfl, rfl⟩ ?_
    rintro m F' H' ⟨n, hn, rfl, rfl, rfl⟩
    by_cases hlt : n < 257
    · have hvn := wrap_id (x := (n : Int) + 1) (by omega) (by omega)
      have hn1 : (n : Int) ≤ 256 := by omega
      refine VW.seq (VW.seq (VW.reg ?_))
      refine VOps.rd rfl rfl ?_
      refine VOps.rd rfl rfl ?_
      refine VOps.nil ⟨rfl, VW.condT (by simp [Fr.only, hn1]) (VW.skip ?_)⟩
      refine VW.seq (VW.block (VW.seq (VW.reg ?_)))
      refine VOps.rd rfl rfl ?_
      refine VOps.nil ⟨rfl, ?_⟩
      refine VW.seq (VW.seq (VW.reg ?_))
      refine VOps.rd rfl rfl ?_
      refine VOps.nil ⟨rfl, ?_⟩
      show VW _ _ _ _ [(0, .sl p ks.length c), (3, .int .i64 (bestN ks n).1), (4, .int .i64 (bestN ks n).2), (5, .int .i64 n), (6, .int .i64 0), (7, .int .i64 0)] _ _
      refine VW.mono (Q := fun e F2 Hx => e = .normal ∧ Cov [(0, .sl p ks.length c), (3, .int .i64 (bestN ks n).1), (4, .int .i64 (bestN ks n).2), (5, .int .i64 n), (6, .int .i64 (cntI ks n))] F2 ∧ Hx = H') ?_ ?_
      · refine VW.block ?_
        refine VW.loop (fun m F' Hx => ∃ k : Nat, k ≤ ks.length ∧ m = ks.length - k ∧ F' = [(0, .sl p ks.length c), (3, .int .i64 (bestN ks n).1), (4, .int .i64 (bestN ks n).2), (5, .int .i64 n), (6, .int .i64 (cntI (ks.take k) n)), (7, .int .i64 k)] ∧ Hx = H') ks.length
          ⟨0, by omega, rfl, by simp [cntI], rfl⟩ ?_
        rintro m F' Hx ⟨k, hk, rfl, rfl, rfl⟩
        by_cases hkl : k < ks.length
        · obtain ⟨q, rfl, e1, e2⟩ := sl_int h (k := k) hkl
          have hct := cntI_take hkl (n : Int)
          have hle := cntI_le (ks.take k) n
          rw [List.length_take] at hle
          have hvk := wrap_id (x := (k : Int) + 1) (by omega) (by omega)
          generalize ks.getD k 0 = x at *
          refine VW.seq (VW.seq (VW.reg ?_))
          refine VOps.rd rfl rfl ?_
          refine VOps.rd rfl rfl ?_
          refine VOps.rd rfl rfl ?_
          refine VOps.rd rfl rfl ?_
          refine VOps.nil ⟨rfl, VW.condT (by simp [Fr.only, hkl]) (VW.skip ?_)⟩
          refine VW.seq (VW.block (VW.seq (VW.reg ?_)))
          refine VOps.rd rfl rfl ?_
          refine VOps.rd rfl rfl ?_
          refine VOps.rd (v := .ptr (some (elp (some q) k))) rfl (by simp [Fr.only, e1, hkl]) ?_
          refine VOps.rd (v := .int .i64 x) rfl (by simp [e2]) ?_
          refine VOps.rd rfl rfl ?_
          refine VOps.rd (v := .bool (decide (x = n))) rfl (by simp [Fr.only]; rfl) ?_
          refine VOps.nil ⟨rfl, ?_⟩
          refine VW.mono (Q := fun e F2 Hy => e = .normal ∧ Cov [(0, .sl (some q) ks.length c), (3, .int .i64 (bestN ks n).1), (4, .int .i64 (bestN ks n).2), (5, .int .i64 n), (6, .int .i64 (cntI (ks.take (k + 1)) n)), (7, .int .i64 k)] F2 ∧ Hy = Hx) ?_ ?_
          · refine VW.cond rfl (fun a => ?_) (fun a => ?_)
            · have a := of_decide_eq_true a
              rw [if_pos a] at hct
              have hvc := wrap_id (x := (cntI (ks.take k) n : Int) + 1) (by omega) (by omega)
              refine VW.reg ?_
              refine VOps.rd rfl rfl ?_
              refine VOps.rd (v := .int .i64 ((cntI (ks.take k) n : Int) + 1)) rfl (by simp [Fr.only, hvc]) ?_
              refine VOps.rd rfl rfl ?_
              exact VOps.nil ⟨rfl, rfl, by rw [hct]; simp [Cov, Fr.only], rfl⟩
            · have a := of_decide_eq_false a
              rw [if_neg a] at hct
              exact VW.skip ⟨rfl, by rw [hct]; simp [Cov, Fr.only], rfl⟩
          rintro e F2 Hy ⟨rfl, hcov, rfl⟩
          refine VW.sub hcov (VW.reg ?_)
          refine VOps.rd rfl rfl ?_
          refine VOps.rd rfl rfl ?_
          refine VOps.rd rfl rfl ?_
          exact VOps.nil ⟨rfl, ks.length - (k + 1), by omega, k + 1, by omega, rfl, by simp [Fr.only, hvk], rfl⟩
        · have : k = ks.length := by omega
          subst this
          refine VW.seq (VW.seq (VW.reg ?_))
          refine VOps.rd rfl rfl ?_
          refine VOps.rd rfl rfl ?_
          refine VOps.rd rfl rfl ?_
          refine VOps.rd rfl rfl ?_
          refine VOps.nil ⟨rfl, VW.condF (by simp [Fr.only]) (VW.exit ?_)⟩
          simp only [then_normal, then_ret, then_exit, inB_normal, inB_ret, inB_exit, reduceIte, Nat.reduceEqDiff]
          rw [List.take_length]
          exact ⟨trivial, by simp [Cov, Fr.only], trivial⟩
      rintro e F2 Hx ⟨rfl, hcov, rfl⟩
      refine VW.sub hcov ?_
      clear hcov
      have hbn : bestN ks (n + 1) = if (bestN ks n).2 < cntI ks n then ((n : Int), cntI ks n) else bestN ks n := rfl
      refine VW.seq (VW.reg ?_)
      refine VOps.rd rfl rfl ?_
      refine VOps.rd rfl rfl ?_
      refine VOps.rd rfl rfl ?_
      refine VOps.nil ⟨rfl, ?_⟩
      have leave : ∀ F, Cov [(0, .sl p ks.length c), (3, .int .i64 (bestN ks (n + 1)).1), (4, .int .i64 (bestN ks (n + 1)).2), (5, .int .i64 n)] F →
          VW Try.prog B 32 (VC.reg [VI.rd 10 none (VOp.mv (Od.t 5)), VI.rd 11 none (VOp.bin (BinOp.add) (Od.t 10) (Od.c (VV.int (IntKind.i64) 1))), VI.rd 5 none (VOp.mv (Od.t 11))] [0, 3, 4, 5]) F Hx
            (fun e F2 H' => e = .normal ∧ F2 = [(0, .sl p ks.length c), (3, .int .i64 (bestN ks (n + 1)).1), (4, .int .i64 (bestN ks (n + 1)).2), (5, .int .i64 ((n : Int) + 1))] ∧ H' = Hx) := by
        intro F hc
        refine VW.sub hc (VW.reg ?_)
        refine VOps.rd rfl rfl ?_
        refine VOps.rd rfl rfl ?_
        refine VOps.rd rfl rfl ?_
        exact VOps.nil ⟨rfl, rfl, by simp [Fr.only, hvn], rfl⟩
      have fin : ∀ e F2 H2, (e = Exit.normal ∧ F2 = [(0, VV.sl p ks.length c), (3, .int .i64 (bestN ks (n + 1)).1), (4, .int .i64 (bestN ks (n + 1)).2), (5, .int .i64 ((n : Int) + 1))] ∧ H2 = Hx) → Then (fun F2 H2 => ∃ m, m < 257 - n ∧ ∃ n : Nat, n ≤ 257 ∧ m = 257 - n ∧ F2 = [(0, .sl p ks.length c), (3, .int .i64 (bestN ks n).1), (4, .int .i64 (bestN ks n).2), (5, .int .i64 n)] ∧ H2 = Hx) (inB 0 fun e F2 H3 => e = .normal ∧ Cov [(3, .int .i64 (mostS ks))] F2 ∧ H3 = Hx) e F2 H2 := by
        rintro e F2 H2 ⟨rfl, rfl, rfl⟩
        exact ⟨257 - (n + 1), by omega, n + 1, by omega, rfl, by simp, rfl⟩
      refine VW.cond rfl (fun a => ?_) (fun a => ?_)
      · have a : (bestN ks n).2 < cntI ks n := by have := of_decide_eq_true a; omega
        rw [if_pos a] at hbn
        refine VW.seq (VW.reg ?_)
        refine VOps.rd rfl rfl ?_
        refine VOps.rd rfl rfl ?_
        refine VOps.nil ⟨rfl, ?_⟩
        refine VW.reg ?_
        refine VOps.rd rfl rfl ?_
        refine VOps.rd rfl rfl ?_
        refine VOps.nil ⟨rfl, (leave _ ?_).mono fin⟩
        rw [hbn]; simp [Cov, Fr.only]
      · have a : ¬ (bestN ks n).2 < cntI ks n := by have := of_decide_eq_false a; omega
        rw [if_neg a] at hbn
        refine VW.skip ((leave _ ?_).mono fin)
        rw [hbn]; simp [Cov, Fr.only]
    · have : n = 257 := by omega
      subst this
      refine VW.seq (VW.seq (VW.reg ?_))
      refine VOps.rd rfl rfl ?_
      refine VOps.rd rfl rfl ?_
      refine VOps.nil ⟨rfl, VW.condF (by simp [Fr.only]) (VW.exit ?_)⟩
      simp only [then_normal, then_ret, then_exit, inB_normal, inB_ret, inB_exit, reduceIte, Nat.reduceEqDiff]
      exact ⟨trivial, by simp [Cov, Fr.only, mostS], trivial⟩
  rintro e F2 Hx ⟨rfl, hcov, rfl⟩
  refine VW.sub hcov (VW.seq (VW.reg ?_))
  refine VOps.rd rfl rfl ?_
  refine VOps.rd rfl rfl ?_
  exact VOps.nil ⟨rfl, VW.ret ⟨.inl rfl, _, rfl, rfl, rfl⟩⟩
end
end Go.Proofs.Ytlclbfkdaemilaa
