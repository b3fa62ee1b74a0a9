/- ImageSums over the canonical heap. -/
import Derived.Test.YtbcaceeiehjplacGreatDoorImA
import Derived.Test.YtbcaceeiehjplacGreatDoorImL
import Derived.Test.YtbcaceeiehjplacGreatDoorPIg
import Derived.Test.YtbcaceeiehjplacGreatDoorWmZi
namespace Go.Proofs.YtbcaceeiehjplacGreatDoor
set_option linter.unusedSimpArgs false
set_option linter.unusedVariables false
open Go Go.Wm Go.Proofs Go.RowKit
set_option maxRecDepth 100000
set_option maxHeartbeats 4000000
namespace Ims
theorem xorBv {w a b : Nat} (ha : a < 2 ^ w) (hb : b < 2 ^ w) : (BitVec.ofInt w (a : Int) ^^^ BitVec.ofInt w (b : Int)).toNat = a ^^^ b := by
  rw [BitVec.toNat_xor, BitVec.ofInt_natCast, BitVec.ofInt_natCast, BitVec.toNat_ofNat, BitVec.toNat_ofNat, Nat.mod_eq_of_lt ha, Nat.mod_eq_of_lt hb]
theorem wrap32 {n : Nat} (h : n < 4294967296) : IntKind.u32.wrap (n : Int) = n := by
  simp only [IntKind.wrap, IntKind.signed, IntKind.bits]
  simp
  omega
theorem wrap64 {n : Nat} (h : n < 9223372036854775808) : IntKind.i64.wrap (n : Int) = n := by
  simp only [IntKind.wrap, IntKind.signed, IntKind.bits]
  simp
  omega
open Im
theorem take_one {s : List UInt8} {k : Nat} {c : UInt8} (h : s[k]? = some c) : s.take (k + 1) = s.take k ++ [c] := by rw [List.take_add_one, h]; rfl
theorem sum_one {s : List UInt8} {c : UInt8} {n : Nat} : sumFrom n (s ++ [c]) = Im.step (sumFrom n s) c := by
  unfold sumFrom
  rw [List.foldl_append, List.foldl_cons, List.foldl_nil]
theorem take_step {s : List UInt8} {k : Nat} {c : UInt8} {n : Nat} (h : s[k]? = some c) : sumFrom n (s.take (k + 1)) = Im.step (sumFrom n (s.take k)) c := by
  rw [take_one h, sum_one]
theorem stepU {n : Nat} {c : UInt8} (h : n < 4294967296) : wrapK .u32 (wrapK .u32 (((BitVec.ofInt IntKind.u32.bits (n : Int) ^^^ BitVec.ofInt IntKind.u32.bits (wrapK .u32 (c.toNat : Int))).toNat : Nat) : Int) * 16777619) = (Im.step n c : Int) := by
  have hc := c.toNat_lt
  have hs : Im.step n c = (n ^^^ c.toNat) * 16777619 % 4294967296 := by unfold Im.step; exact Eq.refl _
  rw [hs]
  have e := xorBv (w := IntKind.u32.bits) (a := n) (b := c.toNat) h (show c.toNat < 2 ^ 32 by omega)
  rw [wrapK_eq, wrapK_eq, wrapK_eq, wrap32 (n := c.toNat) (by omega), e, wrap32 (Nat.xor_lt_two_pow (n := 32) h (by omega))]
  simp only [IntKind.wrap, IntKind.signed, IntKind.bits]
  simp
theorem stepI {n : Nat} {c : UInt8} (h : n < 4294967296) : Int.tmod (wrapK .i64 (wrapK .i64 (((BitVec.ofInt IntKind.i64.bits (n : Int) ^^^ BitVec.ofInt IntKind.i64.bits (wrapK .i64 (c.toNat : Int))).toNat : Nat) : Int) * 16777619)) 4294967296 = (Im.step n c : Int) := by
  have hc := c.toNat_lt
  have hs : Im.step n c = (n ^^^ c.toNat) * 16777619 % 4294967296 := by unfold Im.step; exact Eq.refl _
  rw [hs]
  have hx : n ^^^ c.toNat < 4294967296 := Nat.xor_lt_two_pow (n := 32) h (by omega)
  have e := xorBv (w := IntKind.i64.bits) (a := n) (b := c.toNat) (show n < 2 ^ 64 by omega) (show c.toNat < 2 ^ 64 by omega)
  rw [wrapK_eq, wrapK_eq, wrapK_eq, wrap64 (n := c.toNat) (by omega), e, wrap64 (n := n ^^^ c.toNat) (by omega)]
  rw [show (((n ^^^ c.toNat : Nat) : Int) * 16777619) = (((n ^^^ c.toNat) * 16777619 : Nat) : Int) by rw [Int.natCast_mul]; rfl, wrap64 (by omega), Int.tmod_eq_emod_of_nonneg (by omega)]
  rfl
theorem mixed : Tryz.prog.follows .mixedOrders = true := by kernel_rfl
theorem sum {H : Hp} (s : List UInt8) (hs : s.length ≤ 9223372036854775807) : FnV Tryz.prog 4 [.str s] H fun r H' => r = .int .u32 (Im.sum s) ∧ H' = H := by
  refine FnV.enterRow ok4 (Nat.le_of_ble_eq_true rfl) fun B => ?_
  repeat first | refine VOps.sk rfl ?_ | (refine VOps.rd (x := .mv _) rfl (by first | exact rfl | assumption) ?_) | (refine VOps.rd rfl (by first | exact ev_add2 rfl rfl (by omega) | exact ev_sub2 rfl rfl (by omega) | exact ev_cT rfl rfl (by first | exact rfl | (dsimp only [cmpT]; omega)) | exact ev_cF rfl rfl (by first | exact rfl | (dsimp only [cmpF]; omega)) | exact ev_sT rfl rfl (by assumption) | exact ev_sF rfl rfl (by assumption) | exact ev_slst3 rfl rfl rfl (by omega) | exact ev_ixs rfl rfl (by omega) (by assumption) | exact rfl | assumption) ?_) | refine VOps.fin ?_ | refine VW.seq ?_ | refine VW.reg ?_ | refine VW.skip ?_ | refine VW.exit ?_ | refine VW.ret ?_ | refine VW.condT rfl ?_ | refine VW.condF rfl ?_ | refine VW.block ?_ | rw [then_normal] | rw [then_ret] | rw [then_exit] | rw [inB_normal] | rw [inB_ret] | rw [inB_exit, if_pos rfl] | rw [inB_exit, if_neg (by decide)]
  refine VW.loop (fun n F H' => ∃ k : Nat, n = s.length - k ∧ k ≤ s.length ∧ Cov [(0, .str s), (3, .int .u32 (sumFrom 2166136261 (s.take k))), (6, .int .i64 s.length), (7, .int .i64 k)] F ∧ F.get dslot = none ∧ H' = H) s.length ⟨0, rfl, Nat.zero_le _, ⟨rfl, rfl, rfl, rfl, trivial⟩, rfl, rfl⟩ ?_
  rintro n F H' ⟨k, rfl, hk, hc, hd, rfl⟩
  refine VW.cov hc hd rfl ?_
  by_cases hkl : k < s.length
  · obtain ⟨c, hcc⟩ : ∃ c, s[((k : Nat) : Int).toNat]? = some c := ⟨_, List.getElem?_eq_getElem (by rw [Int.toNat_natCast]; exact hkl)⟩
    have hlt : sumFrom 2166136261 (s.take k) < 4294967296 := sumFrom_lt (by decide) _
    have hc8 := c.toNat_lt
    repeat first | refine VOps.sk rfl ?_ | (refine VOps.rd (x := .mv _) rfl (by first | exact rfl | assumption) ?_) | (refine VOps.rd rfl (by first | exact ev_add2 rfl rfl (by omega) | exact ev_sub2 rfl rfl (by omega) | exact ev_cT rfl rfl (by first | exact rfl | (dsimp only [cmpT]; omega)) | exact ev_cF rfl rfl (by first | exact rfl | (dsimp only [cmpF]; omega)) | exact ev_sT rfl rfl (by assumption) | exact ev_sF rfl rfl (by assumption) | exact ev_slst3 rfl rfl rfl (by omega) | exact ev_ixs rfl rfl (by omega) (by assumption) | exact rfl | assumption) ?_) | refine VOps.fin ?_ | refine VW.seq ?_ | refine VW.reg ?_ | refine VW.skip ?_ | refine VW.exit ?_ | refine VW.ret ?_ | refine VW.condT rfl ?_ | refine VW.condF rfl ?_ | refine VW.block ?_ | rw [then_normal] | rw [then_ret] | rw [then_exit] | rw [inB_normal] | rw [inB_ret] | rw [inB_exit, if_pos rfl] | rw [inB_exit, if_neg (by decide)]
    exact ⟨_, by omega, k + 1, rfl, by omega, ⟨rfl, by rw [take_step (by rw [Int.toNat_natCast] at hcc; exact hcc), ← stepU hlt]; rfl, rfl, by rw [Int.natCast_add]; rfl, trivial⟩, rfl, rfl⟩
  · repeat first | refine VOps.sk rfl ?_ | (refine VOps.rd (x := .mv _) rfl (by first | exact rfl | assumption) ?_) | (refine VOps.rd rfl (by first | exact ev_add2 rfl rfl (by omega) | exact ev_sub2 rfl rfl (by omega) | exact ev_cT rfl rfl (by first | exact rfl | (dsimp only [cmpT]; omega)) | exact ev_cF rfl rfl (by first | exact rfl | (dsimp only [cmpF]; omega)) | exact ev_sT rfl rfl (by assumption) | exact ev_sF rfl rfl (by assumption) | exact ev_slst3 rfl rfl rfl (by omega) | exact ev_ixs rfl rfl (by omega) (by assumption) | exact rfl | assumption) ?_) | refine VOps.fin ?_ | refine VW.seq ?_ | refine VW.reg ?_ | refine VW.skip ?_ | refine VW.exit ?_ | refine VW.ret ?_ | refine VW.condT rfl ?_ | refine VW.condF rfl ?_ | refine VW.block ?_ | rw [then_normal] | rw [then_ret] | rw [then_exit] | rw [inB_normal] | rw [inB_ret] | rw [inB_exit, if_pos rfl] | rw [inB_exit, if_neg (by decide)]
    refine ⟨.inl rfl, rfl, _, rfl, ?_, rfl⟩
    rw [List.take_of_length_le (by omega)]
    rfl
theorem rsum {H : Hp} (s : List UInt8) (hs : s.length ≤ 9223372036854775807) : FnV Tryz.prog 5 [.str s] H fun r H' => r = .int .u32 (Im.sum s) ∧ H' = H := by
  refine FnV.enterRow ok5 (Nat.le_of_ble_eq_true rfl) fun B => ?_
  repeat first | refine VOps.sk rfl ?_ | (refine VOps.rd (x := .mv _) rfl (by first | exact rfl | assumption) ?_) | (refine VOps.rd rfl (by first | exact ev_add2 rfl rfl (by omega) | exact ev_sub2 rfl rfl (by omega) | exact ev_cT rfl rfl (by first | exact rfl | (dsimp only [cmpT]; omega)) | exact ev_cF rfl rfl (by first | exact rfl | (dsimp only [cmpF]; omega)) | exact ev_sT rfl rfl (by assumption) | exact ev_sF rfl rfl (by assumption) | exact ev_slst3 rfl rfl rfl (by omega) | exact ev_ixs rfl rfl (by omega) (by assumption) | exact rfl | assumption) ?_) | refine VOps.fin ?_ | refine VW.seq ?_ | refine VW.reg ?_ | refine VW.skip ?_ | refine VW.exit ?_ | refine VW.ret ?_ | refine VW.condT rfl ?_ | refine VW.condF rfl ?_ | refine VW.block ?_ | rw [then_normal] | rw [then_ret] | rw [then_exit] | rw [inB_normal] | rw [inB_ret] | rw [inB_exit, if_pos rfl] | rw [inB_exit, if_neg (by decide)]
  refine VW.loop (fun n F H' => ∃ k : Nat, n = s.length - k ∧ k ≤ s.length ∧ Cov [(0, .str s), (3, .int .i64 (sumFrom 2166136261 (s.take k))), (4, .int .i64 k)] F ∧ F.get dslot = none ∧ H' = H) s.length ⟨0, rfl, Nat.zero_le _, ⟨rfl, rfl, rfl, trivial⟩, rfl, rfl⟩ ?_
  rintro n F H' ⟨k, rfl, hk, hc, hd, rfl⟩
  refine VW.cov hc hd rfl ?_
  have hlt : sumFrom 2166136261 (s.take k) < 4294967296 := sumFrom_lt (by decide) _
  by_cases hkl : k < s.length
  · obtain ⟨c, hcc⟩ : ∃ c, s[((k : Nat) : Int).toNat]? = some c := ⟨_, List.getElem?_eq_getElem (by rw [Int.toNat_natCast]; exact hkl)⟩
    have hc8 := c.toNat_lt
    have hx : sumFrom 2166136261 (s.take k) ^^^ c.toNat < 4294967296 := xor_lt hlt c
    repeat first | refine VOps.sk rfl ?_ | (refine VOps.rd (x := .mv _) rfl (by first | exact rfl | assumption) ?_) | (refine VOps.rd rfl (by first | exact ev_add2 rfl rfl (by omega) | exact ev_sub2 rfl rfl (by omega) | exact ev_cT rfl rfl (by first | exact rfl | (dsimp only [cmpT]; omega)) | exact ev_cF rfl rfl (by first | exact rfl | (dsimp only [cmpF]; omega)) | exact ev_sT rfl rfl (by assumption) | exact ev_sF rfl rfl (by assumption) | exact ev_slst3 rfl rfl rfl (by omega) | exact ev_ixs rfl rfl (by omega) (by assumption) | exact rfl | assumption) ?_) | refine VOps.fin ?_ | refine VW.seq ?_ | refine VW.reg ?_ | refine VW.skip ?_ | refine VW.exit ?_ | refine VW.ret ?_ | refine VW.condT rfl ?_ | refine VW.condF rfl ?_ | refine VW.block ?_ | rw [then_normal] | rw [then_ret] | rw [then_exit] | rw [inB_normal] | rw [inB_ret] | rw [inB_exit, if_pos rfl] | rw [inB_exit, if_neg (by decide)]
    exact ⟨_, by omega, k + 1, rfl, by omega, ⟨rfl, by rw [take_step (by rw [Int.toNat_natCast] at hcc; exact hcc), ← stepI hlt]; rfl, by rw [Int.natCast_add]; rfl, trivial⟩, rfl, rfl⟩
  · have hall : s.take k = s := List.take_of_length_le (by omega)
    rw [hall] at hlt ⊢
    repeat first | refine VOps.sk rfl ?_ | (refine VOps.rd (x := .mv _) rfl (by first | exact rfl | assumption) ?_) | (refine VOps.rd rfl (by first | exact ev_add2 rfl rfl (by omega) | exact ev_sub2 rfl rfl (by omega) | exact ev_cT rfl rfl (by first | exact rfl | (dsimp only [cmpT]; omega)) | exact ev_cF rfl rfl (by first | exact rfl | (dsimp only [cmpF]; omega)) | exact ev_sT rfl rfl (by assumption) | exact ev_sF rfl rfl (by assumption) | exact ev_slst3 rfl rfl rfl (by omega) | exact ev_ixs rfl rfl (by omega) (by assumption) | exact rfl | assumption) ?_) | refine VOps.fin ?_ | refine VW.seq ?_ | refine VW.reg ?_ | refine VW.skip ?_ | refine VW.exit ?_ | refine VW.ret ?_ | refine VW.condT rfl ?_ | refine VW.condF rfl ?_ | refine VW.block ?_ | rw [then_normal] | rw [then_ret] | rw [then_exit] | rw [inB_normal] | rw [inB_ret] | rw [inB_exit, if_pos rfl] | rw [inB_exit, if_neg (by decide)]
    refine ⟨.inl rfl, rfl, _, rfl, ?_, rfl⟩
    rw [wrapK_eq, wrap32 hlt]
    rfl
def pickN (c : Int) (n : Nat) : Nat := ((if c < 0 then -(c + 1) else c) % n).toNat
theorem pick {H : Hp} {c : Int} {n : Nat} (h1 : -9223372036854775808 ≤ c) (h2 : c ≤ 9223372036854775807) (hn : 0 < n) (hn2 : n ≤ 9223372036854775807) : FnV Tryz.prog 7 [.int .i64 c, .int .i64 n] H fun r H' => r = .int .i64 (pickN c n) ∧ H' = H := by
  refine FnV.enterRow ok7 (Nat.le_of_ble_eq_true rfl) fun B => ?_
  have hrem : ∀ (E : Fr) (K : Gt) (d : Int), 0 ≤ d → E.get 10 = some (.int .i64 d) → E.get 11 = some (.int .i64 n) → (VOp.bin .rem (.t 10) (.t 11)).ev E K = some (.int .i64 ((d % n).toNat : Nat)) := fun E K d hd a1 a2 => by
    refine ev_bin (x := .t 10) (y := .t 11) (k := .i64) (a := d) (b := n) a1 a2 ?_
    have h0 : ¬ ((n : Int) = 0) := by omega
    have h3 : (((d % (n : Int)).toNat : Nat) : Int) = d % n := Int.toNat_of_nonneg (Int.emod_nonneg _ h0)
    simp only [iarith, h0, if_false]
    rw [h3, Int.tmod_eq_emod_of_nonneg hd]
  by_cases hc : c < 0
  · have hneg : wrapK .i64 (ineg (c + 1)) = -(c + 1) := by
      rw [wrapK_eq, ineg_eq]
      simp [IntKind.wrap, IntKind.bits, IntKind.signed]; omega
    repeat first | refine VOps.sk rfl ?_ | (refine VOps.rd (x := .mv _) rfl (by first | exact rfl | assumption) ?_) | (refine VOps.rd rfl (by first | exact ev_add2 rfl rfl (by omega) | exact ev_sub2 rfl rfl (by omega) | exact ev_cT rfl rfl (by first | exact rfl | (dsimp only [cmpT]; omega)) | exact ev_cF rfl rfl (by first | exact rfl | (dsimp only [cmpF]; omega)) | exact ev_sT rfl rfl (by assumption) | exact ev_sF rfl rfl (by assumption) | exact ev_slst3 rfl rfl rfl (by omega) | exact ev_ixs rfl rfl (by omega) (by assumption) | exact rfl | assumption) ?_) | refine VOps.fin ?_ | refine VW.seq ?_ | refine VW.reg ?_ | refine VW.skip ?_ | refine VW.exit ?_ | refine VW.ret ?_ | refine VW.condT rfl ?_ | refine VW.condF rfl ?_ | refine VW.block ?_ | rw [then_normal] | rw [then_ret] | rw [then_exit] | rw [inB_normal] | rw [inB_ret] | rw [inB_exit, if_pos rfl] | rw [inB_exit, if_neg (by decide)]
    rw [hneg]
    refine VOps.rd rfl (hrem _ _ _ (by omega) rfl rfl) ?_
    repeat first | refine VOps.sk rfl ?_ | (refine VOps.rd (x := .mv _) rfl (by first | exact rfl | assumption) ?_) | (refine VOps.rd rfl (by first | exact ev_add2 rfl rfl (by omega) | exact ev_sub2 rfl rfl (by omega) | exact ev_cT rfl rfl (by first | exact rfl | (dsimp only [cmpT]; omega)) | exact ev_cF rfl rfl (by first | exact rfl | (dsimp only [cmpF]; omega)) | exact ev_sT rfl rfl (by assumption) | exact ev_sF rfl rfl (by assumption) | exact ev_slst3 rfl rfl rfl (by omega) | exact ev_ixs rfl rfl (by omega) (by assumption) | exact rfl | assumption) ?_) | refine VOps.fin ?_ | refine VW.seq ?_ | refine VW.reg ?_ | refine VW.skip ?_ | refine VW.exit ?_ | refine VW.ret ?_ | refine VW.condT rfl ?_ | refine VW.condF rfl ?_ | refine VW.block ?_ | rw [then_normal] | rw [then_ret] | rw [then_exit] | rw [inB_normal] | rw [inB_ret] | rw [inB_exit, if_pos rfl] | rw [inB_exit, if_neg (by decide)]
    refine ⟨.inl rfl, rfl, _, rfl, ?_, rfl⟩
    unfold pickN
    rw [if_pos hc]
  · repeat first | refine VOps.sk rfl ?_ | (refine VOps.rd (x := .mv _) rfl (by first | exact rfl | assumption) ?_) | (refine VOps.rd rfl (by first | exact ev_add2 rfl rfl (by omega) | exact ev_sub2 rfl rfl (by omega) | exact ev_cT rfl rfl (by first | exact rfl | (dsimp only [cmpT]; omega)) | exact ev_cF rfl rfl (by first | exact rfl | (dsimp only [cmpF]; omega)) | exact ev_sT rfl rfl (by assumption) | exact ev_sF rfl rfl (by assumption) | exact ev_slst3 rfl rfl rfl (by omega) | exact ev_ixs rfl rfl (by omega) (by assumption) | exact rfl | assumption) ?_) | refine VOps.fin ?_ | refine VW.seq ?_ | refine VW.reg ?_ | refine VW.skip ?_ | refine VW.exit ?_ | refine VW.ret ?_ | refine VW.condT rfl ?_ | refine VW.condF rfl ?_ | refine VW.block ?_ | rw [then_normal] | rw [then_ret] | rw [then_exit] | rw [inB_normal] | rw [inB_ret] | rw [inB_exit, if_pos rfl] | rw [inB_exit, if_neg (by decide)]
    refine VOps.rd rfl (hrem _ _ _ (by omega) rfl rfl) ?_
    repeat first | refine VOps.sk rfl ?_ | (refine VOps.rd (x := .mv _) rfl (by first | exact rfl | assumption) ?_) | (refine VOps.rd rfl (by first | exact ev_add2 rfl rfl (by omega) | exact ev_sub2 rfl rfl (by omega) | exact ev_cT rfl rfl (by first | exact rfl | (dsimp only [cmpT]; omega)) | exact ev_cF rfl rfl (by first | exact rfl | (dsimp only [cmpF]; omega)) | exact ev_sT rfl rfl (by assumption) | exact ev_sF rfl rfl (by assumption) | exact ev_slst3 rfl rfl rfl (by omega) | exact ev_ixs rfl rfl (by omega) (by assumption) | exact rfl | assumption) ?_) | refine VOps.fin ?_ | refine VW.seq ?_ | refine VW.reg ?_ | refine VW.skip ?_ | refine VW.exit ?_ | refine VW.ret ?_ | refine VW.condT rfl ?_ | refine VW.condF rfl ?_ | refine VW.block ?_ | rw [then_normal] | rw [then_ret] | rw [then_exit] | rw [inB_normal] | rw [inB_ret] | rw [inB_exit, if_pos rfl] | rw [inB_exit, if_neg (by decide)]
    refine ⟨.inl rfl, rfl, _, rfl, ?_, rfl⟩
    unfold pickN
    rw [if_neg hc]
theorem pickN_lt {c : Int} {n : Nat} (hn : 0 < n) : pickN c n < n := by
  unfold pickN
  have h0 : (0 : Int) < n := by omega
  have := Int.emod_lt_of_pos (if c < 0 then -(c + 1) else c) h0
  have := Int.emod_nonneg (if c < 0 then -(c + 1) else c) (show (n : Int) ≠ 0 by omega)
  omega
theorem rep : TRep C6.T H0 := rep_of [] rfl (by kernel_rfl) (by kernel_rfl) (by kernel_rfl) (by kernel_rfl) (tree4 _ _ _ _)
theorem awake (G : Hp) : FnV Tryz.prog 6 [] (H0 ++ G) fun r H' => r = .bool true ∧ H' = H0 ++ G := by
  obtain ⟨H2, _, h⟩ := cut6 H0 rep
  exact FnV.besideF rfl rfl ro0 (by decide) (h.mono fun r H' hr => hr.1) G
theorem VX.rdn {P : Program} {hs : List Hp} {R : Fr → Hp → Prop} {l : List VI} {b : List (Nat × Nat)} {m d n : Nat} {g : Option (Nat × Bool)} {E : Fr} {H Hn : Hp} {x : VOp} {v : VV} (hb : b.headD (0, 0) = (n, n)) (hn : hs[n]? = some Hn) (hw : want E g = some true) (he : x.ev E Hn.g = some v) (h : VX P hs l b.tail m ((d, v) :: E) H R) : VX P hs (.rd d g x :: l) b m E H R :=
  .inr ⟨hw, v, H, ⟨rfl, fun j H1 h1 h2 hj => by
    rw [hb] at h1 h2
    obtain rfl : j = n := by simp only at h1 h2; omega
    rw [hn] at hj
    cases hj
    exact he⟩, h⟩
theorem law (G : Hp) {s : List UInt8} {a t : Int} (hs : s.length ≤ 9223372036854775807) (ha1 : -9223372036854775808 ≤ a) (ha2 : a ≤ 9223372036854775807) (ht1 : -9223372036854775808 ≤ t) (ht2 : t ≤ 9223372036854775807) :
    FnV Tryz.prog 3 [.str s, .int .i64 a, .int .i64 t] (H0 ++ G) fun r _ => r = .bool true := by
  refine FnV.enterRow ok3 (Nat.le_of_ble_eq_true rfl) fun B => ?_
  repeat first | refine VOps.sk rfl ?_ | (refine VOps.rd (x := .mv _) rfl (by first | exact rfl | assumption) ?_) | (refine VOps.rd rfl (by first | exact ev_add2 rfl rfl (by omega) | exact ev_sub2 rfl rfl (by omega) | exact ev_cT rfl rfl (by first | exact rfl | (dsimp only [cmpT]; omega)) | exact ev_cF rfl rfl (by first | exact rfl | (dsimp only [cmpF]; omega)) | exact ev_sT rfl rfl (by assumption) | exact ev_sF rfl rfl (by assumption) | exact ev_slst3 rfl rfl rfl (by omega) | exact ev_ixs rfl rfl (by omega) (by assumption) | exact rfl | assumption) ?_) | refine VOps.fin ?_ | refine VW.seq ?_ | refine VW.reg ?_ | refine VW.skip ?_ | refine VW.exit ?_ | refine VW.ret ?_ | refine VW.condT rfl ?_ | refine VW.condF rfl ?_ | refine VW.block ?_ | rw [then_normal] | rw [then_ret] | rw [then_exit] | rw [inB_normal] | rw [inB_ret] | rw [inB_exit, if_pos rfl] | rw [inB_exit, if_neg (by decide)]
  refine VOps.call rfl rfl rfl ((sum s hs).mono ?_)
  rintro r H1 ⟨rfl, rfl⟩
  repeat first | refine VOps.sk rfl ?_ | (refine VOps.rd (x := .mv _) rfl (by first | exact rfl | assumption) ?_) | (refine VOps.rd rfl (by first | exact ev_add2 rfl rfl (by omega) | exact ev_sub2 rfl rfl (by omega) | exact ev_cT rfl rfl (by first | exact rfl | (dsimp only [cmpT]; omega)) | exact ev_cF rfl rfl (by first | exact rfl | (dsimp only [cmpF]; omega)) | exact ev_sT rfl rfl (by assumption) | exact ev_sF rfl rfl (by assumption) | exact ev_slst3 rfl rfl rfl (by omega) | exact ev_ixs rfl rfl (by omega) (by assumption) | exact rfl | assumption) ?_) | refine VOps.fin ?_ | refine VW.seq ?_ | refine VW.reg ?_ | refine VW.skip ?_ | refine VW.exit ?_ | refine VW.ret ?_ | refine VW.condT rfl ?_ | refine VW.condF rfl ?_ | refine VW.block ?_ | rw [then_normal] | rw [then_ret] | rw [then_exit] | rw [inB_normal] | rw [inB_ret] | rw [inB_exit, if_pos rfl] | rw [inB_exit, if_neg (by decide)]
  refine VOps.call rfl rfl rfl ((rsum s hs).mono ?_)
  rintro r H1 ⟨rfl, rfl⟩
  by_cases h0 : s.length = 0
  · repeat first | refine VOps.sk rfl ?_ | (refine VOps.rd (x := .mv _) rfl (by first | exact rfl | assumption) ?_) | (refine VOps.rd rfl (by first | exact ev_add2 rfl rfl (by omega) | exact ev_sub2 rfl rfl (by omega) | exact ev_cT rfl rfl (by first | exact rfl | (dsimp only [cmpT]; omega)) | exact ev_cF rfl rfl (by first | exact rfl | (dsimp only [cmpF]; omega)) | exact ev_sT rfl rfl (by assumption) | exact ev_sF rfl rfl (by assumption) | exact ev_slst3 rfl rfl rfl (by omega) | exact ev_ixs rfl rfl (by omega) (by assumption) | exact rfl | assumption) ?_) | refine VOps.fin ?_ | refine VW.seq ?_ | refine VW.reg ?_ | refine VW.skip ?_ | refine VW.exit ?_ | refine VW.ret ?_ | refine VW.condT rfl ?_ | refine VW.condF rfl ?_ | refine VW.block ?_ | rw [then_normal] | rw [then_ret] | rw [then_exit] | rw [inB_normal] | rw [inB_ret] | rw [inB_exit, if_pos rfl] | rw [inB_exit, if_neg (by decide)]
    refine VOps.call rfl rfl rfl ((awake G).mono ?_)
    rintro r H1 ⟨rfl, rfl⟩
    repeat first | refine VOps.sk rfl ?_ | (refine VOps.rd (x := .mv _) rfl (by first | exact rfl | assumption) ?_) | (refine VOps.rd rfl (by first | exact ev_add2 rfl rfl (by omega) | exact ev_sub2 rfl rfl (by omega) | exact ev_cT rfl rfl (by first | exact rfl | (dsimp only [cmpT]; omega)) | exact ev_cF rfl rfl (by first | exact rfl | (dsimp only [cmpF]; omega)) | exact ev_sT rfl rfl (by assumption) | exact ev_sF rfl rfl (by assumption) | exact ev_slst3 rfl rfl rfl (by omega) | exact ev_ixs rfl rfl (by omega) (by assumption) | exact rfl | assumption) ?_) | refine VOps.fin ?_ | refine VW.seq ?_ | refine VW.reg ?_ | refine VW.skip ?_ | refine VW.exit ?_ | refine VW.ret ?_ | refine VW.condT rfl ?_ | refine VW.condF rfl ?_ | refine VW.block ?_ | rw [then_normal] | rw [then_ret] | rw [then_exit] | rw [inB_normal] | rw [inB_ret] | rw [inB_exit, if_pos rfl] | rw [inB_exit, if_neg (by decide)]
    exact ⟨.inl rfl, rfl, _, rfl, rfl⟩
  · repeat first | refine VOps.sk rfl ?_ | (refine VOps.rd (x := .mv _) rfl (by first | exact rfl | assumption) ?_) | (refine VOps.rd rfl (by first | exact ev_add2 rfl rfl (by omega) | exact ev_sub2 rfl rfl (by omega) | exact ev_cT rfl rfl (by first | exact rfl | (dsimp only [cmpT]; omega)) | exact ev_cF rfl rfl (by first | exact rfl | (dsimp only [cmpF]; omega)) | exact ev_sT rfl rfl (by assumption) | exact ev_sF rfl rfl (by assumption) | exact ev_slst3 rfl rfl rfl (by omega) | exact ev_ixs rfl rfl (by omega) (by assumption) | exact rfl | assumption) ?_) | refine VOps.fin ?_ | refine VW.seq ?_ | refine VW.reg ?_ | refine VW.skip ?_ | refine VW.exit ?_ | refine VW.ret ?_ | refine VW.condT rfl ?_ | refine VW.condF rfl ?_ | refine VW.block ?_ | rw [then_normal] | rw [then_ret] | rw [then_exit] | rw [inB_normal] | rw [inB_ret] | rw [inB_exit, if_pos rfl] | rw [inB_exit, if_neg (by decide)]
    refine VOps.call rfl rfl rfl ((pick ha1 ha2 (by omega) hs).mono ?_)
    rintro r H1 ⟨rfl, rfl⟩
    have hkn := pickN_lt (c := a) (n := s.length) (by omega)
    generalize pickN a s.length = k at hkn
    repeat first | refine VOps.sk rfl ?_ | (refine VOps.rd (x := .mv _) rfl (by first | exact rfl | assumption) ?_) | (refine VOps.rd rfl (by first | exact ev_add2 rfl rfl (by omega) | exact ev_sub2 rfl rfl (by omega) | exact ev_cT rfl rfl (by first | exact rfl | (dsimp only [cmpT]; omega)) | exact ev_cF rfl rfl (by first | exact rfl | (dsimp only [cmpF]; omega)) | exact ev_sT rfl rfl (by assumption) | exact ev_sF rfl rfl (by assumption) | exact ev_slst3 rfl rfl rfl (by omega) | exact ev_ixs rfl rfl (by omega) (by assumption) | exact rfl | assumption) ?_) | refine VOps.fin ?_ | refine VW.seq ?_ | refine VW.reg ?_ | refine VW.skip ?_ | refine VW.exit ?_ | refine VW.ret ?_ | refine VW.condT rfl ?_ | refine VW.condF rfl ?_ | refine VW.block ?_ | rw [then_normal] | rw [then_ret] | rw [then_exit] | rw [inB_normal] | rw [inB_ret] | rw [inB_exit, if_pos rfl] | rw [inB_exit, if_neg (by decide)]
    refine VOps.call rfl rfl rfl ((pick (n := 256) ht1 ht2 (by omega) (by omega)).mono ?_)
    rintro r H1 ⟨rfl, rfl⟩
    have hc := pickN_lt (c := t) (n := 256) (by omega)
    generalize pickN t 256 = cn at hc
    obtain ⟨cb, rfl⟩ : ∃ cb : UInt8, cn = cb.toNat := ⟨UInt8.ofNat cn, by rw [UInt8.toNat_ofNat']; omega⟩
    have hw8 : IntKind.u8.wrap (cb.toNat : Int) = cb.toNat := by
      simp only [IntKind.wrap, IntKind.signed, IntKind.bits]
      simp
      omega
    refine VOps.rd rfl (ev_conv rfl hw8) ?_
    repeat first | refine VOps.sk rfl ?_ | (refine VOps.rd (x := .mv _) rfl (by first | exact rfl | assumption) ?_) | (refine VOps.rd rfl (by first | exact ev_add2 rfl rfl (by omega) | exact ev_sub2 rfl rfl (by omega) | exact ev_cT rfl rfl (by first | exact rfl | (dsimp only [cmpT]; omega)) | exact ev_cF rfl rfl (by first | exact rfl | (dsimp only [cmpF]; omega)) | exact ev_sT rfl rfl (by assumption) | exact ev_sF rfl rfl (by assumption) | exact ev_slst3 rfl rfl rfl (by omega) | exact ev_ixs rfl rfl (by omega) (by assumption) | exact rfl | assumption) ?_) | refine VOps.fin ?_ | refine VW.seq ?_ | refine VW.reg ?_ | refine VW.skip ?_ | refine VW.exit ?_ | refine VW.ret ?_ | refine VW.condT rfl ?_ | refine VW.condF rfl ?_ | refine VW.block ?_ | rw [then_normal] | rw [then_ret] | rw [then_exit] | rw [inB_normal] | rw [inB_ret] | rw [inB_exit, if_pos rfl] | rw [inB_exit, if_neg (by decide)]
    have hb : s[k]? = some s[k] := List.getElem?_eq_getElem hkn
    generalize hbk : s[k] = bb at hb
    have hcat : s = s.take k ++ bb :: s.drop (k + 1) := by
      rw [← hbk, ← List.drop_eq_getElem_cons hkn, List.take_append_drop]
    have hl1 : (s.take k).length = k := by rw [List.length_take]; omega
    have hl2 : (s.drop (k + 1)).length = s.length - (k + 1) := List.length_drop
    have hturn := sum_turned (s.take k) (s.drop (k + 1)) bb cb
    rw [← hcat] at hturn
    have hrow : ∀ (E : Fr) (K : Gt) (n : Nat), E.get 29 = some (.int .u8 cb.toNat) → (VEf.mkrow 5 [.int .u8 0] 1 [(0, .t 29)]).ev E K n = some (.sl (some ⟨n, 0, 0⟩) 1 1, [(n, .row 5 .own [[.int .u8 cb.toNat]])]) := fun E K n h => by
      simp [VEf.ev, fillRows, Od.ev, h, VV.defd, VV.cells, okCells, VV.cell]
    have hbs : ∀ (E : Fr), E.get 30 = some (.sl (some ⟨(H0 ++ G).length, 0, 0⟩) 1 1) → (VOp.bstr (.t 30)).ev E ((H0 ++ G) ++ [Blk.row 5 .own [[.int .u8 cb.toNat]]]).g = some (.str [cb]) := fun E h => by
      have h2 := src_one (H := H0 ++ G) (t := 5) (md := .own) (e := [.int .u8 cb.toNat]) (z := 1) rfl
      simp only [VOp.ev, Od.ev, h, h2, bytesOf]
      simp
    refine VW.dreg [H0 ++ G, (H0 ++ G) ++ [Blk.row 5 .own [[.int .u8 cb.toNat]]]] mixed rfl ?_
    refine VX.rdp rfl (fun _ => rfl) ?_
    refine VX.rdp rfl (fun _ => rfl) ?_
    refine VX.rdp rfl (v := .str (s.take k)) (fun _ => (ev_slst3 (u := 0) (v := k) rfl rfl rfl (by omega)).trans (by simp)) ?_
    refine VX.rdp rfl (fun _ => rfl) ?_
    refine VX.ef1 rfl (hrow _ _ _ rfl) (applyU_push _ _) rfl ?_
    refine VX.rdn rfl rfl rfl (hbs _ rfl) ?_
    refine VX.rdp rfl (fun _ => ev_cat rfl rfl (by rw [hl1]; simp; omega)) ?_
    refine VX.rdp rfl (fun _ => rfl) ?_
    refine VX.rdp rfl (fun _ => rfl) ?_
    refine VX.rdp rfl (fun _ => ev_add2 rfl rfl (by omega)) ?_
    refine VX.rdp rfl (v := .str (s.drop (k + 1))) (fun _ => (ev_slst3 (u := (k : Int) + 1) (v := s.length) rfl rfl rfl (by omega)).trans (by
      rw [Int.toNat_natCast, List.take_length, show ((k : Int) + 1).toNat = k + 1 by omega])) ?_
    refine VX.rdp rfl (fun _ => ev_cat rfl rfl (by rw [List.length_append, hl1, hl2]; simp; omega)) ?_
    refine VX.rdp rfl (fun _ => rfl) ?_
    rw [show s.take k ++ [cb] ++ s.drop (k + 1) = s.take k ++ cb :: s.drop (k + 1) by simp]
    have hl3 : (s.take k ++ cb :: s.drop (k + 1)).length ≤ 9223372036854775807 := by rw [List.length_append, List.length_cons, hl1, hl2]; omega
    generalize s.take k ++ cb :: s.drop (k + 1) = d at hturn hl3
    refine VX.fin rfl ?_
    obtain ⟨G1, hG⟩ : ∃ G1, (H0 ++ G) ++ [Blk.row 5 .own [[.int .u8 cb.toNat]]] = H0 ++ G1 := ⟨_, List.append_assoc _ _ _⟩
    rw [hG]
    repeat first | refine VOps.sk rfl ?_ | (refine VOps.rd (x := .mv _) rfl (by first | exact rfl | assumption) ?_) | (refine VOps.rd rfl (by first | exact ev_add2 rfl rfl (by omega) | exact ev_sub2 rfl rfl (by omega) | exact ev_cT rfl rfl (by first | exact rfl | (dsimp only [cmpT]; omega)) | exact ev_cF rfl rfl (by first | exact rfl | (dsimp only [cmpF]; omega)) | exact ev_sT rfl rfl (by assumption) | exact ev_sF rfl rfl (by assumption) | exact ev_slst3 rfl rfl rfl (by omega) | exact ev_ixs rfl rfl (by omega) (by assumption) | exact rfl | assumption) ?_) | refine VOps.fin ?_ | refine VW.seq ?_ | refine VW.reg ?_ | refine VW.skip ?_ | refine VW.exit ?_ | refine VW.ret ?_ | refine VW.condT rfl ?_ | refine VW.condF rfl ?_ | refine VW.block ?_ | rw [then_normal] | rw [then_ret] | rw [then_exit] | rw [inB_normal] | rw [inB_ret] | rw [inB_exit, if_pos rfl] | rw [inB_exit, if_neg (by decide)]
    have hcst : Cst [H0 ++ G1, H0 ++ G1, H0 ++ G1, H0 ++ G1] (H0 ++ G1) := Cst.rep 4 _
    refine VW.dreg [H0 ++ G1, H0 ++ G1, H0 ++ G1, H0 ++ G1] mixed rfl ?_
    repeat first | refine VX.sk1 rfl ?_ | (refine VX.rdc (by assumption) (x := .mv _) rfl (by first | exact rfl | assumption) ?_) | (refine VX.rdc (by assumption) rfl (by first | exact ev_add2 rfl rfl (by omega) | exact ev_sub2 rfl rfl (by omega) | exact ev_cT rfl rfl (by first | exact rfl | (dsimp only [cmpT]; omega)) | exact ev_cF rfl rfl (by first | exact rfl | (dsimp only [cmpF]; omega)) | exact ev_sT rfl rfl (by assumption) | exact ev_sF rfl rfl (by assumption) | exact ev_slst3 rfl rfl rfl (by omega) | exact ev_ixs rfl rfl (by omega) (by assumption) | exact rfl | assumption) ?_) | refine VX.fin rfl ?_
    refine VX.callc rfl rfl rfl rfl (sum d hl3) ?_
    repeat first | refine VX.sk1 rfl ?_ | (refine VX.rdc (by assumption) (x := .mv _) rfl (by first | exact rfl | assumption) ?_) | (refine VX.rdc (by assumption) rfl (by first | exact ev_add2 rfl rfl (by omega) | exact ev_sub2 rfl rfl (by omega) | exact ev_cT rfl rfl (by first | exact rfl | (dsimp only [cmpT]; omega)) | exact ev_cF rfl rfl (by first | exact rfl | (dsimp only [cmpF]; omega)) | exact ev_sT rfl rfl (by assumption) | exact ev_sF rfl rfl (by assumption) | exact ev_slst3 rfl rfl rfl (by omega) | exact ev_ixs rfl rfl (by omega) (by assumption) | exact rfl | assumption) ?_) | refine VX.fin rfl ?_
    refine VX.callc rfl rfl rfl rfl (sum s hs) ?_
    refine VX.rdc hcst rfl (ev_eql rfl rfl) ?_
    refine VX.rdp rfl (fun _ => rfl) ?_
    refine VX.rdp rfl (fun _ => rfl) ?_
    refine VX.rdp rfl (fun _ => rfl) ?_
    refine VX.rdp rfl (fun _ => ev_ixs rfl rfl (by omega) hb) ?_
    refine VX.rdp rfl (fun _ => ev_eql rfl rfl) ?_
    have hbq : (decide ((Im.sum d : Int) = (Im.sum s : Int)) == decide ((cb.toNat : Int) = (bb.toNat : Int))) = true := by
      by_cases hq : cb = bb
      · rw [decide_eq_true (by rw [hturn.2 hq]), decide_eq_true (by rw [hq])]; rfl
      · rw [decide_eq_false (fun e => hq (hturn.1 (by omega))), decide_eq_false (fun e => hq (UInt8.toNat_inj.1 (by omega)))]; rfl
    refine VX.rdc (v := .bool true) hcst rfl (congrArg (fun b => some (VV.bool b)) hbq) ?_
    repeat first | refine VX.sk1 rfl ?_ | (refine VX.rdc (by assumption) (x := .mv _) rfl (by first | exact rfl | assumption) ?_) | (refine VX.rdc (by assumption) rfl (by first | exact ev_add2 rfl rfl (by omega) | exact ev_sub2 rfl rfl (by omega) | exact ev_cT rfl rfl (by first | exact rfl | (dsimp only [cmpT]; omega)) | exact ev_cF rfl rfl (by first | exact rfl | (dsimp only [cmpF]; omega)) | exact ev_sT rfl rfl (by assumption) | exact ev_sF rfl rfl (by assumption) | exact ev_slst3 rfl rfl rfl (by omega) | exact ev_ixs rfl rfl (by omega) (by assumption) | exact rfl | assumption) ?_) | refine VX.fin rfl ?_
    refine VX.callc rfl rfl rfl rfl (awake G1) ?_
    repeat first | refine VX.sk1 rfl ?_ | (refine VX.rdc (by assumption) (x := .mv _) rfl (by first | exact rfl | assumption) ?_) | (refine VX.rdc (by assumption) rfl (by first | exact ev_add2 rfl rfl (by omega) | exact ev_sub2 rfl rfl (by omega) | exact ev_cT rfl rfl (by first | exact rfl | (dsimp only [cmpT]; omega)) | exact ev_cF rfl rfl (by first | exact rfl | (dsimp only [cmpF]; omega)) | exact ev_sT rfl rfl (by assumption) | exact ev_sF rfl rfl (by assumption) | exact ev_slst3 rfl rfl rfl (by omega) | exact ev_ixs rfl rfl (by omega) (by assumption) | exact rfl | assumption) ?_) | refine VX.fin rfl ?_
    repeat first | refine VOps.sk rfl ?_ | (refine VOps.rd (x := .mv _) rfl (by first | exact rfl | assumption) ?_) | (refine VOps.rd rfl (by first | exact ev_add2 rfl rfl (by omega) | exact ev_sub2 rfl rfl (by omega) | exact ev_cT rfl rfl (by first | exact rfl | (dsimp only [cmpT]; omega)) | exact ev_cF rfl rfl (by first | exact rfl | (dsimp only [cmpF]; omega)) | exact ev_sT rfl rfl (by assumption) | exact ev_sF rfl rfl (by assumption) | exact ev_slst3 rfl rfl rfl (by omega) | exact ev_ixs rfl rfl (by omega) (by assumption) | exact rfl | assumption) ?_) | refine VOps.fin ?_ | refine VW.seq ?_ | refine VW.reg ?_ | refine VW.skip ?_ | refine VW.exit ?_ | refine VW.ret ?_ | refine VW.condT rfl ?_ | refine VW.condF rfl ?_ | refine VW.block ?_ | rw [then_normal] | rw [then_ret] | rw [then_exit] | rw [inB_normal] | rw [inB_ret] | rw [inB_exit, if_pos rfl] | rw [inB_exit, if_neg (by decide)]
    exact ⟨.inl rfl, rfl, _, rfl, rfl⟩
end Ims
end Go.Proofs.YtbcaceeiehjplacGreatDoor
