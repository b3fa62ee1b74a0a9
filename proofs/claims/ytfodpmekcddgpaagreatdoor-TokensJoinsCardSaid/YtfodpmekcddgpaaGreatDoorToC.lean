/- The library's functions under Split: the set of signs, where it is asked, what is trimmed. -/
import Derived.Test.YtfodpmekcddgpaaGreatDoorToA
import Derived.Test.YtfodpmekcddgpaaGreatDoorToB
import Derived.Test.YtfodpmekcddgpaaGreatDoorWmZi
import Derived.Test.YtfodpmekcddgpaaGreatDoorLz
import Derived.Test.YtfodpmekcddgpaaGreatDoorPTx
namespace Go.Proofs.YtfodpmekcddgpaaGreatDoor
set_option linter.unusedSimpArgs false
set_option linter.unusedVariables false
open Go Go.Wm Go.Wm.To Go.Proofs Go.RowKit
set_option maxRecDepth 100000
set_option maxHeartbeats 4000000
namespace Tok
def bl4 : List UInt8 := [32, 9, 10, 13]
def bl5 : List UInt8 := [32, 9, 10, 13, 39]
def tabOf : VV → List VV
  | .tup [.agg l, _] => l
  | _ => []
def t4 : List VV := tabOf C20.v
def t5 : List VV := tabOf C21.v
theorem v4 : C20.v = .tup [.agg t4, .bool true] := rfl
theorem v5 : C21.v = .tup [.agg t5, .bool true] := rfl
/-- a table tells of each sign -/
def Tab (l : List VV) (p : UInt8 → Bool) : Prop := ∀ c : UInt8, l[c.toNat]? = some (.bool (p c))
def tabB (l : List VV) (p : UInt8 → Bool) : Bool := (List.range 256).all fun n => match l[n]? with | some (.bool b) => b == p (UInt8.ofNat n) | _ => false
theorem Tab.of {l : List VV} {p : UInt8 → Bool} (h : tabB l p = true) : Tab l p := fun c => by
  have h1 := List.all_eq_true.1 h c.toNat (List.mem_range.2 c.toNat_lt)
  split at h1
  · rename_i b hb
    rw [hb, eq_of_beq h1]
    simp
  · cases h1
theorem tab4 : Tab t4 isB := Tab.of (by kernel_rfl)
theorem tab5 : Tab t5 isS := Tab.of (by kernel_rfl)
theorem len4 : t4.length = 256 := by kernel_rfl
theorem len5 : t5.length = 256 := by kernel_rfl
theorem set4 (G : Hp) : FnV Tryz.prog 58 [.str bl4] (H0 ++ G) fun r H' => r = .tup [.agg t4, .bool true] ∧ H' = H0 ++ G := by
  obtain ⟨H2, _, h⟩ := cut20 H0 (rep_of [] rfl (by kernel_rfl) (by kernel_rfl) (by kernel_rfl) (by kernel_rfl) (tree4 _ _ _ _))
  exact FnV.besideF rfl (by kernel_rfl) ro0 (by decide) (h.mono fun r H' hr => hr.1) G
theorem set5 (G : Hp) : FnV Tryz.prog 58 [.str bl5] (H0 ++ G) fun r H' => r = .tup [.agg t5, .bool true] ∧ H' = H0 ++ G := by
  obtain ⟨H2, _, h⟩ := cut21 H0 (rep_of [] rfl (by kernel_rfl) (by kernel_rfl) (by kernel_rfl) (by kernel_rfl) (tree4 _ _ _ _))
  exact FnV.besideF rfl (by kernel_rfl) ro0 (by decide) (h.mono fun r H' hr => hr.1) G
theorem runeErr (G : Hp) : FnV Tryz.prog 62 [.str bl5, .int .i32 65533] (H0 ++ G) fun r H' => r = .int .i64 (-1) ∧ H' = H0 ++ G := by
  obtain ⟨H2, _, h⟩ := cut22 H0 (rep_of [] rfl (by kernel_rfl) (by kernel_rfl) (by kernel_rfl) (by kernel_rfl) (tree4 _ _ _ _))
  exact FnV.besideF rfl (by kernel_rfl) ro0 (by decide) (h.mono fun r H' hr => hr.1) G
/-- is a sign in the set? -/
theorem contains {H : Hp} {b : Nat} {t : TypeId} {md : Wm.Mode} {l : List VV} {p : UInt8 → Bool} (hb : H[b]? = some (.row t md [l])) (hl : l.length = 256) (ht : Tab l p) (c : UInt8) :
    FnV Tryz.prog 64 [.ptr (some ⟨b, 0, 0⟩), .int .u8 c.toNat] H fun r H' => r = .bool (p c) ∧ H' = H := by
  refine FnV.enterRow ok64 (Nat.le_of_ble_eq_true rfl) fun B => ?_
  have hb' : H.g b = some (.row t md [l]) := hb
  have e1 : ∀ E : Fr, E.get 7 = some (.ptr (some ⟨b, 0, 0⟩)) → E.get 6 = some (.int .u8 c.toNat) → (VOp.ixar 256 1 (.t 7) (.t 6)).ev E H.g = some (.ptr (some ⟨b, 0, 0 + c.toNat * 1⟩)) := fun E h7 h6 => by
    simp only [VOp.ev, Od.ev, h7, h6]
    rw [if_pos (inRng_iff.2 ⟨by omega, by have := c.toNat_lt; omega⟩)]
    simp only [ixp, eszOf, hb', padd, hl, Int.toNat_natCast]
    rw [if_neg (by decide)]
  have e2 : ∀ E : Fr, E.get 8 = some (.ptr (some ⟨b, 0, 0 + c.toNat * 1⟩)) → (VOp.load 1 false (.t 8)).ev E H.g = some (.bool (p c)) := fun E h8 => by
    simp only [VOp.ev, Od.ev, h8, Bool.false_eq_true, if_false, Wm.ld, hb', Nat.zero_add, Nat.mul_one, List.getElem?_cons_zero, ht c]
  repeat first | refine VOps.sk rfl ?_ | (refine VOps.rd (x := .mv _) rfl (by first | exact rfl | assumption) ?_) | (refine VOps.rd rfl (by first | exact ev_add2 rfl rfl (by omega) | exact ev_sub2 rfl rfl (by omega) | exact ev_cT rfl rfl (by first | exact rfl | (dsimp only [cmpT]; omega)) | exact ev_cF rfl rfl (by first | exact rfl | (dsimp only [cmpF]; omega)) | exact ev_sT rfl rfl (by assumption) | exact ev_sF rfl rfl (by assumption) | exact ev_slst3 rfl rfl rfl (by omega) | exact ev_ixs rfl rfl (by omega) (by assumption) | exact rfl | assumption) ?_) | refine VOps.fin ?_ | refine VW.seq ?_ | refine VW.reg ?_ | refine VW.skip ?_ | refine VW.exit ?_ | refine VW.ret ?_ | refine VW.condT rfl ?_ | refine VW.condF rfl ?_ | refine VW.block ?_ | rw [then_normal] | rw [then_ret] | rw [then_exit] | rw [inB_normal] | rw [inB_ret] | rw [inB_exit, if_pos rfl] | rw [inB_exit, if_neg (by decide)]
  refine VOps.rd rfl (e1 _ rfl rfl) ?_
  refine VOps.rd rfl (e2 _ rfl) ?_
  repeat first | refine VOps.sk rfl ?_ | (refine VOps.rd (x := .mv _) rfl (by first | exact rfl | assumption) ?_) | (refine VOps.rd rfl (by first | exact ev_add2 rfl rfl (by omega) | exact ev_sub2 rfl rfl (by omega) | exact ev_cT rfl rfl (by first | exact rfl | (dsimp only [cmpT]; omega)) | exact ev_cF rfl rfl (by first | exact rfl | (dsimp only [cmpF]; omega)) | exact ev_sT rfl rfl (by assumption) | exact ev_sF rfl rfl (by assumption) | exact ev_slst3 rfl rfl rfl (by omega) | exact ev_ixs rfl rfl (by omega) (by assumption) | exact rfl | assumption) ?_) | refine VOps.fin ?_ | refine VW.seq ?_ | refine VW.reg ?_ | refine VW.skip ?_ | refine VW.exit ?_ | refine VW.ret ?_ | refine VW.condT rfl ?_ | refine VW.condF rfl ?_ | refine VW.block ?_ | rw [then_normal] | rw [then_ret] | rw [then_exit] | rw [inB_normal] | rw [inB_ret] | rw [inB_exit, if_pos rfl] | rw [inB_exit, if_neg (by decide)]
  exact ⟨.inl rfl, rfl, _, rfl, rfl, rfl⟩
/-- what is trimmed -/
theorem trimA {H : Hp} {b : Nat} {t : TypeId} {md : Wm.Mode} {l : List VV} {p : UInt8 → Bool} (hb : H[b]? = some (.row t md [l])) (hl : l.length = 256) (ht : Tab l p) (s : List UInt8) :
    FnV Tryz.prog 59 [.str s, .ptr (some ⟨b, 0, 0⟩)] H fun r H' => r = .str (s.dropWhile p) ∧ H' = H := by
  refine FnV.enterRow ok59 (Nat.le_of_ble_eq_true rfl) fun B => ?_
  refine VW.seq ?_
  repeat first | refine VOps.sk rfl ?_ | (refine VOps.rd (x := .mv _) rfl (by first | exact rfl | assumption) ?_) | (refine VOps.rd rfl (by first | exact ev_add2 rfl rfl (by omega) | exact ev_sub2 rfl rfl (by omega) | exact ev_cT rfl rfl (by first | exact rfl | (dsimp only [cmpT]; omega)) | exact ev_cF rfl rfl (by first | exact rfl | (dsimp only [cmpF]; omega)) | exact ev_sT rfl rfl (by assumption) | exact ev_sF rfl rfl (by assumption) | exact ev_slst3 rfl rfl rfl (by omega) | exact ev_ixs rfl rfl (by omega) (by assumption) | exact rfl | assumption) ?_) | refine VOps.fin ?_ | refine VW.seq ?_ | refine VW.reg ?_ | refine VW.skip ?_ | refine VW.exit ?_ | refine VW.ret ?_ | refine VW.condT rfl ?_ | refine VW.condF rfl ?_ | refine VW.block ?_ | rw [then_normal] | rw [then_ret] | rw [then_exit] | rw [inB_normal] | rw [inB_ret] | rw [inB_exit, if_pos rfl] | rw [inB_exit, if_neg (by decide)]
  refine VW.loop (fun n F H' => ∃ u : List UInt8, u.length = n ∧ u.dropWhile p = s.dropWhile p ∧ Cov [(0, .str u), (1, .ptr (some ⟨b, 0, 0⟩))] F ∧ F.get dslot = none ∧ H' = H) s.length ⟨s, rfl, rfl, ⟨rfl, rfl, trivial⟩, rfl, rfl⟩ ?_
  rintro n F H' ⟨u, rfl, hu, hc, hd, rfl⟩
  refine VW.cov hc hd rfl ?_
  rcases u with _ | ⟨c, u⟩
  · have h0 : ([] : List UInt8).length = 0 := rfl
    repeat first | refine VOps.sk rfl ?_ | (refine VOps.rd (x := .mv _) rfl (by first | exact rfl | assumption) ?_) | (refine VOps.rd rfl (by first | exact ev_add2 rfl rfl (by omega) | exact ev_sub2 rfl rfl (by omega) | exact ev_cT rfl rfl (by first | exact rfl | (dsimp only [cmpT]; omega)) | exact ev_cF rfl rfl (by first | exact rfl | (dsimp only [cmpF]; omega)) | exact ev_sT rfl rfl (by assumption) | exact ev_sF rfl rfl (by assumption) | exact ev_slst3 rfl rfl rfl (by omega) | exact ev_ixs rfl rfl (by omega) (by assumption) | exact rfl | assumption) ?_) | refine VOps.fin ?_ | refine VW.seq ?_ | refine VW.reg ?_ | refine VW.skip ?_ | refine VW.exit ?_ | refine VW.ret ?_ | refine VW.condT rfl ?_ | refine VW.condF rfl ?_ | refine VW.block ?_ | rw [then_normal] | rw [then_ret] | rw [then_exit] | rw [inB_normal] | rw [inB_ret] | rw [inB_exit, if_pos rfl] | rw [inB_exit, if_neg (by decide)]
    exact ⟨.inl rfl, rfl, _, rfl, by rw [← hu]; rfl, rfl⟩
  · have h0 : (c :: u).length = u.length + 1 := rfl
    have h1 : (c :: u)[(0 : Int).toNat]? = some c := rfl
    repeat first | refine VOps.sk rfl ?_ | (refine VOps.rd (x := .mv _) rfl (by first | exact rfl | assumption) ?_) | (refine VOps.rd rfl (by first | exact ev_add2 rfl rfl (by omega) | exact ev_sub2 rfl rfl (by omega) | exact ev_cT rfl rfl (by first | exact rfl | (dsimp only [cmpT]; omega)) | exact ev_cF rfl rfl (by first | exact rfl | (dsimp only [cmpF]; omega)) | exact ev_sT rfl rfl (by assumption) | exact ev_sF rfl rfl (by assumption) | exact ev_slst3 rfl rfl rfl (by omega) | exact ev_ixs rfl rfl (by omega) (by assumption) | exact rfl | assumption) ?_) | refine VOps.fin ?_ | refine VW.seq ?_ | refine VW.reg ?_ | refine VW.skip ?_ | refine VW.exit ?_ | refine VW.ret ?_ | refine VW.condT rfl ?_ | refine VW.condF rfl ?_ | refine VW.block ?_ | rw [then_normal] | rw [then_ret] | rw [then_exit] | rw [inB_normal] | rw [inB_ret] | rw [inB_exit, if_pos rfl] | rw [inB_exit, if_neg (by decide)]
    refine VOps.call rfl rfl rfl ((contains hb hl ht c).mono ?_)
    rintro r H2 ⟨rfl, rfl⟩
    cases hp : p c
    · repeat first | refine VOps.sk rfl ?_ | (refine VOps.rd (x := .mv _) rfl (by first | exact rfl | assumption) ?_) | (refine VOps.rd rfl (by first | exact ev_add2 rfl rfl (by omega) | exact ev_sub2 rfl rfl (by omega) | exact ev_cT rfl rfl (by first | exact rfl | (dsimp only [cmpT]; omega)) | exact ev_cF rfl rfl (by first | exact rfl | (dsimp only [cmpF]; omega)) | exact ev_sT rfl rfl (by assumption) | exact ev_sF rfl rfl (by assumption) | exact ev_slst3 rfl rfl rfl (by omega) | exact ev_ixs rfl rfl (by omega) (by assumption) | exact rfl | assumption) ?_) | refine VOps.fin ?_ | refine VW.seq ?_ | refine VW.reg ?_ | refine VW.skip ?_ | refine VW.exit ?_ | refine VW.ret ?_ | refine VW.condT rfl ?_ | refine VW.condF rfl ?_ | refine VW.block ?_ | rw [then_normal] | rw [then_ret] | rw [then_exit] | rw [inB_normal] | rw [inB_ret] | rw [inB_exit, if_pos rfl] | rw [inB_exit, if_neg (by decide)]
      exact ⟨.inl rfl, rfl, _, rfl, by rw [← hu, List.dropWhile_cons_of_neg (by simp [hp])], rfl⟩
    · repeat first | refine VOps.sk rfl ?_ | (refine VOps.rd (x := .mv _) rfl (by first | exact rfl | assumption) ?_) | (refine VOps.rd rfl (by first | exact ev_add2 rfl rfl (by omega) | exact ev_sub2 rfl rfl (by omega) | exact ev_cT rfl rfl (by first | exact rfl | (dsimp only [cmpT]; omega)) | exact ev_cF rfl rfl (by first | exact rfl | (dsimp only [cmpF]; omega)) | exact ev_sT rfl rfl (by assumption) | exact ev_sF rfl rfl (by assumption) | exact ev_slst3 rfl rfl rfl (by omega) | exact ev_ixs rfl rfl (by omega) (by assumption) | exact rfl | assumption) ?_) | refine VOps.fin ?_ | refine VW.seq ?_ | refine VW.reg ?_ | refine VW.skip ?_ | refine VW.exit ?_ | refine VW.ret ?_ | refine VW.condT rfl ?_ | refine VW.condF rfl ?_ | refine VW.block ?_ | rw [then_normal] | rw [then_ret] | rw [then_exit] | rw [inB_normal] | rw [inB_ret] | rw [inB_exit, if_pos rfl] | rw [inB_exit, if_neg (by decide)]
      exact ⟨u.length, by omega, u, rfl, by rw [← hu, List.dropWhile_cons_of_pos hp], ⟨by show some (VV.str (List.drop (1 : Int).toNat (List.take ((c :: u).length : Int).toNat (c :: u)))) = _; simp, rfl, trivial⟩, rfl, rfl⟩
end Tok
end Go.Proofs.YtfodpmekcddgpaaGreatDoor
