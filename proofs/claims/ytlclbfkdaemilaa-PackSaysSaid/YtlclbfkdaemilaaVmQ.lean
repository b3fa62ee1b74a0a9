/- Drawn regions that write: the rules for more heaps than one. A row of ints as a function. -/
import Derived.Test.YtlclbfkdaemilaaVmP
namespace Go.Vm
set_option linter.unusedSimpArgs false
set_option linter.unusedVariables false
open Go.RowKit

/-- an equation that the walk does not see -/
def Hid (p : Prop) : Prop := p
theorem Hid.of {p : Prop} (h : p) : Hid p := h
theorem Hid.out {p : Prop} (h : Hid p) : p := h

section
variable {P : Program} {E : Fr} {H H' Hk : Hp} {R : Fr → Hp → Prop} {l : List VI} {b : List (Nat × Nat)} {m k d : Nat} {g : Option (Nat × Bool)} {x : VOp} {v : VV} {hs : List Hp}
/-- it does not ask the heap -/
theorem VX.rdp (hw : want E g = some true) (he : ∀ H1, x.ev E H1 = some v) (h : VX P hs l b.tail m ((d, v) :: E) H R) : VX P hs (.rd d g x :: l) b m E H R :=
  .inr ⟨hw, v, H, ⟨rfl, fun j H1 _ _ _ => he H1⟩, h⟩
/-- just one heap can lie before it -/
theorem VX.rda (hw : want E g = some true) (hb : b.headD (0, 0) = (k, k)) (hk : hs[k]? = some Hk) (he : x.ev E Hk = some v) (h : VX P hs l b.tail m ((d, v) :: E) H R) : VX P hs (.rd d g x :: l) b m E H R :=
  .inr ⟨hw, v, H, ⟨rfl, fun j H1 h1 h2 hj => by
    rw [hb] at h1 h2
    have : j = k := Nat.le_antisymm h2 h1
    subst this
    rw [hk] at hj; cases hj; exact he⟩, h⟩
theorem VX.rdb {Hk2 : Hp} (hw : want E g = some true) (hb : b.headD (0, 0) = (k, k + 1)) (hk : hs[k]? = some Hk) (hk2 : hs[k + 1]? = some Hk2) (he : x.ev E Hk = some v) (he2 : x.ev E Hk2 = some v) (h : VX P hs l b.tail m ((d, v) :: E) H R) : VX P hs (.rd d g x :: l) b m E H R :=
  .inr ⟨hw, v, H, ⟨rfl, fun j H1 h1 h2 hj => by
    rw [hb] at h1 h2
    have : j = k ∨ j = k + 1 := by simp only at h1 h2; omega
    rcases this with rfl | rfl
    · rw [hk] at hj; cases hj; exact he
    · rw [hk2] at hj; cases hj; exact he2⟩, h⟩
theorem VX.ef1 {d : Option Nat} {x : VEf} (hw : want E g = some true) (hn : hs[m + 1]? = some H') (he : x.ev E H = some (v, H')) (h : VX P hs l b.tail (m + 1) (E.pt d v) H' R) : VX P hs (.ef d g x :: l) b m E H R :=
  .inr ⟨hw, v, H', ⟨he, hn⟩, h⟩
theorem VX.skc {hs : List Hp} {d : Option Nat} {f : Od} {ar : List Od} (hw : want E g = some false) (h : VX P hs l b.tail m (E.pt d (.tup [])) H R) : VX P hs (.call d g f ar :: l) b m E H R := .inl ⟨hw, fun h => by simp [VI.isEf] at h, h⟩
theorem VX.calla {d : Option Nat} {fo : Od} {ar : List Od} {f : FuncId} {caps vs : List VV} (hw : want E g = some true) (hb : b.headD (0, 0) = (k, k)) (hk : hs[k]? = some Hk) (hf : fo.ev E = some (.fn f caps)) (hv : Od.evs E ar = some vs) (hc : FnV P f (vs ++ caps) Hk fun r H2 => r = v ∧ H2 = Hk)
    (h : VX P hs l b.tail m (E.pt d v) H R) : VX P hs (.call d g fo ar :: l) b m E H R :=
  .inr ⟨hw, v, H, ⟨rfl, f, caps, vs, hf, hv, fun j H1 h1 h2 hj => by
    rw [hb] at h1 h2
    have : j = k := Nat.le_antisymm h2 h1
    subst this
    rw [hk] at hj; cases hj; exact hc⟩, h⟩
end
section
variable {P : Program} {B N : Nat} {E : Fr} {H : Hp} {Q : VQ} {l : List VI} {d : Option Nat} {g : Option (Nat × Bool)}
theorem VOps.skc {f : Od} {ar : List Od} (hw : want E g = some false) (h : VOps P B N l (E.pt d (.tup [])) H Q) : VOps P B N (.call d g f ar :: l) E H Q := VOps.skip (d := d) (.inr (.inr ⟨f, ar, rfl⟩)) hw h
theorem VOps.ske {x : VEf} (hw : want E g = some false) (h : VOps P B N l (E.pt d (.tup [])) H Q) : VOps P B N (.ef d g x :: l) E H Q := VOps.skip (d := d) (.inr (.inl ⟨x, rfl⟩)) hw h
end

/-- a frame that says no more than another -/
def Cov : Fr → Fr → Prop
  | [], _ => True
  | (s, v) :: r, F => F.get s = some v ∧ Cov r F
theorem Cov.get : ∀ {G F : Fr}, Cov G F → ∀ s v, G.get s = some v → F.get s = some v
  | [], _, _, s, v, h => by simp [Fr.get] at h
  | (k, u) :: r, F, hc, s, v, h => by
    simp only [Fr.get] at h
    by_cases e : k = s
    · subst e; simp at h; subst h; exact hc.1
    · rw [if_neg e] at h; exact Cov.get hc.2 s v h
theorem VW.sub {P : Program} {B N : Nat} {x : VC} {F G : Fr} {H : Hp} {Q : VQ} (hc : Cov G F) (h : VW P B N x G H Q) : VW P B N x F H Q := fun K c hk σ w a hH hF => h K c hk σ w a hH (hF.sub hc.get)

/-- a heap in which one row is these ints -/
def Ar (H : Hp) (b : Nat) (t : TypeId) (md : Mode) (n : Nat) (f : Nat → Int) : Hp := H.set b (.row t md ((List.range n).map fun k => [VV.int .i64 (f k)]))
section
variable {H : Hp} {b n k : Nat} {t : TypeId} {md : Mode} {f : Nat → Int}
theorem Ar.at (hb : b < H.length) : (Ar H b t md n f)[b]? = some (.row t md ((List.range n).map fun k => [VV.int .i64 (f k)])) := by
  unfold Ar; rw [List.getElem?_set_self hb]
theorem Ar.len : (Ar H b t md n f).length = H.length := by simp [Ar]
theorem Ar.off {i : Nat} (h : i ≠ b) : (Ar H b t md n f)[i]? = H[i]? := by unfold Ar; rw [List.getElem?_set_ne (Ne.symm h)]
theorem Ar.ixp (hb : b < H.length) (hk : k < n) : Vm.ixp (Ar H b t md n f) ⟨b, 0, 0⟩ k 1 = some ⟨b, k, 0⟩ := by
  unfold Vm.ixp eszOf
  rw [Ar.at hb]
  cases n with
  | zero => omega
  | succ n => simp [List.range_succ_eq_map, padd]
theorem Ar.ld (hb : b < H.length) (hk : k < n) : Vm.ld (Ar H b t md n f) ⟨b, k, 0⟩ = some (.int .i64 (f k)) := by
  simp [Vm.ld, Ar.at hb, hk]
theorem Ar.stc (hb : b < H.length) (hm : md ≠ .ro) (hk : k < n) (v : Int) : Vm.stc (Ar H b t md n f) ⟨b, k, 0⟩ [.int .i64 v] = some (Ar H b t md n fun x => if x = k then v else f x) := by
  have he : ((List.range n).map fun k => [VV.int .i64 (f k)])[k]? = some [VV.int .i64 (f k)] := by simp [hk]
  simp only [Vm.stc, Ar.at hb, he, if_neg hm]
  rw [if_pos (by simp [okCells, VV.cell])]
  unfold Ar
  rw [List.set_set]
  congr 3
  apply List.ext_getElem?
  intro i
  by_cases h : k = i
  · subst h
    rw [List.getElem?_set_self (by simpa using hk)]
    simp [hk, upd]
  · rw [List.getElem?_set_ne h]
    by_cases hi : i < n
    · simp [hi, Ne.symm h]
    · simp [hi]
end
end Go.Vm
