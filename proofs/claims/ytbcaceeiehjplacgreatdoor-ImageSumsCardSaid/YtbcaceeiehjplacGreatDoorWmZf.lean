/- Arguments into which nobody looks; a call beside rows that it does not know of. -/
import Derived.Test.YtbcaceeiehjplacGreatDoorWmZe
namespace Go.Wm
set_option linter.unusedSimpArgs false
set_option linter.unusedVariables false
open Go.RowKit

section
variable {P : Program} {σ : Sg} {B : Nat} {H : Hp} {w : World}
theorem LRel.undefs : ∀ {n : Nat} {l : List Value}, l.length = n → LRel σ (List.replicate n .undef) l
  | 0, [], _ => .nil
  | n + 1, v :: l, h => .cons (.undef v) (LRel.undefs (by simpa using h))
/-- nobody looks into the arguments -/
theorem FnV.blind {f : FuncId} {n : Nat} {R : VV → Hp → Prop} (h : FnV P f (List.replicate n .undef) H R) {args : List VV} (hl : args.length = n) : FnV P f args H R :=
  ⟨h.1, fun σ B w vs h1 h2 => h.2 σ B w vs h1 (LRel.undefs (by rw [← h2.length, hl]))⟩
theorem LRel.flat {τ : Sg} : ∀ {l : List VV} {l' : List Value}, LRel τ l l' → (∀ v ∈ l, VV.lo 0 v = true) → LRel σ l l'
  | _, _, .nil, _ => .nil
  | _, _, .cons h t, hl => .cons (h.flat (hl _ List.mem_cons_self)) (t.flat fun v hv => hl v (List.mem_cons_of_mem _ hv))
theorem FnV.beside {f : FuncId} {args : List VV} {H0 : Hp} {v : VV} (ha : ∀ v ∈ args, VV.lo 0 v = true) (hv : VV.lo 0 v = true) (hr : RoHp H0) (hG : GL.length ≤ H0.length) (h : FnV P f args H0 fun r _ => r = v) (G : Hp) : FnV P f args (H0 ++ G) fun r H' => r = v ∧ H' = H0 ++ G := by
  refine ⟨h.1, fun σ B w vs h1 h2 => ?_⟩
  have hle := Sg.low_le σ H0.length
  refine (h.2 _ B w vs (h1.low hr hG) (h2.flat ha)).mono ?_
  rintro e w' ⟨r, v', H', τ, q1, q2, rfl, q4, q5⟩
  have hout : ∀ i I, σ i = some I → B ≤ I.real → w'.heap[I.real]? = w.heap[I.real]? := fun i I hi hB => by
    refine q4.out I.real (h1.fit i I hi) fun j J hj he => ?_
    have hjl : j < H0.length := by
      unfold Sg.low at hj
      split at hj
      · assumption
      · cases hj
    have := hr.old h1 hjl (hle j J hj)
    omega
  exact ⟨r, v', H0 ++ G, σ, q1, q2.flat hv, ⟨rfl, rfl⟩, ⟨Sg.le_refl _, q4.bl, fun r' hr' hn => q4.out r' hr' fun i I hi => hn i I (hle i I hi), fun i I hi => .inl ⟨i, I, hi, rfl⟩⟩, h1.calm q4.bl hout⟩
end
end Go.Wm
