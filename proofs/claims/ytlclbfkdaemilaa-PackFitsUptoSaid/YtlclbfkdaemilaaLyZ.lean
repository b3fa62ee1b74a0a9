/- PackLays, for arguments of bulk at most 1048576: the law returns true, and the argument reads as before. -/
import Derived.Test.YtlclbfkdaemilaaRows
import Derived.Test.YtlclbfkdaemilaaVmR
import Derived.Test.YtlclbfkdaemilaaPz
import Derived.Test.YtlclbfkdaemilaaLyK
namespace Go.Proofs.Ytlclbfkdaemilaa
set_option linter.unusedSimpArgs false
set_option linter.unusedVariables false
open Go Go.Vm Go.Proofs Go.ChangeShapes Go.WideShapes Go.ChangeAt Go.RowKit
set_option maxRecDepth 100000
set_option maxHeartbeats 1000000

theorem bulk_one {H : Type} (d : DataW H) : 1 ≤ Rows.uptoBulk d := by
  cases d with
  | lit l => cases l <;> simp [Rows.uptoBulk]
  | nil => simp [Rows.uptoBulk]
  | ptr d => simp [Rows.uptoBulk]
  | slice elems spare => simp [Rows.uptoBulk]
  | agg parts => simp [Rows.uptoBulk]
  | iface t d => simp [Rows.uptoBulk]
  | map entries => simp [Rows.uptoBulk]
  | held h => simp [Rows.uptoBulk]
theorem bulk_part {H : Type} {d : DataW H} : ∀ {l : List (DataW H)}, d ∈ l → Rows.uptoBulk d ≤ Rows.uptoBulkAll l
  | x :: r, h => by
    simp only [Rows.uptoBulkAll]
    rcases List.mem_cons.1 h with e | e
    · subst e; omega
    · have := bulk_part e; omega
theorem bulk_len {H : Type} : ∀ (l : List (DataW H)), l.length ≤ Rows.uptoBulkAll l
  | [] => by simp [Rows.uptoBulkAll]
  | x :: r => by
    have := bulk_len r
    have := bulk_one x
    simp only [Rows.uptoBulkAll, List.length_cons]; omega
theorem bulk_app {H : Type} : ∀ (l m : List (DataW H)), Rows.uptoBulkAll (l ++ m) = Rows.uptoBulkAll l + Rows.uptoBulkAll m
  | [], m => by simp [Rows.uptoBulkAll]
  | x :: r, m => by simp only [List.cons_append, Rows.uptoBulkAll, bulk_app r m]; omega

section
variable {D : Type} {H : Hp} {vs : List VV} {d : DataW D}
/-- a list of edges -/
theorem edges_inv (h : Rd Try.prog H 40 vs d) : ∃ (p : Option PA) (l : Edges) (c : Nat), vs = [.sl p l.length c] ∧ l.length ≤ maxLen ∧ Sl H p 2 (edgeEs l) ∧ l.length ≤ Rows.uptoBulk d ∧ (∀ e ∈ l, -9223372036854775808 ≤ e.1 ∧ e.1 ≤ 9223372036854775807 ∧ -9223372036854775808 ≤ e.2 ∧ e.2 ≤ 9223372036854775807) := by
  obtain ⟨p, es, c, ds, rfl, h1, h2, h3, h4, h5, h6, h7⟩ := h.sl_inv Try.underlying40
  have key : ∀ (es : List (List VV)) (ds : List (DataW D)), ds.length = es.length → (∀ (i : Nat) x y, es[i]? = some x → ds[i]? = some y → Rd Try.prog H 42 x y) → ∃ l, es = edgeEs l ∧ (∀ e ∈ l, -9223372036854775808 ≤ e.1 ∧ e.1 ≤ 9223372036854775807 ∧ -9223372036854775808 ≤ e.2 ∧ e.2 ≤ 9223372036854775807) := by
    intro es
    induction es with
    | nil => intro ds _ _; exact ⟨[], rfl, by simp⟩
    | cons x es ih =>
      intro ds hl hd
      cases ds with
      | nil => simp at hl
      | cons y ds =>
        obtain ⟨l, rfl, hw⟩ := ih ds (by simpa using hl) fun i x y hx hy => hd (i + 1) x y (by simpa using hx) (by simpa using hy)
        obtain ⟨ps, ds', rfl, _, hp, hd', hf⟩ := (hd 0 x y rfl rfl).struct_inv Try.underlying42
        match ps, ds', hp, hd' with
        | [a, b], [d1, d2], _, _ =>
          obtain ⟨n, rfl, hn, _⟩ := (hf 0 _ a d1 rfl rfl rfl).int_inv Try.underlying3
          obtain ⟨m, rfl, hm, _⟩ := (hf 1 _ b d2 rfl rfl rfl).int_inv Try.underlying3
          refine ⟨(n, m) :: l, rfl, fun e he => ?_⟩
          rcases List.mem_cons.1 he with rfl | he
          · have := wf_i64 hn; have := wf_i64 hm; simp only; omega
          · exact hw e he
  obtain ⟨l, rfl, hw⟩ := key es ds h4 h6
  rw [edgeEs_len] at h1 h4 ⊢
  have hc2 : Try.prog.cellsOf 42 = 2 := by kernel_rfl
  refine ⟨p, l, c, rfl, by omega, by rw [hc2] at h3; exact h3, ?_, hw⟩
  rcases h7 with ⟨_, _, rfl, rfl⟩ | ⟨rest, rfl⟩
  · simp at h4; omega
  · have := bulk_len ds
    simp only [Rows.uptoBulk]; omega
/-- a list of rows -/
theorem rowss_inv (h : Rd Try.prog H 22 vs d) : ∃ (p : Option PA) (ws : List VV) (rows : List Edges) (c : Nat), vs = [.sl p rows.length c] ∧ Sl H p 1 (ws.map fun v => [v]) ∧ RowV H ws rows ∧ rows.length ≤ Rows.uptoBulk d ∧ rows.length ≤ maxLen ∧ (∀ k, k < rows.length → (rows.getD k []).length ≤ Rows.uptoBulk d) ∧
    (∀ r ∈ rows, ∀ e ∈ r, -9223372036854775808 ≤ e.1 ∧ e.1 ≤ 9223372036854775807 ∧ -9223372036854775808 ≤ e.2 ∧ e.2 ≤ 9223372036854775807) := by
  obtain ⟨p, es, c, ds, rfl, h1, h2, h3, h4, h5, h6, h7⟩ := h.sl_inv Try.underlying22
  have key : ∀ (es : List (List VV)) (ds : List (DataW D)), ds.length = es.length → (∀ (i : Nat) x y, es[i]? = some x → ds[i]? = some y → Rd Try.prog H 40 x y) → ∃ (ws : List VV) (rows : List Edges), es = ws.map (fun v => [v]) ∧ RowV H ws rows ∧ rows.length = es.length ∧ (∀ k, k < rows.length → (rows.getD k []).length ≤ Rows.uptoBulkAll ds) ∧
      (∀ r ∈ rows, ∀ e ∈ r, -9223372036854775808 ≤ e.1 ∧ e.1 ≤ 9223372036854775807 ∧ -9223372036854775808 ≤ e.2 ∧ e.2 ≤ 9223372036854775807) := by
    intro es
    induction es with
    | nil => intro ds _ _; exact ⟨[], [], rfl, ⟨rfl, fun k hk => by simp at hk⟩, rfl, fun k hk => by simp at hk, by simp⟩
    | cons x es ih =>
      intro ds hl hd
      cases ds with
      | nil => simp at hl
      | cons y ds =>
        obtain ⟨ws, rows, rfl, hr, hln, hbk, hw⟩ := ih ds (by simpa using hl) fun i x y hx hy => hd (i + 1) x y (by simpa using hx) (by simpa using hy)
        obtain ⟨pk, l, ck, rfl, l1, l2, l3, l4⟩ := edges_inv (hd 0 x y rfl rfl)
        refine ⟨.sl pk l.length ck :: ws, l :: rows, rfl, ⟨by simp [hr.1], fun k hk => ?_⟩, by simp [hln], fun k hk => ?_, fun r hr2 => ?_⟩
        · cases k with
          | zero => exact ⟨pk, ck, rfl, l2, l1⟩
          | succ k => exact hr.2 k (by simpa using hk)
        · simp only [Rows.uptoBulkAll]
          cases k with
          | zero => simp only [List.getD_cons_zero]; omega
          | succ k => have := hbk k (by simpa using hk); simp only [List.getD_cons_succ]; omega
        · rcases List.mem_cons.1 hr2 with rfl | hr2
          · exact l4
          · exact hw r hr2
  obtain ⟨ws, rows, rfl, hr, hln, hbk, hw⟩ := key es ds h4 h6
  have hc1 : Try.prog.cellsOf 40 = 1 := by kernel_rfl
  rw [hc1] at h3
  rw [← hln] at h1 h4 ⊢
  refine ⟨p, ws, rows, c, rfl, h3, hr, ?_, by omega, ?_, hw⟩
  · rcases h7 with ⟨_, _, rfl, rfl⟩ | ⟨rest, rfl⟩
    · simp at h4; omega
    · have := bulk_len ds
      simp only [Rows.uptoBulk]; omega
  · intro k hk
    have := hbk k hk
    rcases h7 with ⟨_, _, rfl, rfl⟩ | ⟨rest, rfl⟩
    · simp at h4; omega
    · simp only [Rows.uptoBulk]; omega
end

namespace PackLays
theorem law {D : Type} (H : Hp) (vvs : List VV) (ds : List (DataW D)) (h : ArgsRd Try.prog H Try.f3.params.toList vvs ds) (hk : Rows.uptoBulkAll ds ≤ 1048576) : FnV Try.prog 3 vvs H fun r _ => r = .bool true := by
  rw [Try.params3] at h
  cases h with
  | cons h0 h =>
    cases h
    obtain ⟨vs, h0, rfl⟩ := h0
    obtain ⟨p, ws, rows, c, rfl, s1, s2, s3, s4, s5, s6⟩ := rowss_inv h0
    have hst : isStruct Try.prog 22 = false := by kernel_rfl
    rw [hst, if_neg (by simp)]
    simp only [Rows.uptoBulkAll] at hk
    exact packLays_fn s1 s2 (by omega) (fun k hk2 => by have := s5 k hk2; omega)

theorem lifted (os : Os) (started : os.Started) (H : Type) (enc : TypeId × Value → H) (F : Stop.Interp) :
    ReturnsInHanded {} Try.checked os 3 .any ((Rows.OpenSpec.upto Rows.packLaysSpec).pre6 enc Try.prog Try.f3 Rows.packLaysUptoRow.domain false) (((Rows.OpenSpec.upto Rows.packLaysSpec).at F).post enc Try.prog Try.f3 false true false false) := by
  refine returnsInHanded_of_cond (C := Try.checked) (s := Rows.OpenSpec.upto Rows.packLaysSpec) (k := Rows.uptoSmall) rfl own started (by kernel_rfl) Try.func3
    (OpenSpec.witness (enc := enc) (C := Try.checked) (s := Rows.OpenSpec.upto Rows.packLaysSpec) (k := Rows.uptoSmall) rfl false ⟨#[], #[.slice none 0 0], []⟩ 8 (by kernel_rfl) (by kernel_rfl) (by kernel_rfl)
      (x := ([.nil], [], [])) (by kernel_rfl) rfl (by kernel_rfl)) ?_
  intro W base args ds gs before hval hW _ hk _
  have hb : Rows.uptoBulkAll ds ≤ 1048576 := by
    have h := of_decide_eq_true hk
    rw [bulk_app] at h
    omega
  exact law_contract_at (s := Rows.packLaysSpec) (tb := 4) (d0 := 5) laid (by decide +kernel) (by decide +kernel) rfl (by kernel_rfl) Try.underlying4 (fun ds hl => by
    have hl' : ds.length = 1 := hl
    match ds, hl' with
    | [a], _ => rfl) args ds gs (fun H vvs h => law H vvs ds h hb) before base hval hW

theorem over : Rows.packLaysUptoRow.holds Try.pinned (Rows.OpenSpec.upto Rows.packLaysSpec) :=
  OpenClaim.holds_of_cond 3 Try.f3 rfl rfl rfl rfl rfl rfl rfl ⟨rfl, rfl, rfl, rfl, rfl⟩ rfl rfl rfl rfl rfl (by kernel_rfl) Try.func3 (by kernel_rfl)
    (of_decide_eq_true (by kernel_rfl)) (by unfold Func.isWrapper; first | (rw [if_pos (by decide +kernel)]; kernel_rfl) | (rw [if_neg (by decide +kernel)]; exact ⟨rfl, rfl⟩))
    (fun os started H enc _ F => lifted os started H enc F)

theorem proved : Rows.PackLaysUptoSaid :=
  over
end PackLays
end Go.Proofs.Ytlclbfkdaemilaa
