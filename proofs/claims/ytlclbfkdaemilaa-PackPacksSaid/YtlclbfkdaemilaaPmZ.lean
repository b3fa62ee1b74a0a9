/- Several texts as one: PkY PkZ. -/
import Derived.Test.YtlclbfkdaemilaaRows
import Derived.Test.YtlclbfkdaemilaaVmR
import Derived.Test.YtlclbfkdaemilaaPz
import Derived.Test.YtlclbfkdaemilaaPm2
import Derived.HandedShaped
/- A dense table that came in: what lies on the heap, and how large it may be. -/
namespace Go.Proofs.Ytlclbfkdaemilaa
set_option linter.unusedSimpArgs false
set_option linter.unusedVariables false
open Go Go.Vm Go.Proofs Go.ChangeShapes Go.WideShapes Go.ChangeAt Go.RowKit
set_option maxRecDepth 100000
set_option maxHeartbeats 1000000

section
variable {D : Type} {H : Hp} {vs : List VV} {d : DataW D}
theorem weights_sl {P : Program} {t e : TypeId} (ht : P.underlying t = some (.slice e)) {ds rest : List (DataW D)} : DataW.weights P t (.slice ds rest) = (ds.length + rest.length) * P.bytesOf e :: (DataW.weightsAll P e ds ++ DataW.weightsAll P e rest) := by
  simp [DataW.weights, ht]
theorem weights_mem {P : Program} {e : TypeId} {x : Nat} {d : DataW D} (hx : x ∈ d.weights P e) : ∀ {ds : List (DataW D)}, d ∈ ds → x ∈ DataW.weightsAll P e ds
  | c :: ds, h => by
    simp only [DataW.weightsAll, List.mem_append]
    rcases List.mem_cons.1 h with rfl | h
    · exact .inl hx
    · exact .inr (weights_mem hx h)
/-- a list of actions -/
theorem acts_inv (h : Rd Try.prog H 60 vs d) (hw : ∀ x ∈ d.weights Try.prog 60, x ≤ 140737488355328) : ∃ (p : Option PA) (l : Edges) (c : Nat), vs = [.sl p l.length c] ∧ l.length ≤ maxLen ∧ Sl H p 2 (edgeEs l) ∧ l.length * 16 ≤ 140737488355328 ∧
    (∀ e ∈ l, -9223372036854775808 ≤ e.1 ∧ e.1 ≤ 9223372036854775807 ∧ -9223372036854775808 ≤ e.2 ∧ e.2 ≤ 9223372036854775807) := by
  obtain ⟨p, es, c, ds, rfl, h1, h2, h3, h4, h5, h6, h7⟩ := h.sl_inv Try.underlying60
  have key : ∀ (es : List (List VV)) (ds : List (DataW D)), ds.length = es.length → (∀ (i : Nat) x y, es[i]? = some x → ds[i]? = some y → Rd Try.prog H 46 x y) → ∃ l, es = edgeEs l ∧ (∀ e ∈ l, -9223372036854775808 ≤ e.1 ∧ e.1 ≤ 9223372036854775807 ∧ -9223372036854775808 ≤ e.2 ∧ e.2 ≤ 9223372036854775807) := by
    intro es
    induction es with
    | nil => intro ds _ _; exact ⟨[], rfl, by simp⟩
    | cons x es ih =>
      intro ds hl hd
      cases ds with
      | nil => simp at hl
      | cons y ds =>
        obtain ⟨l, rfl, hw⟩ := ih ds (by simpa using hl) fun i x y hx hy => hd (i + 1) x y (by simpa using hx) (by simpa using hy)
        obtain ⟨ps, ds', rfl, _, hp, hd', hf⟩ := (hd 0 x y rfl rfl).struct_inv Try.underlying46
        match ps, ds', hp, hd' with
        | [a, b], [d1, d2], _, _ =>
          obtain ⟨n, rfl, hn, _⟩ := (hf 0 _ a d1 rfl rfl rfl).int_inv Try.underlying3
          obtain ⟨m, rfl, hm, _⟩ := (hf 1 _ b d2 rfl rfl rfl).int_inv Try.underlying3
          refine ⟨(n, m) :: l, rfl, fun e he => ?_⟩
          rcases List.mem_cons.1 he with rfl | he
          · have := wf_i64 hn; have := wf_i64 hm; simp only; omega
          · exact hw e he
  obtain ⟨l, rfl, hwf⟩ := key es ds h4 h6
  rw [edgeEs_len] at h1 h4 ⊢
  have hc2 : Try.prog.cellsOf 46 = 2 := by kernel_rfl
  have hbb : Try.prog.bytesOf 46 = 16 := by kernel_rfl
  refine ⟨p, l, c, rfl, by omega, by rw [hc2] at h3; exact h3, ?_, hwf⟩
  rcases h7 with ⟨_, _, rfl, rfl⟩ | ⟨rest, rfl⟩
  · simp at h4; omega
  · have := hw _ (by rw [weights_sl Try.underlying60]; exact List.mem_cons_self ..)
    rw [hbb, h4] at this
    omega
/-- a list of ints -/
theorem nums_inv (h : Rd Try.prog H 24 vs d) (hw : ∀ x ∈ d.weights Try.prog 24, x ≤ 140737488355328) : ∃ (p : Option PA) (l : List Int) (c : Nat), vs = [.sl p l.length c] ∧ l.length ≤ maxLen ∧ Sl H p 1 (intEs l) ∧ l.length * 8 ≤ 140737488355328 := by
  obtain ⟨p, es, c, ds, rfl, h1, h2, h3, h4, h5, h6, h7⟩ := h.sl_inv Try.underlying24
  have key : ∀ (es : List (List VV)) (ds : List (DataW D)), ds.length = es.length → (∀ (i : Nat) x y, es[i]? = some x → ds[i]? = some y → Rd Try.prog H 3 x y) → ∃ l, es = intEs l := by
    intro es
    induction es with
    | nil => intro ds _ _; exact ⟨[], rfl⟩
    | cons x es ih =>
      intro ds hl hd
      cases ds with
      | nil => simp at hl
      | cons y ds =>
        obtain ⟨l, rfl⟩ := ih ds (by simpa using hl) fun i x y hx hy => hd (i + 1) x y (by simpa using hx) (by simpa using hy)
        obtain ⟨n, rfl, hn, _⟩ := (hd 0 x y rfl rfl).int_inv Try.underlying3
        exact ⟨n :: l, rfl⟩
  obtain ⟨l, rfl⟩ := key es ds h4 h6
  rw [intEs_len] at h1 h4 ⊢
  have hc2 : Try.prog.cellsOf 3 = 1 := by kernel_rfl
  have hbb : Try.prog.bytesOf 3 = 8 := by kernel_rfl
  refine ⟨p, l, c, rfl, by omega, by rw [hc2] at h3; exact h3, ?_⟩
  rcases h7 with ⟨_, _, rfl, rfl⟩ | ⟨rest, rfl⟩
  · simp at h4; omega
  · have := hw _ (by rw [weights_sl Try.underlying24]; exact List.mem_cons_self ..)
    rw [hbb, h4] at this
    omega
theorem actss_inv (h : Rd Try.prog H 50 vs d) (hw : ∀ x ∈ d.weights Try.prog 50, x ≤ 140737488355328) : ∃ (p : Option PA) (ws : List VV) (rows : List Edges) (c : Nat), vs = [.sl p rows.length c] ∧ Sl H p 1 (ws.map fun v => [v]) ∧ RowV H ws rows ∧ rows.length ≤ maxLen ∧ rows.length * 24 ≤ 140737488355328 ∧
    (∀ k, k < rows.length → (rows.getD k []).length * 16 ≤ 140737488355328) ∧ (∀ r ∈ rows, ∀ e ∈ r, -9223372036854775808 ≤ e.1 ∧ e.1 ≤ 9223372036854775807 ∧ -9223372036854775808 ≤ e.2 ∧ e.2 ≤ 9223372036854775807) := by
  obtain ⟨p, es, c, ds, rfl, h1, h2, h3, h4, h5, h6, h7⟩ := h.sl_inv Try.underlying50
  have key : ∀ (es : List (List VV)) (ds : List (DataW D)), ds.length = es.length → (∀ (i : Nat) x y, es[i]? = some x → ds[i]? = some y → Rd Try.prog H 60 x y) → (∀ y ∈ ds, ∀ x ∈ y.weights Try.prog 60, x ≤ 140737488355328) →
      ∃ (ws : List VV) (rows : List Edges), es = ws.map (fun v => [v]) ∧ RowV H ws rows ∧ rows.length = es.length ∧ (∀ k, k < rows.length → (rows.getD k []).length * 16 ≤ 140737488355328) ∧
      (∀ r ∈ rows, ∀ e ∈ r, -9223372036854775808 ≤ e.1 ∧ e.1 ≤ 9223372036854775807 ∧ -9223372036854775808 ≤ e.2 ∧ e.2 ≤ 9223372036854775807) := by
    intro es
    induction es with
    | nil => intro ds _ _ _; exact ⟨[], [], rfl, ⟨rfl, fun k hk => by simp at hk⟩, rfl, fun k hk => by simp at hk, by simp⟩
    | cons x es ih =>
      intro ds hl hd hwt
      cases ds with
      | nil => simp at hl
      | cons y ds =>
        obtain ⟨ws, rows, rfl, hr, hln, hbk, hw⟩ := ih ds (by simpa using hl) (fun i x y hx hy => hd (i + 1) x y (by simpa using hx) (by simpa using hy)) fun y hy => hwt y (List.mem_cons_of_mem _ hy)
        obtain ⟨pk, l, ck, rfl, l1, l2, l3, l4⟩ := acts_inv (hd 0 x y rfl rfl) (hwt y (List.mem_cons_self ..))
        refine ⟨.sl pk l.length ck :: ws, l :: rows, rfl, ⟨by simp [hr.1], fun k hk => ?_⟩, by simp [hln], fun k hk => ?_, fun r hr2 => ?_⟩
        · cases k with
          | zero => exact ⟨pk, ck, rfl, l2, l1⟩
          | succ k => exact hr.2 k (by simpa using hk)
        · cases k with
          | zero => exact l3
          | succ k => exact hbk k (by simpa using hk)
        · rcases List.mem_cons.1 hr2 with rfl | hr2
          · exact l4
          · exact hw r hr2
  have hwt : ∀ y ∈ ds, ∀ x ∈ y.weights Try.prog 60, x ≤ 140737488355328 := by
    intro y hy x hx
    rcases h7 with ⟨_, _, _, rfl⟩ | ⟨rest, rfl⟩
    · cases hy
    · exact hw x (by rw [weights_sl Try.underlying50]; exact List.mem_cons_of_mem _ (List.mem_append_left _ (weights_mem hx hy)))
  obtain ⟨ws, rows, rfl, hr, hln, hbk, hwf⟩ := key es ds h4 h6 hwt
  have hc1 : Try.prog.cellsOf 60 = 1 := by kernel_rfl
  have hbb : Try.prog.bytesOf 60 = 24 := by kernel_rfl
  rw [hc1] at h3
  rw [← hln] at h1 h4 ⊢
  refine ⟨p, ws, rows, c, rfl, h3, hr, by omega, ?_, hbk, hwf⟩
  rcases h7 with ⟨_, _, rfl, rfl⟩ | ⟨rest, rfl⟩
  · simp at h4; omega
  · have := hw _ (by rw [weights_sl Try.underlying50]; exact List.mem_cons_self ..)
    rw [hbb, h4] at this
    omega
theorem numss_inv (h : Rd Try.prog H 51 vs d) (hw : ∀ x ∈ d.weights Try.prog 51, x ≤ 140737488355328) : ∃ (p : Option PA) (ws : List VV) (rows : List (List Int)) (c : Nat), vs = [.sl p rows.length c] ∧ Sl H p 1 (ws.map fun v => [v]) ∧ RowI H ws rows ∧ rows.length ≤ maxLen ∧ rows.length * 24 ≤ 140737488355328 ∧
    (∀ k, k < rows.length → (rows.getD k []).length * 8 ≤ 140737488355328) := by
  obtain ⟨p, es, c, ds, rfl, h1, h2, h3, h4, h5, h6, h7⟩ := h.sl_inv Try.underlying51
  have key : ∀ (es : List (List VV)) (ds : List (DataW D)), ds.length = es.length → (∀ (i : Nat) x y, es[i]? = some x → ds[i]? = some y → Rd Try.prog H 24 x y) → (∀ y ∈ ds, ∀ x ∈ y.weights Try.prog 24, x ≤ 140737488355328) →
      ∃ (ws : List VV) (rows : List (List Int)), es = ws.map (fun v => [v]) ∧ RowI H ws rows ∧ rows.length = es.length ∧ (∀ k, k < rows.length → (rows.getD k []).length * 8 ≤ 140737488355328) := by
    intro es
    induction es with
    | nil => intro ds _ _ _; exact ⟨[], [], rfl, ⟨rfl, fun k hk => by simp at hk⟩, rfl, fun k hk => by simp at hk⟩
    | cons x es ih =>
      intro ds hl hd hwt
      cases ds with
      | nil => simp at hl
      | cons y ds =>
        obtain ⟨ws, rows, rfl, hr, hln, hbk⟩ := ih ds (by simpa using hl) (fun i x y hx hy => hd (i + 1) x y (by simpa using hx) (by simpa using hy)) fun y hy => hwt y (List.mem_cons_of_mem _ hy)
        obtain ⟨pk, l, ck, rfl, l1, l2, l3⟩ := nums_inv (hd 0 x y rfl rfl) (hwt y (List.mem_cons_self ..))
        refine ⟨.sl pk l.length ck :: ws, l :: rows, rfl, ⟨by simp [hr.1], fun k hk => ?_⟩, by simp [hln], fun k hk => ?_⟩
        · cases k with
          | zero => exact ⟨pk, ck, rfl, l2, l1⟩
          | succ k => exact hr.2 k (by simpa using hk)
        · cases k with
          | zero => exact l3
          | succ k => exact hbk k (by simpa using hk)
  have hwt : ∀ y ∈ ds, ∀ x ∈ y.weights Try.prog 24, x ≤ 140737488355328 := by
    intro y hy x hx
    rcases h7 with ⟨_, _, _, rfl⟩ | ⟨rest, rfl⟩
    · cases hy
    · exact hw x (by rw [weights_sl Try.underlying51]; exact List.mem_cons_of_mem _ (List.mem_append_left _ (weights_mem hx hy)))
  obtain ⟨ws, rows, rfl, hr, hln, hbk⟩ := key es ds h4 h6 hwt
  have hc1 : Try.prog.cellsOf 24 = 1 := by kernel_rfl
  have hbb : Try.prog.bytesOf 24 = 24 := by kernel_rfl
  rw [hc1] at h3
  rw [← hln] at h1 h4 ⊢
  refine ⟨p, ws, rows, c, rfl, h3, hr, by omega, ?_, hbk⟩
  rcases h7 with ⟨_, _, rfl, rfl⟩ | ⟨rest, rfl⟩
  · simp at h4; omega
  · have := hw _ (by rw [weights_sl Try.underlying51]; exact List.mem_cons_self ..)
    rw [hbb, h4] at this
    omega
/-- api.Dense -/
theorem dense_inv (h : Rd Try.prog H 53 vs d) (hw : ∀ x ∈ d.weights Try.prog 53, x ≤ 140737488355328) : ∃ (pa pg : Option PA) (ca cg : Nat) (al : List Edges) (gs : List (List Int)) (was wgs : List VV), vs = [.sl pa al.length ca, .sl pg gs.length cg] ∧ Den H pa pg al gs was wgs ∧ Sz al gs := by
  obtain ⟨ps, ds, rfl, rfl, hp, hd, hf⟩ := h.struct_inv Try.underlying53
  match ps, ds, hp, hd with
  | [x, y], [d1, d2], _, _ =>
    have hwe : DataW.weights Try.prog 53 (.agg [d1, d2] : DataW D) = d1.weights Try.prog 50 ++ (d2.weights Try.prog 51 ++ []) := by
      simp [DataW.weights, Try.underlying53, DataW.weightsEach]
    rw [hwe] at hw
    obtain ⟨pa, was, al, ca, rfl, a1, a2, a3, a4, a5, _⟩ := actss_inv (hf 0 _ x d1 rfl rfl rfl) fun x hx => hw x (by simp [hx])
    obtain ⟨pg, wgs, gs, cg, rfl, b1, b2, b3, b4, b5⟩ := numss_inv (hf 1 _ y d2 rfl rfl rfl) fun x hx => hw x (by simp [hx])
    exact ⟨pa, pg, ca, cg, al, gs, was, wgs, rfl, ⟨a1, a2, b1, b2, a3, b3⟩, ⟨a4, b4, a5, b5⟩⟩
end
end Go.Proofs.Ytlclbfkdaemilaa

/- PackPacks: the law returns true, and the argument reads as before. -/
namespace Go.Proofs.Ytlclbfkdaemilaa
set_option linter.unusedSimpArgs false
set_option linter.unusedVariables false
open Go Go.Vm Go.Proofs Go.ChangeShapes Go.WideShapes Go.ChangeAt Go.RowKit
set_option maxRecDepth 100000
set_option maxHeartbeats 1000000

namespace PackPacks
theorem law {D : Type} (H : Hp) (vvs : List VV) (ds : List (DataW D)) (h : ArgsRd Try.prog H Try.f7.params.toList vvs ds) (hk : (DataW.weightsEach Try.prog Try.f7.params.toList ds).all (· ≤ reachBytes) = true) : FnV Try.prog 7 vvs H fun r _ => r = .bool true := by
  rw [Try.params7] at h hk
  cases h with
  | cons h0 h =>
    cases h
    obtain ⟨vs, h0, rfl⟩ := h0
    have hrb : reachBytes = 140737488351232 := rfl
    obtain ⟨pa, pg, ca, cg, al, gs, was, wgs, rfl, hd, hz⟩ := dense_inv h0 fun x hx => by
      rw [List.all_eq_true] at hk
      have := of_decide_eq_true (hk x (by show x ∈ DataW.weights Try.prog 53 _ ++ []; simpa using hx))
      omega
    have hst : isStruct Try.prog 53 = true := by kernel_rfl
    rw [hst, if_pos rfl]
    exact packPacks_fn hd hz

theorem lifted (os : Os) (started : os.Started) (H : Type) (enc : TypeId × Value → H) :
    ReturnsInHanded {} Try.checked os 7 .any (Rows.packPacksSpec.pre6 enc Try.prog Try.f7 Rows.packPacksRow.domain false) (Rows.packPacksSpec.post enc Try.prog Try.f7 false true false false) := by
  refine returnsInHanded_of_change_shaped (C := Try.checked) own started (by kernel_rfl) Try.func7
    (ChangeSpec.witness6 (enc := enc) (C := Try.checked) false ⟨#[], #[.agg #[.slice none 0 0, .slice none 0 0]], []⟩ 8 (by kernel_rfl) (by kernel_rfl) (by kernel_rfl) (by kernel_rfl)) ?_
  intro W base args ds gs before hval hW _ hwt _ _
  have hg : gs = [] := by
    obtain ⟨p, q, hA, hV, _⟩ := hW
    have hv : Rows.packPacksSpec.vars = [] := rfl
    rw [hv] at hV
    cases gs with
    | nil => rfl
    | cons g gs => exact absurd hV (by simp [DataW.TrodVars])
  subst hg
  have hvt : Rows.packPacksSpec.plain.varTypes Try.prog = [] := rfl
  have hwt2 : (DataW.weightsEach Try.prog Try.f7.params.toList ds).all (· ≤ reachBytes) = true := by
    have h := hwt
    rw [List.append_nil] at h
    have hC : Try.checked.prog = Try.prog := rfl
    rw [hC, hvt, List.append_nil] at h
    exact h
  exact law_contract_at (s := Rows.packPacksSpec) (tb := 4) (d0 := 5) laid (by decide +kernel) (by decide +kernel) rfl (by kernel_rfl) Try.underlying4 (fun ds hl => by
    have hl' : ds.length = 1 := hl
    match ds, hl' with
    | [a], _ => rfl) args ds [] (fun H vvs h => law H vvs ds h hwt2) before base hval hW

theorem over : Rows.packPacksRow.holds Try.pinned (OpenSpec.ofChange Rows.packPacksSpec) :=
  OpenClaim.holds_of_wide 7 Try.f7 rfl rfl rfl rfl rfl rfl rfl ⟨rfl, rfl, rfl, rfl, rfl⟩ rfl rfl rfl rfl rfl (by kernel_rfl) Try.func7 (by kernel_rfl)
    (of_decide_eq_true (by kernel_rfl)) (by unfold Func.isWrapper; first | (rw [if_pos (by decide +kernel)]; kernel_rfl) | (rw [if_neg (by decide +kernel)]; exact ⟨rfl, rfl⟩))
    (fun os started H enc _ => lifted os started H enc)

theorem proved : Rows.PackPacksSaid :=
  over
end PackPacks
end Go.Proofs.Ytlclbfkdaemilaa

