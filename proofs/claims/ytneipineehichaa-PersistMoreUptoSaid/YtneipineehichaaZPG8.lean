/-
  PersistMore, up to a bulk of 1048576: the law returns true; the arguments read behind the call as they read before. The condition is the statement's own (the appended slice is longer than what came in).
-/
import Derived.Test.YtneipineehichaaRows
import Derived.Test.YtneipineehichaaZPD5
import Derived.Test.YtneipineehichaaZPG0
set_option linter.unusedSimpArgs false
set_option linter.unusedVariables false
namespace Go.Proofs.Ytneipineehichaa
open Go.W Go.ChangeShapes Go.WideShapes Go.ChangeAt Go.RowKit
theorem bulk_pos {H : Type} (d : DataW H) : 1 ≤ Rows.uptoBulk d := by
  cases d with
  | lit x => cases x <;> simp [Rows.uptoBulk]
  | _ => simp [Rows.uptoBulk]
theorem bulk_len {H : Type} : ∀ l : List (DataW H), l.length ≤ Rows.uptoBulkAll l
  | [] => by simp [Rows.uptoBulkAll]
  | d :: l => by
    have := bulk_len l
    have := bulk_pos d
    simp only [Rows.uptoBulkAll, List.length_cons]
    omega
theorem bulk_slice {H : Type} {enc : TypeId × Value → H} {P : Program} {W : World} {v : Value} {d : DataW H} {p : List MemPlace} {r : Reach} {b0 : Nat} {t e : TypeId} (ht : P.underlying t = some (.slice e)) (hv : Value.okWide P W r b0 t v) (h : DataW.Trod enc P W 0 (fun _ => true) true t v d p) : ∃ a n c, v = .slice a n c ∧ n ≤ Rows.uptoBulk d := by
  obtain ⟨a0, len, cap, rfl⟩ := okWide_slice ht hv
  obtain ⟨fuel, hf⟩ := h
  refine ⟨a0, len, cap, rfl, ?_⟩
  rcases Deep.open_slice ht hf with ⟨h1, _⟩ | ⟨a, len', cap', m, n, D, Pl, h1, _, hl, hm, _, hx, _⟩
  · simp only [Value.cells, List.cons.injEq, Value.slice.injEq, and_true] at h1
    omega
  · simp only [Value.cells, List.cons.injEq, Value.slice.injEq, and_true] at h1
    simp only [Prod.mk.injEq] at hx
    rw [hx.1]
    have := bulk_len ((List.range len').map D)
    rw [List.length_map, List.length_range] at this
    simp only [Rows.uptoBulk]
    omega
set_option maxRecDepth 100000 in
theorem persistMore_contract (H : Type) (enc : TypeId × Value → H) (W : World) (base : Nat) (args : Array Value) (ds gs : List (DataW H)) (before : List MemPlace)
    (hval : ∀ (j : Nat) t v, Try.f4.params[j]? = some t → args[j]? = some v → Value.okWide Try.prog W .any base t v)
    (hW : DataW.Whole enc Try.prog Try.f4.params.toList Rows.persistMoreSpec.vars false W args.toList ds gs before) (hk : Rows.uptoSmall H (ds ++ gs) = true) :
    Calls Try.prog 4 args W fun e W' => ∃ v, e = .returned v ∧ Rows.persistMoreSpec.post enc Try.prog Try.f4 false true false false W args v W' := by
  have hW' := hW
  obtain ⟨p, q, hA, hV, rfl, hfz, hnd⟩ := hW
  rw [Try.params4] at hA hval
  obtain ⟨v0, vs0, d0, ds0, p0, q0, hargs, rfl, rfl, h0, r0⟩ := trodAll_cons hA
  obtain ⟨v1, vs1, d1, ds1, p1, q1, rfl, rfl, rfl, h1, r1⟩ := trodAll_cons r0
  obtain ⟨v2, vs2, d2, ds2, p2, q2, rfl, rfl, rfl, h2, r2⟩ := trodAll_cons r1
  obtain ⟨rfl, rfl, rfl⟩ := trodAll_nil r2
  obtain rfl : args = #[v0, v1, v2] := by cases args; simp_all
  obtain ⟨rfl, rfl⟩ := trodVars_none hV
  obtain ⟨s0, y0, l0, rfl, hc0⟩ := open_cfg (hval 0 23 v0 rfl rfl) h0
  have hcap1 := open_cap Try.underlying24 (hval 1 24 v1 rfl rfl) h1
  have hcap2 := open_cap Try.underlying24 (hval 2 24 v2 rfl rfl) h2
  have hb1 := bulk_slice Try.underlying24 (hval 1 24 v1 rfl rfl) h1
  have hb2 := bulk_slice Try.underlying24 (hval 2 24 v2 rfl rfl) h2
  obtain ⟨L1, hL1, hM1⟩ := open_refs (hval 1 24 v1 rfl rfl) h1
  obtain ⟨L2, hL2, hM2⟩ := open_refs (hval 2 24 v2 rfl rfl) h2
  have hs : Rows.uptoBulkAll [d0, d1, d2] ≤ 1048576 := by
    simp only [Rows.uptoSmall, decide_eq_true_eq, List.append_nil] at hk
    exact hk
  simp only [Rows.uptoBulkAll] at hs
  have l1 : L1.length ≤ 1048576 := by
    obtain ⟨a, n, c, e, hn⟩ := hb1
    obtain ⟨a', c', e'⟩ := hL1.form
    rw [e] at e'
    simp only [Value.slice.injEq] at e'
    omega
  have l2 : L2.length ≤ 1048576 := by
    obtain ⟨a, n, c, e, hn⟩ := hb2
    obtain ⟨a', c', e'⟩ := hL2.form
    rw [e] at e'
    simp only [Value.slice.injEq] at e'
    omega
  refine (below_of T.en4 (PersistMore_spec s0 y0 l0 v1 L1 v2 L2 W hL1 hL2 hcap1 hcap2 l1 l2)).mono ?_
  rintro e W' ⟨rfl, hb⟩
  exact ⟨_, rfl, post_law laidOut (by kernel_rfl) rfl (by kernel_rfl) Try.underlying4 rfl hW' hb⟩
set_option maxRecDepth 100000 in
theorem persistMore_lifted (os : Os) (started : os.Started) (H : Type) (enc : TypeId × Value → H) (F : Stop.Interp) :
    ReturnsInHanded {} Try.checked os 4 .any ((Rows.OpenSpec.upto Rows.persistMoreSpec).pre6 enc Try.prog Try.f4 Rows.persistMoreUptoRow.domain false) (((Rows.OpenSpec.upto Rows.persistMoreSpec).at F).post enc Try.prog Try.f4 false true false false) := by
  refine returnsInHanded_of_cond (C := Try.checked) (k := Rows.uptoSmall) rfl own started (by kernel_rfl) Try.func4
    (OpenSpec.witness (enc := enc) (C := Try.checked) (k := Rows.uptoSmall) rfl false ⟨#[], #[.agg #[.int .i64 0, .int .i64 0, .int .i64 0], .slice none 0 0, .slice none 0 0], []⟩ 8 (by kernel_rfl) (by kernel_rfl) (by kernel_rfl) (x := ([.agg [.lit (.int .i64 0), .lit (.int .i64 0), .lit (.int .i64 0)], .nil, .nil], [], [])) (by kernel_rfl) (by kernel_rfl) (by kernel_rfl)) ?_
  intro W base args ds gs before hval hW _ hk _
  exact persistMore_contract H enc W base args ds gs before hval hW hk
theorem persistMoreUpto_holds : Rows.PersistMoreUptoSaid :=
  OpenClaim.holds_of_cond 4 Try.f4 rfl rfl rfl rfl rfl rfl rfl ⟨rfl, rfl, rfl, rfl, rfl⟩ rfl rfl rfl rfl rfl (by kernel_rfl) Try.func4 (by kernel_rfl)
    (of_decide_eq_true (by kernel_rfl)) (by unfold Func.isWrapper; first | (rw [if_pos (by decide +kernel)]; kernel_rfl) | (rw [if_neg (by decide +kernel)]; exact ⟨rfl, rfl⟩))
    (fun os started H enc _ F => persistMore_lifted os started H enc F)
end Go.Proofs.Ytneipineehichaa
