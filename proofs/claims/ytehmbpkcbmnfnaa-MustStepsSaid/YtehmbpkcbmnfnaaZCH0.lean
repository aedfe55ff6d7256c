/-
  The arguments of the statements of must, opened.
-/
import Derived.Test.YtehmbpkcbmnfnaaZCV1
import Derived.Test.YtehmbpkcbmnfnaaZG
import Derived.Lib.SmallJoins
import Derived.Deep.Strs
set_option linter.unusedSimpArgs false
set_option linter.unusedVariables false
namespace Go.Proofs.Ytehmbpkcbmnfnaa
open Go.W Go.ChangeShapes Go.WideShapes Go.ChangeAt Go.RowKit
theorem own : ownKnob Try.prog.godebug = none := by kernel_rfl
theorem laidOut : laidOutB Try.prog = true := by kernel_rfl
section
variable {H : Type} {enc : TypeId × Value → H} {W : World} {v : Value} {d : DataW H} {p : List MemPlace} {r : Reach} {b0 : Nat}
set_option maxRecDepth 100000 in
theorem open_cfg (hv : Value.okWide Try.prog W r b0 23 v) (h : DataW.Trod enc Try.prog W 0 (fun _ => true) true 23 v d p) : ∃ s y l, v = cfgV s y l ∧ i64ok s ∧ i64ok y ∧ i64ok l := by
  obtain ⟨v0, v1, v2, y0, y1, y2, n, rfl, _, _, h0, h1, h2⟩ := Joins.open_agg3 Try.underlying23 (by kernel_rfl) (show Try.prog.cellsOf 23 = 3 by kernel_rfl) hv h
  obtain ⟨a, e0, _, w0⟩ := DataW.trod_int Try.underlying3 h0
  obtain ⟨b, e1, _, w1⟩ := DataW.trod_int Try.underlying3 h1
  obtain ⟨c, e2, _, w2⟩ := DataW.trod_int Try.underlying3 h2
  simp only [List.cons.injEq, and_true] at e0 e1 e2
  subst e0 e1 e2
  exact ⟨a, b, c, rfl, bounds_i64 w0, bounds_i64 w1, bounds_i64 w2⟩
theorem open_max {P : Program} {t e : TypeId} (ht : P.underlying t = some (.slice e)) (hv : Value.okWide P W r b0 t v) (h : DataW.Trod enc P W 0 (fun _ => true) true t v d p) : ∃ a n c, v = .slice a n c ∧ n ≤ 9223372036854775807 := by
  obtain ⟨a0, len, cap, rfl⟩ := okWide_slice ht hv
  obtain ⟨fuel, hf⟩ := h
  refine ⟨a0, len, cap, rfl, ?_⟩
  rcases Deep.open_slice ht hf with ⟨h1, _⟩ | ⟨a, len', cap', m, n, D, Pl, h1, _, hl, hm, _⟩
  · simp only [Value.cells, List.cons.injEq, Value.slice.injEq, and_true] at h1
    omega
  · simp only [Value.cells, List.cons.injEq, Value.slice.injEq, and_true] at h1
    unfold maxLen at hm
    omega
set_option maxRecDepth 100000 in
theorem open_ops (hv : Value.okWide Try.prog W r b0 24 v) (h : DataW.Trod enc Try.prog W 0 (fun _ => true) true 24 v d p) : ∃ L : List Op, OpsAt W v L ∧ OpsOk L := by
  obtain ⟨rows, h2, h3, h4⟩ := open_rows Try.underlying24 (show Try.prog.cellsOf 36 = 3 by kernel_rfl) (by omega) hv h
  obtain ⟨L, rfl, hL⟩ := rows_map opR (q := OpOk) rows fun r hr => by
    obtain ⟨n, x, hx⟩ := h4 r hr
    obtain ⟨y0, y1, y2, m, _, hlen, h0, h1, h2⟩ := Deep.trod_struct3 Try.underlying36 hx
    have ec : Try.prog.cellsOf 36 = 3 := by kernel_rfl
    have e1 : Try.prog.cellsOf 3 = 1 := by kernel_rfl
    have e2 : Try.prog.cellsOf 5 = 1 := by kernel_rfl
    rw [ec] at hlen
    obtain ⟨c0, c1, c2, rfl⟩ : ∃ c0 c1 c2, r = [c0, c1, c2] := by
      match r, hlen with
      | [c0, c1, c2], _ => exact ⟨c0, c1, c2, rfl⟩
    simp only [e1, e2, List.drop_zero, List.drop_succ_cons, List.take_succ_cons, List.take_zero] at h0 h1 h2
    obtain ⟨a, q0, _, w0⟩ := DataW.trod_int Try.underlying3 h0
    obtain ⟨b, q1, _, w1⟩ := DataW.trod_int Try.underlying3 h1
    obtain ⟨c, q2, _, w2⟩ := DataW.trod_int Try.underlying5 h2
    simp only [List.cons.injEq, and_true] at q0 q1 q2
    subst q0 q1 q2
    exact ⟨⟨a, b, c⟩, rfl, bounds_i64 w0, bounds_i64 w1, bounds_u8 w2⟩
  have hA : OpsAt W v L := h2
  obtain ⟨a, n, c, e, hn⟩ := open_max Try.underlying24 hv h
  obtain ⟨a', c', e'⟩ := hA.form
  rw [e] at e'
  simp only [Value.slice.injEq] at e'
  exact ⟨L, h2, by omega, hL⟩
end
end Go.Proofs.Ytehmbpkcbmnfnaa
