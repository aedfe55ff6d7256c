/-
  The arguments of the statements of persist, opened.
-/
import Derived.Test.YtneipineehichaaZPC1
import Derived.Test.YtneipineehichaaZG
import Derived.Lib.SmallJoins
import Derived.Deep.Strs
set_option linter.unusedSimpArgs false
set_option linter.unusedVariables false
namespace Go.Proofs.Ytneipineehichaa
open Go.W Go.ChangeShapes Go.WideShapes Go.ChangeAt Go.RowKit
theorem own : ownKnob Try.prog.godebug = none := by kernel_rfl
theorem laidOut : laidOutB Try.prog = true := by kernel_rfl
section
variable {H : Type} {enc : TypeId × Value → H} {W : World} {v : Value} {d : DataW H} {p : List MemPlace} {r : Reach} {b0 : Nat}
set_option maxRecDepth 100000 in
theorem open_cfg (hv : Value.okWide Try.prog W r b0 23 v) (h : DataW.Trod enc Try.prog W 0 (fun _ => true) true 23 v d p) : ∃ s y l, v = cfgV s y l ∧ i64ok s ∧ i64ok y ∧ i64ok l := by
  obtain ⟨v0, v1, v2, y0, y1, y2, n, rfl, _, _, h0, h1, h2⟩ := Joins.open_agg3 Try.underlying23 (by kernel_rfl) (show Try.prog.cellsOf 23 = 3 by kernel_rfl) hv h
  obtain ⟨a, e0, _, w0⟩ := DataW.trod_int Try.underlying3 h0
  obtain ⟨b, e1, _, w1⟩ := DataW.trod_int Try.underlying3 h1
  obtain ⟨c, e2, _, w2⟩ := DataW.trod_int Try.underlying3 h2
  simp only [List.cons.injEq, and_true] at e0 e1 e2
  subst e0 e1 e2
  exact ⟨a, b, c, rfl, bounds_i64 w0, bounds_i64 w1, bounds_i64 w2⟩
set_option maxRecDepth 100000 in
theorem open_refs (hv : Value.okWide Try.prog W r b0 24 v) (h : DataW.Trod enc Try.prog W 0 (fun _ => true) true 24 v d p) : ∃ L : List (Int × Int), RefsAt W v L ∧ L.length ≤ maxLen ∧ ∀ x ∈ L, i64ok x.1 ∧ i64ok x.2 := by
  obtain ⟨rows, h2, h3, h4⟩ := open_rows Try.underlying24 (show Try.prog.cellsOf 44 = 2 by kernel_rfl) (by omega) hv h
  obtain ⟨L, rfl, hL⟩ := rows_map refR (q := fun x => i64ok x.1 ∧ i64ok x.2) rows fun r hr => by
    obtain ⟨n, x, hx⟩ := h4 r hr
    obtain ⟨y0, y1, m, _, hlen, h0, h1⟩ := trod_struct2 Try.underlying44 hx
    have ec : Try.prog.cellsOf 44 = 2 := by kernel_rfl
    have e1 : Try.prog.cellsOf 3 = 1 := by kernel_rfl
    rw [ec] at hlen
    obtain ⟨c0, c1, rfl⟩ : ∃ c0 c1, r = [c0, c1] := by
      match r, hlen with
      | [c0, c1], _ => exact ⟨c0, c1, rfl⟩
    simp only [e1, List.drop_zero, List.drop_succ_cons, List.take_succ_cons, List.take_zero] at h0 h1
    obtain ⟨a, q0, _, w0⟩ := DataW.trod_int Try.underlying3 h0
    obtain ⟨b, q1, _, w1⟩ := DataW.trod_int Try.underlying3 h1
    simp only [List.cons.injEq, and_true] at q0 q1
    subst q0 q1
    exact ⟨(a, b), rfl, bounds_i64 w0, bounds_i64 w1⟩
  exact ⟨L, h2, by simpa using h3, hL⟩
end
end Go.Proofs.Ytneipineehichaa
