/-
  The arguments of the statements on graphs, opened.
-/
import Derived.Test.YtlhlbiaibgmapaaZGA1
import Derived.Test.YtlhlbiaibgmapaaZG
import Derived.Lib.SmallJoins
import Derived.Deep.Strs
set_option linter.unusedSimpArgs false
set_option linter.unusedVariables false
namespace Go.Proofs.Ytlhlbiaibgmapaa
open Go.W Go.ChangeShapes Go.WideShapes Go.ChangeAt Go.RowKit
theorem own : ownKnob Try.prog.godebug = none := by kernel_rfl
theorem laidOut : laidOutB Try.prog = true := by kernel_rfl
section
variable {H : Type} {enc : TypeId × Value → H} {W : World} {v : Value} {d : DataW H} {p : List MemPlace} {r : Reach} {b0 : Nat}
theorem open_intss_cells {P : Program} {t e q : TypeId} {fuel : Nat} {cs : List Value} {x : DataW H × List MemPlace} (ht : P.underlying t = some (.slice e)) (he : P.underlying e = some (.slice q)) (hq : P.underlying q = some (.int .i64)) (hce : P.cellsOf e = 1) (hcq : P.cellsOf q = 1)
    (hf : DataW.trod enc P W 0 (fun _ => true) true fuel t cs = some x) : ∃ v, ∃ ll : List (List Int), cs = [v] ∧ IntssAt W v ll ∧ ll.length ≤ maxLen := by
  obtain ⟨v, rows, h1, h2, h3, h4⟩ := open_cells ht hce (by omega) hf
  obtain ⟨L, rfl, hL⟩ := rows_map (fun y : Value × List Int => [y.1]) (q := fun y => IntsAt W y.1 y.2) rows fun r hr => by
    obtain ⟨n, x, hx⟩ := h4 r hr
    obtain ⟨v, l, rfl, h6, h7, h8⟩ := open_int_cells he hq hcq hx
    exact ⟨(v, l), rfl, h6⟩
  refine ⟨v, L.map (·.2), h1, ?_, by simpa using h3⟩
  rcases h2 with ⟨h, h'⟩ | ⟨b, off, cap, h1, h2⟩
  · exact .inl ⟨h, by simpa using h'⟩
  · refine .inr ⟨b, off, cap, by simpa using h1, fun i l hl => ?_⟩
    simp only [List.getElem?_map] at hl
    obtain ⟨y, hy, rfl⟩ := Option.map_eq_some_iff.1 hl
    have := h2 i [y.1] (by simp [hy])
    rw [Nat.mul_one] at this
    obtain ⟨cs, e, fz, h3, h4, h5⟩ := rd_obj this
    refine ⟨y.1, ?_, hL y (List.mem_of_getElem? hy)⟩
    rw [cell_mk, h3]
    have h6 := congrArg (fun a : Array Value => a[0]?) h5
    simp only [Array.getElem?_extract] at h6
    rw [if_pos (by omega)] at h6
    simpa using h6
abbrev bRow (y : (Int × Int × Value) × List Int) : List Value := [.int .i64 y.1.1, .int .i64 y.1.2.1, y.1.2.2]
set_option maxRecDepth 100000 in
theorem open_blks_cells {fuel : Nat} {cs : List Value} {x : DataW H × List MemPlace} (hf : DataW.trod enc Try.prog W 0 (fun _ => true) true fuel 22 cs = some x) : ∃ v B, cs = [v] ∧ BlksAt W v B ∧ B.length ≤ maxLen := by
  have ec : Try.prog.cellsOf 69 = 3 := by kernel_rfl
  have e1 : Try.prog.cellsOf 3 = 1 := by kernel_rfl
  have e2 : Try.prog.cellsOf 36 = 1 := by kernel_rfl
  obtain ⟨v, rows, h1, h2, h3, h4⟩ := open_cells Try.underlying22 ec (by omega) hf
  obtain ⟨L, rfl, hL⟩ := rows_map bRow (q := fun y => IntsAt W y.1.2.2 y.2) rows fun r hr => by
    obtain ⟨n, x, hx⟩ := h4 r hr
    obtain ⟨y0, y1, y2, m, _, hlen, h0, h1, h2⟩ := Deep.trod_struct3 Try.underlying69 hx
    rw [ec] at hlen
    obtain ⟨c0, c1, c2, rfl⟩ : ∃ c0 c1 c2, r = [c0, c1, c2] := by
      match r, hlen with
      | [c0, c1, c2], _ => exact ⟨c0, c1, c2, rfl⟩
    simp only [e1, e2, List.drop_zero, List.drop_succ_cons, List.take_succ_cons, List.take_zero] at h0 h1 h2
    obtain ⟨a, q0, _, w0⟩ := DataW.trod_int Try.underlying3 h0
    obtain ⟨b, q1, _, w1⟩ := DataW.trod_int Try.underlying3 h1
    obtain ⟨u, l, q2, q3, _, _⟩ := open_int_cells Try.underlying36 Try.underlying3 e1 h2
    simp only [List.cons.injEq, and_true] at q0 q1 q2
    subst q0 q1 q2
    exact ⟨((a, b, _), l), rfl, q3⟩
  refine ⟨v, L.map fun y => (y.1.1, y.1.2.1, y.2), h1, ?_, by simpa using h3⟩
  rcases h2 with ⟨h, h'⟩ | ⟨b, off, cap, h1, h2⟩
  · exact .inl ⟨h, by simpa using h'⟩
  · refine .inr ⟨b, off, cap, by simpa using h1, fun i l hl => ?_⟩
    simp only [List.getElem?_map] at hl
    obtain ⟨y, hy, rfl⟩ := Option.map_eq_some_iff.1 hl
    have := h2 i (bRow y) (by simp [hy])
    exact ⟨y.1.2.2, this, hL y (List.mem_of_getElem? hy)⟩
set_option maxRecDepth 100000 in
theorem open_graph (hv : Value.okWide Try.prog W r b0 25 v) (h : DataW.Trod enc Try.prog W 0 (fun _ => true) true 25 v d p) : ∃ B PV, GrAt W v B PV ∧ B.length ≤ maxLen := by
  obtain ⟨v0, v1, y0, y1, n, rfl, _, _, h0, h1⟩ := Joins.open_agg2 Try.underlying25 (by kernel_rfl) (show Try.prog.cellsOf 25 = 2 by kernel_rfl) hv h
  obtain ⟨u, B, q0, hB, hl⟩ := open_blks_cells h0
  obtain ⟨u', PV, q1, hP, _⟩ := open_intss_cells Try.underlying23 Try.underlying36 Try.underlying3 (by kernel_rfl) (by kernel_rfl) h1
  simp only [List.cons.injEq, and_true] at q0 q1
  subst q0 q1
  exact ⟨B, PV, ⟨_, _, rfl, hB, hP⟩, hl⟩
end
end Go.Proofs.Ytlhlbiaibgmapaa
