/-
  Graphs of small bulk, opened.
-/
import Derived.Test.YtlhlbiaibgmapaaRows
import Derived.Test.YtlhlbiaibgmapaaZGF0
set_option linter.unusedSimpArgs false
set_option linter.unusedVariables false
namespace Go.Proofs.Ytlhlbiaibgmapaa
open Go.W Go.ChangeShapes Go.WideShapes Go.ChangeAt Go.RowKit
theorem bulk_pos {H : Type} (d : DataW H) : 1 ≤ Rows.uptoBulk d := by
  cases d with
  | lit x => cases x <;> simp [Rows.uptoBulk]
  | _ => simp [Rows.uptoBulk]
theorem bulk_len {H : Type} : ∀ l : List (DataW H), l.length ≤ Rows.uptoBulkAll l
  | [] => by simp [Rows.uptoBulkAll]
  | d :: l => by
    have := bulk_len l
    have := bulk_pos d
    simp only [Rows.uptoBulkAll, List.length_cons]
    omega
theorem bulk_cells {H : Type} {enc : TypeId × Value → H} {P : Program} {W : World} {v : Value} {x : DataW H × List MemPlace} {fuel : Nat} {t e : TypeId} (ht : P.underlying t = some (.slice e)) (hf : DataW.trod enc P W 0 (fun _ => true) true fuel t [v] = some x) : ∃ a n c, v = .slice a n c ∧ n ≤ Rows.uptoBulk x.1 := by
  rcases Deep.open_slice ht hf with ⟨h1, h2⟩ | ⟨a, len', cap', m, n, D, Pl, h1, _, hl, hm, _, hx, _⟩
  · simp only [List.cons.injEq, and_true] at h1
    exact ⟨_, _, _, h1, Nat.zero_le _⟩
  · simp only [List.cons.injEq, and_true] at h1
    refine ⟨_, _, _, h1, ?_⟩
    rw [hx]
    have := bulk_len ((List.range len').map D)
    rw [List.length_map, List.length_range] at this
    simp only [Rows.uptoBulk]
    omega
section
variable {H : Type} {enc : TypeId × Value → H} {W : World} {v : Value} {d : DataW H} {p : List MemPlace} {r : Reach} {b0 : Nat}
set_option maxRecDepth 100000 in
theorem open_graphU (hv : Value.okWide Try.prog W r b0 25 v) (h : DataW.Trod enc Try.prog W 0 (fun _ => true) true 25 v d p) : ∃ B PV, GrAt W v B PV ∧ B.length ≤ Rows.uptoBulk d := by
  obtain ⟨v0, v1, y0, y1, n, rfl, rfl, _, h0, h1⟩ := Joins.open_agg2 Try.underlying25 (by kernel_rfl) (show Try.prog.cellsOf 25 = 2 by kernel_rfl) hv h
  obtain ⟨u, B, q0, hB, hl⟩ := open_blks_cells h0
  obtain ⟨u', PV, q1, hP, _⟩ := open_intss_cells Try.underlying23 Try.underlying36 Try.underlying3 (by kernel_rfl) (by kernel_rfl) h1
  simp only [List.cons.injEq, and_true] at q0 q1
  subst q0 q1
  refine ⟨B, PV, ⟨_, _, rfl, hB, hP⟩, ?_⟩
  obtain ⟨a, m, c, e, hm⟩ := bulk_cells Try.underlying22 h0
  obtain ⟨a', c', e'⟩ := hB.form
  rw [e'] at e
  simp only [Value.slice.injEq] at e
  simp only [Rows.uptoBulk, Rows.uptoBulkAll]
  omega
end
end Go.Proofs.Ytlhlbiaibgmapaa
