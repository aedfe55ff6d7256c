/-
  More openings of arguments: slices of integers of any kind.
-/
import Derived.Test.YtblogcihkjhgkaaG1
set_option linter.unusedSimpArgs false
set_option linter.unusedVariables false
namespace Go.W
open Go.ChangeShapes Go.WideShapes Go.ChangeAt Go.RowKit
section
variable {H : Type} {enc : TypeId × Value → H} {P : Program}
theorem open_ints {W : World} {t e : TypeId} {v : Value} {d : DataW H} {p : List MemPlace} {r : Reach} {b0 : Nat} (ht : P.underlying t = some (.slice e)) (he : P.underlying e = some (.int .i64)) (hc : P.cellsOf e = 1)
    (hv : Value.okWide P W r b0 t v) (h : DataW.Trod enc P W 0 (fun _ => true) true t v d p) : ∃ l : List Int, IntsAt W v l ∧ l.length ≤ maxLen ∧ ∀ n ∈ l, i64ok n := by
  obtain ⟨rows, h2, h3, h4⟩ := open_rows ht hc (by omega) hv h
  obtain ⟨L, rfl, hL⟩ := rows_map (fun n : Int => [Value.int .i64 n]) (q := i64ok) rows fun r hr => by
    obtain ⟨n, x, hx⟩ := h4 r hr
    obtain ⟨z, h5, _, hw⟩ := DataW.trod_int he hx
    exact ⟨z, h5, bounds_i64 hw⟩
  exact ⟨L, ints_of_rows h2, by simpa using h3, hL⟩
/-- a slice of bytes -/
theorem open_u8s {W : World} {t e : TypeId} {v : Value} {d : DataW H} {p : List MemPlace} {r : Reach} {b0 : Nat} (ht : P.underlying t = some (.slice e)) (he : P.underlying e = some (.int .u8)) (hc : P.cellsOf e = 1)
    (hv : Value.okWide P W r b0 t v) (h : DataW.Trod enc P W 0 (fun _ => true) true t v d p) : ∃ l : List Int, SlAt W v 1 (l.map fun n => [.int .u8 n]) ∧ l.length ≤ maxLen ∧ ∀ n ∈ l, 0 ≤ n ∧ n ≤ 255 := by
  obtain ⟨rows, h2, h3, h4⟩ := open_rows ht hc (by omega) hv h
  obtain ⟨L, rfl, hL⟩ := rows_map (fun n : Int => [Value.int .u8 n]) (q := fun n => 0 ≤ n ∧ n ≤ 255) rows fun r hr => by
    obtain ⟨n, x, hx⟩ := h4 r hr
    obtain ⟨z, h5, _, hw⟩ := DataW.trod_int he hx
    exact ⟨z, h5, bounds_u8 hw⟩
  exact ⟨L, h2, by simpa using h3, hL⟩
end
end Go.W
