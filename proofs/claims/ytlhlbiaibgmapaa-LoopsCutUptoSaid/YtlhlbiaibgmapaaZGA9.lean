/-
  The reference's Chain.
-/
import Derived.Test.YtlhlbiaibgmapaaZGP7
set_option linter.unusedSimpArgs false
set_option linter.unusedVariables false
namespace Go.Proofs.Ytlhlbiaibgmapaa
open Go.W Go.RowKit
theorem domI_out {l : List Int} {a b : Int} (h : b < 0 ∨ (l.length : Int) ≤ b) : domI l a b = false := by
  unfold domI
  split
  · rfl
  · cases hl : l.length with
    | zero => rfl
    | succ k => rw [chn, if_pos h]

end Go.Proofs.Ytlhlbiaibgmapaa
