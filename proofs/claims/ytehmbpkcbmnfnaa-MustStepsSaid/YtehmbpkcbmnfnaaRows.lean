/-
  No cell of these rows narrows 'for every input' (looked for: loops, veiled, ifaces, maps, wideKeys, modest, calm, conditions, laid).
  DERIVED. THE GIVEN ROWS OF THIS SEAT. 8 by the template 'for every input the law returns true; each argument reads behind the call as it read before'; 0 by the template 'total and deterministic' (their statements: YtehmbpkcbmnfnaaTotals.lean).
  GIVEN WITH THE SEED: the statements are not yours to turn. If you find one false, say at which input.
  Laid BY PROGRAM, IN A SANDBOX (cutbox-rows.mjs): the forced cells as the released guide's own fill.sh prints them over the translation f926053dd4156f37… (all of the seat's roots in one cut). By AI agents, Wed Nov 11 2026. No macro, syntax, notation, axiom, sorry.
-/
import Derived.Test.YtehmbpkcbmnfnaaChecked
import GoSem.Claim
import GoSem.ClaimJoined
import GoSem.ClaimMapViews
import Derived.JoinedTies
import Derived.KernelRfl
namespace Go.Proofs.Ytehmbpkcbmnfnaa
/- THE CELL 'sum', in the pinned program and in every row, IS THE sha256 OF THE DUMP (.gsa) THAT YtehmbpkcbmnfnaaProg.lean LOADS. Nothing in Lean hashes anything: it is a label: what it is worth is what the hold of that sum in a sandbox is worth. -/
noncomputable def Try.pinned : Pinned := { name := "ytehmbpkcbmnfnaa", sum := "f926053dd4156f373c20762f8c8eb419855d7e5aa143a7ad17490f128796b49a", checked := Try.checked }
namespace Rows
def none {H : Type} : Left H := { results := [], args := [] }

/-- 'ontimelaw30.MustSteps': WHATEVER THE INPUT: true; the input reads as it did. -/
def mustStepsSpec : ChangeSpec := { name := "mustSteps", fn := fun _ => fun
  | [d1, d2, d3] => { results := [.lit (.bool true)], args := [d1, d2, d3] }
  | _ => none }
def mustStepsRow : OpenClaim := { program := "ytehmbpkcbmnfnaa", sum := "f926053dd4156f373c20762f8c8eb419855d7e5aa143a7ad17490f128796b49a", func := "ontime/ontimelaw30.MustSteps", spec := "mustSteps", recurses := true, apart := false }
def MustStepsSaid : Prop := mustStepsRow.holds Try.pinned (OpenSpec.ofChange mustStepsSpec)

/-- ITS FALSE NEIGHBOUR: 'it returns false'. Refute it at one input. -/
def mustStepsWrong : ChangeSpec := { name := "mustSteps", fn := fun _ => fun
  | [d1, d2, d3] => { results := [.lit (.bool false)], args := [d1, d2, d3] }
  | _ => none }
def MustStepsWrongFalsely : Prop := mustStepsRow.holds Try.pinned (OpenSpec.ofChange mustStepsWrong)

/-- 'ontimelaw30.MustBounds': WHATEVER THE INPUT: true; the input reads as it did. -/
def mustBoundsSpec : ChangeSpec := { name := "mustBounds", fn := fun _ => fun
  | [d1, d2, d3] => { results := [.lit (.bool true)], args := [d1, d2, d3] }
  | _ => none }
def mustBoundsRow : OpenClaim := { program := "ytehmbpkcbmnfnaa", sum := "f926053dd4156f373c20762f8c8eb419855d7e5aa143a7ad17490f128796b49a", func := "ontime/ontimelaw30.MustBounds", spec := "mustBounds", recurses := true, apart := false }
def MustBoundsSaid : Prop := mustBoundsRow.holds Try.pinned (OpenSpec.ofChange mustBoundsSpec)

/-- ITS FALSE NEIGHBOUR: 'it returns false'. Refute it at one input. -/
def mustBoundsWrong : ChangeSpec := { name := "mustBounds", fn := fun _ => fun
  | [d1, d2, d3] => { results := [.lit (.bool false)], args := [d1, d2, d3] }
  | _ => none }
def MustBoundsWrongFalsely : Prop := mustBoundsRow.holds Try.pinned (OpenSpec.ofChange mustBoundsWrong)

/-- 'ontimelaw30.MustDescribes': WHATEVER THE INPUT: true; the input reads as it did. -/
def mustDescribesSpec : ChangeSpec := { name := "mustDescribes", fn := fun _ => fun
  | [d1, d2, d3] => { results := [.lit (.bool true)], args := [d1, d2, d3] }
  | _ => none }
def mustDescribesRow : OpenClaim := { program := "ytehmbpkcbmnfnaa", sum := "f926053dd4156f373c20762f8c8eb419855d7e5aa143a7ad17490f128796b49a", func := "ontime/ontimelaw30.MustDescribes", spec := "mustDescribes", recurses := true, apart := false }
def MustDescribesSaid : Prop := mustDescribesRow.holds Try.pinned (OpenSpec.ofChange mustDescribesSpec)

/-- ITS FALSE NEIGHBOUR: 'it returns false'. Refute it at one input. -/
def mustDescribesWrong : ChangeSpec := { name := "mustDescribes", fn := fun _ => fun
  | [d1, d2, d3] => { results := [.lit (.bool false)], args := [d1, d2, d3] }
  | _ => none }
def MustDescribesWrongFalsely : Prop := mustDescribesRow.holds Try.pinned (OpenSpec.ofChange mustDescribesWrong)

/-- 'ontimelaw30.MustJoins': WHATEVER THE INPUT: true; the input reads as it did. -/
def mustJoinsSpec : ChangeSpec := { name := "mustJoins", fn := fun _ => fun
  | [d1, d2, d3, d4] => { results := [.lit (.bool true)], args := [d1, d2, d3, d4] }
  | _ => none }
def mustJoinsRow : OpenClaim := { program := "ytehmbpkcbmnfnaa", sum := "f926053dd4156f373c20762f8c8eb419855d7e5aa143a7ad17490f128796b49a", func := "ontime/ontimelaw30.MustJoins", spec := "mustJoins", recurses := true, apart := false }
def MustJoinsSaid : Prop := mustJoinsRow.holds Try.pinned (OpenSpec.ofChange mustJoinsSpec)

/-- ITS FALSE NEIGHBOUR: 'it returns false'. Refute it at one input. -/
def mustJoinsWrong : ChangeSpec := { name := "mustJoins", fn := fun _ => fun
  | [d1, d2, d3, d4] => { results := [.lit (.bool false)], args := [d1, d2, d3, d4] }
  | _ => none }
def MustJoinsWrongFalsely : Prop := mustJoinsRow.holds Try.pinned (OpenSpec.ofChange mustJoinsWrong)

/-- 'ontimelaw30.MustZero': WHATEVER THE INPUT: true; the input reads as it did. -/
def mustZeroSpec : ChangeSpec := { name := "mustZero", fn := fun _ => fun
  | [d1, d2, d3] => { results := [.lit (.bool true)], args := [d1, d2, d3] }
  | _ => none }
def mustZeroRow : OpenClaim := { program := "ytehmbpkcbmnfnaa", sum := "f926053dd4156f373c20762f8c8eb419855d7e5aa143a7ad17490f128796b49a", func := "ontime/ontimelaw30.MustZero", spec := "mustZero", recurses := true, apart := false }
def MustZeroSaid : Prop := mustZeroRow.holds Try.pinned (OpenSpec.ofChange mustZeroSpec)

/-- ITS FALSE NEIGHBOUR: 'it returns false'. Refute it at one input. -/
def mustZeroWrong : ChangeSpec := { name := "mustZero", fn := fun _ => fun
  | [d1, d2, d3] => { results := [.lit (.bool false)], args := [d1, d2, d3] }
  | _ => none }
def MustZeroWrongFalsely : Prop := mustZeroRow.holds Try.pinned (OpenSpec.ofChange mustZeroWrong)

/-- 'ontimelaw30.MustExact': WHATEVER THE INPUT: true; the input reads as it did. -/
def mustExactSpec : ChangeSpec := { name := "mustExact", fn := fun _ => fun
  | [d1, d2] => { results := [.lit (.bool true)], args := [d1, d2] }
  | _ => none }
def mustExactRow : OpenClaim := { program := "ytehmbpkcbmnfnaa", sum := "f926053dd4156f373c20762f8c8eb419855d7e5aa143a7ad17490f128796b49a", func := "ontime/ontimelaw30.MustExact", spec := "mustExact", inPlace := ["slices.overlaps[int]"], recurses := true, apart := false }
def MustExactSaid : Prop := mustExactRow.holds Try.pinned (OpenSpec.ofChange mustExactSpec)

/-- ITS FALSE NEIGHBOUR: 'it returns false'. Refute it at one input. -/
def mustExactWrong : ChangeSpec := { name := "mustExact", fn := fun _ => fun
  | [d1, d2] => { results := [.lit (.bool false)], args := [d1, d2] }
  | _ => none }
def MustExactWrongFalsely : Prop := mustExactRow.holds Try.pinned (OpenSpec.ofChange mustExactWrong)

/-- 'ontimelaw30.MustSound': WHATEVER THE INPUT: true; the input reads as it did. -/
def mustSoundSpec : ChangeSpec := { name := "mustSound", fn := fun _ => fun
  | [d1, d2, d3] => { results := [.lit (.bool true)], args := [d1, d2, d3] }
  | _ => none }
def mustSoundRow : OpenClaim := { program := "ytehmbpkcbmnfnaa", sum := "f926053dd4156f373c20762f8c8eb419855d7e5aa143a7ad17490f128796b49a", func := "ontime/ontimelaw30.MustSound", spec := "mustSound", inPlace := ["slices.overlaps[int]"], recurses := true, apart := false }
def MustSoundSaid : Prop := mustSoundRow.holds Try.pinned (OpenSpec.ofChange mustSoundSpec)

/-- ITS FALSE NEIGHBOUR: 'it returns false'. Refute it at one input. -/
def mustSoundWrong : ChangeSpec := { name := "mustSound", fn := fun _ => fun
  | [d1, d2, d3] => { results := [.lit (.bool false)], args := [d1, d2, d3] }
  | _ => none }
def MustSoundWrongFalsely : Prop := mustSoundRow.holds Try.pinned (OpenSpec.ofChange mustSoundWrong)

/-- 'ontimelaw30.MustMerges': WHATEVER THE INPUT: true; the input reads as it did. -/
def mustMergesSpec : ChangeSpec := { name := "mustMerges", fn := fun _ => fun
  | [d1, d2, d3, d4] => { results := [.lit (.bool true)], args := [d1, d2, d3, d4] }
  | _ => none }
def mustMergesRow : OpenClaim := { program := "ytehmbpkcbmnfnaa", sum := "f926053dd4156f373c20762f8c8eb419855d7e5aa143a7ad17490f128796b49a", func := "ontime/ontimelaw30.MustMerges", spec := "mustMerges", inPlace := ["slices.overlaps[int]"], recurses := true, apart := false }
def MustMergesSaid : Prop := mustMergesRow.holds Try.pinned (OpenSpec.ofChange mustMergesSpec)

/-- ITS FALSE NEIGHBOUR: 'it returns false'. Refute it at one input. -/
def mustMergesWrong : ChangeSpec := { name := "mustMerges", fn := fun _ => fun
  | [d1, d2, d3, d4] => { results := [.lit (.bool false)], args := [d1, d2, d3, d4] }
  | _ => none }
def MustMergesWrongFalsely : Prop := mustMergesRow.holds Try.pinned (OpenSpec.ofChange mustMergesWrong)

/- THE SECOND FORM. 'bulk': how many values and letters a reading holds, each counted each time it is reached (what is shared counts as often as it is met; a slice's spare places count too). A statement '..UptoSaid' is the law's where the arguments, and the package variables that the reading takes, are together of bulk at most 1048576: NARROWER than '..Said'. Prove '..Said' where nothing that the law and all that it calls make is longer than what came in: it says more and counts as full. Else prove '..UptoSaid'. A law counts once. -/
mutual
def uptoBulk {H : Type} : DataW H → Nat
  | .lit (.string bytes) => bytes.length + 1
  | .lit _ => 1
  | .nil => 1
  | .ptr d => uptoBulk d + 1
  | .slice elems spare => uptoBulkAll elems + uptoBulkAll spare + 1
  | .agg parts => uptoBulkAll parts + 1
  | .iface _ d => uptoBulk d + 1
  | .map entries => uptoBulkEntries entries + 1
  | .held _ => 1
def uptoBulkAll {H : Type} : List (DataW H) → Nat
  | [] => 0
  | d :: r => uptoBulk d + uptoBulkAll r
def uptoBulkEntries {H : Type} : List (Lit × DataW H) → Nat
  | [] => 0
  | x :: r => uptoBulkEntry x + uptoBulkEntries r
def uptoBulkEntry {H : Type} : Lit × DataW H → Nat
  | (.string bytes, d) => bytes.length + uptoBulk d + 1
  | (_, d) => uptoBulk d + 1
 end
def uptoSmall : (H : Type) → List (DataW H) → Bool := fun _ ds => decide (uptoBulkAll ds ≤ 1048576)
def OpenSpec.upto (s : _root_.Go.ChangeSpec) : _root_.Go.OpenSpec := { _root_.Go.OpenSpec.ofChange s with cond := some uptoSmall }

/-- 'ontimelaw30.MustSteps', WHERE WHAT IT READS IS OF BULK AT MOST 1048576: true; the input reads as it did. -/
def mustStepsUptoRow : OpenClaim := { program := "ytehmbpkcbmnfnaa", sum := "f926053dd4156f373c20762f8c8eb419855d7e5aa143a7ad17490f128796b49a", func := "ontime/ontimelaw30.MustSteps", spec := "mustSteps", recurses := true, apart := false, narrowed := true }
def MustStepsUptoSaid : Prop := mustStepsUptoRow.holds Try.pinned (OpenSpec.upto mustStepsSpec)

/-- 'ontimelaw30.MustBounds', WHERE WHAT IT READS IS OF BULK AT MOST 1048576: true; the input reads as it did. -/
def mustBoundsUptoRow : OpenClaim := { program := "ytehmbpkcbmnfnaa", sum := "f926053dd4156f373c20762f8c8eb419855d7e5aa143a7ad17490f128796b49a", func := "ontime/ontimelaw30.MustBounds", spec := "mustBounds", recurses := true, apart := false, narrowed := true }
def MustBoundsUptoSaid : Prop := mustBoundsUptoRow.holds Try.pinned (OpenSpec.upto mustBoundsSpec)

/-- 'ontimelaw30.MustDescribes', WHERE WHAT IT READS IS OF BULK AT MOST 1048576: true; the input reads as it did. -/
def mustDescribesUptoRow : OpenClaim := { program := "ytehmbpkcbmnfnaa", sum := "f926053dd4156f373c20762f8c8eb419855d7e5aa143a7ad17490f128796b49a", func := "ontime/ontimelaw30.MustDescribes", spec := "mustDescribes", recurses := true, apart := false, narrowed := true }
def MustDescribesUptoSaid : Prop := mustDescribesUptoRow.holds Try.pinned (OpenSpec.upto mustDescribesSpec)

/-- 'ontimelaw30.MustJoins', WHERE WHAT IT READS IS OF BULK AT MOST 1048576: true; the input reads as it did. -/
def mustJoinsUptoRow : OpenClaim := { program := "ytehmbpkcbmnfnaa", sum := "f926053dd4156f373c20762f8c8eb419855d7e5aa143a7ad17490f128796b49a", func := "ontime/ontimelaw30.MustJoins", spec := "mustJoins", recurses := true, apart := false, narrowed := true }
def MustJoinsUptoSaid : Prop := mustJoinsUptoRow.holds Try.pinned (OpenSpec.upto mustJoinsSpec)

/-- 'ontimelaw30.MustZero', WHERE WHAT IT READS IS OF BULK AT MOST 1048576: true; the input reads as it did. -/
def mustZeroUptoRow : OpenClaim := { program := "ytehmbpkcbmnfnaa", sum := "f926053dd4156f373c20762f8c8eb419855d7e5aa143a7ad17490f128796b49a", func := "ontime/ontimelaw30.MustZero", spec := "mustZero", recurses := true, apart := false, narrowed := true }
def MustZeroUptoSaid : Prop := mustZeroUptoRow.holds Try.pinned (OpenSpec.upto mustZeroSpec)

/-- 'ontimelaw30.MustExact', WHERE WHAT IT READS IS OF BULK AT MOST 1048576: true; the input reads as it did. -/
def mustExactUptoRow : OpenClaim := { program := "ytehmbpkcbmnfnaa", sum := "f926053dd4156f373c20762f8c8eb419855d7e5aa143a7ad17490f128796b49a", func := "ontime/ontimelaw30.MustExact", spec := "mustExact", inPlace := ["slices.overlaps[int]"], recurses := true, apart := false, narrowed := true }
def MustExactUptoSaid : Prop := mustExactUptoRow.holds Try.pinned (OpenSpec.upto mustExactSpec)

/-- 'ontimelaw30.MustSound', WHERE WHAT IT READS IS OF BULK AT MOST 1048576: true; the input reads as it did. -/
def mustSoundUptoRow : OpenClaim := { program := "ytehmbpkcbmnfnaa", sum := "f926053dd4156f373c20762f8c8eb419855d7e5aa143a7ad17490f128796b49a", func := "ontime/ontimelaw30.MustSound", spec := "mustSound", inPlace := ["slices.overlaps[int]"], recurses := true, apart := false, narrowed := true }
def MustSoundUptoSaid : Prop := mustSoundUptoRow.holds Try.pinned (OpenSpec.upto mustSoundSpec)

/-- 'ontimelaw30.MustMerges', WHERE WHAT IT READS IS OF BULK AT MOST 1048576: true; the input reads as it did. -/
def mustMergesUptoRow : OpenClaim := { program := "ytehmbpkcbmnfnaa", sum := "f926053dd4156f373c20762f8c8eb419855d7e5aa143a7ad17490f128796b49a", func := "ontime/ontimelaw30.MustMerges", spec := "mustMerges", inPlace := ["slices.overlaps[int]"], recurses := true, apart := false, narrowed := true }
def MustMergesUptoSaid : Prop := mustMergesUptoRow.holds Try.pinned (OpenSpec.upto mustMergesSpec)

end Rows
end Go.Proofs.Ytehmbpkcbmnfnaa
