/-
  No cell of these rows narrows 'for every input' (looked for: loops, veiled, ifaces, maps, wideKeys, modest, calm, conditions, laid).
  DERIVED. THE GIVEN ROWS OF THIS SEAT. 8 by the template 'for every input the law returns true; each argument reads behind the call as it read before'; 0 by the template 'total and deterministic' (their statements: YtndkadphpbnpeaaTotals.lean).
  GIVEN WITH THE SEED: the statements are not yours to turn. If you find one false, say at which input.
  Laid BY PROGRAM, IN A SANDBOX (cutbox-rows.mjs): the forced cells as the released guide's own fill.sh prints them over the translation 1f41f32edcae9713… (all of the seat's roots in one cut). By AI agents, Wed Nov 11 2026. No macro, syntax, notation, axiom, sorry.
-/
import Derived.Test.YtndkadphpbnpeaaChecked
import GoSem.Claim
import GoSem.ClaimJoined
import GoSem.ClaimMapViews
import Derived.JoinedTies
import Derived.KernelRfl
namespace Go.Proofs.Ytndkadphpbnpeaa
/- THE CELL 'sum', in the pinned program and in every row, IS THE sha256 OF THE DUMP (.gsa) THAT YtndkadphpbnpeaaProg.lean LOADS. Nothing in Lean hashes anything: it is a label: what it is worth is what the hold of that sum in a sandbox is worth. -/
noncomputable def Try.pinned : Pinned := { name := "ytndkadphpbnpeaa", sum := "1f41f32edcae97130d96729a211ca5d4004abbe26f453b64104f5c3b693589d8", checked := Try.checked }
namespace Rows
def none {H : Type} : Left H := { results := [], args := [] }

/-- 'ontimelaw31.MayDescribes': WHATEVER THE INPUT: true; the input reads as it did. -/
def mayDescribesSpec : ChangeSpec := { name := "mayDescribes", fn := fun _ => fun
  | [d1, d2, d3] => { results := [.lit (.bool true)], args := [d1, d2, d3] }
  | _ => none }
def mayDescribesRow : OpenClaim := { program := "ytndkadphpbnpeaa", sum := "1f41f32edcae97130d96729a211ca5d4004abbe26f453b64104f5c3b693589d8", func := "ontime/ontimelaw31.MayDescribes", spec := "mayDescribes", apart := false }
def MayDescribesSaid : Prop := mayDescribesRow.holds Try.pinned (OpenSpec.ofChange mayDescribesSpec)

/-- ITS FALSE NEIGHBOUR: 'it returns false'. Refute it at one input. -/
def mayDescribesWrong : ChangeSpec := { name := "mayDescribes", fn := fun _ => fun
  | [d1, d2, d3] => { results := [.lit (.bool false)], args := [d1, d2, d3] }
  | _ => none }
def MayDescribesWrongFalsely : Prop := mayDescribesRow.holds Try.pinned (OpenSpec.ofChange mayDescribesWrong)

/-- 'ontimelaw31.MayMonotone': WHATEVER THE INPUT: true; the input reads as it did. -/
def mayMonotoneSpec : ChangeSpec := { name := "mayMonotone", fn := fun _ => fun
  | [d1, d2, d3, d4] => { results := [.lit (.bool true)], args := [d1, d2, d3, d4] }
  | _ => none }
def mayMonotoneRow : OpenClaim := { program := "ytndkadphpbnpeaa", sum := "1f41f32edcae97130d96729a211ca5d4004abbe26f453b64104f5c3b693589d8", func := "ontime/ontimelaw31.MayMonotone", spec := "mayMonotone", apart := false }
def MayMonotoneSaid : Prop := mayMonotoneRow.holds Try.pinned (OpenSpec.ofChange mayMonotoneSpec)

/-- ITS FALSE NEIGHBOUR: 'it returns false'. Refute it at one input. -/
def mayMonotoneWrong : ChangeSpec := { name := "mayMonotone", fn := fun _ => fun
  | [d1, d2, d3, d4] => { results := [.lit (.bool false)], args := [d1, d2, d3, d4] }
  | _ => none }
def MayMonotoneWrongFalsely : Prop := mayMonotoneRow.holds Try.pinned (OpenSpec.ofChange mayMonotoneWrong)

/-- 'ontimelaw31.MaySound': WHATEVER THE INPUT: true; the input reads as it did. -/
def maySoundSpec : ChangeSpec := { name := "maySound", fn := fun _ => fun
  | [d1, d2, d3] => { results := [.lit (.bool true)], args := [d1, d2, d3] }
  | _ => none }
def maySoundRow : OpenClaim := { program := "ytndkadphpbnpeaa", sum := "1f41f32edcae97130d96729a211ca5d4004abbe26f453b64104f5c3b693589d8", func := "ontime/ontimelaw31.MaySound", spec := "maySound", inPlace := ["slices.overlaps[int]"], apart := false }
def MaySoundSaid : Prop := maySoundRow.holds Try.pinned (OpenSpec.ofChange maySoundSpec)

/-- ITS FALSE NEIGHBOUR: 'it returns false'. Refute it at one input. -/
def maySoundWrong : ChangeSpec := { name := "maySound", fn := fun _ => fun
  | [d1, d2, d3] => { results := [.lit (.bool false)], args := [d1, d2, d3] }
  | _ => none }
def MaySoundWrongFalsely : Prop := maySoundRow.holds Try.pinned (OpenSpec.ofChange maySoundWrong)

/-- 'ontimelaw31.MayValues': WHATEVER THE INPUT: true; the input reads as it did. -/
def mayValuesSpec : ChangeSpec := { name := "mayValues", fn := fun _ => fun
  | [d1, d2, d3] => { results := [.lit (.bool true)], args := [d1, d2, d3] }
  | _ => none }
def mayValuesRow : OpenClaim := { program := "ytndkadphpbnpeaa", sum := "1f41f32edcae97130d96729a211ca5d4004abbe26f453b64104f5c3b693589d8", func := "ontime/ontimelaw31.MayValues", spec := "mayValues", recurses := true, apart := false }
def MayValuesSaid : Prop := mayValuesRow.holds Try.pinned (OpenSpec.ofChange mayValuesSpec)

/-- ITS FALSE NEIGHBOUR: 'it returns false'. Refute it at one input. -/
def mayValuesWrong : ChangeSpec := { name := "mayValues", fn := fun _ => fun
  | [d1, d2, d3] => { results := [.lit (.bool false)], args := [d1, d2, d3] }
  | _ => none }
def MayValuesWrongFalsely : Prop := mayValuesRow.holds Try.pinned (OpenSpec.ofChange mayValuesWrong)

/-- 'ontimelaw31.MaySteps': WHATEVER THE INPUT: true; the input reads as it did. -/
def mayStepsSpec : ChangeSpec := { name := "maySteps", fn := fun _ => fun
  | [d1, d2] => { results := [.lit (.bool true)], args := [d1, d2] }
  | _ => none }
def mayStepsRow : OpenClaim := { program := "ytndkadphpbnpeaa", sum := "1f41f32edcae97130d96729a211ca5d4004abbe26f453b64104f5c3b693589d8", func := "ontime/ontimelaw31.MaySteps", spec := "maySteps", recurses := true, apart := false }
def MayStepsSaid : Prop := mayStepsRow.holds Try.pinned (OpenSpec.ofChange mayStepsSpec)

/-- ITS FALSE NEIGHBOUR: 'it returns false'. Refute it at one input. -/
def mayStepsWrong : ChangeSpec := { name := "maySteps", fn := fun _ => fun
  | [d1, d2] => { results := [.lit (.bool false)], args := [d1, d2] }
  | _ => none }
def MayStepsWrongFalsely : Prop := mayStepsRow.holds Try.pinned (OpenSpec.ofChange mayStepsWrong)

/-- 'ontimelaw31.MayUnknown': WHATEVER THE INPUT: true; the input reads as it did. -/
def mayUnknownSpec : ChangeSpec := { name := "mayUnknown", fn := fun _ => fun
  | [d1, d2, d3] => { results := [.lit (.bool true)], args := [d1, d2, d3] }
  | _ => none }
def mayUnknownRow : OpenClaim := { program := "ytndkadphpbnpeaa", sum := "1f41f32edcae97130d96729a211ca5d4004abbe26f453b64104f5c3b693589d8", func := "ontime/ontimelaw31.MayUnknown", spec := "mayUnknown", recurses := true, apart := false }
def MayUnknownSaid : Prop := mayUnknownRow.holds Try.pinned (OpenSpec.ofChange mayUnknownSpec)

/-- ITS FALSE NEIGHBOUR: 'it returns false'. Refute it at one input. -/
def mayUnknownWrong : ChangeSpec := { name := "mayUnknown", fn := fun _ => fun
  | [d1, d2, d3] => { results := [.lit (.bool false)], args := [d1, d2, d3] }
  | _ => none }
def MayUnknownWrongFalsely : Prop := mayUnknownRow.holds Try.pinned (OpenSpec.ofChange mayUnknownWrong)

/-- 'ontimelaw31.MayExact': WHATEVER THE INPUT: true; the input reads as it did. -/
def mayExactSpec : ChangeSpec := { name := "mayExact", fn := fun _ => fun
  | [d1, d2] => { results := [.lit (.bool true)], args := [d1, d2] }
  | _ => none }
def mayExactRow : OpenClaim := { program := "ytndkadphpbnpeaa", sum := "1f41f32edcae97130d96729a211ca5d4004abbe26f453b64104f5c3b693589d8", func := "ontime/ontimelaw31.MayExact", spec := "mayExact", inPlace := ["slices.overlaps[int]"], recurses := true, apart := false }
def MayExactSaid : Prop := mayExactRow.holds Try.pinned (OpenSpec.ofChange mayExactSpec)

/-- ITS FALSE NEIGHBOUR: 'it returns false'. Refute it at one input. -/
def mayExactWrong : ChangeSpec := { name := "mayExact", fn := fun _ => fun
  | [d1, d2] => { results := [.lit (.bool false)], args := [d1, d2] }
  | _ => none }
def MayExactWrongFalsely : Prop := mayExactRow.holds Try.pinned (OpenSpec.ofChange mayExactWrong)

/-- 'ontimelaw31.MayJoins': WHATEVER THE INPUT: true; the input reads as it did. -/
def mayJoinsSpec : ChangeSpec := { name := "mayJoins", fn := fun _ => fun
  | [d1, d2, d3, d4] => { results := [.lit (.bool true)], args := [d1, d2, d3, d4] }
  | _ => none }
def mayJoinsRow : OpenClaim := { program := "ytndkadphpbnpeaa", sum := "1f41f32edcae97130d96729a211ca5d4004abbe26f453b64104f5c3b693589d8", func := "ontime/ontimelaw31.MayJoins", spec := "mayJoins", inPlace := ["slices.overlaps[int]"], recurses := true, apart := false }
def MayJoinsSaid : Prop := mayJoinsRow.holds Try.pinned (OpenSpec.ofChange mayJoinsSpec)

/-- ITS FALSE NEIGHBOUR: 'it returns false'. Refute it at one input. -/
def mayJoinsWrong : ChangeSpec := { name := "mayJoins", fn := fun _ => fun
  | [d1, d2, d3, d4] => { results := [.lit (.bool false)], args := [d1, d2, d3, d4] }
  | _ => none }
def MayJoinsWrongFalsely : Prop := mayJoinsRow.holds Try.pinned (OpenSpec.ofChange mayJoinsWrong)

/- THE SECOND FORM. 'bulk': how many values and letters a reading holds, each counted each time it is reached (what is shared counts as often as it is met; a slice's spare places count too). A statement '..UptoSaid' is the law's where the arguments, and the package variables that the reading takes, are together of bulk at most 1048576: NARROWER than '..Said'. Prove '..Said' where nothing that the law and all that it calls make is longer than what came in: it says more and counts as full. Else prove '..UptoSaid'. A law counts once. -/
mutual
def uptoBulk {H : Type} : DataW H → Nat
  | .lit (.string bytes) => bytes.length + 1
  | .lit _ => 1
  | .nil => 1
  | .ptr d => uptoBulk d + 1
  | .slice elems spare => uptoBulkAll elems + uptoBulkAll spare + 1
  | .agg parts => uptoBulkAll parts + 1
  | .iface _ d => uptoBulk d + 1
  | .map entries => uptoBulkEntries entries + 1
  | .held _ => 1
def uptoBulkAll {H : Type} : List (DataW H) → Nat
  | [] => 0
  | d :: r => uptoBulk d + uptoBulkAll r
def uptoBulkEntries {H : Type} : List (Lit × DataW H) → Nat
  | [] => 0
  | x :: r => uptoBulkEntry x + uptoBulkEntries r
def uptoBulkEntry {H : Type} : Lit × DataW H → Nat
  | (.string bytes, d) => bytes.length + uptoBulk d + 1
  | (_, d) => uptoBulk d + 1
 end
def uptoSmall : (H : Type) → List (DataW H) → Bool := fun _ ds => decide (uptoBulkAll ds ≤ 1048576)
def OpenSpec.upto (s : _root_.Go.ChangeSpec) : _root_.Go.OpenSpec := { _root_.Go.OpenSpec.ofChange s with cond := some uptoSmall }

/-- 'ontimelaw31.MayDescribes', WHERE WHAT IT READS IS OF BULK AT MOST 1048576: true; the input reads as it did. -/
def mayDescribesUptoRow : OpenClaim := { program := "ytndkadphpbnpeaa", sum := "1f41f32edcae97130d96729a211ca5d4004abbe26f453b64104f5c3b693589d8", func := "ontime/ontimelaw31.MayDescribes", spec := "mayDescribes", apart := false, narrowed := true }
def MayDescribesUptoSaid : Prop := mayDescribesUptoRow.holds Try.pinned (OpenSpec.upto mayDescribesSpec)

/-- 'ontimelaw31.MayMonotone', WHERE WHAT IT READS IS OF BULK AT MOST 1048576: true; the input reads as it did. -/
def mayMonotoneUptoRow : OpenClaim := { program := "ytndkadphpbnpeaa", sum := "1f41f32edcae97130d96729a211ca5d4004abbe26f453b64104f5c3b693589d8", func := "ontime/ontimelaw31.MayMonotone", spec := "mayMonotone", apart := false, narrowed := true }
def MayMonotoneUptoSaid : Prop := mayMonotoneUptoRow.holds Try.pinned (OpenSpec.upto mayMonotoneSpec)

/-- 'ontimelaw31.MaySound', WHERE WHAT IT READS IS OF BULK AT MOST 1048576: true; the input reads as it did. -/
def maySoundUptoRow : OpenClaim := { program := "ytndkadphpbnpeaa", sum := "1f41f32edcae97130d96729a211ca5d4004abbe26f453b64104f5c3b693589d8", func := "ontime/ontimelaw31.MaySound", spec := "maySound", inPlace := ["slices.overlaps[int]"], apart := false, narrowed := true }
def MaySoundUptoSaid : Prop := maySoundUptoRow.holds Try.pinned (OpenSpec.upto maySoundSpec)

/-- 'ontimelaw31.MayValues', WHERE WHAT IT READS IS OF BULK AT MOST 1048576: true; the input reads as it did. -/
def mayValuesUptoRow : OpenClaim := { program := "ytndkadphpbnpeaa", sum := "1f41f32edcae97130d96729a211ca5d4004abbe26f453b64104f5c3b693589d8", func := "ontime/ontimelaw31.MayValues", spec := "mayValues", recurses := true, apart := false, narrowed := true }
def MayValuesUptoSaid : Prop := mayValuesUptoRow.holds Try.pinned (OpenSpec.upto mayValuesSpec)

/-- 'ontimelaw31.MaySteps', WHERE WHAT IT READS IS OF BULK AT MOST 1048576: true; the input reads as it did. -/
def mayStepsUptoRow : OpenClaim := { program := "ytndkadphpbnpeaa", sum := "1f41f32edcae97130d96729a211ca5d4004abbe26f453b64104f5c3b693589d8", func := "ontime/ontimelaw31.MaySteps", spec := "maySteps", recurses := true, apart := false, narrowed := true }
def MayStepsUptoSaid : Prop := mayStepsUptoRow.holds Try.pinned (OpenSpec.upto mayStepsSpec)

/-- 'ontimelaw31.MayUnknown', WHERE WHAT IT READS IS OF BULK AT MOST 1048576: true; the input reads as it did. -/
def mayUnknownUptoRow : OpenClaim := { program := "ytndkadphpbnpeaa", sum := "1f41f32edcae97130d96729a211ca5d4004abbe26f453b64104f5c3b693589d8", func := "ontime/ontimelaw31.MayUnknown", spec := "mayUnknown", recurses := true, apart := false, narrowed := true }
def MayUnknownUptoSaid : Prop := mayUnknownUptoRow.holds Try.pinned (OpenSpec.upto mayUnknownSpec)

/-- 'ontimelaw31.MayExact', WHERE WHAT IT READS IS OF BULK AT MOST 1048576: true; the input reads as it did. -/
def mayExactUptoRow : OpenClaim := { program := "ytndkadphpbnpeaa", sum := "1f41f32edcae97130d96729a211ca5d4004abbe26f453b64104f5c3b693589d8", func := "ontime/ontimelaw31.MayExact", spec := "mayExact", inPlace := ["slices.overlaps[int]"], recurses := true, apart := false, narrowed := true }
def MayExactUptoSaid : Prop := mayExactUptoRow.holds Try.pinned (OpenSpec.upto mayExactSpec)

/-- 'ontimelaw31.MayJoins', WHERE WHAT IT READS IS OF BULK AT MOST 1048576: true; the input reads as it did. -/
def mayJoinsUptoRow : OpenClaim := { program := "ytndkadphpbnpeaa", sum := "1f41f32edcae97130d96729a211ca5d4004abbe26f453b64104f5c3b693589d8", func := "ontime/ontimelaw31.MayJoins", spec := "mayJoins", inPlace := ["slices.overlaps[int]"], recurses := true, apart := false, narrowed := true }
def MayJoinsUptoSaid : Prop := mayJoinsUptoRow.holds Try.pinned (OpenSpec.upto mayJoinsSpec)

end Rows
end Go.Proofs.Ytndkadphpbnpeaa
