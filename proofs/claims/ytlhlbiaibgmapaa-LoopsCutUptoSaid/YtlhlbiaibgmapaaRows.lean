/-
  No cell of these rows narrows 'for every input' (looked for: loops, veiled, ifaces, maps, wideKeys, modest, calm, conditions, laid).
  DERIVED. THE GIVEN ROWS OF THIS SEAT. 8 by the template 'for every input the law returns true; each argument reads behind the call as it read before'; 0 by the template 'total and deterministic' (their statements: YtlhlbiaibgmapaaTotals.lean).
  GIVEN WITH THE SEED: the statements are not yours to turn. If you find one false, say at which input.
  Laid BY PROGRAM, IN A SANDBOX (cutbox-rows.mjs): the forced cells as the released guide's own fill.sh prints them over the translation 3bf2d00dc4a1ffc0… (all of the seat's roots in one cut). By AI agents, Wed Nov 11 2026. No macro, syntax, notation, axiom, sorry.
-/
import Derived.Test.YtlhlbiaibgmapaaChecked
import GoSem.Claim
import GoSem.ClaimJoined
import GoSem.ClaimMapViews
import Derived.JoinedTies
import Derived.KernelRfl
namespace Go.Proofs.Ytlhlbiaibgmapaa
/- THE CELL 'sum', in the pinned program and in every row, IS THE sha256 OF THE DUMP (.gsa) THAT YtlhlbiaibgmapaaProg.lean LOADS. Nothing in Lean hashes anything: it is a label: what it is worth is what the hold of that sum in a sandbox is worth. -/
noncomputable def Try.pinned : Pinned := { name := "ytlhlbiaibgmapaa", sum := "3bf2d00dc4a1ffc03afded0765da38a5940601977b6d29ab3fed3494c31729eb", checked := Try.checked }
namespace Rows
def none {H : Type} : Left H := { results := [], args := [] }

/-- 'ontimelaw26.LoopsFind': WHATEVER THE INPUT: true; the input reads as it did. -/
def loopsFindSpec : ChangeSpec := { name := "loopsFind", fn := fun _ => fun
  | [d] => { results := [.lit (.bool true)], args := [d] }
  | _ => none }
def loopsFindRow : OpenClaim := { program := "ytlhlbiaibgmapaa", sum := "3bf2d00dc4a1ffc03afded0765da38a5940601977b6d29ab3fed3494c31729eb", func := "ontime/ontimelaw26.LoopsFind", spec := "loopsFind", unfollowed := true, recurses := true, plainKeys := false, apart := false }
def LoopsFindSaid : Prop := loopsFindRow.holds Try.pinned (OpenSpec.ofChange loopsFindSpec)

/-- ITS FALSE NEIGHBOUR: 'it returns false'. Refute it at one input. -/
def loopsFindWrong : ChangeSpec := { name := "loopsFind", fn := fun _ => fun
  | [d] => { results := [.lit (.bool false)], args := [d] }
  | _ => none }
def LoopsFindWrongFalsely : Prop := loopsFindRow.holds Try.pinned (OpenSpec.ofChange loopsFindWrong)

/-- 'ontimelaw26.LoopsHeaders': WHATEVER THE INPUT: true; the input reads as it did. -/
def loopsHeadersSpec : ChangeSpec := { name := "loopsHeaders", fn := fun _ => fun
  | [d] => { results := [.lit (.bool true)], args := [d] }
  | _ => none }
def loopsHeadersRow : OpenClaim := { program := "ytlhlbiaibgmapaa", sum := "3bf2d00dc4a1ffc03afded0765da38a5940601977b6d29ab3fed3494c31729eb", func := "ontime/ontimelaw26.LoopsHeaders", spec := "loopsHeaders", unfollowed := true, recurses := true, plainKeys := false, apart := false }
def LoopsHeadersSaid : Prop := loopsHeadersRow.holds Try.pinned (OpenSpec.ofChange loopsHeadersSpec)

/-- ITS FALSE NEIGHBOUR: 'it returns false'. Refute it at one input. -/
def loopsHeadersWrong : ChangeSpec := { name := "loopsHeaders", fn := fun _ => fun
  | [d] => { results := [.lit (.bool false)], args := [d] }
  | _ => none }
def LoopsHeadersWrongFalsely : Prop := loopsHeadersRow.holds Try.pinned (OpenSpec.ofChange loopsHeadersWrong)

/-- 'ontimelaw26.LoopsCut': WHATEVER THE INPUT: true; the input reads as it did. -/
def loopsCutSpec : ChangeSpec := { name := "loopsCut", fn := fun _ => fun
  | [d] => { results := [.lit (.bool true)], args := [d] }
  | _ => none }
def loopsCutRow : OpenClaim := { program := "ytlhlbiaibgmapaa", sum := "3bf2d00dc4a1ffc03afded0765da38a5940601977b6d29ab3fed3494c31729eb", func := "ontime/ontimelaw26.LoopsCut", spec := "loopsCut", unfollowed := true, recurses := true, plainKeys := false, apart := false }
def LoopsCutSaid : Prop := loopsCutRow.holds Try.pinned (OpenSpec.ofChange loopsCutSpec)

/-- ITS FALSE NEIGHBOUR: 'it returns false'. Refute it at one input. -/
def loopsCutWrong : ChangeSpec := { name := "loopsCut", fn := fun _ => fun
  | [d] => { results := [.lit (.bool false)], args := [d] }
  | _ => none }
def LoopsCutWrongFalsely : Prop := loopsCutRow.holds Try.pinned (OpenSpec.ofChange loopsCutWrong)

/-- 'ontimelaw26.LoopsReducible': WHATEVER THE INPUT: true; the input reads as it did. -/
def loopsReducibleSpec : ChangeSpec := { name := "loopsReducible", fn := fun _ => fun
  | [d] => { results := [.lit (.bool true)], args := [d] }
  | _ => none }
def loopsReducibleRow : OpenClaim := { program := "ytlhlbiaibgmapaa", sum := "3bf2d00dc4a1ffc03afded0765da38a5940601977b6d29ab3fed3494c31729eb", func := "ontime/ontimelaw26.LoopsReducible", spec := "loopsReducible", unfollowed := true, recurses := true, plainKeys := false, apart := false }
def LoopsReducibleSaid : Prop := loopsReducibleRow.holds Try.pinned (OpenSpec.ofChange loopsReducibleSpec)

/-- ITS FALSE NEIGHBOUR: 'it returns false'. Refute it at one input. -/
def loopsReducibleWrong : ChangeSpec := { name := "loopsReducible", fn := fun _ => fun
  | [d] => { results := [.lit (.bool false)], args := [d] }
  | _ => none }
def LoopsReducibleWrongFalsely : Prop := loopsReducibleRow.holds Try.pinned (OpenSpec.ofChange loopsReducibleWrong)

/-- 'ontimelaw26.LoopsWalks': WHATEVER THE INPUT: true; the input reads as it did. -/
def loopsWalksSpec : ChangeSpec := { name := "loopsWalks", fn := fun _ => fun
  | [d1, d2] => { results := [.lit (.bool true)], args := [d1, d2] }
  | _ => none }
def loopsWalksRow : OpenClaim := { program := "ytlhlbiaibgmapaa", sum := "3bf2d00dc4a1ffc03afded0765da38a5940601977b6d29ab3fed3494c31729eb", func := "ontime/ontimelaw26.LoopsWalks", spec := "loopsWalks", unfollowed := true, recurses := true, plainKeys := false, apart := false }
def LoopsWalksSaid : Prop := loopsWalksRow.holds Try.pinned (OpenSpec.ofChange loopsWalksSpec)

/-- ITS FALSE NEIGHBOUR: 'it returns false'. Refute it at one input. -/
def loopsWalksWrong : ChangeSpec := { name := "loopsWalks", fn := fun _ => fun
  | [d1, d2] => { results := [.lit (.bool false)], args := [d1, d2] }
  | _ => none }
def LoopsWalksWrongFalsely : Prop := loopsWalksRow.holds Try.pinned (OpenSpec.ofChange loopsWalksWrong)

/-- 'ontimelaw26.LoopsSections': WHATEVER THE INPUT: true; the input reads as it did. -/
def loopsSectionsSpec : ChangeSpec := { name := "loopsSections", fn := fun _ => fun
  | [d1, d2, d3] => { results := [.lit (.bool true)], args := [d1, d2, d3] }
  | _ => none }
def loopsSectionsRow : OpenClaim := { program := "ytlhlbiaibgmapaa", sum := "3bf2d00dc4a1ffc03afded0765da38a5940601977b6d29ab3fed3494c31729eb", func := "ontime/ontimelaw26.LoopsSections", spec := "loopsSections", unfollowed := true, recurses := true, plainKeys := false, apart := false }
def LoopsSectionsSaid : Prop := loopsSectionsRow.holds Try.pinned (OpenSpec.ofChange loopsSectionsSpec)

/-- ITS FALSE NEIGHBOUR: 'it returns false'. Refute it at one input. -/
def loopsSectionsWrong : ChangeSpec := { name := "loopsSections", fn := fun _ => fun
  | [d1, d2, d3] => { results := [.lit (.bool false)], args := [d1, d2, d3] }
  | _ => none }
def LoopsSectionsWrongFalsely : Prop := loopsSectionsRow.holds Try.pinned (OpenSpec.ofChange loopsSectionsWrong)

/-- 'ontimelaw26.LoopsQueries': WHATEVER THE INPUT: true; the input reads as it did. -/
def loopsQueriesSpec : ChangeSpec := { name := "loopsQueries", fn := fun _ => fun
  | [d1, d2, d3] => { results := [.lit (.bool true)], args := [d1, d2, d3] }
  | _ => none }
def loopsQueriesRow : OpenClaim := { program := "ytlhlbiaibgmapaa", sum := "3bf2d00dc4a1ffc03afded0765da38a5940601977b6d29ab3fed3494c31729eb", func := "ontime/ontimelaw26.LoopsQueries", spec := "loopsQueries", unfollowed := true, recurses := true, plainKeys := false, apart := false }
def LoopsQueriesSaid : Prop := loopsQueriesRow.holds Try.pinned (OpenSpec.ofChange loopsQueriesSpec)

/-- ITS FALSE NEIGHBOUR: 'it returns false'. Refute it at one input. -/
def loopsQueriesWrong : ChangeSpec := { name := "loopsQueries", fn := fun _ => fun
  | [d1, d2, d3] => { results := [.lit (.bool false)], args := [d1, d2, d3] }
  | _ => none }
def LoopsQueriesWrongFalsely : Prop := loopsQueriesRow.holds Try.pinned (OpenSpec.ofChange loopsQueriesWrong)

/-- 'ontimelaw26.LoopsNest': WHATEVER THE INPUT: true; the input reads as it did. -/
def loopsNestSpec : ChangeSpec := { name := "loopsNest", fn := fun _ => fun
  | [d] => { results := [.lit (.bool true)], args := [d] }
  | _ => none }
def loopsNestRow : OpenClaim := { program := "ytlhlbiaibgmapaa", sum := "3bf2d00dc4a1ffc03afded0765da38a5940601977b6d29ab3fed3494c31729eb", func := "ontime/ontimelaw26.LoopsNest", spec := "loopsNest", unfollowed := true, recurses := true, plainKeys := false, apart := false }
def LoopsNestSaid : Prop := loopsNestRow.holds Try.pinned (OpenSpec.ofChange loopsNestSpec)

/-- ITS FALSE NEIGHBOUR: 'it returns false'. Refute it at one input. -/
def loopsNestWrong : ChangeSpec := { name := "loopsNest", fn := fun _ => fun
  | [d] => { results := [.lit (.bool false)], args := [d] }
  | _ => none }
def LoopsNestWrongFalsely : Prop := loopsNestRow.holds Try.pinned (OpenSpec.ofChange loopsNestWrong)

/- THE SECOND FORM. 'bulk': how many values and letters a reading holds, each counted each time it is reached (what is shared counts as often as it is met; a slice's spare places count too). A statement '..UptoSaid' is the law's where the arguments, and the package variables that the reading takes, are together of bulk at most 1048576: NARROWER than '..Said'. Prove '..Said' where nothing that the law and all that it calls make is longer than what came in: it says more and counts as full. Else prove '..UptoSaid'. A law counts once. -/
mutual
def uptoBulk {H : Type} : DataW H → Nat
  | .lit (.string bytes) => bytes.length + 1
  | .lit _ => 1
  | .nil => 1
  | .ptr d => uptoBulk d + 1
  | .slice elems spare => uptoBulkAll elems + uptoBulkAll spare + 1
  | .agg parts => uptoBulkAll parts + 1
  | .iface _ d => uptoBulk d + 1
  | .map entries => uptoBulkEntries entries + 1
  | .held _ => 1
def uptoBulkAll {H : Type} : List (DataW H) → Nat
  | [] => 0
  | d :: r => uptoBulk d + uptoBulkAll r
def uptoBulkEntries {H : Type} : List (Lit × DataW H) → Nat
  | [] => 0
  | x :: r => uptoBulkEntry x + uptoBulkEntries r
def uptoBulkEntry {H : Type} : Lit × DataW H → Nat
  | (.string bytes, d) => bytes.length + uptoBulk d + 1
  | (_, d) => uptoBulk d + 1
 end
def uptoSmall : (H : Type) → List (DataW H) → Bool := fun _ ds => decide (uptoBulkAll ds ≤ 1048576)
def OpenSpec.upto (s : _root_.Go.ChangeSpec) : _root_.Go.OpenSpec := { _root_.Go.OpenSpec.ofChange s with cond := some uptoSmall }

/-- 'ontimelaw26.LoopsFind', WHERE WHAT IT READS IS OF BULK AT MOST 1048576: true; the input reads as it did. -/
def loopsFindUptoRow : OpenClaim := { program := "ytlhlbiaibgmapaa", sum := "3bf2d00dc4a1ffc03afded0765da38a5940601977b6d29ab3fed3494c31729eb", func := "ontime/ontimelaw26.LoopsFind", spec := "loopsFind", unfollowed := true, recurses := true, plainKeys := false, apart := false, narrowed := true }
def LoopsFindUptoSaid : Prop := loopsFindUptoRow.holds Try.pinned (OpenSpec.upto loopsFindSpec)

/-- 'ontimelaw26.LoopsHeaders', WHERE WHAT IT READS IS OF BULK AT MOST 1048576: true; the input reads as it did. -/
def loopsHeadersUptoRow : OpenClaim := { program := "ytlhlbiaibgmapaa", sum := "3bf2d00dc4a1ffc03afded0765da38a5940601977b6d29ab3fed3494c31729eb", func := "ontime/ontimelaw26.LoopsHeaders", spec := "loopsHeaders", unfollowed := true, recurses := true, plainKeys := false, apart := false, narrowed := true }
def LoopsHeadersUptoSaid : Prop := loopsHeadersUptoRow.holds Try.pinned (OpenSpec.upto loopsHeadersSpec)

/-- 'ontimelaw26.LoopsCut', WHERE WHAT IT READS IS OF BULK AT MOST 1048576: true; the input reads as it did. -/
def loopsCutUptoRow : OpenClaim := { program := "ytlhlbiaibgmapaa", sum := "3bf2d00dc4a1ffc03afded0765da38a5940601977b6d29ab3fed3494c31729eb", func := "ontime/ontimelaw26.LoopsCut", spec := "loopsCut", unfollowed := true, recurses := true, plainKeys := false, apart := false, narrowed := true }
def LoopsCutUptoSaid : Prop := loopsCutUptoRow.holds Try.pinned (OpenSpec.upto loopsCutSpec)

/-- 'ontimelaw26.LoopsReducible', WHERE WHAT IT READS IS OF BULK AT MOST 1048576: true; the input reads as it did. -/
def loopsReducibleUptoRow : OpenClaim := { program := "ytlhlbiaibgmapaa", sum := "3bf2d00dc4a1ffc03afded0765da38a5940601977b6d29ab3fed3494c31729eb", func := "ontime/ontimelaw26.LoopsReducible", spec := "loopsReducible", unfollowed := true, recurses := true, plainKeys := false, apart := false, narrowed := true }
def LoopsReducibleUptoSaid : Prop := loopsReducibleUptoRow.holds Try.pinned (OpenSpec.upto loopsReducibleSpec)

/-- 'ontimelaw26.LoopsWalks', WHERE WHAT IT READS IS OF BULK AT MOST 1048576: true; the input reads as it did. -/
def loopsWalksUptoRow : OpenClaim := { program := "ytlhlbiaibgmapaa", sum := "3bf2d00dc4a1ffc03afded0765da38a5940601977b6d29ab3fed3494c31729eb", func := "ontime/ontimelaw26.LoopsWalks", spec := "loopsWalks", unfollowed := true, recurses := true, plainKeys := false, apart := false, narrowed := true }
def LoopsWalksUptoSaid : Prop := loopsWalksUptoRow.holds Try.pinned (OpenSpec.upto loopsWalksSpec)

/-- 'ontimelaw26.LoopsSections', WHERE WHAT IT READS IS OF BULK AT MOST 1048576: true; the input reads as it did. -/
def loopsSectionsUptoRow : OpenClaim := { program := "ytlhlbiaibgmapaa", sum := "3bf2d00dc4a1ffc03afded0765da38a5940601977b6d29ab3fed3494c31729eb", func := "ontime/ontimelaw26.LoopsSections", spec := "loopsSections", unfollowed := true, recurses := true, plainKeys := false, apart := false, narrowed := true }
def LoopsSectionsUptoSaid : Prop := loopsSectionsUptoRow.holds Try.pinned (OpenSpec.upto loopsSectionsSpec)

/-- 'ontimelaw26.LoopsQueries', WHERE WHAT IT READS IS OF BULK AT MOST 1048576: true; the input reads as it did. -/
def loopsQueriesUptoRow : OpenClaim := { program := "ytlhlbiaibgmapaa", sum := "3bf2d00dc4a1ffc03afded0765da38a5940601977b6d29ab3fed3494c31729eb", func := "ontime/ontimelaw26.LoopsQueries", spec := "loopsQueries", unfollowed := true, recurses := true, plainKeys := false, apart := false, narrowed := true }
def LoopsQueriesUptoSaid : Prop := loopsQueriesUptoRow.holds Try.pinned (OpenSpec.upto loopsQueriesSpec)

/-- 'ontimelaw26.LoopsNest', WHERE WHAT IT READS IS OF BULK AT MOST 1048576: true; the input reads as it did. -/
def loopsNestUptoRow : OpenClaim := { program := "ytlhlbiaibgmapaa", sum := "3bf2d00dc4a1ffc03afded0765da38a5940601977b6d29ab3fed3494c31729eb", func := "ontime/ontimelaw26.LoopsNest", spec := "loopsNest", unfollowed := true, recurses := true, plainKeys := false, apart := false, narrowed := true }
def LoopsNestUptoSaid : Prop := loopsNestUptoRow.holds Try.pinned (OpenSpec.upto loopsNestSpec)

end Rows
end Go.Proofs.Ytlhlbiaibgmapaa
