/-
  No cell of these rows narrows 'for every input' (looked for: loops, veiled, ifaces, maps, wideKeys, modest, calm, conditions, laid).
  DERIVED. THE GIVEN ROWS OF THIS SEAT. 8 by the template 'for every input the law returns true; each argument reads behind the call as it read before'; 0 by the template 'total and deterministic' (their statements: YtblogcihkjhgkaaTotals.lean).
  GIVEN WITH THE SEED: the statements are not yours to turn. If you find one false, say at which input.
  Laid BY PROGRAM, IN A SANDBOX (cutbox-rows.mjs): the forced cells as the released guide's own fill.sh prints them over the translation 80cc6eb927c34910… (all of the seat's roots in one cut). By AI agents, Wed Nov 11 2026. No macro, syntax, notation, axiom, sorry.
-/
import Derived.Test.YtblogcihkjhgkaaChecked
import GoSem.Claim
import GoSem.ClaimJoined
import GoSem.ClaimMapViews
import Derived.JoinedTies
import Derived.KernelRfl
namespace Go.Proofs.Ytblogcihkjhgkaa
/- THE CELL 'sum', in the pinned program and in every row, IS THE sha256 OF THE DUMP (.gsa) THAT YtblogcihkjhgkaaProg.lean LOADS. Nothing in Lean hashes anything: it is a label: what it is worth is what the hold of that sum in a sandbox is worth. -/
noncomputable def Try.pinned : Pinned := { name := "ytblogcihkjhgkaa", sum := "80cc6eb927c349105e971ad70ed7542ab488da43b515c8a47b3f73d04d918b28", checked := Try.checked }
namespace Rows
def none {H : Type} : Left H := { results := [], args := [] }

/-- 'ontimelaw06.CachePlaces': WHATEVER THE INPUT: true; the input reads as it did. -/
def cachePlacesSpec : ChangeSpec := { name := "cachePlaces", fn := fun _ => fun
  | [d1, d2, d3] => { results := [.lit (.bool true)], args := [d1, d2, d3] }
  | _ => none }
def cachePlacesRow : OpenClaim := { program := "ytblogcihkjhgkaa", sum := "80cc6eb927c349105e971ad70ed7542ab488da43b515c8a47b3f73d04d918b28", func := "ontime/ontimelaw06.CachePlaces", spec := "cachePlaces", inPlace := ["slices.overlaps[int]"], apart := false }
def CachePlacesSaid : Prop := cachePlacesRow.holds Try.pinned (OpenSpec.ofChange cachePlacesSpec)

/-- ITS FALSE NEIGHBOUR: 'it returns false'. Refute it at one input. -/
def cachePlacesWrong : ChangeSpec := { name := "cachePlaces", fn := fun _ => fun
  | [d1, d2, d3] => { results := [.lit (.bool false)], args := [d1, d2, d3] }
  | _ => none }
def CachePlacesWrongFalsely : Prop := cachePlacesRow.holds Try.pinned (OpenSpec.ofChange cachePlacesWrong)

/-- 'ontimelaw06.CacheFlushes': WHATEVER THE INPUT: true; the input reads as it did. -/
def cacheFlushesSpec : ChangeSpec := { name := "cacheFlushes", fn := fun _ => fun
  | [d1, d2, d3] => { results := [.lit (.bool true)], args := [d1, d2, d3] }
  | _ => none }
def cacheFlushesRow : OpenClaim := { program := "ytblogcihkjhgkaa", sum := "80cc6eb927c349105e971ad70ed7542ab488da43b515c8a47b3f73d04d918b28", func := "ontime/ontimelaw06.CacheFlushes", spec := "cacheFlushes", inPlace := ["slices.overlaps[int]"], apart := false }
def CacheFlushesSaid : Prop := cacheFlushesRow.holds Try.pinned (OpenSpec.ofChange cacheFlushesSpec)

/-- ITS FALSE NEIGHBOUR: 'it returns false'. Refute it at one input. -/
def cacheFlushesWrong : ChangeSpec := { name := "cacheFlushes", fn := fun _ => fun
  | [d1, d2, d3] => { results := [.lit (.bool false)], args := [d1, d2, d3] }
  | _ => none }
def CacheFlushesWrongFalsely : Prop := cacheFlushesRow.holds Try.pinned (OpenSpec.ofChange cacheFlushesWrong)

/-- 'ontimelaw06.CacheInclusion': WHATEVER THE INPUT: true; the input reads as it did. -/
def cacheInclusionSpec : ChangeSpec := { name := "cacheInclusion", fn := fun _ => fun
  | [d1, d2, d3] => { results := [.lit (.bool true)], args := [d1, d2, d3] }
  | _ => none }
def cacheInclusionRow : OpenClaim := { program := "ytblogcihkjhgkaa", sum := "80cc6eb927c349105e971ad70ed7542ab488da43b515c8a47b3f73d04d918b28", func := "ontime/ontimelaw06.CacheInclusion", spec := "cacheInclusion", inPlace := ["slices.overlaps[int]"], apart := false }
def CacheInclusionSaid : Prop := cacheInclusionRow.holds Try.pinned (OpenSpec.ofChange cacheInclusionSpec)

/-- ITS FALSE NEIGHBOUR: 'it returns false'. Refute it at one input. -/
def cacheInclusionWrong : ChangeSpec := { name := "cacheInclusion", fn := fun _ => fun
  | [d1, d2, d3] => { results := [.lit (.bool false)], args := [d1, d2, d3] }
  | _ => none }
def CacheInclusionWrongFalsely : Prop := cacheInclusionRow.holds Try.pinned (OpenSpec.ofChange cacheInclusionWrong)

/-- 'ontimelaw06.CacheReuse': WHATEVER THE INPUT: true; the input reads as it did. -/
def cacheReuseSpec : ChangeSpec := { name := "cacheReuse", fn := fun _ => fun
  | [d1, d2, d3] => { results := [.lit (.bool true)], args := [d1, d2, d3] }
  | _ => none }
def cacheReuseRow : OpenClaim := { program := "ytblogcihkjhgkaa", sum := "80cc6eb927c349105e971ad70ed7542ab488da43b515c8a47b3f73d04d918b28", func := "ontime/ontimelaw06.CacheReuse", spec := "cacheReuse", inPlace := ["slices.overlaps[int]"], apart := false }
def CacheReuseSaid : Prop := cacheReuseRow.holds Try.pinned (OpenSpec.ofChange cacheReuseSpec)

/-- ITS FALSE NEIGHBOUR: 'it returns false'. Refute it at one input. -/
def cacheReuseWrong : ChangeSpec := { name := "cacheReuse", fn := fun _ => fun
  | [d1, d2, d3] => { results := [.lit (.bool false)], args := [d1, d2, d3] }
  | _ => none }
def CacheReuseWrongFalsely : Prop := cacheReuseRow.holds Try.pinned (OpenSpec.ofChange cacheReuseWrong)

/-- 'ontimelaw06.CacheFlush': WHATEVER THE INPUT: true; the input reads as it did. -/
def cacheFlushSpec : ChangeSpec := { name := "cacheFlush", fn := fun _ => fun
  | [d1, d2, d3] => { results := [.lit (.bool true)], args := [d1, d2, d3] }
  | _ => none }
def cacheFlushRow : OpenClaim := { program := "ytblogcihkjhgkaa", sum := "80cc6eb927c349105e971ad70ed7542ab488da43b515c8a47b3f73d04d918b28", func := "ontime/ontimelaw06.CacheFlush", spec := "cacheFlush", inPlace := ["slices.overlaps[int]"], apart := false }
def CacheFlushSaid : Prop := cacheFlushRow.holds Try.pinned (OpenSpec.ofChange cacheFlushSpec)

/-- ITS FALSE NEIGHBOUR: 'it returns false'. Refute it at one input. -/
def cacheFlushWrong : ChangeSpec := { name := "cacheFlush", fn := fun _ => fun
  | [d1, d2, d3] => { results := [.lit (.bool false)], args := [d1, d2, d3] }
  | _ => none }
def CacheFlushWrongFalsely : Prop := cacheFlushRow.holds Try.pinned (OpenSpec.ofChange cacheFlushWrong)

/-- 'ontimelaw06.CacheAges': WHATEVER THE INPUT: true; the input reads as it did. -/
def cacheAgesSpec : ChangeSpec := { name := "cacheAges", fn := fun _ => fun
  | [d1, d2, d3] => { results := [.lit (.bool true)], args := [d1, d2, d3] }
  | _ => none }
def cacheAgesRow : OpenClaim := { program := "ytblogcihkjhgkaa", sum := "80cc6eb927c349105e971ad70ed7542ab488da43b515c8a47b3f73d04d918b28", func := "ontime/ontimelaw06.CacheAges", spec := "cacheAges", inPlace := ["slices.overlaps[int]"], apart := false }
def CacheAgesSaid : Prop := cacheAgesRow.holds Try.pinned (OpenSpec.ofChange cacheAgesSpec)

/-- ITS FALSE NEIGHBOUR: 'it returns false'. Refute it at one input. -/
def cacheAgesWrong : ChangeSpec := { name := "cacheAges", fn := fun _ => fun
  | [d1, d2, d3] => { results := [.lit (.bool false)], args := [d1, d2, d3] }
  | _ => none }
def CacheAgesWrongFalsely : Prop := cacheAgesRow.holds Try.pinned (OpenSpec.ofChange cacheAgesWrong)

/-- 'ontimelaw06.CachePlays': WHATEVER THE INPUT: true; the input reads as it did. -/
def cachePlaysSpec : ChangeSpec := { name := "cachePlays", fn := fun _ => fun
  | [d1, d2] => { results := [.lit (.bool true)], args := [d1, d2] }
  | _ => none }
def cachePlaysRow : OpenClaim := { program := "ytblogcihkjhgkaa", sum := "80cc6eb927c349105e971ad70ed7542ab488da43b515c8a47b3f73d04d918b28", func := "ontime/ontimelaw06.CachePlays", spec := "cachePlays", inPlace := ["slices.overlaps[int]"], apart := false }
def CachePlaysSaid : Prop := cachePlaysRow.holds Try.pinned (OpenSpec.ofChange cachePlaysSpec)

/-- ITS FALSE NEIGHBOUR: 'it returns false'. Refute it at one input. -/
def cachePlaysWrong : ChangeSpec := { name := "cachePlays", fn := fun _ => fun
  | [d1, d2] => { results := [.lit (.bool false)], args := [d1, d2] }
  | _ => none }
def CachePlaysWrongFalsely : Prop := cachePlaysRow.holds Try.pinned (OpenSpec.ofChange cachePlaysWrong)

/-- 'ontimelaw06.CacheApart': WHATEVER THE INPUT: true; the input reads as it did. -/
def cacheApartSpec : ChangeSpec := { name := "cacheApart", fn := fun _ => fun
  | [d1, d2, d3] => { results := [.lit (.bool true)], args := [d1, d2, d3] }
  | _ => none }
def cacheApartRow : OpenClaim := { program := "ytblogcihkjhgkaa", sum := "80cc6eb927c349105e971ad70ed7542ab488da43b515c8a47b3f73d04d918b28", func := "ontime/ontimelaw06.CacheApart", spec := "cacheApart", inPlace := ["slices.overlaps[int]"], apart := false }
def CacheApartSaid : Prop := cacheApartRow.holds Try.pinned (OpenSpec.ofChange cacheApartSpec)

/-- ITS FALSE NEIGHBOUR: 'it returns false'. Refute it at one input. -/
def cacheApartWrong : ChangeSpec := { name := "cacheApart", fn := fun _ => fun
  | [d1, d2, d3] => { results := [.lit (.bool false)], args := [d1, d2, d3] }
  | _ => none }
def CacheApartWrongFalsely : Prop := cacheApartRow.holds Try.pinned (OpenSpec.ofChange cacheApartWrong)

/- THE SECOND FORM. 'bulk': how many values and letters a reading holds, each counted each time it is reached (what is shared counts as often as it is met; a slice's spare places count too). A statement '..UptoSaid' is the law's where the arguments, and the package variables that the reading takes, are together of bulk at most 1048576: NARROWER than '..Said'. Prove '..Said' where nothing that the law and all that it calls make is longer than what came in: it says more and counts as full. Else prove '..UptoSaid'. A law counts once. -/
mutual
def uptoBulk {H : Type} : DataW H → Nat
  | .lit (.string bytes) => bytes.length + 1
  | .lit _ => 1
  | .nil => 1
  | .ptr d => uptoBulk d + 1
  | .slice elems spare => uptoBulkAll elems + uptoBulkAll spare + 1
  | .agg parts => uptoBulkAll parts + 1
  | .iface _ d => uptoBulk d + 1
  | .map entries => uptoBulkEntries entries + 1
  | .held _ => 1
def uptoBulkAll {H : Type} : List (DataW H) → Nat
  | [] => 0
  | d :: r => uptoBulk d + uptoBulkAll r
def uptoBulkEntries {H : Type} : List (Lit × DataW H) → Nat
  | [] => 0
  | x :: r => uptoBulkEntry x + uptoBulkEntries r
def uptoBulkEntry {H : Type} : Lit × DataW H → Nat
  | (.string bytes, d) => bytes.length + uptoBulk d + 1
  | (_, d) => uptoBulk d + 1
 end
def uptoSmall : (H : Type) → List (DataW H) → Bool := fun _ ds => decide (uptoBulkAll ds ≤ 1048576)
def OpenSpec.upto (s : _root_.Go.ChangeSpec) : _root_.Go.OpenSpec := { _root_.Go.OpenSpec.ofChange s with cond := some uptoSmall }

/-- 'ontimelaw06.CachePlaces', WHERE WHAT IT READS IS OF BULK AT MOST 1048576: true; the input reads as it did. -/
def cachePlacesUptoRow : OpenClaim := { program := "ytblogcihkjhgkaa", sum := "80cc6eb927c349105e971ad70ed7542ab488da43b515c8a47b3f73d04d918b28", func := "ontime/ontimelaw06.CachePlaces", spec := "cachePlaces", inPlace := ["slices.overlaps[int]"], apart := false, narrowed := true }
def CachePlacesUptoSaid : Prop := cachePlacesUptoRow.holds Try.pinned (OpenSpec.upto cachePlacesSpec)

/-- 'ontimelaw06.CacheFlushes', WHERE WHAT IT READS IS OF BULK AT MOST 1048576: true; the input reads as it did. -/
def cacheFlushesUptoRow : OpenClaim := { program := "ytblogcihkjhgkaa", sum := "80cc6eb927c349105e971ad70ed7542ab488da43b515c8a47b3f73d04d918b28", func := "ontime/ontimelaw06.CacheFlushes", spec := "cacheFlushes", inPlace := ["slices.overlaps[int]"], apart := false, narrowed := true }
def CacheFlushesUptoSaid : Prop := cacheFlushesUptoRow.holds Try.pinned (OpenSpec.upto cacheFlushesSpec)

/-- 'ontimelaw06.CacheInclusion', WHERE WHAT IT READS IS OF BULK AT MOST 1048576: true; the input reads as it did. -/
def cacheInclusionUptoRow : OpenClaim := { program := "ytblogcihkjhgkaa", sum := "80cc6eb927c349105e971ad70ed7542ab488da43b515c8a47b3f73d04d918b28", func := "ontime/ontimelaw06.CacheInclusion", spec := "cacheInclusion", inPlace := ["slices.overlaps[int]"], apart := false, narrowed := true }
def CacheInclusionUptoSaid : Prop := cacheInclusionUptoRow.holds Try.pinned (OpenSpec.upto cacheInclusionSpec)

/-- 'ontimelaw06.CacheReuse', WHERE WHAT IT READS IS OF BULK AT MOST 1048576: true; the input reads as it did. -/
def cacheReuseUptoRow : OpenClaim := { program := "ytblogcihkjhgkaa", sum := "80cc6eb927c349105e971ad70ed7542ab488da43b515c8a47b3f73d04d918b28", func := "ontime/ontimelaw06.CacheReuse", spec := "cacheReuse", inPlace := ["slices.overlaps[int]"], apart := false, narrowed := true }
def CacheReuseUptoSaid : Prop := cacheReuseUptoRow.holds Try.pinned (OpenSpec.upto cacheReuseSpec)

/-- 'ontimelaw06.CacheFlush', WHERE WHAT IT READS IS OF BULK AT MOST 1048576: true; the input reads as it did. -/
def cacheFlushUptoRow : OpenClaim := { program := "ytblogcihkjhgkaa", sum := "80cc6eb927c349105e971ad70ed7542ab488da43b515c8a47b3f73d04d918b28", func := "ontime/ontimelaw06.CacheFlush", spec := "cacheFlush", inPlace := ["slices.overlaps[int]"], apart := false, narrowed := true }
def CacheFlushUptoSaid : Prop := cacheFlushUptoRow.holds Try.pinned (OpenSpec.upto cacheFlushSpec)

/-- 'ontimelaw06.CacheAges', WHERE WHAT IT READS IS OF BULK AT MOST 1048576: true; the input reads as it did. -/
def cacheAgesUptoRow : OpenClaim := { program := "ytblogcihkjhgkaa", sum := "80cc6eb927c349105e971ad70ed7542ab488da43b515c8a47b3f73d04d918b28", func := "ontime/ontimelaw06.CacheAges", spec := "cacheAges", inPlace := ["slices.overlaps[int]"], apart := false, narrowed := true }
def CacheAgesUptoSaid : Prop := cacheAgesUptoRow.holds Try.pinned (OpenSpec.upto cacheAgesSpec)

/-- 'ontimelaw06.CachePlays', WHERE WHAT IT READS IS OF BULK AT MOST 1048576: true; the input reads as it did. -/
def cachePlaysUptoRow : OpenClaim := { program := "ytblogcihkjhgkaa", sum := "80cc6eb927c349105e971ad70ed7542ab488da43b515c8a47b3f73d04d918b28", func := "ontime/ontimelaw06.CachePlays", spec := "cachePlays", inPlace := ["slices.overlaps[int]"], apart := false, narrowed := true }
def CachePlaysUptoSaid : Prop := cachePlaysUptoRow.holds Try.pinned (OpenSpec.upto cachePlaysSpec)

/-- 'ontimelaw06.CacheApart', WHERE WHAT IT READS IS OF BULK AT MOST 1048576: true; the input reads as it did. -/
def cacheApartUptoRow : OpenClaim := { program := "ytblogcihkjhgkaa", sum := "80cc6eb927c349105e971ad70ed7542ab488da43b515c8a47b3f73d04d918b28", func := "ontime/ontimelaw06.CacheApart", spec := "cacheApart", inPlace := ["slices.overlaps[int]"], apart := false, narrowed := true }
def CacheApartUptoSaid : Prop := cacheApartUptoRow.holds Try.pinned (OpenSpec.upto cacheApartSpec)

end Rows
end Go.Proofs.Ytblogcihkjhgkaa
