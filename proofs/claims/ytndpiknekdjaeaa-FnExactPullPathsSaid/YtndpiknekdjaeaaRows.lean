/-
  No cell of these rows narrows 'for every input' (looked for: loops, veiled, ifaces, maps, wideKeys, modest, calm, conditions, laid).
  DERIVED. THE GIVEN ROWS OF THIS SEAT. 12 by the template 'for every input the law returns true; each argument reads behind the call as it read before'; 0 by the template 'total and deterministic' (their statements: YtndpiknekdjaeaaTotals.lean).
  GIVEN WITH THE SEED: the statements are not yours to turn. If you find one false, say at which input.
  Laid BY PROGRAM, IN A SANDBOX (cutbox-rows.mjs): the forced cells as the released guide's own fill.sh prints them over the translation 6ab88b5a36423da6… (all of the seat's roots in one cut). By AI agents, Wed Nov 11 2026. No macro, syntax, notation, axiom, sorry.
-/
import Derived.Test.YtndpiknekdjaeaaChecked
import GoSem.Claim
import GoSem.ClaimJoined
import GoSem.ClaimMapViews
import Derived.JoinedTies
import Derived.KernelRfl
namespace Go.Proofs.Ytndpiknekdjaeaa
/- THE CELL 'sum', in the pinned program and in every row, IS THE sha256 OF THE DUMP (.gsa) THAT YtndpiknekdjaeaaProg.lean LOADS. Nothing in Lean hashes anything: it is a label: what it is worth is what the hold of that sum in a sandbox is worth. -/
noncomputable def Try.pinned : Pinned := { name := "ytndpiknekdjaeaa", sum := "6ab88b5a36423da6aabafebc37f5e6c0431096b36a977174456f224c06df8e3c", checked := Try.checked }
namespace Rows
def none {H : Type} : Left H := { results := [], args := [] }

/-- 'laws.FnExactAddSections': WHATEVER THE INPUT: true; the input reads as it did. -/
def fnExactAddSectionsSpec : ChangeSpec := { name := "fnExactAddSections", fn := fun _ => fun
  | [d1, d2] => { results := [.lit (.bool true)], args := [d1, d2] }
  | _ => none }
def fnExactAddSectionsRow : OpenClaim := { program := "ytndpiknekdjaeaa", sum := "6ab88b5a36423da6aabafebc37f5e6c0431096b36a977174456f224c06df8e3c", func := "loop.example/g01231/laws.FnExactAddSections", spec := "fnExactAddSections", apart := false }
def FnExactAddSectionsSaid : Prop := fnExactAddSectionsRow.holds Try.pinned (OpenSpec.ofChange fnExactAddSectionsSpec)

/-- ITS FALSE NEIGHBOUR: 'it returns false'. Refute it at one input. -/
def fnExactAddSectionsWrong : ChangeSpec := { name := "fnExactAddSections", fn := fun _ => fun
  | [d1, d2] => { results := [.lit (.bool false)], args := [d1, d2] }
  | _ => none }
def FnExactAddSectionsWrongFalsely : Prop := fnExactAddSectionsRow.holds Try.pinned (OpenSpec.ofChange fnExactAddSectionsWrong)

/-- 'laws.FnExactEdgeSection': WHATEVER THE INPUT: true; the input reads as it did. -/
def fnExactEdgeSectionSpec : ChangeSpec := { name := "fnExactEdgeSection", fn := fun _ => fun
  | [d] => { results := [.lit (.bool true)], args := [d] }
  | _ => none }
def fnExactEdgeSectionRow : OpenClaim := { program := "ytndpiknekdjaeaa", sum := "6ab88b5a36423da6aabafebc37f5e6c0431096b36a977174456f224c06df8e3c", func := "loop.example/g01231/laws.FnExactEdgeSection", spec := "fnExactEdgeSection", unfollowed := true, recurses := true, apart := false }
def FnExactEdgeSectionSaid : Prop := fnExactEdgeSectionRow.holds Try.pinned (OpenSpec.ofChange fnExactEdgeSectionSpec)

/-- ITS FALSE NEIGHBOUR: 'it returns false'. Refute it at one input. -/
def fnExactEdgeSectionWrong : ChangeSpec := { name := "fnExactEdgeSection", fn := fun _ => fun
  | [d] => { results := [.lit (.bool false)], args := [d] }
  | _ => none }
def FnExactEdgeSectionWrongFalsely : Prop := fnExactEdgeSectionRow.holds Try.pinned (OpenSpec.ofChange fnExactEdgeSectionWrong)

/-- 'laws.FnExactSmoothSection': WHATEVER THE INPUT: true; the input reads as it did. -/
def fnExactSmoothSectionSpec : ChangeSpec := { name := "fnExactSmoothSection", fn := fun _ => fun
  | [d1, d2] => { results := [.lit (.bool true)], args := [d1, d2] }
  | _ => none }
def fnExactSmoothSectionRow : OpenClaim := { program := "ytndpiknekdjaeaa", sum := "6ab88b5a36423da6aabafebc37f5e6c0431096b36a977174456f224c06df8e3c", func := "loop.example/g01231/laws.FnExactSmoothSection", spec := "fnExactSmoothSection", unfollowed := true, recurses := true, apart := false }
def FnExactSmoothSectionSaid : Prop := fnExactSmoothSectionRow.holds Try.pinned (OpenSpec.ofChange fnExactSmoothSectionSpec)

/-- ITS FALSE NEIGHBOUR: 'it returns false'. Refute it at one input. -/
def fnExactSmoothSectionWrong : ChangeSpec := { name := "fnExactSmoothSection", fn := fun _ => fun
  | [d1, d2] => { results := [.lit (.bool false)], args := [d1, d2] }
  | _ => none }
def FnExactSmoothSectionWrongFalsely : Prop := fnExactSmoothSectionRow.holds Try.pinned (OpenSpec.ofChange fnExactSmoothSectionWrong)

/-- 'laws.FnExactSpreadSection': WHATEVER THE INPUT: true; the input reads as it did. -/
def fnExactSpreadSectionSpec : ChangeSpec := { name := "fnExactSpreadSection", fn := fun _ => fun
  | [d1, d2] => { results := [.lit (.bool true)], args := [d1, d2] }
  | _ => none }
def fnExactSpreadSectionRow : OpenClaim := { program := "ytndpiknekdjaeaa", sum := "6ab88b5a36423da6aabafebc37f5e6c0431096b36a977174456f224c06df8e3c", func := "loop.example/g01231/laws.FnExactSpreadSection", spec := "fnExactSpreadSection", inPlace := ["math.sqrt", "math.archFloor", "math.Float64bits", "math.Float64frombits", "math.archTrunc"], unfollowed := true, recurses := true, apart := false }
def FnExactSpreadSectionSaid : Prop := fnExactSpreadSectionRow.holds Try.pinned (OpenSpec.ofChange fnExactSpreadSectionSpec)

/-- ITS FALSE NEIGHBOUR: 'it returns false'. Refute it at one input. -/
def fnExactSpreadSectionWrong : ChangeSpec := { name := "fnExactSpreadSection", fn := fun _ => fun
  | [d1, d2] => { results := [.lit (.bool false)], args := [d1, d2] }
  | _ => none }
def FnExactSpreadSectionWrongFalsely : Prop := fnExactSpreadSectionRow.holds Try.pinned (OpenSpec.ofChange fnExactSpreadSectionWrong)

/-- 'laws.FnExactGatherSection': WHATEVER THE INPUT: true; the input reads as it did. -/
def fnExactGatherSectionSpec : ChangeSpec := { name := "fnExactGatherSection", fn := fun _ => fun
  | [d1, d2] => { results := [.lit (.bool true)], args := [d1, d2] }
  | _ => none }
def fnExactGatherSectionRow : OpenClaim := { program := "ytndpiknekdjaeaa", sum := "6ab88b5a36423da6aabafebc37f5e6c0431096b36a977174456f224c06df8e3c", func := "loop.example/g01231/laws.FnExactGatherSection", spec := "fnExactGatherSection", inPlace := ["math.sqrt", "math.archFloor", "math.Float64bits", "math.Float64frombits", "math.archTrunc"], unfollowed := true, recurses := true, apart := false }
def FnExactGatherSectionSaid : Prop := fnExactGatherSectionRow.holds Try.pinned (OpenSpec.ofChange fnExactGatherSectionSpec)

/-- ITS FALSE NEIGHBOUR: 'it returns false'. Refute it at one input. -/
def fnExactGatherSectionWrong : ChangeSpec := { name := "fnExactGatherSection", fn := fun _ => fun
  | [d1, d2] => { results := [.lit (.bool false)], args := [d1, d2] }
  | _ => none }
def FnExactGatherSectionWrongFalsely : Prop := fnExactGatherSectionRow.holds Try.pinned (OpenSpec.ofChange fnExactGatherSectionWrong)

/-- 'laws.FnExactLengthsOf': WHATEVER THE INPUT: true; the input reads as it did. -/
def fnExactLengthsOfSpec : ChangeSpec := { name := "fnExactLengthsOf", fn := fun _ => fun
  | [d1, d2, d3, d4] => { results := [.lit (.bool true)], args := [d1, d2, d3, d4] }
  | _ => none }
def fnExactLengthsOfRow : OpenClaim := { program := "ytndpiknekdjaeaa", sum := "6ab88b5a36423da6aabafebc37f5e6c0431096b36a977174456f224c06df8e3c", func := "loop.example/g01231/laws.FnExactLengthsOf", spec := "fnExactLengthsOf", inPlace := ["math.sqrt", "math.archFloor", "math.Float64bits", "math.Float64frombits", "math.archTrunc"], unfollowed := true, recurses := true, apart := false }
def FnExactLengthsOfSaid : Prop := fnExactLengthsOfRow.holds Try.pinned (OpenSpec.ofChange fnExactLengthsOfSpec)

/-- ITS FALSE NEIGHBOUR: 'it returns false'. Refute it at one input. -/
def fnExactLengthsOfWrong : ChangeSpec := { name := "fnExactLengthsOf", fn := fun _ => fun
  | [d1, d2, d3, d4] => { results := [.lit (.bool false)], args := [d1, d2, d3, d4] }
  | _ => none }
def FnExactLengthsOfWrongFalsely : Prop := fnExactLengthsOfRow.holds Try.pinned (OpenSpec.ofChange fnExactLengthsOfWrong)

/-- 'laws.FnExactTimeAlong': WHATEVER THE INPUT: true; the input reads as it did. -/
def fnExactTimeAlongSpec : ChangeSpec := { name := "fnExactTimeAlong", fn := fun _ => fun
  | [d1, d2, d3] => { results := [.lit (.bool true)], args := [d1, d2, d3] }
  | _ => none }
def fnExactTimeAlongRow : OpenClaim := { program := "ytndpiknekdjaeaa", sum := "6ab88b5a36423da6aabafebc37f5e6c0431096b36a977174456f224c06df8e3c", func := "loop.example/g01231/laws.FnExactTimeAlong", spec := "fnExactTimeAlong", inPlace := ["math.sqrt", "math.archFloor", "math.Float64bits", "math.Float64frombits", "math.archTrunc"], unfollowed := true, recurses := true, apart := false }
def FnExactTimeAlongSaid : Prop := fnExactTimeAlongRow.holds Try.pinned (OpenSpec.ofChange fnExactTimeAlongSpec)

/-- ITS FALSE NEIGHBOUR: 'it returns false'. Refute it at one input. -/
def fnExactTimeAlongWrong : ChangeSpec := { name := "fnExactTimeAlong", fn := fun _ => fun
  | [d1, d2, d3] => { results := [.lit (.bool false)], args := [d1, d2, d3] }
  | _ => none }
def FnExactTimeAlongWrongFalsely : Prop := fnExactTimeAlongRow.holds Try.pinned (OpenSpec.ofChange fnExactTimeAlongWrong)

/-- 'laws.FnExactTimesAlong': WHATEVER THE INPUT: true; the input reads as it did. -/
def fnExactTimesAlongSpec : ChangeSpec := { name := "fnExactTimesAlong", fn := fun _ => fun
  | [d1, d2, d3] => { results := [.lit (.bool true)], args := [d1, d2, d3] }
  | _ => none }
def fnExactTimesAlongRow : OpenClaim := { program := "ytndpiknekdjaeaa", sum := "6ab88b5a36423da6aabafebc37f5e6c0431096b36a977174456f224c06df8e3c", func := "loop.example/g01231/laws.FnExactTimesAlong", spec := "fnExactTimesAlong", inPlace := ["math.sqrt", "math.archFloor", "math.Float64bits", "math.Float64frombits", "math.archTrunc"], unfollowed := true, recurses := true, apart := false }
def FnExactTimesAlongSaid : Prop := fnExactTimesAlongRow.holds Try.pinned (OpenSpec.ofChange fnExactTimesAlongSpec)

/-- ITS FALSE NEIGHBOUR: 'it returns false'. Refute it at one input. -/
def fnExactTimesAlongWrong : ChangeSpec := { name := "fnExactTimesAlong", fn := fun _ => fun
  | [d1, d2, d3] => { results := [.lit (.bool false)], args := [d1, d2, d3] }
  | _ => none }
def FnExactTimesAlongWrongFalsely : Prop := fnExactTimesAlongRow.holds Try.pinned (OpenSpec.ofChange fnExactTimesAlongWrong)

/-- 'laws.FnExactPullPath': WHATEVER THE INPUT: true; the input reads as it did. -/
def fnExactPullPathSpec : ChangeSpec := { name := "fnExactPullPath", fn := fun _ => fun
  | [d1, d2, d3, d4, d5] => { results := [.lit (.bool true)], args := [d1, d2, d3, d4, d5] }
  | _ => none }
def fnExactPullPathRow : OpenClaim := { program := "ytndpiknekdjaeaa", sum := "6ab88b5a36423da6aabafebc37f5e6c0431096b36a977174456f224c06df8e3c", func := "loop.example/g01231/laws.FnExactPullPath", spec := "fnExactPullPath", inPlace := ["math.sqrt", "math.archFloor", "math.Float64bits", "math.Float64frombits", "math.archTrunc"], unfollowed := true, recurses := true, apart := false }
def FnExactPullPathSaid : Prop := fnExactPullPathRow.holds Try.pinned (OpenSpec.ofChange fnExactPullPathSpec)

/-- ITS FALSE NEIGHBOUR: 'it returns false'. Refute it at one input. -/
def fnExactPullPathWrong : ChangeSpec := { name := "fnExactPullPath", fn := fun _ => fun
  | [d1, d2, d3, d4, d5] => { results := [.lit (.bool false)], args := [d1, d2, d3, d4, d5] }
  | _ => none }
def FnExactPullPathWrongFalsely : Prop := fnExactPullPathRow.holds Try.pinned (OpenSpec.ofChange fnExactPullPathWrong)

/-- 'laws.FnExactPullPaths': WHATEVER THE INPUT: true; the input reads as it did. -/
def fnExactPullPathsSpec : ChangeSpec := { name := "fnExactPullPaths", fn := fun _ => fun
  | [d1, d2, d3, d4, d5, d6] => { results := [.lit (.bool true)], args := [d1, d2, d3, d4, d5, d6] }
  | _ => none }
def fnExactPullPathsRow : OpenClaim := { program := "ytndpiknekdjaeaa", sum := "6ab88b5a36423da6aabafebc37f5e6c0431096b36a977174456f224c06df8e3c", func := "loop.example/g01231/laws.FnExactPullPaths", spec := "fnExactPullPaths", inPlace := ["math.sqrt", "math.archFloor", "math.Float64bits", "math.Float64frombits", "math.archTrunc"], unfollowed := true, recurses := true, apart := false }
def FnExactPullPathsSaid : Prop := fnExactPullPathsRow.holds Try.pinned (OpenSpec.ofChange fnExactPullPathsSpec)

/-- ITS FALSE NEIGHBOUR: 'it returns false'. Refute it at one input. -/
def fnExactPullPathsWrong : ChangeSpec := { name := "fnExactPullPaths", fn := fun _ => fun
  | [d1, d2, d3, d4, d5, d6] => { results := [.lit (.bool false)], args := [d1, d2, d3, d4, d5, d6] }
  | _ => none }
def FnExactPullPathsWrongFalsely : Prop := fnExactPullPathsRow.holds Try.pinned (OpenSpec.ofChange fnExactPullPathsWrong)

/-- 'laws.FnExactOffTimes': WHATEVER THE INPUT: true; the input reads as it did. -/
def fnExactOffTimesSpec : ChangeSpec := { name := "fnExactOffTimes", fn := fun _ => fun
  | [d1, d2, d3, d4] => { results := [.lit (.bool true)], args := [d1, d2, d3, d4] }
  | _ => none }
def fnExactOffTimesRow : OpenClaim := { program := "ytndpiknekdjaeaa", sum := "6ab88b5a36423da6aabafebc37f5e6c0431096b36a977174456f224c06df8e3c", func := "loop.example/g01231/laws.FnExactOffTimes", spec := "fnExactOffTimes", inPlace := ["math.sqrt", "math.archFloor", "math.Float64bits", "math.Float64frombits", "math.archTrunc"], unfollowed := true, recurses := true, apart := false }
def FnExactOffTimesSaid : Prop := fnExactOffTimesRow.holds Try.pinned (OpenSpec.ofChange fnExactOffTimesSpec)

/-- ITS FALSE NEIGHBOUR: 'it returns false'. Refute it at one input. -/
def fnExactOffTimesWrong : ChangeSpec := { name := "fnExactOffTimes", fn := fun _ => fun
  | [d1, d2, d3, d4] => { results := [.lit (.bool false)], args := [d1, d2, d3, d4] }
  | _ => none }
def FnExactOffTimesWrongFalsely : Prop := fnExactOffTimesRow.holds Try.pinned (OpenSpec.ofChange fnExactOffTimesWrong)

/-- 'laws.FnExactHitsOf': WHATEVER THE INPUT: true; the input reads as it did. -/
def fnExactHitsOfSpec : ChangeSpec := { name := "fnExactHitsOf", fn := fun _ => fun
  | [d1, d2, d3, d4] => { results := [.lit (.bool true)], args := [d1, d2, d3, d4] }
  | _ => none }
def fnExactHitsOfRow : OpenClaim := { program := "ytndpiknekdjaeaa", sum := "6ab88b5a36423da6aabafebc37f5e6c0431096b36a977174456f224c06df8e3c", func := "loop.example/g01231/laws.FnExactHitsOf", spec := "fnExactHitsOf", inPlace := ["math.archFloor", "math.Float64bits", "math.Float64frombits", "math.archTrunc", "math.sqrt"], unfollowed := true, recurses := true, apart := false }
def FnExactHitsOfSaid : Prop := fnExactHitsOfRow.holds Try.pinned (OpenSpec.ofChange fnExactHitsOfSpec)

/-- ITS FALSE NEIGHBOUR: 'it returns false'. Refute it at one input. -/
def fnExactHitsOfWrong : ChangeSpec := { name := "fnExactHitsOf", fn := fun _ => fun
  | [d1, d2, d3, d4] => { results := [.lit (.bool false)], args := [d1, d2, d3, d4] }
  | _ => none }
def FnExactHitsOfWrongFalsely : Prop := fnExactHitsOfRow.holds Try.pinned (OpenSpec.ofChange fnExactHitsOfWrong)

/- THE SECOND FORM. 'bulk': how many values and letters a reading holds, each counted each time it is reached (what is shared counts as often as it is met; a slice's spare places count too). A statement '..UptoSaid' is the law's where the arguments, and the package variables that the reading takes, are together of bulk at most 1048576: NARROWER than '..Said'. Prove '..Said' where nothing that the law and all that it calls make is longer than what came in: it says more and counts as full. Else prove '..UptoSaid'. A law counts once. -/
mutual
def uptoBulk {H : Type} : DataW H → Nat
  | .lit (.string bytes) => bytes.length + 1
  | .lit _ => 1
  | .nil => 1
  | .ptr d => uptoBulk d + 1
  | .slice elems spare => uptoBulkAll elems + uptoBulkAll spare + 1
  | .agg parts => uptoBulkAll parts + 1
  | .iface _ d => uptoBulk d + 1
  | .map entries => uptoBulkEntries entries + 1
  | .held _ => 1
def uptoBulkAll {H : Type} : List (DataW H) → Nat
  | [] => 0
  | d :: r => uptoBulk d + uptoBulkAll r
def uptoBulkEntries {H : Type} : List (Lit × DataW H) → Nat
  | [] => 0
  | x :: r => uptoBulkEntry x + uptoBulkEntries r
def uptoBulkEntry {H : Type} : Lit × DataW H → Nat
  | (.string bytes, d) => bytes.length + uptoBulk d + 1
  | (_, d) => uptoBulk d + 1
 end
def uptoSmall : (H : Type) → List (DataW H) → Bool := fun _ ds => decide (uptoBulkAll ds ≤ 1048576)
def OpenSpec.upto (s : _root_.Go.ChangeSpec) : _root_.Go.OpenSpec := { _root_.Go.OpenSpec.ofChange s with cond := some uptoSmall }

/-- 'laws.FnExactAddSections', WHERE WHAT IT READS IS OF BULK AT MOST 1048576: true; the input reads as it did. -/
def fnExactAddSectionsUptoRow : OpenClaim := { program := "ytndpiknekdjaeaa", sum := "6ab88b5a36423da6aabafebc37f5e6c0431096b36a977174456f224c06df8e3c", func := "loop.example/g01231/laws.FnExactAddSections", spec := "fnExactAddSections", apart := false, narrowed := true }
def FnExactAddSectionsUptoSaid : Prop := fnExactAddSectionsUptoRow.holds Try.pinned (OpenSpec.upto fnExactAddSectionsSpec)

/-- 'laws.FnExactEdgeSection', WHERE WHAT IT READS IS OF BULK AT MOST 1048576: true; the input reads as it did. -/
def fnExactEdgeSectionUptoRow : OpenClaim := { program := "ytndpiknekdjaeaa", sum := "6ab88b5a36423da6aabafebc37f5e6c0431096b36a977174456f224c06df8e3c", func := "loop.example/g01231/laws.FnExactEdgeSection", spec := "fnExactEdgeSection", unfollowed := true, recurses := true, apart := false, narrowed := true }
def FnExactEdgeSectionUptoSaid : Prop := fnExactEdgeSectionUptoRow.holds Try.pinned (OpenSpec.upto fnExactEdgeSectionSpec)

/-- 'laws.FnExactSmoothSection', WHERE WHAT IT READS IS OF BULK AT MOST 1048576: true; the input reads as it did. -/
def fnExactSmoothSectionUptoRow : OpenClaim := { program := "ytndpiknekdjaeaa", sum := "6ab88b5a36423da6aabafebc37f5e6c0431096b36a977174456f224c06df8e3c", func := "loop.example/g01231/laws.FnExactSmoothSection", spec := "fnExactSmoothSection", unfollowed := true, recurses := true, apart := false, narrowed := true }
def FnExactSmoothSectionUptoSaid : Prop := fnExactSmoothSectionUptoRow.holds Try.pinned (OpenSpec.upto fnExactSmoothSectionSpec)

/-- 'laws.FnExactSpreadSection', WHERE WHAT IT READS IS OF BULK AT MOST 1048576: true; the input reads as it did. -/
def fnExactSpreadSectionUptoRow : OpenClaim := { program := "ytndpiknekdjaeaa", sum := "6ab88b5a36423da6aabafebc37f5e6c0431096b36a977174456f224c06df8e3c", func := "loop.example/g01231/laws.FnExactSpreadSection", spec := "fnExactSpreadSection", inPlace := ["math.sqrt", "math.archFloor", "math.Float64bits", "math.Float64frombits", "math.archTrunc"], unfollowed := true, recurses := true, apart := false, narrowed := true }
def FnExactSpreadSectionUptoSaid : Prop := fnExactSpreadSectionUptoRow.holds Try.pinned (OpenSpec.upto fnExactSpreadSectionSpec)

/-- 'laws.FnExactGatherSection', WHERE WHAT IT READS IS OF BULK AT MOST 1048576: true; the input reads as it did. -/
def fnExactGatherSectionUptoRow : OpenClaim := { program := "ytndpiknekdjaeaa", sum := "6ab88b5a36423da6aabafebc37f5e6c0431096b36a977174456f224c06df8e3c", func := "loop.example/g01231/laws.FnExactGatherSection", spec := "fnExactGatherSection", inPlace := ["math.sqrt", "math.archFloor", "math.Float64bits", "math.Float64frombits", "math.archTrunc"], unfollowed := true, recurses := true, apart := false, narrowed := true }
def FnExactGatherSectionUptoSaid : Prop := fnExactGatherSectionUptoRow.holds Try.pinned (OpenSpec.upto fnExactGatherSectionSpec)

/-- 'laws.FnExactLengthsOf', WHERE WHAT IT READS IS OF BULK AT MOST 1048576: true; the input reads as it did. -/
def fnExactLengthsOfUptoRow : OpenClaim := { program := "ytndpiknekdjaeaa", sum := "6ab88b5a36423da6aabafebc37f5e6c0431096b36a977174456f224c06df8e3c", func := "loop.example/g01231/laws.FnExactLengthsOf", spec := "fnExactLengthsOf", inPlace := ["math.sqrt", "math.archFloor", "math.Float64bits", "math.Float64frombits", "math.archTrunc"], unfollowed := true, recurses := true, apart := false, narrowed := true }
def FnExactLengthsOfUptoSaid : Prop := fnExactLengthsOfUptoRow.holds Try.pinned (OpenSpec.upto fnExactLengthsOfSpec)

/-- 'laws.FnExactTimeAlong', WHERE WHAT IT READS IS OF BULK AT MOST 1048576: true; the input reads as it did. -/
def fnExactTimeAlongUptoRow : OpenClaim := { program := "ytndpiknekdjaeaa", sum := "6ab88b5a36423da6aabafebc37f5e6c0431096b36a977174456f224c06df8e3c", func := "loop.example/g01231/laws.FnExactTimeAlong", spec := "fnExactTimeAlong", inPlace := ["math.sqrt", "math.archFloor", "math.Float64bits", "math.Float64frombits", "math.archTrunc"], unfollowed := true, recurses := true, apart := false, narrowed := true }
def FnExactTimeAlongUptoSaid : Prop := fnExactTimeAlongUptoRow.holds Try.pinned (OpenSpec.upto fnExactTimeAlongSpec)

/-- 'laws.FnExactTimesAlong', WHERE WHAT IT READS IS OF BULK AT MOST 1048576: true; the input reads as it did. -/
def fnExactTimesAlongUptoRow : OpenClaim := { program := "ytndpiknekdjaeaa", sum := "6ab88b5a36423da6aabafebc37f5e6c0431096b36a977174456f224c06df8e3c", func := "loop.example/g01231/laws.FnExactTimesAlong", spec := "fnExactTimesAlong", inPlace := ["math.sqrt", "math.archFloor", "math.Float64bits", "math.Float64frombits", "math.archTrunc"], unfollowed := true, recurses := true, apart := false, narrowed := true }
def FnExactTimesAlongUptoSaid : Prop := fnExactTimesAlongUptoRow.holds Try.pinned (OpenSpec.upto fnExactTimesAlongSpec)

/-- 'laws.FnExactPullPath', WHERE WHAT IT READS IS OF BULK AT MOST 1048576: true; the input reads as it did. -/
def fnExactPullPathUptoRow : OpenClaim := { program := "ytndpiknekdjaeaa", sum := "6ab88b5a36423da6aabafebc37f5e6c0431096b36a977174456f224c06df8e3c", func := "loop.example/g01231/laws.FnExactPullPath", spec := "fnExactPullPath", inPlace := ["math.sqrt", "math.archFloor", "math.Float64bits", "math.Float64frombits", "math.archTrunc"], unfollowed := true, recurses := true, apart := false, narrowed := true }
def FnExactPullPathUptoSaid : Prop := fnExactPullPathUptoRow.holds Try.pinned (OpenSpec.upto fnExactPullPathSpec)

/-- 'laws.FnExactPullPaths', WHERE WHAT IT READS IS OF BULK AT MOST 1048576: true; the input reads as it did. -/
def fnExactPullPathsUptoRow : OpenClaim := { program := "ytndpiknekdjaeaa", sum := "6ab88b5a36423da6aabafebc37f5e6c0431096b36a977174456f224c06df8e3c", func := "loop.example/g01231/laws.FnExactPullPaths", spec := "fnExactPullPaths", inPlace := ["math.sqrt", "math.archFloor", "math.Float64bits", "math.Float64frombits", "math.archTrunc"], unfollowed := true, recurses := true, apart := false, narrowed := true }
def FnExactPullPathsUptoSaid : Prop := fnExactPullPathsUptoRow.holds Try.pinned (OpenSpec.upto fnExactPullPathsSpec)

/-- 'laws.FnExactOffTimes', WHERE WHAT IT READS IS OF BULK AT MOST 1048576: true; the input reads as it did. -/
def fnExactOffTimesUptoRow : OpenClaim := { program := "ytndpiknekdjaeaa", sum := "6ab88b5a36423da6aabafebc37f5e6c0431096b36a977174456f224c06df8e3c", func := "loop.example/g01231/laws.FnExactOffTimes", spec := "fnExactOffTimes", inPlace := ["math.sqrt", "math.archFloor", "math.Float64bits", "math.Float64frombits", "math.archTrunc"], unfollowed := true, recurses := true, apart := false, narrowed := true }
def FnExactOffTimesUptoSaid : Prop := fnExactOffTimesUptoRow.holds Try.pinned (OpenSpec.upto fnExactOffTimesSpec)

/-- 'laws.FnExactHitsOf', WHERE WHAT IT READS IS OF BULK AT MOST 1048576: true; the input reads as it did. -/
def fnExactHitsOfUptoRow : OpenClaim := { program := "ytndpiknekdjaeaa", sum := "6ab88b5a36423da6aabafebc37f5e6c0431096b36a977174456f224c06df8e3c", func := "loop.example/g01231/laws.FnExactHitsOf", spec := "fnExactHitsOf", inPlace := ["math.archFloor", "math.Float64bits", "math.Float64frombits", "math.archTrunc", "math.sqrt"], unfollowed := true, recurses := true, apart := false, narrowed := true }
def FnExactHitsOfUptoSaid : Prop := fnExactHitsOfUptoRow.holds Try.pinned (OpenSpec.upto fnExactHitsOfSpec)

end Rows
end Go.Proofs.Ytndpiknekdjaeaa
