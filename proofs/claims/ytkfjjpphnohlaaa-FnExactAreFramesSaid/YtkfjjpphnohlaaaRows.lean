/-
  No cell of these rows narrows 'for every input' (looked for: loops, veiled, ifaces, maps, wideKeys, modest, calm, conditions, laid).
  DERIVED. THE GIVEN ROWS OF THIS SEAT. 12 by the template 'for every input the law returns true; each argument reads behind the call as it read before'; 0 by the template 'total and deterministic' (their statements: YtkfjjpphnohlaaaTotals.lean).
  GIVEN WITH THE SEED: the statements are not yours to turn. If you find one false, say at which input.
  Laid BY PROGRAM, IN A SANDBOX (cutbox-rows.mjs): the forced cells as the released guide's own fill.sh prints them over the translation 959e9e19a6f7effe… (all of the seat's roots in one cut). By AI agents, Wed Nov 11 2026. No macro, syntax, notation, axiom, sorry.
-/
import Derived.Test.YtkfjjpphnohlaaaChecked
import GoSem.Claim
import GoSem.ClaimJoined
import GoSem.ClaimMapViews
import Derived.JoinedTies
import Derived.KernelRfl
namespace Go.Proofs.Ytkfjjpphnohlaaa
/- THE CELL 'sum', in the pinned program and in every row, IS THE sha256 OF THE DUMP (.gsa) THAT YtkfjjpphnohlaaaProg.lean LOADS. Nothing in Lean hashes anything: it is a label: what it is worth is what the hold of that sum in a sandbox is worth. -/
noncomputable def Try.pinned : Pinned := { name := "ytkfjjpphnohlaaa", sum := "959e9e19a6f7effe26d115ab91290ebbcbec37d09f7ea76adcce63a5cdd74340", checked := Try.checked }
namespace Rows
def none {H : Type} : Left H := { results := [], args := [] }

/-- 'laws.FnExactSameFrame': WHATEVER THE INPUT: true; the input reads as it did. -/
def fnExactSameFrameSpec : ChangeSpec := { name := "fnExactSameFrame", fn := fun _ => fun
  | [d1, d2] => { results := [.lit (.bool true)], args := [d1, d2] }
  | _ => none }
def fnExactSameFrameRow : OpenClaim := { program := "ytkfjjpphnohlaaa", sum := "959e9e19a6f7effe26d115ab91290ebbcbec37d09f7ea76adcce63a5cdd74340", func := "loop.example/g01231/laws.FnExactSameFrame", spec := "fnExactSameFrame", inPlace := ["math.Float32bits"], unfollowed := true, recurses := true, apart := false }
def FnExactSameFrameSaid : Prop := fnExactSameFrameRow.holds Try.pinned (OpenSpec.ofChange fnExactSameFrameSpec)

/-- ITS FALSE NEIGHBOUR: 'it returns false'. Refute it at one input. -/
def fnExactSameFrameWrong : ChangeSpec := { name := "fnExactSameFrame", fn := fun _ => fun
  | [d1, d2] => { results := [.lit (.bool false)], args := [d1, d2] }
  | _ => none }
def FnExactSameFrameWrongFalsely : Prop := fnExactSameFrameRow.holds Try.pinned (OpenSpec.ofChange fnExactSameFrameWrong)

/-- 'laws.FnExactValidFrame': WHATEVER THE INPUT: true; the input reads as it did. -/
def fnExactValidFrameSpec : ChangeSpec := { name := "fnExactValidFrame", fn := fun _ => fun
  | [d] => { results := [.lit (.bool true)], args := [d] }
  | _ => none }
def fnExactValidFrameRow : OpenClaim := { program := "ytkfjjpphnohlaaa", sum := "959e9e19a6f7effe26d115ab91290ebbcbec37d09f7ea76adcce63a5cdd74340", func := "loop.example/g01231/laws.FnExactValidFrame", spec := "fnExactValidFrame", inPlace := ["math.Float64bits", "math.Float64frombits"], unfollowed := true, recurses := true, apart := false }
def FnExactValidFrameSaid : Prop := fnExactValidFrameRow.holds Try.pinned (OpenSpec.ofChange fnExactValidFrameSpec)

/-- ITS FALSE NEIGHBOUR: 'it returns false'. Refute it at one input. -/
def fnExactValidFrameWrong : ChangeSpec := { name := "fnExactValidFrame", fn := fun _ => fun
  | [d] => { results := [.lit (.bool false)], args := [d] }
  | _ => none }
def FnExactValidFrameWrongFalsely : Prop := fnExactValidFrameRow.holds Try.pinned (OpenSpec.ofChange fnExactValidFrameWrong)

/-- 'laws.FnExactAreFrames': WHATEVER THE INPUT: true; the input reads as it did. -/
def fnExactAreFramesSpec : ChangeSpec := { name := "fnExactAreFrames", fn := fun _ => fun
  | [d] => { results := [.lit (.bool true)], args := [d] }
  | _ => none }
def fnExactAreFramesRow : OpenClaim := { program := "ytkfjjpphnohlaaa", sum := "959e9e19a6f7effe26d115ab91290ebbcbec37d09f7ea76adcce63a5cdd74340", func := "loop.example/g01231/laws.FnExactAreFrames", spec := "fnExactAreFrames", inPlace := ["math.Float64bits", "math.Float64frombits"], unfollowed := true, recurses := true, apart := false }
def FnExactAreFramesSaid : Prop := fnExactAreFramesRow.holds Try.pinned (OpenSpec.ofChange fnExactAreFramesSpec)

/-- ITS FALSE NEIGHBOUR: 'it returns false'. Refute it at one input. -/
def fnExactAreFramesWrong : ChangeSpec := { name := "fnExactAreFrames", fn := fun _ => fun
  | [d] => { results := [.lit (.bool false)], args := [d] }
  | _ => none }
def FnExactAreFramesWrongFalsely : Prop := fnExactAreFramesRow.holds Try.pinned (OpenSpec.ofChange fnExactAreFramesWrong)

/-- 'laws.FnExactSplitFrame': WHATEVER THE INPUT: true; the input reads as it did. -/
def fnExactSplitFrameSpec : ChangeSpec := { name := "fnExactSplitFrame", fn := fun _ => fun
  | [d1, d2] => { results := [.lit (.bool true)], args := [d1, d2] }
  | _ => none }
def fnExactSplitFrameRow : OpenClaim := { program := "ytkfjjpphnohlaaa", sum := "959e9e19a6f7effe26d115ab91290ebbcbec37d09f7ea76adcce63a5cdd74340", func := "loop.example/g01231/laws.FnExactSplitFrame", spec := "fnExactSplitFrame", inPlace := ["math.Float64bits", "math.Float64frombits"], unfollowed := true, recurses := true, apart := false }
def FnExactSplitFrameSaid : Prop := fnExactSplitFrameRow.holds Try.pinned (OpenSpec.ofChange fnExactSplitFrameSpec)

/-- ITS FALSE NEIGHBOUR: 'it returns false'. Refute it at one input. -/
def fnExactSplitFrameWrong : ChangeSpec := { name := "fnExactSplitFrame", fn := fun _ => fun
  | [d1, d2] => { results := [.lit (.bool false)], args := [d1, d2] }
  | _ => none }
def FnExactSplitFrameWrongFalsely : Prop := fnExactSplitFrameRow.holds Try.pinned (OpenSpec.ofChange fnExactSplitFrameWrong)

/-- 'laws.FnExactJoinFrames': WHATEVER THE INPUT: true; the input reads as it did. -/
def fnExactJoinFramesSpec : ChangeSpec := { name := "fnExactJoinFrames", fn := fun _ => fun
  | [d1, d2] => { results := [.lit (.bool true)], args := [d1, d2] }
  | _ => none }
def fnExactJoinFramesRow : OpenClaim := { program := "ytkfjjpphnohlaaa", sum := "959e9e19a6f7effe26d115ab91290ebbcbec37d09f7ea76adcce63a5cdd74340", func := "loop.example/g01231/laws.FnExactJoinFrames", spec := "fnExactJoinFrames", inPlace := ["math.Float64bits", "math.Float64frombits"], unfollowed := true, recurses := true, apart := false }
def FnExactJoinFramesSaid : Prop := fnExactJoinFramesRow.holds Try.pinned (OpenSpec.ofChange fnExactJoinFramesSpec)

/-- ITS FALSE NEIGHBOUR: 'it returns false'. Refute it at one input. -/
def fnExactJoinFramesWrong : ChangeSpec := { name := "fnExactJoinFrames", fn := fun _ => fun
  | [d1, d2] => { results := [.lit (.bool false)], args := [d1, d2] }
  | _ => none }
def FnExactJoinFramesWrongFalsely : Prop := fnExactJoinFramesRow.holds Try.pinned (OpenSpec.ofChange fnExactJoinFramesWrong)

/-- 'laws.FnExactExponentOf': WHATEVER THE INPUT: true; the input reads as it did. -/
def fnExactExponentOfSpec : ChangeSpec := { name := "fnExactExponentOf", fn := fun _ => fun
  | [d] => { results := [.lit (.bool true)], args := [d] }
  | _ => none }
def fnExactExponentOfRow : OpenClaim := { program := "ytkfjjpphnohlaaa", sum := "959e9e19a6f7effe26d115ab91290ebbcbec37d09f7ea76adcce63a5cdd74340", func := "loop.example/g01231/laws.FnExactExponentOf", spec := "fnExactExponentOf", inPlace := ["math.Float64bits", "math.Float64frombits", "math.archMax"], unfollowed := true, recurses := true, apart := false }
def FnExactExponentOfSaid : Prop := fnExactExponentOfRow.holds Try.pinned (OpenSpec.ofChange fnExactExponentOfSpec)

/-- ITS FALSE NEIGHBOUR: 'it returns false'. Refute it at one input. -/
def fnExactExponentOfWrong : ChangeSpec := { name := "fnExactExponentOf", fn := fun _ => fun
  | [d] => { results := [.lit (.bool false)], args := [d] }
  | _ => none }
def FnExactExponentOfWrongFalsely : Prop := fnExactExponentOfRow.holds Try.pinned (OpenSpec.ofChange fnExactExponentOfWrong)

/-- 'laws.FnExactLateFrames': WHATEVER THE INPUT: true; the input reads as it did. -/
def fnExactLateFramesSpec : ChangeSpec := { name := "fnExactLateFrames", fn := fun _ => fun
  | [d] => { results := [.lit (.bool true)], args := [d] }
  | _ => none }
def fnExactLateFramesRow : OpenClaim := { program := "ytkfjjpphnohlaaa", sum := "959e9e19a6f7effe26d115ab91290ebbcbec37d09f7ea76adcce63a5cdd74340", func := "loop.example/g01231/laws.FnExactLateFrames", spec := "fnExactLateFrames", inPlace := ["math.Float64bits", "math.Float64frombits"], unfollowed := true, recurses := true, apart := false }
def FnExactLateFramesSaid : Prop := fnExactLateFramesRow.holds Try.pinned (OpenSpec.ofChange fnExactLateFramesSpec)

/-- ITS FALSE NEIGHBOUR: 'it returns false'. Refute it at one input. -/
def fnExactLateFramesWrong : ChangeSpec := { name := "fnExactLateFrames", fn := fun _ => fun
  | [d] => { results := [.lit (.bool false)], args := [d] }
  | _ => none }
def FnExactLateFramesWrongFalsely : Prop := fnExactLateFramesRow.holds Try.pinned (OpenSpec.ofChange fnExactLateFramesWrong)

/-- 'laws.FnExactPackBlock': WHATEVER THE INPUT: true; the input reads as it did. -/
def fnExactPackBlockSpec : ChangeSpec := { name := "fnExactPackBlock", fn := fun _ => fun
  | [d] => { results := [.lit (.bool true)], args := [d] }
  | _ => none }
def fnExactPackBlockRow : OpenClaim := { program := "ytkfjjpphnohlaaa", sum := "959e9e19a6f7effe26d115ab91290ebbcbec37d09f7ea76adcce63a5cdd74340", func := "loop.example/g01231/laws.FnExactPackBlock", spec := "fnExactPackBlock", inPlace := ["math.Float64bits", "math.Float64frombits", "math.archMax", "math.RoundToEven"], unfollowed := true, recurses := true, named := ["encoding/binary.LittleEndian"], apart := false }
def FnExactPackBlockSaid : Prop := fnExactPackBlockRow.holds Try.pinned (OpenSpec.ofChange fnExactPackBlockSpec)

/-- ITS FALSE NEIGHBOUR: 'it returns false'. Refute it at one input. -/
def fnExactPackBlockWrong : ChangeSpec := { name := "fnExactPackBlock", fn := fun _ => fun
  | [d] => { results := [.lit (.bool false)], args := [d] }
  | _ => none }
def FnExactPackBlockWrongFalsely : Prop := fnExactPackBlockRow.holds Try.pinned (OpenSpec.ofChange fnExactPackBlockWrong)

/-- 'laws.FnExactUnpackBlock': WHATEVER THE INPUT: true; the input reads as it did. -/
def fnExactUnpackBlockSpec : ChangeSpec := { name := "fnExactUnpackBlock", fn := fun _ => fun
  | [d] => { results := [.lit (.bool true)], args := [d] }
  | _ => none }
def fnExactUnpackBlockRow : OpenClaim := { program := "ytkfjjpphnohlaaa", sum := "959e9e19a6f7effe26d115ab91290ebbcbec37d09f7ea76adcce63a5cdd74340", func := "loop.example/g01231/laws.FnExactUnpackBlock", spec := "fnExactUnpackBlock", inPlace := ["math.Float64bits", "math.Float64frombits", "math.archMax", "math.RoundToEven"], unfollowed := true, recurses := true, named := ["encoding/binary.LittleEndian"], apart := false }
def FnExactUnpackBlockSaid : Prop := fnExactUnpackBlockRow.holds Try.pinned (OpenSpec.ofChange fnExactUnpackBlockSpec)

/-- ITS FALSE NEIGHBOUR: 'it returns false'. Refute it at one input. -/
def fnExactUnpackBlockWrong : ChangeSpec := { name := "fnExactUnpackBlock", fn := fun _ => fun
  | [d] => { results := [.lit (.bool false)], args := [d] }
  | _ => none }
def FnExactUnpackBlockWrongFalsely : Prop := fnExactUnpackBlockRow.holds Try.pinned (OpenSpec.ofChange fnExactUnpackBlockWrong)

/-- 'laws.FnExactPackTrace': WHATEVER THE INPUT: true; the input reads as it did. -/
def fnExactPackTraceSpec : ChangeSpec := { name := "fnExactPackTrace", fn := fun _ => fun
  | [d] => { results := [.lit (.bool true)], args := [d] }
  | _ => none }
def fnExactPackTraceRow : OpenClaim := { program := "ytkfjjpphnohlaaa", sum := "959e9e19a6f7effe26d115ab91290ebbcbec37d09f7ea76adcce63a5cdd74340", func := "loop.example/g01231/laws.FnExactPackTrace", spec := "fnExactPackTrace", inPlace := ["math.Float64bits", "math.Float64frombits", "math.archMax", "math.RoundToEven"], unfollowed := true, recurses := true, named := ["encoding/binary.LittleEndian"], apart := false }
def FnExactPackTraceSaid : Prop := fnExactPackTraceRow.holds Try.pinned (OpenSpec.ofChange fnExactPackTraceSpec)

/-- ITS FALSE NEIGHBOUR: 'it returns false'. Refute it at one input. -/
def fnExactPackTraceWrong : ChangeSpec := { name := "fnExactPackTrace", fn := fun _ => fun
  | [d] => { results := [.lit (.bool false)], args := [d] }
  | _ => none }
def FnExactPackTraceWrongFalsely : Prop := fnExactPackTraceRow.holds Try.pinned (OpenSpec.ofChange fnExactPackTraceWrong)

/-- 'laws.FnExactUnpackTrace': WHATEVER THE INPUT: true; the input reads as it did. -/
def fnExactUnpackTraceSpec : ChangeSpec := { name := "fnExactUnpackTrace", fn := fun _ => fun
  | [d] => { results := [.lit (.bool true)], args := [d] }
  | _ => none }
def fnExactUnpackTraceRow : OpenClaim := { program := "ytkfjjpphnohlaaa", sum := "959e9e19a6f7effe26d115ab91290ebbcbec37d09f7ea76adcce63a5cdd74340", func := "loop.example/g01231/laws.FnExactUnpackTrace", spec := "fnExactUnpackTrace", inPlace := ["math.Float64bits", "math.Float64frombits", "math.archMax", "math.RoundToEven"], unfollowed := true, recurses := true, named := ["encoding/binary.LittleEndian"], apart := false }
def FnExactUnpackTraceSaid : Prop := fnExactUnpackTraceRow.holds Try.pinned (OpenSpec.ofChange fnExactUnpackTraceSpec)

/-- ITS FALSE NEIGHBOUR: 'it returns false'. Refute it at one input. -/
def fnExactUnpackTraceWrong : ChangeSpec := { name := "fnExactUnpackTrace", fn := fun _ => fun
  | [d] => { results := [.lit (.bool false)], args := [d] }
  | _ => none }
def FnExactUnpackTraceWrongFalsely : Prop := fnExactUnpackTraceRow.holds Try.pinned (OpenSpec.ofChange fnExactUnpackTraceWrong)

/-- 'laws.FnExactRoundTrace': WHATEVER THE INPUT: true; the input reads as it did. -/
def fnExactRoundTraceSpec : ChangeSpec := { name := "fnExactRoundTrace", fn := fun _ => fun
  | [d] => { results := [.lit (.bool true)], args := [d] }
  | _ => none }
def fnExactRoundTraceRow : OpenClaim := { program := "ytkfjjpphnohlaaa", sum := "959e9e19a6f7effe26d115ab91290ebbcbec37d09f7ea76adcce63a5cdd74340", func := "loop.example/g01231/laws.FnExactRoundTrace", spec := "fnExactRoundTrace", inPlace := ["math.Float64bits", "math.Float64frombits", "math.archMax", "math.RoundToEven"], unfollowed := true, recurses := true, named := ["encoding/binary.LittleEndian"], apart := false }
def FnExactRoundTraceSaid : Prop := fnExactRoundTraceRow.holds Try.pinned (OpenSpec.ofChange fnExactRoundTraceSpec)

/-- ITS FALSE NEIGHBOUR: 'it returns false'. Refute it at one input. -/
def fnExactRoundTraceWrong : ChangeSpec := { name := "fnExactRoundTrace", fn := fun _ => fun
  | [d] => { results := [.lit (.bool false)], args := [d] }
  | _ => none }
def FnExactRoundTraceWrongFalsely : Prop := fnExactRoundTraceRow.holds Try.pinned (OpenSpec.ofChange fnExactRoundTraceWrong)

/- THE SECOND FORM. 'bulk': how many values and letters a reading holds, each counted each time it is reached (what is shared counts as often as it is met; a slice's spare places count too). A statement '..UptoSaid' is the law's where the arguments, and the package variables that the reading takes, are together of bulk at most 1048576: NARROWER than '..Said'. Prove '..Said' where nothing that the law and all that it calls make is longer than what came in: it says more and counts as full. Else prove '..UptoSaid'. A law counts once. -/
mutual
def uptoBulk {H : Type} : DataW H → Nat
  | .lit (.string bytes) => bytes.length + 1
  | .lit _ => 1
  | .nil => 1
  | .ptr d => uptoBulk d + 1
  | .slice elems spare => uptoBulkAll elems + uptoBulkAll spare + 1
  | .agg parts => uptoBulkAll parts + 1
  | .iface _ d => uptoBulk d + 1
  | .map entries => uptoBulkEntries entries + 1
  | .held _ => 1
def uptoBulkAll {H : Type} : List (DataW H) → Nat
  | [] => 0
  | d :: r => uptoBulk d + uptoBulkAll r
def uptoBulkEntries {H : Type} : List (Lit × DataW H) → Nat
  | [] => 0
  | x :: r => uptoBulkEntry x + uptoBulkEntries r
def uptoBulkEntry {H : Type} : Lit × DataW H → Nat
  | (.string bytes, d) => bytes.length + uptoBulk d + 1
  | (_, d) => uptoBulk d + 1
 end
def uptoSmall : (H : Type) → List (DataW H) → Bool := fun _ ds => decide (uptoBulkAll ds ≤ 1048576)
def OpenSpec.upto (s : _root_.Go.ChangeSpec) : _root_.Go.OpenSpec := { _root_.Go.OpenSpec.ofChange s with cond := some uptoSmall }

/-- 'laws.FnExactSameFrame', WHERE WHAT IT READS IS OF BULK AT MOST 1048576: true; the input reads as it did. -/
def fnExactSameFrameUptoRow : OpenClaim := { program := "ytkfjjpphnohlaaa", sum := "959e9e19a6f7effe26d115ab91290ebbcbec37d09f7ea76adcce63a5cdd74340", func := "loop.example/g01231/laws.FnExactSameFrame", spec := "fnExactSameFrame", inPlace := ["math.Float32bits"], unfollowed := true, recurses := true, apart := false, narrowed := true }
def FnExactSameFrameUptoSaid : Prop := fnExactSameFrameUptoRow.holds Try.pinned (OpenSpec.upto fnExactSameFrameSpec)

/-- 'laws.FnExactValidFrame', WHERE WHAT IT READS IS OF BULK AT MOST 1048576: true; the input reads as it did. -/
def fnExactValidFrameUptoRow : OpenClaim := { program := "ytkfjjpphnohlaaa", sum := "959e9e19a6f7effe26d115ab91290ebbcbec37d09f7ea76adcce63a5cdd74340", func := "loop.example/g01231/laws.FnExactValidFrame", spec := "fnExactValidFrame", inPlace := ["math.Float64bits", "math.Float64frombits"], unfollowed := true, recurses := true, apart := false, narrowed := true }
def FnExactValidFrameUptoSaid : Prop := fnExactValidFrameUptoRow.holds Try.pinned (OpenSpec.upto fnExactValidFrameSpec)

/-- 'laws.FnExactAreFrames', WHERE WHAT IT READS IS OF BULK AT MOST 1048576: true; the input reads as it did. -/
def fnExactAreFramesUptoRow : OpenClaim := { program := "ytkfjjpphnohlaaa", sum := "959e9e19a6f7effe26d115ab91290ebbcbec37d09f7ea76adcce63a5cdd74340", func := "loop.example/g01231/laws.FnExactAreFrames", spec := "fnExactAreFrames", inPlace := ["math.Float64bits", "math.Float64frombits"], unfollowed := true, recurses := true, apart := false, narrowed := true }
def FnExactAreFramesUptoSaid : Prop := fnExactAreFramesUptoRow.holds Try.pinned (OpenSpec.upto fnExactAreFramesSpec)

/-- 'laws.FnExactSplitFrame', WHERE WHAT IT READS IS OF BULK AT MOST 1048576: true; the input reads as it did. -/
def fnExactSplitFrameUptoRow : OpenClaim := { program := "ytkfjjpphnohlaaa", sum := "959e9e19a6f7effe26d115ab91290ebbcbec37d09f7ea76adcce63a5cdd74340", func := "loop.example/g01231/laws.FnExactSplitFrame", spec := "fnExactSplitFrame", inPlace := ["math.Float64bits", "math.Float64frombits"], unfollowed := true, recurses := true, apart := false, narrowed := true }
def FnExactSplitFrameUptoSaid : Prop := fnExactSplitFrameUptoRow.holds Try.pinned (OpenSpec.upto fnExactSplitFrameSpec)

/-- 'laws.FnExactJoinFrames', WHERE WHAT IT READS IS OF BULK AT MOST 1048576: true; the input reads as it did. -/
def fnExactJoinFramesUptoRow : OpenClaim := { program := "ytkfjjpphnohlaaa", sum := "959e9e19a6f7effe26d115ab91290ebbcbec37d09f7ea76adcce63a5cdd74340", func := "loop.example/g01231/laws.FnExactJoinFrames", spec := "fnExactJoinFrames", inPlace := ["math.Float64bits", "math.Float64frombits"], unfollowed := true, recurses := true, apart := false, narrowed := true }
def FnExactJoinFramesUptoSaid : Prop := fnExactJoinFramesUptoRow.holds Try.pinned (OpenSpec.upto fnExactJoinFramesSpec)

/-- 'laws.FnExactExponentOf', WHERE WHAT IT READS IS OF BULK AT MOST 1048576: true; the input reads as it did. -/
def fnExactExponentOfUptoRow : OpenClaim := { program := "ytkfjjpphnohlaaa", sum := "959e9e19a6f7effe26d115ab91290ebbcbec37d09f7ea76adcce63a5cdd74340", func := "loop.example/g01231/laws.FnExactExponentOf", spec := "fnExactExponentOf", inPlace := ["math.Float64bits", "math.Float64frombits", "math.archMax"], unfollowed := true, recurses := true, apart := false, narrowed := true }
def FnExactExponentOfUptoSaid : Prop := fnExactExponentOfUptoRow.holds Try.pinned (OpenSpec.upto fnExactExponentOfSpec)

/-- 'laws.FnExactLateFrames', WHERE WHAT IT READS IS OF BULK AT MOST 1048576: true; the input reads as it did. -/
def fnExactLateFramesUptoRow : OpenClaim := { program := "ytkfjjpphnohlaaa", sum := "959e9e19a6f7effe26d115ab91290ebbcbec37d09f7ea76adcce63a5cdd74340", func := "loop.example/g01231/laws.FnExactLateFrames", spec := "fnExactLateFrames", inPlace := ["math.Float64bits", "math.Float64frombits"], unfollowed := true, recurses := true, apart := false, narrowed := true }
def FnExactLateFramesUptoSaid : Prop := fnExactLateFramesUptoRow.holds Try.pinned (OpenSpec.upto fnExactLateFramesSpec)

/-- 'laws.FnExactPackBlock', WHERE WHAT IT READS IS OF BULK AT MOST 1048576: true; the input reads as it did. -/
def fnExactPackBlockUptoRow : OpenClaim := { program := "ytkfjjpphnohlaaa", sum := "959e9e19a6f7effe26d115ab91290ebbcbec37d09f7ea76adcce63a5cdd74340", func := "loop.example/g01231/laws.FnExactPackBlock", spec := "fnExactPackBlock", inPlace := ["math.Float64bits", "math.Float64frombits", "math.archMax", "math.RoundToEven"], unfollowed := true, recurses := true, named := ["encoding/binary.LittleEndian"], apart := false, narrowed := true }
def FnExactPackBlockUptoSaid : Prop := fnExactPackBlockUptoRow.holds Try.pinned (OpenSpec.upto fnExactPackBlockSpec)

/-- 'laws.FnExactUnpackBlock', WHERE WHAT IT READS IS OF BULK AT MOST 1048576: true; the input reads as it did. -/
def fnExactUnpackBlockUptoRow : OpenClaim := { program := "ytkfjjpphnohlaaa", sum := "959e9e19a6f7effe26d115ab91290ebbcbec37d09f7ea76adcce63a5cdd74340", func := "loop.example/g01231/laws.FnExactUnpackBlock", spec := "fnExactUnpackBlock", inPlace := ["math.Float64bits", "math.Float64frombits", "math.archMax", "math.RoundToEven"], unfollowed := true, recurses := true, named := ["encoding/binary.LittleEndian"], apart := false, narrowed := true }
def FnExactUnpackBlockUptoSaid : Prop := fnExactUnpackBlockUptoRow.holds Try.pinned (OpenSpec.upto fnExactUnpackBlockSpec)

/-- 'laws.FnExactPackTrace', WHERE WHAT IT READS IS OF BULK AT MOST 1048576: true; the input reads as it did. -/
def fnExactPackTraceUptoRow : OpenClaim := { program := "ytkfjjpphnohlaaa", sum := "959e9e19a6f7effe26d115ab91290ebbcbec37d09f7ea76adcce63a5cdd74340", func := "loop.example/g01231/laws.FnExactPackTrace", spec := "fnExactPackTrace", inPlace := ["math.Float64bits", "math.Float64frombits", "math.archMax", "math.RoundToEven"], unfollowed := true, recurses := true, named := ["encoding/binary.LittleEndian"], apart := false, narrowed := true }
def FnExactPackTraceUptoSaid : Prop := fnExactPackTraceUptoRow.holds Try.pinned (OpenSpec.upto fnExactPackTraceSpec)

/-- 'laws.FnExactUnpackTrace', WHERE WHAT IT READS IS OF BULK AT MOST 1048576: true; the input reads as it did. -/
def fnExactUnpackTraceUptoRow : OpenClaim := { program := "ytkfjjpphnohlaaa", sum := "959e9e19a6f7effe26d115ab91290ebbcbec37d09f7ea76adcce63a5cdd74340", func := "loop.example/g01231/laws.FnExactUnpackTrace", spec := "fnExactUnpackTrace", inPlace := ["math.Float64bits", "math.Float64frombits", "math.archMax", "math.RoundToEven"], unfollowed := true, recurses := true, named := ["encoding/binary.LittleEndian"], apart := false, narrowed := true }
def FnExactUnpackTraceUptoSaid : Prop := fnExactUnpackTraceUptoRow.holds Try.pinned (OpenSpec.upto fnExactUnpackTraceSpec)

/-- 'laws.FnExactRoundTrace', WHERE WHAT IT READS IS OF BULK AT MOST 1048576: true; the input reads as it did. -/
def fnExactRoundTraceUptoRow : OpenClaim := { program := "ytkfjjpphnohlaaa", sum := "959e9e19a6f7effe26d115ab91290ebbcbec37d09f7ea76adcce63a5cdd74340", func := "loop.example/g01231/laws.FnExactRoundTrace", spec := "fnExactRoundTrace", inPlace := ["math.Float64bits", "math.Float64frombits", "math.archMax", "math.RoundToEven"], unfollowed := true, recurses := true, named := ["encoding/binary.LittleEndian"], apart := false, narrowed := true }
def FnExactRoundTraceUptoSaid : Prop := fnExactRoundTraceUptoRow.holds Try.pinned (OpenSpec.upto fnExactRoundTraceSpec)

end Rows
end Go.Proofs.Ytkfjjpphnohlaaa
