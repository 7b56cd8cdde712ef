/-
  No cell of these rows narrows 'for every input' (looked for: loops, veiled, ifaces, maps, wideKeys, modest, calm, conditions, laid).
  DERIVED. THE GIVEN ROWS OF THIS SEAT. 10 by the template 'for every input the law returns true; each argument reads behind the call as it read before'; 0 by the template 'total and deterministic' (their statements: YtimdimgihlojcaaTotals.lean).
  GIVEN WITH THE SEED: the statements are not yours to turn. If you find one false, say at which input.
  Laid BY PROGRAM, IN A SANDBOX (cutbox-rows.mjs): the forced cells as the released guide's own fill.sh prints them over the translation 98b1a033a02fc726… (all of the seat's roots in one cut). By AI agents, Wed Nov 11 2026. No macro, syntax, notation, axiom, sorry.
-/
import Derived.Test.YtimdimgihlojcaaChecked
import GoSem.Claim
import GoSem.ClaimJoined
import GoSem.ClaimMapViews
import Derived.JoinedTies
import Derived.KernelRfl
namespace Go.Proofs.Ytimdimgihlojcaa
/- THE CELL 'sum', in the pinned program and in every row, IS THE sha256 OF THE DUMP (.gsa) THAT YtimdimgihlojcaaProg.lean LOADS. Nothing in Lean hashes anything: it is a label: what it is worth is what the hold of that sum in a sandbox is worth. -/
noncomputable def Try.pinned : Pinned := { name := "ytimdimgihlojcaa", sum := "98b1a033a02fc726822a3edd39a6cc8e190ff20364e93605a7232b27c2543df7", checked := Try.checked }
namespace Rows
def none {H : Type} : Left H := { results := [], args := [] }

/-- 'laws.FnExactExponentOf': WHATEVER THE INPUT: true; the input reads as it did. -/
def fnExactExponentOfSpec : ChangeSpec := { name := "fnExactExponentOf", fn := fun _ => fun
  | [d] => { results := [.lit (.bool true)], args := [d] }
  | _ => none }
def fnExactExponentOfRow : OpenClaim := { program := "ytimdimgihlojcaa", sum := "98b1a033a02fc726822a3edd39a6cc8e190ff20364e93605a7232b27c2543df7", func := "loop.example/g01231/laws.FnExactExponentOf", spec := "fnExactExponentOf", inPlace := ["math.Float64bits", "math.Float64frombits", "math.archMax"], unfollowed := true, recurses := true, apart := false }
def FnExactExponentOfSaid : Prop := fnExactExponentOfRow.holds Try.pinned (OpenSpec.ofChange fnExactExponentOfSpec)

/-- ITS FALSE NEIGHBOUR: 'it returns false'. Refute it at one input. -/
def fnExactExponentOfWrong : ChangeSpec := { name := "fnExactExponentOf", fn := fun _ => fun
  | [d] => { results := [.lit (.bool false)], args := [d] }
  | _ => none }
def FnExactExponentOfWrongFalsely : Prop := fnExactExponentOfRow.holds Try.pinned (OpenSpec.ofChange fnExactExponentOfWrong)

/-- 'laws.FnExactPackBlock': WHATEVER THE INPUT: true; the input reads as it did. -/
def fnExactPackBlockSpec : ChangeSpec := { name := "fnExactPackBlock", fn := fun _ => fun
  | [d] => { results := [.lit (.bool true)], args := [d] }
  | _ => none }
def fnExactPackBlockRow : OpenClaim := { program := "ytimdimgihlojcaa", sum := "98b1a033a02fc726822a3edd39a6cc8e190ff20364e93605a7232b27c2543df7", func := "loop.example/g01231/laws.FnExactPackBlock", spec := "fnExactPackBlock", inPlace := ["math.Float64bits", "math.Float64frombits", "math.archMax", "math.RoundToEven"], unfollowed := true, recurses := true, named := ["encoding/binary.LittleEndian"], apart := false }
def FnExactPackBlockSaid : Prop := fnExactPackBlockRow.holds Try.pinned (OpenSpec.ofChange fnExactPackBlockSpec)

/-- ITS FALSE NEIGHBOUR: 'it returns false'. Refute it at one input. -/
def fnExactPackBlockWrong : ChangeSpec := { name := "fnExactPackBlock", fn := fun _ => fun
  | [d] => { results := [.lit (.bool false)], args := [d] }
  | _ => none }
def FnExactPackBlockWrongFalsely : Prop := fnExactPackBlockRow.holds Try.pinned (OpenSpec.ofChange fnExactPackBlockWrong)

/-- 'laws.FnExactUnpackBlock': WHATEVER THE INPUT: true; the input reads as it did. -/
def fnExactUnpackBlockSpec : ChangeSpec := { name := "fnExactUnpackBlock", fn := fun _ => fun
  | [d] => { results := [.lit (.bool true)], args := [d] }
  | _ => none }
def fnExactUnpackBlockRow : OpenClaim := { program := "ytimdimgihlojcaa", sum := "98b1a033a02fc726822a3edd39a6cc8e190ff20364e93605a7232b27c2543df7", func := "loop.example/g01231/laws.FnExactUnpackBlock", spec := "fnExactUnpackBlock", inPlace := ["math.Float64bits", "math.Float64frombits", "math.archMax", "math.RoundToEven"], unfollowed := true, recurses := true, named := ["encoding/binary.LittleEndian"], apart := false }
def FnExactUnpackBlockSaid : Prop := fnExactUnpackBlockRow.holds Try.pinned (OpenSpec.ofChange fnExactUnpackBlockSpec)

/-- ITS FALSE NEIGHBOUR: 'it returns false'. Refute it at one input. -/
def fnExactUnpackBlockWrong : ChangeSpec := { name := "fnExactUnpackBlock", fn := fun _ => fun
  | [d] => { results := [.lit (.bool false)], args := [d] }
  | _ => none }
def FnExactUnpackBlockWrongFalsely : Prop := fnExactUnpackBlockRow.holds Try.pinned (OpenSpec.ofChange fnExactUnpackBlockWrong)

/-- 'laws.FnExactPackTrace': WHATEVER THE INPUT: true; the input reads as it did. -/
def fnExactPackTraceSpec : ChangeSpec := { name := "fnExactPackTrace", fn := fun _ => fun
  | [d] => { results := [.lit (.bool true)], args := [d] }
  | _ => none }
def fnExactPackTraceRow : OpenClaim := { program := "ytimdimgihlojcaa", sum := "98b1a033a02fc726822a3edd39a6cc8e190ff20364e93605a7232b27c2543df7", func := "loop.example/g01231/laws.FnExactPackTrace", spec := "fnExactPackTrace", inPlace := ["math.Float64bits", "math.Float64frombits", "math.archMax", "math.RoundToEven"], unfollowed := true, recurses := true, named := ["encoding/binary.LittleEndian"], apart := false }
def FnExactPackTraceSaid : Prop := fnExactPackTraceRow.holds Try.pinned (OpenSpec.ofChange fnExactPackTraceSpec)

/-- ITS FALSE NEIGHBOUR: 'it returns false'. Refute it at one input. -/
def fnExactPackTraceWrong : ChangeSpec := { name := "fnExactPackTrace", fn := fun _ => fun
  | [d] => { results := [.lit (.bool false)], args := [d] }
  | _ => none }
def FnExactPackTraceWrongFalsely : Prop := fnExactPackTraceRow.holds Try.pinned (OpenSpec.ofChange fnExactPackTraceWrong)

/-- 'laws.FnExactUnpackTrace': WHATEVER THE INPUT: true; the input reads as it did. -/
def fnExactUnpackTraceSpec : ChangeSpec := { name := "fnExactUnpackTrace", fn := fun _ => fun
  | [d] => { results := [.lit (.bool true)], args := [d] }
  | _ => none }
def fnExactUnpackTraceRow : OpenClaim := { program := "ytimdimgihlojcaa", sum := "98b1a033a02fc726822a3edd39a6cc8e190ff20364e93605a7232b27c2543df7", func := "loop.example/g01231/laws.FnExactUnpackTrace", spec := "fnExactUnpackTrace", inPlace := ["math.Float64bits", "math.Float64frombits", "math.archMax", "math.RoundToEven"], unfollowed := true, recurses := true, named := ["encoding/binary.LittleEndian"], apart := false }
def FnExactUnpackTraceSaid : Prop := fnExactUnpackTraceRow.holds Try.pinned (OpenSpec.ofChange fnExactUnpackTraceSpec)

/-- ITS FALSE NEIGHBOUR: 'it returns false'. Refute it at one input. -/
def fnExactUnpackTraceWrong : ChangeSpec := { name := "fnExactUnpackTrace", fn := fun _ => fun
  | [d] => { results := [.lit (.bool false)], args := [d] }
  | _ => none }
def FnExactUnpackTraceWrongFalsely : Prop := fnExactUnpackTraceRow.holds Try.pinned (OpenSpec.ofChange fnExactUnpackTraceWrong)

/-- 'laws.FnExactRoundTrace': WHATEVER THE INPUT: true; the input reads as it did. -/
def fnExactRoundTraceSpec : ChangeSpec := { name := "fnExactRoundTrace", fn := fun _ => fun
  | [d] => { results := [.lit (.bool true)], args := [d] }
  | _ => none }
def fnExactRoundTraceRow : OpenClaim := { program := "ytimdimgihlojcaa", sum := "98b1a033a02fc726822a3edd39a6cc8e190ff20364e93605a7232b27c2543df7", func := "loop.example/g01231/laws.FnExactRoundTrace", spec := "fnExactRoundTrace", inPlace := ["math.Float64bits", "math.Float64frombits", "math.archMax", "math.RoundToEven"], unfollowed := true, recurses := true, named := ["encoding/binary.LittleEndian"], apart := false }
def FnExactRoundTraceSaid : Prop := fnExactRoundTraceRow.holds Try.pinned (OpenSpec.ofChange fnExactRoundTraceSpec)

/-- ITS FALSE NEIGHBOUR: 'it returns false'. Refute it at one input. -/
def fnExactRoundTraceWrong : ChangeSpec := { name := "fnExactRoundTrace", fn := fun _ => fun
  | [d] => { results := [.lit (.bool false)], args := [d] }
  | _ => none }
def FnExactRoundTraceWrongFalsely : Prop := fnExactRoundTraceRow.holds Try.pinned (OpenSpec.ofChange fnExactRoundTraceWrong)

/-- 'laws.FnExactWorstRound': WHATEVER THE INPUT: true; the input reads as it did. -/
def fnExactWorstRoundSpec : ChangeSpec := { name := "fnExactWorstRound", fn := fun _ => fun
  | [d] => { results := [.lit (.bool true)], args := [d] }
  | _ => none }
def fnExactWorstRoundRow : OpenClaim := { program := "ytimdimgihlojcaa", sum := "98b1a033a02fc726822a3edd39a6cc8e190ff20364e93605a7232b27c2543df7", func := "loop.example/g01231/laws.FnExactWorstRound", spec := "fnExactWorstRound", inPlace := ["math.Float64bits", "math.Float64frombits", "math.archMax", "math.RoundToEven"], unfollowed := true, recurses := true, named := ["encoding/binary.LittleEndian"], apart := false }
def FnExactWorstRoundSaid : Prop := fnExactWorstRoundRow.holds Try.pinned (OpenSpec.ofChange fnExactWorstRoundSpec)

/-- ITS FALSE NEIGHBOUR: 'it returns false'. Refute it at one input. -/
def fnExactWorstRoundWrong : ChangeSpec := { name := "fnExactWorstRound", fn := fun _ => fun
  | [d] => { results := [.lit (.bool false)], args := [d] }
  | _ => none }
def FnExactWorstRoundWrongFalsely : Prop := fnExactWorstRoundRow.holds Try.pinned (OpenSpec.ofChange fnExactWorstRoundWrong)

/-- 'laws.FnExactStoreFrame': WHATEVER THE INPUT: true; the input reads as it did. -/
def fnExactStoreFrameSpec : ChangeSpec := { name := "fnExactStoreFrame", fn := fun _ => fun
  | [d] => { results := [.lit (.bool true)], args := [d] }
  | _ => none }
def fnExactStoreFrameRow : OpenClaim := { program := "ytimdimgihlojcaa", sum := "98b1a033a02fc726822a3edd39a6cc8e190ff20364e93605a7232b27c2543df7", func := "loop.example/g01231/laws.FnExactStoreFrame", spec := "fnExactStoreFrame", inPlace := ["math.Float64bits", "math.Float64frombits", "math.archMax", "math.RoundToEven"], unfollowed := true, recurses := true, named := ["encoding/binary.LittleEndian"], apart := false }
def FnExactStoreFrameSaid : Prop := fnExactStoreFrameRow.holds Try.pinned (OpenSpec.ofChange fnExactStoreFrameSpec)

/-- ITS FALSE NEIGHBOUR: 'it returns false'. Refute it at one input. -/
def fnExactStoreFrameWrong : ChangeSpec := { name := "fnExactStoreFrame", fn := fun _ => fun
  | [d] => { results := [.lit (.bool false)], args := [d] }
  | _ => none }
def FnExactStoreFrameWrongFalsely : Prop := fnExactStoreFrameRow.holds Try.pinned (OpenSpec.ofChange fnExactStoreFrameWrong)

/-- 'laws.FnExactStoreFrames': WHATEVER THE INPUT: true; the input reads as it did. -/
def fnExactStoreFramesSpec : ChangeSpec := { name := "fnExactStoreFrames", fn := fun _ => fun
  | [d] => { results := [.lit (.bool true)], args := [d] }
  | _ => none }
def fnExactStoreFramesRow : OpenClaim := { program := "ytimdimgihlojcaa", sum := "98b1a033a02fc726822a3edd39a6cc8e190ff20364e93605a7232b27c2543df7", func := "loop.example/g01231/laws.FnExactStoreFrames", spec := "fnExactStoreFrames", inPlace := ["math.Float64bits", "math.Float64frombits", "math.archMax", "math.RoundToEven"], unfollowed := true, recurses := true, named := ["encoding/binary.LittleEndian"], apart := false }
def FnExactStoreFramesSaid : Prop := fnExactStoreFramesRow.holds Try.pinned (OpenSpec.ofChange fnExactStoreFramesSpec)

/-- ITS FALSE NEIGHBOUR: 'it returns false'. Refute it at one input. -/
def fnExactStoreFramesWrong : ChangeSpec := { name := "fnExactStoreFrames", fn := fun _ => fun
  | [d] => { results := [.lit (.bool false)], args := [d] }
  | _ => none }
def FnExactStoreFramesWrongFalsely : Prop := fnExactStoreFramesRow.holds Try.pinned (OpenSpec.ofChange fnExactStoreFramesWrong)

/-- 'laws.FnExactLoadFrame': WHATEVER THE INPUT: true; the input reads as it did. -/
def fnExactLoadFrameSpec : ChangeSpec := { name := "fnExactLoadFrame", fn := fun _ => fun
  | [d] => { results := [.lit (.bool true)], args := [d] }
  | _ => none }
def fnExactLoadFrameRow : OpenClaim := { program := "ytimdimgihlojcaa", sum := "98b1a033a02fc726822a3edd39a6cc8e190ff20364e93605a7232b27c2543df7", func := "loop.example/g01231/laws.FnExactLoadFrame", spec := "fnExactLoadFrame", inPlace := ["math.Float64bits", "math.Float64frombits", "math.archMax", "math.RoundToEven"], unfollowed := true, recurses := true, named := ["encoding/binary.LittleEndian"], apart := false }
def FnExactLoadFrameSaid : Prop := fnExactLoadFrameRow.holds Try.pinned (OpenSpec.ofChange fnExactLoadFrameSpec)

/-- ITS FALSE NEIGHBOUR: 'it returns false'. Refute it at one input. -/
def fnExactLoadFrameWrong : ChangeSpec := { name := "fnExactLoadFrame", fn := fun _ => fun
  | [d] => { results := [.lit (.bool false)], args := [d] }
  | _ => none }
def FnExactLoadFrameWrongFalsely : Prop := fnExactLoadFrameRow.holds Try.pinned (OpenSpec.ofChange fnExactLoadFrameWrong)

/- THE SECOND FORM. 'bulk': how many values and letters a reading holds, each counted each time it is reached (what is shared counts as often as it is met; a slice's spare places count too). A statement '..UptoSaid' is the law's where the arguments, and the package variables that the reading takes, are together of bulk at most 1048576: NARROWER than '..Said'. Prove '..Said' where nothing that the law and all that it calls make is longer than what came in: it says more and counts as full. Else prove '..UptoSaid'. A law counts once. -/
mutual
def uptoBulk {H : Type} : DataW H → Nat
  | .lit (.string bytes) => bytes.length + 1
  | .lit _ => 1
  | .nil => 1
  | .ptr d => uptoBulk d + 1
  | .slice elems spare => uptoBulkAll elems + uptoBulkAll spare + 1
  | .agg parts => uptoBulkAll parts + 1
  | .iface _ d => uptoBulk d + 1
  | .map entries => uptoBulkEntries entries + 1
  | .held _ => 1
def uptoBulkAll {H : Type} : List (DataW H) → Nat
  | [] => 0
  | d :: r => uptoBulk d + uptoBulkAll r
def uptoBulkEntries {H : Type} : List (Lit × DataW H) → Nat
  | [] => 0
  | x :: r => uptoBulkEntry x + uptoBulkEntries r
def uptoBulkEntry {H : Type} : Lit × DataW H → Nat
  | (.string bytes, d) => bytes.length + uptoBulk d + 1
  | (_, d) => uptoBulk d + 1
 end
def uptoSmall : (H : Type) → List (DataW H) → Bool := fun _ ds => decide (uptoBulkAll ds ≤ 1048576)
def OpenSpec.upto (s : _root_.Go.ChangeSpec) : _root_.Go.OpenSpec := { _root_.Go.OpenSpec.ofChange s with cond := some uptoSmall }

/-- 'laws.FnExactExponentOf', WHERE WHAT IT READS IS OF BULK AT MOST 1048576: true; the input reads as it did. -/
def fnExactExponentOfUptoRow : OpenClaim := { program := "ytimdimgihlojcaa", sum := "98b1a033a02fc726822a3edd39a6cc8e190ff20364e93605a7232b27c2543df7", func := "loop.example/g01231/laws.FnExactExponentOf", spec := "fnExactExponentOf", inPlace := ["math.Float64bits", "math.Float64frombits", "math.archMax"], unfollowed := true, recurses := true, apart := false, narrowed := true }
def FnExactExponentOfUptoSaid : Prop := fnExactExponentOfUptoRow.holds Try.pinned (OpenSpec.upto fnExactExponentOfSpec)

/-- 'laws.FnExactPackBlock', WHERE WHAT IT READS IS OF BULK AT MOST 1048576: true; the input reads as it did. -/
def fnExactPackBlockUptoRow : OpenClaim := { program := "ytimdimgihlojcaa", sum := "98b1a033a02fc726822a3edd39a6cc8e190ff20364e93605a7232b27c2543df7", func := "loop.example/g01231/laws.FnExactPackBlock", spec := "fnExactPackBlock", inPlace := ["math.Float64bits", "math.Float64frombits", "math.archMax", "math.RoundToEven"], unfollowed := true, recurses := true, named := ["encoding/binary.LittleEndian"], apart := false, narrowed := true }
def FnExactPackBlockUptoSaid : Prop := fnExactPackBlockUptoRow.holds Try.pinned (OpenSpec.upto fnExactPackBlockSpec)

/-- 'laws.FnExactUnpackBlock', WHERE WHAT IT READS IS OF BULK AT MOST 1048576: true; the input reads as it did. -/
def fnExactUnpackBlockUptoRow : OpenClaim := { program := "ytimdimgihlojcaa", sum := "98b1a033a02fc726822a3edd39a6cc8e190ff20364e93605a7232b27c2543df7", func := "loop.example/g01231/laws.FnExactUnpackBlock", spec := "fnExactUnpackBlock", inPlace := ["math.Float64bits", "math.Float64frombits", "math.archMax", "math.RoundToEven"], unfollowed := true, recurses := true, named := ["encoding/binary.LittleEndian"], apart := false, narrowed := true }
def FnExactUnpackBlockUptoSaid : Prop := fnExactUnpackBlockUptoRow.holds Try.pinned (OpenSpec.upto fnExactUnpackBlockSpec)

/-- 'laws.FnExactPackTrace', WHERE WHAT IT READS IS OF BULK AT MOST 1048576: true; the input reads as it did. -/
def fnExactPackTraceUptoRow : OpenClaim := { program := "ytimdimgihlojcaa", sum := "98b1a033a02fc726822a3edd39a6cc8e190ff20364e93605a7232b27c2543df7", func := "loop.example/g01231/laws.FnExactPackTrace", spec := "fnExactPackTrace", inPlace := ["math.Float64bits", "math.Float64frombits", "math.archMax", "math.RoundToEven"], unfollowed := true, recurses := true, named := ["encoding/binary.LittleEndian"], apart := false, narrowed := true }
def FnExactPackTraceUptoSaid : Prop := fnExactPackTraceUptoRow.holds Try.pinned (OpenSpec.upto fnExactPackTraceSpec)

/-- 'laws.FnExactUnpackTrace', WHERE WHAT IT READS IS OF BULK AT MOST 1048576: true; the input reads as it did. -/
def fnExactUnpackTraceUptoRow : OpenClaim := { program := "ytimdimgihlojcaa", sum := "98b1a033a02fc726822a3edd39a6cc8e190ff20364e93605a7232b27c2543df7", func := "loop.example/g01231/laws.FnExactUnpackTrace", spec := "fnExactUnpackTrace", inPlace := ["math.Float64bits", "math.Float64frombits", "math.archMax", "math.RoundToEven"], unfollowed := true, recurses := true, named := ["encoding/binary.LittleEndian"], apart := false, narrowed := true }
def FnExactUnpackTraceUptoSaid : Prop := fnExactUnpackTraceUptoRow.holds Try.pinned (OpenSpec.upto fnExactUnpackTraceSpec)

/-- 'laws.FnExactRoundTrace', WHERE WHAT IT READS IS OF BULK AT MOST 1048576: true; the input reads as it did. -/
def fnExactRoundTraceUptoRow : OpenClaim := { program := "ytimdimgihlojcaa", sum := "98b1a033a02fc726822a3edd39a6cc8e190ff20364e93605a7232b27c2543df7", func := "loop.example/g01231/laws.FnExactRoundTrace", spec := "fnExactRoundTrace", inPlace := ["math.Float64bits", "math.Float64frombits", "math.archMax", "math.RoundToEven"], unfollowed := true, recurses := true, named := ["encoding/binary.LittleEndian"], apart := false, narrowed := true }
def FnExactRoundTraceUptoSaid : Prop := fnExactRoundTraceUptoRow.holds Try.pinned (OpenSpec.upto fnExactRoundTraceSpec)

/-- 'laws.FnExactWorstRound', WHERE WHAT IT READS IS OF BULK AT MOST 1048576: true; the input reads as it did. -/
def fnExactWorstRoundUptoRow : OpenClaim := { program := "ytimdimgihlojcaa", sum := "98b1a033a02fc726822a3edd39a6cc8e190ff20364e93605a7232b27c2543df7", func := "loop.example/g01231/laws.FnExactWorstRound", spec := "fnExactWorstRound", inPlace := ["math.Float64bits", "math.Float64frombits", "math.archMax", "math.RoundToEven"], unfollowed := true, recurses := true, named := ["encoding/binary.LittleEndian"], apart := false, narrowed := true }
def FnExactWorstRoundUptoSaid : Prop := fnExactWorstRoundUptoRow.holds Try.pinned (OpenSpec.upto fnExactWorstRoundSpec)

/-- 'laws.FnExactStoreFrame', WHERE WHAT IT READS IS OF BULK AT MOST 1048576: true; the input reads as it did. -/
def fnExactStoreFrameUptoRow : OpenClaim := { program := "ytimdimgihlojcaa", sum := "98b1a033a02fc726822a3edd39a6cc8e190ff20364e93605a7232b27c2543df7", func := "loop.example/g01231/laws.FnExactStoreFrame", spec := "fnExactStoreFrame", inPlace := ["math.Float64bits", "math.Float64frombits", "math.archMax", "math.RoundToEven"], unfollowed := true, recurses := true, named := ["encoding/binary.LittleEndian"], apart := false, narrowed := true }
def FnExactStoreFrameUptoSaid : Prop := fnExactStoreFrameUptoRow.holds Try.pinned (OpenSpec.upto fnExactStoreFrameSpec)

/-- 'laws.FnExactStoreFrames', WHERE WHAT IT READS IS OF BULK AT MOST 1048576: true; the input reads as it did. -/
def fnExactStoreFramesUptoRow : OpenClaim := { program := "ytimdimgihlojcaa", sum := "98b1a033a02fc726822a3edd39a6cc8e190ff20364e93605a7232b27c2543df7", func := "loop.example/g01231/laws.FnExactStoreFrames", spec := "fnExactStoreFrames", inPlace := ["math.Float64bits", "math.Float64frombits", "math.archMax", "math.RoundToEven"], unfollowed := true, recurses := true, named := ["encoding/binary.LittleEndian"], apart := false, narrowed := true }
def FnExactStoreFramesUptoSaid : Prop := fnExactStoreFramesUptoRow.holds Try.pinned (OpenSpec.upto fnExactStoreFramesSpec)

/-- 'laws.FnExactLoadFrame', WHERE WHAT IT READS IS OF BULK AT MOST 1048576: true; the input reads as it did. -/
def fnExactLoadFrameUptoRow : OpenClaim := { program := "ytimdimgihlojcaa", sum := "98b1a033a02fc726822a3edd39a6cc8e190ff20364e93605a7232b27c2543df7", func := "loop.example/g01231/laws.FnExactLoadFrame", spec := "fnExactLoadFrame", inPlace := ["math.Float64bits", "math.Float64frombits", "math.archMax", "math.RoundToEven"], unfollowed := true, recurses := true, named := ["encoding/binary.LittleEndian"], apart := false, narrowed := true }
def FnExactLoadFrameUptoSaid : Prop := fnExactLoadFrameUptoRow.holds Try.pinned (OpenSpec.upto fnExactLoadFrameSpec)

end Rows
end Go.Proofs.Ytimdimgihlojcaa
