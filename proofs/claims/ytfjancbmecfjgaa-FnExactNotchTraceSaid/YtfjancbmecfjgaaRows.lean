/-
  No cell of these rows narrows 'for every input' (looked for: loops, veiled, ifaces, maps, wideKeys, modest, calm, conditions, laid).
  DERIVED. THE GIVEN ROWS OF THIS SEAT. 5 by the template 'for every input the law returns true; each argument reads behind the call as it read before'; 0 by the template 'total and deterministic' (their statements: YtfjancbmecfjgaaTotals.lean).
  GIVEN WITH THE SEED: the statements are not yours to turn. If you find one false, say at which input.
  Laid BY PROGRAM, IN A SANDBOX (cutbox-rows.mjs): the forced cells as the released guide's own fill.sh prints them over the translation ac23efb10ff29c5d… (all of the seat's roots in one cut). By AI agents, Wed Nov 11 2026. No macro, syntax, notation, axiom, sorry.
-/
import Derived.Test.YtfjancbmecfjgaaChecked
import GoSem.Claim
import GoSem.ClaimJoined
import GoSem.ClaimMapViews
import Derived.JoinedTies
import Derived.KernelRfl
namespace Go.Proofs.Ytfjancbmecfjgaa
/- THE CELL 'sum', in the pinned program and in every row, IS THE sha256 OF THE DUMP (.gsa) THAT YtfjancbmecfjgaaProg.lean LOADS. Nothing in Lean hashes anything: it is a label: what it is worth is what the hold of that sum in a sandbox is worth. -/
noncomputable def Try.pinned : Pinned := { name := "ytfjancbmecfjgaa", sum := "ac23efb10ff29c5d35f2da81ef17f1f3224c506bde9a603e263d789e87a73281", checked := Try.checked }
namespace Rows
def none {H : Type} : Left H := { results := [], args := [] }

/-- 'laws.FnExactScanSpeeds': WHATEVER THE INPUT: true; the input reads as it did. -/
def fnExactScanSpeedsSpec : ChangeSpec := { name := "fnExactScanSpeeds", fn := fun _ => fun
  | [d1, d2, d3, d4] => { results := [.lit (.bool true)], args := [d1, d2, d3, d4] }
  | _ => none }
def fnExactScanSpeedsRow : OpenClaim := { program := "ytfjancbmecfjgaa", sum := "ac23efb10ff29c5d35f2da81ef17f1f3224c506bde9a603e263d789e87a73281", func := "loop.example/g01231/laws.FnExactScanSpeeds", spec := "fnExactScanSpeeds", inPlace := ["math.sqrt", "math.archFloor", "math.Float64bits", "math.Float64frombits", "math.archTrunc"], unfollowed := true, recurses := true, apart := false }
def FnExactScanSpeedsSaid : Prop := fnExactScanSpeedsRow.holds Try.pinned (OpenSpec.ofChange fnExactScanSpeedsSpec)

/-- ITS FALSE NEIGHBOUR: 'it returns false'. Refute it at one input. -/
def fnExactScanSpeedsWrong : ChangeSpec := { name := "fnExactScanSpeeds", fn := fun _ => fun
  | [d1, d2, d3, d4] => { results := [.lit (.bool false)], args := [d1, d2, d3, d4] }
  | _ => none }
def FnExactScanSpeedsWrongFalsely : Prop := fnExactScanSpeedsRow.holds Try.pinned (OpenSpec.ofChange fnExactScanSpeedsWrong)

/-- 'laws.FnExactBestSpeed': WHATEVER THE INPUT: true; the input reads as it did. -/
def fnExactBestSpeedSpec : ChangeSpec := { name := "fnExactBestSpeed", fn := fun _ => fun
  | [d1, d2, d3, d4] => { results := [.lit (.bool true)], args := [d1, d2, d3, d4] }
  | _ => none }
def fnExactBestSpeedRow : OpenClaim := { program := "ytfjancbmecfjgaa", sum := "ac23efb10ff29c5d35f2da81ef17f1f3224c506bde9a603e263d789e87a73281", func := "loop.example/g01231/laws.FnExactBestSpeed", spec := "fnExactBestSpeed", inPlace := ["math.sqrt", "math.archFloor", "math.Float64bits", "math.Float64frombits", "math.archTrunc"], unfollowed := true, recurses := true, apart := false }
def FnExactBestSpeedSaid : Prop := fnExactBestSpeedRow.holds Try.pinned (OpenSpec.ofChange fnExactBestSpeedSpec)

/-- ITS FALSE NEIGHBOUR: 'it returns false'. Refute it at one input. -/
def fnExactBestSpeedWrong : ChangeSpec := { name := "fnExactBestSpeed", fn := fun _ => fun
  | [d1, d2, d3, d4] => { results := [.lit (.bool false)], args := [d1, d2, d3, d4] }
  | _ => none }
def FnExactBestSpeedWrongFalsely : Prop := fnExactBestSpeedRow.holds Try.pinned (OpenSpec.ofChange fnExactBestSpeedWrong)

/-- 'laws.FnExactMuteStretch': WHATEVER THE INPUT: true; the input reads as it did. -/
def fnExactMuteStretchSpec : ChangeSpec := { name := "fnExactMuteStretch", fn := fun _ => fun
  | [d1, d2, d3] => { results := [.lit (.bool true)], args := [d1, d2, d3] }
  | _ => none }
def fnExactMuteStretchRow : OpenClaim := { program := "ytfjancbmecfjgaa", sum := "ac23efb10ff29c5d35f2da81ef17f1f3224c506bde9a603e263d789e87a73281", func := "loop.example/g01231/laws.FnExactMuteStretch", spec := "fnExactMuteStretch", inPlace := ["math.sqrt"], unfollowed := true, recurses := true, apart := false }
def FnExactMuteStretchSaid : Prop := fnExactMuteStretchRow.holds Try.pinned (OpenSpec.ofChange fnExactMuteStretchSpec)

/-- ITS FALSE NEIGHBOUR: 'it returns false'. Refute it at one input. -/
def fnExactMuteStretchWrong : ChangeSpec := { name := "fnExactMuteStretch", fn := fun _ => fun
  | [d1, d2, d3] => { results := [.lit (.bool false)], args := [d1, d2, d3] }
  | _ => none }
def FnExactMuteStretchWrongFalsely : Prop := fnExactMuteStretchRow.holds Try.pinned (OpenSpec.ofChange fnExactMuteStretchWrong)

/-- 'laws.FnExactMergeGathers': WHATEVER THE INPUT: true; the input reads as it did. -/
def fnExactMergeGathersSpec : ChangeSpec := { name := "fnExactMergeGathers", fn := fun _ => fun
  | [d1, d2] => { results := [.lit (.bool true)], args := [d1, d2] }
  | _ => none }
def fnExactMergeGathersRow : OpenClaim := { program := "ytfjancbmecfjgaa", sum := "ac23efb10ff29c5d35f2da81ef17f1f3224c506bde9a603e263d789e87a73281", func := "loop.example/g01231/laws.FnExactMergeGathers", spec := "fnExactMergeGathers", unfollowed := true, recurses := true, apart := false }
def FnExactMergeGathersSaid : Prop := fnExactMergeGathersRow.holds Try.pinned (OpenSpec.ofChange fnExactMergeGathersSpec)

/-- ITS FALSE NEIGHBOUR: 'it returns false'. Refute it at one input. -/
def fnExactMergeGathersWrong : ChangeSpec := { name := "fnExactMergeGathers", fn := fun _ => fun
  | [d1, d2] => { results := [.lit (.bool false)], args := [d1, d2] }
  | _ => none }
def FnExactMergeGathersWrongFalsely : Prop := fnExactMergeGathersRow.holds Try.pinned (OpenSpec.ofChange fnExactMergeGathersWrong)

/-- 'laws.FnExactNotchTrace': WHATEVER THE INPUT: true; the input reads as it did. -/
def fnExactNotchTraceSpec : ChangeSpec := { name := "fnExactNotchTrace", fn := fun _ => fun
  | [d1, d2] => { results := [.lit (.bool true)], args := [d1, d2] }
  | _ => none }
def fnExactNotchTraceRow : OpenClaim := { program := "ytfjancbmecfjgaa", sum := "ac23efb10ff29c5d35f2da81ef17f1f3224c506bde9a603e263d789e87a73281", func := "loop.example/g01231/laws.FnExactNotchTrace", spec := "fnExactNotchTrace", inPlace := ["math.Float64frombits", "math.Float64bits", "math.archTrunc"], apart := false }
def FnExactNotchTraceSaid : Prop := fnExactNotchTraceRow.holds Try.pinned (OpenSpec.ofChange fnExactNotchTraceSpec)

/-- ITS FALSE NEIGHBOUR: 'it returns false'. Refute it at one input. -/
def fnExactNotchTraceWrong : ChangeSpec := { name := "fnExactNotchTrace", fn := fun _ => fun
  | [d1, d2] => { results := [.lit (.bool false)], args := [d1, d2] }
  | _ => none }
def FnExactNotchTraceWrongFalsely : Prop := fnExactNotchTraceRow.holds Try.pinned (OpenSpec.ofChange fnExactNotchTraceWrong)

/- THE SECOND FORM. 'bulk': how many values and letters a reading holds, each counted each time it is reached (what is shared counts as often as it is met; a slice's spare places count too). A statement '..UptoSaid' is the law's where the arguments, and the package variables that the reading takes, are together of bulk at most 1048576: NARROWER than '..Said'. Prove '..Said' where nothing that the law and all that it calls make is longer than what came in: it says more and counts as full. Else prove '..UptoSaid'. A law counts once. -/
mutual
def uptoBulk {H : Type} : DataW H → Nat
  | .lit (.string bytes) => bytes.length + 1
  | .lit _ => 1
  | .nil => 1
  | .ptr d => uptoBulk d + 1
  | .slice elems spare => uptoBulkAll elems + uptoBulkAll spare + 1
  | .agg parts => uptoBulkAll parts + 1
  | .iface _ d => uptoBulk d + 1
  | .map entries => uptoBulkEntries entries + 1
  | .held _ => 1
def uptoBulkAll {H : Type} : List (DataW H) → Nat
  | [] => 0
  | d :: r => uptoBulk d + uptoBulkAll r
def uptoBulkEntries {H : Type} : List (Lit × DataW H) → Nat
  | [] => 0
  | x :: r => uptoBulkEntry x + uptoBulkEntries r
def uptoBulkEntry {H : Type} : Lit × DataW H → Nat
  | (.string bytes, d) => bytes.length + uptoBulk d + 1
  | (_, d) => uptoBulk d + 1
 end
def uptoSmall : (H : Type) → List (DataW H) → Bool := fun _ ds => decide (uptoBulkAll ds ≤ 1048576)
def OpenSpec.upto (s : _root_.Go.ChangeSpec) : _root_.Go.OpenSpec := { _root_.Go.OpenSpec.ofChange s with cond := some uptoSmall }

/-- 'laws.FnExactScanSpeeds', WHERE WHAT IT READS IS OF BULK AT MOST 1048576: true; the input reads as it did. -/
def fnExactScanSpeedsUptoRow : OpenClaim := { program := "ytfjancbmecfjgaa", sum := "ac23efb10ff29c5d35f2da81ef17f1f3224c506bde9a603e263d789e87a73281", func := "loop.example/g01231/laws.FnExactScanSpeeds", spec := "fnExactScanSpeeds", inPlace := ["math.sqrt", "math.archFloor", "math.Float64bits", "math.Float64frombits", "math.archTrunc"], unfollowed := true, recurses := true, apart := false, narrowed := true }
def FnExactScanSpeedsUptoSaid : Prop := fnExactScanSpeedsUptoRow.holds Try.pinned (OpenSpec.upto fnExactScanSpeedsSpec)

/-- 'laws.FnExactBestSpeed', WHERE WHAT IT READS IS OF BULK AT MOST 1048576: true; the input reads as it did. -/
def fnExactBestSpeedUptoRow : OpenClaim := { program := "ytfjancbmecfjgaa", sum := "ac23efb10ff29c5d35f2da81ef17f1f3224c506bde9a603e263d789e87a73281", func := "loop.example/g01231/laws.FnExactBestSpeed", spec := "fnExactBestSpeed", inPlace := ["math.sqrt", "math.archFloor", "math.Float64bits", "math.Float64frombits", "math.archTrunc"], unfollowed := true, recurses := true, apart := false, narrowed := true }
def FnExactBestSpeedUptoSaid : Prop := fnExactBestSpeedUptoRow.holds Try.pinned (OpenSpec.upto fnExactBestSpeedSpec)

/-- 'laws.FnExactMuteStretch', WHERE WHAT IT READS IS OF BULK AT MOST 1048576: true; the input reads as it did. -/
def fnExactMuteStretchUptoRow : OpenClaim := { program := "ytfjancbmecfjgaa", sum := "ac23efb10ff29c5d35f2da81ef17f1f3224c506bde9a603e263d789e87a73281", func := "loop.example/g01231/laws.FnExactMuteStretch", spec := "fnExactMuteStretch", inPlace := ["math.sqrt"], unfollowed := true, recurses := true, apart := false, narrowed := true }
def FnExactMuteStretchUptoSaid : Prop := fnExactMuteStretchUptoRow.holds Try.pinned (OpenSpec.upto fnExactMuteStretchSpec)

/-- 'laws.FnExactMergeGathers', WHERE WHAT IT READS IS OF BULK AT MOST 1048576: true; the input reads as it did. -/
def fnExactMergeGathersUptoRow : OpenClaim := { program := "ytfjancbmecfjgaa", sum := "ac23efb10ff29c5d35f2da81ef17f1f3224c506bde9a603e263d789e87a73281", func := "loop.example/g01231/laws.FnExactMergeGathers", spec := "fnExactMergeGathers", unfollowed := true, recurses := true, apart := false, narrowed := true }
def FnExactMergeGathersUptoSaid : Prop := fnExactMergeGathersUptoRow.holds Try.pinned (OpenSpec.upto fnExactMergeGathersSpec)

/-- 'laws.FnExactNotchTrace', WHERE WHAT IT READS IS OF BULK AT MOST 1048576: true; the input reads as it did. -/
def fnExactNotchTraceUptoRow : OpenClaim := { program := "ytfjancbmecfjgaa", sum := "ac23efb10ff29c5d35f2da81ef17f1f3224c506bde9a603e263d789e87a73281", func := "loop.example/g01231/laws.FnExactNotchTrace", spec := "fnExactNotchTrace", inPlace := ["math.Float64frombits", "math.Float64bits", "math.archTrunc"], apart := false, narrowed := true }
def FnExactNotchTraceUptoSaid : Prop := fnExactNotchTraceUptoRow.holds Try.pinned (OpenSpec.upto fnExactNotchTraceSpec)

end Rows
end Go.Proofs.Ytfjancbmecfjgaa
