/-
  No cell of these rows narrows 'for every input' (looked for: loops, veiled, ifaces, maps, wideKeys, modest, calm, conditions, laid).
  DERIVED. THE GIVEN ROWS OF THIS SEAT. 5 by the template 'for every input the law returns true; each argument reads behind the call as it read before'; 0 by the template 'total and deterministic' (their statements: YtnikglngipbahaaTotals.lean).
  GIVEN WITH THE SEED: the statements are not yours to turn. If you find one false, say at which input.
  Laid BY PROGRAM, IN A SANDBOX (cutbox-rows.mjs): the forced cells as the released guide's own fill.sh prints them over the translation b410aeb76bc7f67e… (all of the seat's roots in one cut). By AI agents, Wed Nov 11 2026. No macro, syntax, notation, axiom, sorry.
-/
import Derived.Test.YtnikglngipbahaaChecked
import GoSem.Claim
import GoSem.ClaimJoined
import GoSem.ClaimMapViews
import Derived.JoinedTies
import Derived.KernelRfl
namespace Go.Proofs.Ytnikglngipbahaa
/- THE CELL 'sum', in the pinned program and in every row, IS THE sha256 OF THE DUMP (.gsa) THAT YtnikglngipbahaaProg.lean LOADS. Nothing in Lean hashes anything: it is a label: what it is worth is what the hold of that sum in a sandbox is worth. -/
noncomputable def Try.pinned : Pinned := { name := "ytnikglngipbahaa", sum := "b410aeb76bc7f67e6e165cd3bec3f64d5b4bd906d99c16a71728a938de2071b7", checked := Try.checked }
namespace Rows
def none {H : Type} : Left H := { results := [], args := [] }

/-- 'laws.FnExactJoinFrames': WHATEVER THE INPUT: true; the input reads as it did. -/
def fnExactJoinFramesSpec : ChangeSpec := { name := "fnExactJoinFrames", fn := fun _ => fun
  | [d1, d2] => { results := [.lit (.bool true)], args := [d1, d2] }
  | _ => none }
def fnExactJoinFramesRow : OpenClaim := { program := "ytnikglngipbahaa", sum := "b410aeb76bc7f67e6e165cd3bec3f64d5b4bd906d99c16a71728a938de2071b7", func := "loop.example/g01231/laws.FnExactJoinFrames", spec := "fnExactJoinFrames", inPlace := ["math.Float64bits", "math.Float64frombits"], unfollowed := true, recurses := true, apart := false }
def FnExactJoinFramesSaid : Prop := fnExactJoinFramesRow.holds Try.pinned (OpenSpec.ofChange fnExactJoinFramesSpec)

/-- ITS FALSE NEIGHBOUR: 'it returns false'. Refute it at one input. -/
def fnExactJoinFramesWrong : ChangeSpec := { name := "fnExactJoinFrames", fn := fun _ => fun
  | [d1, d2] => { results := [.lit (.bool false)], args := [d1, d2] }
  | _ => none }
def FnExactJoinFramesWrongFalsely : Prop := fnExactJoinFramesRow.holds Try.pinned (OpenSpec.ofChange fnExactJoinFramesWrong)

/-- 'laws.FnExactLateFrames': WHATEVER THE INPUT: true; the input reads as it did. -/
def fnExactLateFramesSpec : ChangeSpec := { name := "fnExactLateFrames", fn := fun _ => fun
  | [d] => { results := [.lit (.bool true)], args := [d] }
  | _ => none }
def fnExactLateFramesRow : OpenClaim := { program := "ytnikglngipbahaa", sum := "b410aeb76bc7f67e6e165cd3bec3f64d5b4bd906d99c16a71728a938de2071b7", func := "loop.example/g01231/laws.FnExactLateFrames", spec := "fnExactLateFrames", inPlace := ["math.Float64bits", "math.Float64frombits"], unfollowed := true, recurses := true, apart := false }
def FnExactLateFramesSaid : Prop := fnExactLateFramesRow.holds Try.pinned (OpenSpec.ofChange fnExactLateFramesSpec)

/-- ITS FALSE NEIGHBOUR: 'it returns false'. Refute it at one input. -/
def fnExactLateFramesWrong : ChangeSpec := { name := "fnExactLateFrames", fn := fun _ => fun
  | [d] => { results := [.lit (.bool false)], args := [d] }
  | _ => none }
def FnExactLateFramesWrongFalsely : Prop := fnExactLateFramesRow.holds Try.pinned (OpenSpec.ofChange fnExactLateFramesWrong)

/-- 'laws.FnExactSortFrames': WHATEVER THE INPUT: true; the input reads as it did. -/
def fnExactSortFramesSpec : ChangeSpec := { name := "fnExactSortFrames", fn := fun _ => fun
  | [d] => { results := [.lit (.bool true)], args := [d] }
  | _ => none }
def fnExactSortFramesRow : OpenClaim := { program := "ytnikglngipbahaa", sum := "b410aeb76bc7f67e6e165cd3bec3f64d5b4bd906d99c16a71728a938de2071b7", func := "loop.example/g01231/laws.FnExactSortFrames", spec := "fnExactSortFrames", inPlace := ["math.Float64bits", "math.Float64frombits"], unfollowed := true, recurses := true, apart := false }
def FnExactSortFramesSaid : Prop := fnExactSortFramesRow.holds Try.pinned (OpenSpec.ofChange fnExactSortFramesSpec)

/-- ITS FALSE NEIGHBOUR: 'it returns false'. Refute it at one input. -/
def fnExactSortFramesWrong : ChangeSpec := { name := "fnExactSortFrames", fn := fun _ => fun
  | [d] => { results := [.lit (.bool false)], args := [d] }
  | _ => none }
def FnExactSortFramesWrongFalsely : Prop := fnExactSortFramesRow.holds Try.pinned (OpenSpec.ofChange fnExactSortFramesWrong)

/-- 'laws.FnExactOfStation': WHATEVER THE INPUT: true; the input reads as it did. -/
def fnExactOfStationSpec : ChangeSpec := { name := "fnExactOfStation", fn := fun _ => fun
  | [d1, d2] => { results := [.lit (.bool true)], args := [d1, d2] }
  | _ => none }
def fnExactOfStationRow : OpenClaim := { program := "ytnikglngipbahaa", sum := "b410aeb76bc7f67e6e165cd3bec3f64d5b4bd906d99c16a71728a938de2071b7", func := "loop.example/g01231/laws.FnExactOfStation", spec := "fnExactOfStation", inPlace := ["math.Float64bits", "math.Float64frombits"], unfollowed := true, recurses := true, apart := false }
def FnExactOfStationSaid : Prop := fnExactOfStationRow.holds Try.pinned (OpenSpec.ofChange fnExactOfStationSpec)

/-- ITS FALSE NEIGHBOUR: 'it returns false'. Refute it at one input. -/
def fnExactOfStationWrong : ChangeSpec := { name := "fnExactOfStation", fn := fun _ => fun
  | [d1, d2] => { results := [.lit (.bool false)], args := [d1, d2] }
  | _ => none }
def FnExactOfStationWrongFalsely : Prop := fnExactOfStationRow.holds Try.pinned (OpenSpec.ofChange fnExactOfStationWrong)

/-- 'laws.FnExactSpanOf': WHATEVER THE INPUT: true; the input reads as it did. -/
def fnExactSpanOfSpec : ChangeSpec := { name := "fnExactSpanOf", fn := fun _ => fun
  | [d1, d2] => { results := [.lit (.bool true)], args := [d1, d2] }
  | _ => none }
def fnExactSpanOfRow : OpenClaim := { program := "ytnikglngipbahaa", sum := "b410aeb76bc7f67e6e165cd3bec3f64d5b4bd906d99c16a71728a938de2071b7", func := "loop.example/g01231/laws.FnExactSpanOf", spec := "fnExactSpanOf", inPlace := ["math.Float64bits", "math.Float64frombits"], unfollowed := true, recurses := true, apart := false }
def FnExactSpanOfSaid : Prop := fnExactSpanOfRow.holds Try.pinned (OpenSpec.ofChange fnExactSpanOfSpec)

/-- ITS FALSE NEIGHBOUR: 'it returns false'. Refute it at one input. -/
def fnExactSpanOfWrong : ChangeSpec := { name := "fnExactSpanOf", fn := fun _ => fun
  | [d1, d2] => { results := [.lit (.bool false)], args := [d1, d2] }
  | _ => none }
def FnExactSpanOfWrongFalsely : Prop := fnExactSpanOfRow.holds Try.pinned (OpenSpec.ofChange fnExactSpanOfWrong)

/- THE SECOND FORM. 'bulk': how many values and letters a reading holds, each counted each time it is reached (what is shared counts as often as it is met; a slice's spare places count too). A statement '..UptoSaid' is the law's where the arguments, and the package variables that the reading takes, are together of bulk at most 1048576: NARROWER than '..Said'. Prove '..Said' where nothing that the law and all that it calls make is longer than what came in: it says more and counts as full. Else prove '..UptoSaid'. A law counts once. -/
mutual
def uptoBulk {H : Type} : DataW H → Nat
  | .lit (.string bytes) => bytes.length + 1
  | .lit _ => 1
  | .nil => 1
  | .ptr d => uptoBulk d + 1
  | .slice elems spare => uptoBulkAll elems + uptoBulkAll spare + 1
  | .agg parts => uptoBulkAll parts + 1
  | .iface _ d => uptoBulk d + 1
  | .map entries => uptoBulkEntries entries + 1
  | .held _ => 1
def uptoBulkAll {H : Type} : List (DataW H) → Nat
  | [] => 0
  | d :: r => uptoBulk d + uptoBulkAll r
def uptoBulkEntries {H : Type} : List (Lit × DataW H) → Nat
  | [] => 0
  | x :: r => uptoBulkEntry x + uptoBulkEntries r
def uptoBulkEntry {H : Type} : Lit × DataW H → Nat
  | (.string bytes, d) => bytes.length + uptoBulk d + 1
  | (_, d) => uptoBulk d + 1
 end
def uptoSmall : (H : Type) → List (DataW H) → Bool := fun _ ds => decide (uptoBulkAll ds ≤ 1048576)
def OpenSpec.upto (s : _root_.Go.ChangeSpec) : _root_.Go.OpenSpec := { _root_.Go.OpenSpec.ofChange s with cond := some uptoSmall }

/-- 'laws.FnExactJoinFrames', WHERE WHAT IT READS IS OF BULK AT MOST 1048576: true; the input reads as it did. -/
def fnExactJoinFramesUptoRow : OpenClaim := { program := "ytnikglngipbahaa", sum := "b410aeb76bc7f67e6e165cd3bec3f64d5b4bd906d99c16a71728a938de2071b7", func := "loop.example/g01231/laws.FnExactJoinFrames", spec := "fnExactJoinFrames", inPlace := ["math.Float64bits", "math.Float64frombits"], unfollowed := true, recurses := true, apart := false, narrowed := true }
def FnExactJoinFramesUptoSaid : Prop := fnExactJoinFramesUptoRow.holds Try.pinned (OpenSpec.upto fnExactJoinFramesSpec)

/-- 'laws.FnExactLateFrames', WHERE WHAT IT READS IS OF BULK AT MOST 1048576: true; the input reads as it did. -/
def fnExactLateFramesUptoRow : OpenClaim := { program := "ytnikglngipbahaa", sum := "b410aeb76bc7f67e6e165cd3bec3f64d5b4bd906d99c16a71728a938de2071b7", func := "loop.example/g01231/laws.FnExactLateFrames", spec := "fnExactLateFrames", inPlace := ["math.Float64bits", "math.Float64frombits"], unfollowed := true, recurses := true, apart := false, narrowed := true }
def FnExactLateFramesUptoSaid : Prop := fnExactLateFramesUptoRow.holds Try.pinned (OpenSpec.upto fnExactLateFramesSpec)

/-- 'laws.FnExactSortFrames', WHERE WHAT IT READS IS OF BULK AT MOST 1048576: true; the input reads as it did. -/
def fnExactSortFramesUptoRow : OpenClaim := { program := "ytnikglngipbahaa", sum := "b410aeb76bc7f67e6e165cd3bec3f64d5b4bd906d99c16a71728a938de2071b7", func := "loop.example/g01231/laws.FnExactSortFrames", spec := "fnExactSortFrames", inPlace := ["math.Float64bits", "math.Float64frombits"], unfollowed := true, recurses := true, apart := false, narrowed := true }
def FnExactSortFramesUptoSaid : Prop := fnExactSortFramesUptoRow.holds Try.pinned (OpenSpec.upto fnExactSortFramesSpec)

/-- 'laws.FnExactOfStation', WHERE WHAT IT READS IS OF BULK AT MOST 1048576: true; the input reads as it did. -/
def fnExactOfStationUptoRow : OpenClaim := { program := "ytnikglngipbahaa", sum := "b410aeb76bc7f67e6e165cd3bec3f64d5b4bd906d99c16a71728a938de2071b7", func := "loop.example/g01231/laws.FnExactOfStation", spec := "fnExactOfStation", inPlace := ["math.Float64bits", "math.Float64frombits"], unfollowed := true, recurses := true, apart := false, narrowed := true }
def FnExactOfStationUptoSaid : Prop := fnExactOfStationUptoRow.holds Try.pinned (OpenSpec.upto fnExactOfStationSpec)

/-- 'laws.FnExactSpanOf', WHERE WHAT IT READS IS OF BULK AT MOST 1048576: true; the input reads as it did. -/
def fnExactSpanOfUptoRow : OpenClaim := { program := "ytnikglngipbahaa", sum := "b410aeb76bc7f67e6e165cd3bec3f64d5b4bd906d99c16a71728a938de2071b7", func := "loop.example/g01231/laws.FnExactSpanOf", spec := "fnExactSpanOf", inPlace := ["math.Float64bits", "math.Float64frombits"], unfollowed := true, recurses := true, apart := false, narrowed := true }
def FnExactSpanOfUptoSaid : Prop := fnExactSpanOfUptoRow.holds Try.pinned (OpenSpec.upto fnExactSpanOfSpec)

end Rows
end Go.Proofs.Ytnikglngipbahaa
