/-
  No cell of these rows narrows 'for every input' (looked for: loops, veiled, ifaces, maps, wideKeys, modest, calm, conditions, laid).
  DERIVED. THE GIVEN ROWS OF THIS SEAT. 12 by the template 'for every input the law returns true; each argument reads behind the call as it read before'; 0 by the template 'total and deterministic' (their statements: YtjpbgldnnfcmaaaTotals.lean).
  GIVEN WITH THE SEED: the statements are not yours to turn. If you find one false, say at which input.
  Laid BY PROGRAM, IN A SANDBOX (cutbox-rows.mjs): the forced cells as the released guide's own fill.sh prints them over the translation f4606cf41a2847b5… (all of the seat's roots in one cut). By AI agents, Wed Nov 11 2026. No macro, syntax, notation, axiom, sorry.
-/
import Derived.Test.YtjpbgldnnfcmaaaChecked
import GoSem.Claim
import GoSem.ClaimJoined
import GoSem.ClaimMapViews
import Derived.JoinedTies
import Derived.KernelRfl
namespace Go.Proofs.Ytjpbgldnnfcmaaa
/- THE CELL 'sum', in the pinned program and in every row, IS THE sha256 OF THE DUMP (.gsa) THAT YtjpbgldnnfcmaaaProg.lean LOADS. Nothing in Lean hashes anything: it is a label: what it is worth is what the hold of that sum in a sandbox is worth. -/
noncomputable def Try.pinned : Pinned := { name := "ytjpbgldnnfcmaaa", sum := "f4606cf41a2847b59aa7153b515cb24b71423318e2c461a632d8ccf5cb02d875", checked := Try.checked }
namespace Rows
def none {H : Type} : Left H := { results := [], args := [] }

/-- 'laws.FnExactValidSection': WHATEVER THE INPUT: true; the input reads as it did. -/
def fnExactValidSectionSpec : ChangeSpec := { name := "fnExactValidSection", fn := fun _ => fun
  | [d] => { results := [.lit (.bool true)], args := [d] }
  | _ => none }
def fnExactValidSectionRow : OpenClaim := { program := "ytjpbgldnnfcmaaa", sum := "f4606cf41a2847b59aa7153b515cb24b71423318e2c461a632d8ccf5cb02d875", func := "loop.example/g01231/laws.FnExactValidSection", spec := "fnExactValidSection", apart := false }
def FnExactValidSectionSaid : Prop := fnExactValidSectionRow.holds Try.pinned (OpenSpec.ofChange fnExactValidSectionSpec)

/-- ITS FALSE NEIGHBOUR: 'it returns false'. Refute it at one input. -/
def fnExactValidSectionWrong : ChangeSpec := { name := "fnExactValidSection", fn := fun _ => fun
  | [d] => { results := [.lit (.bool false)], args := [d] }
  | _ => none }
def FnExactValidSectionWrongFalsely : Prop := fnExactValidSectionRow.holds Try.pinned (OpenSpec.ofChange fnExactValidSectionWrong)

/-- 'laws.FnExactWhiteAuto': WHATEVER THE INPUT: true; the input reads as it did. -/
def fnExactWhiteAutoSpec : ChangeSpec := { name := "fnExactWhiteAuto", fn := fun _ => fun
  | [d1, d2] => { results := [.lit (.bool true)], args := [d1, d2] }
  | _ => none }
def fnExactWhiteAutoRow : OpenClaim := { program := "ytjpbgldnnfcmaaa", sum := "f4606cf41a2847b59aa7153b515cb24b71423318e2c461a632d8ccf5cb02d875", func := "loop.example/g01231/laws.FnExactWhiteAuto", spec := "fnExactWhiteAuto", apart := false }
def FnExactWhiteAutoSaid : Prop := fnExactWhiteAutoRow.holds Try.pinned (OpenSpec.ofChange fnExactWhiteAutoSpec)

/-- ITS FALSE NEIGHBOUR: 'it returns false'. Refute it at one input. -/
def fnExactWhiteAutoWrong : ChangeSpec := { name := "fnExactWhiteAuto", fn := fun _ => fun
  | [d1, d2] => { results := [.lit (.bool false)], args := [d1, d2] }
  | _ => none }
def FnExactWhiteAutoWrongFalsely : Prop := fnExactWhiteAutoRow.holds Try.pinned (OpenSpec.ofChange fnExactWhiteAutoWrong)

/-- 'laws.FnExactFilterOfReflections': WHATEVER THE INPUT: true; the input reads as it did. -/
def fnExactFilterOfReflectionsSpec : ChangeSpec := { name := "fnExactFilterOfReflections", fn := fun _ => fun
  | [d] => { results := [.lit (.bool true)], args := [d] }
  | _ => none }
def fnExactFilterOfReflectionsRow : OpenClaim := { program := "ytjpbgldnnfcmaaa", sum := "f4606cf41a2847b59aa7153b515cb24b71423318e2c461a632d8ccf5cb02d875", func := "loop.example/g01231/laws.FnExactFilterOfReflections", spec := "fnExactFilterOfReflections", apart := false }
def FnExactFilterOfReflectionsSaid : Prop := fnExactFilterOfReflectionsRow.holds Try.pinned (OpenSpec.ofChange fnExactFilterOfReflectionsSpec)

/-- ITS FALSE NEIGHBOUR: 'it returns false'. Refute it at one input. -/
def fnExactFilterOfReflectionsWrong : ChangeSpec := { name := "fnExactFilterOfReflections", fn := fun _ => fun
  | [d] => { results := [.lit (.bool false)], args := [d] }
  | _ => none }
def FnExactFilterOfReflectionsWrongFalsely : Prop := fnExactFilterOfReflectionsRow.holds Try.pinned (OpenSpec.ofChange fnExactFilterOfReflectionsWrong)

/-- 'laws.FnExactBestShift': WHATEVER THE INPUT: true; the input reads as it did. -/
def fnExactBestShiftSpec : ChangeSpec := { name := "fnExactBestShift", fn := fun _ => fun
  | [d1, d2, d3] => { results := [.lit (.bool true)], args := [d1, d2, d3] }
  | _ => none }
def fnExactBestShiftRow : OpenClaim := { program := "ytjpbgldnnfcmaaa", sum := "f4606cf41a2847b59aa7153b515cb24b71423318e2c461a632d8ccf5cb02d875", func := "loop.example/g01231/laws.FnExactBestShift", spec := "fnExactBestShift", apart := false }
def FnExactBestShiftSaid : Prop := fnExactBestShiftRow.holds Try.pinned (OpenSpec.ofChange fnExactBestShiftSpec)

/-- ITS FALSE NEIGHBOUR: 'it returns false'. Refute it at one input. -/
def fnExactBestShiftWrong : ChangeSpec := { name := "fnExactBestShift", fn := fun _ => fun
  | [d1, d2, d3] => { results := [.lit (.bool false)], args := [d1, d2, d3] }
  | _ => none }
def FnExactBestShiftWrongFalsely : Prop := fnExactBestShiftRow.holds Try.pinned (OpenSpec.ofChange fnExactBestShiftWrong)

/-- 'laws.FnExactPickFirst': WHATEVER THE INPUT: true; the input reads as it did. -/
def fnExactPickFirstSpec : ChangeSpec := { name := "fnExactPickFirst", fn := fun _ => fun
  | [d1, d2, d3, d4] => { results := [.lit (.bool true)], args := [d1, d2, d3, d4] }
  | _ => none }
def fnExactPickFirstRow : OpenClaim := { program := "ytjpbgldnnfcmaaa", sum := "f4606cf41a2847b59aa7153b515cb24b71423318e2c461a632d8ccf5cb02d875", func := "loop.example/g01231/laws.FnExactPickFirst", spec := "fnExactPickFirst", inPlace := ["math.Float64bits", "math.Float64frombits"], apart := false }
def FnExactPickFirstSaid : Prop := fnExactPickFirstRow.holds Try.pinned (OpenSpec.ofChange fnExactPickFirstSpec)

/-- ITS FALSE NEIGHBOUR: 'it returns false'. Refute it at one input. -/
def fnExactPickFirstWrong : ChangeSpec := { name := "fnExactPickFirst", fn := fun _ => fun
  | [d1, d2, d3, d4] => { results := [.lit (.bool false)], args := [d1, d2, d3, d4] }
  | _ => none }
def FnExactPickFirstWrongFalsely : Prop := fnExactPickFirstRow.holds Try.pinned (OpenSpec.ofChange fnExactPickFirstWrong)

/-- 'laws.FnExactSameSection': WHATEVER THE INPUT: true; the input reads as it did. -/
def fnExactSameSectionSpec : ChangeSpec := { name := "fnExactSameSection", fn := fun _ => fun
  | [d1, d2] => { results := [.lit (.bool true)], args := [d1, d2] }
  | _ => none }
def fnExactSameSectionRow : OpenClaim := { program := "ytjpbgldnnfcmaaa", sum := "f4606cf41a2847b59aa7153b515cb24b71423318e2c461a632d8ccf5cb02d875", func := "loop.example/g01231/laws.FnExactSameSection", spec := "fnExactSameSection", inPlace := ["math.Float32bits"], unfollowed := true, recurses := true, apart := false }
def FnExactSameSectionSaid : Prop := fnExactSameSectionRow.holds Try.pinned (OpenSpec.ofChange fnExactSameSectionSpec)

/-- ITS FALSE NEIGHBOUR: 'it returns false'. Refute it at one input. -/
def fnExactSameSectionWrong : ChangeSpec := { name := "fnExactSameSection", fn := fun _ => fun
  | [d1, d2] => { results := [.lit (.bool false)], args := [d1, d2] }
  | _ => none }
def FnExactSameSectionWrongFalsely : Prop := fnExactSameSectionRow.holds Try.pinned (OpenSpec.ofChange fnExactSameSectionWrong)

/-- 'laws.FnExactSmoothTrace': WHATEVER THE INPUT: true; the input reads as it did. -/
def fnExactSmoothTraceSpec : ChangeSpec := { name := "fnExactSmoothTrace", fn := fun _ => fun
  | [d1, d2] => { results := [.lit (.bool true)], args := [d1, d2] }
  | _ => none }
def fnExactSmoothTraceRow : OpenClaim := { program := "ytjpbgldnnfcmaaa", sum := "f4606cf41a2847b59aa7153b515cb24b71423318e2c461a632d8ccf5cb02d875", func := "loop.example/g01231/laws.FnExactSmoothTrace", spec := "fnExactSmoothTrace", apart := false }
def FnExactSmoothTraceSaid : Prop := fnExactSmoothTraceRow.holds Try.pinned (OpenSpec.ofChange fnExactSmoothTraceSpec)

/-- ITS FALSE NEIGHBOUR: 'it returns false'. Refute it at one input. -/
def fnExactSmoothTraceWrong : ChangeSpec := { name := "fnExactSmoothTrace", fn := fun _ => fun
  | [d1, d2] => { results := [.lit (.bool false)], args := [d1, d2] }
  | _ => none }
def FnExactSmoothTraceWrongFalsely : Prop := fnExactSmoothTraceRow.holds Try.pinned (OpenSpec.ofChange fnExactSmoothTraceWrong)

/-- 'laws.FnExactRoughTrace': WHATEVER THE INPUT: true; the input reads as it did. -/
def fnExactRoughTraceSpec : ChangeSpec := { name := "fnExactRoughTrace", fn := fun _ => fun
  | [d1, d2] => { results := [.lit (.bool true)], args := [d1, d2] }
  | _ => none }
def fnExactRoughTraceRow : OpenClaim := { program := "ytjpbgldnnfcmaaa", sum := "f4606cf41a2847b59aa7153b515cb24b71423318e2c461a632d8ccf5cb02d875", func := "loop.example/g01231/laws.FnExactRoughTrace", spec := "fnExactRoughTrace", apart := false }
def FnExactRoughTraceSaid : Prop := fnExactRoughTraceRow.holds Try.pinned (OpenSpec.ofChange fnExactRoughTraceSpec)

/-- ITS FALSE NEIGHBOUR: 'it returns false'. Refute it at one input. -/
def fnExactRoughTraceWrong : ChangeSpec := { name := "fnExactRoughTrace", fn := fun _ => fun
  | [d1, d2] => { results := [.lit (.bool false)], args := [d1, d2] }
  | _ => none }
def FnExactRoughTraceWrongFalsely : Prop := fnExactRoughTraceRow.holds Try.pinned (OpenSpec.ofChange fnExactRoughTraceWrong)

/-- 'laws.FnExactStrongCell': WHATEVER THE INPUT: true; the input reads as it did. -/
def fnExactStrongCellSpec : ChangeSpec := { name := "fnExactStrongCell", fn := fun _ => fun
  | [d] => { results := [.lit (.bool true)], args := [d] }
  | _ => none }
def fnExactStrongCellRow : OpenClaim := { program := "ytjpbgldnnfcmaaa", sum := "f4606cf41a2847b59aa7153b515cb24b71423318e2c461a632d8ccf5cb02d875", func := "loop.example/g01231/laws.FnExactStrongCell", spec := "fnExactStrongCell", inPlace := ["math.Float64bits", "math.Float64frombits"], apart := false }
def FnExactStrongCellSaid : Prop := fnExactStrongCellRow.holds Try.pinned (OpenSpec.ofChange fnExactStrongCellSpec)

/-- ITS FALSE NEIGHBOUR: 'it returns false'. Refute it at one input. -/
def fnExactStrongCellWrong : ChangeSpec := { name := "fnExactStrongCell", fn := fun _ => fun
  | [d] => { results := [.lit (.bool false)], args := [d] }
  | _ => none }
def FnExactStrongCellWrongFalsely : Prop := fnExactStrongCellRow.holds Try.pinned (OpenSpec.ofChange fnExactStrongCellWrong)

/-- 'laws.FnExactPutValue': WHATEVER THE INPUT: true; the input reads as it did. -/
def fnExactPutValueSpec : ChangeSpec := { name := "fnExactPutValue", fn := fun _ => fun
  | [d1, d2, d3, d4] => { results := [.lit (.bool true)], args := [d1, d2, d3, d4] }
  | _ => none }
def fnExactPutValueRow : OpenClaim := { program := "ytjpbgldnnfcmaaa", sum := "f4606cf41a2847b59aa7153b515cb24b71423318e2c461a632d8ccf5cb02d875", func := "loop.example/g01231/laws.FnExactPutValue", spec := "fnExactPutValue", apart := false }
def FnExactPutValueSaid : Prop := fnExactPutValueRow.holds Try.pinned (OpenSpec.ofChange fnExactPutValueSpec)

/-- ITS FALSE NEIGHBOUR: 'it returns false'. Refute it at one input. -/
def fnExactPutValueWrong : ChangeSpec := { name := "fnExactPutValue", fn := fun _ => fun
  | [d1, d2, d3, d4] => { results := [.lit (.bool false)], args := [d1, d2, d3, d4] }
  | _ => none }
def FnExactPutValueWrongFalsely : Prop := fnExactPutValueRow.holds Try.pinned (OpenSpec.ofChange fnExactPutValueWrong)

/-- 'laws.FnExactFlatSection': WHATEVER THE INPUT: true; the input reads as it did. -/
def fnExactFlatSectionSpec : ChangeSpec := { name := "fnExactFlatSection", fn := fun _ => fun
  | [d1, d2, d3] => { results := [.lit (.bool true)], args := [d1, d2, d3] }
  | _ => none }
def fnExactFlatSectionRow : OpenClaim := { program := "ytjpbgldnnfcmaaa", sum := "f4606cf41a2847b59aa7153b515cb24b71423318e2c461a632d8ccf5cb02d875", func := "loop.example/g01231/laws.FnExactFlatSection", spec := "fnExactFlatSection", apart := false }
def FnExactFlatSectionSaid : Prop := fnExactFlatSectionRow.holds Try.pinned (OpenSpec.ofChange fnExactFlatSectionSpec)

/-- ITS FALSE NEIGHBOUR: 'it returns false'. Refute it at one input. -/
def fnExactFlatSectionWrong : ChangeSpec := { name := "fnExactFlatSection", fn := fun _ => fun
  | [d1, d2, d3] => { results := [.lit (.bool false)], args := [d1, d2, d3] }
  | _ => none }
def FnExactFlatSectionWrongFalsely : Prop := fnExactFlatSectionRow.holds Try.pinned (OpenSpec.ofChange fnExactFlatSectionWrong)

/-- 'laws.FnExactScaleSection': WHATEVER THE INPUT: true; the input reads as it did. -/
def fnExactScaleSectionSpec : ChangeSpec := { name := "fnExactScaleSection", fn := fun _ => fun
  | [d1, d2] => { results := [.lit (.bool true)], args := [d1, d2] }
  | _ => none }
def fnExactScaleSectionRow : OpenClaim := { program := "ytjpbgldnnfcmaaa", sum := "f4606cf41a2847b59aa7153b515cb24b71423318e2c461a632d8ccf5cb02d875", func := "loop.example/g01231/laws.FnExactScaleSection", spec := "fnExactScaleSection", apart := false }
def FnExactScaleSectionSaid : Prop := fnExactScaleSectionRow.holds Try.pinned (OpenSpec.ofChange fnExactScaleSectionSpec)

/-- ITS FALSE NEIGHBOUR: 'it returns false'. Refute it at one input. -/
def fnExactScaleSectionWrong : ChangeSpec := { name := "fnExactScaleSection", fn := fun _ => fun
  | [d1, d2] => { results := [.lit (.bool false)], args := [d1, d2] }
  | _ => none }
def FnExactScaleSectionWrongFalsely : Prop := fnExactScaleSectionRow.holds Try.pinned (OpenSpec.ofChange fnExactScaleSectionWrong)

/- THE SECOND FORM. 'bulk': how many values and letters a reading holds, each counted each time it is reached (what is shared counts as often as it is met; a slice's spare places count too). A statement '..UptoSaid' is the law's where the arguments, and the package variables that the reading takes, are together of bulk at most 1048576: NARROWER than '..Said'. Prove '..Said' where nothing that the law and all that it calls make is longer than what came in: it says more and counts as full. Else prove '..UptoSaid'. A law counts once. -/
mutual
def uptoBulk {H : Type} : DataW H → Nat
  | .lit (.string bytes) => bytes.length + 1
  | .lit _ => 1
  | .nil => 1
  | .ptr d => uptoBulk d + 1
  | .slice elems spare => uptoBulkAll elems + uptoBulkAll spare + 1
  | .agg parts => uptoBulkAll parts + 1
  | .iface _ d => uptoBulk d + 1
  | .map entries => uptoBulkEntries entries + 1
  | .held _ => 1
def uptoBulkAll {H : Type} : List (DataW H) → Nat
  | [] => 0
  | d :: r => uptoBulk d + uptoBulkAll r
def uptoBulkEntries {H : Type} : List (Lit × DataW H) → Nat
  | [] => 0
  | x :: r => uptoBulkEntry x + uptoBulkEntries r
def uptoBulkEntry {H : Type} : Lit × DataW H → Nat
  | (.string bytes, d) => bytes.length + uptoBulk d + 1
  | (_, d) => uptoBulk d + 1
 end
def uptoSmall : (H : Type) → List (DataW H) → Bool := fun _ ds => decide (uptoBulkAll ds ≤ 1048576)
def OpenSpec.upto (s : _root_.Go.ChangeSpec) : _root_.Go.OpenSpec := { _root_.Go.OpenSpec.ofChange s with cond := some uptoSmall }

/-- 'laws.FnExactValidSection', WHERE WHAT IT READS IS OF BULK AT MOST 1048576: true; the input reads as it did. -/
def fnExactValidSectionUptoRow : OpenClaim := { program := "ytjpbgldnnfcmaaa", sum := "f4606cf41a2847b59aa7153b515cb24b71423318e2c461a632d8ccf5cb02d875", func := "loop.example/g01231/laws.FnExactValidSection", spec := "fnExactValidSection", apart := false, narrowed := true }
def FnExactValidSectionUptoSaid : Prop := fnExactValidSectionUptoRow.holds Try.pinned (OpenSpec.upto fnExactValidSectionSpec)

/-- 'laws.FnExactWhiteAuto', WHERE WHAT IT READS IS OF BULK AT MOST 1048576: true; the input reads as it did. -/
def fnExactWhiteAutoUptoRow : OpenClaim := { program := "ytjpbgldnnfcmaaa", sum := "f4606cf41a2847b59aa7153b515cb24b71423318e2c461a632d8ccf5cb02d875", func := "loop.example/g01231/laws.FnExactWhiteAuto", spec := "fnExactWhiteAuto", apart := false, narrowed := true }
def FnExactWhiteAutoUptoSaid : Prop := fnExactWhiteAutoUptoRow.holds Try.pinned (OpenSpec.upto fnExactWhiteAutoSpec)

/-- 'laws.FnExactFilterOfReflections', WHERE WHAT IT READS IS OF BULK AT MOST 1048576: true; the input reads as it did. -/
def fnExactFilterOfReflectionsUptoRow : OpenClaim := { program := "ytjpbgldnnfcmaaa", sum := "f4606cf41a2847b59aa7153b515cb24b71423318e2c461a632d8ccf5cb02d875", func := "loop.example/g01231/laws.FnExactFilterOfReflections", spec := "fnExactFilterOfReflections", apart := false, narrowed := true }
def FnExactFilterOfReflectionsUptoSaid : Prop := fnExactFilterOfReflectionsUptoRow.holds Try.pinned (OpenSpec.upto fnExactFilterOfReflectionsSpec)

/-- 'laws.FnExactBestShift', WHERE WHAT IT READS IS OF BULK AT MOST 1048576: true; the input reads as it did. -/
def fnExactBestShiftUptoRow : OpenClaim := { program := "ytjpbgldnnfcmaaa", sum := "f4606cf41a2847b59aa7153b515cb24b71423318e2c461a632d8ccf5cb02d875", func := "loop.example/g01231/laws.FnExactBestShift", spec := "fnExactBestShift", apart := false, narrowed := true }
def FnExactBestShiftUptoSaid : Prop := fnExactBestShiftUptoRow.holds Try.pinned (OpenSpec.upto fnExactBestShiftSpec)

/-- 'laws.FnExactPickFirst', WHERE WHAT IT READS IS OF BULK AT MOST 1048576: true; the input reads as it did. -/
def fnExactPickFirstUptoRow : OpenClaim := { program := "ytjpbgldnnfcmaaa", sum := "f4606cf41a2847b59aa7153b515cb24b71423318e2c461a632d8ccf5cb02d875", func := "loop.example/g01231/laws.FnExactPickFirst", spec := "fnExactPickFirst", inPlace := ["math.Float64bits", "math.Float64frombits"], apart := false, narrowed := true }
def FnExactPickFirstUptoSaid : Prop := fnExactPickFirstUptoRow.holds Try.pinned (OpenSpec.upto fnExactPickFirstSpec)

/-- 'laws.FnExactSameSection', WHERE WHAT IT READS IS OF BULK AT MOST 1048576: true; the input reads as it did. -/
def fnExactSameSectionUptoRow : OpenClaim := { program := "ytjpbgldnnfcmaaa", sum := "f4606cf41a2847b59aa7153b515cb24b71423318e2c461a632d8ccf5cb02d875", func := "loop.example/g01231/laws.FnExactSameSection", spec := "fnExactSameSection", inPlace := ["math.Float32bits"], unfollowed := true, recurses := true, apart := false, narrowed := true }
def FnExactSameSectionUptoSaid : Prop := fnExactSameSectionUptoRow.holds Try.pinned (OpenSpec.upto fnExactSameSectionSpec)

/-- 'laws.FnExactSmoothTrace', WHERE WHAT IT READS IS OF BULK AT MOST 1048576: true; the input reads as it did. -/
def fnExactSmoothTraceUptoRow : OpenClaim := { program := "ytjpbgldnnfcmaaa", sum := "f4606cf41a2847b59aa7153b515cb24b71423318e2c461a632d8ccf5cb02d875", func := "loop.example/g01231/laws.FnExactSmoothTrace", spec := "fnExactSmoothTrace", apart := false, narrowed := true }
def FnExactSmoothTraceUptoSaid : Prop := fnExactSmoothTraceUptoRow.holds Try.pinned (OpenSpec.upto fnExactSmoothTraceSpec)

/-- 'laws.FnExactRoughTrace', WHERE WHAT IT READS IS OF BULK AT MOST 1048576: true; the input reads as it did. -/
def fnExactRoughTraceUptoRow : OpenClaim := { program := "ytjpbgldnnfcmaaa", sum := "f4606cf41a2847b59aa7153b515cb24b71423318e2c461a632d8ccf5cb02d875", func := "loop.example/g01231/laws.FnExactRoughTrace", spec := "fnExactRoughTrace", apart := false, narrowed := true }
def FnExactRoughTraceUptoSaid : Prop := fnExactRoughTraceUptoRow.holds Try.pinned (OpenSpec.upto fnExactRoughTraceSpec)

/-- 'laws.FnExactStrongCell', WHERE WHAT IT READS IS OF BULK AT MOST 1048576: true; the input reads as it did. -/
def fnExactStrongCellUptoRow : OpenClaim := { program := "ytjpbgldnnfcmaaa", sum := "f4606cf41a2847b59aa7153b515cb24b71423318e2c461a632d8ccf5cb02d875", func := "loop.example/g01231/laws.FnExactStrongCell", spec := "fnExactStrongCell", inPlace := ["math.Float64bits", "math.Float64frombits"], apart := false, narrowed := true }
def FnExactStrongCellUptoSaid : Prop := fnExactStrongCellUptoRow.holds Try.pinned (OpenSpec.upto fnExactStrongCellSpec)

/-- 'laws.FnExactPutValue', WHERE WHAT IT READS IS OF BULK AT MOST 1048576: true; the input reads as it did. -/
def fnExactPutValueUptoRow : OpenClaim := { program := "ytjpbgldnnfcmaaa", sum := "f4606cf41a2847b59aa7153b515cb24b71423318e2c461a632d8ccf5cb02d875", func := "loop.example/g01231/laws.FnExactPutValue", spec := "fnExactPutValue", apart := false, narrowed := true }
def FnExactPutValueUptoSaid : Prop := fnExactPutValueUptoRow.holds Try.pinned (OpenSpec.upto fnExactPutValueSpec)

/-- 'laws.FnExactFlatSection', WHERE WHAT IT READS IS OF BULK AT MOST 1048576: true; the input reads as it did. -/
def fnExactFlatSectionUptoRow : OpenClaim := { program := "ytjpbgldnnfcmaaa", sum := "f4606cf41a2847b59aa7153b515cb24b71423318e2c461a632d8ccf5cb02d875", func := "loop.example/g01231/laws.FnExactFlatSection", spec := "fnExactFlatSection", apart := false, narrowed := true }
def FnExactFlatSectionUptoSaid : Prop := fnExactFlatSectionUptoRow.holds Try.pinned (OpenSpec.upto fnExactFlatSectionSpec)

/-- 'laws.FnExactScaleSection', WHERE WHAT IT READS IS OF BULK AT MOST 1048576: true; the input reads as it did. -/
def fnExactScaleSectionUptoRow : OpenClaim := { program := "ytjpbgldnnfcmaaa", sum := "f4606cf41a2847b59aa7153b515cb24b71423318e2c461a632d8ccf5cb02d875", func := "loop.example/g01231/laws.FnExactScaleSection", spec := "fnExactScaleSection", apart := false, narrowed := true }
def FnExactScaleSectionUptoSaid : Prop := fnExactScaleSectionUptoRow.holds Try.pinned (OpenSpec.upto fnExactScaleSectionSpec)

end Rows
end Go.Proofs.Ytjpbgldnnfcmaaa
