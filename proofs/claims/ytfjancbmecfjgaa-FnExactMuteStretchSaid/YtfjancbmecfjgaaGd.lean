/-
  Walks: gathers muted and normed.
-/
import Derived.Test.YtfjancbmecfjgaaGc
import Derived.Test.YtfjancbmecfjgaaSy
import Derived.Test.YtfjancbmecfjgaaSo
namespace Go.Proofs.Ytfjancbmecfjgaa.Ab
open Go Go.RowKit
attribute [local irreducible] Run Then InBlock LoopQ LQ1 LQ2 LQ3 LQ4 LQ5 LQ6 AWp Ret ACall
set_option linter.unusedVariables false
set_option linter.unusedSimpArgs false

theorem OwV.rdW {L : Mem} {a : Option Addr} {m c : Nat} {is : List Value} (h : OwV L (.slice a m c) is) : RdW L a m is := by
  obtain ⟨_, _, hv, h⟩ := h.rd
  obtain ⟨rfl, h2, _⟩ := Value.slice.inj hv
  rw [h2]; exact h
theorem set_keep {A : List Nat} {i v : Nat} (h : A.getD i 0 = v) : A.set i v = A := by
  by_cases hi : i < A.length
  · exact set_sameD hi h
  · exact List.set_eq_of_length_le (by omega)
/-! ## muted -/
abbrev muB (place speed : Nat) (k : Nat) : Bool := fcmp .lss .f32 (fofint .f32 (k : Nat)) (fdiv .f32 (absF place) speed)
def muV (xs : List Nat) (place speed : Nat) (k : Nat) : Nat := if muB place speed k = true then 0 else xs.getD k 0
theorem muV_yes {xs : List Nat} {place speed k : Nat} (h : muB place speed k = true) : 0 = muV xs place speed k := by unfold muV; rw [if_pos h]
theorem muV_no {xs : List Nat} {place speed k : Nat} (h : muB place speed k = false) : muV xs place speed k = xs.getD k 0 := by unfold muV; rw [if_neg (by rw [h]; decide)]
def muF (xs : List Nat) (place speed : Nat) : List Nat := tab xs.length (muV xs place speed)
abbrev muG (ps : List Nat) (xss : List (List Nat)) (speed : Nat) : Nat → List Nat := fun i => muF (xss.getD i []) (ps.getD i 0) speed
/-! ## normed -/
theorem noF_len (xs : List Nat) : (noF xs).length = xs.length := by unfold noF; split <;> simp [tab_len]
abbrev noG (xss : List (List Nat)) : Nat → List Nat := fun i => noF (xss.getD i [])
end Go.Proofs.Ytfjancbmecfjgaa.Ab
