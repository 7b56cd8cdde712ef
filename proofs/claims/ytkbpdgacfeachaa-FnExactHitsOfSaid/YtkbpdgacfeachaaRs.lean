/-
  Walks: traces smoothed, filters of reflections: the program's functions and the reference's, each to the same answer.
-/
import Derived.Test.YtkbpdgacfeachaaLi
namespace Go.Proofs.Ytkbpdgacfeachaa.Ab
open Go Go.RowKit
attribute [local irreducible] Run Then InBlock LoopQ LQ1 LQ2 LQ3 LQ4 LQ5 LQ6 AWp Ret ACall
set_option linter.unusedVariables false
set_option linter.unusedSimpArgs false

/-- a list and a bool; the list is nil where the bool is false -/
def ResF (B : Bool) (xs : List Nat) (r : Value) (L : Mem) : Prop := ∃ v, r = .tuple #[v, .bool B] ∧ OwF L v (bif B then xs else [])
theorem ResF.no {B : Bool} {xs : List Nat} (h : B = false) : ResF B xs (.tuple #[.slice none 0 0, .bool false]) [] := by subst h; exact ⟨_, rfl, OwF.nil⟩
theorem ResF.yes {B : Bool} {v : Value} {xs : List Nat} {L : Mem} (h : B = true) (ho : OwF L v xs) : ResF B xs (.tuple #[v, .bool true]) L := by subst h; exact ⟨_, rfl, ho⟩
theorem inB_le {n : Nat} {a b : Int} (h : inB n a b = true) : (n : Int) ≤ b := (inB_iff.1 h).2

def smoothB (n : Nat) (r : Int) : Bool := inB n 1 128 && inB r 0 16
-- @reg impl.isSmooth : c_isSmooth _ _ _ _ _

def filB (n : Nat) : Bool := !decide ((24 : Int) ≤ n)
def filK (xs : List Nat) : Nat → List Nat
  | 0 => [1065353216]
  | k + 1 => exF (filK xs k) (xs.getD k 0)
theorem filK_len (xs : List Nat) : ∀ k, (filK xs k).length = k + 1
  | 0 => rfl
  | k + 1 => by rw [filK, exF_len, filK_len xs k]
end Go.Proofs.Ytkbpdgacfeachaa.Ab
