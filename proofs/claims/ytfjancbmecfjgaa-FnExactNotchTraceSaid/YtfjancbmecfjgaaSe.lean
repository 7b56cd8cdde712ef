/-
  Walks: sections: sizes, copies, and what the laws do with them.
-/
import Derived.Test.YtfjancbmecfjgaaLi
namespace Go.Proofs.Ytfjancbmecfjgaa.Ab
open Go Go.RowKit
attribute [local irreducible] Run Then InBlock LoopQ LQ1 LQ2 LQ3 LQ4 LQ5 LQ6 AWp Ret ACall
set_option linter.unusedVariables false
set_option linter.unusedSimpArgs false

/-- a section of the call's own -/
def OwS (L : Mem) (r : Value) (w d : Int) (xs : List Nat) : Prop := ∃ v, r = .agg #[.int .i64 w, .int .i64 d, v] ∧ OwF L v xs
/-- a section and a bool: the zero where the bool is false -/
def ResS (B : Bool) (w d : Int) (xs : List Nat) (r : Value) (L : Mem) : Prop := ∃ v, r = .tuple #[.agg #[.int .i64 (bif B then w else 0), .int .i64 (bif B then d else 0), v], .bool B] ∧ OwF L v (bif B then xs else [])
theorem ResS.no {B : Bool} {w d : Int} {xs : List Nat} (h : B = false) : ResS B w d xs (.tuple #[.agg #[.int .i64 0, .int .i64 0, .slice none 0 0], .bool false]) [] := by subst h; exact ⟨_, rfl, OwF.nil⟩
theorem ResS.yes {B : Bool} {w d : Int} {v : Value} {xs : List Nat} {L : Mem} (h : B = true) (ho : OwF L v xs) : ResS B w d xs (.tuple #[.agg #[.int .i64 w, .int .i64 d, v], .bool true]) L := by subst h; exact ⟨_, rfl, ho⟩

def szB (w d : Int) : Bool := inB w 1 16 && inB d 1 16
/-- a section of n values is valid -/
def vsB (w d : Int) (n : Nat) : Bool := szB w d && ((n : Int) == w * d)
theorem szB_iff {w d : Int} : szB w d = true ↔ (1 ≤ w ∧ w ≤ 16) ∧ (1 ≤ d ∧ d ≤ 16) := by simp [szB, inB_iff]
theorem mul_bd {w d : Int} (h : (1 ≤ w ∧ w ≤ 16) ∧ (1 ≤ d ∧ d ≤ 16)) : 1 ≤ w * d ∧ w * d ≤ 256 := by
  obtain ⟨⟨h1, h2⟩, h3, h4⟩ := h
  have a : 1 * 1 ≤ w * d := Int.mul_le_mul h1 h3 (by omega) (by omega)
  have b : w * d ≤ 16 * 16 := Int.mul_le_mul h2 h4 (by omega) (by omega)
  omega
theorem vsB_iff {w d : Int} {n : Nat} : vsB w d n = true ↔ ((1 ≤ w ∧ w ≤ 16) ∧ (1 ≤ d ∧ d ≤ 16)) ∧ (n : Int) = w * d := by
  unfold vsB; rw [Bool.and_eq_true, szB_iff, beq_iff_eq]
theorem vsB_n {w d : Int} {n : Nat} (h : vsB w d n = true) : 1 ≤ n ∧ n ≤ 256 := by
  obtain ⟨h1, h2⟩ := vsB_iff.1 h
  have := mul_bd h1
  omega

-- @reg impl.isSize : c_isSize _ _ _
-- @reg spec.l06Size : c_l06Size _ _ _
-- @reg impl.ValidSection : c_implValidSection _ _ _ _ _ _
-- @reg spec.l06Is : c_l06Is _ _ _ _ _ _ _ _ @MEM@
-- @owns spec.l06Own : c_l06Own _ _ _ _ _ _ _ _ _ @MEM@ @RD@ @BD@

-- @owns (impl.Section).clone : c_sclone _ _ _ _ _ _ _ @RD@ @BD@
-- @owns laws.toSection : c_toSection _ _ _ _ _ _ _ @RD@ @BD@
-- @reg laws.szSection : c_szSection _ _ _ _ _ _ _ @BD@ @BD@ @BD@
-- @true laws.eqSection : c_eqSection _ _ _ _ _ _ _ _ _ _ @RD@ @RD@ @BD@
end Go.Proofs.Ytfjancbmecfjgaa.Ab
