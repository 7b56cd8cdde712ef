/-
  Walks of operations on sections: sums, products, neighbours, sections made cell by cell.
-/
import Derived.Test.YtkbpdgacfeachaaSe
namespace Go.Proofs.Ytkbpdgacfeachaa.Ab
open Go Go.RowKit
attribute [local irreducible] Run Then InBlock LoopQ LQ1 LQ2 LQ3 LQ4 LQ5 LQ6 AWp Ret ACall
set_option linter.unusedVariables false
set_option linter.unusedSimpArgs false

/-- a cell of a section that is valid -/
theorem cell_in {w d x z : Int} {n : Nat} (h1 : vsB w d n = true) (h2 : 0 ≤ x ∧ x ≤ w - 1) (h3 : 0 ≤ z ∧ z ≤ d - 1) :
    (1 ≤ n ∧ n ≤ 256) ∧ (0 ≤ w * z ∧ w * z ≤ 256) ∧ 0 ≤ x + w * z ∧ x + w * z < n ∧ (1 ≤ w ∧ w ≤ 16) ∧ (1 ≤ d ∧ d ≤ 16) ∧ (n : Int) = w * d := by
  obtain ⟨⟨a, b⟩, e⟩ := vsB_iff.1 h1
  have hn := vsB_n h1
  have p0 : 0 ≤ w * z := Int.mul_nonneg (by omega) (by omega)
  have p1 : w * z ≤ w * (d - 1) := Int.mul_le_mul_of_nonneg_left (by omega) (by omega)
  have p2 : w * (d - 1) = w * d - w := by rw [Int.mul_sub, Int.mul_one]
  omega
/-- the cell of a number -/
theorem num_in {w d : Int} {n k : Nat} (h1 : vsB w d n = true) (hk : (k : Int) < n) : (0 ≤ (k : Int) % w ∧ (k : Int) % w ≤ w - 1) ∧ (0 ≤ (k : Int) / w ∧ (k : Int) / w ≤ d - 1) := by
  obtain ⟨⟨a, b⟩, e⟩ := vsB_iff.1 h1
  have e1 := Int.emod_nonneg (k : Int) (show w ≠ 0 by omega)
  have e2 := Int.emod_lt_of_pos (k : Int) (show 0 < w by omega)
  have e3 : 0 ≤ (k : Int) / w := Int.ediv_nonneg (by omega) (by omega)
  have e4 : (k : Int) / w < d := Int.ediv_lt_of_lt_mul (by omega) (by rw [Int.mul_comm]; omega)
  omega
theorem grid_eq {w z x : Int} (h0 : 0 ≤ x) (h1 : x < w) : (x + w * z) % w = x ∧ (x + w * z) / w = z := by
  constructor
  · rw [Int.add_mul_emod_self_left]; exact Int.emod_eq_of_lt h0 h1
  · rw [Int.add_mul_ediv_left _ _ (by omega), Int.ediv_eq_zero_of_lt h0 h1]; omega

/-! ## sums and products -/
def scF (xs : List Nat) (y : Nat) : List Nat := tab xs.length fun i => fmul .f32 (xs.getD i 0) y
def adF (xs ys : List Nat) : List Nat := tab xs.length fun i => fadd .f32 (xs.getD i 0) (ys.getD i 0)
theorem cp_step {xs : List Nat} {f : Nat → Nat} {k : Nat} (hk : k < xs.length) {v : Nat} (hv : v = f k) : (cp (tab xs.length f) xs k).set k v = cp (tab xs.length f) xs (k + 1) :=
  cp_tab rfl rfl hk hv
theorem cp_get {xs : List Nat} {f : Nat → Nat} {k : Nat} : (cp (tab xs.length f) xs k).getD k 0 = xs.getD k 0 := cp_getD (by rw [tab_len])
theorem cp_end {xs : List Nat} {f : Nat → Nat} {k : Nat} (hk : k = xs.length) : cp (tab xs.length f) xs k = tab xs.length f := by subst hk; exact cp_tab_all rfl
/-- two sections are valid and of the same size -/
def twB (w d w' d' : Int) (n n' : Nat) : Bool := vsB w d n && vsB w' d' n' && (w == w') && (d == d')
theorem twB_iff {w d w' d' : Int} {n n' : Nat} : twB w d w' d' n n' = true ↔ vsB w d n = true ∧ vsB w' d' n' = true ∧ w = w' ∧ d = d' := by
  simp [twB, and_assoc]
-- @reg impl.areEqual : c_areEqual _ _ _ _ _ _ _ _ _ _ _
-- @reg spec.l06Two : c_l06Two _ _ _ _ _ _ _ _ _ _ _ _ _ _ _ @MEM@ @MEM@
end Go.Proofs.Ytkbpdgacfeachaa.Ab
