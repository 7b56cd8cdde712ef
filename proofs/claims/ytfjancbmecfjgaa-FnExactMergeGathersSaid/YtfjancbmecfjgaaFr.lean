/-
  Walks: frames: validity, copies, and what the laws do with them.
-/
import Derived.Test.YtfjancbmecfjgaaSe
import Derived.Test.YtfjancbmecfjgaaIx
namespace Go.Proofs.Ytfjancbmecfjgaa.Ab
open Go Go.RowKit
attribute [local irreducible] Run Then InBlock LoopQ LQ1 LQ2 LQ3 LQ4 LQ5 LQ6 AWp Ret ACall
set_option linter.unusedVariables false
set_option linter.unusedSimpArgs false

-- @owns laws.toFrame : c_toFrame _ _ _ _ _ _ _ @RD@ @BD@
-- @reg laws.szFrame : c_szFrame _ _ _ _ _ _ _ @BD@ @BD@ @BD@
-- @true laws.eqFrame : c_eqFrame _ _ _ _ _ _ _ _ _ _ @RD@ @RD@ @BD@

/-! ## numbers of frames -/
def fnB (x : Nat) : Bool := fcmp .lss .f32 (szF x) 1895825408
theorem fnB_abs (x : Nat) : fcmp .lss .f32 (absF x) 1895825408 = fnB x := (fcmp_ordeq (szF_absF x) (ordeq_refl .f32 1895825408)).symm
-- @reg spec.l07Number : c_l07Number _ _
def fnA (xs : List Nat) : Bool := !(xs.any fun x => !fnB x)
theorem fnA_no {xs : List Nat} {k : Nat} (hk : k < xs.length) (h : fnB (xs.getD k 0) = false) : fnA xs = false := by
  unfold fnA
  rw [Bool.not_eq_false']
  refine List.any_eq_true.2 ⟨xs.getD k 0, ?_, by rw [h]; rfl⟩
  simp [hk]
theorem fnA_yes {xs : List Nat} (h : ∀ j, j < xs.length → fnB (xs.getD j 0) = true) : fnA xs = true := by
  unfold fnA
  rw [Bool.not_eq_true', List.any_eq_false]
  intro x hx
  obtain ⟨j, hj, rfl⟩ := List.getElem_of_mem hx
  have := h j hj
  simp [hj] at this
  simp [this]
-- @reg impl.areFrameNumbers : c_areFrameNumbers _ _ _ _ _ @RD@ @BD@

/-! ## validity -/
def vfB (w d : Int) (xs : List Nat) : Bool := inB w 0 200 && inB d 0 100000 && inB (xs.length : Int) 1 128 && fnA xs
theorem vfB_iff {w d : Int} {xs : List Nat} : vfB w d xs = true ↔ (0 ≤ w ∧ w ≤ 200) ∧ (0 ≤ d ∧ d ≤ 100000) ∧ (1 ≤ xs.length ∧ xs.length ≤ 128) ∧ fnA xs = true := by
  unfold vfB
  simp only [Bool.and_eq_true, inB_iff]
  constructor
  · rintro ⟨⟨⟨p, q⟩, r⟩, t⟩; exact ⟨p, q, by omega, t⟩
  · rintro ⟨p, q, r, t⟩; exact ⟨⟨⟨p, q⟩, by omega⟩, t⟩
-- @reg impl.ValidFrame : c_implValidFrame _ _ _ _ _ _ _ @RD@ @BD@
-- @reg spec.l07Is : c_l07Is _ _ _ _ _ _ _ _ _ @MEM@ @RD@ @BD@
end Go.Proofs.Ytfjancbmecfjgaa.Ab
