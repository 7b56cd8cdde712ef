/-
  The walks of the laws FnExactValidSection and FnExactSameSection.
-/
import Derived.Test.YtnikglngipbahaaSe
namespace Go.Proofs.Ytnikglngipbahaa.Ab
open Go Go.RowKit
attribute [local irreducible] Run Then InBlock LoopQ LQ1 LQ2 LQ3 LQ4 LQ5 LQ6 AWp Ret ACall
set_option linter.unusedVariables false
set_option linter.unusedSimpArgs false


def bitF (x : Nat) : Int := if nanB .f32 x = true then 2143289344 else IntKind.i64.wrap (x : Nat)
def sameN (x y : Nat) : Bool := bitF x == bitF y
-- @reg impl.BitsOf : c_BitsOf _ _
-- @reg spec.l01Bits : c_l01Bits _ _
-- @reg impl.SameNumber : c_SameNumber _ _ _
-- @reg spec.l01Same : c_l01Same _ _ _
/-- two lists have the same numbers -/
def sameL (xs ys : List Nat) : Bool := ((xs.length : Int) == ys.length) && (List.range xs.length).all fun i => sameN (xs.getD i 0) (ys.getD i 0)
theorem sameL_len {xs ys : List Nat} (h : ((xs.length : Int) != ys.length) = true) : sameL xs ys = false := by
  unfold sameL; rw [Bool.and_eq_false_iff]; left; simpa [bne] using h
theorem sameL_no {xs ys : List Nat} {k : Nat} (hk : k < xs.length) (h : sameN (xs.getD k 0) (ys.getD k 0) = false) : sameL xs ys = false := by
  unfold sameL; rw [Bool.and_eq_false_iff]; right
  rw [List.all_eq_false]
  exact ⟨k, by simpa using hk, by rw [h]; decide⟩
theorem sameL_yes {xs ys : List Nat} (h0 : ((xs.length : Int) != ys.length) = false) (h : ∀ k, k < xs.length → sameN (xs.getD k 0) (ys.getD k 0) = true) : sameL xs ys = true := by
  unfold sameL; rw [Bool.and_eq_true]
  refine ⟨by simpa [bne] using h0, ?_⟩
  rw [List.all_eq_true]
  intro k hk
  exact h k (by simpa using hk)
-- @reg slices.EqualFunc[[]float32,[]float32,float32,float32] : c_equalFunc _ _ _ _ _ _ _ _ _ @RD@ @RD@ @BD@ @BD@
-- @reg impl.sameList : c_sameList _ _ _ _ _ _ _ _ _ @RD@ @RD@ @BD@ @BD@
-- @reg spec.l01SameAll : c_l01SameAll _ _ _ _ _ _ _ _ _ @RD@ @RD@ @BD@ @BD@
def ssB (w d w' d' : Int) (xs ys : List Nat) : Bool := (w == w') && (d == d') && sameL xs ys
end Go.Proofs.Ytnikglngipbahaa.Ab
