/-
  Walks: the greatest of a list, and the shift at which two lists are most alike.
-/
import Derived.Test.YtndpiknekdjaeaaRs
namespace Go.Proofs.Ytndpiknekdjaeaa.Ab
open Go Go.RowKit
attribute [local irreducible] Run Then InBlock LoopQ LQ1 LQ2 LQ3 LQ4 LQ5 LQ6 AWp Ret ACall
set_option linter.unusedVariables false
set_option linter.unusedSimpArgs false

theorem gtr_nan {x y : Nat} (h : fcmp .eql .f32 x x = false) : fcmp .gtr .f32 x y = false := by
  rw [fcmp_eql_self] at h
  have hn : nanB .f32 x = true := by simpa using h
  unfold fcmp
  simp only [order_nan_l hn]
  rfl
/-- the place of the greatest of the first k numbers, the first one of several; -1 if there is none -/
def bst (xs : List Nat) : Nat → Int
  | 0 => -1
  | k + 1 => if (decide (bst xs k < 0) && fcmp .eql .f32 (xs.getD k 0) (xs.getD k 0)) || (decide (0 ≤ bst xs k) && fcmp .gtr .f32 (xs.getD k 0) (xs.getD (bst xs k).toNat 0)) then (k : Int) else bst xs k
theorem bst_bd (xs : List Nat) : ∀ k, -1 ≤ bst xs k ∧ bst xs k < k
  | 0 => by simp [bst]
  | k + 1 => by
    have := bst_bd xs k
    unfold bst
    split <;> omega

-- @reg impl.best : c_best _ _ _ _ _ @RD@ @BD@

/-- the sum of products of xs and ys, shifted by d, up to k -/
def corK (xs ys : List Nat) (d : Int) : Nat → Nat
  | 0 => 0
  | k + 1 => if inB ((k : Int) + d) 0 ((ys.length : Int) - 1) then fadd .f32 (corK xs ys d k) (fmul .f32 (xs.getD k 0) (ys.getD ((k : Int) + d).toNat 0)) else corK xs ys d k
def corS (xs ys : List Nat) (most : Int) (j : Nat) : Nat := corK xs ys ((j : Int) - most) xs.length
/-- the best shift -/
def shO (xs ys : List Nat) (most : Int) : Int := bst (tab (2 * most.toNat + 1) (corS xs ys most)) (2 * most.toNat + 1)
def shV (xs ys : List Nat) (most : Int) : Nat := corS xs ys most (shO xs ys most).toNat

theorem corS_eq {xs ys : List Nat} {most d : Int} {j : Nat} (hd : d = (j : Int) - most) : corK xs ys d xs.length = corS xs ys most j := by subst hd; rfl

/-- what the search for a shift hands back -/
def shR (xs ys : List Nat) (most : Int) : Value :=
  if 0 ≤ shO xs ys most then .tuple #[.int .i64 (shO xs ys most - most), .float .f32 (shV xs ys most), .bool true] else .tuple #[.int .i64 (-most), .float .f32 0, .bool false]


def bsB (n m : Nat) (most : Int) : Bool := inB n 1 128 && inB m 1 128 && inB most 0 128
/-- a whole number, a number and a bool -/
def bsR (xs ys : List Nat) (most : Int) : Value :=
  if bsB xs.length ys.length most = true ∧ 0 ≤ shO xs ys most then .tuple #[.int .i64 (shO xs ys most - most), .float .f32 (shV xs ys most), .bool true] else .tuple #[.int .i64 0, .float .f32 0, .bool false]

end Go.Proofs.Ytndpiknekdjaeaa.Ab
