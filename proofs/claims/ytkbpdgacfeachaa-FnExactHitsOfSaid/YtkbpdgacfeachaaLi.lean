/-
  Walks of functions on lists of 32-bit floats: copies, neighbours, smoothing, differences, filters.
-/
import Derived.Test.YtkbpdgacfeachaaNm
namespace Go.Proofs.Ytkbpdgacfeachaa.Ab
open Go Go.RowKit
attribute [local irreducible] Run Then InBlock LoopQ LQ1 LQ2 LQ3 LQ4 LQ5 LQ6 AWp Ret ACall
set_option linter.unusedVariables false
set_option linter.unusedSimpArgs false

/-- one step of filling a list by a rule -/
theorem cp_tab {n k : Nat} {f : Nat → Nat} {zs ys : List Nat} (hz : zs.length = n) (hy : ys = cp (tab n f) zs k) (hk : k < n) {v : Nat} (hv : v = f k) : ys.set k v = cp (tab n f) zs (k + 1) := by
  rw [hy, hv, ← cp_set (by rw [tab_len]; exact hz) (by rw [tab_len]; exact hk), tab_getD hk]
theorem cp_getD {xs ys : List Nat} {k : Nat} (h : xs.length = ys.length) : (cp xs ys k).getD k 0 = ys.getD k 0 := by
  unfold cp
  by_cases hk : k ≤ xs.length
  · simp only [List.getD]
    rw [List.getElem?_append_right (by simp; omega)]
    simp only [List.length_take, Nat.min_eq_left hk, Nat.sub_self, List.getElem?_drop, Nat.add_zero]
  · simp only [List.getD]
    rw [List.getElem?_eq_none (by simp; omega), List.getElem?_eq_none (by omega)]
theorem cp_tab_all {n : Nat} {f : Nat → Nat} {zs : List Nat} (hz : zs.length = n) : cp (tab n f) zs n = tab n f := by
  have := cp_all (xs := tab n f) (ys := zs) (by rw [tab_len]; exact hz)
  rwa [tab_len] at this
theorem cp_tab_len {n k : Nat} {f : Nat → Nat} {zs : List Nat} (hz : zs.length = n) : (cp (tab n f) zs k).length = n := by
  rw [cp_len (by rw [tab_len]; exact hz), tab_len]

-- @own slices.Clone[[]float32,float32] : c_clone _ _ _ _ _ @RD@ @BD@

/-- a number of a list, or nought -/
def atF (xs : List Nat) (i : Int) : Nat := if 0 ≤ i ∧ i < xs.length then xs.getD i.toNat 0 else 0
-- @reg impl.at : c_at _ _ _ _ _ _ @RD@ @BD@
-- @reg spec.l05At : c_l05At _ _ _ _ _ _ @RD@ @BD@

/-- one number of a smoother list -/
def sm1 (xs : List Nat) (i : Nat) : Nat := fmul .f32 1048576000 (fadd .f32 (fadd .f32 (fadd .f32 (atF xs ((i : Int) - 1)) (xs.getD i 0)) (xs.getD i 0)) (atF xs ((i : Int) + 1)))
def smF (xs : List Nat) : Nat → List Nat
  | 0 => xs
  | r + 1 => smF (tab xs.length (sm1 xs)) r
theorem smF_len (r : Nat) : ∀ xs, (smF xs r).length = xs.length := by
  induction r with
  | zero => intro xs; rfl
  | succ r ih => intro xs; rw [smF, ih, tab_len]
theorem smF_succ (r : Nat) : ∀ xs, smF xs (r + 1) = tab xs.length (sm1 (smF xs r)) := by
  induction r with
  | zero => intro xs; rfl
  | succ r ih => intro xs; rw [smF, ih, tab_len]; rfl

-- @own impl.smooth : c_smooth _ _ _ _ _ _ @RD@ @BD@ @BD@

-- @own spec.l05Smooth : c_l05Smooth _ _ _ _ _ _ @RD@ @BD@ @BD@
/-- the differences of two lists -/
def lsF (xs ys : List Nat) : List Nat := tab xs.length fun i => fsub .f32 (xs.getD i 0) (ys.getD i 0)
-- @own spec.l03Less : c_l03Less _ _ _ _ _ _ _ _ _ @RD@ @RD@ @LEN@ @BD@
-- @own impl.lessTraces : c_lessTraces _ _ _ _ _ _ _ _ _ @RD@ @RD@ @LEN@ @BD@

/-! ## filters of reflections -/
def exG (p : List Nat) (c : Nat) (i : Nat) : Nat := fsub .f32 ((p ++ [0]).getD i 0) (fmul .f32 c ((p ++ [0]).getD (p.length - i) 0))
def exF (p : List Nat) (c : Nat) : List Nat := tab (p.length + 1) (exG p c)
theorem exF_len (p : List Nat) (c : Nat) : (exF p c).length = p.length + 1 := tab_len _ _
-- @own impl.extended : c_extended _ _ _ _ _ _ @RD@ @BD@
-- @own spec.l05Next : c_l05Next _ _ _ _ _ _ @RD@ @BD@
end Go.Proofs.Ytkbpdgacfeachaa.Ab
