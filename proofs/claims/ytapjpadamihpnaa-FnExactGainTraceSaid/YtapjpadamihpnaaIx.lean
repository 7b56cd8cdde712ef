/-
  Walks: the first value of a list with a property.
-/
import Derived.Test.YtapjpadamihpnaaLi
import Derived.Test.YtapjpadamihpnaaBi
namespace Go.Proofs.Ytapjpadamihpnaa.Ab
open Go Go.RowKit
attribute [local irreducible] Run Then InBlock LoopQ LQ1 LQ2 LQ3 LQ4 LQ5 LQ6 AWp Ret ACall
set_option linter.unusedVariables false
set_option linter.unusedSimpArgs false

/-- the place of the first value with a property -/
def fidx (p : Nat → Bool) (xs : List Nat) : Int := if xs.any p then (xs.findIdx p : Int) else -1
theorem fidx_at {p : Nat → Bool} {xs : List Nat} {k : Nat} (hk : k < xs.length) (h : p (xs.getD k 0) = true) (hb : ∀ j, j < k → p (xs.getD j 0) = false) : fidx p xs = k := by
  have hg : ∀ j (hj : j < xs.length), xs.getD j 0 = xs[j] := fun j hj => by simp [hj]
  unfold fidx
  rw [if_pos (List.any_eq_true.2 ⟨xs[k], List.getElem_mem hk, by rw [← hg k hk]; exact h⟩)]
  congr 1
  rw [List.findIdx_eq hk]
  exact ⟨by rw [← hg k hk]; exact h, fun j hj => by rw [← hg j (by omega)]; exact hb j hj⟩
theorem fidx_no {p : Nat → Bool} {xs : List Nat} (hb : ∀ j, j < xs.length → p (xs.getD j 0) = false) : fidx p xs = -1 := by
  unfold fidx
  rw [if_neg]
  intro h
  obtain ⟨x, hx, hp⟩ := List.any_eq_true.1 h
  obtain ⟨j, hj, rfl⟩ := List.getElem_of_mem hx
  have := hb j hj
  simp [hj] at this
  rw [this] at hp; cases hp
theorem fidx_ge (p : Nat → Bool) (xs : List Nat) : decide (fidx p xs ≥ 0) = xs.any p := by
  unfold fidx
  cases xs.any p with
  | true => simp
  | false => simp
end Go.Proofs.Ytapjpadamihpnaa.Ab
