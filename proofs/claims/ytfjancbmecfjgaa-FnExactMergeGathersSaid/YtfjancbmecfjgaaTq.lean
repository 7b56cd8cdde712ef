/-
  From the abstract layer to a law's statement: gathers as arguments.
-/
import Derived.Test.YtfjancbmecfjgaaTp
import Derived.Test.YtfjancbmecfjgaaDl
namespace Go.Proofs.Ytfjancbmecfjgaa.Ab
open Go Go.RowKit Go.ChangeShapes Go.WideShapes Go.ChangeAt Go.Deep
set_option linter.unusedVariables false

theorem RdL.cons {M : Mem} {v : Value} {vs : List Value} {xs : List Nat} {xss : List (List Nat)} {a : Option Addr} {c : Nat} (hv : v = .slice a xs.length c) (hr : RdF M a xs.length xs) (h : RdL M vs xss) : RdL M (v :: vs) (xs :: xss) := by
  refine ⟨by simp [h.1], fun i hi => ?_⟩
  cases i with
  | zero => exact ⟨a, c, hv, hr⟩
  | succ i => exact h.2 i (by simpa using hi)
/-- a list of lists, as it is read -/
theorem inv_D {H : Type} {enc : TypeId × Value → H} {P : Program} {W : World} {base : Nat} {spare : Nat → Bool} {held : Bool} {t e tx n : Nat} {v : Value} {x : DataW H × List MemPlace} (ht : P.underlying t = some (.slice e)) (he : P.underlying e = some (.slice tx)) (hX : P.underlying tx = some (.float .f32)) (hce : P.cellsOf e = 1) (hcx : P.cellsOf tx = 1)
    (hx : DataW.trod enc P W base spare held n t [v] = some x) :
    ∃ (xss : List (List Nat)) (a : Option Addr) (c : Nat), v = .slice a xss.length c ∧ RdD (MA W) a xss.length xss ∧ xss.length ≤ maxLen ∧ ∀ i, i < xss.length → (xss.getD i []).length ≤ maxLen := by
  obtain ⟨vs, h1, h2, h3⟩ := inv_slice ht hce hx
  have key : ∀ vs : List Value, (∀ u ∈ vs, ∃ m y, DataW.trod enc P W base spare held m e [u] = some y) → ∃ xss : List (List Nat), RdL (MA W) (vs.map nfS) xss ∧ ∀ i, i < xss.length → (xss.getD i []).length ≤ maxLen := by
    intro vs
    induction vs with
    | nil => intro _; exact ⟨[], ⟨rfl, fun i h => by simp at h⟩, fun i h => by simp at h⟩
    | cons u us ih =>
      intro h
      obtain ⟨xss, hx1, hx2⟩ := ih fun w hw => h w (by simp [hw])
      obtain ⟨m, y, hy⟩ := h u (by simp)
      obtain ⟨xs, a, c, rfl, hr, hl⟩ := inv_F he hX hcx hy
      refine ⟨xs :: xss, RdL.cons (a := a) (c := c) rfl hr hx1, fun i hi => ?_⟩
      cases i with
      | zero => exact hl
      | succ i => exact hx2 i (by simpa using hi)
  obtain ⟨xss, hl, hll⟩ := key vs h3
  obtain ⟨a, c, hv, hr⟩ := h1
  have hlen : vs.length = xss.length := by have := hl.1; simpa using this
  refine ⟨xss, a, c, ?_, ⟨rfl, vs.map nfS, ⟨by simpa using hlen, ?_⟩, hl⟩, by omega, hll⟩
  · rw [hv]; simp [hlen]
  · rcases hr with hr | ⟨b, o, k, e1, e2, e3⟩
    · exact .inl hr
    · refine .inr ⟨b, o, k, e1, e2, fun i hi => ?_⟩
      have := e3 i hi
      rw [this, List.getD_eq_getElem?_getD, List.getElem?_eq_getElem hi]; rfl
end Go.Proofs.Ytfjancbmecfjgaa.Ab
