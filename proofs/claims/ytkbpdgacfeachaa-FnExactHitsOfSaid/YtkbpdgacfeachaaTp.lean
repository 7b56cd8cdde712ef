/-
  From the abstract layer to a law's statement: arguments one by one.
-/
import Derived.Test.YtkbpdgacfeachaaTop
import Derived.Test.YtkbpdgacfeachaaLw
namespace Go.Proofs.Ytkbpdgacfeachaa.Ab
open Go Go.RowKit Go.ChangeShapes Go.WideShapes Go.ChangeAt Go.Deep
set_option linter.unusedVariables false

section
variable {H : Type} {enc : TypeId × Value → H} {P : Program} {W : World} {base : Nat} {spare : Nat → Bool} {held : Bool}
theorem trod_at : ∀ (ts : List TypeId) (vs : List Value) (ds : List (DataW H)) (ps : List MemPlace), DataW.TrodAll enc P W base spare held ts vs ds ps →
    ∀ (i : Nat) (t : TypeId) (v : Value), ts[i]? = some t → vs[i]? = some v → ∃ m x, DataW.trod enc P W base spare held m t v.cells.toList = some x := by
  intro ts
  induction ts with
  | nil => intro vs ds ps _ i t v h; simp at h
  | cons t0 ts ih =>
    intro vs ds ps h i t v ht hv
    obtain ⟨v0, vs0, d0, ds0, p0, q0, rfl, rfl, rfl, h0, r0⟩ := trodAll_cons h
    cases i with
    | zero =>
      simp at ht hv
      subst ht hv
      obtain ⟨m, hm⟩ := h0
      exact ⟨m, _, hm⟩
    | succ i => exact ih _ _ _ r0 i t v (by simpa using ht) (by simpa using hv)
theorem trod_len : ∀ (ts : List TypeId) (vs : List Value) (ds : List (DataW H)) (ps : List MemPlace), DataW.TrodAll enc P W base spare held ts vs ds ps → vs.length = ts.length := by
  intro ts
  induction ts with
  | nil => intro vs ds ps h; obtain ⟨rfl, _, _⟩ := trodAll_nil h; rfl
  | cons t0 ts ih =>
    intro vs ds ps h
    obtain ⟨v0, vs0, d0, ds0, p0, q0, rfl, rfl, rfl, h0, r0⟩ := trodAll_cons h
    simp [ih _ _ _ r0]
end
theorem okWide_float {P : Program} {w : World} {r : Reach} {base : Nat} {t : TypeId} {k : FloatKind} {v : Value} (ht : P.underlying t = some (.float k)) (h : Value.okWide P w r base t v) : ∃ b, v = .float k b := by
  simp only [Value.okWide, ht, Cell.okWide] at h
  cases v <;> simp_all [Cell.ok]
theorem trod_dlen {H : Type} {enc : TypeId × Value → H} {P : Program} {W : World} {base : Nat} {spare : Nat → Bool} {held : Bool} : ∀ (ts : List TypeId) (vs : List Value) (ds : List (DataW H)) (ps : List MemPlace), DataW.TrodAll enc P W base spare held ts vs ds ps → ds.length = ts.length := by
  intro ts
  induction ts with
  | nil => intro vs ds ps h; obtain ⟨_, rfl, _⟩ := trodAll_nil h; rfl
  | cons t0 ts ih =>
    intro vs ds ps h
    obtain ⟨v0, vs0, d0, ds0, p0, q0, rfl, rfl, rfl, h0, r0⟩ := trodAll_cons h
    simp [ih _ _ _ r0]
theorem lst1 {α : Type} {l : List α} (h : l.length = 1) : ∃ x0, l = [x0] := by
  match l, h with
  | [x0], _ => exact ⟨x0, rfl⟩
theorem lst2 {α : Type} {l : List α} (h : l.length = 2) : ∃ x0 x1, l = [x0, x1] := by
  match l, h with
  | [x0, x1], _ => exact ⟨x0, x1, rfl⟩
theorem lst3 {α : Type} {l : List α} (h : l.length = 3) : ∃ x0 x1 x2, l = [x0, x1, x2] := by
  match l, h with
  | [x0, x1, x2], _ => exact ⟨x0, x1, x2, rfl⟩
theorem lst4 {α : Type} {l : List α} (h : l.length = 4) : ∃ x0 x1 x2 x3, l = [x0, x1, x2, x3] := by
  match l, h with
  | [x0, x1, x2, x3], _ => exact ⟨x0, x1, x2, x3, rfl⟩
theorem lst5 {α : Type} {l : List α} (h : l.length = 5) : ∃ x0 x1 x2 x3 x4, l = [x0, x1, x2, x3, x4] := by
  match l, h with
  | [x0, x1, x2, x3, x4], _ => exact ⟨x0, x1, x2, x3, x4, rfl⟩
theorem lst6 {α : Type} {l : List α} (h : l.length = 6) : ∃ x0 x1 x2 x3 x4 x5, l = [x0, x1, x2, x3, x4, x5] := by
  match l, h with
  | [x0, x1, x2, x3, x4, x5], _ => exact ⟨x0, x1, x2, x3, x4, x5, rfl⟩
theorem arr1 {a : Array Value} (h : a.toList.length = 1) : ∃ v0, a = #[v0] := by
  obtain ⟨l⟩ := a
  match l, h with
  | [v0], _ => exact ⟨v0, rfl⟩
theorem arr2 {a : Array Value} (h : a.toList.length = 2) : ∃ v0 v1, a = #[v0, v1] := by
  obtain ⟨l⟩ := a
  match l, h with
  | [v0, v1], _ => exact ⟨v0, v1, rfl⟩
theorem arr3 {a : Array Value} (h : a.toList.length = 3) : ∃ v0 v1 v2, a = #[v0, v1, v2] := by
  obtain ⟨l⟩ := a
  match l, h with
  | [v0, v1, v2], _ => exact ⟨v0, v1, v2, rfl⟩
theorem arr4 {a : Array Value} (h : a.toList.length = 4) : ∃ v0 v1 v2 v3, a = #[v0, v1, v2, v3] := by
  obtain ⟨l⟩ := a
  match l, h with
  | [v0, v1, v2, v3], _ => exact ⟨v0, v1, v2, v3, rfl⟩
theorem arr5 {a : Array Value} (h : a.toList.length = 5) : ∃ v0 v1 v2 v3 v4, a = #[v0, v1, v2, v3, v4] := by
  obtain ⟨l⟩ := a
  match l, h with
  | [v0, v1, v2, v3, v4], _ => exact ⟨v0, v1, v2, v3, v4, rfl⟩
theorem arr6 {a : Array Value} (h : a.toList.length = 6) : ∃ v0 v1 v2 v3 v4 v5, a = #[v0, v1, v2, v3, v4, v5] := by
  obtain ⟨l⟩ := a
  match l, h with
  | [v0, v1, v2, v3, v4, v5], _ => exact ⟨v0, v1, v2, v3, v4, v5, rfl⟩
/-- a slice of 32-bit floats, as it is read -/
theorem inv_F {H : Type} {enc : TypeId × Value → H} {P : Program} {W : World} {base : Nat} {spare : Nat → Bool} {held : Bool} {t e n : Nat} {v : Value} {x : DataW H × List MemPlace} (ht : P.underlying t = some (.slice e)) (he : P.underlying e = some (.float .f32)) (hc : P.cellsOf e = 1) (hx : DataW.trod enc P W base spare held n t [v] = some x) :
    ∃ (xs : List Nat) (a : Option Addr) (c : Nat), v = .slice a xs.length c ∧ RdF (MA W) a xs.length xs ∧ xs.length ≤ maxLen := by
  obtain ⟨xs, h1, h2, _⟩ := inv_floats ht he hc hx
  obtain ⟨a, c, hv, hr⟩ := RdF.ofRd h1
  exact ⟨xs, a, c, hv, hr, h2⟩
end Go.Proofs.Ytkbpdgacfeachaa.Ab
