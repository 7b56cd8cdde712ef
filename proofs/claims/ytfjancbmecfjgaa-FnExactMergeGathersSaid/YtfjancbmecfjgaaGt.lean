/-
  Walks: a trace divided by its mean size about each number; the law FnExactGainTrace.
-/
import Derived.Test.YtfjancbmecfjgaaPc
import Derived.Test.YtfjancbmecfjgaaEs
namespace Go.Proofs.Ytfjancbmecfjgaa.Ab
open Go Go.RowKit
attribute [local irreducible] Run Then InBlock LoopQ LQ1 LQ2 LQ3 LQ4 LQ5 LQ6 AWp Ret ACall
set_option linter.unusedVariables false
set_option linter.unusedSimpArgs false

section
variable {P : Program} {n : Nat} {ops : Array Oper} {st : Option (List Nat)} {Q : Tm → Mem → Prop} {fl : Bool} {lo : List (Oper × Bool)} {T : Tm} {M : Mem} {d : Option Nat} {ty : Nat} {pos : String} {after : Array Edge}
/-- a part of a slice between integers -/
theorem slLHi {t e size bytes : Nat} {z : Value} [hu : UnderT P t (.slice e)] [hi : InfoT P e size bytes z] {x y1 y2 : Operand} {a : Option Addr} {m c : Nat} {k1 k2 : IntKind} {l h : Int}
    (ex : ev T x = some (.slice a m c)) (el : ev T y1 = some (.int k1 l)) (eh : ev T y2 = some (.int k2 h)) (h0 : 0 ≤ l) (h1 : l ≤ h) (h2 : h ≤ c)
    (kk : Run P n ops st Q lo (putT n d (.slice (cut1 a c l.toNat size) (h.toNat - l.toNat) (c - l.toNat)) T) M) : Run P n ops st Q ((⟨d, .slice t x (some y1) (some y2) none, ty, pos, after, none⟩, fl) :: lo) T M :=
  slLH ex (by rw [el, Int.toNat_of_nonneg h0]) (by rw [eh, Int.toNat_of_nonneg (by omega)]) (by omega) (by omega) kk
end
-- @reg spec.l03Energy : c_l03Energy _ _ _ _ _ @RD@ @BD@
/-- the part of a trace about a number -/
abbrev gnL (n : Nat) (r : Int) (i : Nat) : Int := max 0 ((i : Int) - r)
abbrev gnH (n : Nat) (r : Int) (i : Nat) : Int := min (n : Int) ((i : Int) + r + 1)
abbrev gnP (xs : List Nat) (r : Int) (i : Nat) : List Nat := (xs.drop (gnL xs.length r i).toNat).take ((gnH xs.length r i).toNat - (gnL xs.length r i).toNat)
abbrev gnR (xs : List Nat) (r : Int) (i : Nat) : Nat := sqF (fdiv .f32 (enS (gnP xs r i) (gnP xs r i).length) (fofint .f32 (gnH xs.length r i - gnL xs.length r i)))
def gnF (xs : List Nat) (r : Int) (i : Nat) : Nat := if fcmp .eql .f32 (gnR xs r i) 0 = true then 0 else fdiv .f32 (xs.getD i 0) (gnR xs r i)
theorem gnF_no {xs : List Nat} {r : Int} {i : Nat} (h : fcmp .eql .f32 (gnR xs r i) 0 = true) : gnF xs r i = 0 := by unfold gnF; rw [if_pos h]
theorem gnF_yes {xs : List Nat} {r : Int} {i : Nat} (h : fcmp .eql .f32 (gnR xs r i) 0 = false) : gnF xs r i = fdiv .f32 (xs.getD i 0) (gnR xs r i) := by unfold gnF; rw [if_neg (by rw [h]; decide)]
theorem fcmp_ne (k : FloatKind) (x y : Nat) : fcmp .neq k x y = !fcmp .eql k x y := rfl
theorem ne_t {k : FloatKind} {x y : Nat} (h : fcmp .neq k x y = true) : fcmp .eql k x y = false := by rw [fcmp_ne] at h; revert h; cases fcmp .eql k x y <;> decide
theorem ne_f {k : FloatKind} {x y : Nat} (h : fcmp .neq k x y = false) : fcmp .eql k x y = true := by rw [fcmp_ne] at h; revert h; cases fcmp .eql k x y <;> decide
def gnB (n : Nat) (r : Int) : Bool := inB n 1 128 && inB r 0 128
theorem set_sm {A : List Nat} {i : Nat} (h : A.getD i 0 = 0) : A.set i 0 = A := by
  apply List.ext_getElem
  · simp
  · intro j h1 h2
    rw [List.getElem_set]
    split
    · rename_i e; subst e
      simp [List.getD, h2] at h
      exact h.symm
    · rfl
end Go.Proofs.Ytfjancbmecfjgaa.Ab
