/-
  Numbers: scaling by powers of two.
-/
import Derived.Test.YtimdimgihlojcaaNu
namespace Go.Proofs.Ytimdimgihlojcaa.Ab
open Go Go.RowKit
set_option linter.unusedVariables false
set_option linter.unusedSimpArgs false

/-- the word of the double with sign s, exponent field q and fraction f -/
def dw (s : Bool) (q f : Nat) : Nat := FloatKind.f64.format.word s (q * 4503599627370496 + f)
abbrev fB : Nat := 4503599627370496
theorem bin64 : FloatKind.f64.format.binade = 4503599627370496 := by decide
theorem inf64 : FloatKind.f64.format.infRung = 9218868437227405312 := by decide
theorem dw_lt {s : Bool} {q f : Nat} (hq : q ≤ 2046) (hf : f < 4503599627370496) : dw s q f < 18446744073709551616 := by
  unfold dw Ieee.Format.word; rw [sw64]; cases s <;> simp <;> omega
theorem dw_rung {q f : Nat} (hq : q ≤ 2046) (hf : f < 4503599627370496) : q * 4503599627370496 + f < FloatKind.f64.format.infRung := by rw [inf64]; omega
theorem rv_norm {q f : Nat} (hq : 1 ≤ q) (hf : f < 4503599627370496) : T.rv FloatKind.f64.format (q * 4503599627370496 + f) = (4503599627370496 + f) <<< (q - 1) := by
  unfold T.rv
  rw [bin64, if_neg (by omega)]
  have e1 : (q * 4503599627370496 + f) % 4503599627370496 = f := by omega
  have e2 : (q * 4503599627370496 + f) / 4503599627370496 = q := by omega
  rw [e1, e2]
theorem sv_dw {s : Bool} {q f : Nat} (hq : 1 ≤ q ∧ q ≤ 2046) (hf : f < 4503599627370496) : sv .f64 (dw s q f) = some (Ieee.signed s ((4503599627370496 + f) <<< (q - 1)) 0) := by
  have h := sv_word .f64 s (q * 4503599627370496 + f) (dw_rung hq.2 hf)
  rw [rv_norm hq.1 hf] at h
  exact h
theorem sv_dw0 (s : Bool) : sv .f64 (dw s 0 0) = some 0 := by cases s <;> decide
theorem dec_dw {s : Bool} {q f : Nat} (hq : 1 ≤ q ∧ q ≤ 2046) (hf : f < 4503599627370496) : FloatKind.f64.decode (dw s q f) = .number s (4503599627370496 + f) ((q : Int) - 1075) := by
  have h1 : dw s q f % 9223372036854775808 = q * 4503599627370496 + f := by
    unfold dw Ieee.Format.word; rw [sw64]; cases s <;> simp <;> omega
  have h2 : (dw s q f / 9223372036854775808 % 2 == 1) = s := by
    unfold dw Ieee.Format.word; rw [sw64]
    cases s
    · have : (q * 4503599627370496 + f) / 9223372036854775808 = 0 := by omega
      simp [this]
    · have : (9223372036854775808 + (q * 4503599627370496 + f)) / 9223372036854775808 = 1 := by omega
      simp [this]
  show FloatKind.f64.format.read (dw s q f) = _
  unfold Ieee.Format.read
  rw [sw64, bin64, inf64]
  simp only [h1, h2]
  rw [if_neg (by omega), if_pos (by omega)]
  have e1 : (q * 4503599627370496 + f) % 4503599627370496 = f := by omega
  have e2 : (q * 4503599627370496 + f) / 4503599627370496 = q := by omega
  rw [e1, e2]
  have e3 : FloatKind.f64.format.leastPlace = -1074 := by decide
  rw [e3]
  congr 1
  omega
/-- 2 to the power of k -/
def twoB (k : Int) : Nat := dw false (k + 1023).toNat 0
/-- scaled by 2 to the power of k, by the exponent field -/
theorem mul_two {s : Bool} {q f : Nat} {k : Int} (hq : 1 ≤ q ∧ q ≤ 2046) (hf : f < 4503599627370496) (hk : -1022 ≤ k ∧ k ≤ 1023) (hqk : 1 ≤ q + k ∧ q + k ≤ 2046) :
    fmul .f64 (dw s q f) (twoB k) = dw s (q + k).toNat f ∧ fmul .f64 (twoB k) (dw s q f) = dw s (q + k).toNat f := by
  have h1 := dec_dw (s := s) hq hf
  have h2 := dec_dw (s := false) (q := (k + 1023).toNat) (f := 0) (by omega) (by decide)
  have key : FloatKind.f64.format.nearest s ((4503599627370496 + f) * 4503599627370496) ((q : Int) - 1075 + (((k + 1023).toNat : Int) - 1075)) = dw s (q + k).toNat f := by
    have hE : (q : Int) - 1075 + (((k + 1023).toNat : Int) - 1075) = (q + k) - 1127 := by omega
    rw [hE]
    refine near_exact (k := .f64) (R := (q + k).toNat * 4503599627370496 + f) (-1126) (by omega) (by omega) (dw_rung (by omega) hf) ?_
    rw [rv_norm (by omega) hf]
    have e1 : ((q : Int) + k - 1127 - -1126).toNat = (q + k).toNat - 1 := by omega
    have e2 : (-1074 - (-1126 : Int)).toNat = 52 := by decide
    rw [e1, e2]
    show _ = (((4503599627370496 + f) <<< ((q + k).toNat - 1)) <<< 0) <<< 52
    rw [Nat.shiftLeft_zero, Nat.shiftLeft_eq, Nat.shiftLeft_eq, Nat.shiftLeft_eq, Nat.mul_right_comm]
  have hn : ∀ x y : Nat, FloatKind.f64.format.mul x y = some (dw s (q + k).toNat f) → fmul .f64 x y = dw s (q + k).toNat f := by
    intro x y h
    show fop .mul .f64 x y = _
    unfold fop
    have : floatBits .mul .f64 x y = some (dw s (q + k).toNat f) := h
    rw [this]
    exact sv_cb (sv_dw (by omega) hf)
  have h1' : FloatKind.f64.format.read (dw s q f) = .number s (4503599627370496 + f) ((q : Int) - 1075) := h1
  have h2' : FloatKind.f64.format.read (twoB k) = .number false (4503599627370496 + 0) ((((k + 1023).toNat : Nat) : Int) - 1075) := h2
  constructor
  · refine hn _ _ ?_
    unfold Ieee.Format.mul
    rw [h1', h2']
    show some (FloatKind.f64.format.nearest (s ^^ false) ((4503599627370496 + f) * (4503599627370496 + 0)) _) = _
    rw [Bool.xor_false, Nat.add_zero, key]
  · refine hn _ _ ?_
    unfold Ieee.Format.mul
    rw [h1', h2']
    show some (FloatKind.f64.format.nearest (false ^^ s) ((4503599627370496 + 0) * (4503599627370496 + f)) _) = _
    rw [Bool.false_xor, Nat.add_zero, Nat.mul_comm, Int.add_comm, key]
theorem mul_two0 (s : Bool) {k : Int} (hk : -1022 ≤ k ∧ k ≤ 1023) : fmul .f64 (dw s 0 0) (twoB k) = dw s 0 0 := by
  have h2 := dec_dw (s := false) (q := (k + 1023).toNat) (f := 0) (by omega) (by decide)
  have h2' : FloatKind.f64.format.read (twoB k) = .number false (4503599627370496 + 0) ((((k + 1023).toNat : Nat) : Int) - 1075) := h2
  have h1' : FloatKind.f64.format.read (dw s 0 0) = .number s 0 (-1074) := by cases s <;> decide
  show fop .mul .f64 _ _ = _
  unfold fop
  have : floatBits .mul .f64 (dw s 0 0) (twoB k) = some (dw s 0 0) := by
    show FloatKind.f64.format.mul _ _ = _
    unfold Ieee.Format.mul
    rw [h1', h2']
    show some (FloatKind.f64.format.nearest (s ^^ false) (0 * (4503599627370496 + 0)) _) = _
    rw [Bool.xor_false, Nat.zero_mul]
    unfold Ieee.Format.nearest
    rw [if_pos rfl]; rfl
  rw [this]
  exact sv_cb (sv_dw0 s)
/-- a finite word by its parts -/
theorem dw_of {b : Nat} {a : Int} (h : sv .f64 b = some a) (hb : b < 18446744073709551616) : ∃ s q f, b = dw s q f ∧ f < 4503599627370496 ∧ q ≤ 2046 := by
  have h1 := (sv_fin h).1
  unfold rg at h1
  rw [sw64, inf64] at h1
  refine ⟨decide (9223372036854775808 ≤ b), b % 9223372036854775808 / 4503599627370496, b % 9223372036854775808 % 4503599627370496, ?_, Nat.mod_lt _ (by decide), by omega⟩
  unfold dw Ieee.Format.word
  rw [sw64]
  by_cases hs : 9223372036854775808 ≤ b
  · rw [decide_eq_true hs, if_pos rfl]; omega
  · rw [decide_eq_false hs, if_neg (by decide)]; omega
/-- the exponent field of a number between two powers of two -/
theorem dw_abs {s : Bool} {q f : Nat} {a : Int} (h : sv .f64 (dw s q f) = some a) (hq : q ≤ 2046) (hf : f < 4503599627370496) : a.natAbs = T.rv FloatKind.f64.format (q * 4503599627370496 + f) := by
  have habs := sv_abs h
  have hr : rg .f64 (dw s q f) = q * 4503599627370496 + f := rg_word .f64 s _ (Nat.lt_trans (dw_rung hq hf) (inf_sw _))
  have hup : up .f64 = 0 := rfl
  rw [hr, hup, Nat.shiftLeft_zero] at habs
  exact habs
theorem dw_zero {s : Bool} {q f : Nat} (h : sv .f64 (dw s q f) = some 0) (hq : q ≤ 2046) (hf : f < 4503599627370496) : q = 0 ∧ f = 0 := by
  have habs := dw_abs h hq hf
  by_cases h0 : q = 0
  · subst h0
    unfold T.rv at habs
    rw [bin64, if_pos (by omega)] at habs
    simp at habs
    exact ⟨rfl, by omega⟩
  · exfalso
    rw [rv_norm (by omega) hf, Nat.shiftLeft_eq] at habs
    have : 0 < (4503599627370496 + f) * 2 ^ (q - 1) := Nat.mul_pos (by omega) (Nat.pow_pos (by decide))
    simp at habs
    omega
theorem dw_field {s : Bool} {q f : Nat} {a : Int} {lo hi : Nat} (h : sv .f64 (dw s q f) = some a) (hq : q ≤ 2046) (hf : f < 4503599627370496) (h1 : pow2 lo ≤ a.natAbs) (h2 : a.natAbs < pow2 hi) (hlo : 53 ≤ lo) : 1 ≤ q ∧ lo < q + 52 ∧ q + 51 < hi := by
  unfold pow2 at h1 h2
  have habs := dw_abs h hq hf
  by_cases h0 : q = 0
  · exfalso
    subst h0
    unfold T.rv at habs
    rw [bin64, if_pos (by omega)] at habs
    have : 2 ^ 53 ≤ 2 ^ lo := Nat.pow_le_pow_right (by decide) hlo
    have e : (2 : Nat) ^ 53 = 9007199254740992 := by decide
    omega
  · rw [rv_norm (by omega) hf, Nat.shiftLeft_eq] at habs
    have b1 : 4503599627370496 * 2 ^ (q - 1) ≤ (4503599627370496 + f) * 2 ^ (q - 1) := Nat.mul_le_mul_right _ (by omega)
    have b2 : (4503599627370496 + f) * 2 ^ (q - 1) < 9007199254740992 * 2 ^ (q - 1) := Nat.mul_lt_mul_of_pos_right (by omega) (Nat.pow_pos (by decide))
    have e1 : 4503599627370496 * 2 ^ (q - 1) = 2 ^ (q + 51) := by
      rw [show (4503599627370496 : Nat) = 2 ^ 52 from by decide, ← Nat.pow_add]; congr 1; omega
    have e2 : 9007199254740992 * 2 ^ (q - 1) = 2 ^ (q + 52) := by
      rw [show (9007199254740992 : Nat) = 2 ^ 53 from by decide, ← Nat.pow_add]; congr 1; omega
    rw [e1] at b1
    rw [e2] at b2
    refine ⟨by omega, ?_, ?_⟩
    · exact (Nat.pow_lt_pow_iff_right (by decide)).1 (Nat.lt_of_le_of_lt h1 (by omega))
    · exact (Nat.pow_lt_pow_iff_right (by decide)).1 (Nat.lt_of_le_of_lt (by omega) h2)
theorem pow2_mono {a b : Nat} (h : a ≤ b) : pow2 a ≤ pow2 b := by unfold pow2; exact Nat.pow_le_pow_right (by decide) h
/-- bounds are scaled too -/
theorem scale_le {N c p t : Nat} {k : Int} (h : N * 2 ^ p ≤ c * pow2 t) (hp : 0 ≤ p + k) (ht : 0 ≤ t + k) : N * 2 ^ (p + k).toNat ≤ c * pow2 (t + k).toNat := by
  rcases Int.le_total 0 k with hk | hk
  · have e1 : (p + k).toNat = p + k.toNat := by omega
    have e2 : (t + k).toNat = t + k.toNat := by omega
    rw [e1, e2, Nat.pow_add, pow2_add, ← Nat.mul_assoc, ← Nat.mul_assoc]
    exact Nat.mul_le_mul_right _ h
  · have e1 : p = (p + k).toNat + (-k).toNat := by omega
    have e2 : t = (t + k).toNat + (-k).toNat := by omega
    rw [e1, e2, Nat.pow_add, pow2_add, ← Nat.mul_assoc, ← Nat.mul_assoc] at h
    exact Nat.le_of_mul_le_mul_right h (pow2_pos _)
end Go.Proofs.Ytimdimgihlojcaa.Ab
