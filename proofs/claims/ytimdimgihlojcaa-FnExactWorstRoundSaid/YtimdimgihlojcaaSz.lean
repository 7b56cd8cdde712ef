/-
  Sizes of numbers: both ways to take the sign off give the same word where it counts.
-/
import Derived.Test.YtimdimgihlojcaaBi
namespace Go.Proofs.Ytimdimgihlojcaa.Ab
open Go Go.RowKit
set_option linter.unusedVariables false
set_option linter.unusedSimpArgs false

theorem write_lt (d : Ieee.Datum) : FloatKind.f32.format.write d < 4294967296 := by
  have hw : ∀ (s : Bool) (r : Nat), r < 2147483648 → FloatKind.f32.format.word s r < 4294967296 := by
    intro s r h
    have : FloatKind.f32.format.word s r = if s then 2147483648 + r else r := rfl
    rw [this]; split <;> omega
  cases d with
  | number s m e =>
    show FloatKind.f32.format.nearest s m e < _
    rw [T.nearest_rung]
    exact hw _ _ (Nat.lt_of_le_of_lt (T.rung_le_inf _ _ _) (by decide))
  | infinity s => exact hw _ _ (by decide)
  | nan s f =>
    refine hw _ _ ?_
    have h1 : FloatKind.f32.format.infRung + f % FloatKind.f32.format.binade < FloatKind.f32.format.infRung + FloatKind.f32.format.binade := Nat.add_lt_add_left (Nat.mod_lt _ (by decide)) _
    exact Nat.lt_of_lt_of_le h1 (by decide)
theorem opt_lt {o : Option Ieee.Datum} {r : Nat} (h : o.map FloatKind.f32.format.write = some r) : r < 4294967296 := by
  cases o with
  | none => cases h
  | some d => cases h; exact write_lt d
theorem fsub_lt (a b : Nat) : fsub .f32 a b < 4294967296 := by
  show fop .sub .f32 a b < _
  unfold fop
  cases hf : floatBits .sub .f32 a b with
  | none => decide
  | some r =>
    have hr : r < 4294967296 := by
      have : FloatKind.f32.format.sub a b = some r := hf
      unfold Ieee.Format.sub at this
      exact opt_lt this
    show cb .f32 r < _
    unfold cb
    split
    · decide
    · exact hr
theorem word_of {w : Nat} (h : w < 4294967296) : w = (if sg .f32 w then 2147483648 else 0) + rg .f32 w := by
  unfold sg rg
  rw [sw32]
  by_cases hw : w < 2147483648
  · have e : w / 2147483648 = 0 := Nat.div_eq_of_lt hw
    rw [e, Nat.mod_eq_of_lt hw]; simp
  · have e : w / 2147483648 = 1 := by omega
    rw [e]
    show w = 2147483648 + w % 2147483648
    omega
theorem inf_rg {y : Nat} {s : Bool} (h : FloatKind.f32.decode y = .infinity s) : rg .f32 y = 2139095040 ∧ sg .f32 y = s := by
  unfold FloatKind.decode Ieee.Format.read at h
  simp only at h
  split at h
  · cases h
  · split at h
    · cases h
    · split at h
      · rename_i h3
        injection h with h
        exact ⟨h3, h⟩
      · cases h
theorem neg_lt {y : Nat} (h : y < 4294967296) : Op.negFloat .f32 y < 4294967296 := by
  unfold Op.negFloat
  have e : (4294967296 : Nat) = 2 ^ 32 := by decide
  rw [e] at h ⊢
  exact Nat.xor_lt_two_pow h (by decide)
theorem absF_rg {y : Nat} (h : nanB .f32 y = false) : absF y = rg .f32 y := by
  rcases word_cases .f32 y with h1 | ⟨s, h1⟩ | ⟨a, h1⟩
  · rw [h] at h1; cases h1
  · rw [(absF_inf h1).1, (inf_rg h1).1]
  · exact (absF_num h1).1
theorem absF_geq {y : Nat} (h : nanB .f32 y = false) : fcmp .geq .f32 (absF y) 0 = true := by
  rcases word_cases .f32 y with h1 | ⟨s, h1⟩ | ⟨a, h1⟩
  · rw [h] at h1; cases h1
  · rw [(absF_inf h1).1]; decide
  · rw [geq_sv (absF_num h1).2.2 (sv_zero .f32)]; simp
theorem gtr_notnan {x y : Nat} (h : fcmp .gtr .f32 x y = true) : nanB .f32 x = false := by
  cases hn : nanB .f32 x with
  | false => rfl
  | true => unfold fcmp at h; simp only [order_nan_l hn] at h; revert h; decide
theorem szF_nan {y : Nat} : nanB .f32 (szF y) = nanB .f32 y := by
  rcases szF_absF y with ⟨h1, h2⟩ | ⟨s, h1, h2⟩ | ⟨a, h1, h2⟩
  · rw [h1]
    cases hn : nanB .f32 y with
    | true => rfl
    | false => rw [absF_rg hn] at h2; rcases word_cases .f32 y with g | ⟨s, g⟩ | ⟨a, g⟩
               · rw [hn] at g; cases g
               · rw [(inf_rg g).1] at h2; revert h2; decide
               · rw [← absF_rg hn, sv_notnan (absF_num g).2.2] at h2; cases h2
  · cases hn : nanB .f32 y with
    | false => unfold nanB; rw [h1]; rfl
    | true => exfalso; rw [(absF_nan hn).1] at h2; revert h2; cases s <;> decide
  · cases hn : nanB .f32 y with
    | false => exact sv_notnan h1
    | true => rw [(absF_nan hn).1] at h2; exact absurd (sv_notnan h2) (by decide)
/-- where the size is greater than a number not below nought, both sizes are one word -/
theorem sz_abs {y m : Nat} (hy : y < 4294967296) (hm : fcmp .geq .f32 m 0 = true) (h : fcmp .gtr .f32 (szF y) m = true) : szF y = absF y := by
  have hn : nanB .f32 y = false := by rw [← szF_nan]; exact gtr_notnan h
  rw [absF_rg hn]
  have hw := word_of hy
  cases hl : fcmp .lss .f32 y 0 with
  | true =>
    have hs : sg .f32 y = true := by
      rcases word_cases .f32 y with g | ⟨s, g⟩ | ⟨a, g⟩
      · rw [hn] at g; cases g
      · unfold fcmp at hl
        simp only [order_inf_l g (sv_zero .f32)] at hl
        rw [(inf_rg g).2]
        cases s
        · revert hl; decide
        · rfl
      · rw [lss_sv g (sv_zero .f32)] at hl
        have ha := (sv_fin g).2
        cases hsg : sg .f32 y with
        | true => rfl
        | false =>
          rw [hsg] at ha
          have : 0 ≤ a := by rw [ha]; unfold Ieee.signed; simp only [Bool.false_eq_true, if_false]; exact Int.natCast_nonneg _
          simp at hl; omega
    unfold szF
    rw [if_pos hl]
    obtain ⟨n1, n2⟩ := neg_low .f32 y
    have hw2 := word_of (neg_lt hy)
    rw [n1, n2, hs] at hw2
    simp at hw2
    unfold fneg
    rw [hw2]
    have hnn : nanB .f32 (rg .f32 y) = false := by
      rw [← absF_rg hn]
      have := gtr_notnan h
      rcases szF_absF y with ⟨h1, h2⟩ | ⟨s, h1, h2⟩ | ⟨a, h1, h2⟩
      · rw [h1] at this; cases this
      · unfold nanB; rw [h2]; rfl
      · exact sv_notnan h2
    exact cb_notnan hnn
  | false =>
    have hsz : szF y = y := by unfold szF; rw [if_neg (by rw [hl]; decide)]
    rw [hsz] at h ⊢
    cases hs : sg .f32 y with
    | false => rw [hs] at hw; simpa using hw
    | true =>
      exfalso
      rcases word_cases .f32 y with g | ⟨s, g⟩ | ⟨a, g⟩
      · rw [hn] at g; cases g
      · have hss := (inf_rg g).2
        rw [hs] at hss
        subst hss
        unfold fcmp at hl
        simp only [order_inf_l g (sv_zero .f32)] at hl
        revert hl; decide
      · rw [lss_sv g (sv_zero .f32)] at hl
        have ha := (sv_fin g).2
        rw [hs] at ha
        have : a ≤ 0 := by rw [ha]; unfold Ieee.signed; simp only [if_true]; exact Int.neg_nonpos_of_nonneg (Int.natCast_nonneg _)
        have ha0 : a = 0 := by simp at hl; omega
        subst ha0
        rcases word_cases .f32 m with k | ⟨t, k⟩ | ⟨b, k⟩
        · unfold fcmp at h; simp only [order_nan_r k] at h; revert h; decide
        · unfold fcmp at h hm
          simp only [order_inf_r g k] at h
          simp only [order_inf_l k (sv_zero .f32)] at hm
          cases t
          · revert h; decide
          · revert hm; decide
        · rw [gtr_sv g k] at h
          rw [geq_sv k (sv_zero .f32)] at hm
          simp at h hm; omega
end Go.Proofs.Ytimdimgihlojcaa.Ab
