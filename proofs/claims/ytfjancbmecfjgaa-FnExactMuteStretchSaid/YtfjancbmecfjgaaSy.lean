/-
  Sizes of numbers in quotients; the greatest size of a list.
-/
import Derived.Test.YtfjancbmecfjgaaSz
import Derived.Test.YtfjancbmecfjgaaSg
namespace Go.Proofs.Ytfjancbmecfjgaa.Ab
open Go Go.RowKit
set_option linter.unusedVariables false
set_option linter.unusedSimpArgs false

theorem fop_dec {op : BinOp} {k : FloatKind} {x x' y y' : Nat} (h : k.decode x = k.decode x') (g : k.decode y = k.decode y') : fop op k x y = fop op k x' y' := by
  have h' : k.format.read x = k.format.read x' := h
  have g' : k.format.read y = k.format.read y' := g
  unfold fop
  have : floatBits op k x y = floatBits op k x' y' := by
    cases op <;> simp [floatBits, Ieee.Format.add, Ieee.Format.sub, Ieee.Format.mul, Ieee.Format.div, h', g']
  rw [this]
theorem fcmp_dec {op : BinOp} {k : FloatKind} {x x' y y' : Nat} (h : k.decode x = k.decode x') (g : k.decode y = k.decode y') : fcmp op k x y = fcmp op k x' y' := by
  have h' : k.format.read x = k.format.read x' := h
  have g' : k.format.read y = k.format.read y' := g
  have : k.format.order x y = k.format.order x' y' := by unfold Ieee.Format.order; rw [h', g']
  unfold fcmp; rw [this]
theorem dec_of {k : FloatKind} {x y : Nat} (h1 : rg k x = rg k y) (h2 : sg k x = sg k y) : k.decode x = k.decode y := by
  show k.format.read x = k.format.read y
  unfold rg at h1
  unfold sg at h2
  unfold Ieee.Format.read
  simp only [h1, h2]
theorem poB_dec {x y : Nat} (h : FloatKind.f32.decode x = FloatKind.f32.decode y) : poB x = poB y := by
  unfold poB finB
  have e : fsub .f32 x x = fsub .f32 y y := fop_dec h h
  rw [e, fcmp_dec (op := .gtr) (y := 0) (y' := 0) h rfl]
theorem mod_rg (y : Nat) : rg .f32 (y % 4294967296) = rg .f32 y ∧ sg .f32 (y % 4294967296) = sg .f32 y := by
  have e : FloatKind.f32.format.signWeight = 2147483648 := by decide
  unfold rg sg
  rw [e]
  constructor
  · omega
  · have : y % 4294967296 / 2147483648 % 2 = y / 2147483648 % 2 := by omega
    rw [this]
theorem nan_dec {k : FloatKind} {x y : Nat} (h : k.decode x = k.decode y) : nanB k x = nanB k y := by unfold nanB; rw [h]
theorem szF_dec (y : Nat) : FloatKind.f32.decode (szF (y % 4294967296)) = FloatKind.f32.decode (szF y) := by
  obtain ⟨h1, h2⟩ := mod_rg y
  have hd := dec_of h1 h2
  have hl : fcmp .lss .f32 (y % 4294967296) 0 = fcmp .lss .f32 y 0 := fcmp_dec hd rfl
  unfold szF
  rw [hl]
  split
  · obtain ⟨a1, a2⟩ := neg_low .f32 y
    obtain ⟨b1, b2⟩ := neg_low .f32 (y % 4294967296)
    have hd2 := dec_of (k := .f32) (x := Op.negFloat .f32 (y % 4294967296)) (y := Op.negFloat .f32 y) (by rw [a1, b1, h1]) (by rw [a2, b2, h2])
    unfold fneg cb
    rw [nan_dec hd2]
    split
    · rfl
    · exact hd2
  · exact hd
/-- where the size is greater than a number not below nought, both sizes are one number -/
theorem sz_dec {y m : Nat} (hm : fcmp .geq .f32 m 0 = true) (h : fcmp .gtr .f32 (szF y) m = true) : FloatKind.f32.decode (szF y) = FloatKind.f32.decode (absF y) := by
  have hn : nanB .f32 y = false := by rw [← szF_nan]; exact gtr_notnan h
  obtain ⟨h1, h2⟩ := mod_rg y
  have hd := dec_of h1 h2
  have hn' : nanB .f32 (y % 4294967296) = false := by rw [nan_dec hd]; exact hn
  have e := sz_abs (y := y % 4294967296) (m := m) (by omega) hm (by rw [fcmp_dec (szF_dec y) rfl]; exact h)
  rw [← szF_dec y, e, absF_rg hn, absF_rg hn', h1]
theorem absF_zero {y : Nat} (hn : nanB .f32 y = false) (h : fcmp .gtr .f32 (szF y) 0 = false) : sv .f32 (szF y) = some 0 ∧ sv .f32 (absF y) = some 0 := by
  have hg := absF_geq hn
  have h' : fcmp .gtr .f32 (absF y) 0 = false := by rw [← fcmp_ordeq (szF_absF y) (ordeq_refl .f32 0)]; exact h
  rcases szF_absF y with ⟨h1, h2⟩ | ⟨s, h1, h2⟩ | ⟨a, h1, h2⟩
  · rw [szF_nan, hn] at h1; cases h1
  · exfalso
    unfold fcmp at hg h'
    simp only [order_inf_l h2 (sv_zero .f32)] at hg h'
    cases s
    · revert h'; decide
    · revert hg; decide
  · rw [geq_sv h2 (sv_zero .f32)] at hg
    rw [gtr_sv h2 (sv_zero .f32)] at h'
    simp at hg h'
    have : a = 0 := by omega
    subst this
    exact ⟨h1, h2⟩
theorem po_sv {s : Nat} (h : poB s = true) : ∃ b, sv .f32 s = some b ∧ 0 < b := by
  unfold poB at h
  obtain ⟨h1, h2⟩ := Bool.and_eq_true_iff.1 h
  rcases word_cases .f32 s with g | ⟨t, g⟩ | ⟨a, g⟩
  · exfalso
    have e : fsub .f32 s s = qn .f32 := by
      show fop .sub .f32 s s = _
      unfold fop; rw [floatBits_nan_left g]
    unfold finB at h1
    rw [e] at h1
    revert h1; decide
  · exfalso
    unfold finB at h1
    have e : fsub .f32 s s = fsub .f32 (if t then 4286578688 else 2139095040) (if t then 4286578688 else 2139095040) := by
      refine fop_dec ?_ ?_ <;> (rw [g]; cases t <;> decide)
    rw [e] at h1
    cases t <;> (revert h1; decide)
  · rw [gtr_sv g (sv_zero .f32)] at h2
    exact ⟨a, g, by simpa using h2⟩
theorem fin_nan {p : Nat} (h : finB p = true) : nanB .f32 p = false := by
  cases hn : nanB .f32 p with
  | false => rfl
  | true =>
    have e : fsub .f32 p p = qn .f32 := by
      show fop .sub .f32 p p = _
      unfold fop; rw [floatBits_nan_left hn]
    unfold finB at h
    rw [e] at h
    revert h; decide
/-- a size that is divided: both ways compare alike -/
theorem szq_lss {p s x : Nat} (hp : finB p = true) (hs : poB s = true) : fcmp .lss .f32 x (fdiv .f32 (szF p) s) = fcmp .lss .f32 x (fdiv .f32 (absF p) s) := by
  have hn := fin_nan hp
  cases hg : fcmp .gtr .f32 (szF p) 0 with
  | true =>
    have e : fdiv .f32 (szF p) s = fdiv .f32 (absF p) s := fop_dec (sz_dec (m := 0) (by decide) hg) rfl
    rw [e]
  | false =>
    obtain ⟨h1, h2⟩ := absF_zero hn hg
    obtain ⟨b, hb, hb0⟩ := po_sv hs
    obtain ⟨c, hc, hc2⟩ := sv_div (Q := 0) h1 hb (by omega) (by decide) (by simp)
    obtain ⟨d, hd, hd2⟩ := sv_div (Q := 0) h2 hb (by omega) (by decide) (by simp)
    rw [Nat.zero_mul] at hc2 hd2
    have : c = d := by omega
    subst this
    exact fcmp_ordeq (ordeq_refl .f32 x) (.inr (.inr ⟨c, hc, hd⟩))
theorem order_infR {k : FloatKind} {x y : Nat} {s : Bool} {b : Int} (hx : sv k x = some b) (hy : k.decode y = .infinity s) : k.format.order x y = some (if s then .gt else .lt) := by
  obtain ⟨t, n, j, h3, h4, rfl⟩ := sv_dec hx
  unfold Ieee.Format.order
  unfold FloatKind.decode at hy h3
  rw [hy, h3]; rfl
/-! ## the greatest size -/
def moF (xs : List Nat) : Nat → Nat
  | 0 => 0
  | k + 1 => if fcmp .gtr .f32 (szF (xs.getD k 0)) (moF xs k) = true then szF (xs.getD k 0) else moF xs k
theorem eql_nan (x : Nat) : fcmp .eql .f32 x x = !nanB .f32 x := fcmp_eql_self
theorem mo_inv (xs : List Nat) : ∀ k, k ≤ xs.length → (bsz xs k < 0 ∧ moF xs k = 0) ∨
    (0 ≤ bsz xs k ∧ bsz xs k < k ∧ nanB .f32 (xs.getD (bsz xs k).toNat 0) = false ∧ ((moF xs k = 0 ∧ fcmp .gtr .f32 (szF (xs.getD (bsz xs k).toNat 0)) 0 = false) ∨ (moF xs k = szF (xs.getD (bsz xs k).toNat 0) ∧ fcmp .gtr .f32 (szF (xs.getD (bsz xs k).toNat 0)) 0 = true))) := by
  intro k
  induction k with
  | zero => intro _; exact .inl ⟨by simp [bsz, bst], rfl⟩
  | succ k ih =>
    intro hk
    have hk2 : k < xs.length := by omega
    have ih := ih (by omega)
    have hb := bsz_succ hk2
    have hm : moF xs (k + 1) = if fcmp .gtr .f32 (szF (xs.getD k 0)) (moF xs k) = true then szF (xs.getD k 0) else moF xs k := rfl
    rw [eql_nan] at hb
    cases hn : nanB .f32 (xs.getD k 0) with
    | true =>
      have hg : ∀ m, fcmp .gtr .f32 (szF (xs.getD k 0)) m = false := fun m => by
        cases h : fcmp .gtr .f32 (szF (xs.getD k 0)) m with
        | false => rfl
        | true => have := gtr_notnan h; rw [szF_nan, hn] at this; cases this
      rw [hn] at hb
      simp only [Bool.not_true, Bool.false_eq_true, false_and, if_false] at hb
      rw [hg] at hm
      simp only [Bool.false_eq_true, if_false] at hm
      rw [hb, hm]
      rcases ih with ih | ⟨a1, a2, a3, a4⟩
      · exact .inl ih
      · exact .inr ⟨a1, by omega, a3, a4⟩
    | false =>
      rw [hn] at hb
      simp only [Bool.not_false, true_and] at hb
      rcases ih with ⟨a1, a2⟩ | ⟨a1, a2, a3, a4⟩
      · rw [if_pos (.inl a1)] at hb
        right
        rw [hb, hm, a2]
        refine ⟨by omega, by omega, by rw [Int.toNat_natCast]; exact hn, ?_⟩
        rw [Int.toNat_natCast]
        cases hg : fcmp .gtr .f32 (szF (xs.getD k 0)) 0 with
        | true => exact .inr ⟨by simp, rfl⟩
        | false => exact .inl ⟨by simp, rfl⟩
      · right
        have h0 : ¬ bsz xs k < 0 := by omega
        rcases a4 with ⟨b1, b2⟩ | ⟨b1, b2⟩
        · obtain ⟨c1, c2⟩ := absF_zero a3 b2
          have e : fcmp .gtr .f32 (szF (xs.getD k 0)) (szF (xs.getD (bsz xs k).toNat 0)) = fcmp .gtr .f32 (szF (xs.getD k 0)) 0 := fcmp_ordeq (ordeq_refl .f32 _) (.inr (.inr ⟨0, c1, sv_zero .f32⟩))
          rw [e] at hb
          rw [b1] at hm
          cases hg : fcmp .gtr .f32 (szF (xs.getD k 0)) 0 with
          | true =>
            rw [if_pos (.inr hg)] at hb
            rw [if_pos hg] at hm
            rw [hb, hm, Int.toNat_natCast]
            exact ⟨by omega, by omega, hn, .inr ⟨rfl, hg⟩⟩
          | false =>
            rw [if_neg (by rw [hg]; simp; omega)] at hb
            rw [hg, if_neg (by decide)] at hm
            rw [hb, hm]
            exact ⟨a1, by omega, a3, .inl ⟨rfl, b2⟩⟩
        · rw [b1] at hm
          cases hg : fcmp .gtr .f32 (szF (xs.getD k 0)) (szF (xs.getD (bsz xs k).toNat 0)) with
          | true =>
            rw [if_pos (.inr hg)] at hb
            rw [if_pos hg] at hm
            rw [hb, hm, Int.toNat_natCast]
            refine ⟨by omega, by omega, hn, .inr ⟨rfl, ?_⟩⟩
            rcases word_cases .f32 (szF (xs.getD k 0)) with g | ⟨t, g⟩ | ⟨a, g⟩
            · have := gtr_notnan hg; rw [this] at g; cases g
            · have hz : fcmp .geq .f32 (absF (xs.getD k 0)) 0 = true := absF_geq hn
              rw [← fcmp_ordeq (szF_absF _) (ordeq_refl .f32 0)] at hz
              unfold fcmp at hz ⊢
              simp only [order_inf_l g (sv_zero .f32)] at hz ⊢
              cases t
              · decide
              · revert hz; decide
            · rcases word_cases .f32 (szF (xs.getD (bsz xs k).toNat 0)) with g' | ⟨t, g'⟩ | ⟨a', g'⟩
              · have := gtr_notnan b2; rw [this] at g'; cases g'
              · exfalso
                have hz : fcmp .geq .f32 (absF (xs.getD (bsz xs k).toNat 0)) 0 = true := absF_geq a3
                rw [← fcmp_ordeq (szF_absF _) (ordeq_refl .f32 0)] at hz
                have hz2 : FloatKind.f32.format.order (szF (xs.getD (bsz xs k).toNat 0)) 0 = some (if t then .lt else .gt) := order_inf_l g' (sv_zero .f32)
                cases t
                · unfold fcmp at hg
                  simp only [order_infR g g'] at hg
                  revert hg; decide
                · unfold fcmp at hz; simp only [hz2] at hz; revert hz; decide
              · rw [gtr_sv g g'] at hg
                rw [gtr_sv g' (sv_zero .f32)] at b2
                rw [gtr_sv g (sv_zero .f32)]
                simp at hg b2 ⊢
                omega
          | false =>
            rw [if_neg (by rw [hg]; simp; omega)] at hb
            rw [hg, if_neg (by decide)] at hm
            rw [hb, hm]
            exact ⟨a1, by omega, a3, .inr ⟨rfl, b2⟩⟩
/-- each number by the greatest size -/
def noF (xs : List Nat) : List Nat := if poB (moF xs xs.length) = true then tab xs.length (fun i => fdiv .f32 (xs.getD i 0) (moF xs xs.length)) else xs
def noB (xs : List Nat) : Bool := decide (bsz xs xs.length < 0) || !poB (absF (xs.getD (bsz xs xs.length).toNat 0))
theorem no_yes {xs : List Nat} (h : noB xs = true) : noF xs = xs := by
  unfold noF
  rw [if_neg]
  intro hp
  rcases mo_inv xs xs.length (Nat.le_refl _) with ⟨a1, a2⟩ | ⟨a1, a2, a3, a4⟩
  · rw [a2] at hp; revert hp; decide
  · rcases a4 with ⟨b1, b2⟩ | ⟨b1, b2⟩
    · rw [b1] at hp; revert hp; decide
    · rw [b1, poB_dec (sz_dec (m := 0) (by decide) b2)] at hp
      unfold noB at h
      rw [hp] at h
      simp at h
      omega
theorem no_no {xs : List Nat} (h : noB xs = false) : noF xs = tab xs.length (fun i => fdiv .f32 (xs.getD i 0) (absF (xs.getD (bsz xs xs.length).toNat 0))) ∧ 0 ≤ bsz xs xs.length ∧ bsz xs xs.length < xs.length := by
  unfold noB at h
  rw [Bool.or_eq_false_iff] at h
  obtain ⟨h1, h2⟩ := h
  have h1' : 0 ≤ bsz xs xs.length := by simpa using h1
  have h2' : poB (absF (xs.getD (bsz xs xs.length).toNat 0)) = true := by simpa using h2
  rcases mo_inv xs xs.length (Nat.le_refl _) with ⟨a1, a2⟩ | ⟨a1, a2, a3, a4⟩
  · omega
  · rcases a4 with ⟨b1, b2⟩ | ⟨b1, b2⟩
    · exfalso
      obtain ⟨c1, c2⟩ := absF_zero a3 b2
      obtain ⟨b, hb, hb0⟩ := po_sv h2'
      rw [c2] at hb; cases hb; omega
    · have hd := sz_dec (m := 0) (by decide) b2
      refine ⟨?_, a1, a2⟩
      unfold noF
      rw [b1, if_pos (by rw [poB_dec hd]; exact h2')]
      congr 1
      funext i
      exact fop_dec rfl hd
end Go.Proofs.Ytfjancbmecfjgaa.Ab
