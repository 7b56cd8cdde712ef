/-
  Numbers: bounds of sums, products and quotients; roots; the whole part; whole numbers as integers.
-/
import Derived.Test.YtkbpdgacfeachaaBi
namespace Go.Proofs.Ytkbpdgacfeachaa.Ab
open Go Go.RowKit
attribute [local irreducible] Run Then InBlock LoopQ LQ1 LQ2 LQ3 LQ4 LQ5 LQ6 AWp Ret ACall
set_option linter.unusedVariables false
set_option linter.unusedSimpArgs false

/-! ## bounds of operations -/
theorem natAbs_signed_add {s t : Bool} {m n u v z : Nat} : (Ieee.signed s m u + Ieee.signed t n v).natAbs <<< z = (Ieee.signed s m (u + z) + Ieee.signed t n (v + z)).natAbs := by
  rw [signed_mul, signed_mul, ← Int.add_mul, Int.natAbs_mul, Nat.shiftLeft_eq, Int.natAbs_natCast]
theorem sv_sum {k : FloatKind} {s t : Bool} {m n : Nat} {i j : Int} {K : Nat} (hi : -1074 ≤ i) (hj : -1074 ≤ j) (hK : Rep k K)
    (h : (Ieee.signed s m (i + 1074).toNat + Ieee.signed t n (j + 1074).toNat).natAbs ≤ K) :
    ∃ r, (Ieee.Datum.sum (.number s m i) (.number t n j)).map k.format.write = some r ∧ ∃ c, sv k (cb k r) = some c ∧ c.natAbs ≤ K := by
  refine ⟨_, rfl, ?_⟩
  obtain ⟨c, h1, h2, _⟩ := near_Rep (k := k) (s := if Ieee.signed s m (i - min i j).toNat + Ieee.signed t n (j - min i j).toNat = 0 then s && t else decide (Ieee.signed s m (i - min i j).toNat + Ieee.signed t n (j - min i j).toNat < 0))
    (m := (Ieee.signed s m (i - min i j).toNat + Ieee.signed t n (j - min i j).toNat).natAbs) (e := min i j) hK (-1074) (by omega) (by omega) (by
      rw [natAbs_signed_add, show (-1074 - (-1074) : Int).toNat = 0 from by decide, Nat.shiftLeft_zero,
        show (i - min i j).toNat + (min i j - (-1074)).toNat = (i + 1074).toNat from by omega, show (j - min i j).toNat + (min i j - (-1074)).toNat = (j + 1074).toNat from by omega]
      exact h)
  have h3 : sv k (k.format.write (.number (if Ieee.signed s m (i - min i j).toNat + Ieee.signed t n (j - min i j).toNat = 0 then s && t else decide (Ieee.signed s m (i - min i j).toNat + Ieee.signed t n (j - min i j).toNat < 0))
    (Ieee.signed s m (i - min i j).toNat + Ieee.signed t n (j - min i j).toNat).natAbs (min i j))) = some c := h1
  exact ⟨c, by rw [sv_cb h3]; exact h3, h2⟩
theorem sv_add {k : FloatKind} {x y : Nat} {a b : Int} {K : Nat} (hx : sv k x = some a) (hy : sv k y = some b) (hK : Rep k K) (h : (a + b).natAbs ≤ K) : ∃ c, sv k (fadd k x y) = some c ∧ c.natAbs ≤ K := by
  obtain ⟨s, m, i, h1, h2, rfl⟩ := sv_dec hx
  obtain ⟨t, n, j, g1, g2, rfl⟩ := sv_dec hy
  obtain ⟨r, e1, c, e2, e3⟩ := sv_sum (k := k) h2 g2 hK h
  have h1' : k.format.read x = .number s m i := h1
  have g1' : k.format.read y = .number t n j := g1
  have : floatBits .add k x y = some r := by
    show k.format.add x y = some r
    unfold Ieee.Format.add; rw [h1', g1']; exact e1
  refine ⟨c, ?_, e3⟩
  show sv k (fop .add k x y) = some c
  unfold fop; rw [this]; exact e2
theorem sv_sub {k : FloatKind} {x y : Nat} {a b : Int} {K : Nat} (hx : sv k x = some a) (hy : sv k y = some b) (hK : Rep k K) (h : (a - b).natAbs ≤ K) : ∃ c, sv k (fsub k x y) = some c ∧ c.natAbs ≤ K := by
  obtain ⟨s, m, i, h1, h2, rfl⟩ := sv_dec hx
  obtain ⟨t, n, j, g1, g2, rfl⟩ := sv_dec hy
  have hop : Ieee.signed (!t) n (j + 1074).toNat = -Ieee.signed t n (j + 1074).toNat := by
    unfold Ieee.signed; cases t
    · simp
    · simp
  obtain ⟨r, e1, c, e2, e3⟩ := sv_sum (k := k) (s := s) (t := !t) (m := m) (n := n) h2 g2 hK (by rw [hop, ← Int.sub_eq_add_neg]; exact h)
  have h1' : k.format.read x = .number s m i := h1
  have g1' : k.format.read y = .number t n j := g1
  have : floatBits .sub k x y = some r := by
    show k.format.sub x y = some r
    unfold Ieee.Format.sub; rw [h1', g1']; exact e1
  refine ⟨c, ?_, e3⟩
  show sv k (fop .sub k x y) = some c
  unfold fop; rw [this]; exact e2
theorem sv_mul {k : FloatKind} {x y : Nat} {a b : Int} {K : Nat} (hx : sv k x = some a) (hy : sv k y = some b) (hK : Rep k K) (h : a.natAbs * b.natAbs ≤ K * PU) : ∃ c, sv k (fmul k x y) = some c ∧ c.natAbs ≤ K := by
  obtain ⟨s, m, i, h1, h2, rfl⟩ := sv_dec hx
  obtain ⟨t, n, j, g1, g2, rfl⟩ := sv_dec hy
  rw [signed_abs, signed_abs] at h
  obtain ⟨c, e1, e2, _⟩ := near_Rep (k := k) (s := s ^^ t) (m := m * n) (e := i + j) hK (-2148) (by omega) (by omega) (by
    rw [show (-1074 - (-2148) : Int).toNat = 1074 from by decide, shl_PU, show (i + j - (-2148)).toNat = (i + 1074).toNat + (j + 1074).toNat from by omega]
    rw [Nat.shiftLeft_eq] at h ⊢
    rw [Nat.shiftLeft_eq] at h
    rw [Nat.pow_add]
    calc m * n * (2 ^ (i + 1074).toNat * 2 ^ (j + 1074).toNat) = m * 2 ^ (i + 1074).toNat * (n * 2 ^ (j + 1074).toNat) := by ac_rfl
      _ ≤ _ := h)
  have h1' : k.format.read x = .number s m i := h1
  have g1' : k.format.read y = .number t n j := g1
  have : floatBits .mul k x y = some (k.format.nearest (s ^^ t) (m * n) (i + j)) := by
    show k.format.mul x y = _
    unfold Ieee.Format.mul; rw [h1', g1']; rfl
  refine ⟨c, ?_, e2⟩
  show sv k (fop .mul k x y) = some c
  unfold fop; rw [this]
  show sv k (cb k _) = some c
  rw [sv_cb e1]; exact e1

theorem quo_bd {D n Z : Nat} (hn : 0 < n) (h : D ≤ n * Z) : 2 * (D / n) + (D % n != 0).toNat ≤ 2 * Z := by
  have h1 : D / n ≤ Z := by
    have := Nat.div_le_div_right (c := n) h
    rwa [Nat.mul_div_cancel_left _ hn] at this
  by_cases hq : D / n = Z
  · have h2 := Nat.div_add_mod D n
    rw [hq] at h2
    have h3 : D % n = 0 := by
      generalize n * Z = w at *
      omega
    rw [h3]; simp; omega
  · have : (D % n != 0).toNat ≤ 1 := by cases (D % n != 0) <;> decide
    omega
/-- a quotient of no more than a whole number Q -/
theorem sv_div {x y : Nat} {a b : Int} {Q : Nat} (hx : sv .f32 x = some a) (hy : sv .f32 y = some b) (hb : b ≠ 0) (hQ : Q < 2 ^ 24) (h : a.natAbs ≤ Q * b.natAbs) : ∃ c, sv .f32 (fdiv .f32 x y) = some c ∧ c.natAbs ≤ Q * PU := by
  obtain ⟨s, m, i, h1, h2, rfl⟩ := sv_dec hx
  obtain ⟨t, n, j, g1, g2, rfl⟩ := sv_dec hy
  obtain ⟨a1, a2, a3⟩ := read32_bounds h1
  obtain ⟨b1, b2, b3⟩ := read32_bounds g1
  rw [signed_abs, signed_abs] at h
  have hn : n ≠ 0 := by
    rintro rfl; apply hb; unfold Ieee.signed; cases t <;> simp
  have hl : n.log2 < 24 := (Nat.log2_lt hn).2 (by simpa using b1)
  have hlm : m.log2 < 24 := by
    by_cases h0 : m = 0
    · subst h0; decide
    · exact (Nat.log2_lt h0).2 (by simpa using a1)
  have h1' : FloatKind.f32.format.read x = .number s m i := h1
  have g1' : FloatKind.f32.format.read y = .number t n j := g1
  have hfb : FloatKind.f32.format.fractionBits + 2 = 25 := rfl
  generalize hmore : 25 + n.log2 - m.log2 = more at *
  generalize hD : m <<< more = D at *
  have hval : floatBits .quo .f32 x y = some (FloatKind.f32.format.nearest (s ^^ t) (2 * (D / n) + (D % n != 0).toNat) (i - j - more - 1)) := by
    show FloatKind.f32.format.div x y = _
    unfold Ieee.Format.div; rw [h1', g1']
    unfold Ieee.Datum.quotient
    simp only [hn, if_false, hfb, hmore, hD]
    rfl
  have key : ∃ c, sv .f32 (FloatKind.f32.format.nearest (s ^^ t) (2 * (D / n) + (D % n != 0).toNat) (i - j - more - 1)) = some c ∧ c.natAbs ≤ Q * PU := by
    have hp := Nat.pos_of_ne_zero hn
    -- the value is no more than Q: in whole numbers
    have hle : m <<< (i + 200).toNat ≤ Q * (n <<< (j + 200).toNat) := by
      have e1 : m <<< (i + 1074).toNat = (m <<< (i + 200).toNat) * pow2 874 := by
        rw [← shl_pow2, ← Nat.shiftLeft_add]; congr 1; omega
      have e2 : n <<< (j + 1074).toNat = (n <<< (j + 200).toNat) * pow2 874 := by
        rw [← shl_pow2, ← Nat.shiftLeft_add]; congr 1; omega
      rw [e1, e2, ← Nat.mul_assoc] at h
      exact Nat.le_of_mul_le_mul_right h (pow2_pos 874)
    by_cases hc : i ≤ j + more
    · -- D ≤ n * (Q <<< (j + more - i))
      have hD2 : D ≤ n * (Q <<< (j + more - i).toNat) := by
        have e3 : m <<< (i + 200).toNat * 2 ^ ((j + more - i).toNat) = D * 2 ^ (j + 200).toNat := by
          rw [← hD, ← Nat.shiftLeft_eq, ← Nat.shiftLeft_add, ← Nat.shiftLeft_eq, ← Nat.shiftLeft_add]; congr 1; omega
        have e4 := Nat.mul_le_mul_right (2 ^ ((j + more - i).toNat)) hle
        rw [e3] at e4
        refine Nat.le_of_mul_le_mul_right ?_ (Nat.pow_pos (n := (j + 200).toNat) (show 0 < 2 by decide))
        refine Nat.le_trans e4 (Nat.le_of_eq ?_)
        rw [Nat.shiftLeft_eq, Nat.shiftLeft_eq]
        ac_rfl
      have hq := quo_bd hp hD2
      obtain ⟨c, k1, k2, _⟩ := near_Rep (k := .f32) (s := s ^^ t) (m := 2 * (D / n) + (D % n != 0).toNat) (e := i - j - more - 1) (rep_int hQ) (min (i - j - more - 1) (-1074)) (by omega) (by omega) (by
        have hz : (-1074 - min (i - j - more - 1) (-1074)).toNat + 1074 = (i - j - more - 1 - min (i - j - more - 1) (-1074)).toNat + 1 + (j + more - i).toNat := by omega
        rw [show Q * PU = Q <<< 1074 from (shl_PU Q).symm, ← Nat.shiftLeft_add, Nat.add_comm 1074, hz]
        generalize (i - j - more - 1 - min (i - j - more - 1) (-1074)).toNat = z
        generalize (j + more - i).toNat = w at hq ⊢
        generalize 2 * (D / n) + (D % n != 0).toNat = q at hq ⊢
        rw [Nat.shiftLeft_eq] at hq
        rw [Nat.shiftLeft_eq, Nat.shiftLeft_eq, Nat.pow_add, Nat.pow_add]
        have := Nat.mul_le_mul_right (2 ^ z) hq
        refine Nat.le_trans this (Nat.le_of_eq ?_)
        rw [Nat.pow_one]; ac_rfl)
      exact ⟨c, k1, k2⟩
    · -- then m = 0
      have hm : m = 0 := by
        rcases Nat.eq_zero_or_pos m with hm | hm
        · exact hm
        exfalso
        have p1 := Nat.log2_self_le (Nat.pos_iff_ne_zero.1 hm)
        have p2 := Nat.lt_log2_self (n := n)
        have q1 : 2 ^ (m.log2 + (i + 200).toNat) ≤ m <<< (i + 200).toNat := by rw [Nat.shiftLeft_eq, Nat.pow_add]; exact Nat.mul_le_mul_right _ p1
        have q2 : Q * (n <<< (j + 200).toNat) < 2 ^ (24 + (n.log2 + 1) + (j + 200).toNat) := by
          rw [Nat.shiftLeft_eq, ← Nat.mul_assoc, Nat.pow_add]
          refine Nat.mul_lt_mul_of_pos_right ?_ (Nat.pow_pos (by decide))
          rw [Nat.pow_add]
          exact Nat.lt_of_le_of_lt (Nat.mul_le_mul_right _ (Nat.le_of_lt hQ)) (Nat.mul_lt_mul_of_pos_left p2 (by decide))
        have q3 : 2 ^ (24 + (n.log2 + 1) + (j + 200).toNat) ≤ 2 ^ (m.log2 + (i + 200).toNat) := Nat.pow_le_pow_right (by decide) (by omega)
        omega
      subst hm
      have hD0 : D = 0 := by rw [← hD]; simp
      subst hD0
      obtain ⟨c, k1, k2, _⟩ := near_Rep (k := .f32) (s := s ^^ t) (m := 2 * (0 / n) + (0 % n != 0).toNat) (e := i - j - more - 1) (rep_int hQ) (min (i - j - more - 1) (-1074)) (by omega) (by omega) (by simp)
      exact ⟨c, k1, k2⟩
  obtain ⟨c, k1, k2⟩ := key
  refine ⟨c, ?_, k2⟩
  show sv .f32 (fop .quo .f32 x y) = some c
  unfold fop; rw [hval]
  show sv .f32 (cb .f32 _) = some c
  rw [sv_cb k1]; exact k1

/-! ## cuts -/
theorem cut_down (s : Bool) (n d : Nat) : Ieee.Toward.down.cut s n d = n / 2 ^ d + (s && (n % 2 ^ d != 0)).toNat := by
  unfold Ieee.Toward.cut
  rcases Nat.lt_or_ge (n.log2 + 2) d with h | h
  · have h1 : min d (n.log2 + 2) = n.log2 + 2 := by omega
    have h2 : n < 2 ^ (n.log2 + 2) := Nat.lt_of_lt_of_le Nat.lt_log2_self (Nat.pow_le_pow_right (by decide) (by omega))
    have h3 : n < 2 ^ d := Nat.lt_of_lt_of_le h2 (Nat.pow_le_pow_right (by decide) (by omega))
    simp only [h1, Nat.one_shiftLeft, Nat.div_eq_of_lt h2, Nat.mod_eq_of_lt h2, Nat.div_eq_of_lt h3, Nat.mod_eq_of_lt h3]
  · have h1 : min d (n.log2 + 2) = d := by omega
    simp only [h1, Nat.one_shiftLeft]


/-! ## the whole part -/
theorem cut_shape (m : Nat) (e : Int) (h : -1074 ≤ e) : ∃ z, PU = 2 ^ (-e).toNat * z ∧ m <<< (e + 1074).toNat = m <<< e.toNat * z ∧ 0 < z := by
  refine ⟨pow2 (1074 - (-e).toNat), ?_, ?_, pow2_pos _⟩
  · show pow2 1074 = _; unfold pow2; rw [← Nat.pow_add, show (-e).toNat + (1074 - (-e).toNat) = 1074 from by omega]
  · rw [← shl_pow2, ← Nat.shiftLeft_add, show e.toNat + (1074 - (-e).toNat) = (e + 1074).toNat from by omega]
theorem floor_num {b : Nat} {a : Int} (h : sv .f64 b = some a) : ∃ (s : Bool) (M : Nat) (n : Int), fint .down b = cb .f64 (FloatKind.f64.format.nearest s M 0) ∧ n = (if s then -(M : Int) else M) ∧ n * PU ≤ a ∧ a < (n + 1) * PU := by
  obtain ⟨s, m, e, h1, h2, rfl⟩ := sv_dec h
  obtain ⟨z, z1, z2, z3⟩ := cut_shape m e h2
  refine ⟨s, Ieee.Toward.down.cut s (m <<< e.toNat) (-e).toNat, _, ?_, rfl, ?_⟩
  · unfold fint
    rw [sv_notnan h, if_neg (by decide), h1]
    rfl
  · rw [cut_down]
    generalize m <<< e.toNat = N at *
    have hg : 0 < 2 ^ (-e).toNat := Nat.pow_pos (by decide)
    generalize 2 ^ (-e).toNat = g at *
    have hdm := Nat.div_add_mod N g
    have hlt := Nat.mod_lt N hg
    -- in units: N * z against (N / g) * (g * z)
    have k1 : N / g * (g * z) ≤ N * z := by
      rw [← Nat.mul_assoc]; exact Nat.mul_le_mul_right _ (Nat.div_mul_le_self N g)
    have k2 : N * z < (N / g + 1) * (g * z) := by
      rw [← Nat.mul_assoc]
      refine Nat.mul_lt_mul_of_pos_right ?_ z3
      rw [Nat.add_mul, Nat.one_mul, Nat.mul_comm (N / g)]
      omega
    have k3 : N % g = 0 → N / g * (g * z) = N * z := by
      intro h0; rw [← Nat.mul_assoc, Nat.mul_comm (N / g), show g * (N / g) = N from by rw [h0] at hdm; exact hdm]
    have k4 : N % g ≠ 0 → N / g * (g * z) < N * z := by
      intro h0; rw [← Nat.mul_assoc, Nat.mul_comm (N / g)]; exact Nat.mul_lt_mul_of_pos_right (by omega) z3
    have hs : Ieee.signed s m (e + 1074).toNat = if s then -((N * z : Nat) : Int) else ((N * z : Nat) : Int) := by
      unfold Ieee.signed; rw [z2]
    rw [hs, z1]
    have e1 : (N / g + 1) * (g * z) = N / g * (g * z) + g * z := by rw [Nat.add_mul, Nat.one_mul]
    rw [e1] at k2
    have cast : ∀ q : Nat, ((q : Int)) * ((g * z : Nat) : Int) = ((q * (g * z) : Nat) : Int) := fun q => (Int.natCast_mul _ _).symm
    cases s with
    | false =>
      simp only [Bool.false_and, Bool.toNat_false, Nat.add_zero, if_false, Bool.false_eq_true]
      rw [Int.add_mul, Int.one_mul, cast]
      generalize N / g * (g * z) = A at *
      generalize N * z = B at *
      generalize g * z = C at *
      omega
    | true =>
      simp only [Bool.true_and, if_true]
      by_cases h0 : N % g = 0
      · have h0' : (N % g != 0) = false := by simp [h0]
        rw [h0', Bool.toNat_false, Nat.add_zero, Int.add_mul, Int.one_mul, Int.neg_mul, cast]
        have := k3 h0
        have hC : 0 < g * z := Nat.mul_pos hg z3
        generalize N / g * (g * z) = A at *
        generalize N * z = B at *
        generalize g * z = C at *
        omega
      · have h0' : (N % g != 0) = true := by simp [h0]
        rw [h0', Bool.toNat_true, Int.add_mul, Int.one_mul, Int.neg_mul, cast, e1]
        have := k4 h0
        generalize N / g * (g * z) = A at *
        generalize N * z = B at *
        generalize g * z = C at *
        omega
theorem floor_small {n a : Int} {Q : Nat} (h1 : n * PU ≤ a) (h2 : a < (n + 1) * PU) (h : a.natAbs ≤ Q * PU) : -(Q : Int) - 1 < n ∧ n ≤ Q := by
  have hp : (0 : Int) < (PU : Nat) := by exact_mod_cast PU_pos
  have e : ((Q * PU : Nat) : Int) = (Q : Int) * (PU : Nat) := Int.natCast_mul _ _
  have b1 : a ≤ (Q : Int) * (PU : Nat) := by omega
  have b2 : -((Q : Int) * (PU : Nat)) ≤ a := by omega
  constructor
  · have : -(Q : Int) * (PU : Nat) < (n + 1) * (PU : Nat) := by rw [Int.neg_mul]; omega
    have := Int.lt_of_mul_lt_mul_right this (Int.le_of_lt hp)
    omega
  · exact Int.le_of_mul_le_mul_right (Int.le_trans h1 b1) hp
/-- the whole part of a number that is not great -/
theorem sv_floor {b : Nat} {a : Int} {Q : Nat} (h : sv .f64 b = some a) (hQ : Q + 1 < 2 ^ 24) (hle : a.natAbs ≤ Q * PU) :
    ∃ n : Int, sv .f64 (fint .down b) = some (n * PU) ∧ n * PU ≤ a ∧ a < (n + 1) * PU ∧ -(Q : Int) - 1 < n ∧ n ≤ Q := by
  obtain ⟨s, M, n, h1, h2, h3, h4⟩ := floor_num h
  obtain ⟨b1, b2⟩ := floor_small h3 h4 hle
  have hM : M < 2 ^ 24 := by cases s <;> simp at h2 <;> omega
  obtain ⟨c, e1, e2⟩ := near_Repx (k := .f64) (s := s) (m := M) (e := 0) (rep_int hM) (-1074) (by omega) (by omega) (by
    rw [show (-1074 - (-1074) : Int).toNat = 0 from by decide, Nat.shiftLeft_zero, show (0 - (-1074 : Int)).toNat = 1074 from by decide, shl_PU])
  have e3 : sv .f64 (FloatKind.f64.format.nearest s M 0) = some c := e1
  refine ⟨n, ?_, h3, h4, b1, b2⟩
  rw [h1, sv_cb e3, e3, e2, h2]
  cases s with
  | false => simp only [Bool.false_eq_true, if_false, Int.natCast_mul]
  | true => simp only [if_true, Int.natCast_mul, Int.neg_mul]
theorem narOk_inf (s : Bool) : narOk (fint .down (FloatKind.f64.format.word s FloatKind.f64.format.infRung)) = true := by cases s <;> decide
theorem narOk_floor {t : Nat} (h : nanB .f32 t = true ∨ FloatKind.f32.decode t = .infinity false ∨ ∃ c, sv .f32 t = some c ∧ 0 ≤ c) : narOk (fint .down (fwid t)) = true := by
  rcases h with h | h | ⟨a, h, h0⟩
  · rw [fwid_none (nan_widen h)]; decide
  · rw [fwid_inf h]; exact narOk_inf false
  · have hw := sv_fwid h
    obtain ⟨s, M, n, h1, h2, h3, h4⟩ := floor_num hw
    have hp : (0 : Int) < (PU : Nat) := by exact_mod_cast PU_pos
    have hn : 0 ≤ n := by
      have : 0 < (n + 1) * (PU : Nat) := Int.lt_of_le_of_lt h0 h4
      have := Int.pos_of_mul_pos_left this hp
      omega
    have hM : (M : Int) = n := by cases s <;> simp at h2 <;> omega
    have hle : M * PU ≤ a.natAbs := by
      have e : ((M * PU : Nat) : Int) = n * (PU : Nat) := by rw [Int.natCast_mul, hM]
      omega
    obtain ⟨c, e1, e2, _⟩ := near_Rep (k := .f64) (s := s) (m := M) (e := 0) (Rep.sv hw) (-1074) (by omega) (by omega) (by
      rw [show (-1074 - (-1074) : Int).toNat = 0 from by decide, Nat.shiftLeft_zero, show (0 - (-1074 : Int)).toNat = 1074 from by decide, shl_PU]; exact hle)
    rw [h1, sv_cb e1]
    exact (narOk_sv e1 (Rep.sv h) e2).1

/-! ## whole numbers as integers -/
theorem toInt_sv {b : Nat} {n : Int} (h : sv .f64 b = some (n * PU)) : (FloatKind.f64.decode b).toInt .zero = some n := by
  obtain ⟨s, m, e, h1, h2, h3⟩ := sv_dec h
  have habs : m <<< (e + 1074).toNat = n.natAbs * PU := by
    have := congrArg Int.natAbs h3
    rw [signed_abs, Int.natAbs_mul, Int.natAbs_natCast] at this
    exact this.symm
  have hcut : Ieee.Toward.zero.cut s (m <<< e.toNat) (-e).toNat = n.natAbs := by
    rcases Int.lt_or_le e 0 with he | he
    · have e1 : m <<< e.toNat = n.natAbs <<< (-e).toNat := by
        rw [show e.toNat = 0 from by omega, Nat.shiftLeft_zero]
        have : m * pow2 (1074 - (-e).toNat) = n.natAbs <<< (-e).toNat * pow2 (1074 - (-e).toNat) := by
          rw [← shl_pow2, ← shl_pow2, ← Nat.shiftLeft_add, show (-e).toNat + (1074 - (-e).toNat) = 1074 from by omega, shl_PU, ← habs]
          congr 1; omega
        exact Nat.eq_of_mul_eq_mul_right (pow2_pos _) this
      rw [e1]; exact T.cut_exact _ _ _ _
    · rw [show (-e).toNat = 0 from by omega, T.cut_zero]
      have : m <<< e.toNat * PU = n.natAbs * PU := by
        rw [← habs, ← shl_PU, ← Nat.shiftLeft_add]; congr 1; omega
      exact Nat.eq_of_mul_eq_mul_right PU_pos this
  rw [h1]
  show some (Ieee.signed s (Ieee.Toward.zero.cut s (m <<< e.toNat) (-e).toNat) 0) = some n
  rw [hcut]
  have hp : (0 : Int) < (PU : Nat) := by exact_mod_cast PU_pos
  have hsg : (s = false → 0 ≤ n) ∧ (s = true → n ≤ 0) := by
    constructor
    · rintro rfl
      have : 0 ≤ n * (PU : Nat) := by rw [h3]; unfold Ieee.signed; simp only [Bool.false_eq_true, if_false]; exact Int.natCast_nonneg _
      exact Int.nonneg_of_mul_nonneg_left this hp
    · rintro rfl
      have : n * (PU : Nat) ≤ 0 := by rw [h3]; unfold Ieee.signed; simp only [if_true]; exact Int.neg_nonpos_of_nonneg (Int.natCast_nonneg _)
      exact Int.nonpos_of_mul_nonpos_left this hp
  unfold Ieee.signed
  rw [Nat.shiftLeft_zero]
  cases s with
  | false => have := hsg.1 rfl; simp only [Bool.false_eq_true, if_false]; congr 1; omega
  | true => have := hsg.2 rfl; simp only [if_true]; congr 1; omega
section
variable {P : Program} {n : Nat} {ops : Array Oper} {st : Option (List Nat)} {Q : Tm → Mem → Prop} {fl : Bool} {l : List (Oper × Bool)} {T : Tm} {M : Mem} {d : Option Nat} {ty : Nat} {pos : String} {after : Array Edge}
theorem tame_f2i {s t b : Nat} {i : Int} {x : Operand} {g : Option (Nat × Bool)} [h1 : UnderT P s (.float .f64)] [h2 : UnderT P t (.int .i64)] (ex : ev T x = some (.float .f64 b)) (hv : sv .f64 b = some (i * PU)) (hi : i.natAbs < 9223372036854775808) : Tame P ⟨d, .convert s t x, ty, pos, after, g⟩ T M (.int .i64 i) :=
  tame_one (x := x) (by simp [Op.operands]) ex fun ρ w hx => by
    obtain ⟨c, hc, hcb⟩ := nf_float hx
    have hcb' : c = b := by
      rcases cb_cases .f64 c with ⟨k1, k2⟩ | ⟨k1, k2⟩
      · exfalso
        have := sv_notnan hv
        rw [← hcb, nanB_cb, k1] at this
        cases this
      · rw [← hcb, k2]
    subst hcb'
    refine ⟨.int .i64 i, w, ?_, .refl w, rfl⟩
    have := toInt_sv hv
    have hb : IntKind.i64.min ≤ i ∧ i ≤ IntKind.i64.max := by
      have e1 : IntKind.i64.min = -9223372036854775808 := by decide
      have e2 : IntKind.i64.max = 9223372036854775807 := by decide
      omega
    have hge : ¬ 9223372036854775807 < i := by omega
    have hrun : (convert s t (.float .f64 c)).run P w = .ok (.int .i64 i) w := by
      simp [convert, run_underlying h1.out, run_underlying h2.out, Conv.floatToInt, this, hb]
      intro h; exact absurd h hge
    simp [execOp, hc, hrun]
theorem rFI {s t b : Nat} {i : Int} {x : Operand} [h1 : UnderT P s (.float .f64)] [h2 : UnderT P t (.int .i64)] (ex : ev T x = some (.float .f64 b)) (hv : sv .f64 b = some (i * PU)) (hi : i.natAbs < 9223372036854775808) (k : Run P n ops st Q l (putT n d (.int .i64 i) T) M) :
    Run P n ops st Q ((⟨d, .convert s t x, ty, pos, after, none⟩, fl) :: l) T M := run_tame rfl (tame_f2i ex hv hi) k
end

/-! ## roots -/
theorem two_pow {a b c : Nat} (h : a + b = c) : 2 ^ a * 2 ^ b = pow2 c := by subst h; unfold pow2; exact (Nat.pow_add 2 a b).symm
theorem pow2_add (a b : Nat) : pow2 (a + b) = pow2 a * pow2 b := by unfold pow2; exact Nat.pow_add 2 a b
theorem pow2_le2 {a b : Nat} (h : a ≤ b) : pow2 a ≤ 2 ^ b := by unfold pow2; exact Nat.pow_le_pow_right (by decide) h
theorem le_pow2 {a b : Nat} (h : a ≤ b) : 2 ^ a ≤ pow2 b := by unfold pow2; exact Nat.pow_le_pow_right (by decide) h
theorem rootFrom_sq (n : Nat) : ∀ (todo root : Nat), root * root ≤ n → Ieee.Datum.rootFrom n todo root * Ieee.Datum.rootFrom n todo root ≤ n := by
  intro todo
  induction todo with
  | zero => intro root h; exact h
  | succ t ih =>
    intro root h
    unfold Ieee.Datum.rootFrom
    refine ih _ ?_
    split
    · assumption
    · exact h
theorem root_bd {m w more : Nat} {i r : Int} (hm : 0 < m) (hb : m <<< (i + 1074).toNat < pow2 1202) (hi : -1074 ≤ i) (hmore : more ≤ 200) (hr : i - more = 2 * r) (hw : w * w ≤ m <<< more) : (2 * w + 1) <<< (r - 1 + 1074).toNat ≤ pow2 1138 := by
  have hi2 : i < 128 := by
    rcases Int.lt_or_le i 128 with h | h
    · exact h
    · exfalso
      have : pow2 1202 ≤ m <<< (i + 1074).toNat := by
        rw [Nat.shiftLeft_eq]
        have hle : 1202 ≤ (i + 1074).toNat := by clear hb hw; omega
        exact Nat.le_trans (pow2_le2 hle) (Nat.le_mul_of_pos_left _ hm)
      exact absurd hb (Nat.not_lt.2 this)
  have hb2 : m <<< (i + 2000).toNat < pow2 2128 := by
    have e0 : m <<< (i + 2000).toNat = m <<< (i + 1074).toNat * pow2 926 := by
      rw [← shl_pow2, ← Nat.shiftLeft_add, show (i + 1074).toNat + 926 = (i + 2000).toNat from by omega]
    have e5 : pow2 2128 = pow2 1202 * pow2 926 := pow2_add 1202 926
    rw [e0, e5]
    exact Nat.mul_lt_mul_of_pos_right hb (pow2_pos 926)
  have e1 : (w * 2 ^ (r + 1000).toNat) * (w * 2 ^ (r + 1000).toNat) < pow2 1064 * pow2 1064 := by
    have a1 : (w * 2 ^ (r + 1000).toNat) * (w * 2 ^ (r + 1000).toNat) = (w * w) * 2 ^ (2 * r + 2000).toNat := by
      rw [show (2 * r + 2000).toNat = (r + 1000).toNat + (r + 1000).toNat from by omega, Nat.pow_add]; ac_rfl
    have a2 : (w * w) * 2 ^ (2 * r + 2000).toNat ≤ m <<< more * 2 ^ (2 * r + 2000).toNat := Nat.mul_le_mul_right _ hw
    have a3 : m <<< more * 2 ^ (2 * r + 2000).toNat = m <<< (i + 2000).toNat := by
      rw [← Nat.shiftLeft_eq, ← Nat.shiftLeft_add, show more + (2 * r + 2000).toNat = (i + 2000).toNat from by omega]
    have a4 : pow2 1064 * pow2 1064 = pow2 2128 := (pow2_add 1064 1064).symm
    rw [a1, a4]
    rw [a3] at a2
    exact Nat.lt_of_le_of_lt a2 hb2
  have e2 : w * 2 ^ (r + 1000).toNat < pow2 1064 := by
    rcases Nat.lt_or_ge (w * 2 ^ (r + 1000).toNat) (pow2 1064) with h | h
    · exact h
    · exact absurd (Nat.mul_le_mul h h) (Nat.not_le.2 e1)
  have e3 : w < 2 ^ (64 - r).toNat := by
    refine Nat.lt_of_mul_lt_mul_right (a := 2 ^ (r + 1000).toNat) ?_
    rw [two_pow (a := (64 - r).toNat) (b := (r + 1000).toNat) (c := 1064) (by omega)]
    exact e2
  have e4 : (2 * w + 1) ≤ 2 ^ (65 - r).toNat := by
    rw [show (65 - r).toNat = (64 - r).toNat + 1 from by omega, Nat.pow_succ]; omega
  rw [Nat.shiftLeft_eq]
  refine Nat.le_trans (Nat.mul_le_mul_right _ e4) (Nat.le_of_eq ?_)
  unfold pow2; rw [← Nat.pow_add]; congr 1; omega
theorem rep_64 (k : FloatKind) : Rep k (pow2 1138) := by
  have := rep_pow (k := k) (m := 1) (p := 1138) (e := 64) (by cases k <;> decide) (by rw [lp_up]; cases k <;> decide) (by cases k <;> decide) (by omega)
  rwa [shl_pow2, Nat.one_mul] at this
/-- the root of a 32-bit number: it can be narrowed; it is no number, or infinity, or not below nought -/
theorem sqr_cases (x : Nat) : narOk (fsqr (fwid x)) = true ∧ (nanB .f32 (fnar (fsqr (fwid x))) = true ∨ FloatKind.f32.decode (fnar (fsqr (fwid x))) = .infinity false ∨ ∃ c, sv .f32 (fnar (fsqr (fwid x))) = some c ∧ 0 ≤ c) := by
  rcases word_cases .f32 x with h | ⟨s, h⟩ | ⟨a, h⟩
  · rw [fwid_none (nan_widen h)]; exact ⟨by decide, .inl (by decide)⟩
  · rw [fwid_inf h]
    cases s
    · exact ⟨by decide, .inr (.inl (by decide))⟩
    · exact ⟨by decide, .inl (by decide)⟩
  · have hw := sv_fwid h
    have hbig : a.natAbs < pow2 1202 := by
      obtain ⟨s, m, e, h1, h2, rfl⟩ := sv_dec h
      obtain ⟨a1, a2, a3⟩ := read32_bounds h1
      rw [signed_abs, Nat.shiftLeft_eq]
      have : pow2 1202 = pow2 24 * pow2 1178 := pow2_add 24 1178
      rw [this]
      have b1 : m < pow2 24 := by unfold pow2; simpa using a1
      have hle : (e + 1074).toNat ≤ 1178 := by omega
      have b2 : 2 ^ (e + 1074).toNat ≤ pow2 1178 := le_pow2 hle
      exact Nat.lt_of_lt_of_le (Nat.mul_lt_mul_of_pos_right b1 (Nat.pow_pos (by decide))) (Nat.mul_le_mul_left _ b2)
    obtain ⟨s, m, i, h1, h2, ha⟩ := sv_dec hw
    have habs : a.natAbs = m <<< (i + 1074).toNat := by rw [ha, signed_abs]
    have h1' : FloatKind.f64.format.read (fwid x) = .number s m i := h1
    have hm54 : FloatKind.f64.format.fractionBits + 2 = 54 := rfl
    have done : ∀ (s' : Bool) (mag : Nat) (e : Int), FloatKind.f64.format.sqrt (fwid x) = some (FloatKind.f64.format.nearest s' mag e) → -1074 ≤ e → mag <<< (e + 1074).toNat ≤ pow2 1138 → (s' = true → mag = 0) →
        narOk (fsqr (fwid x)) = true ∧ (nanB .f32 (fnar (fsqr (fwid x))) = true ∨ FloatKind.f32.decode (fnar (fsqr (fwid x))) = .infinity false ∨ ∃ c, sv .f32 (fnar (fsqr (fwid x))) = some c ∧ 0 ≤ c) := by
      intro s' mag e hs he hle hz
      obtain ⟨c, k1, k2, k3, k4⟩ := near_Rep (k := .f64) (s := s') (m := mag) (e := e) (rep_64 .f64) (-1074) he (by omega) (by
        rw [show (-1074 - (-1074) : Int).toNat = 0 from by decide, Nat.shiftLeft_zero]; exact hle)
      have hc : 0 ≤ c := by
        cases s' with
        | false => exact k3 rfl
        | true =>
          have hm0 := hz rfl
          subst hm0
          obtain ⟨c', j1, j2, _⟩ := near_Rep (k := .f64) (s := true) (m := 0) (K := 0) (e := e) ⟨0, by decide, by decide⟩ (-1074) he (by omega) (by simp)
          rw [k1] at j1; cases j1; omega
      have hf : fsqr (fwid x) = FloatKind.f64.format.nearest s' mag e := by
        unfold fsqr; rw [hs]
        exact sv_cb k1
      rw [hf]
      obtain ⟨q1, c', q2, _, q3⟩ := narOk_sv k1 (rep_64 .f32) k2
      exact ⟨q1, .inr (.inr ⟨c', q2, q3 hc⟩)⟩
    have hsq : FloatKind.f64.format.sqrt (fwid x) = ((Ieee.Datum.number s m i).root 54).map FloatKind.f64.format.write := by
      unfold Ieee.Format.sqrt; rw [h1', hm54]
    by_cases hm : m = 0
    · subst hm
      refine done s 0 i ?_ h2 (by simp) (fun _ => rfl)
      rw [hsq]; rfl
    · cases s with
      | true =>
        have : FloatKind.f64.format.sqrt (fwid x) = none := by
          rw [hsq]; unfold Ieee.Datum.root; simp [hm]
        have hf : fsqr (fwid x) = qn .f64 := by unfold fsqr; rw [this]
        rw [hf]; exact ⟨by decide, .inl (by decide)⟩
      | false =>
        generalize hmo : (2 * 54 - m.log2 + ((i - ((2 * 54 - m.log2 : Nat) : Int)) % 2).toNat) = more
        have hmore : more ≤ 200 := by omega
        refine done false (2 * Ieee.Datum.rootFrom (m <<< more) ((m <<< more).log2 / 2 + 1) 0 + (Ieee.Datum.rootFrom (m <<< more) ((m <<< more).log2 / 2 + 1) 0 * Ieee.Datum.rootFrom (m <<< more) ((m <<< more).log2 / 2 + 1) 0 != m <<< more).toNat) ((i - more) / 2 - 1) ?_ (by omega) ?_ (by intro hh; cases hh)
        · rw [hsq]; unfold Ieee.Datum.root
          simp only [hm, if_false, Bool.false_eq_true, hmo]
          rfl
        · have hw2 := rootFrom_sq (m <<< more) ((m <<< more).log2 / 2 + 1) 0 (Nat.zero_le _)
          generalize Ieee.Datum.rootFrom (m <<< more) ((m <<< more).log2 / 2 + 1) 0 = w at *
          have hb := root_bd (m := m) (w := w) (more := more) (i := i) (r := (i - more) / 2) (Nat.pos_of_ne_zero hm) (by rw [← habs]; exact hbig) h2 hmore (by omega) hw2
          refine Nat.le_trans ?_ hb
          simp only [Nat.shiftLeft_eq _ ((i - (more : Int)) / 2 - 1 + 1074).toNat]
          refine Nat.mul_le_mul_right _ ?_
          have : (w * w != m <<< more).toNat ≤ 1 := by cases (w * w != m <<< more) <;> decide
          omega
end Go.Proofs.Ytkbpdgacfeachaa.Ab
