/-
  Numbers: the whole part towards nought; quotients by numbers of no less than one; the sine of turns: bounds.
-/
import Derived.Test.YtfjancbmecfjgaaNu
namespace Go.Proofs.Ytfjancbmecfjgaa.Ab
open Go Go.RowKit
attribute [local irreducible] Run Then InBlock LoopQ LQ1 LQ2 LQ3 LQ4 LQ5 LQ6 AWp Ret ACall
set_option linter.unusedVariables false
set_option linter.unusedSimpArgs false

theorem cut_nought (s : Bool) (n d : Nat) : Ieee.Toward.zero.cut s n d = n / 2 ^ d := by
  unfold Ieee.Toward.cut
  rcases Nat.lt_or_ge (n.log2 + 2) d with h | h
  · have h1 : min d (n.log2 + 2) = n.log2 + 2 := by omega
    have h2 : n < 2 ^ (n.log2 + 2) := Nat.lt_of_lt_of_le Nat.lt_log2_self (Nat.pow_le_pow_right (by decide) (by omega))
    have h3 : n < 2 ^ d := Nat.lt_of_lt_of_le h2 (Nat.pow_le_pow_right (by decide) (by omega))
    simp only [h1, Nat.one_shiftLeft, Nat.div_eq_of_lt h2, Nat.div_eq_of_lt h3, Bool.toNat_false, Nat.add_zero]
  · have h1 : min d (n.log2 + 2) = d := by omega
    simp only [h1, Nat.one_shiftLeft, Bool.toNat_false, Nat.add_zero]
/-- the whole part towards nought -/
theorem trunc_num {b : Nat} {a : Int} (h : sv .f64 b = some a) : ∃ (s : Bool) (M : Nat), fint .zero b = cb .f64 (FloatKind.f64.format.nearest s M 0) ∧ (FloatKind.f64.decode b).toInt .zero = some (if s then -(M : Int) else M) ∧
    M * PU ≤ a.natAbs ∧ a.natAbs < (M + 1) * PU ∧ (s = false → 0 ≤ a) ∧ (s = true → a ≤ 0) := by
  obtain ⟨s, m, e, h1, h2, rfl⟩ := sv_dec h
  obtain ⟨z, z1, z2, z3⟩ := cut_shape m e h2
  refine ⟨s, Ieee.Toward.zero.cut s (m <<< e.toNat) (-e).toNat, ?_, ?_, ?_, ?_, ?_, ?_⟩
  · unfold fint
    rw [sv_notnan h, if_neg (by decide), h1]
    rfl
  · rw [h1]
    show some (Ieee.signed s _ 0) = _
    unfold Ieee.signed
    rw [Nat.shiftLeft_zero]
  · rw [cut_nought, signed_abs, z1, z2, ← Nat.mul_assoc]
    exact Nat.mul_le_mul_right _ (Nat.div_mul_le_self _ _)
  · rw [cut_nought, signed_abs, z1, z2, ← Nat.mul_assoc]
    refine Nat.mul_lt_mul_of_pos_right ?_ z3
    have hg : 0 < 2 ^ (-e).toNat := Nat.pow_pos (by decide)
    have hdm := Nat.div_add_mod (m <<< e.toNat) (2 ^ (-e).toNat)
    have hlt := Nat.mod_lt (m <<< e.toNat) hg
    rw [Nat.add_mul, Nat.one_mul, Nat.mul_comm (m <<< e.toNat / 2 ^ (-e).toNat)]
    omega
  · rintro rfl; unfold Ieee.signed; simp only [Bool.false_eq_true, if_false]; exact Int.natCast_nonneg _
  · rintro rfl; unfold Ieee.signed; simp only [if_true]; exact Int.neg_nonpos_of_nonneg (Int.natCast_nonneg _)
theorem rep_int64 {n : Nat} (h : n < 2 ^ 53) : Rep .f64 (n * PU) := by
  have hl : n.log2 ≤ 52 := by
    by_cases h0 : n = 0
    · subst h0; decide
    · have := (Nat.log2_lt h0).2 h; omega
  have := rep_pow (k := .f64) (m := n) (p := 1074) (e := 0) (by show n.log2 ≤ 52; exact hl) (by rw [lp_up]; decide)
    (by have e1 : FloatKind.f64.format.leastPlace + ((2 ^ FloatKind.f64.format.exponentBits : Nat) : Int) - 2 = 972 := by decide
        have e2 : (FloatKind.f64.format.fractionBits : Int) = 52 := rfl
        rw [e1, e2]; omega) (by omega)
  rw [shl_PU] at this
  exact this
theorem sv_near_int {s : Bool} {M : Nat} (h : M < 2 ^ 53) : sv .f64 (FloatKind.f64.format.nearest s M 0) = some (if s then -((M * PU : Nat) : Int) else ((M * PU : Nat) : Int)) := by
  obtain ⟨c, h1, h2⟩ := near_Repx (k := .f64) (s := s) (m := M) (e := 0) (rep_int64 h) (-1074) (by omega) (by omega) (by
    rw [show (-1074 - (-1074) : Int).toNat = 0 from by decide, Nat.shiftLeft_zero, show (0 - (-1074 : Int)).toNat = 1074 from by decide, shl_PU])
  rw [h1, h2]
theorem sv_zero64 : sv .f64 0 = some 0 := by
  have := sv_near_int (s := false) (M := 0) (by decide)
  have e : FloatKind.f64.format.nearest false 0 0 = 0 := by decide
  rw [e] at this; rw [this]; simp
/-- the whole part, with nought as it is written -/
def whF (b : Nat) : Nat := if fcmp .eql .f64 (fint .zero b) 0 = true then 0 else fint .zero b
theorem whF_eq {b : Nat} {a : Int} (h : sv .f64 b = some a) (ha : a.natAbs < 2 ^ 52 * PU) : ∃ i : Int, (FloatKind.f64.decode b).toInt .zero = some i ∧ i.natAbs < 2 ^ 52 ∧ whF b = fofint .f64 i ∧ sv .f64 (whF b) = some (i * PU) ∧ (a - i * PU).natAbs ≤ PU := by
  obtain ⟨s, M, h1, h2, h3, h4, h5, h6⟩ := trunc_num h
  have hM : M < 2 ^ 52 := by
    refine Nat.lt_of_mul_lt_mul_right (a := PU) (Nat.lt_of_le_of_lt h3 ha)
  have hs := sv_near_int (s := s) (M := M) (by omega)
  have hf : fint .zero b = FloatKind.f64.format.nearest s M 0 := by rw [h1, sv_cb hs]
  have hdiff : (a - (if s then -(M : Int) else (M : Int)) * PU).natAbs ≤ PU := by
    have c1 : ((M : Int)) * (PU : Nat) = ((M * PU : Nat) : Int) := (Int.natCast_mul _ _).symm
    have c2 : (M + 1) * PU = M * PU + PU := by rw [Nat.add_mul, Nat.one_mul]
    rw [c2] at h4
    cases s with
    | false =>
      have := h5 rfl
      simp only [Bool.false_eq_true, if_false]
      rw [c1]
      generalize M * PU = X at *
      omega
    | true =>
      have := h6 rfl
      simp only [if_true]
      rw [Int.neg_mul, c1]
      generalize M * PU = X at *
      omega
  refine ⟨if s then -(M : Int) else M, h2, by cases s <;> simp <;> omega, ?_⟩
  by_cases h0 : M = 0
  · subst h0
    have hi : (if s then -((0 : Nat) : Int) else ((0 : Nat) : Int)) = 0 := by cases s <;> rfl
    rw [hi] at hdiff ⊢
    have he : whF b = 0 := by unfold whF; rw [hf]; cases s <;> decide
    have hf0 : fofint .f64 0 = 0 := by decide
    refine ⟨by rw [he, hf0], by rw [he, sv_zero64]; simp, hdiff⟩
  · have hpos : 0 < M * PU := Nat.mul_pos (by omega) PU_pos
    have he : whF b = FloatKind.f64.format.nearest s M 0 := by
      unfold whF
      rw [hf, eql_sv hs sv_zero64, decide_eq_false (by cases s <;> simp <;> omega), if_neg (by decide)]
    have hn : fofint .f64 (if s then -(M : Int) else M) = FloatKind.f64.format.nearest s M 0 := by
      rw [fofint_eq]
      show FloatKind.f64.format.nearest (decide _) (Int.natAbs _) 0 = _
      have e1 : decide ((if s then -(M : Int) else (M : Int)) < 0) = s := by cases s <;> simp <;> omega
      have e2 : (if s then -(M : Int) else (M : Int)).natAbs = M := by cases s <;> simp
      rw [e1, e2]
    refine ⟨by rw [he, hn], ?_, hdiff⟩
    rw [he, hs]
    cases s <;> simp [Int.neg_mul]
section
variable {P : Program} {n : Nat} {ops : Array Oper} {st : Option (List Nat)} {Q : Tm → Mem → Prop} {fl : Bool} {l : List (Oper × Bool)} {T : Tm} {M : Mem} {d : Option Nat} {ty : Nat} {pos : String} {after : Array Edge}
theorem tame_f2t {s t b : Nat} {i : Int} {x : Operand} {g : Option (Nat × Bool)} [h1 : UnderT P s (.float .f64)] [h2 : UnderT P t (.int .i64)] (ex : ev T x = some (.float .f64 b)) (hv : (FloatKind.f64.decode b).toInt .zero = some i) (hi : i.natAbs < 9223372036854775808) : Tame P ⟨d, .convert s t x, ty, pos, after, g⟩ T M (.int .i64 i) :=
  tame_one (x := x) (by simp [Op.operands]) ex fun ρ w hx => by
    obtain ⟨c, hc, hcb⟩ := nf_float hx
    have hcb' : c = b := by
      rcases cb_cases .f64 c with ⟨k1, k2⟩ | ⟨k1, k2⟩
      · exfalso
        rw [k2] at hcb
        subst hcb
        have : (FloatKind.f64.decode (qn .f64)).toInt .zero = none := by decide
        rw [this] at hv; cases hv
      · rw [← hcb, k2]
    subst hcb'
    refine ⟨.int .i64 i, w, ?_, .refl w, rfl⟩
    have hb : IntKind.i64.min ≤ i ∧ i ≤ IntKind.i64.max := by
      have e1 : IntKind.i64.min = -9223372036854775808 := by decide
      have e2 : IntKind.i64.max = 9223372036854775807 := by decide
      omega
    have hge : ¬ 9223372036854775807 < i := by omega
    have hrun : (convert s t (.float .f64 c)).run P w = .ok (.int .i64 i) w := by
      simp [convert, run_underlying h1.out, run_underlying h2.out, Conv.floatToInt, hv, hb]
      intro h; exact absurd h hge
    simp [execOp, hc, hrun]
theorem rFT {s t b : Nat} {i : Int} {x : Operand} [h1 : UnderT P s (.float .f64)] [h2 : UnderT P t (.int .i64)] (hv : (FloatKind.f64.decode b).toInt .zero = some i) (ex : ev T x = some (.float .f64 b)) (hi : i.natAbs < 9223372036854775808) (k : Run P n ops st Q l (putT n d (.int .i64 i) T) M) :
    Run P n ops st Q ((⟨d, .convert s t x, ty, pos, after, none⟩, fl) :: l) T M := run_tame rfl (tame_f2t ex hv hi) k
end
/-! ## quotients by what is no less than one -/
theorem p2_mul (a b : Nat) : pow2 a * pow2 b = pow2 (a + b) := (pow2_add a b).symm
theorem quo_core {m n D more κ W J I C : Nat} (hD : m * pow2 more = D) (hA : m * pow2 I ≤ pow2 κ) (hB : pow2 C ≤ n * pow2 J) (hex : more + W + J = I + C) : D * pow2 W ≤ n * pow2 κ := by
  refine Nat.le_of_mul_le_mul_right (c := pow2 J) ?_ (pow2_pos J)
  have e1 : D * pow2 W * pow2 J = m * pow2 I * pow2 C := by
    rw [← hD, Nat.mul_assoc, Nat.mul_assoc, Nat.mul_assoc, p2_mul, p2_mul, p2_mul]
    congr 2; omega
  rw [e1]
  calc m * pow2 I * pow2 C ≤ pow2 κ * (n * pow2 J) := Nat.mul_le_mul hA hB
    _ = n * pow2 κ * pow2 J := by ac_rfl
theorem quo_core2 {m n D more κ V J I C : Nat} (hD : m * pow2 more = D) (hA : m * pow2 I ≤ pow2 κ) (hB : pow2 C ≤ n * pow2 J) (hex : more + J = I + C + V) : D ≤ n * pow2 (κ + V) := by
  refine Nat.le_of_mul_le_mul_right (c := pow2 J) ?_ (pow2_pos J)
  have e1 : D * pow2 J = m * pow2 I * pow2 C * pow2 V := by
    rw [← hD, Nat.mul_assoc, Nat.mul_assoc, Nat.mul_assoc, p2_mul, p2_mul, p2_mul]
    congr 2; omega
  rw [e1]
  calc m * pow2 I * pow2 C * pow2 V ≤ pow2 κ * (n * pow2 J) * pow2 V := Nat.mul_le_mul_right _ (Nat.mul_le_mul hA hB)
    _ = n * (pow2 κ * pow2 V) * pow2 J := by ac_rfl
    _ = n * pow2 (κ + V) * pow2 J := by rw [p2_mul]
theorem sv_div64 {x y : Nat} {a b : Int} {κ : Nat} (hx : sv .f64 x = some a) (hy : sv .f64 y = some b) (hb : PU ≤ b.natAbs) (hK : Rep .f64 (pow2 κ)) (h : a.natAbs ≤ pow2 κ) : ∃ c, sv .f64 (fdiv .f64 x y) = some c ∧ c.natAbs ≤ pow2 κ := by
  obtain ⟨s, m, i, h1, h2, rfl⟩ := sv_dec hx
  obtain ⟨t, n, j, g1, g2, rfl⟩ := sv_dec hy
  rw [signed_abs, shl_pow2] at h hb
  have hn : n ≠ 0 := by
    rintro rfl; rw [Nat.zero_mul] at hb; have := PU_pos; omega
  have hp := Nat.pos_of_ne_zero hn
  have h1' : FloatKind.f64.format.read x = .number s m i := h1
  have g1' : FloatKind.f64.format.read y = .number t n j := g1
  have hfb : FloatKind.f64.format.fractionBits + 2 = 54 := rfl
  generalize hmore : 54 + n.log2 - m.log2 = more at *
  generalize hD : m <<< more = D at *
  have hval : floatBits .quo .f64 x y = some (FloatKind.f64.format.nearest (s ^^ t) (2 * (D / n) + (D % n != 0).toNat) (i - j - more - 1)) := by
    show FloatKind.f64.format.div x y = _
    unfold Ieee.Format.div; rw [h1', g1']
    unfold Ieee.Datum.quotient
    simp only [hn, if_false, hfb, hmore, hD]
    rfl
  have hD' : m * pow2 more = D := by rw [← hD, shl_pow2]
  have key : (2 * (D / n) + (D % n != 0).toNat) <<< (i - j - more - 1 - min (i - j - more - 1) (-1074)).toNat ≤ pow2 κ <<< (-1074 - min (i - j - more - 1) (-1074)).toNat := by
    rcases Int.lt_or_le 0 (i - j - more + 1074) with hw | hw
    · have hq := quo_core (W := (i - j - more + 1074).toNat) (J := (j + 1074).toNat) (I := (i + 1074).toNat) (C := 1074) hD' h hb (by omega)
      rw [show (-1074 - min (i - j - more - 1) (-1074)).toNat = 0 from by omega, Nat.shiftLeft_zero, shl_pow2, show (i - j - more - 1 - min (i - j - more - 1) (-1074)).toNat = (i - j - more + 1074).toNat - 1 from by omega]
      have hW : 1 ≤ (i - j - more + 1074).toNat := by omega
      generalize (i - j - more + 1074).toNat = W at hq hW ⊢
      by_cases hle : W ≤ κ
      · have hd : D ≤ n * pow2 (κ - W) := by
          refine Nat.le_of_mul_le_mul_right (c := pow2 W) ?_ (pow2_pos W)
          rw [Nat.mul_assoc, p2_mul, Nat.sub_add_cancel hle]; exact hq
        have hz := quo_bd hp hd
        calc (2 * (D / n) + (D % n != 0).toNat) * pow2 (W - 1) ≤ 2 * pow2 (κ - W) * pow2 (W - 1) := Nat.mul_le_mul_right _ hz
          _ = pow2 1 * pow2 (κ - W) * pow2 (W - 1) := rfl
          _ = pow2 κ := by rw [p2_mul, p2_mul]; congr 1; omega
      · have hm : m = 0 := by
          rcases Nat.eq_zero_or_pos m with hm | hm
          · exact hm
          exfalso
          have hd : D ≤ n := by
            refine Nat.le_of_mul_le_mul_right (c := pow2 κ) ?_ (pow2_pos κ)
            refine Nat.le_trans (Nat.mul_le_mul_left D ?_) hq
            unfold pow2; exact Nat.pow_le_pow_right (by decide) (by omega)
          have p1 := Nat.log2_self_le (Nat.pos_iff_ne_zero.1 hm)
          have p2 := Nat.lt_log2_self (n := n)
          have q1 : 2 ^ (m.log2 + more) ≤ D := by rw [← hD, Nat.shiftLeft_eq, Nat.pow_add]; exact Nat.mul_le_mul_right _ p1
          have q2 : 2 ^ (n.log2 + 1) ≤ 2 ^ (m.log2 + more) := Nat.pow_le_pow_right (by decide) (by omega)
          omega
        subst hm
        have hD0 : D = 0 := by rw [← hD]; simp
        subst hD0
        simp
    · have hq := quo_core2 (V := (-(i - j - more + 1074)).toNat) (J := (j + 1074).toNat) (I := (i + 1074).toNat) (C := 1074) hD' h hb (by omega)
      have hz := quo_bd hp hq
      rw [show (i - j - more - 1 - min (i - j - more - 1) (-1074)).toNat = 0 from by omega, Nat.shiftLeft_zero, shl_pow2, show (-1074 - min (i - j - more - 1) (-1074)).toNat = (-(i - j - more + 1074)).toNat + 1 from by omega]
      generalize (-(i - j - more + 1074)).toNat = V at hz ⊢
      calc 2 * (D / n) + (D % n != 0).toNat ≤ 2 * pow2 (κ + V) := hz
        _ = pow2 1 * pow2 (κ + V) := rfl
        _ = pow2 κ * pow2 (V + 1) := by rw [p2_mul, p2_mul]; congr 1; omega
  obtain ⟨c, k1, k2, _⟩ := near_Rep (k := .f64) (s := s ^^ t) (m := 2 * (D / n) + (D % n != 0).toNat) (e := i - j - more - 1) hK (min (i - j - more - 1) (-1074)) (by omega) (by omega) key
  refine ⟨c, ?_, k2⟩
  show sv .f64 (fop .quo .f64 x y) = some c
  unfold fop; rw [hval]
  show sv .f64 (cb .f64 _) = some c
  rw [sv_cb k1]; exact k1
/-! ## bounds by powers of two -/
theorem lp_le (k : FloatKind) : k.format.leastPlace ≤ 0 := by cases k <;> decide
theorem rep_p {k : FloatKind} {p : Nat} (h : 1074 ≤ p) (h2 : p ≤ 1190) : Rep k (pow2 p) := by
  have := rep_pow (k := k) (m := 1) (p := p) (e := (p : Int) - 1074) (by cases k <;> decide) (by have := lp_le k; omega)
    (by have e1 : (105 : Int) ≤ k.format.leastPlace + ((2 ^ k.format.exponentBits : Nat) : Int) - 2 := by cases k <;> decide
        have e2 : (23 : Int) ≤ (k.format.fractionBits : Int) := by cases k <;> decide
        have e3 : Nat.log2 1 = 0 := by decide
        rw [e3]; omega) rfl
  rwa [shl_pow2, Nat.one_mul] at this
/-- a number of no more than 2 ^ (p - 1074) -/
def Bd (p x : Nat) : Prop := ∃ a, sv .f64 x = some a ∧ a.natAbs ≤ pow2 p
theorem Bd.mono {p q x : Nat} (h : Bd p x) (hq : p ≤ q) : Bd q x := by
  obtain ⟨a, h1, h2⟩ := h
  exact ⟨a, h1, Nat.le_trans h2 (by unfold pow2; exact Nat.pow_le_pow_right (by decide) hq)⟩
theorem p2_two (p : Nat) : pow2 p + pow2 p = pow2 (p + 1) := by unfold pow2; rw [Nat.pow_succ]; omega
theorem Bd.add {p x y : Nat} (h : Bd p x) (k : Bd p y) (h1 : 1074 ≤ p) (h2 : p ≤ 1189) : Bd (p + 1) (fadd .f64 x y) := by
  obtain ⟨a, g1, g2⟩ := h
  obtain ⟨b, k1, k2⟩ := k
  exact sv_add g1 k1 (rep_p (by omega) (by omega)) (by rw [← p2_two]; omega)
theorem Bd.sub {p x y : Nat} (h : Bd p x) (k : Bd p y) (h1 : 1074 ≤ p) (h2 : p ≤ 1189) : Bd (p + 1) (fsub .f64 x y) := by
  obtain ⟨a, g1, g2⟩ := h
  obtain ⟨b, k1, k2⟩ := k
  exact sv_sub g1 k1 (rep_p (by omega) (by omega)) (by rw [← p2_two]; omega)
theorem Bd.mul {p q r x y : Nat} (h : Bd p x) (k : Bd q y) (e : p + q = r + 1074) (h1 : 1074 ≤ r) (h2 : r ≤ 1190) : Bd r (fmul .f64 x y) := by
  obtain ⟨a, g1, g2⟩ := h
  obtain ⟨b, k1, k2⟩ := k
  refine sv_mul g1 k1 (rep_p h1 h2) ?_
  show _ ≤ pow2 r * pow2 1074
  rw [p2_mul, ← e, ← p2_mul]
  exact Nat.mul_le_mul g2 k2
theorem Bd.div {p x y : Nat} {b : Int} (h : Bd p x) (k : sv .f64 y = some b) (hb : PU ≤ b.natAbs) (h1 : 1074 ≤ p) (h2 : p ≤ 1190) : Bd p (fdiv .f64 x y) := by
  obtain ⟨a, g1, g2⟩ := h
  exact sv_div64 g1 k hb (rep_p h1 h2) g2
theorem Bd.neg {p x : Nat} (h : Bd p x) : Bd p (fneg .f64 x) := by
  obtain ⟨a, g1, g2⟩ := h
  exact ⟨-a, fneg_sv g1, by omega⟩
theorem Bd.nar {p x : Nat} (h : Bd p x) (h1 : 1074 ≤ p) (h2 : p ≤ 1190) : narOk x = true := by
  obtain ⟨a, g1, g2⟩ := h
  exact (narOk_sv g1 (rep_p h1 h2) g2).1
theorem Bd.int {x n p : Nat} (h1 : fcmp .geq .f64 x 0 = true) (h2 : fcmp .leq .f64 x (fofint .f64 (n : Nat)) = true) (hn : n < 1000) (hp : n * pow2 1074 ≤ pow2 p) : Bd p x := by
  obtain ⟨a, g1, g2, g3⟩ := between sv_zero64 (sv_fofint (k := .f64) (n := (n : Nat)) (by omega)) h1 h2
  refine ⟨a, g1, Nat.le_trans ?_ hp⟩
  have : (((n : Nat) : Int)) * ((PU : Nat) : Int) = ((n * PU : Nat) : Int) := (Int.natCast_mul _ _).symm
  rw [this] at g3
  show a.natAbs ≤ n * PU
  omega
theorem Bd.one : Bd 1074 4607182418800017408 := Bd.int (n := 1) (by decide) (by decide) (by decide) (by rw [Nat.one_mul]; exact Nat.le_refl _)
theorem Bd.half : Bd 1074 4602678819172646912 := Bd.int (n := 1) (by decide) (by decide) (by decide) (by rw [Nat.one_mul]; exact Nat.le_refl _)
theorem p2_8 (p : Nat) : 8 * pow2 p ≤ pow2 (p + 3) := by
  have : pow2 (p + 3) = pow2 p * 8 := by unfold pow2; rw [Nat.pow_add]
  omega
theorem Bd.turn : Bd 1077 4618760256179416344 := Bd.int (n := 8) (by decide) (by decide) (by decide) (p2_8 1074)
/-! ## the sine of turns -/
def fr1 (f : Nat) : Nat := if fcmp .lss .f64 f 0 = true then fadd .f64 f 4607182418800017408 else f
abbrev fr0 (y : Nat) : Nat := fr1 (fsub .f64 y (whF y))
abbrev tuB (f : Nat) : Bool := fcmp .geq .f64 f 4602678819172646912
def fr2 (f : Nat) : Nat := if tuB f = true then fsub .f64 f 4602678819172646912 else f
def fr3 (f : Nat) : Nat := if fcmp .gtr .f64 (fr2 f) 4598175219545276416 = true then fsub .f64 4602678819172646912 (fr2 f) else fr2 f
abbrev zuF (f : Nat) : Nat := fmul .f64 (fr3 f) 4618760256179416344
def pkF (u : Nat) : Nat → Nat
  | 0 => 4607182418800017408
  | j + 1 => fsub .f64 4607182418800017408 (fdiv .f64 (fmul .f64 u (pkF u j)) (fofint .f64 (2 * (8 - (j : Int)) * (2 * (8 - (j : Int)) + 1))))
abbrev ouF (f : Nat) : Nat := fmul .f64 (zuF f) (pkF (fmul .f64 (zuF f) (zuF f)) 8)
def snF (f : Nat) : Nat := if tuB f = true then fneg .f64 (ouF f) else ouF f
theorem q_bd {i : Int} (h1 : 1 ≤ i) (h2 : i ≤ 8) : 1 ≤ 2 * i * (2 * i + 1) ∧ 2 * i * (2 * i + 1) < 1000 := by
  have : i = 1 ∨ i = 2 ∨ i = 3 ∨ i = 4 ∨ i = 5 ∨ i = 6 ∨ i = 7 ∨ i = 8 := by omega
  rcases this with e | e | e | e | e | e | e | e <;> subst e <;> decide
theorem fr0_bd {y : Nat} {a : Int} (h : sv .f64 y = some a) (ha : a.natAbs < 2 ^ 52 * PU) : Bd 1075 (fr0 y) := by
  obtain ⟨i, _, _, _, h4, h5⟩ := whF_eq h ha
  have h6 : Bd 1074 (fsub .f64 y (whF y)) := sv_sub h h4 (rep_p (p := 1074) (by omega) (by omega)) h5
  unfold fr0 fr1
  split
  · exact h6.add Bd.one (by omega) (by omega)
  · exact h6.mono (by omega)
theorem snF_bd {f : Nat} (h : Bd 1075 f) : Bd 1184 (snF f) := by
  have h2 : Bd 1076 (fr2 f) := by
    unfold fr2; split
    · exact h.sub (Bd.half.mono (by omega)) (by omega) (by omega)
    · exact h.mono (by omega)
  have h3 : Bd 1077 (fr3 f) := by
    unfold fr3; split
    · exact (Bd.half.mono (by omega)).sub h2 (by omega) (by omega)
    · exact h2.mono (by omega)
  have hz : Bd 1080 (zuF f) := h3.mul Bd.turn (by omega) (by omega) (by omega)
  have hu : Bd 1086 (fmul .f64 (zuF f) (zuF f)) := hz.mul hz (by omega) (by omega) (by omega)
  have hp : ∀ j, j ≤ 8 → Bd (1074 + 13 * j) (pkF (fmul .f64 (zuF f) (zuF f)) j) := by
    intro j
    induction j with
    | zero => intro _; exact Bd.one
    | succ j ih =>
      intro hj
      have h1 := hu.mul (ih (by omega)) (r := 1086 + 13 * j) (by omega) (by omega) (by omega)
      have hq := q_bd (i := 8 - (j : Int)) (by omega) (by omega)
      show Bd _ (fsub .f64 4607182418800017408 (fdiv .f64 (fmul .f64 (fmul .f64 (zuF f) (zuF f)) (pkF (fmul .f64 (zuF f) (zuF f)) j)) (fofint .f64 (2 * (8 - (j : Int)) * (2 * (8 - (j : Int)) + 1)))))
      generalize 2 * (8 - (j : Int)) * (2 * (8 - (j : Int)) + 1) = q at hq ⊢
      have hd := h1.div (sv_fofint (k := .f64) (n := q) (by omega)) (by
        rw [Int.natAbs_mul, Int.natAbs_natCast]
        exact Nat.le_mul_of_pos_left _ (by omega)) (by omega) (by omega)
      have := (Bd.one.mono (q := 1086 + 13 * j) (by omega)).sub hd (by omega) (by omega)
      rw [show 1074 + 13 * (j + 1) = 1086 + 13 * j + 1 from by omega]
      exact this
  have ho : Bd 1184 (ouF f) := hz.mul (hp 8 (by omega)) (by omega) (by omega) (by omega)
  unfold snF; split
  · exact ho.neg
  · exact ho
/-! ## which turns -/
theorem sub_inf {y : Nat} {s : Bool} (h : FloatKind.f64.decode y = .infinity s) : fcmp .eql .f64 (fsub .f64 y y) 0 = false := by
  have h' : FloatKind.f64.format.read y = .infinity s := h
  have e : floatBits .sub .f64 y y = none := by
    show FloatKind.f64.format.sub y y = none
    unfold Ieee.Format.sub; rw [h']; cases s <;> rfl
  have e2 : fsub .f64 y y = qn .f64 := by show fop .sub .f64 y y = _; unfold fop; rw [e]
  rw [e2]; decide
theorem sub_nan {y : Nat} (h : nanB .f64 y = true) : fcmp .eql .f64 (fsub .f64 y y) 0 = false := by
  have e2 : fsub .f64 y y = qn .f64 := by show fop .sub .f64 y y = _; unfold fop; rw [floatBits_nan_left h]
  rw [e2]; decide
theorem fin_sv {y : Nat} (h : fcmp .eql .f64 (fsub .f64 y y) 0 = true) : ∃ a, sv .f64 y = some a := by
  rcases word_cases .f64 y with k | ⟨s, k⟩ | k
  · rw [sub_nan k] at h; cases h
  · rw [sub_inf k] at h; cases h
  · exact k
theorem sv_52 : sv .f64 4841369599423283200 = some ((2 ^ 52 * PU : Nat) : Int) := by
  have h := sv_near_int (s := false) (M := 2 ^ 52) (by decide)
  have e : FloatKind.f64.format.nearest false (2 ^ 52) 0 = 4841369599423283200 := by decide
  rw [e] at h; rw [h]; rfl
theorem sv_n52 : sv .f64 14064741636278059008 = some (-((2 ^ 52 * PU : Nat) : Int)) := by
  have h := sv_near_int (s := true) (M := 2 ^ 52) (by decide)
  have e : FloatKind.f64.format.nearest true (2 ^ 52) 0 = 14064741636278059008 := by decide
  rw [e] at h; rw [h]; rfl
/-- so many turns that they are taken for none -/
def farB (y : Nat) : Bool := fcmp .geq .f64 y 4841369599423283200 || fcmp .leq .f64 y 14064741636278059008
theorem far_sv {y : Nat} {a : Int} (h : sv .f64 y = some a) : farB y = decide (2 ^ 52 * PU ≤ a.natAbs) := by
  unfold farB
  rw [geq_sv h sv_52, leq_sv h sv_n52]
  generalize 2 ^ 52 * PU = X
  rw [← Bool.decide_or]
  exact decide_eq_decide.2 (by omega)
theorem far_abs {y : Nat} {a : Int} (h : sv .f64 y = some a) : fcmp .geq .f64 (fabs y) 4841369599423283200 = farB y := by
  rw [far_sv h, geq_sv (sv_fabs h) sv_52]
  generalize 2 ^ 52 * PU = X
  exact decide_eq_decide.2 (by omega)
theorem near_sv {y : Nat} (h : fcmp .eql .f64 (fsub .f64 y y) 0 = true) (k : farB y = false) : ∃ a, sv .f64 y = some a ∧ a.natAbs < 2 ^ 52 * PU := by
  obtain ⟨a, ha⟩ := fin_sv h
  refine ⟨a, ha, ?_⟩
  rw [far_sv ha, decide_eq_false_iff_not] at k
  omega
def sineF (y : Nat) : Nat := if fcmp .eql .f64 (fsub .f64 y y) 0 = true then (if farB y = true then 0 else snF (fr0 y)) else qn .f64
theorem sineF_ok (y : Nat) : narOk (sineF y) = true := by
  unfold sineF
  split
  · rename_i h
    split
    · decide
    · rename_i k
      have k' : farB y = false := by revert k; cases farB y <;> simp
      obtain ⟨a, h1, h2⟩ := near_sv h k'
      exact (snF_bd (fr0_bd h1 h2)).nar (by omega) (by omega)
  · decide
def snT (x : Nat) : Nat := fnar (sineF (fwid x))
theorem sineF_n {y : Nat} (h : fcmp .eql .f64 (fsub .f64 y y) 0 = false) : sineF y = qn .f64 := by unfold sineF; rw [h]; rfl
theorem sineF_f {y : Nat} (h : fcmp .eql .f64 (fsub .f64 y y) 0 = true) (k : farB y = true) : sineF y = 0 := by unfold sineF; rw [h, k]; rfl
theorem sineF_y {y : Nat} (h : fcmp .eql .f64 (fsub .f64 y y) 0 = true) (k : farB y = false) : sineF y = snF (fr0 y) := by unfold sineF; rw [h, k]; rfl
end Go.Proofs.Ytfjancbmecfjgaa.Ab
