/-
  The abstract layer: values of finite floats, and what rounding, order, widening and narrowing do with them.
-/
import Derived.Test.YtkbpdgacfeachaaNm
import Derived.Test.YtkbpdgacfeachaaFo
namespace Go.Proofs.Ytkbpdgacfeachaa.Ab
open Go Go.RowKit
set_option linter.unusedVariables false
set_option linter.unusedSimpArgs false

/-! ## Values of finite words, in units of 2 ^ -1074 -/
def pow2 (k : Nat) : Nat := 2 ^ k
theorem pow2_pos (k : Nat) : 0 < pow2 k := Nat.pow_pos (by decide)
theorem shl_pow2 (n k : Nat) : n <<< k = n * pow2 k := Nat.shiftLeft_eq n k
def PU : Nat := pow2 1074
theorem PU_pos : 0 < PU := pow2_pos 1074
theorem shl_PU (n : Nat) : n <<< 1074 = n * PU := shl_pow2 n 1074
def up (k : FloatKind) : Nat := match k with | .f32 => 925 | .f64 => 0
theorem lp_up (k : FloatKind) : k.format.leastPlace = (up k : Int) - 1074 := by cases k <;> decide
theorem bin_inf (k : FloatKind) : k.format.binade < k.format.infRung := by cases k <;> decide
theorem inf_sw (k : FloatKind) : k.format.infRung < k.format.signWeight := infRung_lt' _
def rg (k : FloatKind) (b : Nat) : Nat := b % k.format.signWeight
def sg (k : FloatKind) (b : Nat) : Bool := b / k.format.signWeight % 2 == 1
/-- the value of a finite word -/
def sv (k : FloatKind) (b : Nat) : Option Int :=
  match k.decode b with
  | .number s m e => some (Ieee.signed s m (e + 1074).toNat)
  | _ => none

theorem signed_mul (s : Bool) (m u z : Nat) : Ieee.signed s m (u + z) = Ieee.signed s m u * ((2 ^ z : Nat) : Int) := by
  unfold Ieee.signed
  have e : m <<< (u + z) = m <<< u * 2 ^ z := by rw [Nat.shiftLeft_add, Nat.shiftLeft_eq (m <<< u)]
  rw [e]
  cases s
  · simp only [Bool.false_eq_true, if_false]; rw [Int.natCast_mul]
  · simp only [if_true]; rw [Int.natCast_mul, Int.neg_mul]
theorem signed_abs (s : Bool) (m u : Nat) : (Ieee.signed s m u).natAbs = m <<< u := by
  unfold Ieee.signed
  cases s
  · simp only [Bool.false_eq_true, if_false, Int.natAbs_natCast]
  · simp only [if_true, Int.natAbs_neg, Int.natAbs_natCast]
theorem signed_sh (s : Bool) (m j u : Nat) : Ieee.signed s (m <<< j) u = Ieee.signed s m (j + u) := by
  unfold Ieee.signed; rw [← Nat.shiftLeft_add]

theorem read_num {k : FloatKind} {w : Nat} {s : Bool} {m : Nat} {e : Int} (h : k.decode w = .number s m e) :
    rg k w < k.format.infRung ∧ s = sg k w ∧ k.format.leastPlace ≤ e ∧ m <<< (e - k.format.leastPlace).toNat = T.rv k.format (rg k w) := by
  by_cases hlt : rg k w < k.format.infRung
  · obtain ⟨m', e', h1, h2, h3⟩ := T.read_fin k.format w hlt
    unfold FloatKind.decode at h
    rw [h1] at h
    cases h
    exact ⟨hlt, rfl, h2, h3⟩
  · exfalso
    have hb := bin_inf k
    unfold rg at hlt
    unfold FloatKind.decode Ieee.Format.read at h
    simp only [if_neg hlt, if_neg (show ¬ w % k.format.signWeight < k.format.binade by omega)] at h
    split at h <;> cases h
theorem fin_num {k : FloatKind} {w : Nat} (h : rg k w < k.format.infRung) : ∃ m e, k.decode w = .number (sg k w) m e ∧ k.format.leastPlace ≤ e ∧ m <<< (e - k.format.leastPlace).toNat = T.rv k.format (rg k w) :=
  T.read_fin k.format w h
theorem place_up {k : FloatKind} {e : Int} (h : k.format.leastPlace ≤ e) : (e + 1074).toNat = (e - k.format.leastPlace).toNat + up k := by
  have := lp_up k; omega
theorem sv_of {k : FloatKind} {w : Nat} (h : rg k w < k.format.infRung) : sv k w = some (Ieee.signed (sg k w) (T.rv k.format (rg k w)) (up k)) := by
  obtain ⟨m, e, h1, h2, h3⟩ := fin_num h
  unfold sv
  rw [h1]
  simp only [place_up h2, ← h3]
  rw [signed_sh]
theorem sv_fin {k : FloatKind} {w : Nat} {a : Int} (h : sv k w = some a) : rg k w < k.format.infRung ∧ a = Ieee.signed (sg k w) (T.rv k.format (rg k w)) (up k) := by
  unfold sv at h
  cases hd : k.decode w with
  | nan s f => rw [hd] at h; cases h
  | infinity s => rw [hd] at h; cases h
  | number s m e =>
    have h1 := (read_num hd).1
    refine ⟨h1, ?_⟩
    have := sv_of h1
    unfold sv at this
    rw [hd] at this h
    rw [h] at this
    exact Option.some.inj this
theorem sv_abs {k : FloatKind} {w : Nat} {a : Int} (h : sv k w = some a) : a.natAbs = T.rv k.format (rg k w) <<< up k := by
  obtain ⟨_, rfl⟩ := sv_fin h; exact signed_abs _ _ _
theorem sv_dec {k : FloatKind} {w : Nat} {a : Int} (h : sv k w = some a) : ∃ s m e, k.decode w = .number s m e ∧ -1074 ≤ e ∧ a = Ieee.signed s m (e + 1074).toNat := by
  unfold sv at h
  cases hd : k.decode w with
  | nan s f => rw [hd] at h; cases h
  | infinity s => rw [hd] at h; cases h
  | number s m e =>
    rw [hd] at h
    have h2 := (read_num hd).2.2.1
    have := lp_up k
    exact ⟨s, m, e, rfl, by omega, (Option.some.inj h).symm⟩
theorem sv_notnan {k : FloatKind} {w : Nat} {a : Int} (h : sv k w = some a) : nanB k w = false := by
  obtain ⟨s, m, e, h1, _⟩ := sv_dec h
  unfold nanB; rw [h1]; rfl
theorem sv_cb {k : FloatKind} {w : Nat} {a : Int} (h : sv k w = some a) : cb k w = w := cb_notnan (sv_notnan h)

/-- the kinds of words -/
theorem word_cases (k : FloatKind) (w : Nat) : nanB k w = true ∨ (∃ s, k.decode w = .infinity s) ∨ ∃ a, sv k w = some a := by
  unfold nanB sv
  cases hd : k.decode w with
  | nan s f => left; rfl
  | infinity s => right; left; exact ⟨s, rfl⟩
  | number s m e => right; right; exact ⟨_, rfl⟩

/-! ## order -/
theorem cmp_lt {a b : Int} (h : a < b) : compare a b = .lt := by
  show compareOfLessAndEq a b = .lt
  unfold compareOfLessAndEq; rw [if_pos h]
theorem cmp_eq {a b : Int} (h : a = b) : compare a b = .eq := by
  subst h
  show compareOfLessAndEq a a = .eq
  unfold compareOfLessAndEq; rw [if_neg (Int.lt_irrefl a), if_pos rfl]
theorem cmp_gt {a b : Int} (h : b < a) : compare a b = .gt := by
  show compareOfLessAndEq a b = .gt
  unfold compareOfLessAndEq; rw [if_neg (by omega), if_neg (by omega)]
theorem compare_scale (a b : Int) (z : Nat) : compare (a * ((2 ^ z : Nat) : Int)) (b * ((2 ^ z : Nat) : Int)) = compare a b := by
  have hp : (0 : Int) < ((2 ^ z : Nat) : Int) := by
    have : 0 < 2 ^ z := Nat.pow_pos (by decide)
    omega
  rcases Int.lt_trichotomy a b with h | h | h
  · rw [cmp_lt h, cmp_lt (Int.mul_lt_mul_of_pos_right h hp)]
  · subst h; rw [cmp_eq rfl, cmp_eq rfl]
  · rw [cmp_gt h, cmp_gt (Int.mul_lt_mul_of_pos_right h hp)]
theorem order_sv {k : FloatKind} {x y : Nat} {a b : Int} (hx : sv k x = some a) (hy : sv k y = some b) : k.format.order x y = some (compare a b) := by
  obtain ⟨s, m, i, h1, h2, rfl⟩ := sv_dec hx
  obtain ⟨t, n, j, h3, h4, rfl⟩ := sv_dec hy
  unfold Ieee.Format.order
  unfold FloatKind.decode at h1 h3
  rw [h1, h3]
  show some (compare (Ieee.signed s m (i - min i j).toNat) (Ieee.signed t n (j - min i j).toNat)) = _
  congr 1
  have e1 : (i + 1074).toNat = (i - min i j).toNat + (min i j + 1074).toNat := by omega
  have e2 : (j + 1074).toNat = (j - min i j).toNat + (min i j + 1074).toNat := by omega
  rw [e1, e2, signed_mul, signed_mul, compare_scale]
theorem lss_sv {k : FloatKind} {x y : Nat} {a b : Int} (hx : sv k x = some a) (hy : sv k y = some b) : fcmp .lss k x y = decide (a < b) := by
  unfold fcmp; simp only [order_sv hx hy]
  rcases Int.lt_trichotomy a b with h | h | h
  · rw [cmp_lt h]; simp [h]
  · rw [cmp_eq h]; simp; omega
  · rw [cmp_gt h]; simp; omega
theorem leq_sv {k : FloatKind} {x y : Nat} {a b : Int} (hx : sv k x = some a) (hy : sv k y = some b) : fcmp .leq k x y = decide (a ≤ b) := by
  unfold fcmp; simp only [order_sv hx hy]
  rcases Int.lt_trichotomy a b with h | h | h
  · rw [cmp_lt h]; simp; omega
  · rw [cmp_eq h]; simp; omega
  · rw [cmp_gt h]; simp; omega
theorem gtr_sv {k : FloatKind} {x y : Nat} {a b : Int} (hx : sv k x = some a) (hy : sv k y = some b) : fcmp .gtr k x y = decide (b < a) := by
  unfold fcmp; simp only [order_sv hx hy]
  rcases Int.lt_trichotomy a b with h | h | h
  · rw [cmp_lt h]; simp; omega
  · rw [cmp_eq h]; simp; omega
  · rw [cmp_gt h]; simp [h]
theorem geq_sv {k : FloatKind} {x y : Nat} {a b : Int} (hx : sv k x = some a) (hy : sv k y = some b) : fcmp .geq k x y = decide (b ≤ a) := by
  unfold fcmp; simp only [order_sv hx hy]
  rcases Int.lt_trichotomy a b with h | h | h
  · rw [cmp_lt h]; simp; omega
  · rw [cmp_eq h]; simp; omega
  · rw [cmp_gt h]; simp; omega
theorem eql_sv {k : FloatKind} {x y : Nat} {a b : Int} (hx : sv k x = some a) (hy : sv k y = some b) : fcmp .eql k x y = decide (a = b) := by
  unfold fcmp; simp only [order_sv hx hy]
  rcases Int.lt_trichotomy a b with h | h | h
  · rw [cmp_lt h]; simp; omega
  · rw [cmp_eq h]; simp [h]
  · rw [cmp_gt h]; simp; omega
/-- an infinity and a number -/
theorem order_inf_l {k : FloatKind} {x y : Nat} {s : Bool} {b : Int} (hx : k.decode x = .infinity s) (hy : sv k y = some b) : k.format.order x y = some (if s then .lt else .gt) := by
  obtain ⟨t, n, j, h3, h4, rfl⟩ := sv_dec hy
  unfold Ieee.Format.order
  unfold FloatKind.decode at hx h3
  rw [hx, h3]; rfl
/-- a number that lies between two others is a number -/
theorem between {k : FloatKind} {x y z : Nat} {b c : Int} (hy : sv k y = some b) (hz : sv k z = some c) (h1 : fcmp .geq k x y = true) (h2 : fcmp .leq k x z = true) : ∃ a, sv k x = some a ∧ b ≤ a ∧ a ≤ c := by
  rcases word_cases k x with h | ⟨s, h⟩ | ⟨a, h⟩
  · unfold fcmp at h1; simp only [order_nan_l h] at h1; cases h1
  · unfold fcmp at h1 h2; simp only [order_inf_l h hy] at h1; simp only [order_inf_l h hz] at h2
    cases s <;> simp at h1 h2
  · refine ⟨a, h, ?_, ?_⟩
    · rw [geq_sv h hy] at h1; simpa using h1
    · rw [leq_sv h hz] at h2; simpa using h2

/-! ## what comes of rounding -/
theorem rg_word (k : FloatKind) (s : Bool) (r : Nat) (h : r < k.format.signWeight) : rg k (k.format.word s r) = r := T.word_mod _ _ _ h
theorem sg_word (k : FloatKind) (s : Bool) (r : Nat) (h : r < k.format.signWeight) : sg k (k.format.word s r) = s := T.word_div _ _ _ h
theorem sv_word (k : FloatKind) (s : Bool) (r : Nat) (h : r < k.format.infRung) : sv k (k.format.word s r) = some (Ieee.signed s (T.rv k.format r) (up k)) := by
  have := inf_sw k
  have h2 : r < k.format.signWeight := by omega
  have h3 : rg k (k.format.word s r) < k.format.infRung := by rw [rg_word k s r h2]; exact h
  rw [sv_of h3, rg_word k s r h2, sg_word k s r h2]
theorem sv_near {k : FloatKind} {s : Bool} {m : Nat} {e : Int} (h : T.rung k.format m e < k.format.infRung) : sv k (k.format.nearest s m e) = some (Ieee.signed s (T.rv k.format (T.rung k.format m e)) (up k)) := by
  rw [T.nearest_rung]; exact sv_word k s _ h
theorem shl_mul (a b z : Nat) : (a * b) <<< z = a * b <<< z := by rw [Nat.shiftLeft_eq, Nat.shiftLeft_eq, Nat.mul_assoc]
/-- what is no more than a number K of the format stays no more than it when rounded -/
theorem near_bd {k : FloatKind} {s : Bool} {m : Nat} {e : Int} {R : Nat} (E : Int) (h1 : E ≤ e) (h2 : E ≤ -1074) (hR : R < k.format.infRung) (h : m <<< (e - E).toNat ≤ (T.rv k.format R <<< up k) <<< (-1074 - E).toNat) :
    ∃ c, sv k (k.format.nearest s m e) = some c ∧ c.natAbs ≤ T.rv k.format R <<< up k ∧ (s = false → 0 ≤ c) ∧ (s = true → c ≤ 0) := by
  have hup := lp_up k
  have hr : T.rung k.format m e ≤ R := by
    refine T.rung_le k.format E h1 (by omega) hR ?_
    rw [show (k.format.leastPlace - E).toNat = up k + (-1074 - E).toNat from by omega, Nat.shiftLeft_add]
    exact h
  refine ⟨_, sv_near (by omega), ?_, ?_, ?_⟩
  · rw [signed_abs, Nat.shiftLeft_eq, Nat.shiftLeft_eq]
    exact Nat.mul_le_mul_right _ (T.rv_le _ hr)
  · rintro rfl; unfold Ieee.signed; simp only [Bool.false_eq_true, if_false]; exact Int.natCast_nonneg _
  · rintro rfl; unfold Ieee.signed; simp only [if_true]; exact Int.neg_nonpos_of_nonneg (Int.natCast_nonneg _)
/-- a number of the format is not changed by rounding -/
theorem near_exact {k : FloatKind} {s : Bool} {m : Nat} {e : Int} {R : Nat} (E : Int) (h1 : E ≤ e) (h2 : E ≤ -1074) (hR : R < k.format.infRung) (h : m <<< (e - E).toNat = (T.rv k.format R <<< up k) <<< (-1074 - E).toNat) :
    k.format.nearest s m e = k.format.word s R := by
  have hup := lp_up k
  have h' : m <<< (e - E).toNat = T.rv k.format R <<< (k.format.leastPlace - E).toNat := by
    rw [show (k.format.leastPlace - E).toNat = up k + (-1074 - E).toNat from by omega, Nat.shiftLeft_add]
    exact h
  have a := T.rung_le k.format E h1 (by omega) hR (Nat.le_of_eq h')
  have b := T.le_rung k.format E h1 (by omega) hR (Nat.le_of_eq h'.symm)
  rw [T.nearest_rung, show T.rung k.format m e = R from by omega]

/-- K is a number of both formats -/
structure Rep (k : FloatKind) (K : Nat) : Prop where
  out : ∃ R, R < k.format.infRung ∧ T.rv k.format R <<< up k = K
theorem Rep.sv {k : FloatKind} {w : Nat} {a : Int} (h : sv k w = some a) : Rep k a.natAbs := ⟨rg k w, (sv_fin h).1, (sv_abs h).symm⟩
theorem rep_pow {k : FloatKind} {m p : Nat} {e : Int} (hm : m.log2 ≤ k.format.fractionBits) (he : k.format.leastPlace ≤ e) (hbig : e + m.log2 - k.format.fractionBits < k.format.leastPlace + ((2 ^ k.format.exponentBits : Nat) : Int) - 2) (hp : e = p - 1074) : Rep k (m <<< p) := by
  obtain ⟨j, h1, h2⟩ := T.read_exact k.format false m e (by cases k <;> decide) hm he hbig
  have h3 : k.decode (k.format.nearest false m e) = .number false (m <<< j) (e - j) := h1
  have h4 := (read_num h3).2.2.1
  have hup := lp_up k
  have h5 : sv k (k.format.nearest false m e) = some (Ieee.signed false (m <<< j) (e - j + 1074).toNat) := by unfold Ab.sv; rw [h3]
  have := Rep.sv h5
  rw [signed_abs, ← Nat.shiftLeft_add, show j + (e - (j : Int) + 1074).toNat = p from by omega] at this
  exact this
theorem rep_int {k : FloatKind} {n : Nat} (h : n < 2 ^ 24) : Rep k (n * PU) := by
  have hl : n.log2 ≤ 23 := by
    by_cases h0 : n = 0
    · subst h0; decide
    · have := (Nat.log2_lt h0).2 h; omega
  have := rep_pow (k := k) (m := n) (p := 1074) (e := 0) (by cases k <;> (show n.log2 ≤ _; simp only [FloatKind.format, Ieee.single, Ieee.double]; omega)) (by rw [lp_up]; cases k <;> decide)
    (by have e1 : k.format.leastPlace + ((2 ^ k.format.exponentBits : Nat) : Int) - 2 ≥ 100 := by cases k <;> decide
        have e2 : (0 : Int) ≤ k.format.fractionBits := Int.natCast_nonneg _
        omega) (by omega)
  rw [shl_PU] at this
  exact this
theorem near_Rep {k : FloatKind} {s : Bool} {m K : Nat} {e : Int} (hK : Rep k K) (E : Int) (h1 : E ≤ e) (h2 : E ≤ -1074) (h : m <<< (e - E).toNat ≤ K <<< (-1074 - E).toNat) :
    ∃ c, sv k (k.format.nearest s m e) = some c ∧ c.natAbs ≤ K ∧ (s = false → 0 ≤ c) ∧ (s = true → c ≤ 0) := by
  obtain ⟨R, hR, rfl⟩ := hK.out
  exact near_bd E h1 h2 hR h
theorem near_Repx {k : FloatKind} {s : Bool} {m K : Nat} {e : Int} (hK : Rep k K) (E : Int) (h1 : E ≤ e) (h2 : E ≤ -1074) (h : m <<< (e - E).toNat = K <<< (-1074 - E).toNat) :
    ∃ c, sv k (k.format.nearest s m e) = some c ∧ c = if s then -(K : Int) else K := by
  obtain ⟨R, hR, rfl⟩ := hK.out
  refine ⟨_, by rw [near_exact E h1 h2 hR h]; exact sv_word k s R hR, ?_⟩
  rfl

/-! ## whole numbers -/
theorem sv_fofint {k : FloatKind} {n : Int} (h : n.natAbs < 2 ^ 24) : sv k (fofint k n) = some (n * PU) := by
  rw [fofint_eq]
  have hp : n.natAbs <<< (0 - (-1074 : Int)).toNat = (n.natAbs * PU) <<< (-1074 - (-1074) : Int).toNat := by
    rw [show (-1074 - (-1074) : Int).toNat = 0 from by decide, Nat.shiftLeft_zero, show (0 - (-1074 : Int)).toNat = 1074 from by decide, shl_PU]
  obtain ⟨c, h1, h2⟩ := near_Repx (k := k) (s := decide (n < 0)) (e := 0) (rep_int h) (-1074) (by omega) (by omega) hp
  have h1' : sv k (k.nearest n) = some c := h1
  rw [h1', h2]
  refine congrArg some ?_
  rcases Int.lt_or_le n 0 with hn | hn
  · rw [decide_eq_true hn, if_pos rfl]
    have : ((n.natAbs * PU : Nat) : Int) = -n * PU := by rw [Int.natCast_mul, show ((n.natAbs : Nat) : Int) = -n from by omega]
    rw [this, Int.neg_mul, Int.neg_neg]
  · rw [decide_eq_false (by omega)]
    rw [if_neg (by decide), Int.natCast_mul, show ((n.natAbs : Nat) : Int) = n from by omega]

/-! ## widening and narrowing -/
theorem sv_fwid {x : Nat} {a : Int} (h : sv .f32 x = some a) : sv .f64 (fwid x) = some a := by
  obtain ⟨s, m, e, h1, h2, rfl⟩ := sv_dec h
  obtain ⟨b1, b2, b3⟩ := read32_bounds h1
  rw [fwid_some (f2f_num h1), cb_notnan nan_num, encode_number]
  have hm : m.log2 < 24 := by
    by_cases h0 : m = 0
    · subst h0; decide
    · exact (Nat.log2_lt h0).2 (by simpa using b1)
  have hrep : Rep .f64 (m <<< (e + 1074).toNat) := by
    refine rep_pow (e := e) ?_ ?_ ?_ ?_
    · show m.log2 ≤ 52; omega
    · rw [lp_up]; show (0 : Int) - 1074 ≤ e; omega
    · have e1 : (FloatKind.f64.format.leastPlace + ((2 ^ FloatKind.f64.format.exponentBits : Nat) : Int) - 2) = 972 := by decide
      have e2 : FloatKind.f64.format.fractionBits = 52 := rfl
      rw [e1, e2]; omega
    · omega
  obtain ⟨c, h3, h4⟩ := near_Repx (s := s) (m := m) (e := e) hrep (-1074) (by omega) (by omega) (by
    rw [show (-1074 - (-1074) : Int).toNat = 0 from by decide, Nat.shiftLeft_zero]; congr 1)
  rw [h3, h4]
  congr 1
theorem narOk_sv {b : Nat} {a : Int} {K : Nat} (h : sv .f64 b = some a) (hK : Rep .f32 K) (hle : a.natAbs ≤ K) : narOk b = true ∧ ∃ c, sv .f32 (fnar b) = some c ∧ c.natAbs ≤ K ∧ (0 ≤ a → 0 ≤ c) := by
  obtain ⟨s, m, e, h1, h2, rfl⟩ := sv_dec h
  rw [signed_abs] at hle
  obtain ⟨c, h3, h4, h5, h6⟩ := near_Rep (s := s) (m := m) (e := e) hK (-1074) h2 (by omega) (by
    rw [show (-1074 - (-1074) : Int).toNat = 0 from by decide, Nat.shiftLeft_zero]; exact hle)
  have he : FloatKind.f32.encode (.number s m e) = FloatKind.f32.format.nearest s m e := rfl
  constructor
  · unfold narOk; rw [h1]; simp only [he]
    obtain ⟨s', m', e', h7, _⟩ := sv_dec h3
    rw [h7]; rfl
  · refine ⟨c, ?_, h4, fun h0 => ?_⟩
    · unfold fnar
      rw [sv_notnan h]
      simp only [Bool.false_eq_true, if_false]
      rw [h1, he, sv_cb h3]; exact h3
    · cases s with
      | false => exact h5 rfl
      | true =>
        have := h6 rfl
        have hz : m <<< (e + 1074).toNat = 0 := by
          have h8 : Ieee.signed true m (e + 1074).toNat = -((m <<< (e + 1074).toNat : Nat) : Int) := rfl
          rw [h8] at h0
          generalize m <<< (e + 1074).toNat = z at h0 ⊢
          omega
        -- a zero stays a zero
        obtain ⟨c', h9, h10, _⟩ := near_Rep (k := .f32) (s := true) (m := m) (K := 0) (e := e) ⟨0, by decide, by decide⟩ (-1074) h2 (by omega) (by
          rw [show (e - (-1074)) = e + 1074 from by omega, hz]; exact Nat.zero_le _)
        rw [h3] at h9; cases h9; omega
theorem fnar_exact {b : Nat} {a : Int} (h : sv .f64 b = some a) (hK : Rep .f32 a.natAbs) : narOk b = true ∧ sv .f32 (fnar b) = some a := by
  refine ⟨(narOk_sv h hK (Nat.le_refl _)).1, ?_⟩
  obtain ⟨s, m, e, h1, h2, rfl⟩ := sv_dec h
  rw [signed_abs] at hK
  obtain ⟨c, h3, h4⟩ := near_Repx (s := s) (m := m) (e := e) hK (-1074) h2 (by omega) (by
    rw [show (-1074 - (-1074) : Int).toNat = 0 from by decide, Nat.shiftLeft_zero]; congr 1)
  have he : FloatKind.f32.encode (.number s m e) = FloatKind.f32.format.nearest s m e := rfl
  unfold fnar
  rw [sv_notnan h]
  simp only [Bool.false_eq_true, if_false]
  rw [h1, he, sv_cb h3, h3, h4]
  congr 1
end Go.Proofs.Ytkbpdgacfeachaa.Ab
