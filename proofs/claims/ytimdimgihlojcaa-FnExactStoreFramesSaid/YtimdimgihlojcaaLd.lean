/-
  Walks: math.Ldexp, scaling by a power of two.
-/
import Derived.Test.YtimdimgihlojcaaPk
namespace Go.Proofs.Ytimdimgihlojcaa.Ab
open Go Go.RowKit
attribute [local irreducible] Run Then InBlock LoopQ LQ1 LQ2 LQ3 LQ4 LQ5 LQ6 AWp Ret ACall
set_option linter.unusedVariables false
set_option linter.unusedSimpArgs false

section
variable {P : Program} {n : Nat} {T : Tm} {M : Mem} {ops : Array Oper} {st : Option (List Nat)} {Q : Tm → Mem → Prop} {fl : Bool} {l : List (Oper × Bool)} {d : Option Nat} {ty : Nat} {pos : String} {after : Array Edge}
theorem rCi {s t : Nat} {k k' : IntKind} [h1 : UnderT P s (.int k')] [h2 : UnderT P t (.int k)] {x : Operand} {a c : Int} (ex : ev T x = some (.int k' a)) (hv : k.wrap a = c) (kk : Run P n ops st Q l (putT n d (.int k c) T) M) : Run P n ops st Q ((⟨d, .convert s t x, ty, pos, after, none⟩, fl) :: l) T M := by
  subst hv
  exact run_tame rfl (tame_conv_ii (by rw [h1.out]; rfl) h2.out ex) kk
end
/-! ## bits -/
theorem ofInt_nat64 (c : Nat) : BitVec.ofInt 64 (c : Int) = BitVec.ofNat 64 c := by
  apply BitVec.eq_of_toNat_eq; rw [toNat_ofInt64, BitVec.toNat_ofNat]
theorem wrap_u64 {c : Nat} (h : c < 18446744073709551616) : IntKind.u64.wrap (c : Int) = c := by
  unfold IntKind.wrap
  simp only [IntKind.signed, IntKind.bits, Bool.false_and, Bool.false_eq_true, if_false]
  omega
theorem bit_shr (c j : Nat) (hj : j ≤ 64) : ibit .shr .u64 (c : Nat) (j : Nat) = ((c / 2 ^ j : Nat) : Int) := by
  show (c : Int).fdiv (2 ^ min ((j : Nat) : Int).toNat 64) = _
  rw [Int.toNat_natCast, Nat.min_eq_left hj, Int.fdiv_eq_ediv_of_nonneg _ (by exact Int.le_of_lt (Int.pow_pos (by decide)))]
  rw [Int.natCast_ediv, Int.natCast_pow]; rfl
theorem bit_shr52 (c : Nat) : ibit .shr .u64 (c : Nat) 52 = ((c / 2 ^ 52 : Nat) : Int) := bit_shr c 52 (by decide)
theorem bit_and11 {n : Nat} (h : n < 9223372036854775808) : ibit .and .i64 (n : Nat) 2047 = ((n % 2048 : Nat) : Int) := by
  have h1 : (BitVec.ofInt 64 (n : Int) &&& BitVec.ofInt 64 2047).toNat = n % 2048 := by
    have e : (BitVec.ofInt 64 2047 : BitVec 64) = BitVec.ofNat 64 (2 ^ 11 - 1) := by decide
    rw [e, BitVec.toNat_and, toNat_ofInt64, BitVec.toNat_ofNat, Nat.mod_eq_of_lt (a := 2 ^ 11 - 1) (by decide), Nat.and_two_pow_sub_one_eq_mod]
    omega
  show IntKind.i64.wrap (((BitVec.ofInt 64 (n : Int) &&& BitVec.ofInt 64 2047).toNat : Nat) : Int) = _
  rw [h1, wrap_i64_in (by omega) (by omega)]
theorem tb_parts {S f q j : Nat} (hq : q < 2048) (hf : f < 4503599627370496) : (S * 9223372036854775808 + (q * 4503599627370496 + f)).testBit j = if j < 52 then f.testBit j else if j < 63 then q.testBit (j - 52) else S.testBit (j - 63) := by
  have e1 : S * 9223372036854775808 + (q * 4503599627370496 + f) = 2 ^ 63 * S + (2 ^ 52 * q + f) := by
    rw [show (2 : Nat) ^ 63 = 9223372036854775808 from by decide, show (2 : Nat) ^ 52 = 4503599627370496 from by decide]; omega
  have hf' : f < 2 ^ 52 := by rw [show (2 : Nat) ^ 52 = 4503599627370496 from by decide]; exact hf
  rw [e1, Nat.testBit_two_pow_mul_add _ (by rw [show (2 : Nat) ^ 63 = 9223372036854775808 from by decide, show (2 : Nat) ^ 52 = 4503599627370496 from by decide]; omega), Nat.testBit_two_pow_mul_add _ hf']
  by_cases h1 : j < 52
  · rw [if_pos (by omega), if_pos h1, if_pos h1]
  · rw [if_neg h1, if_neg h1]
theorem bit_clear {S f q : Nat} (hS : S < 2) (hq : q < 2048) (hf : f < 4503599627370496) : ibit .andNot .u64 ((S * 9223372036854775808 + (q * 4503599627370496 + f) : Nat) : Int) 9218868437227405312 = ((S * 9223372036854775808 + (0 * 4503599627370496 + f) : Nat) : Int) := by
  have h1 : (BitVec.ofInt 64 ((S * 9223372036854775808 + (q * 4503599627370496 + f) : Nat) : Int) &&& ~~~ BitVec.ofInt 64 9218868437227405312).toNat = S * 9223372036854775808 + (0 * 4503599627370496 + f) := by
    have e : (~~~ BitVec.ofInt 64 9218868437227405312 : BitVec 64) = BitVec.ofNat 64 (1 * 9223372036854775808 + (0 * 4503599627370496 + 4503599627370495)) := by decide
    rw [e, BitVec.toNat_and, toNat_ofInt64, BitVec.toNat_ofNat, Nat.mod_eq_of_lt (a := S * 9223372036854775808 + (q * 4503599627370496 + f)) (by omega), Nat.mod_eq_of_lt (by decide)]
    apply Nat.eq_of_testBit_eq
    intro j
    rw [Nat.testBit_and, tb_parts hq hf, tb_parts (by decide) (by decide), tb_parts (by decide) hf]
    by_cases h1 : j < 52
    · rw [if_pos h1, if_pos h1, if_pos h1, show (4503599627370495 : Nat) = 2 ^ 52 - 1 from by decide, Nat.testBit_two_pow_sub_one]
      simp [h1]
    · rw [if_neg h1, if_neg h1, if_neg h1]
      by_cases h2 : j < 63
      · rw [if_pos h2, if_pos h2, if_pos h2]; simp
      · rw [if_neg h2, if_neg h2, if_neg h2]
        obtain rfl | rfl : S = 0 ∨ S = 1 := by omega
        · simp
        · simp
  show IntKind.u64.wrap (((BitVec.ofInt 64 _ &&& ~~~ BitVec.ofInt 64 9218868437227405312).toNat : Nat) : Int) = _
  rw [h1, wrap_u64 (by omega)]
theorem bit_shl {q : Nat} (hq : q < 2048) : ibit .shl .u64 (q : Nat) 52 = ((0 * 9223372036854775808 + (q * 4503599627370496 + 0) : Nat) : Int) := by
  show IntKind.u64.wrap ((q : Int) * 2 ^ min ((52 : Int)).toNat 64) = _
  have e : ((q : Int) * 2 ^ min ((52 : Int)).toNat 64) = ((0 * 9223372036854775808 + (q * 4503599627370496 + 0) : Nat) : Int) := by
    have : (2 : Int) ^ min ((52 : Int)).toNat 64 = 4503599627370496 := by decide
    rw [this]; omega
  rw [e, wrap_u64 (by omega)]
theorem bit_set {S f q : Nat} (hS : S < 2) (hq : q < 2048) (hf : f < 4503599627370496) : ibit .or .u64 ((S * 9223372036854775808 + (0 * 4503599627370496 + f) : Nat) : Int) ((0 * 9223372036854775808 + (q * 4503599627370496 + 0) : Nat) : Int) = ((S * 9223372036854775808 + (q * 4503599627370496 + f) : Nat) : Int) := by
  have h1 : (BitVec.ofInt 64 ((S * 9223372036854775808 + (0 * 4503599627370496 + f) : Nat) : Int) ||| BitVec.ofInt 64 ((0 * 9223372036854775808 + (q * 4503599627370496 + 0) : Nat) : Int)).toNat = S * 9223372036854775808 + (q * 4503599627370496 + f) := by
    rw [BitVec.toNat_or, toNat_ofInt64, toNat_ofInt64, Nat.mod_eq_of_lt (by omega), Nat.mod_eq_of_lt (by omega)]
    apply Nat.eq_of_testBit_eq
    intro j
    rw [Nat.testBit_or, tb_parts (by decide) hf, tb_parts hq (by decide), tb_parts hq hf]
    by_cases h1 : j < 52
    · rw [if_pos h1, if_pos h1, if_pos h1]; simp
    · rw [if_neg h1, if_neg h1, if_neg h1]
      by_cases h2 : j < 63
      · rw [if_pos h2, if_pos h2, if_pos h2]; simp
      · rw [if_neg h2, if_neg h2, if_neg h2]; simp
  show IntKind.u64.wrap (((BitVec.ofInt 64 _ ||| BitVec.ofInt 64 _).toNat : Nat) : Int) = _
  rw [h1, wrap_u64 (by omega)]
theorem dw_bits (s : Bool) (q f : Nat) : dw s q f = s.toNat * 9223372036854775808 + (q * 4503599627370496 + f) := by
  unfold dw Ieee.Format.word; rw [sw64]; cases s <;> simp
theorem cb_fin {c b : Nat} {a : Int} (h : cb .f64 c = b) (hs : sv .f64 b = some a) : c = b := by
  rcases cb_cases .f64 c with ⟨h1, h2⟩ | ⟨h1, h2⟩
  · have := sv_notnan hs
    rw [← h, nanB_cb, h1] at this; cases this
  · rw [← h2, h]
/-! ## the walks -/
-- @reg math.IsNaN : c_IsNaN _ _
theorem c_IsNaN (b : Nat) (M : Mem) : ACall Try.prog 106 [.float .f64 b] M fun v M' => v = .bool (nanB .f64 b) ∧ M' = M := by
  refine acall_of_awp Try.func106 rfl Try.ntmps106 rfl ?_
  refine cS (cR ?_)
  refine asg rfl ?_
  refine rN ?_
  refine qN ?_
  refine cS (cR ?_)
  refine mv rfl ?_
  refine mv rfl ?_
  refine fCm rfl rfl rfl ?_
  refine asg rfl ?_
  refine rN ?_
  refine qN ?_
  refine cE ?_
  refine kE rfl rfl  ?_
  first | (exfalso; contradiction) | exact ⟨_, ⟨by rw [fcmp_neq_self], rfl⟩, (by (try simp only [List.cons_append, List.nil_append, List.append_assoc]); repeat' first | with_reducible apply eR | with_reducible apply eA | ((with_reducible apply xA); · repeat first | with_reducible apply lH | with_reducible apply lT | with_reducible apply lL) | ((with_reducible apply xC); · repeat first | apply pH | with_reducible apply pT | with_reducible apply pL) | with_reducible assumption | with_reducible apply eS | with_reducible apply eL | exact eR)⟩ | (exfalso; first | contradiction | omega | (simp_all; done) | (simp_all; omega))
-- @reg math.IsInf : c_IsInf0 _ _
theorem c_IsInf0 (b : Nat) (M : Mem) : ACall Try.prog 105 [.float .f64 b, .int .i64 0] M fun v M' => v = .bool (fcmp .gtr .f64 (fabs b) 9218868437227405311) ∧ M' = M := by
  refine acall_of_awp Try.func105 rfl Try.ntmps105 rfl ?_
  refine cS (cR ?_)
  refine asg rfl ?_
  refine rN ?_
  refine qN ?_
  refine cS ?_
  refine cS (cR ?_)
  refine mv rfl ?_
  refine bEql rfl rfl ?_
  refine rN ?_
  refine qN ?_
  refine cTa rfl (rfl) ?_
  refine cR ?_
  refine mv rfl ?_
  refine rCq rfl (c_Abs _ _) ?_
  refine asg rfl ?_
  refine rN ?_
  refine qN ?_
  refine cS (cR ?_)
  refine mv rfl ?_
  refine fCm rfl rfl rfl ?_
  refine asg rfl ?_
  refine rN ?_
  refine qN ?_
  refine cE ?_
  refine kE rfl rfl  ?_
  first | (exfalso; contradiction) | exact ⟨_, ⟨rfl, rfl⟩, (by (try simp only [List.cons_append, List.nil_append, List.append_assoc]); repeat' first | with_reducible apply eR | with_reducible apply eA | ((with_reducible apply xA); · repeat first | with_reducible apply lH | with_reducible apply lT | with_reducible apply lL) | ((with_reducible apply xC); · repeat first | apply pH | with_reducible apply pT | with_reducible apply pL) | with_reducible assumption | with_reducible apply eS | with_reducible apply eL | exact eR)⟩ | exact ⟨_, ⟨by first | (simp_all; done) | (simp_all; intros; omega), rfl⟩, (by (try simp only [List.cons_append, List.nil_append, List.append_assoc]); repeat' first | with_reducible apply eR | with_reducible apply eA | ((with_reducible apply xA); · repeat first | with_reducible apply lH | with_reducible apply lT | with_reducible apply lL) | ((with_reducible apply xC); · repeat first | apply pH | with_reducible apply pT | with_reducible apply pL) | with_reducible assumption | with_reducible apply eS | with_reducible apply eL | exact eR)⟩ | (exfalso; first | contradiction | omega | (simp_all; done) | (simp_all; omega))
theorem dw_big {s : Bool} {q f : Nat} (hq : 1 ≤ q ∧ q ≤ 2046) (hf : f < 4503599627370496) : fcmp .gtr .f64 (fabs (dw s q f)) 9218868437227405311 = false ∧ fcmp .lss .f64 (fabs (dw s q f)) 4503599627370496 = false ∧ fcmp .eql .f64 (dw s q f) 0 = false := by
  have h1 := sv_dw (s := s) hq hf
  have h2 := sv_fabs h1
  rw [signed_abs, Nat.shiftLeft_zero] at h2
  have h3 : sv .f64 9218868437227405311 = some (Ieee.signed false ((4503599627370496 + 4503599627370495) <<< (2046 - 1)) 0) := sv_dw (s := false) (q := 2046) (f := 4503599627370495) (by decide) (by decide)
  have h4 : sv .f64 4503599627370496 = some (Ieee.signed false ((4503599627370496 + 0) <<< (1 - 1)) 0) := sv_dw (s := false) (q := 1) (f := 0) (by decide) (by decide)
  have m1 : (4503599627370496 + f) <<< (q - 1) ≤ (4503599627370496 + 4503599627370495) <<< (2046 - 1) := by
    have := T.rv_le FloatKind.f64.format (r := q * 4503599627370496 + f) (r' := 2046 * 4503599627370496 + 4503599627370495) (by omega)
    rw [rv_norm hq.1 hf, rv_norm (by decide) (by decide)] at this
    exact this
  have m2 : (4503599627370496 + 0) <<< (1 - 1) ≤ (4503599627370496 + f) <<< (q - 1) := by
    have := T.rv_le FloatKind.f64.format (r := 1 * 4503599627370496 + 0) (r' := q * 4503599627370496 + f) (by omega)
    rw [rv_norm hq.1 hf, rv_norm (by decide) (by decide)] at this
    exact this
  have sg0 : ∀ m : Nat, Ieee.signed false m 0 = (m : Int) := fun m => by unfold Ieee.signed; rw [Nat.shiftLeft_zero]; rfl
  rw [sg0] at h3 h4
  refine ⟨?_, ?_, ?_⟩
  · rw [gtr_sv h2 h3, decide_eq_false_iff_not]; exact Int.not_lt.2 (Int.ofNat_le.2 m1)
  · rw [lss_sv h2 h4, decide_eq_false_iff_not]; exact Int.not_lt.2 (Int.ofNat_le.2 m2)
  · rw [eql_sv h1 (sv_zero .f64), decide_eq_false_iff_not]
    intro h0
    have := congrArg Int.natAbs h0
    rw [signed_abs, Nat.shiftLeft_zero] at this
    have e : (4503599627370496 + 0) <<< (1 - 1) = 4503599627370496 := by decide
    rw [e] at m2
    simp at this
theorem c_normalize (b : Nat) (h : fcmp .lss .f64 (fabs b) 4503599627370496 = false) (M : Mem) : ACall Try.prog 107 [.float .f64 b] M fun v M' => v = .tuple #[.float .f64 b, .int .i64 0] ∧ M' = M := by
  refine acall_of_awp Try.func107 rfl Try.ntmps107 rfl ?_
  refine cS (cR ?_)
  refine asg rfl ?_
  refine asg rfl ?_
  refine rN ?_
  refine qN ?_
  refine cS ?_
  refine cS (cR ?_)
  refine mv rfl ?_
  refine rCq rfl (c_Abs _ _) ?_
  refine fCm rfl rfl rfl ?_
  refine rN ?_
  refine qN ?_
  refine cFa rfl (h) ?_
  refine cK ?_
  refine qN ?_
  refine cS (cR ?_)
  refine mv rfl ?_
  refine asg rfl ?_
  refine asg rfl ?_
  refine rN ?_
  refine qN ?_
  refine cE ?_
  refine kE2 rfl rfl rfl rfl rfl  ?_
  first | (exfalso; contradiction) | exact ⟨_, ⟨rfl, rfl⟩, (by (try simp only [List.cons_append, List.nil_append, List.append_assoc]); repeat' first | with_reducible apply eR | with_reducible apply eA | ((with_reducible apply xA); · repeat first | with_reducible apply lH | with_reducible apply lT | with_reducible apply lL) | ((with_reducible apply xC); · repeat first | apply pH | with_reducible apply pT | with_reducible apply pL) | with_reducible assumption | with_reducible apply eS | with_reducible apply eL | exact eR)⟩ | exact ⟨_, ⟨by first | (simp_all; done) | (simp_all; intros; omega), rfl⟩, (by (try simp only [List.cons_append, List.nil_append, List.append_assoc]); repeat' first | with_reducible apply eR | with_reducible apply eA | ((with_reducible apply xA); · repeat first | with_reducible apply lH | with_reducible apply lT | with_reducible apply lL) | ((with_reducible apply xC); · repeat first | apply pH | with_reducible apply pT | with_reducible apply pL) | with_reducible assumption | with_reducible apply eS | with_reducible apply eL | exact eR)⟩ | (exfalso; first | contradiction | omega | (simp_all; done) | (simp_all; omega))
theorem c_ldexpN (s : Bool) (q f : Nat) (k : Int) (hq : 1 ≤ q ∧ q ≤ 2046) (hf : f < 4503599627370496) (hk : -1022 ≤ k ∧ k ≤ 1023) (hqk : 1 ≤ q + k ∧ q + k ≤ 2046) (M : Mem) :
    ACall Try.prog 83 [.float .f64 (dw s q f), .int .i64 k] M fun v M' => v = .float .f64 (fmul .f64 (dw s q f) (twoB k)) ∧ M' = M := by
  obtain ⟨g1, g2, g3⟩ := dw_big (s := s) hq hf
  have hnn : nanB .f64 (dw s q f) = false := sv_notnan (sv_dw hq hf)
  obtain ⟨Q, hQ⟩ : ∃ Q : Nat, (Q : Int) = q + k := ⟨(q + k).toNat, by omega⟩
  have hst : s.toNat < 2 := by cases s <;> decide
  rw [(mul_two hq hf hk hqk).1, show (q + k).toNat = Q from by omega]
  skip
  skip
  skip
  skip
  skip
  skip
  skip
  skip
  refine acall_of_awp Try.func83 rfl Try.ntmps83 rfl ?_
  refine cS (cR ?_)
  refine asg rfl ?_
  refine rN ?_
  refine qN ?_
  refine cS ?_
  refine cB ?_
  refine cS (cR ?_)
  refine mv rfl ?_
  refine fCm rfl rfl rfl ?_
  refine asg rfl ?_
  refine rN ?_
  refine qN ?_
  refine cFa rfl (g3) ?_
  refine cS (cR ?_)
  refine mv rfl ?_
  refine rCq rfl (c_IsInf0 _ _) ?_
  refine mv rfl ?_
  have k1 := g1
  refine gG rfl rfl k1 ?_
  refine mv rfl ?_
  refine gG rfl rfl k1 ?_
  refine rCq rfl (c_IsNaN _ _) ?_
  refine kF rfl k1 rfl ?_
  refine asg rfl ?_
  refine rN ?_
  refine qN ?_
  refine cFa rfl (hnn) ?_
  refine cK ?_
  refine qBN ?_
  refine qN ?_
  refine cS (cR ?_)
  refine mv rfl ?_
  refine rCq rfl (c_normalize _ g2 _) ?_
  refine mv rfl ?_
  refine xt rfl rfl rfl ?_
  refine xt rfl rfl rfl ?_
  refine asg rfl ?_
  refine asg rfl ?_
  refine rN ?_
  refine qN ?_
  refine cS (cR ?_)
  refine mv rfl ?_
  refine mv rfl ?_
  first | refine rAn rfl rfl (by omega) ?_ | refine rA rfl rfl (by omega) (by omega) ?_ | refine bAdd rfl rfl ?_
  refine asg rfl ?_
  refine rN ?_
  refine qN ?_
  refine cS (cR ?_)
  refine mv rfl ?_
  refine xB64 rfl ?_; intro n1 hn1
  refine asg rfl ?_
  refine rN ?_
  refine qN ?_
  refine cS (cR ?_)
  refine mv rfl ?_
  refine mv rfl ?_
  refine rSh rfl rfl rfl (by omega) ?_
  obtain rfl := cb_fin hn1 (sv_dw hq hf)
  rw [bit_shr52, show dw s q f / 2 ^ 52 = s.toNat * 2048 + q from by rw [dw_bits, show (2 : Nat) ^ 52 = 4503599627370496 from by decide]; omega]
  first | refine cvI rfl (by omega) (by omega) ?_ | refine rp rfl ?_
  refine rBt rfl rfl rfl ?_
  rw [bit_and11 (by omega), show (s.toNat * 2048 + q) % 2048 = q from by omega]
  first | refine rB rfl rfl (by omega) (by omega) ?_ | refine bSub rfl rfl ?_
  first | refine rAn rfl rfl (by omega) ?_ | refine rA rfl rfl (by omega) (by omega) ?_ | refine bAdd rfl rfl ?_
  refine asg rfl ?_
  refine rN ?_
  refine qN ?_
  refine cS ?_
  refine cS (cR ?_)
  refine mv rfl ?_
  refine bLss rfl rfl ?_
  refine rN ?_
  refine qN ?_
  refine cFa rfl (by rw [decide_eq_false_iff_not]; omega) ?_
  refine cK ?_
  refine qN ?_
  refine cS ?_
  refine cS (cR ?_)
  refine mv rfl ?_
  refine bGtr rfl rfl ?_
  refine rN ?_
  refine qN ?_
  refine cFa rfl (by rw [decide_eq_false_iff_not]; omega) ?_
  refine cK ?_
  refine qN ?_
  refine cS (cR ?_)
  refine asg rfl ?_
  refine rN ?_
  refine qN ?_
  refine cS ?_
  refine cS (cR ?_)
  refine mv rfl ?_
  refine bLss rfl rfl ?_
  refine rN ?_
  refine qN ?_
  refine cFa rfl (by rw [decide_eq_false_iff_not]; omega) ?_
  refine cK ?_
  refine qN ?_
  refine cS (cR ?_)
  refine mv rfl ?_
  refine rBt rfl rfl rfl ?_
  rw [dw_bits s q f, bit_clear hst (by omega) hf]
  refine asg rfl ?_
  refine rN ?_
  refine qN ?_
  refine cS (cR ?_)
  refine mv rfl ?_
  refine mv rfl ?_
  refine rA rfl rfl (by omega) (by omega) ?_
  rw [show k + 0 + ((q : Int) - 1023) + 1023 = (Q : Nat) from by omega]
  refine rCi rfl (wrap_u64 (by omega)) ?_
  refine rSh rfl rfl rfl (by omega) ?_
  rw [bit_shl (by omega)]
  refine rBt rfl rfl rfl ?_
  rw [bit_set hst (by omega) hf, ← dw_bits s Q f]
  refine asg rfl ?_
  refine rN ?_
  refine qN ?_
  refine cS (cR ?_)
  refine mv rfl ?_
  refine mv rfl ?_
  refine xFr64 rfl ?_
  refine fMl rfl rfl ?_
  refine asg rfl ?_
  refine rN ?_
  refine qN ?_
  refine cE ?_
  skip
  have e1 : fmul .f64 4607182418800017408 (cb .f64 ((dw s Q f : Nat) : Int).toNat) = dw s Q f := by
    rw [Int.toNat_natCast, sv_cb (sv_dw (s := s) (q := Q) (by omega) hf)]
    have := (mul_two (s := s) (q := Q) (f := f) (k := 0) (by omega) hf (by decide) (by omega)).2
    rw [show ((Q : Int) + 0).toNat = Q from by omega] at this
    exact this
  refine kE rfl rfl  ?_
  first | (exfalso; contradiction) | exact ⟨_, ⟨by rw [e1], rfl⟩, (by (try simp only [List.cons_append, List.nil_append, List.append_assoc]); repeat' first | with_reducible apply eR | with_reducible apply eA | ((with_reducible apply xA); · repeat first | with_reducible apply lH | with_reducible apply lT | with_reducible apply lL) | ((with_reducible apply xC); · repeat first | apply pH | with_reducible apply pT | with_reducible apply pL) | with_reducible assumption | with_reducible apply eS | with_reducible apply eL | exact eR)⟩ | (exfalso; first | contradiction | omega | (simp_all; done) | (simp_all; omega))
theorem c_ldexp0 (s : Bool) (k : Int) (M : Mem) :
    ACall Try.prog 83 [.float .f64 (dw s 0 0), .int .i64 k] M fun v M' => v = .float .f64 (dw s 0 0) ∧ M' = M := by
  refine acall_of_awp Try.func83 rfl Try.ntmps83 rfl ?_
  refine cS (cR ?_)
  refine asg rfl ?_
  refine rN ?_
  refine qN ?_
  refine cS ?_
  refine cB ?_
  refine cS (cR ?_)
  refine mv rfl ?_
  refine fCm rfl rfl rfl ?_
  refine asg rfl ?_
  refine rN ?_
  refine qN ?_
  refine cTa rfl (by rw [eql_sv (sv_dw0 s) (sv_zero .f64)]; rfl) ?_
  refine cS (cR ?_)
  refine mv rfl ?_
  refine asg rfl ?_
  refine rN ?_
  refine qN ?_
  refine cE ?_
  refine qBE ?_
  refine qE ?_
  refine kE rfl rfl  ?_
  first | (exfalso; contradiction) | exact ⟨_, ⟨rfl, rfl⟩, (by (try simp only [List.cons_append, List.nil_append, List.append_assoc]); repeat' first | with_reducible apply eR | with_reducible apply eA | ((with_reducible apply xA); · repeat first | with_reducible apply lH | with_reducible apply lT | with_reducible apply lL) | ((with_reducible apply xC); · repeat first | apply pH | with_reducible apply pT | with_reducible apply pL) | with_reducible assumption | with_reducible apply eS | with_reducible apply eL | exact eR)⟩ | exact ⟨_, ⟨by first | (simp_all; done) | (simp_all; intros; omega), rfl⟩, (by (try simp only [List.cons_append, List.nil_append, List.append_assoc]); repeat' first | with_reducible apply eR | with_reducible apply eA | ((with_reducible apply xA); · repeat first | with_reducible apply lH | with_reducible apply lT | with_reducible apply lL) | ((with_reducible apply xC); · repeat first | apply pH | with_reducible apply pT | with_reducible apply pL) | with_reducible assumption | with_reducible apply eS | with_reducible apply eL | exact eR)⟩ | (exfalso; first | contradiction | omega | (simp_all; done) | (simp_all; omega))
/-- what may be scaled by 2 to the power of k without a loss -/
def LdOk (b : Nat) (k : Int) : Prop := (-1022 ≤ k ∧ k ≤ 1023) ∧ ∃ s q f, b = dw s q f ∧ f < 4503599627370496 ∧ ((q = 0 ∧ f = 0) ∨ ((1 ≤ q ∧ q ≤ 2046) ∧ 1 ≤ q + k ∧ q + k ≤ 2046))
theorem c_Ldexp (b : Nat) (k : Int) (h : LdOk b k) (M : Mem) :
    ACall Try.prog 55 [.float .f64 b, .int .i64 k] M fun v M' => v = .float .f64 (fmul .f64 b (twoB k)) ∧ M' = M := by
  obtain ⟨hk, s, q, f, rfl, hf, h0 | ⟨hq, hqk⟩⟩ := h
  · obtain ⟨rfl, rfl⟩ := h0
    rw [mul_two0 s hk]
    skip
    refine acall_of_awp Try.func55 rfl Try.ntmps55 rfl ?_
    refine cS (cR ?_)
    refine asg rfl ?_
    refine rN ?_
    refine qN ?_
    refine cS ?_
    refine cF rfl ?_
    refine cK ?_
    refine qN ?_
    refine cS (cR ?_)
    refine mv rfl ?_
    refine mv rfl ?_
    refine rCq rfl (c_ldexp0 _ _ _) ?_
    refine asg rfl ?_
    refine rN ?_
    refine qN ?_
    refine cE ?_
    refine kE rfl rfl  ?_
    first | (exfalso; contradiction) | exact ⟨_, ⟨rfl, rfl⟩, (by (try simp only [List.cons_append, List.nil_append, List.append_assoc]); repeat' first | with_reducible apply eR | with_reducible apply eA | ((with_reducible apply xA); · repeat first | with_reducible apply lH | with_reducible apply lT | with_reducible apply lL) | ((with_reducible apply xC); · repeat first | apply pH | with_reducible apply pT | with_reducible apply pL) | with_reducible assumption | with_reducible apply eS | with_reducible apply eL | exact eR)⟩ | exact ⟨_, ⟨by first | (simp_all; done) | (simp_all; intros; omega), rfl⟩, (by (try simp only [List.cons_append, List.nil_append, List.append_assoc]); repeat' first | with_reducible apply eR | with_reducible apply eA | ((with_reducible apply xA); · repeat first | with_reducible apply lH | with_reducible apply lT | with_reducible apply lL) | ((with_reducible apply xC); · repeat first | apply pH | with_reducible apply pT | with_reducible apply pL) | with_reducible assumption | with_reducible apply eS | with_reducible apply eL | exact eR)⟩ | (exfalso; first | contradiction | omega | (simp_all; done) | (simp_all; omega))
  · skip
    refine acall_of_awp Try.func55 rfl Try.ntmps55 rfl ?_
    refine cS (cR ?_)
    refine asg rfl ?_
    refine rN ?_
    refine qN ?_
    refine cS ?_
    refine cF rfl ?_
    refine cK ?_
    refine qN ?_
    refine cS (cR ?_)
    refine mv rfl ?_
    refine mv rfl ?_
    refine rCq rfl (c_ldexpN _ _ _ _ hq hf hk hqk _) ?_
    refine asg rfl ?_
    refine rN ?_
    refine qN ?_
    refine cE ?_
    refine kE rfl rfl  ?_
    first | (exfalso; contradiction) | exact ⟨_, ⟨rfl, rfl⟩, (by (try simp only [List.cons_append, List.nil_append, List.append_assoc]); repeat' first | with_reducible apply eR | with_reducible apply eA | ((with_reducible apply xA); · repeat first | with_reducible apply lH | with_reducible apply lT | with_reducible apply lL) | ((with_reducible apply xC); · repeat first | apply pH | with_reducible apply pT | with_reducible apply pL) | with_reducible assumption | with_reducible apply eS | with_reducible apply eL | exact eR)⟩ | exact ⟨_, ⟨by first | (simp_all; done) | (simp_all; intros; omega), rfl⟩, (by (try simp only [List.cons_append, List.nil_append, List.append_assoc]); repeat' first | with_reducible apply eR | with_reducible apply eA | ((with_reducible apply xA); · repeat first | with_reducible apply lH | with_reducible apply lT | with_reducible apply lL) | ((with_reducible apply xC); · repeat first | apply pH | with_reducible apply pT | with_reducible apply pL) | with_reducible assumption | with_reducible apply eS | with_reducible apply eL | exact eR)⟩ | (exfalso; first | contradiction | omega | (simp_all; done) | (simp_all; omega))
theorem ldOk_two {k j : Int} (hk : -1022 ≤ k ∧ k ≤ 1023) (hj : -1022 ≤ j ∧ j ≤ 1023) (h : -1022 ≤ k + j ∧ k + j ≤ 1023) : LdOk (twoB k) j :=
  ⟨hj, false, _, 0, rfl, by decide, .inr ⟨by omega, by omega⟩⟩
theorem two_one {k : Int} (hk : -1022 ≤ k ∧ k ≤ 1023) : fmul .f64 4607182418800017408 (twoB k) = twoB k := by
  have := (mul_two (s := false) (q := 1023) (f := 0) (k := k) (by decide) (by decide) hk (by omega)).1
  rw [show (((1023 : Nat) : Int) + k).toNat = (k + 1023).toNat from by omega] at this
  exact this
-- @reg spec.l07Two : c_l07Two _ (by omega) _
theorem c_l07Two (k : Int) (hk : -1022 ≤ k ∧ k ≤ 1023) (M : Mem) : ACall Try.prog 76 [.int .i64 k] M fun v M' => v = .float .f64 (twoB k) ∧ M' = M := by
  have h1 : LdOk 4607182418800017408 k := ldOk_two (k := 0) (by decide) hk (by omega)
  skip
  refine acall_of_awp Try.func76 rfl Try.ntmps76 rfl ?_
  refine cS (cR ?_)
  refine asg rfl ?_
  refine rN ?_
  refine qN ?_
  refine cS (cR ?_)
  refine mv rfl ?_
  refine rCq rfl (c_Ldexp _ _ h1 _) ?_
  refine asg rfl ?_
  refine rN ?_
  refine qN ?_
  refine cE ?_
  refine kE rfl rfl  ?_
  first | (exfalso; contradiction) | exact ⟨_, ⟨by rw [two_one hk], rfl⟩, (by (try simp only [List.cons_append, List.nil_append, List.append_assoc]); repeat' first | with_reducible apply eR | with_reducible apply eA | ((with_reducible apply xA); · repeat first | with_reducible apply lH | with_reducible apply lT | with_reducible apply lL) | ((with_reducible apply xC); · repeat first | apply pH | with_reducible apply pT | with_reducible apply pL) | with_reducible assumption | with_reducible apply eS | with_reducible apply eL | exact eR)⟩ | (exfalso; first | contradiction | omega | (simp_all; done) | (simp_all; omega))
end Go.Proofs.Ytimdimgihlojcaa.Ab
