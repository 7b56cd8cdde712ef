/-
  The abstract layer: bits of whole numbers, and the size of a float.
-/
import Derived.Test.YtkbpdgacfeachaaFv
namespace Go.Proofs.Ytkbpdgacfeachaa.Ab
open Go Go.RowKit
set_option linter.unusedVariables false
set_option linter.unusedSimpArgs false

/-- bits of two whole numbers -/
def ibit (op : BinOp) (k : IntKind) (x y : Int) : Int :=
  match op with
  | .and => k.wrap ((BitVec.ofInt k.bits x &&& BitVec.ofInt k.bits y).toNat)
  | .or => k.wrap ((BitVec.ofInt k.bits x ||| BitVec.ofInt k.bits y).toNat)
  | .xor => k.wrap ((BitVec.ofInt k.bits x ^^^ BitVec.ofInt k.bits y).toNat)
  | .andNot => k.wrap ((BitVec.ofInt k.bits x &&& ~~~BitVec.ofInt k.bits y).toNat)
  | .shl => k.wrap (x * 2 ^ min y.toNat k.bits)
  | .shr => x.fdiv (2 ^ min y.toNat k.bits)
  | _ => 0
def bits2 : BinOp → Bool
  | .and | .or | .xor | .andNot => true
  | _ => false
def shift2 : BinOp → Bool
  | .shl | .shr => true
  | _ => false
section
variable {P : Program} {n : Nat} {T : Tm} {M : Mem} {ops : Array Oper} {st : Option (List Nat)} {Q : Tm → Mem → Prop} {fl : Bool} {lo : List (Oper × Bool)} {d : Option Nat} {ty : Nat} {pos : String} {after : Array Edge} {g : Option (Nat × Bool)} {tx tz : Nat} {x y : Operand} {k k' : IntKind} {a b : Int}
theorem tame_bits {op : BinOp} (hop : bits2 op = true) (ex : ev T x = some (.int k a)) (ey : ev T y = some (.int k b)) : Tame P ⟨d, .binOp op tx x y tz, ty, pos, after, g⟩ T M (.int k (ibit op k a b)) :=
  tame_two (x := x) (y := y) (by simp [Op.operands]) (by simp [Op.operands]) ex ey fun ρ w hx hy => by
    refine ⟨.int k (ibit op k a b), w, ?_, .refl w, rfl⟩
    cases op <;> simp [bits2] at hop <;> simp [execOp, nf_int hx, nf_int hy, eqGuard, binOp, Op.intBits, ibit]
theorem tame_shift {op : BinOp} (hop : shift2 op = true) (ex : ev T x = some (.int k a)) (ey : ev T y = some (.int k' b)) (hb : 0 ≤ b) : Tame P ⟨d, .binOp op tx x y tz, ty, pos, after, g⟩ T M (.int k (ibit op k a b)) :=
  tame_two (x := x) (y := y) (by simp [Op.operands]) (by simp [Op.operands]) ex ey fun ρ w hx hy => by
    refine ⟨.int k (ibit op k a b), w, ?_, .refl w, rfl⟩
    have h : ¬ b < 0 := by omega
    cases op <;> simp [shift2] at hop <;> simp [execOp, nf_int hx, nf_int hy, eqGuard, binOp, Op.shift, ibit, h]
theorem rBt {op : BinOp} (hop : bits2 op = true) (ex : ev T x = some (.int k a)) (ey : ev T y = some (.int k b)) (kk : Run P n ops st Q lo (putT n d (.int k (ibit op k a b)) T) M) : Run P n ops st Q ((⟨d, .binOp op tx x y tz, ty, pos, after, none⟩, fl) :: lo) T M :=
  run_tameR rfl (fun _ => tame_bits hop ex ey) kk
theorem rSh {op : BinOp} (hop : shift2 op = true) (ex : ev T x = some (.int k a)) (ey : ev T y = some (.int k' b)) (hb : 0 ≤ b) (kk : Run P n ops st Q lo (putT n d (.int k (ibit op k a b)) T) M) : Run P n ops st Q ((⟨d, .binOp op tx x y tz, ty, pos, after, none⟩, fl) :: lo) T M :=
  run_tameR rfl (fun _ => tame_shift hop ex ey hb) kk
end

/-! ## sizes -/
theorem toNat_ofInt64 (c : Nat) : (BitVec.ofInt 64 (c : Int)).toNat = c % 18446744073709551616 := by
  simp [BitVec.ofInt_natCast]
theorem abs_bits (c : Nat) : ibit .andNot .u64 (c : Nat) 9223372036854775808 = ((c % 9223372036854775808 : Nat) : Int) := by
  have h1 : (BitVec.ofInt 64 (c : Int) &&& ~~~ BitVec.ofInt 64 9223372036854775808).toNat = c % 9223372036854775808 := by
    have e : (~~~ BitVec.ofInt 64 9223372036854775808 : BitVec 64) = BitVec.ofNat 64 (2 ^ 63 - 1) := by decide
    rw [e, BitVec.toNat_and, toNat_ofInt64, BitVec.toNat_ofNat, Nat.mod_eq_of_lt (a := 2 ^ 63 - 1) (by decide), Nat.and_two_pow_sub_one_eq_mod]
    rw [show (2 : Nat) ^ 63 = 9223372036854775808 from by decide]
    omega
  show IntKind.u64.wrap (((BitVec.ofInt 64 (c : Int) &&& ~~~ BitVec.ofInt 64 9223372036854775808).toNat : Nat) : Int) = _
  rw [h1]
  unfold IntKind.wrap
  simp only [IntKind.signed, IntKind.bits, Bool.false_and, Bool.false_eq_true, if_false]
  omega
def fabs (b : Nat) : Nat := cb .f64 (b % 9223372036854775808)
theorem sw64 : FloatKind.f64.format.signWeight = 9223372036854775808 := by decide
theorem sw32 : FloatKind.f32.format.signWeight = 2147483648 := by decide
theorem nan_low64 (b : Nat) : nanB .f64 (b % 9223372036854775808) = nanB .f64 b := nanB_low .f64 _ _ (by rw [sw64, Nat.mod_mod])
theorem fabs_cb {c b : Nat} (h : cb .f64 c = b) : cb .f64 (c % 9223372036854775808) = fabs b := by
  unfold fabs
  rcases cb_cases .f64 c with ⟨h1, h2⟩ | ⟨h1, h2⟩
  · have h3 : nanB .f64 (b % 9223372036854775808) = true := by rw [nan_low64, ← h, nanB_cb, h1]
    rw [cb_nan (by rw [nan_low64]; exact h1), cb_nan h3]
  · rw [← h, h2]
-- @reg math.Abs : c_Abs _ _
theorem c_Abs (b : Nat) (M : Mem) : ACall Try.prog 85 [.float .f64 b] M fun v M' => v = .float .f64 (fabs b) ∧ M' = M := by
  refine acall_of_awp Try.func85 rfl Try.ntmps85 rfl ?_
  refine cS (cR ?_)
  refine asg rfl ?_
  refine rN ?_
  refine qN ?_
  refine cS (cR ?_)
  refine mv rfl ?_
  refine xB64 rfl ?_; intro n1 hn1
  refine rBt rfl rfl rfl ?_
  refine xFr64 rfl ?_
  refine asg rfl ?_
  refine rN ?_
  refine qN ?_
  refine cE ?_
  refine kE rfl rfl  ?_
  first | (exfalso; contradiction) | exact ⟨_, ⟨by rw [abs_bits, Int.toNat_natCast, fabs_cb (by assumption)], rfl⟩, (by (try simp only [List.cons_append, List.nil_append, List.append_assoc]); repeat' first | with_reducible apply eR | with_reducible apply eA | ((with_reducible apply xA); · repeat first | with_reducible apply lH | with_reducible apply lT | with_reducible apply lL) | ((with_reducible apply xC); · repeat first | apply pH | with_reducible apply pT | with_reducible apply pL) | with_reducible assumption | with_reducible apply eS | with_reducible apply eL | exact eR)⟩ | (exfalso; first | contradiction | omega | (simp_all; done) | (simp_all; omega))

/-- a 32-bit number without its sign -/
def absF (x : Nat) : Nat := fnar (fabs (fwid x))
theorem rg_mod {b : Nat} : rg .f64 (b % 9223372036854775808) = rg .f64 b := by unfold rg; rw [sw64, Nat.mod_mod]
theorem sg_mod {b : Nat} : sg .f64 (b % 9223372036854775808) = false := by
  unfold sg; rw [sw64, Nat.div_eq_of_lt (Nat.mod_lt _ (by decide))]; rfl
theorem sv_fabs {b : Nat} {a : Int} (h : sv .f64 b = some a) : sv .f64 (fabs b) = some (a.natAbs : Int) := by
  have hr := (sv_fin h).1
  have h1 : rg .f64 (b % 9223372036854775808) < FloatKind.f64.format.infRung := by rw [rg_mod]; exact hr
  have h2 := sv_of h1
  unfold fabs
  rw [sv_cb h2, h2, sg_mod, rg_mod, sv_abs h]
  rfl
theorem absF_num {x : Nat} {a : Int} (h : sv .f32 x = some a) : absF x = rg .f32 x ∧ narOk (fabs (fwid x)) = true ∧ sv .f32 (absF x) = some (a.natAbs : Int) := by
  have h1 := sv_fabs (sv_fwid h)
  have hrep : Rep .f32 ((a.natAbs : Int)).natAbs := by rw [Int.natAbs_natCast]; exact Rep.sv h
  obtain ⟨h2, h3⟩ := fnar_exact h1 hrep
  refine ⟨?_, h2, h3⟩
  obtain ⟨s, m, e, h4, h5, h6⟩ := sv_dec h1
  have ha := sv_abs h
  have hm : m <<< (e + 1074).toNat = a.natAbs := by
    have := congrArg Int.natAbs h6
    rw [signed_abs, Int.natAbs_natCast] at this
    exact this.symm
  have hs : s = false ∨ m <<< (e + 1074).toNat = 0 := by
    cases s with
    | false => left; rfl
    | true =>
      right
      have h7 : Ieee.signed true m (e + 1074).toNat = -((m <<< (e + 1074).toNat : Nat) : Int) := rfl
      rw [h7, hm] at h6
      rw [hm]; omega
  have hex := near_exact (k := .f32) (s := s) (m := m) (e := e) (R := rg .f32 x) (-1074) h5 (by omega) (sv_fin h).1 (by
    rw [show (-1074 - (-1074) : Int).toNat = 0 from by decide, Nat.shiftLeft_zero, ← ha, ← hm]; congr 1)
  have hsg := (read_num h4).2.1
  have hsg2 : s = false := by
    rw [hsg]
    unfold fabs
    have hr := (sv_fin (sv_fwid h)).1
    have h8 : sv .f64 (fwid x % 9223372036854775808) = _ := sv_of (by rw [rg_mod]; exact hr)
    rw [sv_cb h8, sg_mod]
  unfold absF fnar
  rw [sv_notnan h1]
  simp only [Bool.false_eq_true, if_false]
  rw [h4]
  show cb .f32 (FloatKind.f32.format.nearest s m e) = _
  rw [hex, hsg2]
  show cb .f32 (rg .f32 x) = _
  have h9 : sv .f32 (rg .f32 x) = _ := sv_of (k := .f32) (w := rg .f32 x) (by
    show rg .f32 x % _ < _
    rw [Nat.mod_eq_of_lt (Nat.lt_trans (sv_fin h).1 (inf_sw .f32))]; exact (sv_fin h).1)
  exact sv_cb h9
theorem fwid_inf {x : Nat} {s : Bool} (h : FloatKind.f32.decode x = .infinity s) : fwid x = FloatKind.f64.format.word s FloatKind.f64.format.infRung := by
  rw [fwid_some (f2f_inf h)]
  cases s <;> decide
theorem absF_inf {x : Nat} {s : Bool} (h : FloatKind.f32.decode x = .infinity s) : absF x = 2139095040 ∧ narOk (fabs (fwid x)) = true := by
  unfold absF
  rw [fwid_inf h]
  cases s <;> decide
theorem absF_nan {x : Nat} (h : nanB .f32 x = true) : absF x = qn .f32 ∧ narOk (fabs (fwid x)) = true := by
  unfold absF
  rw [fwid_none (nan_widen h)]
  decide
theorem narOk_abs (x : Nat) : narOk (fabs (fwid x)) = true := by
  rcases word_cases .f32 x with h | ⟨s, h⟩ | ⟨a, h⟩
  · exact (absF_nan h).2
  · exact (absF_inf h).2
  · exact (absF_num h).2.1
-- @reg impl.absolute : c_absolute _ _
/-- the reference's size of a number -/
def szF (x : Nat) : Nat := if fcmp .lss .f32 x 0 = true then fneg .f32 x else x
-- @reg spec.l04Size : c_l04Size _ _
-- @reg spec.l03Size : c_l03Size _ _
theorem sv_zero (k : FloatKind) : sv k 0 = some 0 := by cases k <;> decide
theorem neg_low (k : FloatKind) (b : Nat) : rg k (Op.negFloat k b) = rg k b ∧ sg k (Op.negFloat k b) = !sg k b := by
  have hw : k.format.signWeight = 2 ^ (k.format.exponentBits + k.format.fractionBits) := rfl
  constructor
  · unfold rg Op.negFloat
    rw [hw, Nat.xor_mod_two_pow, Nat.mod_self, Nat.xor_zero]
  · have key : ∀ c : Nat, sg k c = c.testBit (k.format.exponentBits + k.format.fractionBits) := by
      intro c
      unfold sg
      rw [hw, Nat.testBit_eq_decide_div_mod_eq]
      by_cases h : c / 2 ^ (k.format.exponentBits + k.format.fractionBits) % 2 = 1 <;> simp [h]
    rw [key, key]
    unfold Op.negFloat
    rw [Nat.testBit_xor, Nat.testBit_two_pow_self, Bool.xor_true]
theorem fneg_sv {k : FloatKind} {x : Nat} {a : Int} (h : sv k x = some a) : sv k (fneg k x) = some (-a) := by
  obtain ⟨h1, h2⟩ := sv_fin h
  obtain ⟨h3, h4⟩ := neg_low k x
  have h5 := sv_of (k := k) (w := Op.negFloat k x) (by rw [h3]; exact h1)
  unfold fneg
  rw [sv_cb h5, h5, h3, h4, h2]
  congr 1
  unfold Ieee.signed
  cases sg k x
  · simp only [Bool.not_false, if_true, Bool.false_eq_true, if_false]
  · simp only [Bool.not_true, if_true, Bool.false_eq_true, if_false, Int.neg_neg]

/-! ## words that compare alike -/
def ordeq (k : FloatKind) (x y : Nat) : Prop := (nanB k x = true ∧ nanB k y = true) ∨ (∃ s, k.decode x = .infinity s ∧ k.decode y = .infinity s) ∨ ∃ a, sv k x = some a ∧ sv k y = some a
theorem ordeq_refl (k : FloatKind) (x : Nat) : ordeq k x x := by
  rcases word_cases k x with h | ⟨s, h⟩ | ⟨a, h⟩
  · exact .inl ⟨h, h⟩
  · exact .inr (.inl ⟨s, h, h⟩)
  · exact .inr (.inr ⟨a, h, h⟩)
theorem order_inf_r {k : FloatKind} {x y : Nat} {s : Bool} {b : Int} (hx : sv k x = some b) (hy : k.decode y = .infinity s) : k.format.order x y = some (if s then .gt else .lt) := by
  obtain ⟨t, n, j, h3, h4, rfl⟩ := sv_dec hx
  unfold Ieee.Format.order
  unfold FloatKind.decode at hy h3
  rw [hy, h3]; rfl
theorem order_ordeq {k : FloatKind} {x x' y y' : Nat} (h : ordeq k x x') (g : ordeq k y y') : k.format.order x y = k.format.order x' y' := by
  rcases h with ⟨h1, h2⟩ | ⟨s, h1, h2⟩ | ⟨a, h1, h2⟩
  · rw [order_nan_l h1, order_nan_l h2]
  · rcases g with ⟨g1, g2⟩ | ⟨t, g1, g2⟩ | ⟨b, g1, g2⟩
    · rw [order_nan_r g1, order_nan_r g2]
    · unfold Ieee.Format.order
      unfold FloatKind.decode at h1 h2 g1 g2
      rw [h1, h2, g1, g2]
    · rw [order_inf_l h1 g1, order_inf_l h2 g2]
  · rcases g with ⟨g1, g2⟩ | ⟨t, g1, g2⟩ | ⟨b, g1, g2⟩
    · rw [order_nan_r g1, order_nan_r g2]
    · rw [order_inf_r h1 g1, order_inf_r h2 g2]
    · rw [order_sv h1 g1, order_sv h2 g2]
theorem fcmp_ordeq {op : BinOp} {k : FloatKind} {x x' y y' : Nat} (h : ordeq k x x') (g : ordeq k y y') : fcmp op k x y = fcmp op k x' y' := by
  unfold fcmp; rw [order_ordeq h g]
theorem szF_absF (x : Nat) : ordeq .f32 (szF x) (absF x) := by
  rcases word_cases .f32 x with h | ⟨s, h⟩ | ⟨a, h⟩
  · left
    have : fcmp .lss .f32 x 0 = false := by unfold fcmp; simp only [order_nan_l h]; rfl
    refine ⟨by rw [szF, this]; simpa using h, by rw [(absF_nan h).1]; exact nanB_qn _⟩
  · right; left
    refine ⟨false, ?_, by rw [(absF_inf h).1]; decide⟩
    have ho := order_inf_l h (sv_zero .f32)
    cases s with
    | false =>
      have : fcmp .lss .f32 x 0 = false := by unfold fcmp; simp only [ho]; rfl
      rw [szF, this]; simpa using h
    | true =>
      have : fcmp .lss .f32 x 0 = true := by unfold fcmp; simp only [ho]; rfl
      rw [szF, if_pos this]
      -- the sign is turned
      have hr : rg .f32 x = FloatKind.f32.format.infRung := by
        unfold rg
        unfold FloatKind.decode Ieee.Format.read at h
        simp only at h
        split at h
        · cases h
        · split at h
          · cases h
          · split at h
            · assumption
            · cases h
      obtain ⟨h3, h4⟩ := neg_low .f32 x
      have hs : sg .f32 x = true := by
        unfold sg
        unfold FloatKind.decode Ieee.Format.read at h
        simp only at h
        split at h
        · cases h
        · split at h
          · cases h
          · split at h
            · exact Ieee.Datum.infinity.inj h
            · cases h
      have hd : FloatKind.f32.decode (Op.negFloat .f32 x) = .infinity false := by
        rw [hr] at h3
        rw [hs] at h4
        unfold rg at h3
        unfold sg at h4
        unfold FloatKind.decode Ieee.Format.read
        simp only [h3, h4]
        decide
      unfold fneg
      rw [cb_notnan (by unfold nanB; rw [hd]; rfl)]
      exact hd
  · right; right
    refine ⟨(a.natAbs : Int), ?_, (absF_num h).2.2⟩
    have hl := lss_sv h (sv_zero .f32)
    by_cases h0 : a < 0
    · rw [szF, if_pos (by rw [hl]; exact decide_eq_true h0), fneg_sv h]
      congr 1; omega
    · rw [szF, if_neg (by rw [hl, decide_eq_false h0]; decide), h]
      congr 1; omega
end Go.Proofs.Ytkbpdgacfeachaa.Ab
