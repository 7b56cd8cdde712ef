/-
  Exponents of blocks.
-/
import Derived.Test.YtimdimgihlojcaaLd
import Derived.Test.YtimdimgihlojcaaFr
import GoSem.Extern.MathDim
namespace Go.Proofs.Ytimdimgihlojcaa.Ab
open Go Go.RowKit
attribute [local irreducible] Run Then InBlock LoopQ LQ1 LQ2 LQ3 LQ4 LQ5 LQ6 AWp Ret ACall
set_option linter.unusedVariables false
set_option linter.unusedSimpArgs false

/-! ## sizes of numbers of frames -/
theorem shl_add2 {m a b c : Nat} (h : a + b = c) : (m <<< a) * 2 ^ b = m <<< c := by
  rw [Nat.shiftLeft_eq, Nat.shiftLeft_eq, Nat.mul_assoc, ← Nat.pow_add, h]
theorem sv_c99 : sv .f32 1895825408 = some ((pow2 1173 : Nat) : Int) := by
  have h := sv_of (k := .f32) (w := 1895825408) (by decide)
  rw [h]
  have e1 : sg .f32 1895825408 = false := by decide
  have e2 : T.rv FloatKind.f32.format (rg .f32 1895825408) = 2 ^ 23 <<< 225 := by decide
  rw [e1, e2]
  unfold Ieee.signed
  rw [if_neg (by decide), ← Nat.shiftLeft_add, Nat.shiftLeft_eq, two_pow (show 23 + (225 + up .f32) = 1173 from rfl)]
/-- the size of a number, as a whole number of the least units -/
def mg (x : Nat) : Nat := ((sv .f32 x).getD 0).natAbs
theorem fnB_sv {x : Nat} (h : fnB x = true) : ∃ a, sv .f32 x = some a ∧ mg x = a.natAbs ∧ mg x < pow2 1173 := by
  rw [← fnB_abs] at h
  rcases word_cases .f32 x with hn | ⟨s, hi⟩ | ⟨a, ha⟩
  · rw [(absF_nan hn).1] at h; exact absurd h (by decide)
  · rw [(absF_inf hi).1] at h; exact absurd h (by decide)
  · have hm : mg x = a.natAbs := by unfold mg; rw [ha]; rfl
    refine ⟨a, ha, hm, ?_⟩
    rw [lss_sv (absF_num ha).2.2 sv_c99, decide_eq_true_eq] at h
    rw [hm]; exact Int.ofNat_lt.1 h
/-! ## thresholds -/
def thr (e : Int) : Nat := 32767 * pow2 (e + 1059).toNat
theorem thr_lt {e e' : Int} (h1 : -100 ≤ e) (h2 : e < e') : thr e < thr e' := by
  unfold thr pow2
  exact Nat.mul_lt_mul_of_pos_left (Nat.pow_lt_pow_right (by decide) (by omega)) (by decide)
theorem thr_le {e e' : Int} (h1 : -100 ≤ e) (h2 : e ≤ e') : thr e ≤ thr e' := by
  rcases Int.lt_or_eq_of_le h2 with h | rfl
  · exact Nat.le_of_lt (thr_lt h1 h)
  · exact Nat.le_refl _
theorem thr_100 : pow2 1173 ≤ thr 100 := by
  unfold thr
  rw [show ((100 : Int) + 1059).toNat = 1159 from by decide]
  have : pow2 1173 = pow2 14 * pow2 1159 := pow2_add 14 1159
  rw [this, show pow2 14 = 16384 from by decide]
  exact Nat.mul_le_mul_right _ (by decide)
theorem sv_32767 (q : Nat) (e : Int) (hq : (q : Int) = e + 1022) (h : -100 ≤ e) : Ieee.signed false ((4503599627370496 + 4503324749463552) <<< (q - 1)) 0 = ((thr e : Nat) : Int) := by
  unfold Ieee.signed thr
  rw [if_neg (by decide), Nat.shiftLeft_zero, show (4503599627370496 + 4503324749463552 : Nat) = 32767 <<< 38 from by decide, ← Nat.shiftLeft_add, shl_pow2]
  congr 3
  omega
theorem sv_thr1 {e : Int} (h : -100 ≤ e ∧ e ≤ 101) : sv .f64 (fmul .f64 4607182143922110464 (twoB e)) = some ((thr e : Nat) : Int) := by
  have hd : 4607182143922110464 = dw false 1022 4503324749463552 := by decide
  rw [hd, (mul_two (by decide) (by decide) (by omega) (by omega)).1, sv_dw (by omega) (by decide), sv_32767 _ e (by omega) h.1]
theorem sv_thr2 {e : Int} (h : -100 ≤ e ∧ e ≤ 101) : sv .f64 (fmul .f64 (twoB (e - 15)) 4674736138332667904) = some ((thr e : Nat) : Int) := by
  have hd : 4674736138332667904 = dw false 1037 4503324749463552 := by decide
  rw [hd, (mul_two (by decide) (by decide) (by omega) (by omega)).2, sv_dw (by omega) (by decide), sv_32767 _ e (by omega) h.1]
theorem ldOk_c {e : Int} (h : -100 ≤ e ∧ e ≤ 101) : LdOk 4607182143922110464 e :=
  ⟨by omega, false, 1022, 4503324749463552, by decide, by decide, .inr ⟨by decide, by omega⟩⟩
theorem cmp_thr {x : Nat} {e : Int} (hx : fnB x = true) (h : -100 ≤ e ∧ e ≤ 101) : fcmp .gtr .f64 (fabs (fwid x)) (fmul .f64 4607182143922110464 (twoB e)) = decide (thr e < mg x) := by
  obtain ⟨a, h1, h2, _⟩ := fnB_sv hx
  rw [gtr_sv (sv_fabs (sv_fwid h1)) (sv_thr1 h), h2]
  exact decide_eq_decide.2 Int.ofNat_lt
theorem ex_lt {e : Int} {m : Nat} (h1 : -100 ≤ e) (h2 : e ≤ 100) (h3 : m < pow2 1173) (h4 : thr e < m) : e < 100 := by
  rcases Int.lt_or_eq_of_le h2 with h | rfl
  · exact h
  · exfalso; have := thr_100; omega
/-! ## the exponent -/
def exOk (xs : List Nat) (e : Int) : Prop := (-100 ≤ e ∧ e ≤ 100) ∧ (∀ i, i < xs.length → mg (xs.getD i 0) ≤ thr e) ∧ (e = -100 ∨ ∃ i, i < xs.length ∧ thr (e - 1) < mg (xs.getD i 0))
theorem exOk_uniq {xs : List Nat} {e e' : Int} (h : exOk xs e) (h' : exOk xs e') : e = e' := by
  obtain ⟨h1, h2, h3⟩ := h
  obtain ⟨g1, g2, g3⟩ := h'
  rcases Int.lt_trichotomy e e' with h | h | h
  · exfalso
    rcases g3 with g3 | ⟨i, hi, g3⟩
    · omega
    · have := h2 i hi; have := thr_le (e := e) (e' := e' - 1) h1.1 (by omega); omega
  · exact h
  · exfalso
    rcases h3 with h3 | ⟨i, hi, h3⟩
    · omega
    · have := g2 i hi; have := thr_le (e := e') (e' := e - 1) g1.1 (by omega); omega
open Classical in
noncomputable def exE (xs : List Nat) : Int := if h : ∃ e, exOk xs e then Classical.choose h else 0
theorem exE_eq {xs : List Nat} {e : Int} (h : exOk xs e) : e = exE xs := by
  unfold exE
  have hx : ∃ e, exOk xs e := ⟨e, h⟩
  rw [dif_pos hx]
  exact exOk_uniq h (Classical.choose_spec hx)
theorem c_exponent (a : Option Addr) (n c : Nat) (xs : List Nat) (M : Mem) (h : RdF M a n xs) (hn : n ≤ 1000000) (hb : ∀ i, i < n → fnB (xs.getD i 0) = true) :
    ACall Try.prog 49 [.slice a n c] M fun v M' => (exOk xs (exE xs) ∧ v = .int .i64 (exE xs)) ∧ M' = M := by
  obtain ⟨rfl, _⟩ := id h
  skip
  refine acall_of_awp Try.func49 rfl Try.ntmps49 rfl ?_
  refine cS (cR ?_)
  refine asg rfl ?_
  refine rN ?_
  refine qN ?_
  refine cS (cR ?_)
  refine asg rfl ?_
  refine rN ?_
  refine qN ?_
  refine cS ?_
  refine cS (cR ?_)
  refine mv rfl ?_
  refine ln rfl ?_
  refine mv rfl ?_
  refine rN ?_
  refine qN ?_
  refine cB ?_
  refine cL2 (fun (i : Nat) (e : Int) => [(8, .int .i64 (i : Nat)), (3, .int .i64 e)]) [(6, _), (7, _)] (fun (i : Nat) (e : Int) => M) (fun (i : Nat) (e : Int) => xs.length - i) (fun (i : Nat) (e : Int) => i ≤ xs.length ∧ (-100 ≤ e ∧ e ≤ 100) ∧ (∀ j, j < i → mg (xs.getD j 0) ≤ thr e) ∧ (e = -100 ∨ ∃ j, j < i ∧ thr (e - 1) < mg (xs.getD j 0))) (0) (-100) (by repeat first | exact Sub.nil _ | refine Sub.cons rfl ?_) (by (try simp only [List.cons_append, List.nil_append, List.append_assoc]); repeat' first | with_reducible apply eR | with_reducible apply eA | ((with_reducible apply xA); · repeat first | with_reducible apply lH | with_reducible apply lT | with_reducible apply lL) | ((with_reducible apply xC); · repeat first | apply pH | with_reducible apply pT | with_reducible apply pL) | with_reducible assumption | with_reducible apply eS | with_reducible apply eL | exact eR) (by exact ⟨Nat.zero_le _, by decide, fun j hj => by omega, .inl rfl⟩) ?_
  rintro i e ⟨hi, he, h1, h2⟩
  refine wT (T' := [(8, _), (3, _), (6, _), (7, _)]) rfl ?_
  refine cS (cR ?_)
  refine bLss rfl rfl ?_
  refine rN ?_
  refine qN ?_
  refine cS ?_
  refine cC rfl (fun c1 => ?_) (fun c1 => ?_)
  · have c1' := c1; try simp only [inB_iff, Bool.and_eq_true, decide_eq_true_eq, decide_eq_false_iff_not, beq_iff_eq, beq_eq_false_iff_ne, bne_iff_ne, bne_eq_false_iff_eq, ne_eq] at c1'
    have hi2 : i < xs.length := by omega
    have hbi := hb i hi2
    obtain ⟨_, _, _, hlt⟩ := fnB_sv hbi
    refine cK ?_
    refine qN ?_
    refine cS ?_
    refine cB ?_
    refine cS (cR ?_)
    first
      | refine ixN rfl rfl (by first | (apply RdC.aok; with_reducible assumption) | exact AOk.own | (apply RdD.aok; with_reducible assumption) | (apply RdD.aok; apply OwD.rdD; with_reducible assumption) | (apply RdI.aok; with_reducible assumption) | (apply RdW.aok; with_reducible assumption) | (apply RdI.aok; apply OwI.rdI; with_reducible assumption) | with_reducible assumption | (apply RdF.aok; with_reducible assumption) | (apply RdF.aok; apply OwF.rdF; with_reducible assumption)) (by first | with_reducible assumption | omega) ?_
      | refine ixI rfl rfl (by first | (apply RdC.aok; with_reducible assumption) | exact AOk.own | (apply RdD.aok; with_reducible assumption) | (apply RdD.aok; apply OwD.rdD; with_reducible assumption) | (apply RdI.aok; with_reducible assumption) | (apply RdW.aok; with_reducible assumption) | (apply RdI.aok; apply OwI.rdI; with_reducible assumption) | with_reducible assumption | (apply RdF.aok; with_reducible assumption) | (apply RdF.aok; apply OwF.rdF; with_reducible assumption)) (by omega) (by omega) ?_
    refine ldF rfl (by first | with_reducible assumption | ((try first | with_reducible apply RdF.sub | with_reducible apply RdF.sub0) <;> first | with_reducible assumption | (apply RdF.mono; (· (with_reducible assumption)); · (try simp only [List.cons_append, List.nil_append, List.append_assoc]); repeat' first | with_reducible apply eR | with_reducible apply eA | ((with_reducible apply xA); · repeat first | with_reducible apply lH | with_reducible apply lT | with_reducible apply lL) | ((with_reducible apply xC); · repeat first | apply pH | with_reducible apply pT | with_reducible apply pL) | with_reducible assumption | with_reducible apply eS | with_reducible apply eL | exact eR) | (apply RdF.mono; (· (apply OwF.rdF; with_reducible assumption)); · (try simp only [List.cons_append, List.nil_append, List.append_assoc]); repeat' first | with_reducible apply eR | with_reducible apply eA | ((with_reducible apply xA); · repeat first | with_reducible apply lH | with_reducible apply lT | with_reducible apply lL) | ((with_reducible apply xC); · repeat first | apply pH | with_reducible apply pT | with_reducible apply pL) | with_reducible assumption | with_reducible apply eS | with_reducible apply eL | exact eR) | (apply RdF.ownm; (· repeat first | with_reducible assumption | with_reducible apply List.mem_cons_self | with_reducible apply List.mem_cons_of_mem | with_reducible apply List.mem_append_right | exact List.Mem.head _); · first | rfl | with_reducible assumption | omega | simp [*]) | with_reducible assumption | omega | (simp; done) | (simp; omega) | (simp only [Bool.and_eq_true, inB_iff] at *; omega))) (by first | with_reducible assumption | omega) ?_
    refine asg rfl ?_
    refine rN ?_
    refine qN ?_
    refine cB ?_
    refine cL1 (fun (e : Int) => [(3, .int .i64 e)]) [(5, _), (6, _), (7, _), (8, _)] (fun (e : Int) => M) (fun (e : Int) => (101 - e).toNat) (fun (e : Int) => (-100 ≤ e ∧ e ≤ 100) ∧ (∀ j, j < i → mg (xs.getD j 0) ≤ thr e) ∧ (e = -100 ∨ ∃ j, j < i + 1 ∧ thr (e - 1) < mg (xs.getD j 0))) (e) (by repeat first | exact Sub.nil _ | refine Sub.cons rfl ?_) (by (try simp only [List.cons_append, List.nil_append, List.append_assoc]); repeat' first | with_reducible apply eR | with_reducible apply eA | ((with_reducible apply xA); · repeat first | with_reducible apply lH | with_reducible apply lT | with_reducible apply lL) | ((with_reducible apply xC); · repeat first | apply pH | with_reducible apply pT | with_reducible apply pL) | with_reducible assumption | with_reducible apply eS | with_reducible apply eL | exact eR) (by exact ⟨he, h1, h2.imp id fun ⟨j, hj, h⟩ => ⟨j, by omega, h⟩⟩) ?_
    rintro e ⟨he, h1, h2⟩
    refine wT (T' := [(3, _), (5, _), (6, _), (7, _), (8, _)]) rfl ?_
    refine cS ?_
    refine cS (cR ?_)
    refine mv rfl ?_
    refine rW rfl ?_
    refine rCq rfl (c_Abs _ _) ?_
    refine mv rfl ?_
    refine rCq rfl (c_Ldexp _ _ (ldOk_c (by omega)) _) ?_
    refine fCm rfl rfl rfl ?_
    refine rN ?_
    refine qN ?_
    rw [cmp_thr hbi (by omega)]
    refine cC rfl (fun hr => ?_) (fun hr => ?_)
    · have hr' := hr; try simp only [inB_iff, Bool.and_eq_true, decide_eq_true_eq, decide_eq_false_iff_not, beq_iff_eq, beq_eq_false_iff_ne, bne_iff_ne, bne_eq_false_iff_eq, ne_eq] at hr'
      have hr2 : thr e < mg (xs.getD i 0) := by simpa using hr
      have he2 : e < 100 := ex_lt he.1 he.2 hlt hr2
      refine cK ?_
      refine qN ?_
      refine cB ?_
      refine cR ?_
      refine mv rfl ?_
      first | refine rAn (b := 1) rfl rfl (by omega) ?_ | refine rA rfl rfl (by omega) (by omega) ?_ | refine bAdd rfl rfl ?_
      refine asg rfl ?_
      refine rN ?_
      refine qBN ?_
      refine qL1 (e + 1) ?_ (by omega) (by repeat first | exact Sub.nil _ | refine Sub.cons rfl ?_) (by (try simp only [List.cons_append, List.nil_append, List.append_assoc]); repeat' first | with_reducible apply eR | with_reducible apply eA | ((with_reducible apply xA); · repeat first | with_reducible apply lH | with_reducible apply lT | with_reducible apply lL) | ((with_reducible apply xC); · repeat first | apply pH | with_reducible apply pT | with_reducible apply pL) | with_reducible assumption | with_reducible apply eS | with_reducible apply eL | exact eR)
      refine ⟨by omega, fun j hj => Nat.le_trans (h1 j hj) (thr_le he.1 (by omega)), .inr ⟨i, by omega, by rw [show e + 1 - 1 = e from by omega]; exact hr2⟩⟩
    · have hr' := hr; try simp only [inB_iff, Bool.and_eq_true, decide_eq_true_eq, decide_eq_false_iff_not, beq_iff_eq, beq_eq_false_iff_ne, bne_iff_ne, bne_eq_false_iff_eq, ne_eq] at hr'
      have hr2 : mg (xs.getD i 0) ≤ thr e := by simpa using hr
      refine cX ?_
      refine qX ?_
      refine qL1X ?_
      refine qBX ?_
      refine qBN ?_
      refine qN ?_
      refine cR ?_
      first | refine rAn (b := 1) rfl rfl (by omega) ?_ | refine rA rfl rfl (by omega) (by omega) ?_ | refine bAdd rfl rfl ?_
      refine mv rfl ?_
      refine rN ?_
      refine qL2 (i + 1) (_) ?_ (by omega) (by repeat first | exact Sub.nil _ | refine Sub.cons rfl ?_) (by (try simp only [List.cons_append, List.nil_append, List.append_assoc]); repeat' first | with_reducible apply eR | with_reducible apply eA | ((with_reducible apply xA); · repeat first | with_reducible apply lH | with_reducible apply lT | with_reducible apply lL) | ((with_reducible apply xC); · repeat first | apply pH | with_reducible apply pT | with_reducible apply pL) | with_reducible assumption | with_reducible apply eS | with_reducible apply eL | exact eR)
      refine ⟨by omega, he, fun j hj => ?_, h2⟩
      by_cases hji : j = i
      · subst hji; exact hr2
      · exact h1 j (by omega)
  · have c1' := c1; try simp only [inB_iff, Bool.and_eq_true, decide_eq_true_eq, decide_eq_false_iff_not, beq_iff_eq, beq_eq_false_iff_ne, bne_iff_ne, bne_eq_false_iff_eq, ne_eq] at c1'
    have : i = xs.length := by omega
    subst this
    have hok : exOk xs e := ⟨he, h1, h2⟩
    have hee := exE_eq hok
    refine cX ?_
    refine qX ?_
    refine qL2X ?_
    refine qBX ?_
    refine qN ?_
    refine cS (cR ?_)
    refine mv rfl ?_
    refine asg rfl ?_
    refine rN ?_
    refine qN ?_
    refine cE ?_
    refine kE rfl rfl  ?_
    first | (exfalso; contradiction) | exact ⟨_, ⟨⟨by rw [← hee]; exact hok, by rw [← hee]⟩, rfl⟩, (by (try simp only [List.cons_append, List.nil_append, List.append_assoc]); repeat' first | with_reducible apply eR | with_reducible apply eA | ((with_reducible apply xA); · repeat first | with_reducible apply lH | with_reducible apply lT | with_reducible apply lL) | ((with_reducible apply xC); · repeat first | apply pH | with_reducible apply pT | with_reducible apply pL) | with_reducible assumption | with_reducible apply eS | with_reducible apply eL | exact eR)⟩ | (exfalso; first | contradiction | omega | (simp_all; done) | (simp_all; omega))
/-! ## the greater one -/
theorem run_max {P : Program} {x y : Nat} {a b : Int} (hx : sv .f64 x = some a) (hy : sv .f64 y = some b) (w : World) :
    ∃ r, (Extern.MathDim.pick "math.archMax" false .gt #[.float .f64 x, .float .f64 y]).run P w = .ok (.float .f64 r) w ∧ sv .f64 r = some (max a b) := by
  obtain ⟨s, m, i, h1, h2, h3⟩ := sv_dec hx
  obtain ⟨t, n, j, g1, g2, g3⟩ := sv_dec hy
  have ho := order_sv hx hy
  have hord : (FloatKind.f64.decode x).order (FloatKind.f64.decode y) = some (compare a b) := ho
  have hi1 : ((FloatKind.f64.decode x) == .infinity false) = false := by rw [h1]; rfl
  have hi2 : ((FloatKind.f64.decode y) == .infinity false) = false := by rw [g1]; rfl
  have hn1 : (FloatKind.f64.decode x).isNaN = false := by rw [h1]; rfl
  have hn2 : (FloatKind.f64.decode y).isNaN = false := by rw [g1]; rfl
  have e0 : Extern.MathDim.pick "math.archMax" false .gt #[.float .f64 x, .float .f64 y] = pure (.float .f64 (if ((FloatKind.f64.decode x == .infinity false) || (FloatKind.f64.decode y == .infinity false)) = true then _ else if ((FloatKind.f64.decode x).isNaN || (FloatKind.f64.decode y).isNaN) = true then _ else if ((FloatKind.f64.decode x).isZero && (FloatKind.f64.decode y).isZero) = true then (if ((FloatKind.f64.decode x).neg == false) = true then x else y) else if ((FloatKind.f64.decode x).order (FloatKind.f64.decode y) == some .gt) = true then x else y)) := rfl
  rw [e0]
  simp only [hi1, hi2, hn1, hn2, Bool.or_false, Bool.false_eq_true, if_false, Sem.run_pure, hord]
  by_cases hz : ((FloatKind.f64.decode x).isZero && (FloatKind.f64.decode y).isZero) = true
  · rw [if_pos hz]
    obtain ⟨z1, z2⟩ := Bool.and_eq_true_iff.1 hz
    have ha : a = 0 := by
      rw [h1] at z1
      have : m = 0 := by
        cases m with
        | zero => rfl
        | succ m => cases z1
      rw [h3, this]; unfold Ieee.signed; cases s <;> simp
    have hb : b = 0 := by
      rw [g1] at z2
      have : n = 0 := by
        cases n with
        | zero => rfl
        | succ n => cases z2
      rw [g3, this]; unfold Ieee.signed; cases t <;> simp
    subst ha hb
    by_cases hs : ((FloatKind.f64.decode x).neg == false) = true
    · rw [if_pos hs]; exact ⟨x, rfl, hx⟩
    · rw [if_neg hs]; exact ⟨y, rfl, hy⟩
  · rw [if_neg hz]
    rcases Int.lt_trichotomy a b with h | h | h
    · rw [cmp_lt h, if_neg (by decide)]
      exact ⟨y, rfl, by rw [hy]; congr 1; omega⟩
    · subst h
      rw [show compare a a = .eq from cmp_eq rfl, if_neg (by decide)]
      exact ⟨y, rfl, by rw [hy]; congr 1; omega⟩
    · rw [cmp_gt h, if_pos (by decide)]
      exact ⟨x, rfl, by rw [hx]; congr 1; omega⟩
section
variable {P : Program} {n : Nat} {T : Tm} {M : Mem} {ops : Array Oper} {st : Option (List Nat)} {Q : Tm → Mem → Prop} {fl : Bool} {l : List (Oper × Bool)} {d : Option Nat} {ty : Nat} {pos : String} {after : Array Edge}
theorem xMax {f : Nat} [hf : ExtT P f (Extern.MathDim.pick "math.archMax" false .gt)] {x y : Operand} {ats : Array TypeId} {u v : Nat} {a b : Int} (ex : ev T x = some (.float .f64 u)) (ey : ev T y = some (.float .f64 v)) (hx : sv .f64 u = some a) (hy : sv .f64 v = some b)
    (hk : ∀ r, sv .f64 r = some (max a b) → Run P n ops st Q l (putT n d (.float .f64 r) T) M) :
    Run P n ops st Q ((⟨d, .call { callee := .value (.func f), args := #[x, y], argTypes := ats }, ty, pos, after, none⟩, false) :: l) T M := by
  refine run_step rfl ?_
  intro w0 B ac w ht hsat
  obtain ⟨c, hc, hcb⟩ := nf_float (ev_sound ht ex)
  obtain ⟨c', hc', hcb'⟩ := nf_float (ev_sound ht ey)
  obtain rfl := cb_fin hcb hx
  obtain rfl := cb_fin hcb' hy
  obtain ⟨r, hr, hs⟩ := run_max (P := P) hx hy w
  have hrun : (execOp ac.eval ⟨d, .call { callee := .value (.func f), args := #[x, y], argTypes := ats }, ty, pos, after, none⟩).run P w = .ok (.value (.float .f64 r)) w := by
    have he : ac.eval (.func f) = .func (.func f) #[] #[] := rfl
    have hcl := run_callExt (P := P) (f := f) _ hr
    simp [execOp, resolve, he, Deferred.ofValue, invoke, hc, hc', hcl]
  rw [hrun]
  refine ⟨M, hsat, fun _ _ _ => Ext.refl M, ?_⟩
  have : nf (.float .f64 r) = .float .f64 r := by show Value.float .f64 (cb .f64 r) = _; rw [sv_cb hs]
  rw [this]
  exact hk r hs
end
theorem c_Max (x y : Nat) (a b : Int) (hx : sv .f64 x = some a) (hy : sv .f64 y = some b) (M : Mem) : ACall Try.prog 74 [.float .f64 x, .float .f64 y] M fun v M' => (∃ r, v = .float .f64 r ∧ sv .f64 r = some (max a b)) ∧ M' = M := by
  refine acall_of_awp Try.func74 rfl Try.ntmps74 rfl ?_
  refine cS (cR ?_)
  refine asg rfl ?_
  refine rN ?_
  refine qN ?_
  refine cS ?_
  refine cT rfl ?_
  refine cS (cR ?_)
  refine mv rfl ?_
  refine mv rfl ?_
  refine xMax rfl rfl hx hy ?_
  intro r hr
  refine asg rfl ?_
  refine rN ?_
  refine qN ?_
  refine cE ?_
  refine qE ?_
  refine kE rfl rfl  ?_
  first | (exfalso; contradiction) | exact ⟨_, ⟨⟨r, rfl, hr⟩, rfl⟩, (by (try simp only [List.cons_append, List.nil_append, List.append_assoc]); repeat' first | with_reducible apply eR | with_reducible apply eA | ((with_reducible apply xA); · repeat first | with_reducible apply lH | with_reducible apply lT | with_reducible apply lL) | ((with_reducible apply xC); · repeat first | apply pH | with_reducible apply pT | with_reducible apply pL) | with_reducible assumption | with_reducible apply eS | with_reducible apply eL | exact eR)⟩ | (exfalso; first | contradiction | omega | (simp_all; done) | (simp_all; omega))
theorem c_l07Exponent (a : Option Addr) (n c : Nat) (xs : List Nat) (M : Mem) (h : RdF M a n xs) (hn : n ≤ 1000000) (hb : ∀ i, i < n → fnB (xs.getD i 0) = true) :
    ACall Try.prog 47 [.slice a n c] M fun v M' => (exOk xs (exE xs) ∧ v = .int .i64 (exE xs)) ∧ M' = M := by
  obtain ⟨rfl, _⟩ := id h
  refine acall_of_awp Try.func47 rfl Try.ntmps47 rfl ?_
  refine cS (cR ?_)
  refine asg rfl ?_
  refine rN ?_
  refine qN ?_
  refine cS (cR ?_)
  refine asg rfl ?_
  refine rN ?_
  refine qN ?_
  refine cS ?_
  refine cS (cR ?_)
  refine mv rfl ?_
  refine ln rfl ?_
  refine mv rfl ?_
  refine rN ?_
  refine qN ?_
  refine cB ?_
  refine cL2 (fun (i : Nat) (r : Nat) => [(8, .int .i64 (i : Nat)), (3, .float .f64 r)]) [(0, _), (7, _)] (fun (i : Nat) (r : Nat) => M) (fun (i : Nat) (r : Nat) => xs.length - i) (fun (i : Nat) (r : Nat) => i ≤ xs.length ∧ ∃ A : Nat, sv .f64 r = some (A : Int) ∧ (∀ j, j < i → mg (xs.getD j 0) ≤ A) ∧ (A = 0 ∨ ∃ j, j < i ∧ A = mg (xs.getD j 0))) (0) (0) (by repeat first | exact Sub.nil _ | refine Sub.cons rfl ?_) (by (try simp only [List.cons_append, List.nil_append, List.append_assoc]); repeat' first | with_reducible apply eR | with_reducible apply eA | ((with_reducible apply xA); · repeat first | with_reducible apply lH | with_reducible apply lT | with_reducible apply lL) | ((with_reducible apply xC); · repeat first | apply pH | with_reducible apply pT | with_reducible apply pL) | with_reducible assumption | with_reducible apply eS | with_reducible apply eL | exact eR) (by exact ⟨Nat.zero_le _, 0, sv_zero .f64, fun j hj => by omega, .inl rfl⟩) ?_
  rintro i r ⟨hi, A, hA, h1, h2⟩
  refine wT (T' := [(8, _), (3, _), (0, _), (7, _)]) rfl ?_
  refine cS (cR ?_)
  refine bLss rfl rfl ?_
  refine rN ?_
  refine qN ?_
  refine cS ?_
  refine cC rfl (fun c1 => ?_) (fun c1 => ?_)
  · have c1' := c1; try simp only [inB_iff, Bool.and_eq_true, decide_eq_true_eq, decide_eq_false_iff_not, beq_iff_eq, beq_eq_false_iff_ne, bne_iff_ne, bne_eq_false_iff_eq, ne_eq] at c1'
    have hi2 : i < xs.length := by omega
    have hbi := hb i hi2
    obtain ⟨a1, ha1, ha2, ha3⟩ := fnB_sv hbi
    refine cK ?_
    refine qN ?_
    refine cS ?_
    refine cB ?_
    refine cS (cR ?_)
    refine mv rfl ?_
    refine asg rfl ?_
    refine rN ?_
    refine qN ?_
    refine cR ?_
    refine mv rfl ?_
    refine mv rfl ?_
    refine mv rfl ?_
    first
      | refine ixN rfl rfl (by first | (apply RdC.aok; with_reducible assumption) | exact AOk.own | (apply RdD.aok; with_reducible assumption) | (apply RdD.aok; apply OwD.rdD; with_reducible assumption) | (apply RdI.aok; with_reducible assumption) | (apply RdW.aok; with_reducible assumption) | (apply RdI.aok; apply OwI.rdI; with_reducible assumption) | with_reducible assumption | (apply RdF.aok; with_reducible assumption) | (apply RdF.aok; apply OwF.rdF; with_reducible assumption)) (by first | with_reducible assumption | omega) ?_
      | refine ixI rfl rfl (by first | (apply RdC.aok; with_reducible assumption) | exact AOk.own | (apply RdD.aok; with_reducible assumption) | (apply RdD.aok; apply OwD.rdD; with_reducible assumption) | (apply RdI.aok; with_reducible assumption) | (apply RdW.aok; with_reducible assumption) | (apply RdI.aok; apply OwI.rdI; with_reducible assumption) | with_reducible assumption | (apply RdF.aok; with_reducible assumption) | (apply RdF.aok; apply OwF.rdF; with_reducible assumption)) (by omega) (by omega) ?_
    refine ldF rfl (by first | with_reducible assumption | ((try first | with_reducible apply RdF.sub | with_reducible apply RdF.sub0) <;> first | with_reducible assumption | (apply RdF.mono; (· (with_reducible assumption)); · (try simp only [List.cons_append, List.nil_append, List.append_assoc]); repeat' first | with_reducible apply eR | with_reducible apply eA | ((with_reducible apply xA); · repeat first | with_reducible apply lH | with_reducible apply lT | with_reducible apply lL) | ((with_reducible apply xC); · repeat first | apply pH | with_reducible apply pT | with_reducible apply pL) | with_reducible assumption | with_reducible apply eS | with_reducible apply eL | exact eR) | (apply RdF.mono; (· (apply OwF.rdF; with_reducible assumption)); · (try simp only [List.cons_append, List.nil_append, List.append_assoc]); repeat' first | with_reducible apply eR | with_reducible apply eA | ((with_reducible apply xA); · repeat first | with_reducible apply lH | with_reducible apply lT | with_reducible apply lL) | ((with_reducible apply xC); · repeat first | apply pH | with_reducible apply pT | with_reducible apply pL) | with_reducible assumption | with_reducible apply eS | with_reducible apply eL | exact eR) | (apply RdF.ownm; (· repeat first | with_reducible assumption | with_reducible apply List.mem_cons_self | with_reducible apply List.mem_cons_of_mem | with_reducible apply List.mem_append_right | exact List.Mem.head _); · first | rfl | with_reducible assumption | omega | simp [*]) | with_reducible assumption | omega | (simp; done) | (simp; omega) | (simp only [Bool.and_eq_true, inB_iff] at *; omega))) (by first | with_reducible assumption | omega) ?_
    refine rW rfl ?_
    refine rCq rfl (c_Abs _ _) ?_
    refine rC rfl (c_Max _ _ _ _ hA (sv_fabs (sv_fwid ha1)) _) ?_
    rintro _ _ ⟨⟨r2, rfl, hr2⟩, hMM⟩; have hMM := hMM.symm; subst hMM
    refine ⟨fun _ => (by (try simp only [List.cons_append, List.nil_append, List.append_assoc]); repeat' first | with_reducible apply eR | with_reducible apply eA | ((with_reducible apply xA); · repeat first | with_reducible apply lH | with_reducible apply lT | with_reducible apply lL) | ((with_reducible apply xC); · repeat first | apply pH | with_reducible apply pT | with_reducible apply pL) | with_reducible assumption | with_reducible apply eS | with_reducible apply eL | exact eR), ?_⟩
    refine asg rfl ?_
    refine rN ?_
    refine qBN ?_
    refine qN ?_
    refine cR ?_
    first | refine rAn (b := 1) rfl rfl (by omega) ?_ | refine rA rfl rfl (by omega) (by omega) ?_ | refine bAdd rfl rfl ?_
    refine mv rfl ?_
    refine rN ?_
    refine qL2 (i + 1) (_) ?_ (by omega) (by repeat first | exact Sub.nil _ | refine Sub.cons rfl ?_) (by (try simp only [List.cons_append, List.nil_append, List.append_assoc]); repeat' first | with_reducible apply eR | with_reducible apply eA | ((with_reducible apply xA); · repeat first | with_reducible apply lH | with_reducible apply lT | with_reducible apply lL) | ((with_reducible apply xC); · repeat first | apply pH | with_reducible apply pT | with_reducible apply pL) | with_reducible assumption | with_reducible apply eS | with_reducible apply eL | exact eR)
    have hmx : sv .f64 r2 = some ((max A (mg (xs.getD i 0)) : Nat) : Int) := by rw [hr2, ha2]; congr 1; omega
    refine ⟨by omega, max A (mg (xs.getD i 0)), hmx, fun j hj => ?_, ?_⟩
    · by_cases hji : j = i
      · subst hji; omega
      · have := h1 j (by omega); omega
    · rcases Nat.le_total (mg (xs.getD i 0)) A with hle | hle
      · rw [Nat.max_eq_left hle]
        exact h2.imp id fun ⟨j, hj, e⟩ => ⟨j, by omega, e⟩
      · rw [Nat.max_eq_right hle]
        exact .inr ⟨i, by omega, rfl⟩
  · have c1' := c1; try simp only [inB_iff, Bool.and_eq_true, decide_eq_true_eq, decide_eq_false_iff_not, beq_iff_eq, beq_eq_false_iff_ne, bne_iff_ne, bne_eq_false_iff_eq, ne_eq] at c1'
    have : i = xs.length := by omega
    subst this
    refine cX ?_
    refine qX ?_
    refine qL2X ?_
    refine qBX ?_
    refine qN ?_
    refine cS (cR ?_)
    refine asg rfl ?_
    refine rN ?_
    refine qN ?_
    refine cS ?_
    refine cB ?_
    refine cL1 (fun (e : Int) => [(5, .int .i64 e)]) [(3, _)] (fun (e : Int) => M) (fun (e : Int) => (101 - e).toNat) (fun (e : Int) => (-100 ≤ e ∧ e ≤ 100) ∧ (e = -100 ∨ thr (e - 1) < A)) (-100) (by repeat first | exact Sub.nil _ | refine Sub.cons rfl ?_) (by (try simp only [List.cons_append, List.nil_append, List.append_assoc]); repeat' first | with_reducible apply eR | with_reducible apply eA | ((with_reducible apply xA); · repeat first | with_reducible apply lH | with_reducible apply lT | with_reducible apply lL) | ((with_reducible apply xC); · repeat first | apply pH | with_reducible apply pT | with_reducible apply pL) | with_reducible assumption | with_reducible apply eS | with_reducible apply eL | exact eR) (by exact ⟨by decide, .inl rfl⟩) ?_
    rintro e ⟨he, h3⟩
    refine wT (T' := [(5, _), (3, _)]) rfl ?_
    refine cS ?_
    refine cS (cR ?_)
    refine mv rfl ?_
    refine mv rfl ?_
    first | refine rB rfl rfl (by omega) (by omega) ?_ | refine bSub rfl rfl ?_
    refine rCq rfl (c_l07Two _ (by omega) _) ?_
    refine fMl rfl rfl ?_
    refine fCm rfl rfl rfl ?_
    refine rN ?_
    refine qN ?_
    rw [gtr_sv hA (sv_thr2 (by omega))]
    refine cC rfl (fun hr => ?_) (fun hr => ?_)
    · have hr' := hr; try simp only [inB_iff, Bool.and_eq_true, decide_eq_true_eq, decide_eq_false_iff_not, beq_iff_eq, beq_eq_false_iff_ne, bne_iff_ne, bne_eq_false_iff_eq, ne_eq] at hr'
      have hr2 : thr e < A := by simpa using hr
      refine cK ?_
      refine qN ?_
      refine cB ?_
      refine cR ?_
      refine mv rfl ?_
      first | refine rAn (b := 1) rfl rfl (by omega) ?_ | refine rA rfl rfl (by omega) (by omega) ?_ | refine bAdd rfl rfl ?_
      refine asg rfl ?_
      refine rN ?_
      refine qBN ?_
      have he2 : e < 100 := by
        rcases h2 with rfl | ⟨j, hj, e1⟩
        · omega
        · obtain ⟨_, _, _, hlt⟩ := fnB_sv (hb j hj)
          exact ex_lt he.1 he.2 (by rw [e1]; exact hlt) hr2
      refine qL1 (e + 1) ?_ (by omega) (by repeat first | exact Sub.nil _ | refine Sub.cons rfl ?_) (by (try simp only [List.cons_append, List.nil_append, List.append_assoc]); repeat' first | with_reducible apply eR | with_reducible apply eA | ((with_reducible apply xA); · repeat first | with_reducible apply lH | with_reducible apply lT | with_reducible apply lL) | ((with_reducible apply xC); · repeat first | apply pH | with_reducible apply pT | with_reducible apply pL) | with_reducible assumption | with_reducible apply eS | with_reducible apply eL | exact eR)
      exact ⟨by omega, .inr (by rw [show e + 1 - 1 = e from by omega]; exact hr2)⟩
    · have hr' := hr; try simp only [inB_iff, Bool.and_eq_true, decide_eq_true_eq, decide_eq_false_iff_not, beq_iff_eq, beq_eq_false_iff_ne, bne_iff_ne, bne_eq_false_iff_eq, ne_eq] at hr'
      have hr2 : A ≤ thr e := by simpa using hr
      refine cX ?_
      refine qX ?_
      refine qL1X ?_
      refine qBX ?_
      refine qN ?_
      refine cS (cR ?_)
      refine mv rfl ?_
      refine asg rfl ?_
      refine rN ?_
      refine qN ?_
      refine cE ?_
      have hok : exOk xs e := by
        refine ⟨he, fun j hj => Nat.le_trans (h1 j hj) hr2, ?_⟩
        rcases h3 with h3 | h3
        · exact .inl h3
        · rcases h2 with rfl | ⟨j, hj, e1⟩
          · omega
          · exact .inr ⟨j, hj, by rw [← e1]; exact h3⟩
      have hee := exE_eq hok
      refine kE rfl rfl  ?_
      first | (exfalso; contradiction) | exact ⟨_, ⟨⟨by rw [← hee]; exact hok, by rw [← hee]⟩, rfl⟩, (by (try simp only [List.cons_append, List.nil_append, List.append_assoc]); repeat' first | with_reducible apply eR | with_reducible apply eA | ((with_reducible apply xA); · repeat first | with_reducible apply lH | with_reducible apply lT | with_reducible apply lL) | ((with_reducible apply xC); · repeat first | apply pH | with_reducible apply pT | with_reducible apply pL) | with_reducible assumption | with_reducible apply eS | with_reducible apply eL | exact eR)⟩ | (exfalso; first | contradiction | omega | (simp_all; done) | (simp_all; omega))
end Go.Proofs.Ytimdimgihlojcaa.Ab
