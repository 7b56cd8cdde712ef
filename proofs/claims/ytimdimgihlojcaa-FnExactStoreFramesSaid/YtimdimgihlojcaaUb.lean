/-
  Walks: the block with some bytes.
-/
import Derived.Test.YtimdimgihlojcaaPp
import Derived.Test.YtimdimgihlojcaaPa
namespace Go.Proofs.Ytimdimgihlojcaa.Ab
open Go Go.RowKit
attribute [local irreducible] Run Then InBlock LoopQ LQ1 LQ2 LQ3 LQ4 LQ5 LQ6 AWp Ret ACall
set_option linter.unusedVariables false
set_option linter.unusedSimpArgs false

section
variable {P : Program} {n : Nat} {T : Tm} {M : Mem} {ops : Array Oper} {st : Option (List Nat)} {Q : Tm → Mem → Prop} {fl : Bool} {l : List (Oper × Bool)} {d : Option Nat} {ty : Nat} {pos : String} {after : Array Edge}
theorem run_narrow_any {s t : Nat} [h1 : UnderT P s (.float .f64)] [h2 : UnderT P t (.float .f32)] (c : Nat) (w : World) : ∃ v w', (convert s t (.float .f64 c)).run P w = .ok (.float .f32 v) w' ∧ Quiet w w' := by
  cases hd : FloatKind.f64.decode c with
  | nan a b =>
    obtain ⟨v, hv, hrun⟩ := run_nanConv32 (P := P) w c (fun r => (Pure.pure (Value.float .f32 r) : Sem Value))
    refine ⟨v, { w with drawn := w.drawn + 1 }, ?_, quiet_drew w⟩
    simp [convert, run_underlying h1.out, run_underlying h2.out, Conv.floatToFloat, hd]
    simpa using hrun
  | infinity a =>
    exact ⟨_, w, by simp [convert, run_underlying h1.out, run_underlying h2.out, Conv.floatToFloat, hd]; rfl, .refl w⟩
  | number a m e =>
    by_cases hi : (FloatKind.f32.decode (FloatKind.f32.encode (.number a m e))).isInfinity = true
    · have key : ∃ v, (choose (.floatToFloat c) >>= fun r => (Pure.pure (Value.float .f32 r) : Sem Value)).run P w = .ok (.float .f32 v) { w with drawn := w.drawn + 1 } := by
        refine ⟨(Question.floatToFloat c).cut (w.tape w.drawn (.floatToFloat c)), ?_⟩
        simp [Question.forced]
      obtain ⟨v, hv⟩ := key
      refine ⟨v, { w with drawn := w.drawn + 1 }, ?_, quiet_drew w⟩
      simp [convert, run_underlying h1.out, run_underlying h2.out, Conv.floatToFloat, hd, hi]
      simpa using hv
    · exact ⟨_, w, by simp [convert, run_underlying h1.out, run_underlying h2.out, Conv.floatToFloat, hd, hi]; rfl, .refl w⟩
/-- narrowing, whatever comes of it -/
theorem rNa {s t b : Nat} {x : Operand} [h1 : UnderT P s (.float .f64)] [h2 : UnderT P t (.float .f32)] (ex : ev T x = some (.float .f64 b)) (kk : ∀ c, Run P n ops st Q l (putT n d (.float .f32 c) T) M) :
    Run P n ops st Q ((⟨d, .convert s t x, ty, pos, after, none⟩, false) :: l) T M := by
  refine run_step rfl ?_
  intro w0 B a w ht hs
  obtain ⟨c, hc, _⟩ := nf_float (ev_sound ht ex)
  obtain ⟨v, w', hr, hq⟩ := run_narrow_any (P := P) (s := s) (t := t) c w
  have hrun : (execOp a.eval ⟨d, .convert s t x, ty, pos, after, none⟩).run P w = .ok (.value (.float .f32 v)) w' := by
    simp [execOp, hc, hr]
  rw [hrun]
  exact ⟨M, hs.quiet hq, fun _ _ _ => Ext.refl M, kk _⟩
end
theorem scale_eq {N c p t : Nat} {k : Int} (h : N * 2 ^ p = c * pow2 t) (hp : 0 ≤ p + k) (ht : 0 ≤ t + k) : N * 2 ^ (p + k).toNat = c * pow2 (t + k).toNat := by
  rcases Int.le_total 0 k with hk | hk
  · have e1 : (p + k).toNat = p + k.toNat := by omega
    have e2 : (t + k).toNat = t + k.toNat := by omega
    rw [e1, e2, Nat.pow_add, pow2_add, ← Nat.mul_assoc, ← Nat.mul_assoc, h]; rfl
  · have e1 : p = (p + k).toNat + (-k).toNat := by omega
    have e2 : t = (t + k).toNat + (-k).toNat := by omega
    rw [e1, e2, Nat.pow_add, pow2_add, ← Nat.mul_assoc, ← Nat.mul_assoc] at h
    exact Nat.eq_of_mul_eq_mul_right (pow2_pos _) h
/-! ## whole numbers scaled -/
theorem fofint_lt (n : Int) : fofint .f64 n < 18446744073709551616 := by
  rw [fofint_eq]
  show FloatKind.f64.format.nearest (decide (n < 0)) n.natAbs 0 < _
  rw [T.nearest_rung]
  have := T.rung_le_inf FloatKind.f64.format n.natAbs 0
  rw [inf64] at this
  unfold Ieee.Format.word
  rw [sw64]
  cases decide (n < 0) <;> simp <;> omega
theorem n_scaled {n k : Int} (hn : n.natAbs ≤ 32768) (hk : -115 ≤ k ∧ k ≤ 140) : LdOk (fofint .f64 n) k ∧ ∃ c, sv .f64 (fmul .f64 (fofint .f64 n) (twoB k)) = some c ∧ c.natAbs = n.natAbs * pow2 (1074 + k).toNat := by
  have hsv := sv_fofint (k := .f64) (n := n) (by omega)
  obtain ⟨s, q, f, hd, hf, hq⟩ := dw_of hsv (fofint_lt n)
  rw [hd] at hsv
  by_cases h0 : n = 0
  · subst h0
    obtain ⟨rfl, rfl⟩ := dw_zero (by simpa using hsv) hq hf
    refine ⟨⟨by omega, s, 0, 0, hd, hf, .inl ⟨rfl, rfl⟩⟩, 0, ?_, by simp⟩
    rw [hd, mul_two0 s (by omega)]; exact sv_dw0 s
  · have ha : (n * PU).natAbs = n.natAbs * PU := by rw [Int.natAbs_mul, Int.natAbs_natCast]
    have h1 : pow2 1074 ≤ (n * PU).natAbs := by
      rw [ha]
      have h := Nat.mul_le_mul_right PU (show 1 ≤ n.natAbs by omega)
      rw [Nat.one_mul] at h
      unfold PU at h ⊢
      exact h
    have h2 : (n * PU).natAbs < pow2 1090 := by
      rw [ha]
      unfold PU
      rw [show pow2 1090 = pow2 16 * pow2 1074 from pow2_add 16 1074, show pow2 16 = 65536 from by decide]
      exact Nat.mul_lt_mul_of_pos_right (by omega) (pow2_pos 1074)
    have hfd := dw_field hsv hq hf h1 h2 (by decide)
    refine ⟨⟨by omega, s, q, f, hd, hf, .inr ⟨by omega, by omega⟩⟩, _, by rw [hd, (mul_two ⟨hfd.1, hq⟩ hf (by omega) (by omega)).1]; exact sv_dw (by omega) hf, ?_⟩
    rw [signed_abs, Nat.shiftLeft_zero, Nat.shiftLeft_eq]
    have hb := dw_abs hsv hq hf
    rw [rv_norm hfd.1 hf, Nat.shiftLeft_eq, ha] at hb
    have := scale_eq (k := k) (N := 4503599627370496 + f) (p := q - 1) (c := n.natAbs) (t := 1074) hb.symm (by omega) (by omega)
    rw [show (((q - 1 : Nat) : Int) + k).toNat = ((q : Int) + k).toNat - 1 from by omega] at this
    exact this
theorem n_narrow {n k : Int} (hn : n.natAbs ≤ 32768) (hk : -115 ≤ k ∧ k ≤ 85) : narOk (fmul .f64 (fofint .f64 n) (twoB k)) = true ∧ mg (fnar (fmul .f64 (fofint .f64 n) (twoB k))) = n.natAbs * pow2 (1074 + k).toNat := by
  obtain ⟨_, c, h1, h2⟩ := n_scaled hn (k := k) (by omega)
  have hrep : Rep .f32 c.natAbs := by
    rw [h2, ← shl_pow2]
    have hl : n.natAbs.log2 ≤ 15 := by
      by_cases h0 : n.natAbs = 0
      · rw [h0]; decide
      · rcases Nat.lt_or_ge n.natAbs 32768 with h | h
        · have := (Nat.log2_lt h0).2 (show n.natAbs < 2 ^ 15 from h); omega
        · have : n.natAbs = 2 ^ 15 := by rw [show (2 : Nat) ^ 15 = 32768 from by decide]; omega
          rw [this, Nat.log2_two_pow]; omega
    refine rep_pow (e := k) ?_ ?_ ?_ ?_
    · show n.natAbs.log2 ≤ 23; omega
    · rw [lp_up]; show (925 : Int) - 1074 ≤ k; omega
    · have e1 : (FloatKind.f32.format.leastPlace + ((2 ^ FloatKind.f32.format.exponentBits : Nat) : Int) - 2) = 105 := by decide
      have e2 : FloatKind.f32.format.fractionBits = 23 := rfl
      rw [e1, e2]; omega
    · omega
  obtain ⟨g1, g2⟩ := fnar_exact h1 hrep
  refine ⟨g1, ?_⟩
  unfold mg
  rw [g2]
  exact h2
/-! ## the bytes of a block, read -/
def ubM (s : ByteArray) (i : Nat) : Int := sAt s i + 256 * sAt s (i + 1)
def ubN (s : ByteArray) (i : Nat) : Int := if 32768 ≤ ubM s i then ubM s i - 65536 else ubM s i
theorem ubM_rng (s : ByteArray) (i : Nat) : 0 ≤ ubM s i ∧ ubM s i < 65536 := by
  have h1 := sAt_rng s i
  have h2 := sAt_rng s (i + 1)
  unfold ubM; omega
theorem ubN_rng (s : ByteArray) (i : Nat) : -32768 ≤ ubN s i ∧ ubN s i ≤ 32767 := by
  have := ubM_rng s i
  unfold ubN; split <;> omega
abbrev ubD (s : ByteArray) (j : Nat) : Nat := fmul .f64 (fofint .f64 (ubN s (1 + 2 * j))) (twoB (sAt s 0 - 115))
def ubF (s : ByteArray) (j : Nat) : Nat := fnar (ubD s j)
def ubC (s : ByteArray) : Nat := (s.size - 1) / 2
def ubL (s : ByteArray) : List Nat := tab (ubC s) (ubF s)
noncomputable def ubB (s : ByteArray) : Bool := decide (s.size % 2 = 1) && inB (s.size : Nat) 3 17 && decide (sAt s 0 ≤ 200) && blB (ubL s) && decide (pkS (ubL s) = s)
/-- there is an exponent -/
theorem ex_any {xs : List Nat} (k : Nat) : ∀ e : Int, e = (k : Int) - 100 → k ≤ 200 → (∀ i, i < xs.length → mg (xs.getD i 0) ≤ thr e) → ∃ e, exOk xs e := by
  induction k with
  | zero => intro e he _ h; exact ⟨e, by omega, h, .inl (by omega)⟩
  | succ k ih =>
    intro e he hk h
    by_cases hall : ∀ i, i < xs.length → mg (xs.getD i 0) ≤ thr (e - 1)
    · exact ih (e - 1) (by omega) (by omega) hall
    · have : ∃ i, i < xs.length ∧ thr (e - 1) < mg (xs.getD i 0) := by
        apply Classical.byContradiction
        intro hn
        apply hall
        intro i hi
        apply Nat.le_of_not_lt
        intro hlt
        exact hn ⟨i, hi, hlt⟩
      obtain ⟨i, hi, hlt⟩ := this
      exact ⟨e, by omega, h, .inr ⟨i, hi, hlt⟩⟩
theorem thr_top {e : Int} (h : e = 100) : pow2 1173 ≤ thr e := by rw [h]; exact thr_100
theorem ex_ok {xs : List Nat} (h : blB xs = true) : exOk xs (exE xs) := by
  obtain ⟨q1, q2⟩ := blB_iff h
  have hfb := fnA_at q2
  obtain ⟨t, ht⟩ : ∃ t : Int, t = ((200 : Nat) : Int) - 100 := ⟨_, rfl⟩
  have htop := thr_top (e := t) (by omega)
  obtain ⟨e, he⟩ := ex_any (xs := xs) 200 t ht (by decide) (fun i hi => by
    obtain ⟨_, _, _, hlt⟩ := fnB_sv (hfb i hi)
    omega)
  rw [← exE_eq he]; exact he
theorem pkK_rng {xs : List Nat} {e : Int} : ∀ i, ∀ n ∈ pkK xs e i, 0 ≤ n ∧ n < 256
  | 0 => fun n hn => by simp [pkK] at hn; omega
  | i + 1 => fun n hn => by
    rcases List.mem_append.1 hn with h | h
    · exact pkK_rng i n h
    · simp [pkB] at h; omega
theorem pkK_head (xs : List Nat) (e : Int) : ∀ i, (pkK xs e i).getD 0 0 = (e + 100) % 256
  | 0 => rfl
  | i + 1 => by
    show (pkK xs e i ++ _).getD 0 0 = _
    have hl : 0 < (pkK xs e i).length := by rw [pkK_len]; omega
    rw [List.getD_eq_getElem?_getD, List.getElem?_append_left hl, ← List.getD_eq_getElem?_getD, pkK_head xs e i]
theorem pk_first {xs : List Nat} (h : blB xs = true) : sAt (pkS xs) 0 = exE xs + 100 := by
  have := (ex_ok h).1
  unfold sAt pkS
  rw [byS_bsS (pkK_rng _), pkK_head]
  omega
theorem ub_big {s : ByteArray} {zs : List Nat} (h : 200 < sAt s 0) (hb : blB zs = true) : pkS zs ≠ s := by
  intro e
  have h1 := pk_first hb
  have h2 := (ex_ok hb).1
  rw [e] at h1
  omega
theorem ubF_mg {s : ByteArray} {j : Nat} (h : sAt s 0 ≤ 200) : narOk (ubD s j) = true ∧ mg (ubF s j) = (ubN s (1 + 2 * j)).natAbs * pow2 (1074 + (sAt s 0 - 115)).toNat := by
  have h1 := sAt_rng s 0
  have h2 := ubN_rng s (1 + 2 * j)
  exact n_narrow (by omega) (by omega)
theorem ub_min {s : ByteArray} {j : Nat} (h : sAt s 0 ≤ 200) (hj : j < ubC s) (hm : ubM s (1 + 2 * j) = 32768) (hb : blB (ubL s) = true) : pkS (ubL s) ≠ s := by
  intro e
  have h1 := pk_first hb
  obtain ⟨h2, h3, _⟩ := ex_ok hb
  rw [e] at h1
  have h4 := h3 j (by unfold ubL; rw [tab_len]; exact hj)
  have h5 : (ubL s).getD j 0 = ubF s j := tab_getD hj
  rw [h5, (ubF_mg h).2] at h4
  have h6 : ubN s (1 + 2 * j) = -32768 := by unfold ubN; rw [hm]; decide
  rw [h6] at h4
  have h7 := sAt_rng s 0
  unfold thr at h4
  rw [show (1074 + (sAt s 0 - 115)).toNat = (exE (ubL s) + 1059).toNat from by omega] at h4
  have := pow2_pos (exE (ubL s) + 1059).toNat
  have h8 := Nat.le_of_mul_le_mul_right h4 this
  omega
end Go.Proofs.Ytimdimgihlojcaa.Ab
