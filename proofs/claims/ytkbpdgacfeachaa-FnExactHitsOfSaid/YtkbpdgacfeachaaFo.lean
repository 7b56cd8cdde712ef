/-
  Plain facts on rounding: rungs of words, and that rounding keeps the order.
-/
import Ieee.Arith
namespace Go.Proofs.Ytkbpdgacfeachaa.T
open Ieee
set_option linter.unusedVariables false
/-! exact cuts -/
theorem cut_zero (way : Toward) (s : Bool) (n : Nat) : way.cut s n 0 = n := by
  unfold Toward.cut; cases way <;> simp [Nat.mod_one]
theorem log2_shift {a d : Nat} (h : a ≠ 0) : (a <<< d).log2 = a.log2 + d := by
  rw [Nat.shiftLeft_eq]
  have h2 : a * 2 ^ d ≠ 0 := by
    have : 0 < 2 ^ d := Nat.pow_pos (by decide)
    exact Nat.mul_ne_zero h (by omega)
  rw [Nat.log2_eq_iff h2]
  have h1 := Nat.log2_self_le h
  have h3 := Nat.lt_log2_self (n := a)
  constructor
  · rw [Nat.pow_add]; exact Nat.mul_le_mul_right _ h1
  · rw [show a.log2 + d + 1 = (a.log2 + 1) + d from by omega, Nat.pow_add]
    exact Nat.mul_lt_mul_of_pos_right h3 (Nat.pow_pos (by decide))
/-- a number that is a multiple of the gap is cut exactly -/
theorem cut_exact (way : Toward) (s : Bool) (a d : Nat) : way.cut s (a <<< d) d = a := by
  by_cases h : a = 0
  · subst h
    unfold Toward.cut
    cases way <;> simp
  · unfold Toward.cut
    have hl := log2_shift (d := d) h
    have hm : min d ((a <<< d).log2 + 2) = d := by rw [hl]; omega
    have hp : 0 < 2 ^ d := Nat.pow_pos (by decide)
    simp only [hm]
    simp only [Nat.shiftLeft_eq, Nat.one_mul]
    rw [Nat.mul_div_cancel _ hp, Nat.mul_mod_left]
    cases way <;> simp
/-- the cut of a number and of its shift -/
theorem cut_shift (way : Toward) (s : Bool) (n d j : Nat) (h : n ≠ 0) : way.cut s (n <<< j) (d + j) = way.cut s n d := by
  unfold Toward.cut
  have hl := log2_shift (d := j) h
  have hm : min (d + j) ((n <<< j).log2 + 2) = min d (n.log2 + 2) + j := by rw [hl]; omega
  have hp : 0 < 2 ^ j := Nat.pow_pos (by decide)
  simp only [hm]
  simp only [Nat.shiftLeft_eq, Nat.one_mul, Nat.pow_add]
  generalize 2 ^ min d (n.log2 + 2) = g
  generalize 2 ^ j = p at hp
  rw [Nat.mul_div_mul_right _ _ hp, Nat.mul_mod_mul_right]
  have e1 : ∀ r : Nat, decide (g * p < 2 * (r * p)) = decide (g < 2 * r) := by
    intro r
    rw [← Nat.mul_assoc]
    simp [Nat.mul_lt_mul_right hp]
  have e2 : ∀ r : Nat, (g * p == 2 * (r * p)) = (g == 2 * r) := by
    intro r
    rw [← Nat.mul_assoc]
    have : (g * p = 2 * r * p) ↔ (g = 2 * r) := Nat.mul_left_inj (by omega)
    by_cases hg : g = 2 * r
    · have := this.2 hg; simp [hg]
    · have h2 : ¬ g * p = 2 * r * p := fun hh => hg (this.1 hh)
      rw [beq_eq_false_iff_ne.2 h2, beq_eq_false_iff_ne.2 hg]
  have e3 : ∀ r : Nat, (r * p != 0) = (r != 0) := by
    intro r
    by_cases hr : r = 0
    · subst hr; simp
    · have : r * p ≠ 0 := Nat.mul_ne_zero hr (by omega)
      rw [bne_iff_ne.2 this, bne_iff_ne.2 hr]
  cases way <;> simp only [e1, e2, e3]
/-- the nearest word depends on the value only -/
theorem nearest_shift (f : Format) (s : Bool) (m j : Nat) (e : Int) : f.nearest s (m <<< j) (e - j) = f.nearest s m e := by
  by_cases h : m = 0
  · subst h; simp [Format.nearest]
  · have h2 : m <<< j ≠ 0 := by
      rw [Nat.shiftLeft_eq]
      have : 0 < 2 ^ j := Nat.pow_pos (by decide)
      exact Nat.mul_ne_zero h (by omega)
    unfold Format.nearest
    rw [if_neg h, if_neg h2, log2_shift h]
    have hlast : max (e - (j : Int) + ((m.log2 + j : Nat) : Int) - (f.fractionBits : Int)) f.leastPlace = max (e + (m.log2 : Int) - f.fractionBits) f.leastPlace := by
      congr 1; omega
    rw [hlast]
    generalize max (e + (m.log2 : Int) - f.fractionBits) f.leastPlace = last
    have key : Toward.even.cut s ((m <<< j) <<< (e - j - last).toNat) (last - (e - j)).toNat = Toward.even.cut s (m <<< (e - last).toNat) (last - e).toNat := by
      by_cases h1 : last ≤ e - j
      · rw [show (last - (e - j)).toNat = 0 from by omega, show (last - e).toNat = 0 from by omega, cut_zero, cut_zero]
        rw [← Nat.shiftLeft_add]
        congr 1; omega
      · by_cases h3 : last ≤ e
        · rw [show (e - j - last).toNat = 0 from by omega, show (last - e).toNat = 0 from by omega, cut_zero]
          have : m <<< j = (m <<< (e - last).toNat) <<< (last - (e - j)).toNat := by
            rw [← Nat.shiftLeft_add]; congr 1; omega
          rw [Nat.shiftLeft_zero, this, cut_exact]
        · rw [show (e - j - last).toNat = 0 from by omega, show (e - last).toNat = 0 from by omega, Nat.shiftLeft_zero, Nat.shiftLeft_zero]
          rw [show (last - (e - j)).toNat = (last - e).toNat + j from by omega]
          exact cut_shift _ _ _ _ _ h
    simp only [key]

theorem lt_two {m p : Nat} (h0 : m ≠ 0) : m <<< (p - m.log2) < 2 ^ (p + 1) ∨ p < m.log2 := by
  by_cases hl : m.log2 ≤ p
  · left
    rw [Nat.shiftLeft_eq]
    have h1 := Nat.lt_log2_self (n := m)
    have h2 : m * 2 ^ (p - m.log2) < 2 ^ (m.log2 + 1) * 2 ^ (p - m.log2) := Nat.mul_lt_mul_of_pos_right h1 (Nat.pow_pos (by decide))
    rw [← Nat.pow_add, show m.log2 + 1 + (p - m.log2) = p + 1 from by omega] at h2
    exact h2
  · right; omega
theorem two_le {m p : Nat} (h0 : m ≠ 0) (hl : m.log2 ≤ p) : 2 ^ p ≤ m <<< (p - m.log2) := by
  rw [Nat.shiftLeft_eq]
  have h1 := Nat.log2_self_le h0
  have h2 : 2 ^ m.log2 * 2 ^ (p - m.log2) ≤ m * 2 ^ (p - m.log2) := Nat.mul_le_mul_right _ h1
  rw [← Nat.pow_add, show m.log2 + (p - m.log2) = p from by omega] at h2
  exact h2
theorem word_mod (f : Format) (s : Bool) (r : Nat) (h : r < f.signWeight) : f.word s r % f.signWeight = r := by
  unfold Format.word
  cases s
  · exact Nat.mod_eq_of_lt h
  · rw [if_pos rfl, Nat.add_mod_left, Nat.mod_eq_of_lt h]
theorem word_div (f : Format) (s : Bool) (r : Nat) (h : r < f.signWeight) : (f.word s r / f.signWeight % 2 == 1) = s := by
  unfold Format.word
  have hp : 0 < f.signWeight := Nat.pow_pos (by decide)
  cases s
  · simp only [Bool.false_eq_true, if_false]
    rw [Nat.div_eq_of_lt h]; rfl
  · simp only [if_true]
    rw [Nat.add_div_left _ hp, Nat.div_eq_of_lt h]; rfl
/-- a number that the format has is read as it was written -/
theorem read_exact (f : Format) (s : Bool) (m : Nat) (e : Int) (hw : 2 ≤ f.exponentBits) (hm : m.log2 ≤ f.fractionBits) (he : f.leastPlace ≤ e) (hbig : e + m.log2 - f.fractionBits < f.leastPlace + ((2 ^ f.exponentBits : Nat) : Int) - 2) :
    ∃ j : Nat, f.read (f.nearest s m e) = .number s (m <<< j) (e - j) ∧ f.nearest s m e % f.signWeight < f.infRung := by
  have hB : 0 < f.binade := Nat.pow_pos (by decide)
  have hW : 4 ≤ 2 ^ f.exponentBits := by
    have := Nat.pow_le_pow_right (n := 2) (by decide) hw
    simpa using this
  have hsw : f.signWeight = 2 ^ f.exponentBits * f.binade := by unfold Format.signWeight Format.binade; rw [Nat.pow_add]
  have hir : f.infRung = (2 ^ f.exponentBits - 1) * f.binade := rfl
  have hin : f.infRung < f.signWeight := by
    rw [hir, hsw]; exact Nat.mul_lt_mul_of_pos_right (by omega) hB
  by_cases h0 : m = 0
  · subst h0
    refine ⟨(e - f.leastPlace).toNat, ?_, ?_⟩
    · unfold Format.nearest
      rw [if_pos rfl]
      have hlt : 0 < f.signWeight := by omega
      unfold Format.read
      simp only [word_mod f s 0 hlt, word_div f s 0 hlt, if_pos hB]
      rw [Nat.zero_shiftLeft]
      congr 1; omega
    · unfold Format.nearest
      rw [if_pos rfl, word_mod f s 0 (by omega), hir]
      exact Nat.mul_pos (by omega) hB
  · generalize hlast : max (e + (m.log2 : Int) - f.fractionBits) f.leastPlace = last
    have hle : last ≤ e := by omega
    refine ⟨(e - last).toNat, ?_⟩
    have hn : f.nearest s m e = f.word s ((last - f.leastPlace).toNat * f.binade + m <<< (e - last).toNat) ∧ (last - f.leastPlace).toNat * f.binade + m <<< (e - last).toNat < f.infRung ∧
        f.read (f.word s ((last - f.leastPlace).toNat * f.binade + m <<< (e - last).toNat)) = .number s (m <<< (e - last).toNat) (e - (e - last).toNat) := by
      have hk : m <<< (e - last).toNat < 2 * f.binade ∧ (f.leastPlace < last → f.binade ≤ m <<< (e - last).toNat) := by
        have hjj : (e - last).toNat ≤ f.fractionBits - m.log2 := by omega
        have h1 : m <<< (e - last).toNat ≤ m <<< (f.fractionBits - m.log2) := by
          rw [Nat.shiftLeft_eq, Nat.shiftLeft_eq]
          exact Nat.mul_le_mul_left _ (Nat.pow_le_pow_right (by decide) hjj)
        have h2 : m <<< (f.fractionBits - m.log2) < 2 ^ (f.fractionBits + 1) := (lt_two h0).resolve_right (by omega)
        refine ⟨?_, fun hlt => ?_⟩
        · unfold Format.binade
          rw [Nat.pow_succ] at h2
          omega
        · have : (e - last).toNat = f.fractionBits - m.log2 := by omega
          rw [this]
          exact two_le h0 hm
      generalize hkk : m <<< (e - last).toNat = kept at hk
      generalize hq : (last - f.leastPlace).toNat = q
      have hqb : q + 2 < 2 ^ f.exponentBits ∨ q = 0 := by omega
      have hlt : q * f.binade + kept < f.infRung := by
        rw [hir]
        have h3 : q + 2 ≤ 2 ^ f.exponentBits - 1 := by omega
        have h4 : (q + 2) * f.binade ≤ (2 ^ f.exponentBits - 1) * f.binade := Nat.mul_le_mul_right _ h3
        have h5 : (q + 2) * f.binade = q * f.binade + 2 * f.binade := Nat.add_mul _ _ _
        omega
      refine ⟨?_, hlt, ?_⟩
      · unfold Format.nearest
        rw [if_neg h0]
        simp only [hlast, show (last - e).toNat = 0 from by omega, cut_zero, hkk, hq]
        rw [Nat.min_eq_left (by omega)]
      · unfold Format.read
        simp only [word_mod f s _ (Nat.lt_trans hlt hin), word_div f s _ (Nat.lt_trans hlt hin)]
        by_cases hqz : q = 0
        · subst hqz
          rw [Nat.zero_mul, Nat.zero_add]
          by_cases hs : kept < f.binade
          · rw [if_pos hs]
            congr 1; omega
          · rw [if_neg hs, if_pos (by rw [Nat.zero_mul, Nat.zero_add] at hlt; exact hlt)]
            have hd : kept / f.binade = 1 := Nat.div_eq_of_lt_le (by omega) (by omega)
            have hmod : kept % f.binade = kept - f.binade := by
              have := Nat.div_add_mod kept f.binade
              rw [hd] at this; omega
            rw [hd, hmod]
            have e1 : f.binade + (kept - f.binade) = kept := by omega
            rw [e1]
            congr 1
            simp only [Nat.sub_self]; omega
        · have hkb := hk.2 (by omega)
          have hd : (q * f.binade + kept) / f.binade = q + 1 := by
            rw [Nat.mul_comm, Nat.mul_add_div hB]
            rw [Nat.div_eq_of_lt_le (k := 1) (by omega) (by omega)]
          have hmod : (q * f.binade + kept) % f.binade = kept - f.binade := by
            rw [Nat.mul_comm, Nat.mul_add_mod]
            have hd2 : kept / f.binade = 1 := Nat.div_eq_of_lt_le (by omega) (by omega)
            have := Nat.div_add_mod kept f.binade
            rw [hd2] at this; omega
          have hge : ¬ q * f.binade + kept < f.binade := by omega
          rw [if_neg hge, if_pos hlt, hd, hmod]
          have e1 : f.binade + (kept - f.binade) = kept := by omega
          rw [e1]
          congr 1
          simp only [Nat.add_sub_cancel]; omega
    obtain ⟨h1, h2, h3⟩ := hn
    rw [h1]
    exact ⟨h3, by rw [word_mod f s _ (Nat.lt_trans h2 hin)]; exact h2⟩
/-! rounding of a quotient by a power of two -/
theorem cut_even (s : Bool) (n d : Nat) : Toward.even.cut s n d = n / 2 ^ d + (if 2 ^ d < 2 * (n % 2 ^ d) ∨ (2 ^ d = 2 * (n % 2 ^ d) ∧ n / 2 ^ d % 2 = 1) then 1 else 0) := by
  have key : ∀ g : Nat, (let low := n / g; let rest := n % g; low + (decide (g < 2 * rest) || (g == 2 * rest && low % 2 == 1)).toNat) = n / g + (if g < 2 * (n % g) ∨ (g = 2 * (n % g) ∧ n / g % 2 = 1) then 1 else 0) := by
    intro g
    show n / g + _ = _
    congr 1
    by_cases h : g < 2 * (n % g) ∨ (g = 2 * (n % g) ∧ n / g % 2 = 1)
    · rw [if_pos h]
      have : (decide (g < 2 * (n % g)) || (g == 2 * (n % g) && n / g % 2 == 1)) = true := by
        rw [Bool.or_eq_true, Bool.and_eq_true, decide_eq_true_eq, beq_iff_eq, beq_iff_eq]; exact h
      simp only [this]; rfl
    · rw [if_neg h]
      have : (decide (g < 2 * (n % g)) || (g == 2 * (n % g) && n / g % 2 == 1)) = false := by
        rw [← Bool.not_eq_true]
        rw [Bool.or_eq_true, Bool.and_eq_true, decide_eq_true_eq, beq_iff_eq, beq_iff_eq]; exact h
      simp only [this]; rfl
  unfold Toward.cut
  by_cases hd : d ≤ n.log2 + 2
  · rw [Nat.min_eq_left hd, Nat.shiftLeft_eq, Nat.one_mul]
    exact key _
  · rw [Nat.min_eq_right (by omega), Nat.shiftLeft_eq, Nat.one_mul]
    have h1 := Nat.lt_log2_self (n := n)
    have h2 : 2 ^ (n.log2 + 2) = 2 * 2 ^ (n.log2 + 1) := by rw [Nat.pow_succ, Nat.mul_comm]
    have h3 : 2 ^ (n.log2 + 2) ≤ 2 ^ d := Nat.pow_le_pow_right (by decide) (by omega)
    refine (key _).trans ?_
    rw [Nat.div_eq_of_lt (a := n) (b := 2 ^ (n.log2 + 2)) (by omega), Nat.mod_eq_of_lt (a := n) (b := 2 ^ (n.log2 + 2)) (by omega), Nat.div_eq_of_lt (a := n) (b := 2 ^ d) (by omega), Nat.mod_eq_of_lt (a := n) (b := 2 ^ d) (by omega)]
    rw [if_neg (by omega), if_neg (by omega)]

theorem cut_mono (s s' : Bool) {n n' : Nat} (d : Nat) (h : n ≤ n') : Toward.even.cut s n d ≤ Toward.even.cut s' n' d := by
  rw [cut_even, cut_even]
  have hg : 0 < 2 ^ d := Nat.pow_pos (by decide)
  generalize 2 ^ d = g at hg
  have h1 := Nat.div_add_mod n g
  have h2 := Nat.div_add_mod n' g
  have h3 : n / g ≤ n' / g := Nat.div_le_div_right h
  by_cases he : n / g = n' / g
  · rw [he] at h1 ⊢
    have hr : n % g ≤ n' % g := by omega
    split
    · rename_i hc
      split
      · omega
      · rename_i hc2; exfalso; apply hc2; omega
    · omega
  · split <;> split <;> omega

/-- the rung of the nearest word -/
def rung (f : Format) (m : Nat) (e : Int) : Nat :=
  if m = 0 then 0 else
  min ((max (e + m.log2 - f.fractionBits) f.leastPlace - f.leastPlace).toNat * f.binade + Toward.even.cut false (m <<< (e - max (e + m.log2 - f.fractionBits) f.leastPlace).toNat) (max (e + m.log2 - f.fractionBits) f.leastPlace - e).toNat) f.infRung
theorem cut_sign (s s' : Bool) (n d : Nat) : Toward.even.cut s n d = Toward.even.cut s' n d := by rw [cut_even, cut_even]
theorem nearest_rung (f : Format) (s : Bool) (m : Nat) (e : Int) : f.nearest s m e = f.word s (rung f m e) := by
  unfold Format.nearest rung
  by_cases h : m = 0
  · rw [if_pos h, if_pos h]
  · rw [if_neg h, if_neg h]
    simp only []
    rw [cut_sign s false]
theorem rung_shift (f : Format) (m j : Nat) (e : Int) : rung f (m <<< j) (e - j) = rung f m e := by
  have h := nearest_shift f false m j e
  rw [nearest_rung, nearest_rung] at h
  exact h
theorem rung_le_inf (f : Format) (m : Nat) (e : Int) : rung f m e ≤ f.infRung := by
  unfold rung
  split
  · exact Nat.zero_le _
  · exact Nat.min_le_right _ _

theorem log2_mono {m m' : Nat} (h0 : m ≠ 0) (h : m ≤ m') : m.log2 ≤ m'.log2 := by
  have h1 := Nat.log2_self_le h0
  have h3 := Nat.lt_log2_self (n := m')
  have : 2 ^ m.log2 < 2 ^ (m'.log2 + 1) := by omega
  have := (Nat.pow_lt_pow_iff_right (a := 2) (by decide)).1 this
  omega
theorem cut_le_of (s : Bool) {n d K : Nat} (h : n ≤ K <<< d) : Toward.even.cut s n d ≤ K := by
  have := cut_mono s s d h
  rwa [cut_exact] at this
theorem le_cut_of (s : Bool) {n d K : Nat} (h : K <<< d ≤ n) : K ≤ Toward.even.cut s n d := by
  have := cut_mono s s d h
  rwa [cut_exact] at this
theorem rung_mono_place (f : Format) {m m' : Nat} (e : Int) (h : m ≤ m') : rung f m e ≤ rung f m' e := by
  by_cases h0 : m = 0
  · subst h0; unfold rung; rw [if_pos rfl]; exact Nat.zero_le _
  · have h0' : m' ≠ 0 := by omega
    unfold rung
    rw [if_neg h0, if_neg h0']
    have hl := log2_mono h0 h
    have hB : f.binade = 2 ^ f.fractionBits := rfl
    generalize hla : max (e + (m.log2 : Int) - f.fractionBits) f.leastPlace = a
    generalize hlb : max (e + (m'.log2 : Int) - f.fractionBits) f.leastPlace = b
    have hab : a ≤ b := by omega
    have hinf : ∀ x y : Nat, x ≤ y → min x f.infRung ≤ min y f.infRung := by intro x y h; omega
    apply hinf
    by_cases he : a = b
    · subst he
      apply Nat.add_le_add_left
      apply cut_mono
      rw [Nat.shiftLeft_eq, Nat.shiftLeft_eq]
      exact Nat.mul_le_mul_right _ h
    · -- the second lies in a greater binade
      have hub : Toward.even.cut false (m <<< (e - a).toNat) (a - e).toNat ≤ 2 * f.binade := by
        apply cut_le_of
        rw [Nat.shiftLeft_eq, Nat.shiftLeft_eq, hB]
        have h1 := Nat.lt_log2_self (n := m)
        have h4 : m * 2 ^ (e - a).toNat ≤ 2 ^ (m.log2 + 1) * 2 ^ (e - a).toNat := Nat.mul_le_mul_right _ (by omega)
        have h5 : 2 * 2 ^ f.fractionBits * 2 ^ (a - e).toNat = 2 ^ (f.fractionBits + 1 + (a - e).toNat) := by rw [Nat.pow_add, Nat.pow_succ, Nat.mul_comm 2]
        rw [h5]
        rw [← Nat.pow_add] at h4
        refine Nat.le_trans h4 (Nat.pow_le_pow_right (by decide) ?_)
        omega
      have hlbd : f.binade ≤ Toward.even.cut false (m' <<< (e - b).toNat) (b - e).toNat := by
        apply le_cut_of
        rw [Nat.shiftLeft_eq, Nat.shiftLeft_eq, hB]
        have h1 := Nat.log2_self_le h0'
        have h4 : 2 ^ m'.log2 * 2 ^ (e - b).toNat ≤ m' * 2 ^ (e - b).toNat := Nat.mul_le_mul_right _ h1
        refine Nat.le_trans ?_ h4
        rw [← Nat.pow_add, ← Nat.pow_add]
        exact Nat.pow_le_pow_right (by decide) (by omega)
      have hq : (a - f.leastPlace).toNat + 1 ≤ (b - f.leastPlace).toNat := by omega
      have h6 : ((a - f.leastPlace).toNat + 1) * f.binade ≤ (b - f.leastPlace).toNat * f.binade := Nat.mul_le_mul_right _ hq
      rw [Nat.add_mul, Nat.one_mul] at h6
      omega
/-- a greater number has no smaller rung -/
theorem rung_mono (f : Format) {m m' : Nat} {e e' : Int} (E : Int) (h1 : E ≤ e) (h2 : E ≤ e') (h : m <<< (e - E).toNat ≤ m' <<< (e' - E).toNat) : rung f m e ≤ rung f m' e' := by
  rw [← rung_shift f m (e - E).toNat e, ← rung_shift f m' (e' - E).toNat e']
  rw [show e - ((e - E).toNat : Int) = E from by omega, show e' - ((e' - E).toNat : Int) = E from by omega]
  exact rung_mono_place f E h

/-- the number at a rung, in units of the least place -/
def rv (f : Format) (r : Nat) : Nat := if r < f.binade then r else (f.binade + r % f.binade) <<< (r / f.binade - 1)
theorem binade_pos (f : Format) : 0 < f.binade := Nat.pow_pos (by decide)
theorem rv_mono_step (f : Format) (r : Nat) : rv f r < rv f (r + 1) := by
  have hB := binade_pos f
  unfold rv
  by_cases h1 : r + 1 < f.binade
  · rw [if_pos h1, if_pos (by omega)]; omega
  · rw [if_neg h1]
    by_cases h2 : r < f.binade
    · have : r + 1 = f.binade := by omega
      rw [if_pos h2, this, Nat.mod_self, Nat.div_self hB, Nat.sub_self, Nat.shiftLeft_zero]; omega
    · rw [if_neg h2]
      have hd := Nat.div_add_mod r f.binade
      have hlt := Nat.mod_lt r hB
      have hq1 : 1 ≤ r / f.binade := (Nat.le_div_iff_mul_le hB).2 (by omega)
      generalize hq : r / f.binade = q at *
      generalize ht : r % f.binade = t at *
      generalize f.binade = b at *
      by_cases h3 : t + 1 < b
      · have e1 : (r + 1) / b = q := by
          rw [← hd, Nat.add_assoc, Nat.mul_add_div hB, Nat.div_eq_of_lt h3]; omega
        have e2 : (r + 1) % b = t + 1 := by
          rw [← hd, Nat.add_assoc, Nat.mul_add_mod, Nat.mod_eq_of_lt h3]
        rw [e1, e2, Nat.shiftLeft_eq, Nat.shiftLeft_eq]
        exact Nat.mul_lt_mul_of_pos_right (by omega) (Nat.pow_pos (by decide))
      · have h4 : t + 1 = b := by omega
        have e1 : (r + 1) / b = q + 1 := by
          rw [← hd, Nat.add_assoc, h4, ← Nat.mul_succ, Nat.mul_div_cancel_left _ hB]
        have e2 : (r + 1) % b = 0 := by
          rw [← hd, Nat.add_assoc, h4, ← Nat.mul_succ, Nat.mul_mod_right]
        rw [e1, e2, Nat.add_zero, Nat.shiftLeft_eq, Nat.shiftLeft_eq, show q + 1 - 1 = (q - 1) + 1 from by omega, Nat.pow_succ]
        have hp : 0 < 2 ^ (q - 1) := Nat.pow_pos (by decide)
        have e3 : b * (2 ^ (q - 1) * 2) = (b + b) * 2 ^ (q - 1) := by
          rw [Nat.mul_comm (2 ^ (q - 1)) 2, ← Nat.mul_assoc, Nat.mul_two]
        rw [e3]
        exact Nat.mul_lt_mul_of_pos_right (by omega) hp
theorem rv_lt (f : Format) {r r' : Nat} (h : r < r') : rv f r < rv f r' := by
  induction r' with
  | zero => omega
  | succ k ih =>
    by_cases he : r = k
    · subst he; exact rv_mono_step f r
    · exact Nat.lt_trans (ih (by omega)) (rv_mono_step f k)
theorem rv_le (f : Format) {r r' : Nat} (h : r ≤ r') : rv f r ≤ rv f r' := by
  by_cases he : r = r'
  · subst he; exact Nat.le_refl _
  · exact Nat.le_of_lt (rv_lt f (by omega))
theorem le_of_rv (f : Format) {r r' : Nat} (h : rv f r ≤ rv f r') : r ≤ r' := by
  apply Nat.le_of_not_lt
  intro hlt
  have := rv_lt f hlt
  omega

/-- what a finite word stands for -/
theorem read_fin (f : Format) (w : Nat) (h : w % f.signWeight < f.infRung) : ∃ m e, f.read w = .number (w / f.signWeight % 2 == 1) m e ∧ f.leastPlace ≤ e ∧ m <<< (e - f.leastPlace).toNat = rv f (w % f.signWeight) := by
  unfold Format.read rv
  simp only
  by_cases h1 : w % f.signWeight < f.binade
  · rw [if_pos h1, if_pos h1]
    exact ⟨_, _, rfl, Int.le_refl _, by rw [Int.sub_self]; rfl⟩
  · rw [if_neg h1, if_neg h1, if_pos h]
    exact ⟨_, _, rfl, by omega, by congr 1; omega⟩

/-- a rung's own number has that rung -/
theorem rung_rv (f : Format) (r : Nat) (h : r < f.infRung) : rung f (rv f r) f.leastPlace = r := by
  have hB := binade_pos f
  unfold rv
  by_cases h1 : r < f.binade
  · rw [if_pos h1]
    unfold rung
    by_cases h0 : r = 0
    · rw [if_pos h0]; exact h0.symm
    · rw [if_neg h0]
      have hl : r.log2 < f.fractionBits := (Nat.log2_lt h0).2 h1
      rw [show max (f.leastPlace + (r.log2 : Int) - f.fractionBits) f.leastPlace = f.leastPlace from by omega]
      rw [Int.sub_self]
      show min (0 * _ + Toward.even.cut false (r <<< 0) 0) _ = r
      rw [cut_zero, Nat.zero_mul, Nat.shiftLeft_zero]; omega
  · rw [if_neg h1]
    have hd := Nat.div_add_mod r f.binade
    have hlt := Nat.mod_lt r hB
    have hq1 : 1 ≤ r / f.binade := (Nat.le_div_iff_mul_le hB).2 (by omega)
    generalize hq : r / f.binade = q at *
    generalize ht : r % f.binade = t at *
    have h2 := rung_shift f (f.binade + t) (q - 1) (f.leastPlace + ((q - 1 : Nat) : Int))
    rw [show f.leastPlace + ((q - 1 : Nat) : Int) - ((q - 1 : Nat) : Int) = f.leastPlace from by omega] at h2
    rw [h2]
    unfold rung
    have h0 : f.binade + t ≠ 0 := by omega
    have hl : (f.binade + t).log2 = f.fractionBits := by
      rw [Nat.log2_eq_iff h0]
      unfold Format.binade at hlt hB ⊢
      rw [Nat.pow_succ]; omega
    rw [if_neg h0, hl]
    rw [show max (f.leastPlace + ((q - 1 : Nat) : Int) + (f.fractionBits : Int) - f.fractionBits) f.leastPlace = f.leastPlace + ((q - 1 : Nat) : Int) from by omega]
    rw [show f.leastPlace + ((q - 1 : Nat) : Int) - f.leastPlace = ((q - 1 : Nat) : Int) from by omega, Int.sub_self, Int.toNat_natCast]
    show min ((q - 1) * f.binade + Toward.even.cut false ((f.binade + t) <<< 0) 0) f.infRung = r
    rw [cut_zero, Nat.shiftLeft_zero]
    have e1 : (q - 1) * f.binade + (f.binade + t) = r := by
      rw [← hd, ← Nat.add_assoc, ← Nat.succ_mul, Nat.mul_comm]
      congr 2; omega
    rw [e1]; omega

/-- no more than a number of the format: no higher rung -/
theorem rung_le (f : Format) {m R : Nat} {e : Int} (E : Int) (h1 : E ≤ e) (h2 : E ≤ f.leastPlace) (hR : R < f.infRung) (h : m <<< (e - E).toNat ≤ rv f R <<< (f.leastPlace - E).toNat) : rung f m e ≤ R := by
  have := rung_mono f E h1 h2 h
  rwa [rung_rv f R hR] at this
theorem le_rung (f : Format) {m R : Nat} {e : Int} (E : Int) (h1 : E ≤ e) (h2 : E ≤ f.leastPlace) (hR : R < f.infRung) (h : rv f R <<< (f.leastPlace - E).toNat ≤ m <<< (e - E).toNat) : R ≤ rung f m e := by
  have := rung_mono f E h2 h1 h
  rwa [rung_rv f R hR] at this
end Go.Proofs.Ytkbpdgacfeachaa.T
