/-
  Plain: the frame with some bytes; walks: both sides; the law FnExactLoadFrame.
-/
import Derived.Test.YtimdimgihlojcaaFt
namespace Go.Proofs.Ytimdimgihlojcaa.Ab
open Go Go.RowKit
set_option linter.unusedVariables false
set_option linter.unusedSimpArgs false

theorem ext_ext (s : ByteArray) (a b c d : Nat) (h : a + d ≤ b) : (s.extract a b).extract c d = s.extract (a + c) (a + d) := by
  apply byS_inj
  simp only [byS_extract, List.drop_take, List.drop_drop, List.take_take]
  congr 1
  omega
theorem ext_cut (s : ByteArray) {a b c : Nat} (h1 : a ≤ b) (h2 : b ≤ c) : s.extract a b ++ s.extract b c = s.extract a c := by
  apply byS_inj
  rw [byS_app]
  simp only [byS_extract]
  rw [show c - a = (b - a) + (c - b) from by omega, List.take_add, List.drop_drop, show a + (b - a) = b from by omega]
theorem ext_all (s : ByteArray) : s.extract 0 s.size = s := by
  apply byS_inj
  rw [byS_extract, List.drop_zero, Nat.sub_zero, ← byS_len, List.take_length]
theorem sAt_ext2 {s : ByteArray} {i j k : Nat} (h : k < j - i) : sAt (s.extract i j) k = sAt s (i + k) := sAt_ext h
/-! ## the trace at the beginning, cut off -/
theorem utS_cut {t : ByteArray} (h0 : utN (t.extract 0 (utT (utN t))) = utN t) {j : Nat} (hj : j < utK (utN t)) : utS (t.extract 0 (utT (utN t))) j = utS t j := by
  unfold utS
  rw [h0, ext_ext _ _ _ _ _ (by have := utA_mono hj; omega)]
  simp
theorem utL_cut {t : ByteArray} (h0 : utN (t.extract 0 (utT (utN t))) = utN t) : ∀ k, k ≤ utK (utN t) → utL (t.extract 0 (utT (utN t))) k = utL t k
  | 0, _ => rfl
  | k + 1, hk => by unfold utL; rw [utL_cut h0 k (by omega), utS_cut h0 (by omega)]
theorem utO_cut {t : ByteArray} (h0 : utN (t.extract 0 (utT (utN t))) = utN t) : ∀ k, k ≤ utK (utN t) → utO (t.extract 0 (utT (utN t))) k = utO t k
  | 0, _ => rfl
  | k + 1, hk => by unfold utO; rw [utO_cut h0 k (by omega), utS_cut h0 (by omega)]
theorem ut_cut {t : ByteArray} (h1 : 1 ≤ t.size) (h : utT (utN t) ≤ t.size) : utB (t.extract 0 (utT (utN t))) = utP t ∧ utX (t.extract 0 (utT (utN t))) = utX t := by
  have hT : utT (utN t) = 1 + 2 * utN t + (utN t + 7) / 8 := rfl
  have hs : sAt (t.extract 0 (utT (utN t))) 0 = sAt t 0 := sAt_ext2 (by omega)
  have h0 : utN (t.extract 0 (utT (utN t))) = utN t := by
    show (sAt (t.extract 0 (utT (utN t))) 0).toNat = (sAt t 0).toNat
    rw [hs]
  have hz : (t.extract 0 (utT (utN t))).size = utT (utN t) := ext_size (Nat.zero_le _) h
  constructor
  · unfold utB utP
    rw [h0, hz, hs, utO_cut h0 _ (Nat.le_refl _), decide_eq_true (show 1 ≤ t.size from h1), decide_eq_true (show utT (utN t) ≤ t.size from h), decide_eq_true (show 1 ≤ utT (utN t) by omega)]
    simp
  · show utL _ _ = utL _ _
    rw [h0, utL_cut h0 _ (Nat.le_refl _)]
/-! ## packing what was unpacked -/
theorem utO_at {t : ByteArray} : ∀ {k : Nat}, utO t k = true → ∀ j, j < k → ubB (utS t j) = true
  | 0, _, j, hj => absurd hj (by omega)
  | k + 1, h, j, hj => by
    unfold utO at h
    rw [Bool.and_eq_true] at h
    rcases Nat.lt_or_ge j k with h1 | h1
    · exact utO_at h.1 j h1
    · obtain rfl : j = k := by omega
      exact h.2
theorem ub_pk {s : ByteArray} (h : ubB s = true) : pkS (ubL s) = s := by
  unfold ubB at h
  rw [Bool.and_eq_true] at h
  exact of_decide_eq_true h.2
theorem utL_chunk {t : ByteArray} (h : utT (utN t) ≤ t.size) {k : Nat} : ∀ m, k < m → m ≤ utK (utN t) → ((utL t m).drop (8 * k)).take 8 = ubL (utS t k) := by
  have hK : utK (utN t) = (utN t + 7) / 8 := rfl
  have hb : ∀ j, j < utK (utN t) → (ubL (utS t j)).length = min (utN t - 8 * j) 8 := fun j hj => by
    unfold ubL
    rw [tab_len]
    unfold ubC
    rw [utS_size hj h]
    omega
  intro m
  induction m with
  | zero => intro h; omega
  | succ m ih =>
    intro hk hm
    have hl := utL_len h m (by omega)
    show ((utL t m ++ ubL (utS t m)).drop (8 * k)).take 8 = _
    by_cases e : m = k
    · subst e
      rw [List.drop_append_of_le_length (by rw [hl]; omega), List.drop_eq_nil_of_le (by rw [hl]; omega), List.nil_append, List.take_of_length_le (by rw [hb m (by omega)]; omega)]
    · rw [List.drop_append_of_le_length (by rw [hl]; omega), List.take_append_of_le_length (by rw [List.length_drop, hl]; omega)]
      exact ih (by omega) (by omega)
theorem tr_ut {t : ByteArray} (hP : utP t = true) : trS (utX t) = t.extract 0 (utT (utN t)) := by
  have hle := utP_y3 hP
  have hin := utP_in hP
  have hn := utN_eq t
  have hK : utK (utN t) = (utN t + 7) / 8 := rfl
  have hO : utO t (utK (utN t)) = true := by unfold utP at hP; simp at hP; exact hP.2
  have hxl : (utX t).length = utN t := by rw [utX, utL_len hle _ (Nat.le_refl _)]; omega
  have hT : utT (utN t) = 1 + 2 * utN t + (utN t + 7) / 8 := rfl
  have key : ∀ k, k ≤ utK (utN t) → trK (utX t) k = t.extract 0 (utA (utN t) k) := by
    intro k
    induction k with
    | zero =>
      intro _
      apply byS_inj
      rw [trK, hxl, byS_bsS (by intro n hn; simp at hn; omega), byS_extract]
      have h1 : 1 ≤ (byS t).length := by rw [byS_len]; omega
      rw [hn, Int.emod_eq_of_lt (sAt_rng t 0).1 (sAt_rng t 0).2]
      rw [show utA (utN t) 0 - 0 = 1 from by unfold utA; omega]
      show [sAt t 0] = ((byS t).drop 0).take 1
      unfold sAt
      cases hc : byS t with
      | nil => rw [hc] at h1; simp at h1
      | cons x xs => rfl
    | succ k ih =>
      intro hk
      rw [trK, ih (by omega)]
      rw [utX, utL_chunk hle _ (by omega) (Nat.le_refl _), ub_pk (utO_at hO k (by omega))]
      exact ext_cut t (Nat.zero_le _) (by unfold utA; omega)
  unfold trS
  rw [hxl, key _ (Nat.le_refl _), utA_end]
/-! ## the frame -/
def shB (s : ByteArray) : Prop := 10 ≤ s.size ∧ 11 + utT (sAt s 9).toNat = s.size
noncomputable def lfB (s : ByteArray) : Bool := lfP s && decide (lfE s + 2 = s.size)
theorem lfB_n1 {s : ByteArray} (h : lfP s = false) : lfB s = false := by unfold lfB; rw [h]; rfl
theorem lfB_n2 {s : ByteArray} (h : ¬ lfE s + 2 = s.size) : lfB s = false := by unfold lfB; rw [decide_eq_false h]; simp
theorem lfB_y {s : ByteArray} (h : lfP s = true) (h2 : lfE s + 2 = s.size) : lfB s = true := by unfold lfB; rw [h, decide_eq_true h2]; rfl
theorem lf_utN {s : ByteArray} (h : 10 ≤ s.size) : utN (lfR s) = (sAt s 9).toNat := by
  unfold utN lfR
  rw [sAt_ext2 (by omega)]
theorem lfB_shape {s : ByteArray} (h : ¬ shB s) : lfB s = false := by
  by_cases h1 : lfP s = true
  · by_cases h2 : lfE s + 2 = s.size
    · exfalso; apply h
      unfold lfP at h1
      simp at h1
      obtain ⟨h9, _, hu, _⟩ := h1
      have hu1 : 1 ≤ s.size - 9 := by unfold utP at hu; simp at hu; exact hu.1.1.1
      have h10 : 10 ≤ s.size := by omega
      rw [lfE_eq, lf_utN h10] at h2
      exact ⟨h10, by omega⟩
    · exact lfB_n2 h2
  · exact lfB_n1 (by simpa using h1)
/-- the bytes of the trace -/
abbrev lfT (s : ByteArray) : ByteArray := s.extract 9 (s.size - 2)
theorem lf_sub {s : ByteArray} (h : shB s) : utB (lfT s) = utP (lfR s) ∧ utX (lfT s) = lfX s ∧ lfE s + 2 = s.size ∧ (utP (lfR s) = true → trS (lfX s) = lfT s ∧ (lfX s).length = (sAt s 9).toNat) := by
  obtain ⟨h10, hsz⟩ := h
  have hN := lf_utN h10
  have hz : (lfR s).size = s.size - 9 := ext_size (by omega) (Nat.le_refl _)
  have e : lfT s = (lfR s).extract 0 (utT (utN (lfR s))) := by
    rw [lfR, ext_ext _ _ _ _ _ (by rw [← lfR, hN]; omega), ← lfR, hN]
    show s.extract 9 (s.size - 2) = s.extract (9 + 0) _
    congr 1
    omega
  have hc := ut_cut (t := lfR s) (by omega) (by rw [hN]; omega)
  rw [e]
  refine ⟨hc.1, hc.2, by rw [lfE_eq, hN]; omega, fun hP => ⟨tr_ut hP, ?_⟩⟩
  rw [← hN]
  show (utL _ _).length = _
  rw [utL_len (utP_y3 hP) _ (Nat.le_refl _)]
  unfold utK; omega
theorem byS_at {s : ByteArray} {i : Nat} (h : i < s.size) : (byS s).drop i = sAt s i :: (byS s).drop (i + 1) := by
  have hl : i < (byS s).length := by rw [byS_len]; exact h
  rw [List.drop_eq_getElem_cons hl]
  congr 1
  unfold sAt
  rw [List.getD_eq_getElem?_getD, List.getElem?_eq_getElem hl]; rfl
theorem hd_eq (s : ByteArray) (h : 9 ≤ s.size) : bsS (fsH (sAt s 4) (lfD s)) = hdS ++ s.extract 4 9 := by
  have h4 := sAt_rng s 4
  have h5 := sAt_rng s 5
  have h6 := sAt_rng s 6
  have h7 := sAt_rng s 7
  have h8 := sAt_rng s 8
  have hD := lfD_eq s
  apply byS_inj
  rw [byS_bsS (by intro n hn; simp [fsH] at hn; omega), byS_app, byS_extract, byS_at (by omega), byS_at (by omega), byS_at (by omega), byS_at (by omega), byS_at (by omega)]
  have e1 : sAt s 4 % 256 = sAt s 4 := by omega
  have e2 : lfD s % 256 % 256 = sAt s 5 := by omega
  have e3 : lfD s / 256 % 256 % 256 = sAt s 6 := by omega
  have e4 : lfD s / 65536 % 256 % 256 = sAt s 7 := by omega
  have e5 : lfD s / 16777216 % 256 = sAt s 8 := by omega
  unfold fsH
  rw [e1, e2, e3, e4, e5]
  rfl
theorem app_inj {a b c d : ByteArray} (h : a.size = c.size) (e : a ++ b = c ++ d) : a = c ∧ b = d := by
  have := congrArg byS e
  rw [byS_app, byS_app] at this
  obtain ⟨h1, h2⟩ := List.append_inj this (by rw [byS_len, byS_len, h])
  exact ⟨byS_inj h1, byS_inj h2⟩
theorem hdS_size : hdS.size = 4 := rfl
theorem lf_store {s : ByteArray} (h : shB s) (hP : utP (lfR s) = true) :
    fsS (sAt s 4) (lfD s) (lfX s) = s ↔ hpB s hdS = true ∧ hpB (s.extract (lfE s) s.size) (ckS (s.extract 0 (lfE s))) = true := by
  obtain ⟨_, _, hE, hT⟩ := lf_sub h
  obtain ⟨hT, hl⟩ := hT hP
  obtain ⟨h10, hsz⟩ := h
  have hut : utT (sAt s 9).toNat = 1 + 2 * (sAt s 9).toNat + ((sAt s 9).toNat + 7) / 8 := rfl
  have hE2 : lfE s = s.size - 2 := by omega
  have hO : fsO (sAt s 4) (lfD s) (lfX s) = hdS ++ s.extract 4 (lfE s) := by
    unfold fsO
    rw [hT, hd_eq s (by omega), ByteArray.append_assoc, lfT, ← hE2, ext_cut s (by omega) (by omega)]
  have hs : s = s.extract 0 4 ++ s.extract 4 (lfE s) ++ s.extract (lfE s) s.size := by
    rw [ext_cut s (by omega) (by omega), ext_cut s (by omega) (by omega), ext_all]
  have h4 : (s.extract 0 4).size = 4 := ext_size (by omega) (by omega)
  have h5 : (s.extract (lfE s) s.size).size = 2 := by rw [ext_size (by omega) (Nat.le_refl _)]; omega
  have hall : (s.extract (lfE s) s.size).extract 0 2 = s.extract (lfE s) s.size := by
    conv => rhs; rw [← ext_all (s.extract (lfE s) s.size), h5]
  have g1 : hpB s hdS = decide (s.extract 0 4 = hdS) := by
    unfold hpB
    rw [hdS_size, decide_eq_true (show 4 ≤ s.size by omega), Bool.true_and]
  have g2 : hpB (s.extract (lfE s) s.size) (ckS (s.extract 0 (lfE s))) = decide (s.extract (lfE s) s.size = ckS (s.extract 0 (lfE s))) := by
    unfold hpB
    rw [ckS_size, h5, decide_eq_true (Nat.le_refl 2), Bool.true_and, hall]
  rw [g1, g2, decide_eq_true_eq, decide_eq_true_eq]
  unfold fsS
  rw [hO]
  constructor
  · intro e
    rw [ByteArray.append_assoc] at e
    have e' := e.trans (hs.trans (ByteArray.append_assoc))
    obtain ⟨k1, k2⟩ := app_inj (by rw [h4]; rfl) e'
    obtain ⟨k3, k4⟩ := app_inj rfl k2
    refine ⟨k1.symm, ?_⟩
    rw [← k4, k1, ext_cut s (by omega) (by omega)]
  · rintro ⟨k1, k2⟩
    rw [← k1, ext_cut s (by omega) (by omega), ← k2, ext_cut s (by omega) (by omega), ext_all]
theorem lfB_spec {s : ByteArray} (h : shB s) : lfB s = (utB (lfT s) && (vfB (sAt s 4) (lfD s) (lfX s) && decide (fsS (sAt s 4) (lfD s) (lfX s) = s))) := by
  obtain ⟨h1, h2, hE, _⟩ := lf_sub h
  unfold lfB
  rw [h1, decide_eq_true hE, Bool.and_true]
  unfold lfP
  rw [decide_eq_true (show 9 ≤ s.size by have := h.1; omega), Bool.true_and]
  cases hP : utP (lfR s) with
  | false => simp
  | true =>
    cases hv : vfB (sAt s 4) (lfD s) (lfX s) with
    | false => simp
    | true =>
      have := lf_store h hP
      rw [Bool.eq_iff_iff]
      simp only [Bool.and_eq_true, decide_eq_true_eq, Bool.true_and, this]
end Go.Proofs.Ytimdimgihlojcaa.Ab
