/-
  Walks: gathers with an event.
-/
import Derived.Test.YtbhkeejmaomaaaaGd
namespace Go.Proofs.Ytbhkeejmaomaaaa.Ab
open Go Go.RowKit
attribute [local irreducible] Run Then InBlock LoopQ LQ1 LQ2 LQ3 LQ4 LQ5 LQ6 AWp Ret ACall
set_option linter.unusedVariables false
set_option linter.unusedSimpArgs false

/-! ## numbers that are not negative -/
abbrev NnF (x : Nat) : Prop := nanB .f32 x = true ∨ FloatKind.f32.decode x = .infinity false ∨ ∃ c, sv .f32 x = some c ∧ 0 ≤ c
theorem near_nn (m : Nat) (e : Int) : NnF (cb .f32 (FloatKind.f32.format.nearest false m e)) := by
  rcases Nat.lt_or_ge (T.rung FloatKind.f32.format m e) FloatKind.f32.format.infRung with hi | hi
  · have h := sv_near (k := .f32) (s := false) hi
    refine .inr (.inr ⟨_, by rw [sv_cb h]; exact h, ?_⟩)
    unfold Ieee.signed
    simp only [Bool.false_eq_true, if_false]
    exact Int.natCast_nonneg _
  · have : T.rung FloatKind.f32.format m e = FloatKind.f32.format.infRung := Nat.le_antisymm (T.rung_le_inf _ _ _) hi
    have h : FloatKind.f32.decode (FloatKind.f32.format.nearest false m e) = .infinity false := by rw [T.nearest_rung, this]; decide
    exact .inr (.inl (by rw [cb_notnan (by unfold nanB; rw [h]; rfl)]; exact h))
theorem sgn_nn (m u : Nat) : 0 ≤ Ieee.signed false m u := by
  unfold Ieee.signed
  simp only [Bool.false_eq_true, if_false]
  exact Int.natCast_nonneg _
theorem half_dec : FloatKind.f32.decode 1056964608 = .number false 8388608 (-24) := by decide
theorem nn_half {x : Nat} (h : NnF x) : NnF (fadd .f32 x 1056964608) := by
  rcases h with h | h | ⟨c, hc, h0⟩
  · left
    have e : fadd .f32 x 1056964608 = qn .f32 := by
      show fop .add .f32 x 1056964608 = _
      unfold fop; rw [floatBits_nan_left h]
    rw [e]; decide
  · right; left
    have h' : FloatKind.f32.format.read x = .infinity false := h
    have g' : FloatKind.f32.format.read 1056964608 = .number false 8388608 (-24) := half_dec
    have : floatBits .add .f32 x 1056964608 = some (FloatKind.f32.format.write (.infinity false)) := by
      show FloatKind.f32.format.add x 1056964608 = _
      unfold Ieee.Format.add; rw [h', g']; rfl
    show FloatKind.f32.decode (fop .add .f32 x 1056964608) = _
    unfold fop; rw [this]; decide
  · obtain ⟨s, m, i, h1, h2, rfl⟩ := sv_dec hc
    have h' : FloatKind.f32.format.read x = .number s m i := h1
    have g' : FloatKind.f32.format.read 1056964608 = .number false 8388608 (-24) := half_dec
    have hs : 0 ≤ Ieee.signed s m (i - min i (-24)).toNat := by
      have e : (i + 1074).toNat = (i - min i (-24)).toNat + (min i (-24) + 1074).toNat := by omega
      rw [e, signed_mul] at h0
      have hp : (0 : Int) < ((2 ^ (min i (-24) + 1074).toNat : Nat) : Int) := Int.natCast_pos.2 (Nat.pow_pos (by decide))
      rcases Int.lt_or_le (Ieee.signed s m (i - min i (-24)).toNat) 0 with hl | hl
      · have := Int.mul_neg_of_neg_of_pos hl hp
        omega
      · exact hl
    have ht : 0 ≤ Ieee.signed false 8388608 (-24 - min i (-24)).toNat := sgn_nn _ _
    have : floatBits .add .f32 x 1056964608 = some (FloatKind.f32.format.nearest false (Ieee.signed s m (i - min i (-24)).toNat + Ieee.signed false 8388608 (-24 - min i (-24)).toNat).natAbs (min i (-24))) := by
      show FloatKind.f32.format.add x 1056964608 = _
      unfold Ieee.Format.add; rw [h', g']
      have hsg : (if Ieee.signed s m (i - min i (-24)).toNat + Ieee.signed false 8388608 (-24 - min i (-24)).toNat = 0 then s && false else decide (Ieee.signed s m (i - min i (-24)).toNat + Ieee.signed false 8388608 (-24 - min i (-24)).toNat < 0)) = false := by
        split
        · simp
        · simp; omega
      have := congrArg (fun b => some (FloatKind.f32.format.write (.number b (Ieee.signed s m (i - min i (-24)).toNat + Ieee.signed false 8388608 (-24 - min i (-24)).toNat).natAbs (min i (-24))))) hsg
      exact this
    show NnF (fop .add .f32 x 1056964608)
    unfold fop; rw [this]
    exact near_nn _ _
theorem fl_n {x : Nat} {d : Int} (hx : NnF x) (hd : 1 ≤ d ∧ d ≤ 1000) (h : fcmp .lss .f64 (fint .down (fwid x)) (fofint .f64 d) = true) : sv .f64 (fint .down (fwid x)) = some (wI (fint .down (fwid x)) * PU) ∧ 0 ≤ wI (fint .down (fwid x)) ∧ wI (fint .down (fwid x)) < d := by
  have hsd := sv_fofint (k := .f64) (n := d) (by omega)
  revert h
  rcases hx with hn | hi | ⟨c, hc, h0⟩
  · intro h
    exfalso
    have e : fint .down (fwid x) = qn .f64 := by
      rw [fwid_none (nan_widen hn)]; decide
    rw [e, nan_lss (by decide)] at h
    cases h
  · intro h
    exfalso
    have e : FloatKind.f64.decode (fint .down (fwid x)) = .infinity false := by
      rw [fwid_inf hi]; decide
    rw [inf_lss e hsd] at h
    cases h
  · intro h
    have hw := sv_fwid hc
    have hp : (0 : Int) < (PU : Nat) := by exact_mod_cast PU_pos
    by_cases hbig : c.natAbs ≤ 8388608 * PU
    · obtain ⟨n, n1, n2, n3, n4, n5⟩ := sv_floor hw (Q := 8388608) (by decide) hbig
      have hwn : wI (fint .down (fwid x)) = n := wI_sv n1
      rw [whole_lss n1 (by omega)] at h
      have hn0 : 0 ≤ n := by
        have : 0 < (n + 1) * (PU : Nat) := Int.lt_of_le_of_lt h0 n3
        have := Int.pos_of_mul_pos_left this hp
        omega
      rw [hwn]
      exact ⟨n1, hn0, by simpa using h⟩
    · exfalso
      obtain ⟨s, m, n, f1, f2, f3, f4⟩ := floor_num hw
      have hgt : (8388608 : Int) * (PU : Nat) < (n + 1) * (PU : Nat) := by
        have e : ((8388608 * PU : Nat) : Int) = (8388608 : Int) * (PU : Nat) := Int.natCast_mul _ _
        omega
      have hn : 8388608 ≤ n := by have := Int.lt_of_mul_lt_mul_right hgt (Int.le_of_lt hp); omega
      cases s with
      | true => simp at f2; omega
      | false =>
        simp at f2
        have hm : 8388608 ≤ m := by omega
        rcases near_ge (m := m) (rep_int (k := .f64) (n := 8388608) (by decide)) (Nat.mul_le_mul_right _ hm) with ⟨c', g1, g2⟩ | g
        · have f3' : sv .f64 (fint .down (fwid x)) = some c' := by rw [f1, sv_cb g1]; exact g1
          rw [lss_sv f3' hsd] at h
          have h' : c' < d * (PU : Nat) := by simpa using h
          have e : ((8388608 * PU : Nat) : Int) = (8388608 : Int) * (PU : Nat) := Int.natCast_mul _ _
          have : (8388608 : Int) * (PU : Nat) < d * (PU : Nat) := by omega
          have := Int.lt_of_mul_lt_mul_right this (Int.le_of_lt hp)
          omega
        · have f3' : FloatKind.f64.decode (fint .down (fwid x)) = .infinity false := by
            rw [f1, cb_notnan]
            · exact g
            · unfold nanB; rw [g]; rfl
          rw [inf_lss f3' hsd] at h
          cases h
/-! ## events -/
abbrev evW (start place speed : Nat) : Nat := fint .down (fwid (fadd .f32 (cvF start place speed) 1056964608))
abbrev evT (n start place speed : Nat) : Bool := fcmp .lss .f64 (evW start place speed) (fofint .f64 (n : Nat))
theorem ev_n {n start place speed : Nat} (hn : 1 ≤ (n : Int) ∧ (n : Int) ≤ 64) (h : evT n start place speed = true) : sv .f64 (evW start place speed) = some (wI (evW start place speed) * PU) ∧ 0 ≤ wI (evW start place speed) ∧ wI (evW start place speed) < n :=
  fl_n (nn_half (sqr_cases _).2) ⟨hn.1, by omega⟩ h
def evF (xs : List Nat) (start place speed size : Nat) : List Nat :=
  if evT xs.length start place speed = true then xs.set (wI (evW start place speed)).toNat (fadd .f32 (xs.getD (wI (evW start place speed)).toNat 0) size) else xs
theorem evF_yes {xs : List Nat} {start place speed size : Nat} (h : evT xs.length start place speed = true) : evF xs start place speed size = xs.set (wI (evW start place speed)).toNat (fadd .f32 (xs.getD (wI (evW start place speed)).toNat 0) size) := by unfold evF; rw [if_pos h]
theorem evF_no {xs : List Nat} {start place speed size : Nat} (h : evT xs.length start place speed = false) : evF xs start place speed size = xs := by unfold evF; rw [if_neg (by rw [h]; decide)]
theorem evF_len (xs : List Nat) (start place speed size : Nat) : (evF xs start place speed size).length = xs.length := by unfold evF; split <;> simp
abbrev evG (ps : List Nat) (xss : List (List Nat)) (start speed size : Nat) : Nat → List Nat := fun i => evF (xss.getD i []) start (ps.getD i 0) speed size
abbrev evB (t : Int) (ps : List Nat) (xss : List (List Nat)) (start speed : Nat) : Bool := vgB t ps xss && nnB start && poB speed
-- @reg spec.l02Way : c_l02Way _ _
theorem c_l02Way (x : Nat) (M : Mem) : ACall Try.prog 77 [.float .f32 x] M fun v M' => v = .bool (nnB x) ∧ M' = M := by
  unfold nnB
  refine acall_of_awp Try.func77 rfl Try.ntmps77 rfl ?_
  refine cS (cR ?_)
  refine asg rfl ?_
  refine rN ?_
  refine qN ?_
  refine cS (cR ?_)
  refine mv rfl ?_
  refine rCq rfl (c_l01Finite _ _) ?_
  refine mv rfl ?_
  refine gC rfl rfl (fun c1 => ?_) (fun c1 => ?_)
  · have c1' := c1; try simp only [inB_iff, Bool.and_eq_true, decide_eq_true_eq, decide_eq_false_iff_not, beq_iff_eq, beq_eq_false_iff_ne, bne_iff_ne, bne_eq_false_iff_eq, ne_eq] at c1'
    refine gG rfl rfl c1 ?_
    refine mv rfl ?_
    refine gG rfl rfl c1 ?_
    refine fCm rfl rfl rfl ?_
    refine kT rfl c1 rfl ?_
    refine asg rfl ?_
    refine rN ?_
    refine qN ?_
    refine cE ?_
    refine kE rfl rfl  ?_
    first | (exfalso; contradiction) | exact ⟨_, ⟨rfl, rfl⟩, (by (try simp only [List.cons_append, List.nil_append, List.append_assoc]); repeat' first | with_reducible apply eR | with_reducible apply eA | ((with_reducible apply xA); · repeat first | with_reducible apply lH | with_reducible apply lT | with_reducible apply lL) | ((with_reducible apply xC); · repeat first | apply pH | with_reducible apply pT | with_reducible apply pL) | with_reducible assumption | with_reducible apply eS | with_reducible apply eL | exact eR)⟩ | exact ⟨_, ⟨by first | (simp_all; done) | (simp_all; intros; omega), rfl⟩, (by (try simp only [List.cons_append, List.nil_append, List.append_assoc]); repeat' first | with_reducible apply eR | with_reducible apply eA | ((with_reducible apply xA); · repeat first | with_reducible apply lH | with_reducible apply lT | with_reducible apply lL) | ((with_reducible apply xC); · repeat first | apply pH | with_reducible apply pT | with_reducible apply pL) | with_reducible assumption | with_reducible apply eS | with_reducible apply eL | exact eR)⟩ | (exfalso; first | contradiction | omega | (simp_all; done) | (simp_all; omega))
  · have c1' := c1; try simp only [inB_iff, Bool.and_eq_true, decide_eq_true_eq, decide_eq_false_iff_not, beq_iff_eq, beq_eq_false_iff_ne, bne_iff_ne, bne_eq_false_iff_eq, ne_eq] at c1'
    refine gS rfl rfl c1 ?_
    refine gS rfl rfl c1 ?_
    refine kF rfl c1 rfl ?_
    refine asg rfl ?_
    refine rN ?_
    refine qN ?_
    refine cE ?_
    refine kE rfl rfl  ?_
    first | (exfalso; contradiction) | exact ⟨_, ⟨rfl, rfl⟩, (by (try simp only [List.cons_append, List.nil_append, List.append_assoc]); repeat' first | with_reducible apply eR | with_reducible apply eA | ((with_reducible apply xA); · repeat first | with_reducible apply lH | with_reducible apply lT | with_reducible apply lL) | ((with_reducible apply xC); · repeat first | apply pH | with_reducible apply pT | with_reducible apply pL) | with_reducible assumption | with_reducible apply eS | with_reducible apply eL | exact eR)⟩ | exact ⟨_, ⟨by first | (simp_all; done) | (simp_all; intros; omega), rfl⟩, (by (try simp only [List.cons_append, List.nil_append, List.append_assoc]); repeat' first | with_reducible apply eR | with_reducible apply eA | ((with_reducible apply xA); · repeat first | with_reducible apply lH | with_reducible apply lT | with_reducible apply lL) | ((with_reducible apply xC); · repeat first | apply pH | with_reducible apply pT | with_reducible apply pL) | with_reducible assumption | with_reducible apply eS | with_reducible apply eL | exact eR)⟩ | (exfalso; first | contradiction | omega | (simp_all; done) | (simp_all; omega))
theorem c_AddEvent1 (b b' b'' : Nat) (wr wr' wr'' : Bool) (a : Option Addr) (n c : Nat) (start speed size place : Nat) (xs : List Nat) (M : Mem) (hm : (b, (⟨[.float .f32 start], wr⟩ : Blk)) ∈ M) (hm' : (b', (⟨[.float .f32 speed], wr'⟩ : Blk)) ∈ M) (hm'' : (b'', (⟨[.float .f32 size], wr''⟩ : Blk)) ∈ M) (h : RdF M a n xs) (hn : 1 ≤ (n : Int) ∧ (n : Int) ≤ 64) :
    ACall Try.prog 81 [.slice a n c, .float .f32 place, .pointer (some ⟨b, 0, none⟩), .pointer (some ⟨b', 0, none⟩), .pointer (some ⟨b'', 0, none⟩)] M fun v M' => ∃ L, OwF L v (evF xs start place speed size) ∧ M' = L ++ M := by
  obtain ⟨rfl, _⟩ := id h
  refine acall_of_awp Try.func81 rfl Try.ntmps81 rfl ?_
  refine cS (cR ?_)
  refine asg rfl ?_
  refine rN ?_
  refine qN ?_
  refine cS (cR ?_)
  refine mv rfl ?_
  refine rC rfl (c_clone _ _ _ _ _ (by first | with_reducible assumption | ((try first | with_reducible apply RdF.sub | with_reducible apply RdF.sub0) <;> first | with_reducible assumption | (apply RdF.mono; (· (with_reducible assumption)); · (try simp only [List.cons_append, List.nil_append, List.append_assoc]); repeat' first | with_reducible apply eR | with_reducible apply eA | ((with_reducible apply xA); · repeat first | with_reducible apply lH | with_reducible apply lT | with_reducible apply lL) | ((with_reducible apply xC); · repeat first | apply pH | with_reducible apply pT | with_reducible apply pL) | with_reducible assumption | with_reducible apply eS | with_reducible apply eL | exact eR) | (apply RdF.mono; (· (apply OwF.rdF; with_reducible assumption)); · (try simp only [List.cons_append, List.nil_append, List.append_assoc]); repeat' first | with_reducible apply eR | with_reducible apply eA | ((with_reducible apply xA); · repeat first | with_reducible apply lH | with_reducible apply lT | with_reducible apply lL) | ((with_reducible apply xC); · repeat first | apply pH | with_reducible apply pT | with_reducible apply pL) | with_reducible assumption | with_reducible apply eS | with_reducible apply eL | exact eR) | (apply RdF.ownm; (· repeat first | with_reducible assumption | with_reducible apply List.mem_cons_self | with_reducible apply List.mem_cons_of_mem | with_reducible apply List.mem_append_right | exact List.Mem.head _); · first | rfl | with_reducible assumption | omega | simp [*]) | with_reducible assumption | omega | (simp; done) | (simp; omega) | (simp only [Bool.and_eq_true, inB_iff] at *; omega))) (by first | with_reducible assumption | omega | (simp only [Bool.and_eq_true, inB_iff] at *; omega))) ?_
  rintro sv1 _ ⟨lk1, how1, rfl⟩
  obtain ⟨ad1, cn1, rfl, hrd1⟩ := how1.rd
  have hcn1 := how1.capl
  refine ⟨fun _ => eL eR, ?_⟩
  refine asg rfl ?_
  refine rN ?_
  refine qN ?_
  refine cS ?_
  refine cS (cR ?_)
  first | refine rL rfl (by repeat first | with_reducible assumption | with_reducible apply List.mem_cons_self | with_reducible apply List.mem_cons_of_mem | with_reducible apply List.mem_append_right | exact List.Mem.head _) rfl rfl ?_ | refine rL rfl (by repeat first | with_reducible assumption | with_reducible apply List.mem_cons_self | with_reducible apply List.mem_cons_of_mem | with_reducible apply List.mem_append_right | exact List.Mem.head _) (by with_reducible assumption) rfl ?_
  refine mv rfl ?_
  first | refine rL rfl (by repeat first | with_reducible assumption | with_reducible apply List.mem_cons_self | with_reducible apply List.mem_cons_of_mem | with_reducible apply List.mem_append_right | exact List.Mem.head _) rfl rfl ?_ | refine rL rfl (by repeat first | with_reducible assumption | with_reducible apply List.mem_cons_self | with_reducible apply List.mem_cons_of_mem | with_reducible apply List.mem_append_right | exact List.Mem.head _) (by with_reducible assumption) rfl ?_
  refine rCq rfl (c_curve _ _ _ _) ?_
  refine fAd rfl rfl ?_
  refine rW rfl ?_
  refine rCq rfl (c_Floor _ _) ?_
  refine asg rfl ?_
  refine rN ?_
  refine qN ?_
  refine cS (cR ?_)
  refine mv rfl ?_
  refine mv rfl ?_
  refine ln rfl ?_
  refine rp rfl ?_
  refine fCm rfl rfl rfl ?_
  refine rN ?_
  refine qN ?_
  refine cC rfl (fun hr => ?_) (fun hr => ?_)
  · have hr' := hr; try simp only [inB_iff, Bool.and_eq_true, decide_eq_true_eq, decide_eq_false_iff_not, beq_iff_eq, beq_eq_false_iff_ne, bne_iff_ne, bne_eq_false_iff_eq, ne_eq] at hr'
    obtain ⟨k1, k2, k3⟩ := ev_n hn hr
    refine cD [] [(0, true), (1, true), (2, true), (3, true), (4, true), (5, false), (6, false), (7, false), (8, false)] (by repeat first | exact fineT | exact fineL | exact fineLQ1 | exact fineLQ2 | exact fineLQ3 | exact fineLQ4 | exact fineLQ5 | exact fineLQ6 | exact fineR | refine fineB ?_) (by kernel_rfl) ?_
    simp only [pick, List.getElem?_toArray, List.getElem?_cons_zero, List.getElem?_cons_succ]
    refine mv rfl ?_
    refine mv rfl ?_
    refine rFI rfl (by with_reducible assumption) (by omega) ?_
    first
      | refine ixN rfl rfl (by first | exact AOk.own | (apply RdD.aok; with_reducible assumption) | (apply RdD.aok; apply OwD.rdD; with_reducible assumption) | (apply RdI.aok; with_reducible assumption) | (apply RdW.aok; with_reducible assumption) | (apply RdI.aok; apply OwI.rdI; with_reducible assumption) | with_reducible assumption | (apply RdF.aok; with_reducible assumption) | (apply RdF.aok; apply OwF.rdF; with_reducible assumption)) (by first | with_reducible assumption | omega) ?_
      | refine ixI rfl rfl (by first | exact AOk.own | (apply RdD.aok; with_reducible assumption) | (apply RdD.aok; apply OwD.rdD; with_reducible assumption) | (apply RdI.aok; with_reducible assumption) | (apply RdW.aok; with_reducible assumption) | (apply RdI.aok; apply OwI.rdI; with_reducible assumption) | with_reducible assumption | (apply RdF.aok; with_reducible assumption) | (apply RdF.aok; apply OwF.rdF; with_reducible assumption)) (by omega) (by omega) ?_
    refine ldF rfl (by first | with_reducible assumption | ((try first | with_reducible apply RdF.sub | with_reducible apply RdF.sub0) <;> first | with_reducible assumption | (apply RdF.mono; (· (with_reducible assumption)); · (try simp only [List.cons_append, List.nil_append, List.append_assoc]); repeat' first | with_reducible apply eR | with_reducible apply eA | ((with_reducible apply xA); · repeat first | with_reducible apply lH | with_reducible apply lT | with_reducible apply lL) | ((with_reducible apply xC); · repeat first | apply pH | with_reducible apply pT | with_reducible apply pL) | with_reducible assumption | with_reducible apply eS | with_reducible apply eL | exact eR) | (apply RdF.mono; (· (apply OwF.rdF; with_reducible assumption)); · (try simp only [List.cons_append, List.nil_append, List.append_assoc]); repeat' first | with_reducible apply eR | with_reducible apply eA | ((with_reducible apply xA); · repeat first | with_reducible apply lH | with_reducible apply lT | with_reducible apply lL) | ((with_reducible apply xC); · repeat first | apply pH | with_reducible apply pT | with_reducible apply pL) | with_reducible assumption | with_reducible apply eS | with_reducible apply eL | exact eR) | (apply RdF.ownm; (· repeat first | with_reducible assumption | with_reducible apply List.mem_cons_self | with_reducible apply List.mem_cons_of_mem | with_reducible apply List.mem_append_right | exact List.Mem.head _); · first | rfl | with_reducible assumption | omega | simp [*]) | with_reducible assumption | omega | (simp; done) | (simp; omega) | (simp only [Bool.and_eq_true, inB_iff] at *; omega))) (by first | with_reducible assumption | omega) ?_
    first | refine rL rfl (by repeat first | with_reducible assumption | with_reducible apply List.mem_cons_self | with_reducible apply List.mem_cons_of_mem | with_reducible apply List.mem_append_right | exact List.Mem.head _) rfl rfl ?_ | refine rL rfl (by repeat first | with_reducible assumption | with_reducible apply List.mem_cons_self | with_reducible apply List.mem_cons_of_mem | with_reducible apply List.mem_append_right | exact List.Mem.head _) (by with_reducible assumption) rfl ?_
    refine fAd rfl rfl ?_
    first
      | refine ixN rfl rfl (by first | exact AOk.own | (apply RdD.aok; with_reducible assumption) | (apply RdD.aok; apply OwD.rdD; with_reducible assumption) | (apply RdI.aok; with_reducible assumption) | (apply RdW.aok; with_reducible assumption) | (apply RdI.aok; apply OwI.rdI; with_reducible assumption) | with_reducible assumption | (apply RdF.aok; with_reducible assumption) | (apply RdF.aok; apply OwF.rdF; with_reducible assumption)) (by first | with_reducible assumption | omega) ?_
      | refine ixI rfl rfl (by first | exact AOk.own | (apply RdD.aok; with_reducible assumption) | (apply RdD.aok; apply OwD.rdD; with_reducible assumption) | (apply RdI.aok; with_reducible assumption) | (apply RdW.aok; with_reducible assumption) | (apply RdI.aok; apply OwI.rdI; with_reducible assumption) | with_reducible assumption | (apply RdF.aok; with_reducible assumption) | (apply RdF.aok; apply OwF.rdF; with_reducible assumption)) (by omega) (by omega) ?_
    first
      | (refine tO rfl rfl (by with_reducible assumption) (by repeat first | with_reducible apply lH | with_reducible apply lT | with_reducible apply lL) (by first | with_reducible assumption | omega) ?_; intro lk2 how2)
      | refine stF 0 rfl rfl rfl (by first | with_reducible assumption | omega) ?_
      | refine stF 1 rfl rfl rfl (by first | with_reducible assumption | omega) ?_
      | refine stF 2 rfl rfl rfl (by first | with_reducible assumption | omega) ?_
      | refine stF 3 rfl rfl rfl (by first | with_reducible assumption | omega) ?_
    refine rN ?_
    refine qN ?_
    refine cS (cR ?_)
    refine mv rfl ?_
    refine asg rfl ?_
    refine rN ?_
    refine qN ?_
    refine cE ?_
    refine kE rfl rfl  ?_
    first | (exfalso; contradiction) | exact ⟨_, ⟨_, by rw [evF_yes hr]; assumption, rfl⟩, (by (try simp only [List.cons_append, List.nil_append, List.append_assoc]); repeat' first | with_reducible apply eR | with_reducible apply eA | ((with_reducible apply xA); · repeat first | with_reducible apply lH | with_reducible apply lT | with_reducible apply lL) | ((with_reducible apply xC); · repeat first | apply pH | with_reducible apply pT | with_reducible apply pL) | with_reducible assumption | with_reducible apply eS | with_reducible apply eL | exact eR)⟩ | (exfalso; first | contradiction | omega | (simp_all; done) | (simp_all; omega))
  · have hr' := hr; try simp only [inB_iff, Bool.and_eq_true, decide_eq_true_eq, decide_eq_false_iff_not, beq_iff_eq, beq_eq_false_iff_ne, bne_iff_ne, bne_eq_false_iff_eq, ne_eq] at hr'
    refine cK ?_
    refine qN ?_
    refine cS (cR ?_)
    refine mv rfl ?_
    refine asg rfl ?_
    refine rN ?_
    refine qN ?_
    refine cE ?_
    refine kE rfl rfl  ?_
    first | (exfalso; contradiction) | exact ⟨_, ⟨_, by rw [evF_no hr]; assumption, rfl⟩, (by (try simp only [List.cons_append, List.nil_append, List.append_assoc]); repeat' first | with_reducible apply eR | with_reducible apply eA | ((with_reducible apply xA); · repeat first | with_reducible apply lH | with_reducible apply lT | with_reducible apply lL) | ((with_reducible apply xC); · repeat first | apply pH | with_reducible apply pT | with_reducible apply pL) | with_reducible assumption | with_reducible apply eS | with_reducible apply eL | exact eR)⟩ | (exfalso; first | contradiction | omega | (simp_all; done) | (simp_all; omega))
theorem c_implAddEvent (t : Int) (ap at' : Option Addr) (np nt cq ct : Nat) (ps : List Nat) (xss : List (List Nat)) (start speed size : Nat) (M : Mem) (h : RdF M ap np ps) (h' : RdD M at' nt xss) (hn : np ≤ 1073741824 ∧ nt ≤ 1073741824) :
    ACall Try.prog 36 [.agg #[.int .i64 t, .slice ap np cq, .slice at' nt ct], .float .f32 start, .float .f32 speed, .float .f32 size] M fun v M' => ∃ L, ResG (evB t ps xss start speed) t ps (tabL xss.length (evG ps xss start speed size)) v L ∧ M' = L ++ M := by
  obtain ⟨rfl, _⟩ := id h
  obtain ⟨rfl, _⟩ := id h'
  obtain ⟨hn1, hn2⟩ := hn
  skip
  refine acall_of_awp Try.func36 rfl Try.ntmps36 rfl ?_
  refine cS (cR ?_)
  first | (refine rXa rfl ?_; intro bk1) | (refine rX rfl rfl ?_; intro bk1)
  first | (refine rXa rfl ?_; intro bk2) | (refine rX rfl rfl ?_; intro bk2)
  first | (refine rXa rfl ?_; intro bk3) | (refine rX rfl rfl ?_; intro bk3)
  first | (refine rXa rfl ?_; intro bk4) | (refine rX rfl rfl ?_; intro bk4)
  refine rO ?_; intro bk5
  refine asg rfl ?_
  refine rN ?_
  refine qN ?_
  refine cS ?_
  refine cS (cR ?_)
  refine rLA rfl (by repeat first | with_reducible assumption | with_reducible apply List.mem_cons_self | with_reducible apply List.mem_cons_of_mem | with_reducible apply List.mem_append_right | exact List.Mem.head _) rfl rfl ?_
  refine rCq rfl (c_implValidGather _ _ _ _ _ _ _ _ _ _ (by first | with_reducible assumption | ((try first | with_reducible apply RdF.sub | with_reducible apply RdF.sub0) <;> first | with_reducible assumption | (apply RdF.mono; (· (with_reducible assumption)); · (try simp only [List.cons_append, List.nil_append, List.append_assoc]); repeat' first | with_reducible apply eR | with_reducible apply eA | ((with_reducible apply xA); · repeat first | with_reducible apply lH | with_reducible apply lT | with_reducible apply lL) | ((with_reducible apply xC); · repeat first | apply pH | with_reducible apply pT | with_reducible apply pL) | with_reducible assumption | with_reducible apply eS | with_reducible apply eL | exact eR) | (apply RdF.mono; (· (apply OwF.rdF; with_reducible assumption)); · (try simp only [List.cons_append, List.nil_append, List.append_assoc]); repeat' first | with_reducible apply eR | with_reducible apply eA | ((with_reducible apply xA); · repeat first | with_reducible apply lH | with_reducible apply lT | with_reducible apply lL) | ((with_reducible apply xC); · repeat first | apply pH | with_reducible apply pT | with_reducible apply pL) | with_reducible assumption | with_reducible apply eS | with_reducible apply eL | exact eR) | (apply RdF.ownm; (· repeat first | with_reducible assumption | with_reducible apply List.mem_cons_self | with_reducible apply List.mem_cons_of_mem | with_reducible apply List.mem_append_right | exact List.Mem.head _); · first | rfl | with_reducible assumption | omega | simp [*]) | with_reducible assumption | omega | (simp; done) | (simp; omega) | (simp only [Bool.and_eq_true, inB_iff] at *; omega))) (by (first | with_reducible assumption | (apply RdD.mono; (· with_reducible assumption); · (try simp only [List.cons_append, List.nil_append, List.append_assoc]); repeat' first | with_reducible apply eR | with_reducible apply eA | ((with_reducible apply xA); · repeat first | with_reducible apply lH | with_reducible apply lT | with_reducible apply lL) | ((with_reducible apply xC); · repeat first | apply pH | with_reducible apply pT | with_reducible apply pL) | with_reducible assumption | with_reducible apply eS | with_reducible apply eL | exact eR) | (apply RdD.mono; (· (apply OwD.rdD; with_reducible assumption)); · (try simp only [List.cons_append, List.nil_append, List.append_assoc]); repeat' first | with_reducible apply eR | with_reducible apply eA | ((with_reducible apply xA); · repeat first | with_reducible apply lH | with_reducible apply lT | with_reducible apply lL) | ((with_reducible apply xC); · repeat first | apply pH | with_reducible apply pT | with_reducible apply pL) | with_reducible assumption | with_reducible apply eS | with_reducible apply eL | exact eR))) (by first | with_reducible assumption | omega | (simp only [Bool.and_eq_true, inB_iff] at *; omega))) ?_
  refine uNot rfl ?_
  refine mv rfl ?_
  refine gC rfl rfl (fun c1 => ?_) (fun c1 => ?_)
  · replace c1 := not_t c1
    have c1' := c1; try simp only [inB_iff, Bool.and_eq_true, decide_eq_true_eq, decide_eq_false_iff_not, beq_iff_eq, beq_eq_false_iff_ne, bne_iff_ne, bne_eq_false_iff_eq, ne_eq] at c1'
    refine gU rfl rfl (bnot_f c1) ?_
    refine gU rfl rfl (bnot_f c1) ?_
    refine gU rfl rfl (bnot_f c1) ?_
    refine kT rfl (bnot_f c1) rfl ?_
    refine mv rfl ?_
    refine gU rfl rfl rfl ?_
    refine gU rfl rfl rfl ?_
    refine gU rfl rfl rfl ?_
    refine gU rfl rfl rfl ?_
    refine kT rfl rfl rfl ?_
    refine rN ?_
    refine qN ?_
    refine cT rfl ?_
    refine cS (cR ?_)
    refine bd0 ?_
    refine tA rfl rfl rfl (by repeat first | apply pH | with_reducible apply pT | with_reducible apply pL) (by rfl) (by rfl) ?_
    refine asg rfl ?_
    refine rN ?_
    refine qN ?_
    refine cE ?_
    refine qE ?_
    refine kC2 rfl (resOne_cell rfl (by repeat first | with_reducible assumption | with_reducible apply List.mem_cons_self | with_reducible apply List.mem_cons_of_mem | with_reducible apply List.mem_append_right | exact List.Mem.head _) rfl) (resOne_tmp rfl) rfl rfl ?_
    first | (exfalso; contradiction) | exact ⟨_, ⟨_, ResG.no (by simp only [evB, *, Bool.true_and, Bool.and_true, Bool.false_and, Bool.and_false, Bool.or_false, Bool.false_or, Bool.or_true, Bool.true_or, Bool.not_true, Bool.not_false, if_true, if_false, Bool.false_eq_true, decide_true, decide_false, cond_true, cond_false]), rfl⟩, (by (try simp only [List.cons_append, List.nil_append, List.append_assoc]); repeat' first | with_reducible apply eR | with_reducible apply eA | ((with_reducible apply xA); · repeat first | with_reducible apply lH | with_reducible apply lT | with_reducible apply lL) | ((with_reducible apply xC); · repeat first | apply pH | with_reducible apply pT | with_reducible apply pL) | with_reducible assumption | with_reducible apply eS | with_reducible apply eL | exact eR)⟩ | (exfalso; first | contradiction | omega | (simp_all; done) | (simp_all; omega))
  replace c1 := not_f c1
  have c1' := c1; try simp only [inB_iff, Bool.and_eq_true, decide_eq_true_eq, decide_eq_false_iff_not, beq_iff_eq, beq_eq_false_iff_ne, bne_iff_ne, bne_eq_false_iff_eq, ne_eq] at c1'
  refine gG rfl rfl (bnot_t c1) ?_
  first | refine rL rfl (by repeat first | with_reducible assumption | with_reducible apply List.mem_cons_self | with_reducible apply List.mem_cons_of_mem | with_reducible apply List.mem_append_right | exact List.Mem.head _) rfl rfl ?_ | refine rL rfl (by repeat first | with_reducible assumption | with_reducible apply List.mem_cons_self | with_reducible apply List.mem_cons_of_mem | with_reducible apply List.mem_append_right | exact List.Mem.head _) (by with_reducible assumption) rfl ?_
  refine gG rfl rfl (bnot_t c1) ?_
  refine rCq rfl (c_isNonNegative _ _) ?_
  refine gG rfl rfl (bnot_t c1) ?_
  refine uNot rfl ?_
  refine kF rfl (bnot_t c1) rfl ?_
  refine mv rfl ?_
  refine gC rfl rfl (fun c2 => ?_) (fun c2 => ?_)
  · replace c2 := not_t c2
    have c2' := c2; try simp only [inB_iff, Bool.and_eq_true, decide_eq_true_eq, decide_eq_false_iff_not, beq_iff_eq, beq_eq_false_iff_ne, bne_iff_ne, bne_eq_false_iff_eq, ne_eq] at c2'
    refine gU rfl rfl (bnot_f c2) ?_
    refine gU rfl rfl (bnot_f c2) ?_
    refine gU rfl rfl (bnot_f c2) ?_
    refine gU rfl rfl (bnot_f c2) ?_
    refine kT rfl (bnot_f c2) rfl ?_
    refine rN ?_
    refine qN ?_
    refine cT rfl ?_
    refine cS (cR ?_)
    refine bd0 ?_
    refine tA rfl rfl rfl (by repeat first | apply pH | with_reducible apply pT | with_reducible apply pL) (by rfl) (by rfl) ?_
    refine asg rfl ?_
    refine rN ?_
    refine qN ?_
    refine cE ?_
    refine qE ?_
    refine kC2 rfl (resOne_cell rfl (by repeat first | with_reducible assumption | with_reducible apply List.mem_cons_self | with_reducible apply List.mem_cons_of_mem | with_reducible apply List.mem_append_right | exact List.Mem.head _) rfl) (resOne_tmp rfl) rfl rfl ?_
    first | (exfalso; contradiction) | exact ⟨_, ⟨_, ResG.no (by simp only [evB, *, Bool.true_and, Bool.and_true, Bool.false_and, Bool.and_false, Bool.or_false, Bool.false_or, Bool.or_true, Bool.true_or, Bool.not_true, Bool.not_false, if_true, if_false, Bool.false_eq_true, decide_true, decide_false, cond_true, cond_false]), rfl⟩, (by (try simp only [List.cons_append, List.nil_append, List.append_assoc]); repeat' first | with_reducible apply eR | with_reducible apply eA | ((with_reducible apply xA); · repeat first | with_reducible apply lH | with_reducible apply lT | with_reducible apply lL) | ((with_reducible apply xC); · repeat first | apply pH | with_reducible apply pT | with_reducible apply pL) | with_reducible assumption | with_reducible apply eS | with_reducible apply eL | exact eR)⟩ | (exfalso; first | contradiction | omega | (simp_all; done) | (simp_all; omega))
  replace c2 := not_f c2
  have c2' := c2; try simp only [inB_iff, Bool.and_eq_true, decide_eq_true_eq, decide_eq_false_iff_not, beq_iff_eq, beq_eq_false_iff_ne, bne_iff_ne, bne_eq_false_iff_eq, ne_eq] at c2'
  refine gG rfl rfl (bnot_t c2) ?_
  first | refine rL rfl (by repeat first | with_reducible assumption | with_reducible apply List.mem_cons_self | with_reducible apply List.mem_cons_of_mem | with_reducible apply List.mem_append_right | exact List.Mem.head _) rfl rfl ?_ | refine rL rfl (by repeat first | with_reducible assumption | with_reducible apply List.mem_cons_self | with_reducible apply List.mem_cons_of_mem | with_reducible apply List.mem_append_right | exact List.Mem.head _) (by with_reducible assumption) rfl ?_
  refine gG rfl rfl (bnot_t c2) ?_
  refine rBS rfl rfl rfl rfl rfl ?_; intro bk6
  skip
  refine gG rfl rfl (bnot_t c2) ?_
  refine rCq rfl (c_arePos1 _ _ _) ?_
  refine gG rfl rfl (bnot_t c2) ?_
  refine uNot rfl ?_
  refine kF rfl (bnot_t c2) rfl ?_
  refine rN ?_
  refine qN ?_
  refine cC rfl (fun c3 => ?_) (fun c3 => ?_)
  · replace c3 := not_t c3
    have c3' := c3; try simp only [inB_iff, Bool.and_eq_true, decide_eq_true_eq, decide_eq_false_iff_not, beq_iff_eq, beq_eq_false_iff_ne, bne_iff_ne, bne_eq_false_iff_eq, ne_eq] at c3'
    refine cS (cR ?_)
    refine bd0 ?_
    refine tA rfl rfl rfl (by repeat first | apply pH | with_reducible apply pT | with_reducible apply pL) (by rfl) (by rfl) ?_
    refine asg rfl ?_
    refine rN ?_
    refine qN ?_
    refine cE ?_
    refine qE ?_
    refine kC2 rfl (resOne_cell rfl (by repeat first | with_reducible assumption | with_reducible apply List.mem_cons_self | with_reducible apply List.mem_cons_of_mem | with_reducible apply List.mem_append_right | exact List.Mem.head _) rfl) (resOne_tmp rfl) rfl rfl ?_
    first | (exfalso; contradiction) | exact ⟨_, ⟨_, ResG.no (by simp only [evB, *, Bool.true_and, Bool.and_true, Bool.false_and, Bool.and_false, Bool.or_false, Bool.false_or, Bool.or_true, Bool.true_or, Bool.not_true, Bool.not_false, if_true, if_false, Bool.false_eq_true, decide_true, decide_false, cond_true, cond_false]), rfl⟩, (by (try simp only [List.cons_append, List.nil_append, List.append_assoc]); repeat' first | with_reducible apply eR | with_reducible apply eA | ((with_reducible apply xA); · repeat first | with_reducible apply lH | with_reducible apply lT | with_reducible apply lL) | ((with_reducible apply xC); · repeat first | apply pH | with_reducible apply pT | with_reducible apply pL) | with_reducible assumption | with_reducible apply eS | with_reducible apply eL | exact eR)⟩ | (exfalso; first | contradiction | omega | (simp_all; done) | (simp_all; omega))
  replace c3 := not_f c3
  have c3' := c3; try simp only [inB_iff, Bool.and_eq_true, decide_eq_true_eq, decide_eq_false_iff_not, beq_iff_eq, beq_eq_false_iff_ne, bne_iff_ne, bne_eq_false_iff_eq, ne_eq] at c3'
  refine cK ?_
  refine qN ?_
  refine cS (cR ?_)
  refine rLA rfl (by repeat first | with_reducible assumption | with_reducible apply List.mem_cons_self | with_reducible apply List.mem_cons_of_mem | with_reducible apply List.mem_append_right | exact List.Mem.head _) rfl rfl ?_
  refine rF rfl rfl rfl rfl ?_
  obtain ⟨v1, v2, v3, v4, v5, v6⟩ := vgB_iff (t := t) (ps := ps) (xss := xss) (by simpa using c1)
  refine rC rfl (c_geach _ [.pointer (some ⟨bk2, 0, none⟩), .pointer (some ⟨bk3, 0, none⟩), .pointer (some ⟨bk4, 0, none⟩)] rfl (evG ps xss start speed size) t _ _ _ _ _ _ ps xss _ (by first | with_reducible assumption | ((try first | with_reducible apply RdF.sub | with_reducible apply RdF.sub0) <;> first | with_reducible assumption | (apply RdF.mono; (· (with_reducible assumption)); · (try simp only [List.cons_append, List.nil_append, List.append_assoc]); repeat' first | with_reducible apply eR | with_reducible apply eA | ((with_reducible apply xA); · repeat first | with_reducible apply lH | with_reducible apply lT | with_reducible apply lL) | ((with_reducible apply xC); · repeat first | apply pH | with_reducible apply pT | with_reducible apply pL) | with_reducible assumption | with_reducible apply eS | with_reducible apply eL | exact eR) | (apply RdF.mono; (· (apply OwF.rdF; with_reducible assumption)); · (try simp only [List.cons_append, List.nil_append, List.append_assoc]); repeat' first | with_reducible apply eR | with_reducible apply eA | ((with_reducible apply xA); · repeat first | with_reducible apply lH | with_reducible apply lT | with_reducible apply lL) | ((with_reducible apply xC); · repeat first | apply pH | with_reducible apply pT | with_reducible apply pL) | with_reducible assumption | with_reducible apply eS | with_reducible apply eL | exact eR) | (apply RdF.ownm; (· repeat first | with_reducible assumption | with_reducible apply List.mem_cons_self | with_reducible apply List.mem_cons_of_mem | with_reducible apply List.mem_append_right | exact List.Mem.head _); · first | rfl | with_reducible assumption | omega | simp [*]) | with_reducible assumption | omega | (simp; done) | (simp; omega) | (simp only [Bool.and_eq_true, inB_iff] at *; omega))) (by (first | with_reducible assumption | (apply RdD.mono; (· with_reducible assumption); · (try simp only [List.cons_append, List.nil_append, List.append_assoc]); repeat' first | with_reducible apply eR | with_reducible apply eA | ((with_reducible apply xA); · repeat first | with_reducible apply lH | with_reducible apply lT | with_reducible apply lL) | ((with_reducible apply xC); · repeat first | apply pH | with_reducible apply pT | with_reducible apply pL) | with_reducible assumption | with_reducible apply eS | with_reducible apply eL | exact eR) | (apply RdD.mono; (· (apply OwD.rdD; with_reducible assumption)); · (try simp only [List.cons_append, List.nil_append, List.append_assoc]); repeat' first | with_reducible apply eR | with_reducible apply eA | ((with_reducible apply xA); · repeat first | with_reducible apply lH | with_reducible apply lT | with_reducible apply lL) | ((with_reducible apply xC); · repeat first | apply pH | with_reducible apply pT | with_reducible apply pL) | with_reducible assumption | with_reducible apply eS | with_reducible apply eL | exact eR))) (by simpa using c1) (fun i a c M' hi he hr => c_AddEvent1 bk2 bk3 bk4 true true true _ _ _ _ _ _ _ _ M' (he.mem (List.mem_cons_of_mem _ (List.mem_cons_of_mem _ (List.mem_cons_of_mem _ (List.mem_cons_of_mem _ (List.Mem.head _)))))) (he.mem (List.mem_cons_of_mem _ (List.mem_cons_of_mem _ (List.mem_cons_of_mem _ (List.Mem.head _))))) (he.mem (List.mem_cons_of_mem _ (List.mem_cons_of_mem _ (List.Mem.head _)))) hr (by have := v5 i hi; omega))) ?_
  rintro _ _ ⟨lk9, ⟨sv9, tv9, rfl, how9⟩, rfl⟩
  refine ⟨fun _ => (by (try simp only [List.cons_append, List.nil_append, List.append_assoc]); repeat' first | with_reducible apply eR | with_reducible apply eA | ((with_reducible apply xA); · repeat first | with_reducible apply lH | with_reducible apply lT | with_reducible apply lL) | ((with_reducible apply xC); · repeat first | apply pH | with_reducible apply pT | with_reducible apply pL) | with_reducible assumption | with_reducible apply eS | with_reducible apply eL | exact eR), ?_⟩
  obtain ⟨ad9, cn9, at9, ct9, rfl, rfl, hrd9, hrt9⟩ := how9.rd
  refine tA rfl rfl rfl (by repeat first | apply pH | with_reducible apply pT | with_reducible apply pL) (by rfl) (by rfl) ?_
  refine asg rfl ?_
  refine rN ?_
  refine qN ?_
  refine cE ?_
  refine kC2 rfl (resOne_cell rfl (by repeat first | with_reducible assumption | with_reducible apply List.mem_cons_self | with_reducible apply List.mem_cons_of_mem | with_reducible apply List.mem_append_right | exact List.Mem.head _) rfl) (resOne_tmp rfl) rfl rfl ?_
  first | (exfalso; contradiction) | exact ⟨_, ⟨_, ResG.yes (by simp only [evB, *, Bool.true_and, Bool.and_true, Bool.false_and, Bool.and_false, Bool.or_false, Bool.false_or, Bool.or_true, Bool.true_or, Bool.not_true, Bool.not_false, if_true, if_false, Bool.false_eq_true, decide_true, decide_false, cond_true, cond_false]) how9, rfl⟩, (by (try simp only [List.cons_append, List.nil_append, List.append_assoc]); repeat' first | with_reducible apply eR | with_reducible apply eA | ((with_reducible apply xA); · repeat first | with_reducible apply lH | with_reducible apply lT | with_reducible apply lL) | ((with_reducible apply xC); · repeat first | apply pH | with_reducible apply pT | with_reducible apply pL) | with_reducible assumption | with_reducible apply eS | with_reducible apply eL | exact eR)⟩ | (exfalso; first | contradiction | omega | (simp_all; done) | (simp_all; omega))
theorem c_specAddEvent (t : Int) (ap at' : Option Addr) (np nt cq ct : Nat) (ps : List Nat) (xss : List (List Nat)) (start speed size : Nat) (M : Mem) (h : RdF M ap np ps) (h' : RdD M at' nt xss) (hn : np ≤ 1073741824 ∧ nt ≤ 1073741824) :
    ACall Try.prog 35 [.agg #[.int .i64 t, .slice ap np cq, .slice at' nt ct], .float .f32 start, .float .f32 speed, .float .f32 size] M fun v M' => ∃ L, ResG (evB t ps xss start speed) t ps (tabL xss.length (evG ps xss start speed size)) v L ∧ M' = L ++ M := by
  obtain ⟨rfl, _⟩ := id h
  obtain ⟨rfl, _⟩ := id h'
  obtain ⟨hn1, hn2⟩ := hn
  refine acall_of_awp Try.func35 rfl Try.ntmps35 rfl ?_
  refine cS (cR ?_)
  first | (refine rXa rfl ?_; intro bk1) | (refine rX rfl rfl ?_; intro bk1)
  refine rO ?_; intro bk2
  refine asg rfl ?_
  refine rN ?_
  refine qN ?_
  refine cS ?_
  refine cS (cR ?_)
  refine rCq rfl (c_l04Is _ _ _ _ _ _ _ _ _ _ _ _ (by repeat first | with_reducible assumption | with_reducible apply List.mem_cons_self | with_reducible apply List.mem_cons_of_mem | with_reducible apply List.mem_append_right | exact List.Mem.head _) (by first | with_reducible assumption | ((try first | with_reducible apply RdF.sub | with_reducible apply RdF.sub0) <;> first | with_reducible assumption | (apply RdF.mono; (· (with_reducible assumption)); · (try simp only [List.cons_append, List.nil_append, List.append_assoc]); repeat' first | with_reducible apply eR | with_reducible apply eA | ((with_reducible apply xA); · repeat first | with_reducible apply lH | with_reducible apply lT | with_reducible apply lL) | ((with_reducible apply xC); · repeat first | apply pH | with_reducible apply pT | with_reducible apply pL) | with_reducible assumption | with_reducible apply eS | with_reducible apply eL | exact eR) | (apply RdF.mono; (· (apply OwF.rdF; with_reducible assumption)); · (try simp only [List.cons_append, List.nil_append, List.append_assoc]); repeat' first | with_reducible apply eR | with_reducible apply eA | ((with_reducible apply xA); · repeat first | with_reducible apply lH | with_reducible apply lT | with_reducible apply lL) | ((with_reducible apply xC); · repeat first | apply pH | with_reducible apply pT | with_reducible apply pL) | with_reducible assumption | with_reducible apply eS | with_reducible apply eL | exact eR) | (apply RdF.ownm; (· repeat first | with_reducible assumption | with_reducible apply List.mem_cons_self | with_reducible apply List.mem_cons_of_mem | with_reducible apply List.mem_append_right | exact List.Mem.head _); · first | rfl | with_reducible assumption | omega | simp [*]) | with_reducible assumption | omega | (simp; done) | (simp; omega) | (simp only [Bool.and_eq_true, inB_iff] at *; omega))) (by (first | with_reducible assumption | (apply RdD.mono; (· with_reducible assumption); · (try simp only [List.cons_append, List.nil_append, List.append_assoc]); repeat' first | with_reducible apply eR | with_reducible apply eA | ((with_reducible apply xA); · repeat first | with_reducible apply lH | with_reducible apply lT | with_reducible apply lL) | ((with_reducible apply xC); · repeat first | apply pH | with_reducible apply pT | with_reducible apply pL) | with_reducible assumption | with_reducible apply eS | with_reducible apply eL | exact eR) | (apply RdD.mono; (· (apply OwD.rdD; with_reducible assumption)); · (try simp only [List.cons_append, List.nil_append, List.append_assoc]); repeat' first | with_reducible apply eR | with_reducible apply eA | ((with_reducible apply xA); · repeat first | with_reducible apply lH | with_reducible apply lT | with_reducible apply lL) | ((with_reducible apply xC); · repeat first | apply pH | with_reducible apply pT | with_reducible apply pL) | with_reducible assumption | with_reducible apply eS | with_reducible apply eL | exact eR))) (by first | with_reducible assumption | omega | (simp only [Bool.and_eq_true, inB_iff] at *; omega))) ?_
  refine uNot rfl ?_
  refine mv rfl ?_
  refine gC rfl rfl (fun g1 => ?_) (fun g1 => ?_)
  · replace g1 := not_t g1
    have g1' := g1; try simp only [inB_iff, Bool.and_eq_true, decide_eq_true_eq, decide_eq_false_iff_not, beq_iff_eq, beq_eq_false_iff_ne, bne_iff_ne, bne_eq_false_iff_eq, ne_eq] at g1'
    refine gU rfl rfl (bnot_f g1) ?_
    refine gU rfl rfl (bnot_f g1) ?_
    refine gU rfl rfl (bnot_f g1) ?_
    refine kT rfl (bnot_f g1) rfl ?_
    refine mv rfl ?_
    refine gU rfl rfl rfl ?_
    refine gU rfl rfl rfl ?_
    refine gU rfl rfl rfl ?_
    refine kT rfl rfl rfl ?_
    refine rN ?_
    refine qN ?_
    refine cT rfl ?_
    refine cS (cR ?_)
    refine bd0 ?_
    refine tA rfl rfl rfl (by repeat first | apply pH | with_reducible apply pT | with_reducible apply pL) (by rfl) (by rfl) ?_
    refine asg rfl ?_
    refine rN ?_
    refine qN ?_
    refine cE ?_
    refine qE ?_
    refine kC2 rfl (resOne_cell rfl (by repeat first | with_reducible assumption | with_reducible apply List.mem_cons_self | with_reducible apply List.mem_cons_of_mem | with_reducible apply List.mem_append_right | exact List.Mem.head _) rfl) (resOne_tmp rfl) rfl rfl ?_
    first | (exfalso; contradiction) | exact ⟨_, ⟨_, ResG.no (by rw [evB, g1]; rfl), rfl⟩, (by (try simp only [List.cons_append, List.nil_append, List.append_assoc]); repeat' first | with_reducible apply eR | with_reducible apply eA | ((with_reducible apply xA); · repeat first | with_reducible apply lH | with_reducible apply lT | with_reducible apply lL) | ((with_reducible apply xC); · repeat first | apply pH | with_reducible apply pT | with_reducible apply pL) | with_reducible assumption | with_reducible apply eS | with_reducible apply eL | exact eR)⟩ | (exfalso; first | contradiction | omega | (simp_all; done) | (simp_all; omega))
  · replace g1 := not_f g1
    have g1' := g1; try simp only [inB_iff, Bool.and_eq_true, decide_eq_true_eq, decide_eq_false_iff_not, beq_iff_eq, beq_eq_false_iff_ne, bne_iff_ne, bne_eq_false_iff_eq, ne_eq] at g1'
    obtain ⟨v1, v2, v3, v4, v5, v6⟩ := vgB_iff g1
    refine gG rfl rfl (bnot_t g1) ?_
    refine mv rfl ?_
    refine gG rfl rfl (bnot_t g1) ?_
    refine rCq rfl (c_l02Way _ _) ?_
    refine gG rfl rfl (bnot_t g1) ?_
    refine uNot rfl ?_
    refine kF rfl (bnot_t g1) rfl ?_
    refine mv rfl ?_
    refine gC rfl rfl (fun g2 => ?_) (fun g2 => ?_)
    · replace g2 := not_t g2
      have g2' := g2; try simp only [inB_iff, Bool.and_eq_true, decide_eq_true_eq, decide_eq_false_iff_not, beq_iff_eq, beq_eq_false_iff_ne, bne_iff_ne, bne_eq_false_iff_eq, ne_eq] at g2'
      refine gU rfl rfl (bnot_f g2) ?_
      refine gU rfl rfl (bnot_f g2) ?_
      refine gU rfl rfl (bnot_f g2) ?_
      refine kT rfl (bnot_f g2) rfl ?_
      refine rN ?_
      refine qN ?_
      refine cT rfl ?_
      refine cS (cR ?_)
      refine bd0 ?_
      refine tA rfl rfl rfl (by repeat first | apply pH | with_reducible apply pT | with_reducible apply pL) (by rfl) (by rfl) ?_
      refine asg rfl ?_
      refine rN ?_
      refine qN ?_
      refine cE ?_
      refine qE ?_
      refine kC2 rfl (resOne_cell rfl (by repeat first | with_reducible assumption | with_reducible apply List.mem_cons_self | with_reducible apply List.mem_cons_of_mem | with_reducible apply List.mem_append_right | exact List.Mem.head _) rfl) (resOne_tmp rfl) rfl rfl ?_
      first | (exfalso; contradiction) | exact ⟨_, ⟨_, ResG.no (by rw [evB, g1, g2]; rfl), rfl⟩, (by (try simp only [List.cons_append, List.nil_append, List.append_assoc]); repeat' first | with_reducible apply eR | with_reducible apply eA | ((with_reducible apply xA); · repeat first | with_reducible apply lH | with_reducible apply lT | with_reducible apply lL) | ((with_reducible apply xC); · repeat first | apply pH | with_reducible apply pT | with_reducible apply pL) | with_reducible assumption | with_reducible apply eS | with_reducible apply eL | exact eR)⟩ | (exfalso; first | contradiction | omega | (simp_all; done) | (simp_all; omega))
    · replace g2 := not_f g2
      have g2' := g2; try simp only [inB_iff, Bool.and_eq_true, decide_eq_true_eq, decide_eq_false_iff_not, beq_iff_eq, beq_eq_false_iff_ne, bne_iff_ne, bne_eq_false_iff_eq, ne_eq] at g2'
      refine gG rfl rfl (bnot_t g2) ?_
      refine mv rfl ?_
      refine gG rfl rfl (bnot_t g2) ?_
      refine rCq rfl (c_l02Above _ _) ?_
      refine gG rfl rfl (bnot_t g2) ?_
      refine uNot rfl ?_
      refine kF rfl (bnot_t g2) rfl ?_
      refine rN ?_
      refine qN ?_
      refine cC rfl (fun g3 => ?_) (fun g3 => ?_)
      · replace g3 := not_t g3
        have g3' := g3; try simp only [inB_iff, Bool.and_eq_true, decide_eq_true_eq, decide_eq_false_iff_not, beq_iff_eq, beq_eq_false_iff_ne, bne_iff_ne, bne_eq_false_iff_eq, ne_eq] at g3'
        refine cS (cR ?_)
        refine bd0 ?_
        refine tA rfl rfl rfl (by repeat first | apply pH | with_reducible apply pT | with_reducible apply pL) (by rfl) (by rfl) ?_
        refine asg rfl ?_
        refine rN ?_
        refine qN ?_
        refine cE ?_
        refine qE ?_
        refine kC2 rfl (resOne_cell rfl (by repeat first | with_reducible assumption | with_reducible apply List.mem_cons_self | with_reducible apply List.mem_cons_of_mem | with_reducible apply List.mem_append_right | exact List.Mem.head _) rfl) (resOne_tmp rfl) rfl rfl ?_
        first | (exfalso; contradiction) | exact ⟨_, ⟨_, ResG.no (by rw [evB, g1, g2, g3]; rfl), rfl⟩, (by (try simp only [List.cons_append, List.nil_append, List.append_assoc]); repeat' first | with_reducible apply eR | with_reducible apply eA | ((with_reducible apply xA); · repeat first | with_reducible apply lH | with_reducible apply lT | with_reducible apply lL) | ((with_reducible apply xC); · repeat first | apply pH | with_reducible apply pT | with_reducible apply pL) | with_reducible assumption | with_reducible apply eS | with_reducible apply eL | exact eR)⟩ | (exfalso; first | contradiction | omega | (simp_all; done) | (simp_all; omega))
      · replace g3 := not_f g3
        have g3' := g3; try simp only [inB_iff, Bool.and_eq_true, decide_eq_true_eq, decide_eq_false_iff_not, beq_iff_eq, beq_eq_false_iff_ne, bne_iff_ne, bne_eq_false_iff_eq, ne_eq] at g3'
        refine cK ?_
        refine qN ?_
        refine cS (cR ?_)
        refine rC rfl (c_l04Own _ _ _ _ _ _ _ _ _ _ _ _ (by repeat first | with_reducible assumption | with_reducible apply List.mem_cons_self | with_reducible apply List.mem_cons_of_mem | with_reducible apply List.mem_append_right | exact List.Mem.head _) (by first | with_reducible assumption | ((try first | with_reducible apply RdF.sub | with_reducible apply RdF.sub0) <;> first | with_reducible assumption | (apply RdF.mono; (· (with_reducible assumption)); · (try simp only [List.cons_append, List.nil_append, List.append_assoc]); repeat' first | with_reducible apply eR | with_reducible apply eA | ((with_reducible apply xA); · repeat first | with_reducible apply lH | with_reducible apply lT | with_reducible apply lL) | ((with_reducible apply xC); · repeat first | apply pH | with_reducible apply pT | with_reducible apply pL) | with_reducible assumption | with_reducible apply eS | with_reducible apply eL | exact eR) | (apply RdF.mono; (· (apply OwF.rdF; with_reducible assumption)); · (try simp only [List.cons_append, List.nil_append, List.append_assoc]); repeat' first | with_reducible apply eR | with_reducible apply eA | ((with_reducible apply xA); · repeat first | with_reducible apply lH | with_reducible apply lT | with_reducible apply lL) | ((with_reducible apply xC); · repeat first | apply pH | with_reducible apply pT | with_reducible apply pL) | with_reducible assumption | with_reducible apply eS | with_reducible apply eL | exact eR) | (apply RdF.ownm; (· repeat first | with_reducible assumption | with_reducible apply List.mem_cons_self | with_reducible apply List.mem_cons_of_mem | with_reducible apply List.mem_append_right | exact List.Mem.head _); · first | rfl | with_reducible assumption | omega | simp [*]) | with_reducible assumption | omega | (simp; done) | (simp; omega) | (simp only [Bool.and_eq_true, inB_iff] at *; omega))) (by (first | with_reducible assumption | (apply RdD.mono; (· with_reducible assumption); · (try simp only [List.cons_append, List.nil_append, List.append_assoc]); repeat' first | with_reducible apply eR | with_reducible apply eA | ((with_reducible apply xA); · repeat first | with_reducible apply lH | with_reducible apply lT | with_reducible apply lL) | ((with_reducible apply xC); · repeat first | apply pH | with_reducible apply pT | with_reducible apply pL) | with_reducible assumption | with_reducible apply eS | with_reducible apply eL | exact eR) | (apply RdD.mono; (· (apply OwD.rdD; with_reducible assumption)); · (try simp only [List.cons_append, List.nil_append, List.append_assoc]); repeat' first | with_reducible apply eR | with_reducible apply eA | ((with_reducible apply xA); · repeat first | with_reducible apply lH | with_reducible apply lT | with_reducible apply lL) | ((with_reducible apply xC); · repeat first | apply pH | with_reducible apply pT | with_reducible apply pL) | with_reducible assumption | with_reducible apply eS | with_reducible apply eL | exact eR))) (by omega)) ?_
        rintro _ _ ⟨lk4, ⟨sv4, tv4, rfl, how4⟩, rfl⟩
        obtain ⟨ad4, cn4, at4, ct4, rfl, rfl, hrd4, hrt4⟩ := how4.rd
        refine ⟨fun _ => eL eR, ?_⟩
        refine rO ?_; intro bk3
        refine tA rfl rfl rfl (by repeat first | apply pH | with_reducible apply pT | with_reducible apply pL) (by rfl) (by rfl) ?_
        refine rN ?_
        refine qN ?_
        refine cS ?_
        refine cS (cR ?_)
        refine asg rfl ?_
        refine rN ?_
        refine qN ?_
        refine cB ?_
        obtain ⟨Lp, Lt, hp1, ⟨Lo, Li, vs, hv, hl, rfl⟩, rfl⟩ := how4
        have hw := hv.rdW
        have hvl : vs.length = xss.length := hl.len
        refine cL2 (fun (i : Nat) (Li : Mem) => [(11, .int .i64 (i : Nat))]) [(1, _), (2, _), (3, _), (4, _), (8, _), (10, _)] (fun (i : Nat) (Li : Mem) => (bk3, ⟨[.int .i64 t, .slice ad4 ps.length cn4, .slice at4 xss.length ct4], true⟩) :: (Lp ++ (Lo ++ (Li ++ ((bk2, ⟨[.int .i64 0, .slice none 0 0, .slice none 0 0], true⟩) :: ((bk1, ⟨[.int .i64 t, .slice ap ps.length cq, .slice at' xss.length ct], true⟩) :: M)))))) (fun (i : Nat) (Li : Mem) => xss.length - i) (fun (i : Nat) (Li : Mem) => i ≤ xss.length ∧ OwL Li vs (cpD (tabL xss.length (evG ps xss start speed size)) xss i)) (0) (Li) (by repeat first | exact Sub.nil _ | refine Sub.cons rfl ?_) (by (try simp only [List.cons_append, List.nil_append, List.append_assoc]); repeat' first | with_reducible apply eR | with_reducible apply eA | ((with_reducible apply xA); · repeat first | with_reducible apply lH | with_reducible apply lT | with_reducible apply lL) | ((with_reducible apply xC); · repeat first | apply pH | with_reducible apply pT | with_reducible apply pL) | with_reducible assumption | with_reducible apply eS | with_reducible apply eL | exact eR) (by exact ⟨Nat.zero_le _, by rw [cpD_zero]; exact hl⟩) ?_
        rintro i Li ⟨hi, hl⟩
        refine wT (T' := [(11, _), (1, _), (2, _), (3, _), (4, _), (8, _), (10, _)]) rfl ?_
        refine cS ?_
        refine cS (cR ?_)
        refine mv rfl ?_
        refine fA rfl ?_
        first | refine rL rfl (by repeat first | with_reducible assumption | with_reducible apply List.mem_cons_self | with_reducible apply List.mem_cons_of_mem | with_reducible apply List.mem_append_right | exact List.Mem.head _) rfl rfl ?_ | refine rL rfl (by repeat first | with_reducible assumption | with_reducible apply List.mem_cons_self | with_reducible apply List.mem_cons_of_mem | with_reducible apply List.mem_append_right | exact List.Mem.head _) (by with_reducible assumption) rfl ?_
        refine ln rfl ?_
        refine bLss rfl rfl ?_
        refine rN ?_
        refine qN ?_
        refine cC rfl (fun c1 => ?_) (fun c1 => ?_)
        · have c1' := c1; try simp only [inB_iff, Bool.and_eq_true, decide_eq_true_eq, decide_eq_false_iff_not, beq_iff_eq, beq_eq_false_iff_ne, bne_iff_ne, bne_eq_false_iff_eq, ne_eq] at c1'
          have hi2 : i < xss.length := by omega
          have hi3 : i < ps.length := by omega
          have hxi := v5 i hi2
          obtain ⟨Lk, R, hpp, hk, hback⟩ := hl.at (i := i) (by rw [cpD_tlen rfl]; exact hi2)
          rw [cpD_tget rfl (by omega)] at hk
          obtain ⟨a7, c7, hv7, hr7⟩ := hk.rd
          rw [hv7] at hk
          refine AWp.ofPerm (M' := (bk3, ⟨[.int .i64 t, .slice ad4 ps.length cn4, .slice at4 xss.length ct4], true⟩) :: (Lp ++ (Lo ++ (Lk ++ (R ++ ((bk2, ⟨[.int .i64 0, .slice none 0 0, .slice none 0 0], true⟩) :: ((bk1, ⟨[.int .i64 t, .slice ap ps.length cq, .slice at' xss.length ct], true⟩) :: M))))))) ?_ (by repeat first | exact perm_at hpp | refine List.Perm.cons _ ?_ | refine List.Perm.append_left _ ?_)
          refine cK ?_
          refine qN ?_
          refine cS ?_
          refine cB ?_
          refine cS (cR ?_)
          refine mv rfl ?_
          refine fA rfl ?_
          first | refine rL rfl (by repeat first | with_reducible assumption | with_reducible apply List.mem_cons_self | with_reducible apply List.mem_cons_of_mem | with_reducible apply List.mem_append_right | exact List.Mem.head _) rfl rfl ?_ | refine rL rfl (by repeat first | with_reducible assumption | with_reducible apply List.mem_cons_self | with_reducible apply List.mem_cons_of_mem | with_reducible apply List.mem_append_right | exact List.Mem.head _) (by with_reducible assumption) rfl ?_
          refine mv rfl ?_
          first
            | refine ixN rfl rfl (by first | exact AOk.own | (apply RdD.aok; with_reducible assumption) | (apply RdD.aok; apply OwD.rdD; with_reducible assumption) | (apply RdI.aok; with_reducible assumption) | (apply RdW.aok; with_reducible assumption) | (apply RdI.aok; apply OwI.rdI; with_reducible assumption) | with_reducible assumption | (apply RdF.aok; with_reducible assumption) | (apply RdF.aok; apply OwF.rdF; with_reducible assumption)) (by first | with_reducible assumption | omega) ?_
            | refine ixI rfl rfl (by first | exact AOk.own | (apply RdD.aok; with_reducible assumption) | (apply RdD.aok; apply OwD.rdD; with_reducible assumption) | (apply RdI.aok; with_reducible assumption) | (apply RdW.aok; with_reducible assumption) | (apply RdI.aok; apply OwI.rdI; with_reducible assumption) | with_reducible assumption | (apply RdF.aok; with_reducible assumption) | (apply RdF.aok; apply OwF.rdF; with_reducible assumption)) (by omega) (by omega) ?_
          refine ldF rfl (by first | with_reducible assumption | ((try first | with_reducible apply RdF.sub | with_reducible apply RdF.sub0) <;> first | with_reducible assumption | (apply RdF.mono; (· (with_reducible assumption)); · (try simp only [List.cons_append, List.nil_append, List.append_assoc]); repeat' first | with_reducible apply eR | with_reducible apply eA | ((with_reducible apply xA); · repeat first | with_reducible apply lH | with_reducible apply lT | with_reducible apply lL) | ((with_reducible apply xC); · repeat first | apply pH | with_reducible apply pT | with_reducible apply pL) | with_reducible assumption | with_reducible apply eS | with_reducible apply eL | exact eR) | (apply RdF.mono; (· (apply OwF.rdF; with_reducible assumption)); · (try simp only [List.cons_append, List.nil_append, List.append_assoc]); repeat' first | with_reducible apply eR | with_reducible apply eA | ((with_reducible apply xA); · repeat first | with_reducible apply lH | with_reducible apply lT | with_reducible apply lL) | ((with_reducible apply xC); · repeat first | apply pH | with_reducible apply pT | with_reducible apply pL) | with_reducible assumption | with_reducible apply eS | with_reducible apply eL | exact eR) | (apply RdF.ownm; (· repeat first | with_reducible assumption | with_reducible apply List.mem_cons_self | with_reducible apply List.mem_cons_of_mem | with_reducible apply List.mem_append_right | exact List.Mem.head _); · first | rfl | with_reducible assumption | omega | simp [*]) | with_reducible assumption | omega | (simp; done) | (simp; omega) | (simp only [Bool.and_eq_true, inB_iff] at *; omega))) (by first | with_reducible assumption | omega) ?_
          refine mv rfl ?_
          refine rCq rfl (c_l04Curve _ _ _ _) ?_
          refine fAd rfl rfl ?_
          refine rW rfl ?_
          refine rCq rfl (c_Floor _ _) ?_
          refine asg rfl ?_
          refine rN ?_
          refine qN ?_
          refine cS (cR ?_)
          refine mv rfl ?_
          refine fA rfl ?_
          first | refine rL rfl (by repeat first | with_reducible assumption | with_reducible apply List.mem_cons_self | with_reducible apply List.mem_cons_of_mem | with_reducible apply List.mem_append_right | exact List.Mem.head _) rfl rfl ?_ | refine rL rfl (by repeat first | with_reducible assumption | with_reducible apply List.mem_cons_self | with_reducible apply List.mem_cons_of_mem | with_reducible apply List.mem_append_right | exact List.Mem.head _) (by with_reducible assumption) rfl ?_
          refine rp rfl ?_
          refine fCm rfl rfl rfl ?_
          refine rN ?_
          refine qN ?_
          have fin : ∀ L, OwF L (.slice a7 (xss.getD i []).length c7) (evG ps xss start speed size i) → OwL (L ++ R) vs (cpD (tabL xss.length (evG ps xss start speed size)) xss (i + 1)) := fun L hL => by
            have e := hback _ _ _ hL
            rw [set_sameD (by omega) hv7, cpD_tset (g := evG ps xss start speed size) rfl hi2 rfl] at e
            exact e
          rw [← hxi]
          refine cC rfl (fun hr => ?_) (fun hr => ?_)
          · have hr' := hr; try simp only [inB_iff, Bool.and_eq_true, decide_eq_true_eq, decide_eq_false_iff_not, beq_iff_eq, beq_eq_false_iff_ne, bne_iff_ne, bne_eq_false_iff_eq, ne_eq] at hr'
            obtain ⟨k1, k2, k3⟩ := ev_n (by omega) hr
            refine cD [] [(0, true), (1, true), (2, true), (3, true), (4, true), (5, true), (6, true), (7, true), (8, true), (9, true), (10, true), (11, true), (12, true), (13, true), (14, true), (15, true), (16, false), (17, false), (18, false), (19, false)] (by repeat first | exact fineT | exact fineL | exact fineLQ1 | exact fineLQ2 | exact fineLQ3 | exact fineLQ4 | exact fineLQ5 | exact fineLQ6 | exact fineR | refine fineB ?_) (by kernel_rfl) ?_
            simp only [pick, List.getElem?_toArray, List.getElem?_cons_zero, List.getElem?_cons_succ]
            refine fA rfl ?_
            first | refine rL rfl (by repeat first | with_reducible assumption | with_reducible apply List.mem_cons_self | with_reducible apply List.mem_cons_of_mem | with_reducible apply List.mem_append_right | exact List.Mem.head _) rfl rfl ?_ | refine rL rfl (by repeat first | with_reducible assumption | with_reducible apply List.mem_cons_self | with_reducible apply List.mem_cons_of_mem | with_reducible apply List.mem_append_right | exact List.Mem.head _) (by with_reducible assumption) rfl ?_
            refine mv rfl ?_
            first
              | refine ixN rfl rfl (by first | exact AOk.own | (apply RdD.aok; with_reducible assumption) | (apply RdD.aok; apply OwD.rdD; with_reducible assumption) | (apply RdI.aok; with_reducible assumption) | (apply RdW.aok; with_reducible assumption) | (apply RdI.aok; apply OwI.rdI; with_reducible assumption) | with_reducible assumption | (apply RdF.aok; with_reducible assumption) | (apply RdF.aok; apply OwF.rdF; with_reducible assumption)) (by first | with_reducible assumption | omega) ?_
              | refine ixI rfl rfl (by first | exact AOk.own | (apply RdD.aok; with_reducible assumption) | (apply RdD.aok; apply OwD.rdD; with_reducible assumption) | (apply RdI.aok; with_reducible assumption) | (apply RdW.aok; with_reducible assumption) | (apply RdI.aok; apply OwI.rdI; with_reducible assumption) | with_reducible assumption | (apply RdF.aok; with_reducible assumption) | (apply RdF.aok; apply OwF.rdF; with_reducible assumption)) (by omega) (by omega) ?_
            first
              | refine ldV rfl (by (first | with_reducible assumption | (apply RdW.mono; (· with_reducible assumption); · (try simp only [List.cons_append, List.nil_append, List.append_assoc]); repeat' first | with_reducible apply eR | with_reducible apply eA | ((with_reducible apply xA); · repeat first | with_reducible apply lH | with_reducible apply lT | with_reducible apply lL) | ((with_reducible apply xC); · repeat first | apply pH | with_reducible apply pT | with_reducible apply pL) | with_reducible assumption | with_reducible apply eS | with_reducible apply eL | exact eR))) (by first | with_reducible assumption | omega) (by with_reducible assumption) rfl ?_
              | (refine ldD rfl (by (first | with_reducible assumption | (apply RdD.mono; (· with_reducible assumption); · (try simp only [List.cons_append, List.nil_append, List.append_assoc]); repeat' first | with_reducible apply eR | with_reducible apply eA | ((with_reducible apply xA); · repeat first | with_reducible apply lH | with_reducible apply lT | with_reducible apply lL) | ((with_reducible apply xC); · repeat first | apply pH | with_reducible apply pT | with_reducible apply pL) | with_reducible assumption | with_reducible apply eS | with_reducible apply eL | exact eR) | (apply RdD.mono; (· (apply OwD.rdD; with_reducible assumption)); · (try simp only [List.cons_append, List.nil_append, List.append_assoc]); repeat' first | with_reducible apply eR | with_reducible apply eA | ((with_reducible apply xA); · repeat first | with_reducible apply lH | with_reducible apply lT | with_reducible apply lL) | ((with_reducible apply xC); · repeat first | apply pH | with_reducible apply pT | with_reducible apply pL) | with_reducible assumption | with_reducible apply eS | with_reducible apply eL | exact eR))) (by first | with_reducible assumption | omega) ?_; intro aDd cDd hDd)
            refine mv rfl ?_
            refine rFI rfl (by with_reducible assumption) (by omega) ?_
            refine fA rfl ?_
            first | refine rL rfl (by repeat first | with_reducible assumption | with_reducible apply List.mem_cons_self | with_reducible apply List.mem_cons_of_mem | with_reducible apply List.mem_append_right | exact List.Mem.head _) rfl rfl ?_ | refine rL rfl (by repeat first | with_reducible assumption | with_reducible apply List.mem_cons_self | with_reducible apply List.mem_cons_of_mem | with_reducible apply List.mem_append_right | exact List.Mem.head _) (by with_reducible assumption) rfl ?_
            refine mv rfl ?_
            first
              | refine ixN rfl rfl (by first | exact AOk.own | (apply RdD.aok; with_reducible assumption) | (apply RdD.aok; apply OwD.rdD; with_reducible assumption) | (apply RdI.aok; with_reducible assumption) | (apply RdW.aok; with_reducible assumption) | (apply RdI.aok; apply OwI.rdI; with_reducible assumption) | with_reducible assumption | (apply RdF.aok; with_reducible assumption) | (apply RdF.aok; apply OwF.rdF; with_reducible assumption)) (by first | with_reducible assumption | omega) ?_
              | refine ixI rfl rfl (by first | exact AOk.own | (apply RdD.aok; with_reducible assumption) | (apply RdD.aok; apply OwD.rdD; with_reducible assumption) | (apply RdI.aok; with_reducible assumption) | (apply RdW.aok; with_reducible assumption) | (apply RdI.aok; apply OwI.rdI; with_reducible assumption) | with_reducible assumption | (apply RdF.aok; with_reducible assumption) | (apply RdF.aok; apply OwF.rdF; with_reducible assumption)) (by omega) (by omega) ?_
            first
              | refine ldV rfl (by (first | with_reducible assumption | (apply RdW.mono; (· with_reducible assumption); · (try simp only [List.cons_append, List.nil_append, List.append_assoc]); repeat' first | with_reducible apply eR | with_reducible apply eA | ((with_reducible apply xA); · repeat first | with_reducible apply lH | with_reducible apply lT | with_reducible apply lL) | ((with_reducible apply xC); · repeat first | apply pH | with_reducible apply pT | with_reducible apply pL) | with_reducible assumption | with_reducible apply eS | with_reducible apply eL | exact eR))) (by first | with_reducible assumption | omega) (by with_reducible assumption) rfl ?_
              | (refine ldD rfl (by (first | with_reducible assumption | (apply RdD.mono; (· with_reducible assumption); · (try simp only [List.cons_append, List.nil_append, List.append_assoc]); repeat' first | with_reducible apply eR | with_reducible apply eA | ((with_reducible apply xA); · repeat first | with_reducible apply lH | with_reducible apply lT | with_reducible apply lL) | ((with_reducible apply xC); · repeat first | apply pH | with_reducible apply pT | with_reducible apply pL) | with_reducible assumption | with_reducible apply eS | with_reducible apply eL | exact eR) | (apply RdD.mono; (· (apply OwD.rdD; with_reducible assumption)); · (try simp only [List.cons_append, List.nil_append, List.append_assoc]); repeat' first | with_reducible apply eR | with_reducible apply eA | ((with_reducible apply xA); · repeat first | with_reducible apply lH | with_reducible apply lT | with_reducible apply lL) | ((with_reducible apply xC); · repeat first | apply pH | with_reducible apply pT | with_reducible apply pL) | with_reducible assumption | with_reducible apply eS | with_reducible apply eL | exact eR))) (by first | with_reducible assumption | omega) ?_; intro aDd cDd hDd)
            refine mv rfl ?_
            refine rFI rfl (by with_reducible assumption) (by omega) ?_
            first
              | refine ixN rfl rfl (by first | exact AOk.own | (apply RdD.aok; with_reducible assumption) | (apply RdD.aok; apply OwD.rdD; with_reducible assumption) | (apply RdI.aok; with_reducible assumption) | (apply RdW.aok; with_reducible assumption) | (apply RdI.aok; apply OwI.rdI; with_reducible assumption) | with_reducible assumption | (apply RdF.aok; with_reducible assumption) | (apply RdF.aok; apply OwF.rdF; with_reducible assumption)) (by first | with_reducible assumption | omega) ?_
              | refine ixI rfl rfl (by first | exact AOk.own | (apply RdD.aok; with_reducible assumption) | (apply RdD.aok; apply OwD.rdD; with_reducible assumption) | (apply RdI.aok; with_reducible assumption) | (apply RdW.aok; with_reducible assumption) | (apply RdI.aok; apply OwI.rdI; with_reducible assumption) | with_reducible assumption | (apply RdF.aok; with_reducible assumption) | (apply RdF.aok; apply OwF.rdF; with_reducible assumption)) (by omega) (by omega) ?_
            refine ldF rfl (by first | with_reducible assumption | ((try first | with_reducible apply RdF.sub | with_reducible apply RdF.sub0) <;> first | with_reducible assumption | (apply RdF.mono; (· (with_reducible assumption)); · (try simp only [List.cons_append, List.nil_append, List.append_assoc]); repeat' first | with_reducible apply eR | with_reducible apply eA | ((with_reducible apply xA); · repeat first | with_reducible apply lH | with_reducible apply lT | with_reducible apply lL) | ((with_reducible apply xC); · repeat first | apply pH | with_reducible apply pT | with_reducible apply pL) | with_reducible assumption | with_reducible apply eS | with_reducible apply eL | exact eR) | (apply RdF.mono; (· (apply OwF.rdF; with_reducible assumption)); · (try simp only [List.cons_append, List.nil_append, List.append_assoc]); repeat' first | with_reducible apply eR | with_reducible apply eA | ((with_reducible apply xA); · repeat first | with_reducible apply lH | with_reducible apply lT | with_reducible apply lL) | ((with_reducible apply xC); · repeat first | apply pH | with_reducible apply pT | with_reducible apply pL) | with_reducible assumption | with_reducible apply eS | with_reducible apply eL | exact eR) | (apply RdF.ownm; (· repeat first | with_reducible assumption | with_reducible apply List.mem_cons_self | with_reducible apply List.mem_cons_of_mem | with_reducible apply List.mem_append_right | exact List.Mem.head _); · first | rfl | with_reducible assumption | omega | simp [*]) | with_reducible assumption | omega | (simp; done) | (simp; omega) | (simp only [Bool.and_eq_true, inB_iff] at *; omega))) (by first | with_reducible assumption | omega) ?_
            refine mv rfl ?_
            refine fAd rfl rfl ?_
            first
              | refine ixN rfl rfl (by first | exact AOk.own | (apply RdD.aok; with_reducible assumption) | (apply RdD.aok; apply OwD.rdD; with_reducible assumption) | (apply RdI.aok; with_reducible assumption) | (apply RdW.aok; with_reducible assumption) | (apply RdI.aok; apply OwI.rdI; with_reducible assumption) | with_reducible assumption | (apply RdF.aok; with_reducible assumption) | (apply RdF.aok; apply OwF.rdF; with_reducible assumption)) (by first | with_reducible assumption | omega) ?_
              | refine ixI rfl rfl (by first | exact AOk.own | (apply RdD.aok; with_reducible assumption) | (apply RdD.aok; apply OwD.rdD; with_reducible assumption) | (apply RdI.aok; with_reducible assumption) | (apply RdW.aok; with_reducible assumption) | (apply RdI.aok; apply OwI.rdI; with_reducible assumption) | with_reducible assumption | (apply RdF.aok; with_reducible assumption) | (apply RdF.aok; apply OwF.rdF; with_reducible assumption)) (by omega) (by omega) ?_
            first
              | (refine tO rfl rfl (by with_reducible assumption) (by repeat first | with_reducible apply lH | with_reducible apply lT | with_reducible apply lL) (by first | with_reducible assumption | omega) ?_; intro lk6 how6)
              | refine stF 0 rfl rfl rfl (by first | with_reducible assumption | omega) ?_
              | refine stF 1 rfl rfl rfl (by first | with_reducible assumption | omega) ?_
              | refine stF 2 rfl rfl rfl (by first | with_reducible assumption | omega) ?_
              | refine stF 3 rfl rfl rfl (by first | with_reducible assumption | omega) ?_
            refine rN ?_
            refine qBN ?_
            refine qN ?_
            refine cR ?_
            refine mv rfl ?_
            first | refine rAn (b := 1) rfl rfl (by omega) ?_ | refine rA rfl rfl (by omega) (by omega) ?_ | refine bAdd rfl rfl ?_
            refine asg rfl ?_
            refine rN ?_
            refine qL2 (i + 1) (_ ++ R) ?_ (by omega) (by repeat first | exact Sub.nil _ | refine Sub.cons rfl ?_) (by (try simp only [List.cons_append, List.nil_append, List.append_assoc]); repeat' first | with_reducible apply eR | with_reducible apply eA | ((with_reducible apply xA); · repeat first | with_reducible apply lH | with_reducible apply lT | with_reducible apply lL) | ((with_reducible apply xC); · repeat first | apply pH | with_reducible apply pT | with_reducible apply pL) | with_reducible assumption | with_reducible apply eS | with_reducible apply eL | exact eR)
            refine ⟨by omega, fin _ ?_⟩
            show OwF _ _ (evF _ _ _ _ _)
            rw [evF_yes hr]
            assumption
          · have hr' := hr; try simp only [inB_iff, Bool.and_eq_true, decide_eq_true_eq, decide_eq_false_iff_not, beq_iff_eq, beq_eq_false_iff_ne, bne_iff_ne, bne_eq_false_iff_eq, ne_eq] at hr'
            refine cK ?_
            refine qBN ?_
            refine qN ?_
            refine cR ?_
            refine mv rfl ?_
            first | refine rAn (b := 1) rfl rfl (by omega) ?_ | refine rA rfl rfl (by omega) (by omega) ?_ | refine bAdd rfl rfl ?_
            refine asg rfl ?_
            refine rN ?_
            refine qL2 (i + 1) (Lk ++ R) ?_ (by omega) (by repeat first | exact Sub.nil _ | refine Sub.cons rfl ?_) (by (try simp only [List.cons_append, List.nil_append, List.append_assoc]); repeat' first | with_reducible apply eR | with_reducible apply eA | ((with_reducible apply xA); · repeat first | with_reducible apply lH | with_reducible apply lT | with_reducible apply lL) | ((with_reducible apply xC); · repeat first | apply pH | with_reducible apply pT | with_reducible apply pL) | with_reducible assumption | with_reducible apply eS | with_reducible apply eL | exact eR)
            refine ⟨by omega, fin _ ?_⟩
            show OwF _ _ (evF _ _ _ _ _)
            rw [evF_no hr]
            assumption
        · have c1' := c1; try simp only [inB_iff, Bool.and_eq_true, decide_eq_true_eq, decide_eq_false_iff_not, beq_iff_eq, beq_eq_false_iff_ne, bne_iff_ne, bne_eq_false_iff_eq, ne_eq] at c1'
          have : i = xss.length := by omega
          subst this
          refine cX ?_
          refine qX ?_
          refine qL2X ?_
          refine qBX ?_
          refine qN ?_
          refine cS (cR ?_)
          refine rLA rfl (by repeat first | with_reducible assumption | with_reducible apply List.mem_cons_self | with_reducible apply List.mem_cons_of_mem | with_reducible apply List.mem_append_right | exact List.Mem.head _) rfl rfl ?_
          refine tA rfl rfl rfl (by repeat first | apply pH | with_reducible apply pT | with_reducible apply pL) (by rfl) (by rfl) ?_
          refine asg rfl ?_
          refine rN ?_
          refine qN ?_
          refine cE ?_
          rw [cpD_tab rfl] at hl
          refine kC2 rfl (resOne_cell rfl (by repeat first | with_reducible assumption | with_reducible apply List.mem_cons_self | with_reducible apply List.mem_cons_of_mem | with_reducible apply List.mem_append_right | exact List.Mem.head _) rfl) (resOne_tmp rfl) rfl rfl ?_
          first | (exfalso; contradiction) | exact ⟨_, ⟨_, ResG.yes (by rw [evB, g1, g2, g3]; rfl) (OwGP.mk hp1 (OwD.mk hv hl)), rfl⟩, (by (try simp only [List.cons_append, List.nil_append, List.append_assoc]); repeat' first | with_reducible apply eR | with_reducible apply eA | ((with_reducible apply xA); · repeat first | with_reducible apply lH | with_reducible apply lT | with_reducible apply lL) | ((with_reducible apply xC); · repeat first | apply pH | with_reducible apply pT | with_reducible apply pL) | with_reducible assumption | with_reducible apply eS | with_reducible apply eL | exact eR)⟩ | (exfalso; first | contradiction | omega | (simp_all; done) | (simp_all; omega))
end Go.Proofs.Ytbhkeejmaomaaaa.Ab
