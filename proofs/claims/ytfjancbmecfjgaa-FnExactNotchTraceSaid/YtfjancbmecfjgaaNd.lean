/-
  Walks: the sine of turns; a wave taken from a trace.
-/
import Derived.Test.YtfjancbmecfjgaaNc
import Derived.Test.YtfjancbmecfjgaaPa
import Derived.Test.YtfjancbmecfjgaaAk
namespace Go.Proofs.Ytfjancbmecfjgaa.Ab
open Go Go.RowKit
attribute [local irreducible] Run Then InBlock LoopQ LQ1 LQ2 LQ3 LQ4 LQ5 LQ6 AWp Ret ACall
set_option linter.unusedVariables false
set_option linter.unusedSimpArgs false

-- @reg math.Trunc : c_Trunc _ _
theorem c_Trunc (x : Nat) (M : Mem) : ACall Try.prog 108 [.float .f64 x] M fun v M' => v = .float .f64 (fint .zero x) ∧ M' = M := by
  skip
  skip
  refine acall_of_awp Try.func108 rfl Try.ntmps108 rfl ?_
  refine cS (cR ?_)
  refine asg rfl ?_
  refine rN ?_
  refine qN ?_
  refine cS ?_
  refine cT rfl ?_
  refine cS (cR ?_)
  refine mv rfl ?_
  refine xInt rfl ?_
  refine asg rfl ?_
  refine rN ?_
  refine qN ?_
  refine cE ?_
  refine qE ?_
  refine kE rfl rfl  ?_
  first | (exfalso; contradiction) | exact ⟨_, ⟨rfl, rfl⟩, (by (try simp only [List.cons_append, List.nil_append, List.append_assoc]); repeat' first | with_reducible apply eR | with_reducible apply eA | ((with_reducible apply xA); · repeat first | with_reducible apply lH | with_reducible apply lT | with_reducible apply lL) | ((with_reducible apply xC); · repeat first | apply pH | with_reducible apply pT | with_reducible apply pL) | with_reducible assumption | with_reducible apply eS | with_reducible apply eL | exact eR)⟩ | exact ⟨_, ⟨by first | (simp_all; done) | (simp_all; intros; omega), rfl⟩, (by (try simp only [List.cons_append, List.nil_append, List.append_assoc]); repeat' first | with_reducible apply eR | with_reducible apply eA | ((with_reducible apply xA); · repeat first | with_reducible apply lH | with_reducible apply lT | with_reducible apply lL) | ((with_reducible apply xC); · repeat first | apply pH | with_reducible apply pT | with_reducible apply pL) | with_reducible assumption | with_reducible apply eS | with_reducible apply eL | exact eR)⟩ | (exfalso; first | contradiction | omega | (simp_all; done) | (simp_all; omega))
-- @reg math.NaN : c_NaN _
theorem c_NaN (M : Mem) : ACall Try.prog 88 [] M fun v M' => v = .float .f64 (qn .f64) ∧ M' = M := by
  refine acall_of_awp Try.func88 rfl Try.ntmps88 rfl ?_
  refine cS (cR ?_)
  refine asg rfl ?_
  refine rN ?_
  refine qN ?_
  refine cS (cR ?_)
  refine xFr64 rfl ?_
  refine asg rfl ?_
  refine rN ?_
  refine qN ?_
  refine cE ?_
  refine kE rfl rfl  ?_
  first | (exfalso; contradiction) | exact ⟨_, ⟨congrArg (Value.float .f64) (by decide), rfl⟩, (by (try simp only [List.cons_append, List.nil_append, List.append_assoc]); repeat' first | with_reducible apply eR | with_reducible apply eA | ((with_reducible apply xA); · repeat first | with_reducible apply lH | with_reducible apply lT | with_reducible apply lL) | ((with_reducible apply xC); · repeat first | apply pH | with_reducible apply pT | with_reducible apply pL) | with_reducible assumption | with_reducible apply eS | with_reducible apply eL | exact eR)⟩ | (exfalso; first | contradiction | omega | (simp_all; done) | (simp_all; omega))
-- @reg impl.fraction : c_fraction _ _
theorem c_fraction (y : Nat) (M : Mem) : ACall Try.prog 104 [.float .f64 y] M fun v M' => v = .float .f64 (fr0 y) ∧ M' = M := by
  refine acall_of_awp Try.func104 rfl Try.ntmps104 rfl ?_
  refine cS (cR ?_)
  refine asg rfl ?_
  refine rN ?_
  refine qN ?_
  refine cS (cR ?_)
  refine mv rfl ?_
  refine rCq rfl (c_Trunc _ _) ?_
  refine asg rfl ?_
  refine rN ?_
  refine qN ?_
  refine cS ?_
  refine cS (cR ?_)
  refine mv rfl ?_
  refine fCm rfl rfl rfl ?_
  refine rN ?_
  refine qN ?_
  refine cC rfl (fun c1 => ?_) (fun c1 => ?_)
  · have c1' := c1; try simp only [inB_iff, Bool.and_eq_true, decide_eq_true_eq, decide_eq_false_iff_not, beq_iff_eq, beq_eq_false_iff_ne, bne_iff_ne, bne_eq_false_iff_eq, ne_eq] at c1'
    refine cR ?_
    refine asg rfl ?_
    refine rN ?_
    refine qN ?_
    refine cS (cR ?_)
    refine mv rfl ?_
    refine mv rfl ?_
    refine fSb rfl rfl ?_
    refine asg rfl ?_
    refine rN ?_
    refine qN ?_
    refine cS ?_
    refine cS (cR ?_)
    refine mv rfl ?_
    refine fCm rfl rfl rfl ?_
    refine rN ?_
    refine qN ?_
    refine cC rfl (fun c2 => ?_) (fun c2 => ?_)
    · have c2' := c2; try simp only [inB_iff, Bool.and_eq_true, decide_eq_true_eq, decide_eq_false_iff_not, beq_iff_eq, beq_eq_false_iff_ne, bne_iff_ne, bne_eq_false_iff_eq, ne_eq] at c2'
      refine cR ?_
      refine mv rfl ?_
      refine fAd rfl rfl ?_
      refine asg rfl ?_
      refine rN ?_
      refine qN ?_
      refine cS (cR ?_)
      refine mv rfl ?_
      refine asg rfl ?_
      refine rN ?_
      refine qN ?_
      refine cE ?_
      refine kE rfl rfl  ?_
      first | (exfalso; contradiction) | exact ⟨_, ⟨by simp only [fr0, fr1, whF, *, if_true, if_false, Bool.false_eq_true], rfl⟩, (by (try simp only [List.cons_append, List.nil_append, List.append_assoc]); repeat' first | with_reducible apply eR | with_reducible apply eA | ((with_reducible apply xA); · repeat first | with_reducible apply lH | with_reducible apply lT | with_reducible apply lL) | ((with_reducible apply xC); · repeat first | apply pH | with_reducible apply pT | with_reducible apply pL) | with_reducible assumption | with_reducible apply eS | with_reducible apply eL | exact eR)⟩ | (exfalso; first | contradiction | omega | (simp_all; done) | (simp_all; omega))
    · have c2' := c2; try simp only [inB_iff, Bool.and_eq_true, decide_eq_true_eq, decide_eq_false_iff_not, beq_iff_eq, beq_eq_false_iff_ne, bne_iff_ne, bne_eq_false_iff_eq, ne_eq] at c2'
      refine cK ?_
      refine qN ?_
      refine cS (cR ?_)
      refine mv rfl ?_
      refine asg rfl ?_
      refine rN ?_
      refine qN ?_
      refine cE ?_
      refine kE rfl rfl  ?_
      first | (exfalso; contradiction) | exact ⟨_, ⟨by simp only [fr0, fr1, whF, *, if_true, if_false, Bool.false_eq_true], rfl⟩, (by (try simp only [List.cons_append, List.nil_append, List.append_assoc]); repeat' first | with_reducible apply eR | with_reducible apply eA | ((with_reducible apply xA); · repeat first | with_reducible apply lH | with_reducible apply lT | with_reducible apply lL) | ((with_reducible apply xC); · repeat first | apply pH | with_reducible apply pT | with_reducible apply pL) | with_reducible assumption | with_reducible apply eS | with_reducible apply eL | exact eR)⟩ | (exfalso; first | contradiction | omega | (simp_all; done) | (simp_all; omega))
  · have c1' := c1; try simp only [inB_iff, Bool.and_eq_true, decide_eq_true_eq, decide_eq_false_iff_not, beq_iff_eq, beq_eq_false_iff_ne, bne_iff_ne, bne_eq_false_iff_eq, ne_eq] at c1'
    refine cK ?_
    refine qN ?_
    refine cS (cR ?_)
    refine mv rfl ?_
    refine mv rfl ?_
    refine fSb rfl rfl ?_
    refine asg rfl ?_
    refine rN ?_
    refine qN ?_
    refine cS ?_
    refine cS (cR ?_)
    refine mv rfl ?_
    refine fCm rfl rfl rfl ?_
    refine rN ?_
    refine qN ?_
    refine cC rfl (fun c3 => ?_) (fun c3 => ?_)
    · have c3' := c3; try simp only [inB_iff, Bool.and_eq_true, decide_eq_true_eq, decide_eq_false_iff_not, beq_iff_eq, beq_eq_false_iff_ne, bne_iff_ne, bne_eq_false_iff_eq, ne_eq] at c3'
      refine cR ?_
      refine mv rfl ?_
      refine fAd rfl rfl ?_
      refine asg rfl ?_
      refine rN ?_
      refine qN ?_
      refine cS (cR ?_)
      refine mv rfl ?_
      refine asg rfl ?_
      refine rN ?_
      refine qN ?_
      refine cE ?_
      refine kE rfl rfl  ?_
      first | (exfalso; contradiction) | exact ⟨_, ⟨by simp only [fr0, fr1, whF, *, if_true, if_false, Bool.false_eq_true], rfl⟩, (by (try simp only [List.cons_append, List.nil_append, List.append_assoc]); repeat' first | with_reducible apply eR | with_reducible apply eA | ((with_reducible apply xA); · repeat first | with_reducible apply lH | with_reducible apply lT | with_reducible apply lL) | ((with_reducible apply xC); · repeat first | apply pH | with_reducible apply pT | with_reducible apply pL) | with_reducible assumption | with_reducible apply eS | with_reducible apply eL | exact eR)⟩ | (exfalso; first | contradiction | omega | (simp_all; done) | (simp_all; omega))
    · have c3' := c3; try simp only [inB_iff, Bool.and_eq_true, decide_eq_true_eq, decide_eq_false_iff_not, beq_iff_eq, beq_eq_false_iff_ne, bne_iff_ne, bne_eq_false_iff_eq, ne_eq] at c3'
      refine cK ?_
      refine qN ?_
      refine cS (cR ?_)
      refine mv rfl ?_
      refine asg rfl ?_
      refine rN ?_
      refine qN ?_
      refine cE ?_
      refine kE rfl rfl  ?_
      first | (exfalso; contradiction) | exact ⟨_, ⟨by simp only [fr0, fr1, whF, *, if_true, if_false, Bool.false_eq_true], rfl⟩, (by (try simp only [List.cons_append, List.nil_append, List.append_assoc]); repeat' first | with_reducible apply eR | with_reducible apply eA | ((with_reducible apply xA); · repeat first | with_reducible apply lH | with_reducible apply lT | with_reducible apply lL) | ((with_reducible apply xC); · repeat first | apply pH | with_reducible apply pT | with_reducible apply pL) | with_reducible assumption | with_reducible apply eS | with_reducible apply eL | exact eR)⟩ | (exfalso; first | contradiction | omega | (simp_all; done) | (simp_all; omega))
-- @reg impl.sine : c_sine _ _
theorem c_sine (y : Nat) (M : Mem) : ACall Try.prog 90 [.float .f64 y] M fun v M' => v = .float .f64 (snF (fr0 y)) ∧ M' = M := by
  generalize hf : fr0 y = f
  skip
  skip
  skip
  refine acall_of_awp Try.func90 rfl Try.ntmps90 rfl ?_
  refine cS (cR ?_)
  refine asg rfl ?_
  refine rN ?_
  refine qN ?_
  refine cS (cR ?_)
  refine mv rfl ?_
  refine rCq rfl (hf ▸ c_fraction y _) ?_
  refine asg rfl ?_
  refine rN ?_
  refine qN ?_
  refine cS (cR ?_)
  refine mv rfl ?_
  refine fCm rfl rfl rfl ?_
  refine asg rfl ?_
  refine rN ?_
  refine qN ?_
  refine cM1 (fun (g : Nat) => [(3, .float .f64 g)]) [(4, _)] (fun (g : Nat) => M) (fun (g : Nat) => g = fr2 f) (by repeat first | exact Sub.nil _ | refine Sub.cons rfl ?_) ?_ ?_
  · refine cS (cR ?_)
    refine mv rfl ?_
    refine rN ?_
    refine qN ?_
    refine cC rfl (fun c1 => ?_) (fun c1 => ?_)
    · have c1' := c1; try simp only [inB_iff, Bool.and_eq_true, decide_eq_true_eq, decide_eq_false_iff_not, beq_iff_eq, beq_eq_false_iff_ne, bne_iff_ne, bne_eq_false_iff_eq, ne_eq] at c1'
      refine cR ?_
      refine mv rfl ?_
      refine fSb rfl rfl ?_
      refine asg rfl ?_
      refine rN ?_
      refine qL1 (_) ?_ (by exact Nat.zero_lt_one) (by repeat first | exact Sub.nil _ | refine Sub.cons rfl ?_) (by (try simp only [List.cons_append, List.nil_append, List.append_assoc]); repeat' first | with_reducible apply eR | with_reducible apply eA | ((with_reducible apply xA); · repeat first | with_reducible apply lH | with_reducible apply lT | with_reducible apply lL) | ((with_reducible apply xC); · repeat first | apply pH | with_reducible apply pT | with_reducible apply pL) | with_reducible assumption | with_reducible apply eS | with_reducible apply eL | exact eR)
      first | (unfold fr2 tuB; rw [c1]; rfl)
    · have c1' := c1; try simp only [inB_iff, Bool.and_eq_true, decide_eq_true_eq, decide_eq_false_iff_not, beq_iff_eq, beq_eq_false_iff_ne, bne_iff_ne, bne_eq_false_iff_eq, ne_eq] at c1'
      refine cK ?_
      refine qL1 (_) ?_ (by exact Nat.zero_lt_one) (by repeat first | exact Sub.nil _ | refine Sub.cons rfl ?_) (by (try simp only [List.cons_append, List.nil_append, List.append_assoc]); repeat' first | with_reducible apply eR | with_reducible apply eA | ((with_reducible apply xA); · repeat first | with_reducible apply lH | with_reducible apply lT | with_reducible apply lL) | ((with_reducible apply xC); · repeat first | apply pH | with_reducible apply pT | with_reducible apply pL) | with_reducible assumption | with_reducible apply eS | with_reducible apply eL | exact eR)
      first | (unfold fr2 tuB; rw [c1]; rfl)
  · rintro g rfl
    refine wT (T' := [(3, _), (4, _)]) rfl ?_
    refine cM1 (fun (g : Nat) => [(3, .float .f64 g)]) [(4, _)] (fun (g : Nat) => M) (fun (g : Nat) => g = fr3 f) (by repeat first | exact Sub.nil _ | refine Sub.cons rfl ?_) ?_ ?_
    · refine cS (cR ?_)
      refine mv rfl ?_
      refine fCm rfl rfl rfl ?_
      refine rN ?_
      refine qN ?_
      refine cC rfl (fun c2 => ?_) (fun c2 => ?_)
      · have c2' := c2; try simp only [inB_iff, Bool.and_eq_true, decide_eq_true_eq, decide_eq_false_iff_not, beq_iff_eq, beq_eq_false_iff_ne, bne_iff_ne, bne_eq_false_iff_eq, ne_eq] at c2'
        refine cR ?_
        refine mv rfl ?_
        refine fSb rfl rfl ?_
        refine asg rfl ?_
        refine rN ?_
        refine qL1 (_) ?_ (by exact Nat.zero_lt_one) (by repeat first | exact Sub.nil _ | refine Sub.cons rfl ?_) (by (try simp only [List.cons_append, List.nil_append, List.append_assoc]); repeat' first | with_reducible apply eR | with_reducible apply eA | ((with_reducible apply xA); · repeat first | with_reducible apply lH | with_reducible apply lT | with_reducible apply lL) | ((with_reducible apply xC); · repeat first | apply pH | with_reducible apply pT | with_reducible apply pL) | with_reducible assumption | with_reducible apply eS | with_reducible apply eL | exact eR)
        first | (unfold fr3; rw [c2]; rfl)
      · have c2' := c2; try simp only [inB_iff, Bool.and_eq_true, decide_eq_true_eq, decide_eq_false_iff_not, beq_iff_eq, beq_eq_false_iff_ne, bne_iff_ne, bne_eq_false_iff_eq, ne_eq] at c2'
        refine cK ?_
        refine qL1 (_) ?_ (by exact Nat.zero_lt_one) (by repeat first | exact Sub.nil _ | refine Sub.cons rfl ?_) (by (try simp only [List.cons_append, List.nil_append, List.append_assoc]); repeat' first | with_reducible apply eR | with_reducible apply eA | ((with_reducible apply xA); · repeat first | with_reducible apply lH | with_reducible apply lT | with_reducible apply lL) | ((with_reducible apply xC); · repeat first | apply pH | with_reducible apply pT | with_reducible apply pL) | with_reducible assumption | with_reducible apply eS | with_reducible apply eL | exact eR)
        first | (unfold fr3; rw [c2]; rfl)
    · rintro g rfl
      refine wT (T' := [(3, _), (4, _)]) rfl ?_
      refine cS (cR ?_)
      refine mv rfl ?_
      refine fMl rfl rfl ?_
      refine asg rfl ?_
      refine rN ?_
      refine qN ?_
      refine cS (cR ?_)
      refine mv rfl ?_
      refine mv rfl ?_
      refine fMl rfl rfl ?_
      refine asg rfl ?_
      refine rN ?_
      refine qN ?_
      refine cS (cR ?_)
      refine asg rfl ?_
      refine rN ?_
      refine qN ?_
      refine cS ?_
      refine cS (cR ?_)
      refine asg rfl ?_
      refine rN ?_
      refine qN ?_
      refine cB ?_
      refine cL3 (fun (j : Nat) (i : Int) (p : Nat) => [(8, .int .i64 i), (7, .float .f64 p)]) [(4, _), (5, _), (6, _)] (fun (j : Nat) (i : Int) (p : Nat) => M) (fun (j : Nat) (i : Int) (p : Nat) => 8 - j) (fun (j : Nat) (i : Int) (p : Nat) => (j ≤ 8 ∧ i = 8 - (j : Int)) ∧ p = pkF (fmul .f64 (zuF f) (zuF f)) j) (0) (8) (_) (by repeat first | exact Sub.nil _ | refine Sub.cons rfl ?_) (by (try simp only [List.cons_append, List.nil_append, List.append_assoc]); repeat' first | with_reducible apply eR | with_reducible apply eA | ((with_reducible apply xA); · repeat first | with_reducible apply lH | with_reducible apply lT | with_reducible apply lL) | ((with_reducible apply xC); · repeat first | apply pH | with_reducible apply pT | with_reducible apply pL) | with_reducible assumption | with_reducible apply eS | with_reducible apply eL | exact eR) (by exact ⟨⟨Nat.zero_le _, rfl⟩, rfl⟩) ?_
      rintro j i p ⟨⟨hj, hi⟩, rfl⟩
      refine wT (T' := [(8, _), (7, _), (4, _), (5, _), (6, _)]) rfl ?_
      refine cS ?_
      refine cS (cR ?_)
      refine mv rfl ?_
      refine bGeq rfl rfl ?_
      refine rN ?_
      refine qN ?_
      refine cC rfl (fun c3 => ?_) (fun c3 => ?_)
      · have c3' := c3; try simp only [inB_iff, Bool.and_eq_true, decide_eq_true_eq, decide_eq_false_iff_not, beq_iff_eq, beq_eq_false_iff_ne, bne_iff_ne, bne_eq_false_iff_eq, ne_eq] at c3'
        refine cK ?_
        refine qN ?_
        refine cS ?_
        refine cB ?_
        refine cR ?_
        refine mv rfl ?_
        refine mv rfl ?_
        refine fMl rfl rfl ?_
        refine mv rfl ?_
        first | refine rMlk rfl rfl (by with_reducible assumption) (by omega) ?_ | refine rMl rfl rfl (by first | omega | assumption) (by first | omega | assumption) ?_ | refine bMul rfl rfl ?_
        refine mv rfl ?_
        first | refine rMlk rfl rfl (by with_reducible assumption) (by omega) ?_ | refine rMl rfl rfl (by first | omega | assumption) (by first | omega | assumption) ?_ | refine bMul rfl rfl ?_
        first | refine rAn (b := 1) rfl rfl (by omega) ?_ | refine rA rfl rfl (by omega) (by omega) ?_ | refine bAdd rfl rfl ?_
        refine rMl rfl rfl (by have := q_bd (i := i) (by omega) (by omega); omega) (by have := q_bd (i := i) (by omega) (by omega); omega) ?_
        refine rp rfl ?_
        refine fDv rfl rfl ?_
        refine fSb rfl rfl ?_
        refine asg rfl ?_
        refine rN ?_
        refine qBN ?_
        refine qN ?_
        refine cR ?_
        refine mv rfl ?_
        first | refine rB rfl rfl (by omega) (by omega) ?_ | refine bSub rfl rfl ?_
        refine asg rfl ?_
        refine rN ?_
        refine qL3 (j + 1) (_) (_) ?_ (by omega) (by repeat first | exact Sub.nil _ | refine Sub.cons rfl ?_) (by (try simp only [List.cons_append, List.nil_append, List.append_assoc]); repeat' first | with_reducible apply eR | with_reducible apply eA | ((with_reducible apply xA); · repeat first | with_reducible apply lH | with_reducible apply lT | with_reducible apply lL) | ((with_reducible apply xC); · repeat first | apply pH | with_reducible apply pT | with_reducible apply pL) | with_reducible assumption | with_reducible apply eS | with_reducible apply eL | exact eR)
        exact ⟨⟨by omega, by omega⟩, by subst hi; rfl⟩
      · have c3' := c3; try simp only [inB_iff, Bool.and_eq_true, decide_eq_true_eq, decide_eq_false_iff_not, beq_iff_eq, beq_eq_false_iff_ne, bne_iff_ne, bne_eq_false_iff_eq, ne_eq] at c3'
        have : j = 8 := by omega
        subst this
        refine cX ?_
        refine qX ?_
        refine qL3X ?_
        refine qBX ?_
        refine qN ?_
        refine cS (cR ?_)
        refine mv rfl ?_
        refine mv rfl ?_
        refine fMl rfl rfl ?_
        refine asg rfl ?_
        refine rN ?_
        refine qN ?_
        refine cS ?_
        refine cS (cR ?_)
        refine mv rfl ?_
        refine rN ?_
        refine qN ?_
        refine cC rfl (fun c4 => ?_) (fun c4 => ?_)
        · have c4' := c4; try simp only [inB_iff, Bool.and_eq_true, decide_eq_true_eq, decide_eq_false_iff_not, beq_iff_eq, beq_eq_false_iff_ne, bne_iff_ne, bne_eq_false_iff_eq, ne_eq] at c4'
          refine cS (cR ?_)
          refine mv rfl ?_
          refine rp rfl ?_
          refine asg rfl ?_
          refine rN ?_
          refine qN ?_
          refine cE ?_
          refine qE ?_
          refine kE rfl rfl  ?_
          first | (exfalso; contradiction) | exact ⟨_, ⟨by first | (unfold snF tuB; rw [c3]; rfl) | (unfold snF tuB; rw [c4]; rfl), rfl⟩, (by (try simp only [List.cons_append, List.nil_append, List.append_assoc]); repeat' first | with_reducible apply eR | with_reducible apply eA | ((with_reducible apply xA); · repeat first | with_reducible apply lH | with_reducible apply lT | with_reducible apply lL) | ((with_reducible apply xC); · repeat first | apply pH | with_reducible apply pT | with_reducible apply pL) | with_reducible assumption | with_reducible apply eS | with_reducible apply eL | exact eR)⟩ | (exfalso; first | contradiction | omega | (simp_all; done) | (simp_all; omega))
        · have c4' := c4; try simp only [inB_iff, Bool.and_eq_true, decide_eq_true_eq, decide_eq_false_iff_not, beq_iff_eq, beq_eq_false_iff_ne, bne_iff_ne, bne_eq_false_iff_eq, ne_eq] at c4'
          refine cK ?_
          refine qN ?_
          refine cS (cR ?_)
          refine mv rfl ?_
          refine asg rfl ?_
          refine rN ?_
          refine qN ?_
          refine cE ?_
          refine kE rfl rfl  ?_
          first | (exfalso; contradiction) | exact ⟨_, ⟨by first | (unfold snF tuB; rw [c3]; rfl) | (unfold snF tuB; rw [c4]; rfl), rfl⟩, (by (try simp only [List.cons_append, List.nil_append, List.append_assoc]); repeat' first | with_reducible apply eR | with_reducible apply eA | ((with_reducible apply xA); · repeat first | with_reducible apply lH | with_reducible apply lT | with_reducible apply lL) | ((with_reducible apply xC); · repeat first | apply pH | with_reducible apply pT | with_reducible apply pL) | with_reducible assumption | with_reducible apply eS | with_reducible apply eL | exact eR)⟩ | (exfalso; first | contradiction | omega | (simp_all; done) | (simp_all; omega))
theorem neq_t {k : FloatKind} {x y : Nat} (h : fcmp .neq k x y = true) : fcmp .eql k x y = false := by
  have e : fcmp .neq k x y = !fcmp .eql k x y := rfl
  rw [e] at h; revert h; cases fcmp .eql k x y <;> simp
theorem neq_f {k : FloatKind} {x y : Nat} (h : fcmp .neq k x y = false) : fcmp .eql k x y = true := by
  have e : fcmp .neq k x y = !fcmp .eql k x y := rfl
  rw [e] at h; revert h; cases fcmp .eql k x y <;> simp
-- @reg impl.SineTurns : c_SineTurns _ _
theorem c_SineTurns (x : Nat) (M : Mem) : ACall Try.prog 63 [.float .f32 x] M fun v M' => v = .float .f32 (snT x) ∧ M' = M := by
  have hok := sineF_ok (fwid x)
  skip
  skip
  skip
  skip
  refine acall_of_awp Try.func63 rfl Try.ntmps63 rfl ?_
  refine cS (cR ?_)
  refine asg rfl ?_
  refine rN ?_
  refine qN ?_
  refine cS (cR ?_)
  refine mv rfl ?_
  refine rW rfl ?_
  refine asg rfl ?_
  refine rN ?_
  refine qN ?_
  refine cS ?_
  refine cB ?_
  refine cS (cR ?_)
  refine mv rfl ?_
  refine rCq rfl (c_isFinite _ _) ?_
  refine uNot rfl ?_
  refine asg rfl ?_
  refine rN ?_
  refine qN ?_
  refine cC rfl (fun h1 => ?_) (fun h1 => ?_)
  · replace h1 := not_t h1
    have h1' := h1; try simp only [inB_iff, Bool.and_eq_true, decide_eq_true_eq, decide_eq_false_iff_not, beq_iff_eq, beq_eq_false_iff_ne, bne_iff_ne, bne_eq_false_iff_eq, ne_eq] at h1'
    refine cS (cR ?_)
    refine rCq rfl (c_NaN _) ?_
    refine rNw rfl (by decide) ?_
    refine asg rfl ?_
    refine rN ?_
    refine qN ?_
    refine cE ?_
    refine qBE ?_
    refine qE ?_
    refine kE rfl rfl  ?_
    first | (exfalso; contradiction) | exact ⟨_, ⟨by rw [snT, sineF_n h1], rfl⟩, (by (try simp only [List.cons_append, List.nil_append, List.append_assoc]); repeat' first | with_reducible apply eR | with_reducible apply eA | ((with_reducible apply xA); · repeat first | with_reducible apply lH | with_reducible apply lT | with_reducible apply lL) | ((with_reducible apply xC); · repeat first | apply pH | with_reducible apply pT | with_reducible apply pL) | with_reducible assumption | with_reducible apply eS | with_reducible apply eL | exact eR)⟩ | (exfalso; first | contradiction | omega | (simp_all; done) | (simp_all; omega))
  · replace h1 := not_f h1
    have h1' := h1; try simp only [inB_iff, Bool.and_eq_true, decide_eq_true_eq, decide_eq_false_iff_not, beq_iff_eq, beq_eq_false_iff_ne, bne_iff_ne, bne_eq_false_iff_eq, ne_eq] at h1'
    refine cS (cR ?_)
    refine mv rfl ?_
    refine rCq rfl (c_Abs _ _) ?_
    refine fCm rfl rfl rfl ?_
    refine asg rfl ?_
    refine rN ?_
    refine qN ?_
    obtain ⟨a, ha⟩ := fin_sv h1
    rw [far_abs ha]
    refine cC rfl (fun h2 => ?_) (fun h2 => ?_)
    · have h2' := h2; try simp only [inB_iff, Bool.and_eq_true, decide_eq_true_eq, decide_eq_false_iff_not, beq_iff_eq, beq_eq_false_iff_ne, bne_iff_ne, bne_eq_false_iff_eq, ne_eq] at h2'
      refine cS (cR ?_)
      refine asg rfl ?_
      refine rN ?_
      refine qN ?_
      refine cE ?_
      refine qBE ?_
      refine qE ?_
      refine kE rfl rfl  ?_
      first | (exfalso; contradiction) | exact ⟨_, ⟨by rw [snT, sineF_f h1 h2]; exact congrArg (Value.float .f32) (by decide), rfl⟩, (by (try simp only [List.cons_append, List.nil_append, List.append_assoc]); repeat' first | with_reducible apply eR | with_reducible apply eA | ((with_reducible apply xA); · repeat first | with_reducible apply lH | with_reducible apply lT | with_reducible apply lL) | ((with_reducible apply xC); · repeat first | apply pH | with_reducible apply pT | with_reducible apply pL) | with_reducible assumption | with_reducible apply eS | with_reducible apply eL | exact eR)⟩ | (exfalso; first | contradiction | omega | (simp_all; done) | (simp_all; omega))
    · have h2' := h2; try simp only [inB_iff, Bool.and_eq_true, decide_eq_true_eq, decide_eq_false_iff_not, beq_iff_eq, beq_eq_false_iff_ne, bne_iff_ne, bne_eq_false_iff_eq, ne_eq] at h2'
      refine cK ?_
      refine qBN ?_
      refine qN ?_
      refine cS (cR ?_)
      refine mv rfl ?_
      refine rCq rfl (c_sine _ _) ?_
      refine rNw rfl (by rw [← sineF_y h1 h2]; exact hok) ?_
      refine asg rfl ?_
      refine rN ?_
      refine qN ?_
      refine cE ?_
      refine kE rfl rfl  ?_
      first | (exfalso; contradiction) | exact ⟨_, ⟨by rw [snT, sineF_y h1 h2], rfl⟩, (by (try simp only [List.cons_append, List.nil_append, List.append_assoc]); repeat' first | with_reducible apply eR | with_reducible apply eA | ((with_reducible apply xA); · repeat first | with_reducible apply lH | with_reducible apply lT | with_reducible apply lL) | ((with_reducible apply xC); · repeat first | apply pH | with_reducible apply pT | with_reducible apply pL) | with_reducible assumption | with_reducible apply eS | with_reducible apply eL | exact eR)⟩ | (exfalso; first | contradiction | omega | (simp_all; done) | (simp_all; omega))
theorem c_l01SineWide (y : Nat) (M : Mem) : ACall Try.prog 85 [.float .f64 y] M fun v M' => v = .float .f64 (sineF y) ∧ M' = M := by
  skip
  skip
  skip
  skip
  refine acall_of_awp Try.func85 rfl Try.ntmps85 rfl ?_
  refine cS (cR ?_)
  refine asg rfl ?_
  refine rN ?_
  refine qN ?_
  refine cS ?_
  refine cS (cR ?_)
  refine mv rfl ?_
  refine mv rfl ?_
  refine fSb rfl rfl ?_
  refine fCm rfl rfl rfl ?_
  refine rN ?_
  refine qN ?_
  refine cC rfl (fun h1 => ?_) (fun h1 => ?_)
  · have h1' := h1; try simp only [inB_iff, Bool.and_eq_true, decide_eq_true_eq, decide_eq_false_iff_not, beq_iff_eq, beq_eq_false_iff_ne, bne_iff_ne, bne_eq_false_iff_eq, ne_eq] at h1'
    refine cS (cR ?_)
    refine rCq rfl (c_NaN _) ?_
    refine asg rfl ?_
    refine rN ?_
    refine qN ?_
    refine cE ?_
    refine qE ?_
    refine kE rfl rfl  ?_
    first | (exfalso; contradiction) | exact ⟨_, ⟨by rw [sineF_n (neq_t h1)], rfl⟩, (by (try simp only [List.cons_append, List.nil_append, List.append_assoc]); repeat' first | with_reducible apply eR | with_reducible apply eA | ((with_reducible apply xA); · repeat first | with_reducible apply lH | with_reducible apply lT | with_reducible apply lL) | ((with_reducible apply xC); · repeat first | apply pH | with_reducible apply pT | with_reducible apply pL) | with_reducible assumption | with_reducible apply eS | with_reducible apply eL | exact eR)⟩ | (exfalso; first | contradiction | omega | (simp_all; done) | (simp_all; omega))
  · have h1' := h1; try simp only [inB_iff, Bool.and_eq_true, decide_eq_true_eq, decide_eq_false_iff_not, beq_iff_eq, beq_eq_false_iff_ne, bne_iff_ne, bne_eq_false_iff_eq, ne_eq] at h1'
    refine cK ?_
    refine qN ?_
    refine cS ?_
    refine cS (cR ?_)
    refine mv rfl ?_
    refine fCm rfl rfl rfl ?_
    refine mv rfl ?_
    refine gC rfl rfl (fun c1 => ?_) (fun c1 => ?_)
    · have c1' := c1; try simp only [inB_iff, Bool.and_eq_true, decide_eq_true_eq, decide_eq_false_iff_not, beq_iff_eq, beq_eq_false_iff_ne, bne_iff_ne, bne_eq_false_iff_eq, ne_eq] at c1'
      refine gU rfl rfl c1 ?_
      refine gU rfl rfl c1 ?_
      refine kT rfl c1 rfl ?_
      refine rN ?_
      refine qN ?_
      refine cT rfl ?_
      refine cS (cR ?_)
      refine asg rfl ?_
      refine rN ?_
      refine qN ?_
      refine cE ?_
      refine qE ?_
      refine kE rfl rfl  ?_
      first | (exfalso; contradiction) | exact ⟨_, ⟨by rw [sineF_f (neq_f h1) (by unfold farB; first | (rw [c1]; rfl) | (rw [c1, c2]; rfl))]; try rfl, rfl⟩, (by (try simp only [List.cons_append, List.nil_append, List.append_assoc]); repeat' first | with_reducible apply eR | with_reducible apply eA | ((with_reducible apply xA); · repeat first | with_reducible apply lH | with_reducible apply lT | with_reducible apply lL) | ((with_reducible apply xC); · repeat first | apply pH | with_reducible apply pT | with_reducible apply pL) | with_reducible assumption | with_reducible apply eS | with_reducible apply eL | exact eR)⟩ | (exfalso; first | contradiction | omega | (simp_all; done) | (simp_all; omega))
    have c1' := c1; try simp only [inB_iff, Bool.and_eq_true, decide_eq_true_eq, decide_eq_false_iff_not, beq_iff_eq, beq_eq_false_iff_ne, bne_iff_ne, bne_eq_false_iff_eq, ne_eq] at c1'
    refine gG rfl rfl c1 ?_
    refine mv rfl ?_
    refine gG rfl rfl c1 ?_
    refine fCm rfl rfl rfl ?_
    refine kF rfl c1 rfl ?_
    refine rN ?_
    refine qN ?_
    refine cC rfl (fun c2 => ?_) (fun c2 => ?_)
    · have c2' := c2; try simp only [inB_iff, Bool.and_eq_true, decide_eq_true_eq, decide_eq_false_iff_not, beq_iff_eq, beq_eq_false_iff_ne, bne_iff_ne, bne_eq_false_iff_eq, ne_eq] at c2'
      refine cS (cR ?_)
      refine asg rfl ?_
      refine rN ?_
      refine qN ?_
      refine cE ?_
      refine qE ?_
      refine kE rfl rfl  ?_
      first | (exfalso; contradiction) | exact ⟨_, ⟨by rw [sineF_f (neq_f h1) (by unfold farB; first | (rw [c1]; rfl) | (rw [c1, c2]; rfl))]; try rfl, rfl⟩, (by (try simp only [List.cons_append, List.nil_append, List.append_assoc]); repeat' first | with_reducible apply eR | with_reducible apply eA | ((with_reducible apply xA); · repeat first | with_reducible apply lH | with_reducible apply lT | with_reducible apply lL) | ((with_reducible apply xC); · repeat first | apply pH | with_reducible apply pT | with_reducible apply pL) | with_reducible assumption | with_reducible apply eS | with_reducible apply eL | exact eR)⟩ | (exfalso; first | contradiction | omega | (simp_all; done) | (simp_all; omega))
    have c2' := c2; try simp only [inB_iff, Bool.and_eq_true, decide_eq_true_eq, decide_eq_false_iff_not, beq_iff_eq, beq_eq_false_iff_ne, bne_iff_ne, bne_eq_false_iff_eq, ne_eq] at c2'
    refine cK ?_
    refine qN ?_
    refine cS (cR ?_)
    refine mv rfl ?_
    refine mv rfl ?_
    have hfar : farB y = false := by unfold farB; rw [c1, c2]; rfl
    obtain ⟨a, ha, haa⟩ := near_sv (neq_f h1) hfar
    obtain ⟨i, hi1, hi2, hi3, hi4, hi5⟩ := whF_eq ha haa
    refine rFT hi1 rfl (by omega) ?_
    refine rp rfl ?_
    refine fSb rfl rfl ?_
    refine asg rfl ?_
    refine rN ?_
    refine qN ?_
    rw [sineF_y (neq_f h1) hfar]
    refine cM1 (fun (g : Nat) => [(3, .float .f64 g)]) [] (fun (g : Nat) => M) (fun (g : Nat) => g = fr0 y) (by repeat first | exact Sub.nil _ | refine Sub.cons rfl ?_) ?_ ?_
    · refine cS (cR ?_)
      refine mv rfl ?_
      refine fCm rfl rfl rfl ?_
      refine rN ?_
      refine qN ?_
      refine cC rfl (fun c3 => ?_) (fun c3 => ?_)
      · have c3' := c3; try simp only [inB_iff, Bool.and_eq_true, decide_eq_true_eq, decide_eq_false_iff_not, beq_iff_eq, beq_eq_false_iff_ne, bne_iff_ne, bne_eq_false_iff_eq, ne_eq] at c3'
        refine cR ?_
        refine mv rfl ?_
        refine fAd rfl rfl ?_
        refine asg rfl ?_
        refine rN ?_
        refine qL1 (_) ?_ (by exact Nat.zero_lt_one) (by repeat first | exact Sub.nil _ | refine Sub.cons rfl ?_) (by (try simp only [List.cons_append, List.nil_append, List.append_assoc]); repeat' first | with_reducible apply eR | with_reducible apply eA | ((with_reducible apply xA); · repeat first | with_reducible apply lH | with_reducible apply lT | with_reducible apply lL) | ((with_reducible apply xC); · repeat first | apply pH | with_reducible apply pT | with_reducible apply pL) | with_reducible assumption | with_reducible apply eS | with_reducible apply eL | exact eR)
        first | (unfold fr0 fr1; rw [hi3, c3]; rfl)
      · have c3' := c3; try simp only [inB_iff, Bool.and_eq_true, decide_eq_true_eq, decide_eq_false_iff_not, beq_iff_eq, beq_eq_false_iff_ne, bne_iff_ne, bne_eq_false_iff_eq, ne_eq] at c3'
        refine cK ?_
        refine qL1 (_) ?_ (by exact Nat.zero_lt_one) (by repeat first | exact Sub.nil _ | refine Sub.cons rfl ?_) (by (try simp only [List.cons_append, List.nil_append, List.append_assoc]); repeat' first | with_reducible apply eR | with_reducible apply eA | ((with_reducible apply xA); · repeat first | with_reducible apply lH | with_reducible apply lT | with_reducible apply lL) | ((with_reducible apply xC); · repeat first | apply pH | with_reducible apply pT | with_reducible apply pL) | with_reducible assumption | with_reducible apply eS | with_reducible apply eL | exact eR)
        first | (unfold fr0 fr1; rw [hi3, c3]; rfl)
    · rintro g rfl
      refine wT (T' := [(3, _)]) rfl ?_
      refine cS (cR ?_)
      refine mv rfl ?_
      refine fCm rfl rfl rfl ?_
      refine asg rfl ?_
      refine rN ?_
      refine qN ?_
      refine cM1 (fun (g : Nat) => [(3, .float .f64 g)]) [(4, _)] (fun (g : Nat) => M) (fun (g : Nat) => g = fr2 (fr0 y)) (by repeat first | exact Sub.nil _ | refine Sub.cons rfl ?_) ?_ ?_
      · refine cS (cR ?_)
        refine mv rfl ?_
        refine rN ?_
        refine qN ?_
        refine cC rfl (fun c4 => ?_) (fun c4 => ?_)
        · have c4' := c4; try simp only [inB_iff, Bool.and_eq_true, decide_eq_true_eq, decide_eq_false_iff_not, beq_iff_eq, beq_eq_false_iff_ne, bne_iff_ne, bne_eq_false_iff_eq, ne_eq] at c4'
          refine cR ?_
          refine mv rfl ?_
          refine fSb rfl rfl ?_
          refine asg rfl ?_
          refine rN ?_
          refine qL1 (_) ?_ (by exact Nat.zero_lt_one) (by repeat first | exact Sub.nil _ | refine Sub.cons rfl ?_) (by (try simp only [List.cons_append, List.nil_append, List.append_assoc]); repeat' first | with_reducible apply eR | with_reducible apply eA | ((with_reducible apply xA); · repeat first | with_reducible apply lH | with_reducible apply lT | with_reducible apply lL) | ((with_reducible apply xC); · repeat first | apply pH | with_reducible apply pT | with_reducible apply pL) | with_reducible assumption | with_reducible apply eS | with_reducible apply eL | exact eR)
          first | (unfold fr2 tuB; rw [c4]; rfl)
        · have c4' := c4; try simp only [inB_iff, Bool.and_eq_true, decide_eq_true_eq, decide_eq_false_iff_not, beq_iff_eq, beq_eq_false_iff_ne, bne_iff_ne, bne_eq_false_iff_eq, ne_eq] at c4'
          refine cK ?_
          refine qL1 (_) ?_ (by exact Nat.zero_lt_one) (by repeat first | exact Sub.nil _ | refine Sub.cons rfl ?_) (by (try simp only [List.cons_append, List.nil_append, List.append_assoc]); repeat' first | with_reducible apply eR | with_reducible apply eA | ((with_reducible apply xA); · repeat first | with_reducible apply lH | with_reducible apply lT | with_reducible apply lL) | ((with_reducible apply xC); · repeat first | apply pH | with_reducible apply pT | with_reducible apply pL) | with_reducible assumption | with_reducible apply eS | with_reducible apply eL | exact eR)
          first | (unfold fr2 tuB; rw [c4]; rfl)
      · rintro g rfl
        refine wT (T' := [(3, _), (4, _)]) rfl ?_
        refine cM1 (fun (g : Nat) => [(3, .float .f64 g)]) [(4, _)] (fun (g : Nat) => M) (fun (g : Nat) => g = fr3 (fr0 y)) (by repeat first | exact Sub.nil _ | refine Sub.cons rfl ?_) ?_ ?_
        · refine cS (cR ?_)
          refine mv rfl ?_
          refine fCm rfl rfl rfl ?_
          refine rN ?_
          refine qN ?_
          refine cC rfl (fun c5 => ?_) (fun c5 => ?_)
          · have c5' := c5; try simp only [inB_iff, Bool.and_eq_true, decide_eq_true_eq, decide_eq_false_iff_not, beq_iff_eq, beq_eq_false_iff_ne, bne_iff_ne, bne_eq_false_iff_eq, ne_eq] at c5'
            refine cR ?_
            refine mv rfl ?_
            refine fSb rfl rfl ?_
            refine asg rfl ?_
            refine rN ?_
            refine qL1 (_) ?_ (by exact Nat.zero_lt_one) (by repeat first | exact Sub.nil _ | refine Sub.cons rfl ?_) (by (try simp only [List.cons_append, List.nil_append, List.append_assoc]); repeat' first | with_reducible apply eR | with_reducible apply eA | ((with_reducible apply xA); · repeat first | with_reducible apply lH | with_reducible apply lT | with_reducible apply lL) | ((with_reducible apply xC); · repeat first | apply pH | with_reducible apply pT | with_reducible apply pL) | with_reducible assumption | with_reducible apply eS | with_reducible apply eL | exact eR)
            first | (unfold fr3; rw [c5]; rfl)
          · have c5' := c5; try simp only [inB_iff, Bool.and_eq_true, decide_eq_true_eq, decide_eq_false_iff_not, beq_iff_eq, beq_eq_false_iff_ne, bne_iff_ne, bne_eq_false_iff_eq, ne_eq] at c5'
            refine cK ?_
            refine qL1 (_) ?_ (by exact Nat.zero_lt_one) (by repeat first | exact Sub.nil _ | refine Sub.cons rfl ?_) (by (try simp only [List.cons_append, List.nil_append, List.append_assoc]); repeat' first | with_reducible apply eR | with_reducible apply eA | ((with_reducible apply xA); · repeat first | with_reducible apply lH | with_reducible apply lT | with_reducible apply lL) | ((with_reducible apply xC); · repeat first | apply pH | with_reducible apply pT | with_reducible apply pL) | with_reducible assumption | with_reducible apply eS | with_reducible apply eL | exact eR)
            first | (unfold fr3; rw [c5]; rfl)
        · rintro g rfl
          refine wT (T' := [(3, _), (4, _)]) rfl ?_
          refine cS (cR ?_)
          refine mv rfl ?_
          refine fMl rfl rfl ?_
          refine asg rfl ?_
          refine rN ?_
          refine qN ?_
          refine cS (cR ?_)
          refine mv rfl ?_
          refine mv rfl ?_
          refine fMl rfl rfl ?_
          refine asg rfl ?_
          refine rN ?_
          refine qN ?_
          refine cS (cR ?_)
          refine asg rfl ?_
          refine rN ?_
          refine qN ?_
          refine cS ?_
          refine cS (cR ?_)
          refine asg rfl ?_
          refine rN ?_
          refine qN ?_
          refine cB ?_
          clear hi1 hi2 hi3 hi4 hi5 haa ha
          refine cL3 (fun (j : Nat) (i : Int) (p : Nat) => [(8, .int .i64 i), (7, .float .f64 p)]) [(4, _), (5, _), (6, _)] (fun (j : Nat) (i : Int) (p : Nat) => M) (fun (j : Nat) (i : Int) (p : Nat) => 8 - j) (fun (j : Nat) (i : Int) (p : Nat) => (j ≤ 8 ∧ i = 8 - (j : Int)) ∧ p = pkF (fmul .f64 (zuF (fr0 y)) (zuF (fr0 y))) j) (0) (8) (_) (by repeat first | exact Sub.nil _ | refine Sub.cons rfl ?_) (by (try simp only [List.cons_append, List.nil_append, List.append_assoc]); repeat' first | with_reducible apply eR | with_reducible apply eA | ((with_reducible apply xA); · repeat first | with_reducible apply lH | with_reducible apply lT | with_reducible apply lL) | ((with_reducible apply xC); · repeat first | apply pH | with_reducible apply pT | with_reducible apply pL) | with_reducible assumption | with_reducible apply eS | with_reducible apply eL | exact eR) (by exact ⟨⟨Nat.zero_le _, rfl⟩, rfl⟩) ?_
          rintro j i p ⟨⟨hj, hi⟩, rfl⟩
          refine wT (T' := [(8, _), (7, _), (4, _), (5, _), (6, _)]) rfl ?_
          refine cS ?_
          refine cS (cR ?_)
          refine mv rfl ?_
          refine bGeq rfl rfl ?_
          refine rN ?_
          refine qN ?_
          refine cC rfl (fun c6 => ?_) (fun c6 => ?_)
          · have c6' := c6; try simp only [inB_iff, Bool.and_eq_true, decide_eq_true_eq, decide_eq_false_iff_not, beq_iff_eq, beq_eq_false_iff_ne, bne_iff_ne, bne_eq_false_iff_eq, ne_eq] at c6'
            refine cK ?_
            refine qN ?_
            refine cS ?_
            refine cB ?_
            refine cR ?_
            refine mv rfl ?_
            refine mv rfl ?_
            refine fMl rfl rfl ?_
            refine mv rfl ?_
            first | refine rMlk rfl rfl (by with_reducible assumption) (by omega) ?_ | refine rMl rfl rfl (by first | omega | assumption) (by first | omega | assumption) ?_ | refine bMul rfl rfl ?_
            refine mv rfl ?_
            first | refine rMlk rfl rfl (by with_reducible assumption) (by omega) ?_ | refine rMl rfl rfl (by first | omega | assumption) (by first | omega | assumption) ?_ | refine bMul rfl rfl ?_
            first | refine rAn (b := 1) rfl rfl (by omega) ?_ | refine rA rfl rfl (by omega) (by omega) ?_ | refine bAdd rfl rfl ?_
            refine rMl rfl rfl (by have := q_bd (i := i) (by omega) (by omega); omega) (by have := q_bd (i := i) (by omega) (by omega); omega) ?_
            refine rp rfl ?_
            refine fDv rfl rfl ?_
            refine fSb rfl rfl ?_
            refine asg rfl ?_
            refine rN ?_
            refine qBN ?_
            refine qN ?_
            refine cR ?_
            refine mv rfl ?_
            first | refine rB rfl rfl (by omega) (by omega) ?_ | refine bSub rfl rfl ?_
            refine asg rfl ?_
            refine rN ?_
            refine qL3 (j + 1) (_) (_) ?_ (by omega) (by repeat first | exact Sub.nil _ | refine Sub.cons rfl ?_) (by (try simp only [List.cons_append, List.nil_append, List.append_assoc]); repeat' first | with_reducible apply eR | with_reducible apply eA | ((with_reducible apply xA); · repeat first | with_reducible apply lH | with_reducible apply lT | with_reducible apply lL) | ((with_reducible apply xC); · repeat first | apply pH | with_reducible apply pT | with_reducible apply pL) | with_reducible assumption | with_reducible apply eS | with_reducible apply eL | exact eR)
            exact ⟨⟨by omega, by omega⟩, by subst hi; rfl⟩
          · have c6' := c6; try simp only [inB_iff, Bool.and_eq_true, decide_eq_true_eq, decide_eq_false_iff_not, beq_iff_eq, beq_eq_false_iff_ne, bne_iff_ne, bne_eq_false_iff_eq, ne_eq] at c6'
            have : j = 8 := by omega
            subst this
            refine cX ?_
            refine qX ?_
            refine qL3X ?_
            refine qBX ?_
            refine qN ?_
            refine cS ?_
            refine cS (cR ?_)
            refine mv rfl ?_
            refine rN ?_
            refine qN ?_
            refine cC rfl (fun c7 => ?_) (fun c7 => ?_)
            · have c7' := c7; try simp only [inB_iff, Bool.and_eq_true, decide_eq_true_eq, decide_eq_false_iff_not, beq_iff_eq, beq_eq_false_iff_ne, bne_iff_ne, bne_eq_false_iff_eq, ne_eq] at c7'
              refine cS (cR ?_)
              refine mv rfl ?_
              refine mv rfl ?_
              refine fMl rfl rfl ?_
              refine rp rfl ?_
              refine asg rfl ?_
              refine rN ?_
              refine qN ?_
              refine cE ?_
              refine qE ?_
              refine kE rfl rfl  ?_
              first | (exfalso; contradiction) | exact ⟨_, ⟨by first | (unfold snF tuB; rw [c7]; rfl) | (unfold snF tuB; rw [c6]; rfl) | (unfold snF tuB; rw [c8]; rfl), rfl⟩, (by (try simp only [List.cons_append, List.nil_append, List.append_assoc]); repeat' first | with_reducible apply eR | with_reducible apply eA | ((with_reducible apply xA); · repeat first | with_reducible apply lH | with_reducible apply lT | with_reducible apply lL) | ((with_reducible apply xC); · repeat first | apply pH | with_reducible apply pT | with_reducible apply pL) | with_reducible assumption | with_reducible apply eS | with_reducible apply eL | exact eR)⟩ | (exfalso; first | contradiction | omega | (simp_all; done) | (simp_all; omega))
            · have c7' := c7; try simp only [inB_iff, Bool.and_eq_true, decide_eq_true_eq, decide_eq_false_iff_not, beq_iff_eq, beq_eq_false_iff_ne, bne_iff_ne, bne_eq_false_iff_eq, ne_eq] at c7'
              refine cK ?_
              refine qN ?_
              refine cS (cR ?_)
              refine mv rfl ?_
              refine mv rfl ?_
              refine fMl rfl rfl ?_
              refine asg rfl ?_
              refine rN ?_
              refine qN ?_
              refine cE ?_
              refine kE rfl rfl  ?_
              first | (exfalso; contradiction) | exact ⟨_, ⟨by first | (unfold snF tuB; rw [c7]; rfl) | (unfold snF tuB; rw [c6]; rfl) | (unfold snF tuB; rw [c8]; rfl), rfl⟩, (by (try simp only [List.cons_append, List.nil_append, List.append_assoc]); repeat' first | with_reducible apply eR | with_reducible apply eA | ((with_reducible apply xA); · repeat first | with_reducible apply lH | with_reducible apply lT | with_reducible apply lL) | ((with_reducible apply xC); · repeat first | apply pH | with_reducible apply pT | with_reducible apply pL) | with_reducible assumption | with_reducible apply eS | with_reducible apply eL | exact eR)⟩ | (exfalso; first | contradiction | omega | (simp_all; done) | (simp_all; omega))
-- @reg spec.l01Sine : c_l01Sine _ _
theorem c_l01Sine (x : Nat) (M : Mem) : ACall Try.prog 59 [.float .f32 x] M fun v M' => v = .float .f32 (snT x) ∧ M' = M := by
  have hok := sineF_ok (fwid x)
  skip
  skip
  skip
  refine acall_of_awp Try.func59 rfl Try.ntmps59 rfl ?_
  refine cS (cR ?_)
  refine asg rfl ?_
  refine rN ?_
  refine qN ?_
  refine cS (cR ?_)
  refine mv rfl ?_
  refine rW rfl ?_
  refine rCq rfl (c_l01SineWide _ _) ?_
  refine rCq rfl (c_l01Narrow _ _ (by with_reducible assumption)) ?_
  refine asg rfl ?_
  refine rN ?_
  refine qN ?_
  refine cE ?_
  refine kE rfl rfl  ?_
  first | (exfalso; contradiction) | exact ⟨_, ⟨rfl, rfl⟩, (by (try simp only [List.cons_append, List.nil_append, List.append_assoc]); repeat' first | with_reducible apply eR | with_reducible apply eA | ((with_reducible apply xA); · repeat first | with_reducible apply lH | with_reducible apply lT | with_reducible apply lL) | ((with_reducible apply xC); · repeat first | apply pH | with_reducible apply pT | with_reducible apply pL) | with_reducible assumption | with_reducible apply eS | with_reducible apply eL | exact eR)⟩ | (exfalso; first | contradiction | omega | (simp_all; done) | (simp_all; omega))
end Go.Proofs.Ytfjancbmecfjgaa.Ab
