/-
  Walks: the greatest of a list, and the shift at which two lists are most alike.
-/
import Derived.Test.YtfjancbmecfjgaaRs
namespace Go.Proofs.Ytfjancbmecfjgaa.Ab
open Go Go.RowKit
attribute [local irreducible] Run Then InBlock LoopQ LQ1 LQ2 LQ3 LQ4 LQ5 LQ6 AWp Ret ACall
set_option linter.unusedVariables false
set_option linter.unusedSimpArgs false

theorem gtr_nan {x y : Nat} (h : fcmp .eql .f32 x x = false) : fcmp .gtr .f32 x y = false := by
  rw [fcmp_eql_self] at h
  have hn : nanB .f32 x = true := by simpa using h
  unfold fcmp
  simp only [order_nan_l hn]
  rfl
/-- the place of the greatest of the first k numbers, the first one of several; -1 if there is none -/
def bst (xs : List Nat) : Nat → Int
  | 0 => -1
  | k + 1 => if (decide (bst xs k < 0) && fcmp .eql .f32 (xs.getD k 0) (xs.getD k 0)) || (decide (0 ≤ bst xs k) && fcmp .gtr .f32 (xs.getD k 0) (xs.getD (bst xs k).toNat 0)) then (k : Int) else bst xs k
theorem bst_bd (xs : List Nat) : ∀ k, -1 ≤ bst xs k ∧ bst xs k < k
  | 0 => by simp [bst]
  | k + 1 => by
    have := bst_bd xs k
    unfold bst
    split <;> omega

-- @reg impl.best : c_best _ _ _ _ _ @RD@ @BD@
theorem c_best (a : Option Addr) (n c : Nat) (xs : List Nat) (M : Mem) (h : RdF M a n xs) (hn : n ≤ 1073741824) :
    ACall Try.prog 44 [.slice a n c] M fun v M' => v = .int .i64 (bst xs n) ∧ M' = M := by
  have hl := h.len
  refine acall_of_awp Try.func44 rfl Try.ntmps44 rfl ?_
  refine cS (cR ?_)
  refine asg rfl ?_
  refine rN ?_
  refine qN ?_
  refine cS (cR ?_)
  refine asg rfl ?_
  refine rN ?_
  refine qN ?_
  refine cS ?_
  refine cS (cR ?_)
  refine mv rfl ?_
  refine ln rfl ?_
  refine mv rfl ?_
  refine rN ?_
  refine qN ?_
  refine cB ?_
  refine cL2 (fun (k : Nat) (o : Int) => [(8, .int .i64 (k : Nat)), (3, .int .i64 o)]) [(0, _), (6, _), (7, _)] (fun (k : Nat) (o : Int) => M) (fun (k : Nat) (o : Int) => n - k) (fun (k : Nat) (o : Int) => k ≤ n ∧ -1 ≤ o ∧ o < k ∧ o = bst xs k) (0) (-1) (by repeat first | exact Sub.nil _ | refine Sub.cons rfl ?_) (by (try simp only [List.cons_append, List.nil_append, List.append_assoc]); repeat' first | with_reducible apply eR | with_reducible apply eA | ((with_reducible apply xA); · repeat first | with_reducible apply lH | with_reducible apply lT | with_reducible apply lL) | ((with_reducible apply xC); · repeat first | apply pH | with_reducible apply pT | with_reducible apply pL) | with_reducible assumption | with_reducible apply eS | with_reducible apply eL | exact eR) (by exact ⟨Nat.zero_le _, by decide, by decide, rfl⟩) ?_
  rintro k o ⟨hk, ho1, ho2, hb⟩
  refine wT (T' := [(8, _), (3, _), (0, _), (6, _), (7, _)]) rfl ?_
  refine cS (cR ?_)
  refine bLss rfl rfl ?_
  refine rN ?_
  refine qN ?_
  refine cS ?_
  refine cC rfl (fun c1 => ?_) (fun c1 => ?_)
  · have c1' := c1; try simp only [inB_iff, Bool.and_eq_true, decide_eq_true_eq, decide_eq_false_iff_not, beq_iff_eq, beq_eq_false_iff_ne, bne_iff_ne, bne_eq_false_iff_eq, ne_eq] at c1'
    refine cK ?_
    refine qN ?_
    refine cS ?_
    refine cB ?_
    refine cS (cR ?_)
    refine mv rfl ?_
    first
      | refine ixN rfl rfl (by first | (apply RdC.aok; with_reducible assumption) | exact AOk.own | (apply RdD.aok; with_reducible assumption) | (apply RdD.aok; apply OwD.rdD; with_reducible assumption) | (apply RdI.aok; with_reducible assumption) | (apply RdW.aok; with_reducible assumption) | (apply RdI.aok; apply OwI.rdI; with_reducible assumption) | with_reducible assumption | (apply RdF.aok; with_reducible assumption) | (apply RdF.aok; apply OwF.rdF; with_reducible assumption)) (by first | with_reducible assumption | omega) ?_
      | refine ixI rfl rfl (by first | (apply RdC.aok; with_reducible assumption) | exact AOk.own | (apply RdD.aok; with_reducible assumption) | (apply RdD.aok; apply OwD.rdD; with_reducible assumption) | (apply RdI.aok; with_reducible assumption) | (apply RdW.aok; with_reducible assumption) | (apply RdI.aok; apply OwI.rdI; with_reducible assumption) | with_reducible assumption | (apply RdF.aok; with_reducible assumption) | (apply RdF.aok; apply OwF.rdF; with_reducible assumption)) (by omega) (by omega) ?_
    refine ldF rfl (by first | with_reducible assumption | ((try first | with_reducible apply RdF.sub | with_reducible apply RdF.sub0) <;> first | with_reducible assumption | (apply RdF.mono; (· (with_reducible assumption)); · (try simp only [List.cons_append, List.nil_append, List.append_assoc]); repeat' first | with_reducible apply eR | with_reducible apply eA | ((with_reducible apply xA); · repeat first | with_reducible apply lH | with_reducible apply lT | with_reducible apply lL) | ((with_reducible apply xC); · repeat first | apply pH | with_reducible apply pT | with_reducible apply pL) | with_reducible assumption | with_reducible apply eS | with_reducible apply eL | exact eR) | (apply RdF.mono; (· (apply OwF.rdF; with_reducible assumption)); · (try simp only [List.cons_append, List.nil_append, List.append_assoc]); repeat' first | with_reducible apply eR | with_reducible apply eA | ((with_reducible apply xA); · repeat first | with_reducible apply lH | with_reducible apply lT | with_reducible apply lL) | ((with_reducible apply xC); · repeat first | apply pH | with_reducible apply pT | with_reducible apply pL) | with_reducible assumption | with_reducible apply eS | with_reducible apply eL | exact eR) | (apply RdF.ownm; (· repeat first | with_reducible assumption | with_reducible apply List.mem_cons_self | with_reducible apply List.mem_cons_of_mem | with_reducible apply List.mem_append_right | exact List.Mem.head _); · first | rfl | with_reducible assumption | omega | simp [*]) | with_reducible assumption | omega | (simp; done) | (simp; omega) | (simp only [Bool.and_eq_true, inB_iff] at *; omega))) (by first | with_reducible assumption | omega) ?_
    refine asg rfl ?_
    refine asg rfl ?_
    refine rN ?_
    refine qN ?_
    refine cS (cR ?_)
    refine mv rfl ?_
    refine bLss rfl rfl ?_
    refine mv rfl ?_
    refine gC rfl rfl (fun c2 => ?_) (fun c2 => ?_)
    · have c2' := c2; try simp only [inB_iff, Bool.and_eq_true, decide_eq_true_eq, decide_eq_false_iff_not, beq_iff_eq, beq_eq_false_iff_ne, bne_iff_ne, bne_eq_false_iff_eq, ne_eq] at c2'
      refine gG rfl rfl c2 ?_
      refine mv rfl ?_
      refine gG rfl rfl c2 ?_
      refine mv rfl ?_
      refine gG rfl rfl c2 ?_
      refine fCm rfl rfl rfl ?_
      refine kT rfl c2 rfl ?_
      refine mv rfl ?_
      refine gC rfl rfl (fun c3 => ?_) (fun c3 => ?_)
      · have c3' := c3; try simp only [inB_iff, Bool.and_eq_true, decide_eq_true_eq, decide_eq_false_iff_not, beq_iff_eq, beq_eq_false_iff_ne, bne_iff_ne, bne_eq_false_iff_eq, ne_eq] at c3'
        refine gU rfl rfl c3 ?_
        refine gU rfl rfl c3 ?_
        refine gU rfl rfl c3 ?_
        refine gN rfl rfl ?_
        refine gN rfl rfl ?_
        refine gN rfl rfl ?_
        refine gN rfl rfl ?_
        refine gN rfl rfl ?_
        refine gN rfl rfl ?_
        refine gU rfl rfl c3 ?_
        refine kT rfl c3 rfl ?_
        refine rN ?_
        refine qN ?_
        refine cT rfl ?_
        refine cR ?_
        refine mv rfl ?_
        refine asg rfl ?_
        refine rN ?_
        refine qBN ?_
        refine qN ?_
        refine cR ?_
        first | refine rAn (b := 1) rfl rfl (by omega) ?_ | refine rA rfl rfl (by omega) (by omega) ?_ | refine bAdd rfl rfl ?_
        refine mv rfl ?_
        refine rN ?_
        refine qL2 (k + 1) (_) ?_ (by omega) (by repeat first | exact Sub.nil _ | refine Sub.cons rfl ?_) (by (try simp only [List.cons_append, List.nil_append, List.append_assoc]); repeat' first | with_reducible apply eR | with_reducible apply eA | ((with_reducible apply xA); · repeat first | with_reducible apply lH | with_reducible apply lT | with_reducible apply lL) | ((with_reducible apply xC); · repeat first | apply pH | with_reducible apply pT | with_reducible apply pL) | with_reducible assumption | with_reducible apply eS | with_reducible apply eL | exact eR)
        first | (subst hb; refine ⟨by omega, by omega, by omega, ?_⟩; simp only [bst, *, Bool.true_and, Bool.and_true, Bool.false_and, Bool.and_false, Bool.or_false, Bool.false_or, Bool.or_true, Bool.true_or, Bool.not_true, Bool.not_false, if_true, if_false, Bool.false_eq_true, decide_true, decide_false, cond_true, cond_false])
      · have c3' := c3; try simp only [inB_iff, Bool.and_eq_true, decide_eq_true_eq, decide_eq_false_iff_not, beq_iff_eq, beq_eq_false_iff_ne, bne_iff_ne, bne_eq_false_iff_eq, ne_eq] at c3'
        refine gG rfl rfl c3 ?_
        refine mv rfl ?_
        refine gG rfl rfl c3 ?_
        refine bGeq rfl rfl ?_
        refine gG rfl rfl c3 ?_
        refine mv rfl ?_
        refine gC rfl rfl (fun c4 => ?_) (fun c4 => ?_)
        · have c4' := c4; try simp only [inB_iff, Bool.and_eq_true, decide_eq_true_eq, decide_eq_false_iff_not, beq_iff_eq, beq_eq_false_iff_ne, bne_iff_ne, bne_eq_false_iff_eq, ne_eq] at c4'
          refine gG rfl rfl c4 ?_
          refine mv rfl ?_
          refine gG rfl rfl c4 ?_
          refine mv rfl ?_
          refine gG rfl rfl c4 ?_
          refine mv rfl ?_
          refine gG rfl rfl c4 ?_
          first
            | refine ixN rfl rfl (by first | (apply RdC.aok; with_reducible assumption) | exact AOk.own | (apply RdD.aok; with_reducible assumption) | (apply RdD.aok; apply OwD.rdD; with_reducible assumption) | (apply RdI.aok; with_reducible assumption) | (apply RdW.aok; with_reducible assumption) | (apply RdI.aok; apply OwI.rdI; with_reducible assumption) | with_reducible assumption | (apply RdF.aok; with_reducible assumption) | (apply RdF.aok; apply OwF.rdF; with_reducible assumption)) (by first | with_reducible assumption | omega) ?_
            | refine ixI rfl rfl (by first | (apply RdC.aok; with_reducible assumption) | exact AOk.own | (apply RdD.aok; with_reducible assumption) | (apply RdD.aok; apply OwD.rdD; with_reducible assumption) | (apply RdI.aok; with_reducible assumption) | (apply RdW.aok; with_reducible assumption) | (apply RdI.aok; apply OwI.rdI; with_reducible assumption) | with_reducible assumption | (apply RdF.aok; with_reducible assumption) | (apply RdF.aok; apply OwF.rdF; with_reducible assumption)) (by omega) (by omega) ?_
          refine gG rfl rfl c4 ?_
          refine ldF rfl (by first | with_reducible assumption | ((try first | with_reducible apply RdF.sub | with_reducible apply RdF.sub0) <;> first | with_reducible assumption | (apply RdF.mono; (· (with_reducible assumption)); · (try simp only [List.cons_append, List.nil_append, List.append_assoc]); repeat' first | with_reducible apply eR | with_reducible apply eA | ((with_reducible apply xA); · repeat first | with_reducible apply lH | with_reducible apply lT | with_reducible apply lL) | ((with_reducible apply xC); · repeat first | apply pH | with_reducible apply pT | with_reducible apply pL) | with_reducible assumption | with_reducible apply eS | with_reducible apply eL | exact eR) | (apply RdF.mono; (· (apply OwF.rdF; with_reducible assumption)); · (try simp only [List.cons_append, List.nil_append, List.append_assoc]); repeat' first | with_reducible apply eR | with_reducible apply eA | ((with_reducible apply xA); · repeat first | with_reducible apply lH | with_reducible apply lT | with_reducible apply lL) | ((with_reducible apply xC); · repeat first | apply pH | with_reducible apply pT | with_reducible apply pL) | with_reducible assumption | with_reducible apply eS | with_reducible apply eL | exact eR) | (apply RdF.ownm; (· repeat first | with_reducible assumption | with_reducible apply List.mem_cons_self | with_reducible apply List.mem_cons_of_mem | with_reducible apply List.mem_append_right | exact List.Mem.head _); · first | rfl | with_reducible assumption | omega | simp [*]) | with_reducible assumption | omega | (simp; done) | (simp; omega) | (simp only [Bool.and_eq_true, inB_iff] at *; omega))) (by first | with_reducible assumption | omega) ?_
          refine gG rfl rfl c4 ?_
          refine fCm rfl rfl rfl ?_
          refine gG rfl rfl c3 ?_
          refine kT rfl c4 rfl ?_
          refine kF rfl c3 rfl ?_
          refine rN ?_
          refine qN ?_
          refine cC rfl (fun c5 => ?_) (fun c5 => ?_)
          · have c5' := c5; try simp only [inB_iff, Bool.and_eq_true, decide_eq_true_eq, decide_eq_false_iff_not, beq_iff_eq, beq_eq_false_iff_ne, bne_iff_ne, bne_eq_false_iff_eq, ne_eq] at c5'
            refine cR ?_
            refine mv rfl ?_
            refine asg rfl ?_
            refine rN ?_
            refine qBN ?_
            refine qN ?_
            refine cR ?_
            first | refine rAn (b := 1) rfl rfl (by omega) ?_ | refine rA rfl rfl (by omega) (by omega) ?_ | refine bAdd rfl rfl ?_
            refine mv rfl ?_
            refine rN ?_
            refine qL2 (k + 1) (_) ?_ (by omega) (by repeat first | exact Sub.nil _ | refine Sub.cons rfl ?_) (by (try simp only [List.cons_append, List.nil_append, List.append_assoc]); repeat' first | with_reducible apply eR | with_reducible apply eA | ((with_reducible apply xA); · repeat first | with_reducible apply lH | with_reducible apply lT | with_reducible apply lL) | ((with_reducible apply xC); · repeat first | apply pH | with_reducible apply pT | with_reducible apply pL) | with_reducible assumption | with_reducible apply eS | with_reducible apply eL | exact eR)
            first | (subst hb; refine ⟨by omega, by omega, by omega, ?_⟩; simp only [bst, *, Bool.true_and, Bool.and_true, Bool.false_and, Bool.and_false, Bool.or_false, Bool.false_or, Bool.or_true, Bool.true_or, Bool.not_true, Bool.not_false, if_true, if_false, Bool.false_eq_true, decide_true, decide_false, cond_true, cond_false])
          · have c5' := c5; try simp only [inB_iff, Bool.and_eq_true, decide_eq_true_eq, decide_eq_false_iff_not, beq_iff_eq, beq_eq_false_iff_ne, bne_iff_ne, bne_eq_false_iff_eq, ne_eq] at c5'
            refine cK ?_
            refine qBN ?_
            refine qN ?_
            refine cR ?_
            first | refine rAn (b := 1) rfl rfl (by omega) ?_ | refine rA rfl rfl (by omega) (by omega) ?_ | refine bAdd rfl rfl ?_
            refine mv rfl ?_
            refine rN ?_
            refine qL2 (k + 1) (_) ?_ (by omega) (by repeat first | exact Sub.nil _ | refine Sub.cons rfl ?_) (by (try simp only [List.cons_append, List.nil_append, List.append_assoc]); repeat' first | with_reducible apply eR | with_reducible apply eA | ((with_reducible apply xA); · repeat first | with_reducible apply lH | with_reducible apply lT | with_reducible apply lL) | ((with_reducible apply xC); · repeat first | apply pH | with_reducible apply pT | with_reducible apply pL) | with_reducible assumption | with_reducible apply eS | with_reducible apply eL | exact eR)
            first | (subst hb; refine ⟨by omega, by omega, by omega, ?_⟩; simp only [bst, *, Bool.true_and, Bool.and_true, Bool.false_and, Bool.and_false, Bool.or_false, Bool.false_or, Bool.or_true, Bool.true_or, Bool.not_true, Bool.not_false, if_true, if_false, Bool.false_eq_true, decide_true, decide_false, cond_true, cond_false])
        · have c4' := c4; try simp only [inB_iff, Bool.and_eq_true, decide_eq_true_eq, decide_eq_false_iff_not, beq_iff_eq, beq_eq_false_iff_ne, bne_iff_ne, bne_eq_false_iff_eq, ne_eq] at c4'
          refine gS rfl rfl c4 ?_
          refine gS rfl rfl c4 ?_
          refine gS rfl rfl c4 ?_
          refine gS rfl rfl c4 ?_
          refine gS rfl rfl c4 ?_
          refine gS rfl rfl c4 ?_
          refine gG rfl rfl c3 ?_
          refine kF rfl c4 rfl ?_
          refine kF rfl c3 rfl ?_
          refine rN ?_
          refine qN ?_
          refine cF rfl ?_
          refine cK ?_
          refine qBN ?_
          refine qN ?_
          refine cR ?_
          first | refine rAn (b := 1) rfl rfl (by omega) ?_ | refine rA rfl rfl (by omega) (by omega) ?_ | refine bAdd rfl rfl ?_
          refine mv rfl ?_
          refine rN ?_
          refine qL2 (k + 1) (_) ?_ (by omega) (by repeat first | exact Sub.nil _ | refine Sub.cons rfl ?_) (by (try simp only [List.cons_append, List.nil_append, List.append_assoc]); repeat' first | with_reducible apply eR | with_reducible apply eA | ((with_reducible apply xA); · repeat first | with_reducible apply lH | with_reducible apply lT | with_reducible apply lL) | ((with_reducible apply xC); · repeat first | apply pH | with_reducible apply pT | with_reducible apply pL) | with_reducible assumption | with_reducible apply eS | with_reducible apply eL | exact eR)
          first | (subst hb; refine ⟨by omega, by omega, by omega, ?_⟩; simp only [bst, *, Bool.true_and, Bool.and_true, Bool.false_and, Bool.and_false, Bool.or_false, Bool.false_or, Bool.or_true, Bool.true_or, Bool.not_true, Bool.not_false, if_true, if_false, Bool.false_eq_true, decide_true, decide_false, cond_true, cond_false])
    · have c2' := c2; try simp only [inB_iff, Bool.and_eq_true, decide_eq_true_eq, decide_eq_false_iff_not, beq_iff_eq, beq_eq_false_iff_ne, bne_iff_ne, bne_eq_false_iff_eq, ne_eq] at c2'
      refine gS rfl rfl c2 ?_
      refine gS rfl rfl c2 ?_
      refine gS rfl rfl c2 ?_
      refine kF rfl c2 rfl ?_
      refine mv rfl ?_
      refine gG rfl rfl rfl ?_
      refine mv rfl ?_
      refine gG rfl rfl rfl ?_
      refine bGeq rfl rfl ?_
      refine gG rfl rfl rfl ?_
      refine mv rfl ?_
      refine gC rfl rfl (fun c6 => ?_) (fun c6 => ?_)
      · have c6' := c6; try simp only [inB_iff, Bool.and_eq_true, decide_eq_true_eq, decide_eq_false_iff_not, beq_iff_eq, beq_eq_false_iff_ne, bne_iff_ne, bne_eq_false_iff_eq, ne_eq] at c6'
        refine gG rfl rfl c6 ?_
        refine mv rfl ?_
        refine gG rfl rfl c6 ?_
        refine mv rfl ?_
        refine gG rfl rfl c6 ?_
        refine mv rfl ?_
        refine gG rfl rfl c6 ?_
        first
          | refine ixN rfl rfl (by first | (apply RdC.aok; with_reducible assumption) | exact AOk.own | (apply RdD.aok; with_reducible assumption) | (apply RdD.aok; apply OwD.rdD; with_reducible assumption) | (apply RdI.aok; with_reducible assumption) | (apply RdW.aok; with_reducible assumption) | (apply RdI.aok; apply OwI.rdI; with_reducible assumption) | with_reducible assumption | (apply RdF.aok; with_reducible assumption) | (apply RdF.aok; apply OwF.rdF; with_reducible assumption)) (by first | with_reducible assumption | omega) ?_
          | refine ixI rfl rfl (by first | (apply RdC.aok; with_reducible assumption) | exact AOk.own | (apply RdD.aok; with_reducible assumption) | (apply RdD.aok; apply OwD.rdD; with_reducible assumption) | (apply RdI.aok; with_reducible assumption) | (apply RdW.aok; with_reducible assumption) | (apply RdI.aok; apply OwI.rdI; with_reducible assumption) | with_reducible assumption | (apply RdF.aok; with_reducible assumption) | (apply RdF.aok; apply OwF.rdF; with_reducible assumption)) (by omega) (by omega) ?_
        refine gG rfl rfl c6 ?_
        refine ldF rfl (by first | with_reducible assumption | ((try first | with_reducible apply RdF.sub | with_reducible apply RdF.sub0) <;> first | with_reducible assumption | (apply RdF.mono; (· (with_reducible assumption)); · (try simp only [List.cons_append, List.nil_append, List.append_assoc]); repeat' first | with_reducible apply eR | with_reducible apply eA | ((with_reducible apply xA); · repeat first | with_reducible apply lH | with_reducible apply lT | with_reducible apply lL) | ((with_reducible apply xC); · repeat first | apply pH | with_reducible apply pT | with_reducible apply pL) | with_reducible assumption | with_reducible apply eS | with_reducible apply eL | exact eR) | (apply RdF.mono; (· (apply OwF.rdF; with_reducible assumption)); · (try simp only [List.cons_append, List.nil_append, List.append_assoc]); repeat' first | with_reducible apply eR | with_reducible apply eA | ((with_reducible apply xA); · repeat first | with_reducible apply lH | with_reducible apply lT | with_reducible apply lL) | ((with_reducible apply xC); · repeat first | apply pH | with_reducible apply pT | with_reducible apply pL) | with_reducible assumption | with_reducible apply eS | with_reducible apply eL | exact eR) | (apply RdF.ownm; (· repeat first | with_reducible assumption | with_reducible apply List.mem_cons_self | with_reducible apply List.mem_cons_of_mem | with_reducible apply List.mem_append_right | exact List.Mem.head _); · first | rfl | with_reducible assumption | omega | simp [*]) | with_reducible assumption | omega | (simp; done) | (simp; omega) | (simp only [Bool.and_eq_true, inB_iff] at *; omega))) (by first | with_reducible assumption | omega) ?_
        refine gG rfl rfl c6 ?_
        refine fCm rfl rfl rfl ?_
        refine gG rfl rfl rfl ?_
        refine kT rfl c6 rfl ?_
        refine kF rfl rfl rfl ?_
        refine rN ?_
        refine qN ?_
        refine cC rfl (fun c7 => ?_) (fun c7 => ?_)
        · have c7' := c7; try simp only [inB_iff, Bool.and_eq_true, decide_eq_true_eq, decide_eq_false_iff_not, beq_iff_eq, beq_eq_false_iff_ne, bne_iff_ne, bne_eq_false_iff_eq, ne_eq] at c7'
          refine cR ?_
          refine mv rfl ?_
          refine asg rfl ?_
          refine rN ?_
          refine qBN ?_
          refine qN ?_
          refine cR ?_
          first | refine rAn (b := 1) rfl rfl (by omega) ?_ | refine rA rfl rfl (by omega) (by omega) ?_ | refine bAdd rfl rfl ?_
          refine mv rfl ?_
          refine rN ?_
          refine qL2 (k + 1) (_) ?_ (by omega) (by repeat first | exact Sub.nil _ | refine Sub.cons rfl ?_) (by (try simp only [List.cons_append, List.nil_append, List.append_assoc]); repeat' first | with_reducible apply eR | with_reducible apply eA | ((with_reducible apply xA); · repeat first | with_reducible apply lH | with_reducible apply lT | with_reducible apply lL) | ((with_reducible apply xC); · repeat first | apply pH | with_reducible apply pT | with_reducible apply pL) | with_reducible assumption | with_reducible apply eS | with_reducible apply eL | exact eR)
          first | (subst hb; refine ⟨by omega, by omega, by omega, ?_⟩; simp only [bst, *, Bool.true_and, Bool.and_true, Bool.false_and, Bool.and_false, Bool.or_false, Bool.false_or, Bool.or_true, Bool.true_or, Bool.not_true, Bool.not_false, if_true, if_false, Bool.false_eq_true, decide_true, decide_false, cond_true, cond_false])
        · have c7' := c7; try simp only [inB_iff, Bool.and_eq_true, decide_eq_true_eq, decide_eq_false_iff_not, beq_iff_eq, beq_eq_false_iff_ne, bne_iff_ne, bne_eq_false_iff_eq, ne_eq] at c7'
          refine cK ?_
          refine qBN ?_
          refine qN ?_
          refine cR ?_
          first | refine rAn (b := 1) rfl rfl (by omega) ?_ | refine rA rfl rfl (by omega) (by omega) ?_ | refine bAdd rfl rfl ?_
          refine mv rfl ?_
          refine rN ?_
          refine qL2 (k + 1) (_) ?_ (by omega) (by repeat first | exact Sub.nil _ | refine Sub.cons rfl ?_) (by (try simp only [List.cons_append, List.nil_append, List.append_assoc]); repeat' first | with_reducible apply eR | with_reducible apply eA | ((with_reducible apply xA); · repeat first | with_reducible apply lH | with_reducible apply lT | with_reducible apply lL) | ((with_reducible apply xC); · repeat first | apply pH | with_reducible apply pT | with_reducible apply pL) | with_reducible assumption | with_reducible apply eS | with_reducible apply eL | exact eR)
          first | (subst hb; refine ⟨by omega, by omega, by omega, ?_⟩; simp only [bst, *, Bool.true_and, Bool.and_true, Bool.false_and, Bool.and_false, Bool.or_false, Bool.false_or, Bool.or_true, Bool.true_or, Bool.not_true, Bool.not_false, if_true, if_false, Bool.false_eq_true, decide_true, decide_false, cond_true, cond_false])
      · have c6' := c6; try simp only [inB_iff, Bool.and_eq_true, decide_eq_true_eq, decide_eq_false_iff_not, beq_iff_eq, beq_eq_false_iff_ne, bne_iff_ne, bne_eq_false_iff_eq, ne_eq] at c6'
        refine gS rfl rfl c6 ?_
        refine gS rfl rfl c6 ?_
        refine gS rfl rfl c6 ?_
        refine gS rfl rfl c6 ?_
        refine gS rfl rfl c6 ?_
        refine gS rfl rfl c6 ?_
        refine gG rfl rfl rfl ?_
        refine kF rfl c6 rfl ?_
        refine kF rfl rfl rfl ?_
        refine rN ?_
        refine qN ?_
        refine cF rfl ?_
        refine cK ?_
        refine qBN ?_
        refine qN ?_
        refine cR ?_
        first | refine rAn (b := 1) rfl rfl (by omega) ?_ | refine rA rfl rfl (by omega) (by omega) ?_ | refine bAdd rfl rfl ?_
        refine mv rfl ?_
        refine rN ?_
        refine qL2 (k + 1) (_) ?_ (by omega) (by repeat first | exact Sub.nil _ | refine Sub.cons rfl ?_) (by (try simp only [List.cons_append, List.nil_append, List.append_assoc]); repeat' first | with_reducible apply eR | with_reducible apply eA | ((with_reducible apply xA); · repeat first | with_reducible apply lH | with_reducible apply lT | with_reducible apply lL) | ((with_reducible apply xC); · repeat first | apply pH | with_reducible apply pT | with_reducible apply pL) | with_reducible assumption | with_reducible apply eS | with_reducible apply eL | exact eR)
        first | (subst hb; refine ⟨by omega, by omega, by omega, ?_⟩; simp only [bst, *, Bool.true_and, Bool.and_true, Bool.false_and, Bool.and_false, Bool.or_false, Bool.false_or, Bool.or_true, Bool.true_or, Bool.not_true, Bool.not_false, if_true, if_false, Bool.false_eq_true, decide_true, decide_false, cond_true, cond_false])
  · have c1' := c1; try simp only [inB_iff, Bool.and_eq_true, decide_eq_true_eq, decide_eq_false_iff_not, beq_iff_eq, beq_eq_false_iff_ne, bne_iff_ne, bne_eq_false_iff_eq, ne_eq] at c1'
    refine cX ?_
    refine qX ?_
    refine qL2X ?_
    refine qBX ?_
    refine qN ?_
    refine cS (cR ?_)
    refine mv rfl ?_
    refine asg rfl ?_
    refine rN ?_
    refine qN ?_
    refine cE ?_
    have : k = n := by omega
    subst this
    refine kE rfl rfl  ?_
    first | (exfalso; contradiction) | exact ⟨_, ⟨by rw [hb], rfl⟩, (by (try simp only [List.cons_append, List.nil_append, List.append_assoc]); repeat' first | with_reducible apply eR | with_reducible apply eA | ((with_reducible apply xA); · repeat first | with_reducible apply lH | with_reducible apply lT | with_reducible apply lL) | ((with_reducible apply xC); · repeat first | apply pH | with_reducible apply pT | with_reducible apply pL) | with_reducible assumption | with_reducible apply eS | with_reducible apply eL | exact eR)⟩ | (exfalso; first | contradiction | omega | (simp_all; done) | (simp_all; omega))

/-- the sum of products of xs and ys, shifted by d, up to k -/
def corK (xs ys : List Nat) (d : Int) : Nat → Nat
  | 0 => 0
  | k + 1 => if inB ((k : Int) + d) 0 ((ys.length : Int) - 1) then fadd .f32 (corK xs ys d k) (fmul .f32 (xs.getD k 0) (ys.getD ((k : Int) + d).toNat 0)) else corK xs ys d k
def corS (xs ys : List Nat) (most : Int) (j : Nat) : Nat := corK xs ys ((j : Int) - most) xs.length
/-- the best shift -/
def shO (xs ys : List Nat) (most : Int) : Int := bst (tab (2 * most.toNat + 1) (corS xs ys most)) (2 * most.toNat + 1)
def shV (xs ys : List Nat) (most : Int) : Nat := corS xs ys most (shO xs ys most).toNat

theorem corS_eq {xs ys : List Nat} {most d : Int} {j : Nat} (hd : d = (j : Int) - most) : corK xs ys d xs.length = corS xs ys most j := by subst hd; rfl

/-- what the search for a shift hands back -/
def shR (xs ys : List Nat) (most : Int) : Value :=
  if 0 ≤ shO xs ys most then .tuple #[.int .i64 (shO xs ys most - most), .float .f32 (shV xs ys most), .bool true] else .tuple #[.int .i64 (-most), .float .f32 0, .bool false]


def bsB (n m : Nat) (most : Int) : Bool := inB n 1 128 && inB m 1 128 && inB most 0 128
/-- a whole number, a number and a bool -/
def bsR (xs ys : List Nat) (most : Int) : Value :=
  if bsB xs.length ys.length most = true ∧ 0 ≤ shO xs ys most then .tuple #[.int .i64 (shO xs ys most - most), .float .f32 (shV xs ys most), .bool true] else .tuple #[.int .i64 0, .float .f32 0, .bool false]

end Go.Proofs.Ytfjancbmecfjgaa.Ab
