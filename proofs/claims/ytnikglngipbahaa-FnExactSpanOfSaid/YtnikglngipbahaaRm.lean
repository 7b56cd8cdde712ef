/-
  Walks of what the laws do with lists of frames and of integers: marks.
-/
import Derived.Test.YtnikglngipbahaaFm
namespace Go.Proofs.Ytnikglngipbahaa.Ab
open Go Go.RowKit
attribute [local irreducible] Run Then InBlock LoopQ LQ1 LQ2 LQ3 LQ4 LQ5 LQ6 AWp Ret ACall
set_option linter.unusedVariables false
set_option linter.unusedSimpArgs false

theorem perm_mid {p : Nat × Blk} {L Lk R M : Mem} (h : L.Perm (Lk ++ R)) : (Lk ++ (p :: (R ++ M))).Perm (p :: (L ++ M)) := by
  refine (List.perm_middle (a := p) (l₁ := Lk) (l₂ := R ++ M)).trans (List.Perm.cons _ ?_)
  rw [← List.append_assoc]; exact (h.append_right M).symm
/-! ## lists of integers -/
-- @true laws.eqInt64S : c_eqInt64S _ _ _ _ _ _ _ _ @RDI@ @RDI@ @BD@
theorem c_eqInt64S (a a' : Option Addr) (n n' c c' : Nat) (is : List Int) (M : Mem) (h1 : RdI M a n is) (h2 : RdI M a' n' is) (hlen : n ≤ 1073741824) :
    ACall Try.prog 19 [.slice a n c, .slice a' n' c'] M fun r M' => r = .bool true ∧ M' = M := by
  obtain ⟨rfl, _⟩ := id h1
  obtain ⟨rfl, _⟩ := id h2
  have h0 : ((is.length : Int) != is.length) = false := by simp
  refine acall_of_awp Try.func19 rfl Try.ntmps19 rfl ?_
  refine cS (cR ?_)
  refine asg rfl ?_
  refine rN ?_
  refine qN ?_
  refine cS ?_
  refine cS (cR ?_)
  refine mv rfl ?_
  refine ln rfl ?_
  refine mv rfl ?_
  refine ln rfl ?_
  refine bNeq rfl rfl ?_
  refine rN ?_
  refine qN ?_
  refine cFa rfl (h0) ?_
  refine cK ?_
  refine qN ?_
  refine cS ?_
  refine cS (cR ?_)
  refine asg rfl ?_
  refine rN ?_
  refine qN ?_
  refine cB ?_
  refine cL1 (fun (k : Nat) => [(5, .int .i64 (k : Nat))]) [(0, _), (1, _)] (fun (k : Nat) => M) (fun (k : Nat) => is.length - k) (fun (k : Nat) => k ≤ is.length) (0) (by repeat first | exact Sub.nil _ | refine Sub.cons rfl ?_) (by (try simp only [List.cons_append, List.nil_append, List.append_assoc]); repeat' first | with_reducible apply eR | with_reducible apply eA | ((with_reducible apply xA); · repeat first | with_reducible apply lH | with_reducible apply lT | with_reducible apply lL) | ((with_reducible apply xC); · repeat first | apply pH | with_reducible apply pT | with_reducible apply pL) | with_reducible assumption | with_reducible apply eS | with_reducible apply eL | exact eR) (by exact Nat.zero_le _) ?_
  rintro k hk
  refine wT (T' := [(5, _), (0, _), (1, _)]) rfl ?_
  refine cS ?_
  refine cS (cR ?_)
  refine mv rfl ?_
  refine mv rfl ?_
  refine ln rfl ?_
  refine bLss rfl rfl ?_
  refine rN ?_
  refine qN ?_
  refine cC rfl (fun c1 => ?_) (fun c1 => ?_)
  · have c1' := c1; try simp only [inB_iff, Bool.and_eq_true, decide_eq_true_eq, decide_eq_false_iff_not, beq_iff_eq, beq_eq_false_iff_ne, bne_iff_ne, bne_eq_false_iff_eq, ne_eq] at c1'
    refine cK ?_
    refine qN ?_
    refine cS ?_
    refine cB ?_
    refine cS ?_
    refine cD [] [(0, true), (1, true), (2, true), (3, true), (4, true), (5, false), (6, false), (7, false), (8, false)] (by repeat first | exact fineT | exact fineL | exact fineLQ1 | exact fineLQ2 | exact fineLQ3 | exact fineLQ4 | exact fineLQ5 | exact fineLQ6 | exact fineR | refine fineB ?_) (by kernel_rfl) ?_
    simp only [pick, List.getElem?_toArray, List.getElem?_cons_zero, List.getElem?_cons_succ]
    refine mv rfl ?_
    refine mv rfl ?_
    first
      | refine ixN rfl rfl (by first | (apply RdC.aok; with_reducible assumption) | exact AOk.own | (apply RdD.aok; with_reducible assumption) | (apply RdD.aok; apply OwD.rdD; with_reducible assumption) | (apply RdI.aok; with_reducible assumption) | (apply RdW.aok; with_reducible assumption) | (apply RdI.aok; apply OwI.rdI; with_reducible assumption) | with_reducible assumption | (apply RdF.aok; with_reducible assumption) | (apply RdF.aok; apply OwF.rdF; with_reducible assumption)) (by first | with_reducible assumption | omega) ?_
      | refine ixI rfl rfl (by first | (apply RdC.aok; with_reducible assumption) | exact AOk.own | (apply RdD.aok; with_reducible assumption) | (apply RdD.aok; apply OwD.rdD; with_reducible assumption) | (apply RdI.aok; with_reducible assumption) | (apply RdW.aok; with_reducible assumption) | (apply RdI.aok; apply OwI.rdI; with_reducible assumption) | with_reducible assumption | (apply RdF.aok; with_reducible assumption) | (apply RdF.aok; apply OwF.rdF; with_reducible assumption)) (by omega) (by omega) ?_
    refine ldI rfl (by first | with_reducible assumption | (apply RdI.mono; (· (with_reducible assumption)); · (try simp only [List.cons_append, List.nil_append, List.append_assoc]); repeat' first | with_reducible apply eR | with_reducible apply eA | ((with_reducible apply xA); · repeat first | with_reducible apply lH | with_reducible apply lT | with_reducible apply lL) | ((with_reducible apply xC); · repeat first | apply pH | with_reducible apply pT | with_reducible apply pL) | with_reducible assumption | with_reducible apply eS | with_reducible apply eL | exact eR) | (apply RdI.mono; (· (apply OwI.rdI; with_reducible assumption)); · (try simp only [List.cons_append, List.nil_append, List.append_assoc]); repeat' first | with_reducible apply eR | with_reducible apply eA | ((with_reducible apply xA); · repeat first | with_reducible apply lH | with_reducible apply lT | with_reducible apply lL) | ((with_reducible apply xC); · repeat first | apply pH | with_reducible apply pT | with_reducible apply pL) | with_reducible assumption | with_reducible apply eS | with_reducible apply eL | exact eR)) (by first | with_reducible assumption | omega) ?_
    refine mv rfl ?_
    refine mv rfl ?_
    first
      | refine ixN rfl rfl (by first | (apply RdC.aok; with_reducible assumption) | exact AOk.own | (apply RdD.aok; with_reducible assumption) | (apply RdD.aok; apply OwD.rdD; with_reducible assumption) | (apply RdI.aok; with_reducible assumption) | (apply RdW.aok; with_reducible assumption) | (apply RdI.aok; apply OwI.rdI; with_reducible assumption) | with_reducible assumption | (apply RdF.aok; with_reducible assumption) | (apply RdF.aok; apply OwF.rdF; with_reducible assumption)) (by first | with_reducible assumption | omega) ?_
      | refine ixI rfl rfl (by first | (apply RdC.aok; with_reducible assumption) | exact AOk.own | (apply RdD.aok; with_reducible assumption) | (apply RdD.aok; apply OwD.rdD; with_reducible assumption) | (apply RdI.aok; with_reducible assumption) | (apply RdW.aok; with_reducible assumption) | (apply RdI.aok; apply OwI.rdI; with_reducible assumption) | with_reducible assumption | (apply RdF.aok; with_reducible assumption) | (apply RdF.aok; apply OwF.rdF; with_reducible assumption)) (by omega) (by omega) ?_
    refine ldI rfl (by first | with_reducible assumption | (apply RdI.mono; (· (with_reducible assumption)); · (try simp only [List.cons_append, List.nil_append, List.append_assoc]); repeat' first | with_reducible apply eR | with_reducible apply eA | ((with_reducible apply xA); · repeat first | with_reducible apply lH | with_reducible apply lT | with_reducible apply lL) | ((with_reducible apply xC); · repeat first | apply pH | with_reducible apply pT | with_reducible apply pL) | with_reducible assumption | with_reducible apply eS | with_reducible apply eL | exact eR) | (apply RdI.mono; (· (apply OwI.rdI; with_reducible assumption)); · (try simp only [List.cons_append, List.nil_append, List.append_assoc]); repeat' first | with_reducible apply eR | with_reducible apply eA | ((with_reducible apply xA); · repeat first | with_reducible apply lH | with_reducible apply lT | with_reducible apply lL) | ((with_reducible apply xC); · repeat first | apply pH | with_reducible apply pT | with_reducible apply pL) | with_reducible assumption | with_reducible apply eS | with_reducible apply eL | exact eR)) (by first | with_reducible assumption | omega) ?_
    refine bNeq rfl rfl ?_
    refine rN ?_
    refine qN ?_
    refine cFa rfl (bne_self_eq_false _) ?_
    refine cK ?_
    refine qBN ?_
    refine qN ?_
    refine cR ?_
    refine mv rfl ?_
    first | refine rAn (b := 1) rfl rfl (by omega) ?_ | refine rA rfl rfl (by omega) (by omega) ?_ | refine bAdd rfl rfl ?_
    refine asg rfl ?_
    refine rN ?_
    refine qL1 (k + 1) ?_ (by omega) (by repeat first | exact Sub.nil _ | refine Sub.cons rfl ?_) (by (try simp only [List.cons_append, List.nil_append, List.append_assoc]); repeat' first | with_reducible apply eR | with_reducible apply eA | ((with_reducible apply xA); · repeat first | with_reducible apply lH | with_reducible apply lT | with_reducible apply lL) | ((with_reducible apply xC); · repeat first | apply pH | with_reducible apply pT | with_reducible apply pL) | with_reducible assumption | with_reducible apply eS | with_reducible apply eL | exact eR)
    omega
  · have c1' := c1; try simp only [inB_iff, Bool.and_eq_true, decide_eq_true_eq, decide_eq_false_iff_not, beq_iff_eq, beq_eq_false_iff_ne, bne_iff_ne, bne_eq_false_iff_eq, ne_eq] at c1'
    refine cX ?_
    refine qX ?_
    refine qL1X ?_
    refine qBX ?_
    refine qN ?_
    refine cS (cR ?_)
    refine asg rfl ?_
    refine rN ?_
    refine qN ?_
    refine cE ?_
    refine kE rfl rfl  ?_
    first | (exfalso; contradiction) | exact ⟨_, ⟨rfl, rfl⟩, (by (try simp only [List.cons_append, List.nil_append, List.append_assoc]); repeat' first | with_reducible apply eR | with_reducible apply eA | ((with_reducible apply xA); · repeat first | with_reducible apply lH | with_reducible apply lT | with_reducible apply lL) | ((with_reducible apply xC); · repeat first | apply pH | with_reducible apply pT | with_reducible apply pL) | with_reducible assumption | with_reducible apply eS | with_reducible apply eL | exact eR)⟩ | exact ⟨_, ⟨by first | (simp_all; done) | (simp_all; intros; omega), rfl⟩, (by (try simp only [List.cons_append, List.nil_append, List.append_assoc]); repeat' first | with_reducible apply eR | with_reducible apply eA | ((with_reducible apply xA); · repeat first | with_reducible apply lH | with_reducible apply lT | with_reducible apply lL) | ((with_reducible apply xC); · repeat first | apply pH | with_reducible apply pT | with_reducible apply pL) | with_reducible assumption | with_reducible apply eS | with_reducible apply eL | exact eR)⟩ | (exfalso; first | contradiction | omega | (simp_all; done) | (simp_all; omega))
def marksI (k n : Nat) : List Int := (List.range n).map fun i => ((k + i : Nat) : Int)
theorem marksI_len (k n : Nat) : (marksI k n).length = n := by simp [marksI]
theorem marksI_getD {k n i : Nat} (h : i < n) : (marksI k n).getD i 0 = ((k + i : Nat) : Int) := by
  simp [marksI, List.getD, h]
def cpI (xs ys : List Int) (k : Nat) : List Int := xs.take k ++ ys.drop k
theorem cpI_set {xs ys : List Int} {k : Nat} (h : ys.length = xs.length) (hk : k < xs.length) : (cpI xs ys k).set k (xs.getD k 0) = cpI xs ys (k + 1) := by
  unfold cpI
  have e : (xs.take k).length = k := by rw [List.length_take]; omega
  have hy : k < ys.length := by omega
  rw [List.set_append_right _ _ (by omega), e, Nat.sub_self, List.drop_eq_getElem_cons hy, List.set_cons_zero,
    List.take_succ_eq_append_getElem hk, List.append_assoc]
  simp [List.getD, hk]
theorem c_markInt64S (a : Option Addr) (n c : Nat) (k : Nat) (is : List Int) (L M : Mem) (ho : OwI L (.slice a n c) is) (hlen : n ≤ 1073741824) (hk0 : k ≤ 1073741824) :
    ACall Try.prog 22 [.slice a n c, .int .i64 (k : Nat)] (L ++ M) fun r M' => r = .int .i64 ((k + n : Nat) : Int) ∧ ∃ L', OwI L' (.slice a n c) (marksI k n) ∧ M' = L' ++ M := by
  obtain ⟨hil, _⟩ := ho.rdI
  subst hil
  refine acall_of_awp Try.func22 rfl Try.ntmps22 rfl ?_
  refine cS (cR ?_)
  refine asg rfl ?_
  refine rN ?_
  refine qN ?_
  refine cS ?_
  refine cS (cR ?_)
  refine asg rfl ?_
  refine rN ?_
  refine qN ?_
  refine cB ?_
  refine cL2 (fun (j : Nat) (L : Mem) => [(5, .int .i64 (j : Nat)), (1, .int .i64 ((k + j : Nat) : Int))]) [(0, _)] (fun (j : Nat) (L : Mem) => L ++ M) (fun (j : Nat) (L : Mem) => is.length - j) (fun (j : Nat) (L : Mem) => j ≤ is.length ∧ OwI L (.slice a is.length c) (cpI (marksI k is.length) is j)) (0) (L) (by repeat first | exact Sub.nil _ | refine Sub.cons rfl ?_) (by (try simp only [List.cons_append, List.nil_append, List.append_assoc]); repeat' first | with_reducible apply eR | with_reducible apply eA | ((with_reducible apply xA); · repeat first | with_reducible apply lH | with_reducible apply lT | with_reducible apply lL) | ((with_reducible apply xC); · repeat first | apply pH | with_reducible apply pT | with_reducible apply pL) | with_reducible assumption | with_reducible apply eS | with_reducible apply eL | exact eR) (by exact ⟨Nat.zero_le _, by simpa [cpI] using ho⟩) ?_
  rintro j L ⟨hj, hz⟩
  refine wT (T' := [(5, _), (1, _), (0, _)]) rfl ?_
  refine cS ?_
  refine cS (cR ?_)
  refine mv rfl ?_
  refine mv rfl ?_
  refine ln rfl ?_
  refine bLss rfl rfl ?_
  refine rN ?_
  refine qN ?_
  refine cC rfl (fun c1 => ?_) (fun c1 => ?_)
  · have c1' := c1; try simp only [inB_iff, Bool.and_eq_true, decide_eq_true_eq, decide_eq_false_iff_not, beq_iff_eq, beq_eq_false_iff_ne, bne_iff_ne, bne_eq_false_iff_eq, ne_eq] at c1'
    have hj2 : j < is.length := by omega
    refine cK ?_
    refine qN ?_
    refine cS ?_
    refine cB ?_
    refine cS (cR ?_)
    refine mv rfl ?_
    refine mv rfl ?_
    refine mv rfl ?_
    first
      | refine ixN rfl rfl (by first | (apply RdC.aok; with_reducible assumption) | exact AOk.own | (apply RdD.aok; with_reducible assumption) | (apply RdD.aok; apply OwD.rdD; with_reducible assumption) | (apply RdI.aok; with_reducible assumption) | (apply RdW.aok; with_reducible assumption) | (apply RdI.aok; apply OwI.rdI; with_reducible assumption) | with_reducible assumption | (apply RdF.aok; with_reducible assumption) | (apply RdF.aok; apply OwF.rdF; with_reducible assumption)) (by first | with_reducible assumption | omega) ?_
      | refine ixI rfl rfl (by first | (apply RdC.aok; with_reducible assumption) | exact AOk.own | (apply RdD.aok; with_reducible assumption) | (apply RdD.aok; apply OwD.rdD; with_reducible assumption) | (apply RdI.aok; with_reducible assumption) | (apply RdW.aok; with_reducible assumption) | (apply RdI.aok; apply OwI.rdI; with_reducible assumption) | with_reducible assumption | (apply RdF.aok; with_reducible assumption) | (apply RdF.aok; apply OwF.rdF; with_reducible assumption)) (by omega) (by omega) ?_
    (refine tI rfl rfl (by with_reducible assumption) (by repeat first | with_reducible apply lH | with_reducible apply lT | with_reducible apply lL) (by first | with_reducible assumption | omega) ?_; intro lk1 how1)
    refine rN ?_
    refine qN ?_
    refine cR ?_
    refine mv rfl ?_
    first | refine rAn (b := 1) rfl rfl (by omega) ?_ | refine rA rfl rfl (by omega) (by omega) ?_ | refine bAdd rfl rfl ?_
    refine asg rfl ?_
    refine rN ?_
    refine qBN ?_
    refine qN ?_
    refine cR ?_
    refine mv rfl ?_
    first | refine rAn (b := 1) rfl rfl (by omega) ?_ | refine rA rfl rfl (by omega) (by omega) ?_ | refine bAdd rfl rfl ?_
    refine asg rfl ?_
    refine rN ?_
    refine qL2 (j + 1) (_) ?_ (by omega) (by repeat first | exact Sub.nil _ | refine Sub.cons rfl ?_) (by (try simp only [List.cons_append, List.nil_append, List.append_assoc]); repeat' first | with_reducible apply eR | with_reducible apply eA | ((with_reducible apply xA); · repeat first | with_reducible apply lH | with_reducible apply lT | with_reducible apply lL) | ((with_reducible apply xC); · repeat first | apply pH | with_reducible apply pT | with_reducible apply pL) | with_reducible assumption | with_reducible apply eS | with_reducible apply eL | exact eR)
    refine ⟨by omega, ?_⟩
    rw [← cpI_set (by rw [marksI_len]) (by rw [marksI_len]; exact hj2), marksI_getD hj2]
    assumption
  · have c1' := c1; try simp only [inB_iff, Bool.and_eq_true, decide_eq_true_eq, decide_eq_false_iff_not, beq_iff_eq, beq_eq_false_iff_ne, bne_iff_ne, bne_eq_false_iff_eq, ne_eq] at c1'
    have : j = is.length := by omega
    subst this
    have e : cpI (marksI k is.length) is is.length = marksI k is.length := by unfold cpI; rw [List.drop_length, List.append_nil]; exact List.take_of_length_le (by rw [marksI_len]; exact Nat.le_refl _)
    rw [e] at hz
    refine cX ?_
    refine qX ?_
    refine qL2X ?_
    refine qBX ?_
    refine qN ?_
    refine cS (cR ?_)
    refine mv rfl ?_
    refine asg rfl ?_
    refine rN ?_
    refine qN ?_
    refine cE ?_
    refine kE rfl rfl  ?_
    first | (exfalso; contradiction) | exact ⟨_, ⟨rfl, _, hz, rfl⟩, (by (try simp only [List.cons_append, List.nil_append, List.append_assoc]); repeat' first | with_reducible apply eR | with_reducible apply eA | ((with_reducible apply xA); · repeat first | with_reducible apply lH | with_reducible apply lT | with_reducible apply lL) | ((with_reducible apply xC); · repeat first | apply pH | with_reducible apply pT | with_reducible apply pL) | with_reducible assumption | with_reducible apply eS | with_reducible apply eL | exact eR)⟩ | (exfalso; first | contradiction | omega | (simp_all; done) | (simp_all; omega))
theorem c_heldInt64S (a : Option Addr) (m c : Nat) (k n : Nat) (M : Mem) (h : RdI M a m (marksI k n)) (hlen : n ≤ 1073741824) (hk0 : k ≤ 1073741824) :
    ACall Try.prog 23 [.slice a m c, .int .i64 (k : Nat)] M fun r M' => r = .int .i64 ((k + n : Nat) : Int) ∧ M' = M := by
  have hm : m = n := by rw [← h.len, marksI_len]
  subst hm
  refine acall_of_awp Try.func23 rfl Try.ntmps23 rfl ?_
  refine cS (cR ?_)
  refine asg rfl ?_
  refine rN ?_
  refine qN ?_
  refine cS ?_
  refine cS (cR ?_)
  refine asg rfl ?_
  refine rN ?_
  refine qN ?_
  refine cB ?_
  refine cL1 (fun (j : Nat) => [(5, .int .i64 (j : Nat)), (1, .int .i64 ((k + j : Nat) : Int))]) [(0, _)] (fun (j : Nat) => M) (fun (j : Nat) => m - j) (fun (j : Nat) => j ≤ m) (0) (by repeat first | exact Sub.nil _ | refine Sub.cons rfl ?_) (by (try simp only [List.cons_append, List.nil_append, List.append_assoc]); repeat' first | with_reducible apply eR | with_reducible apply eA | ((with_reducible apply xA); · repeat first | with_reducible apply lH | with_reducible apply lT | with_reducible apply lL) | ((with_reducible apply xC); · repeat first | apply pH | with_reducible apply pT | with_reducible apply pL) | with_reducible assumption | with_reducible apply eS | with_reducible apply eL | exact eR) (by exact Nat.zero_le _) ?_
  rintro j hj
  refine wT (T' := [(5, _), (1, _), (0, _)]) rfl ?_
  refine cS ?_
  refine cS (cR ?_)
  refine mv rfl ?_
  refine mv rfl ?_
  refine ln rfl ?_
  refine bLss rfl rfl ?_
  refine rN ?_
  refine qN ?_
  refine cC rfl (fun c1 => ?_) (fun c1 => ?_)
  · have c1' := c1; try simp only [inB_iff, Bool.and_eq_true, decide_eq_true_eq, decide_eq_false_iff_not, beq_iff_eq, beq_eq_false_iff_ne, bne_iff_ne, bne_eq_false_iff_eq, ne_eq] at c1'
    refine cK ?_
    refine qN ?_
    refine cS ?_
    refine cB ?_
    refine cS ?_
    refine cS (cR ?_)
    refine mv rfl ?_
    refine mv rfl ?_
    first
      | refine ixN rfl rfl (by first | (apply RdC.aok; with_reducible assumption) | exact AOk.own | (apply RdD.aok; with_reducible assumption) | (apply RdD.aok; apply OwD.rdD; with_reducible assumption) | (apply RdI.aok; with_reducible assumption) | (apply RdW.aok; with_reducible assumption) | (apply RdI.aok; apply OwI.rdI; with_reducible assumption) | with_reducible assumption | (apply RdF.aok; with_reducible assumption) | (apply RdF.aok; apply OwF.rdF; with_reducible assumption)) (by first | with_reducible assumption | omega) ?_
      | refine ixI rfl rfl (by first | (apply RdC.aok; with_reducible assumption) | exact AOk.own | (apply RdD.aok; with_reducible assumption) | (apply RdD.aok; apply OwD.rdD; with_reducible assumption) | (apply RdI.aok; with_reducible assumption) | (apply RdW.aok; with_reducible assumption) | (apply RdI.aok; apply OwI.rdI; with_reducible assumption) | with_reducible assumption | (apply RdF.aok; with_reducible assumption) | (apply RdF.aok; apply OwF.rdF; with_reducible assumption)) (by omega) (by omega) ?_
    refine ldI rfl (by first | with_reducible assumption | (apply RdI.mono; (· (with_reducible assumption)); · (try simp only [List.cons_append, List.nil_append, List.append_assoc]); repeat' first | with_reducible apply eR | with_reducible apply eA | ((with_reducible apply xA); · repeat first | with_reducible apply lH | with_reducible apply lT | with_reducible apply lL) | ((with_reducible apply xC); · repeat first | apply pH | with_reducible apply pT | with_reducible apply pL) | with_reducible assumption | with_reducible apply eS | with_reducible apply eL | exact eR) | (apply RdI.mono; (· (apply OwI.rdI; with_reducible assumption)); · (try simp only [List.cons_append, List.nil_append, List.append_assoc]); repeat' first | with_reducible apply eR | with_reducible apply eA | ((with_reducible apply xA); · repeat first | with_reducible apply lH | with_reducible apply lT | with_reducible apply lL) | ((with_reducible apply xC); · repeat first | apply pH | with_reducible apply pT | with_reducible apply pL) | with_reducible assumption | with_reducible apply eS | with_reducible apply eL | exact eR)) (by first | with_reducible assumption | omega) ?_
    refine mv rfl ?_
    refine bNeq rfl rfl ?_
    refine rN ?_
    refine qN ?_
    refine cFa rfl (by rw [marksI_getD (by omega)]; exact bne_self_eq_false _) ?_
    refine cK ?_
    refine qN ?_
    refine cR ?_
    refine mv rfl ?_
    first | refine rAn (b := 1) rfl rfl (by omega) ?_ | refine rA rfl rfl (by omega) (by omega) ?_ | refine bAdd rfl rfl ?_
    refine asg rfl ?_
    refine rN ?_
    refine qBN ?_
    refine qN ?_
    refine cR ?_
    refine mv rfl ?_
    first | refine rAn (b := 1) rfl rfl (by omega) ?_ | refine rA rfl rfl (by omega) (by omega) ?_ | refine bAdd rfl rfl ?_
    refine asg rfl ?_
    refine rN ?_
    refine qL1 (j + 1) ?_ (by omega) (by repeat first | exact Sub.nil _ | refine Sub.cons rfl ?_) (by (try simp only [List.cons_append, List.nil_append, List.append_assoc]); repeat' first | with_reducible apply eR | with_reducible apply eA | ((with_reducible apply xA); · repeat first | with_reducible apply lH | with_reducible apply lT | with_reducible apply lL) | ((with_reducible apply xC); · repeat first | apply pH | with_reducible apply pT | with_reducible apply pL) | with_reducible assumption | with_reducible apply eS | with_reducible apply eL | exact eR)
    omega
  · have c1' := c1; try simp only [inB_iff, Bool.and_eq_true, decide_eq_true_eq, decide_eq_false_iff_not, beq_iff_eq, beq_eq_false_iff_ne, bne_iff_ne, bne_eq_false_iff_eq, ne_eq] at c1'
    have : j = m := by omega
    subst this
    refine cX ?_
    refine qX ?_
    refine qL1X ?_
    refine qBX ?_
    refine qN ?_
    refine cS (cR ?_)
    refine mv rfl ?_
    refine asg rfl ?_
    refine rN ?_
    refine qN ?_
    refine cE ?_
    refine kE rfl rfl  ?_
    first | (exfalso; contradiction) | exact ⟨_, ⟨rfl, rfl⟩, (by (try simp only [List.cons_append, List.nil_append, List.append_assoc]); repeat' first | with_reducible apply eR | with_reducible apply eA | ((with_reducible apply xA); · repeat first | with_reducible apply lH | with_reducible apply lT | with_reducible apply lL) | ((with_reducible apply xC); · repeat first | apply pH | with_reducible apply pT | with_reducible apply pL) | with_reducible assumption | with_reducible apply eS | with_reducible apply eL | exact eR)⟩ | exact ⟨_, ⟨by first | (simp_all; done) | (simp_all; intros; omega), rfl⟩, (by (try simp only [List.cons_append, List.nil_append, List.append_assoc]); repeat' first | with_reducible apply eR | with_reducible apply eA | ((with_reducible apply xA); · repeat first | with_reducible apply lH | with_reducible apply lT | with_reducible apply lL) | ((with_reducible apply xC); · repeat first | apply pH | with_reducible apply pT | with_reducible apply pL) | with_reducible assumption | with_reducible apply eS | with_reducible apply eL | exact eR)⟩ | (exfalso; first | contradiction | omega | (simp_all; done) | (simp_all; omega))
/-! ## lists of frames -/
section
variable {P : Program} {n : Nat} {T : Tm} {M1 : Mem} {ops : Array Oper} {st : Option (List Nat)} {Q : Tm → Mem → Prop} {fl : Bool} {l : List (Oper × Bool)} {d : Option Nat} {ty : Nat} {pos : String} {after : Array Edge}
theorem tRf0 {t bytes : Nat} {z : Value} [InfoT P t 1 bytes z] {x y : Operand} {b j : Nat} {v : Value} {hs : List Tri} {rest : List Value} (ex : ev T x = some (pRf (some ⟨b, 0, none⟩) j 0)) (ey : ev T y = some v) (hf : flatV v = true) (hj : j < hs.length)
    (kk : Run P n ops st Q l T ((b, ⟨tcs (hs.set j (v, (hs.getD j z3).2.1, (hs.getD j z3).2.2)) ++ rest, true⟩) :: M1)) : Run P n ops st Q ((⟨none, .store t x y, ty, pos, after, none⟩, false) :: l) T ((b, ⟨tcs hs ++ rest, true⟩) :: M1) := by
  refine rS (b := b) (o := j * 3 + 0) (k := ⟨tcs hs ++ rest, true⟩) 0 (by rw [ex]; simp [pRf]) ey hf rfl rfl (by apply Nat.ble_eq_true_of_le; show j * 3 + 0 + 1 ≤ (tcs hs ++ rest).length; rw [List.length_append, tcs_len]; omega) ?_
  show Run P n ops st Q l T ((b, ⟨(tcs hs ++ rest).set (j * 3 + 0) v, true⟩) :: M1)
  rw [List.set_append_left _ _ (by rw [tcs_len]; omega), tcs_set0 _ _ _ hj]
  exact kk
theorem tRf1 {t bytes : Nat} {z : Value} [InfoT P t 1 bytes z] {x y : Operand} {b j : Nat} {v : Value} {hs : List Tri} {rest : List Value} (ex : ev T x = some (pRf (some ⟨b, 0, none⟩) j 1)) (ey : ev T y = some v) (hf : flatV v = true) (hj : j < hs.length)
    (kk : Run P n ops st Q l T ((b, ⟨tcs (hs.set j ((hs.getD j z3).1, v, (hs.getD j z3).2.2)) ++ rest, true⟩) :: M1)) : Run P n ops st Q ((⟨none, .store t x y, ty, pos, after, none⟩, false) :: l) T ((b, ⟨tcs hs ++ rest, true⟩) :: M1) := by
  refine rS (b := b) (o := j * 3 + 1) (k := ⟨tcs hs ++ rest, true⟩) 0 (by rw [ex]; simp [pRf]) ey hf rfl rfl (by apply Nat.ble_eq_true_of_le; show j * 3 + 1 + 1 ≤ (tcs hs ++ rest).length; rw [List.length_append, tcs_len]; omega) ?_
  show Run P n ops st Q l T ((b, ⟨(tcs hs ++ rest).set (j * 3 + 1) v, true⟩) :: M1)
  rw [List.set_append_left _ _ (by rw [tcs_len]; omega), tcs_set1 _ _ _ hj]
  exact kk
theorem ldT2 {t : Nat} [PlainT P t] {x : Operand} {b j : Nat} {v : Value} {hs : List Tri} {rest : List Value} (ex : ev T x = some (pRf (some ⟨b, 0, none⟩) j 2)) (hj : j < hs.length) (hv : (hs.getD j z3).2.2 = v) (hf : flatV v = true)
    (kk : Run P n ops st Q l (putT n d v T) ((b, ⟨tcs hs ++ rest, true⟩) :: M1)) : Run P n ops st Q ((⟨d, .load t x, ty, pos, after, none⟩, fl) :: l) T ((b, ⟨tcs hs ++ rest, true⟩) :: M1) := by
  refine rL (b := b) (o := j * 3 + 2) (k := ⟨tcs hs ++ rest, true⟩) (by rw [ex]; simp [pRf]) List.mem_cons_self ?_ hf kk
  show (tcs hs ++ rest)[j * 3 + 2]? = _
  rw [List.getElem?_append_left (by rw [tcs_len]; omega), tcs_get _ j 2 hj (by decide), ← hv]; rfl
end
theorem set_setT {hs : List Tri} {i : Nat} {a b c a' b' : Value} (hi : i < hs.length) (h : hs.getD i z3 = (a, b, c)) : (hs.set i (a', (hs.getD i z3).2.1, (hs.getD i z3).2.2)).set i (((hs.set i (a', (hs.getD i z3).2.1, (hs.getD i z3).2.2)).getD i z3).1, b', ((hs.set i (a', (hs.getD i z3).2.1, (hs.getD i z3).2.2)).getD i z3).2.2) = hs.set i (a', b', c) := by
  have e : (hs.set i (a', (hs.getD i z3).2.1, (hs.getD i z3).2.2)).getD i z3 = (a', b, c) := by rw [h]; simp [List.getD, hi]
  rw [e, List.set_set]
theorem c_markFrameS (a : Option Addr) (n c : Nat) (k : Nat) (fs : List Frm) (L M : Mem) (ho : OwR L (.slice a n c) fs) (hlen : k + totR fs ≤ 1073741824) :
    ACall Try.prog 21 [.slice a n c, .int .i64 (k : Nat)] (L ++ M) fun r M' => r = .int .i64 ((k + totR fs : Nat) : Int) ∧ ∃ L', OwR L' (.slice a n c) (mkRs k fs) ∧ M' = L' ++ M := by
  obtain rfl := ho.len
  obtain ⟨Lo, Li, vs, hv, hl, rfl⟩ := ho
  have hvl : vs.length = fs.length := by rw [hl.len, List.length_map]
  have hml := mkRs_len fs k
  have htl : 2 * fs.length ≤ totR fs := by unfold totR; omega
  rcases hv with ⟨⟨a0, hv⟩, h0, _, rfl⟩ | ⟨b, cap, rest, hv, hc1, hc2, hc3, rfl⟩
  · obtain ⟨rfl, _, rfl⟩ := Value.slice.inj hv
    obtain rfl : fs = [] := List.length_eq_zero_iff.1 h0
    refine acall_of_awp Try.func21 rfl Try.ntmps21 rfl ?_
    refine cS (cR ?_)
    refine asg rfl ?_
    refine rN ?_
    refine qN ?_
    refine cS ?_
    refine cS (cR ?_)
    refine asg rfl ?_
    refine rN ?_
    refine qN ?_
    refine cB ?_
    refine cL1 (fun (j : Nat) => [(5, .int .i64 0), (1, .int .i64 (k : Nat))]) [(0, _)] (fun (j : Nat) => Li ++ M) (fun (j : Nat) => 0) (fun (j : Nat) => True) (0) (by repeat first | exact Sub.nil _ | refine Sub.cons rfl ?_) (by (try simp only [List.cons_append, List.nil_append, List.append_assoc]); repeat' first | with_reducible apply eR | with_reducible apply eA | ((with_reducible apply xA); · repeat first | with_reducible apply lH | with_reducible apply lT | with_reducible apply lL) | ((with_reducible apply xC); · repeat first | apply pH | with_reducible apply pT | with_reducible apply pL) | with_reducible assumption | with_reducible apply eS | with_reducible apply eL | exact eR) (by trivial) ?_
    rintro j _
    refine wT (T' := [(5, _), (1, _), (0, _)]) rfl ?_
    refine cS ?_
    refine cS (cR ?_)
    refine mv rfl ?_
    refine mv rfl ?_
    refine ln rfl ?_
    refine bLss rfl rfl ?_
    refine rN ?_
    refine qN ?_
    refine cFa rfl (rfl) ?_
    refine cX ?_
    refine qX ?_
    refine qL1X ?_
    refine qBX ?_
    refine qN ?_
    refine cS (cR ?_)
    refine mv rfl ?_
    refine asg rfl ?_
    refine rN ?_
    refine qN ?_
    refine cE ?_
    refine kE rfl rfl  ?_
    first | (exfalso; contradiction) | exact ⟨_, ⟨rfl, _, ⟨[], Li, vs, OwC.nil, hl, rfl⟩, rfl⟩, (by (try simp only [List.cons_append, List.nil_append, List.append_assoc]); repeat' first | with_reducible apply eR | with_reducible apply eA | ((with_reducible apply xA); · repeat first | with_reducible apply lH | with_reducible apply lT | with_reducible apply lL) | ((with_reducible apply xC); · repeat first | apply pH | with_reducible apply pT | with_reducible apply pL) | with_reducible assumption | with_reducible apply eS | with_reducible apply eL | exact eR)⟩ | (exfalso; first | contradiction | omega | (simp_all; done) | (simp_all; omega))
  · obtain ⟨rfl, _, rfl⟩ := Value.slice.inj hv
    simp only [List.cons_append, List.nil_append]
    skip
    refine acall_of_awp Try.func21 rfl Try.ntmps21 rfl ?_
    refine cS (cR ?_)
    refine asg rfl ?_
    refine rN ?_
    refine qN ?_
    refine cS ?_
    refine cS (cR ?_)
    refine asg rfl ?_
    refine rN ?_
    refine qN ?_
    refine cB ?_
    refine cL3 (fun (i : Nat) (kk : Nat) (L1 : Mem) => [(5, .int .i64 (i : Nat)), (1, .int .i64 (kk : Nat))]) [(0, _)] (fun (i : Nat) (kk : Nat) (L1 : Mem) => (b, ⟨tcs (triL (cpR (mkRs k fs) fs i) vs) ++ rest, true⟩) :: (L1 ++ M)) (fun (i : Nat) (kk : Nat) (L1 : Mem) => fs.length - i) (fun (i : Nat) (kk : Nat) (L1 : Mem) => i ≤ fs.length ∧ kk = k + totR (fs.take i) ∧ OwL L1 vs ((cpR (mkRs k fs) fs i).map Frm.xs)) (0) (k) (Li) (by repeat first | exact Sub.nil _ | refine Sub.cons rfl ?_) (by (try simp only [List.cons_append, List.nil_append, List.append_assoc]); repeat' first | with_reducible apply eR | with_reducible apply eA | ((with_reducible apply xA); · repeat first | with_reducible apply lH | with_reducible apply lT | with_reducible apply lL) | ((with_reducible apply xC); · repeat first | apply pH | with_reducible apply pT | with_reducible apply pL) | with_reducible assumption | with_reducible apply eS | with_reducible apply eL | exact eR) (by exact ⟨Nat.zero_le _, by simp [totR, totL], by rw [cpR_zero]; exact hl⟩) ?_
    rintro i kk L1 ⟨hi, rfl, hz⟩
    refine wT (T' := [(5, _), (1, _), (0, _)]) rfl ?_
    refine cS ?_
    refine cS (cR ?_)
    refine mv rfl ?_
    refine mv rfl ?_
    refine ln rfl ?_
    refine bLss rfl rfl ?_
    refine rN ?_
    refine qN ?_
    have hcl : (cpR (mkRs k fs) fs i).length = fs.length := by rw [cpR_len hml.symm, hml]
    have htl2 : (triL (cpR (mkRs k fs) fs i) vs).length = fs.length := by rw [triL_len (by rw [hcl]; exact hvl), hcl]
    refine cC rfl (fun c1 => ?_) (fun c1 => ?_)
    · have c1' := c1; try simp only [inB_iff, Bool.and_eq_true, decide_eq_true_eq, decide_eq_false_iff_not, beq_iff_eq, beq_eq_false_iff_ne, bne_iff_ne, bne_eq_false_iff_eq, ne_eq] at c1'
      have hi2 : i < fs.length := by omega
      have hti := totR_take fs (i + 1)
      have hsu := totR_succ hi2
      refine cK ?_
      refine qN ?_
      refine cS ?_
      refine cB ?_
      refine cS (cR ?_)
      refine mv rfl ?_
      refine mv rfl ?_
      refine mv rfl ?_
      first
        | refine ixP rfl rfl (by first | (apply RdP.aok; with_reducible assumption) | exact AOk.own) (by first | with_reducible assumption | omega) ?_
        | refine ixR rfl rfl (by first | (apply RdR.aok; with_reducible assumption) | exact AOk.own) (by first | with_reducible assumption | omega) ?_
      refine fA rfl ?_
      have hil : i < (triL (cpR (mkRs k fs) fs i) vs).length := by omega
      have hcv : vs.length = (cpR (mkRs k fs) fs i).length := by rw [hcl]; exact hvl
      have hg0 := triL_get (i := i) hcv (by omega)
      have hgi : (cpR (mkRs k fs) fs i).getD i zR = fs.getD i zR := cpR_get hml.symm (by omega)
      have hmg := mkRs_get fs k i hi2
      obtain ⟨Lk, R, hp, hk, hback⟩ := hz.at (i := i) (by rw [List.length_map]; omega)
      rw [map_getD (by omega), hgi] at hk
      obtain ⟨a7, c7, hv7, hr7⟩ := hk.rd
      rw [hv7] at hk
      have hblk : (triL (cpR (mkRs k fs) fs i) vs).set i (.int .i64 ((k + totR (fs.take i) : Nat) : Int), .int .i64 ((k + totR (fs.take i) + 1 : Nat) : Int), .slice a7 (fs.getD i zR).xs.length c7) = triL (cpR (mkRs k fs) fs (i + 1)) vs := by
        have h := triL_set (i := i) (f := (mkRs k fs).getD i zR) hcv (by omega)
        rw [cpR_set hml.symm (by rw [hml]; exact hi2), hmg, hv7] at h
        exact h
      refine tRf0 (b := b) rfl rfl rfl hil ?_
      refine rN ?_
      refine qN ?_
      refine cS (cR ?_)
      refine mv rfl ?_
      first | refine rAn (b := 1) rfl rfl (by omega) ?_ | refine rA rfl rfl (by omega) (by omega) ?_ | refine bAdd rfl rfl ?_
      refine asg rfl ?_
      refine rN ?_
      refine qN ?_
      refine cS (cR ?_)
      refine mv rfl ?_
      refine mv rfl ?_
      refine mv rfl ?_
      first
        | refine ixP rfl rfl (by first | (apply RdP.aok; with_reducible assumption) | exact AOk.own) (by first | with_reducible assumption | omega) ?_
        | refine ixR rfl rfl (by first | (apply RdR.aok; with_reducible assumption) | exact AOk.own) (by first | with_reducible assumption | omega) ?_
      refine fA rfl ?_
      refine tRf1 (b := b) rfl rfl rfl (by rw [List.length_set]; exact hil) ?_
      rw [set_setT hil hg0, hv7, hblk]
      refine rN ?_
      refine qN ?_
      refine cS (cR ?_)
      refine mv rfl ?_
      first | refine rAn (b := 1) rfl rfl (by omega) ?_ | refine rA rfl rfl (by omega) (by omega) ?_ | refine bAdd rfl rfl ?_
      refine asg rfl ?_
      refine rN ?_
      refine qN ?_
      refine cR ?_
      refine mv rfl ?_
      refine mv rfl ?_
      first
        | refine ixP rfl rfl (by first | (apply RdP.aok; with_reducible assumption) | exact AOk.own) (by first | with_reducible assumption | omega) ?_
        | refine ixR rfl rfl (by first | (apply RdR.aok; with_reducible assumption) | exact AOk.own) (by first | with_reducible assumption | omega) ?_
      refine fA rfl ?_
      refine ldT2 (b := b) (v := .slice a7 (fs.getD i zR).xs.length c7) rfl (by rw [triL_len (by rw [cpR_len hml.symm, hml]; exact hvl), cpR_len hml.symm, hml]; exact hi2) (by rw [triL_get (by rw [cpR_len hml.symm, hml]; exact hvl) (by rw [cpR_len hml.symm, hml]; exact hi2)]; exact hv7) rfl ?_
      refine mv rfl ?_
      refine Run.ofPerm (M1 := Lk ++ ((b, _) :: (R ++ M))) rfl (perm_mid hp) ?_
      refine rC rfl ((c_markFloat32S _ _ _ _ _ _ _ hk (by omega) (by omega)).ofLess eR) ?_
      rintro _ _ ⟨rfl, lk7, how7, rfl⟩
      refine ⟨nofun, ?_⟩
      refine asg rfl ?_
      refine rN ?_
      refine qBN ?_
      refine qN ?_
      refine cR ?_
      refine mv rfl ?_
      first | refine rAn (b := 1) rfl rfl (by omega) ?_ | refine rA rfl rfl (by omega) (by omega) ?_ | refine bAdd rfl rfl ?_
      refine asg rfl ?_
      refine rN ?_
      refine qL3 (i + 1) (_) (lk7 ++ R) ?_ (by omega) (by repeat first | exact Sub.nil _ | refine Sub.cons rfl ?_) (by (try simp only [List.cons_append, List.nil_append, List.append_assoc]); repeat' first | with_reducible apply eR | with_reducible apply eA | ((with_reducible apply xA); · repeat first | with_reducible apply lH | with_reducible apply lT | with_reducible apply lL) | ((with_reducible apply xC); · repeat first | apply pH | with_reducible apply pT | with_reducible apply pL) | with_reducible assumption | with_reducible apply eS | with_reducible apply eL | exact eR)
      have e := hback _ _ _ how7
      rw [set_sameD (by omega) hv7] at e
      have em : ((cpR (mkRs k fs) fs i).map Frm.xs).set i (marks (k + totR (fs.take i) + 2) (fs.getD i zR).xs.length) = (cpR (mkRs k fs) fs (i + 1)).map Frm.xs := by
        rw [← cpR_set hml.symm (by rw [hml]; exact hi2), hmg, List.map_set]
      rw [em] at e
      exact ⟨by omega, by omega, e⟩
    · have c1' := c1; try simp only [inB_iff, Bool.and_eq_true, decide_eq_true_eq, decide_eq_false_iff_not, beq_iff_eq, beq_eq_false_iff_ne, bne_iff_ne, bne_eq_false_iff_eq, ne_eq] at c1'
      have : i = fs.length := by omega
      subst this
      have ec : cpR (mkRs k fs) fs fs.length = mkRs k fs := by have := cpR_all (xss := mkRs k fs) (yss := fs) hml.symm; rwa [hml] at this
      rw [ec] at hz ⊢
      refine cX ?_
      refine qX ?_
      refine qL3X ?_
      refine qBX ?_
      refine qN ?_
      refine cS (cR ?_)
      refine mv rfl ?_
      refine asg rfl ?_
      refine rN ?_
      refine qN ?_
      refine cE ?_
      refine fE rfl rfl  (by (try simp only [List.cons_append, List.nil_append, List.append_assoc]); repeat' first | with_reducible apply eR | with_reducible apply eA | ((with_reducible apply xA); · repeat first | with_reducible apply lH | with_reducible apply lT | with_reducible apply lL) | ((with_reducible apply xC); · repeat first | apply pH | with_reducible apply pT | with_reducible apply pL) | with_reducible assumption | with_reducible apply eS | with_reducible apply eL | exact eR) ?_
      exact (⟨by rw [List.take_length], _, ⟨[(b, _)], L1, vs, .inr ⟨b, c, rest, by rw [hml], by omega, by rw [tcs_len, triL_len (by rw [hml]; exact hvl)], by rw [tcs_len, triL_len (by rw [hml]; exact hvl), hml]; rw [tcs_len, triL_len hvl] at hc3; exact hc3, rfl⟩, hz, rfl⟩, rfl⟩)
theorem c_heldFrameS (a : Option Addr) (m c : Nat) (k : Nat) (fs : List Frm) (M : Mem) (h : RdR M a m (mkRs k fs)) (hlen : k + totR fs ≤ 1073741824) :
    ACall Try.prog 26 [.slice a m c, .int .i64 (k : Nat)] M fun r M' => r = .int .i64 ((k + totR fs : Nat) : Int) ∧ M' = M := by
  have hml := mkRs_len fs k
  have hm : fs.length = m := by rw [← hml]; exact h.1
  subst hm
  have htl : 2 * fs.length ≤ totR fs := by unfold totR; omega
  skip
  refine acall_of_awp Try.func26 rfl Try.ntmps26 rfl ?_
  refine cS (cR ?_)
  refine asg rfl ?_
  refine rN ?_
  refine qN ?_
  refine cS ?_
  refine cS (cR ?_)
  refine asg rfl ?_
  refine rN ?_
  refine qN ?_
  refine cB ?_
  refine cL2 (fun (i : Nat) (kk : Nat) => [(5, .int .i64 (i : Nat)), (1, .int .i64 (kk : Nat))]) [(0, _)] (fun (i : Nat) (kk : Nat) => M) (fun (i : Nat) (kk : Nat) => fs.length - i) (fun (i : Nat) (kk : Nat) => i ≤ fs.length ∧ kk = k + totR (fs.take i)) (0) (k) (by repeat first | exact Sub.nil _ | refine Sub.cons rfl ?_) (by (try simp only [List.cons_append, List.nil_append, List.append_assoc]); repeat' first | with_reducible apply eR | with_reducible apply eA | ((with_reducible apply xA); · repeat first | with_reducible apply lH | with_reducible apply lT | with_reducible apply lL) | ((with_reducible apply xC); · repeat first | apply pH | with_reducible apply pT | with_reducible apply pL) | with_reducible assumption | with_reducible apply eS | with_reducible apply eL | exact eR) (by exact ⟨Nat.zero_le _, by simp [totR, totL]⟩) ?_
  rintro i kk ⟨hi, rfl⟩
  refine wT (T' := [(5, _), (1, _), (0, _)]) rfl ?_
  refine cS ?_
  refine cS (cR ?_)
  refine mv rfl ?_
  refine mv rfl ?_
  refine ln rfl ?_
  refine bLss rfl rfl ?_
  refine rN ?_
  refine qN ?_
  refine cC rfl (fun c1 => ?_) (fun c1 => ?_)
  · have c1' := c1; try simp only [inB_iff, Bool.and_eq_true, decide_eq_true_eq, decide_eq_false_iff_not, beq_iff_eq, beq_eq_false_iff_ne, bne_iff_ne, bne_eq_false_iff_eq, ne_eq] at c1'
    have hi2 : i < fs.length := by omega
    have hti := totR_take fs (i + 1)
    have hsu := totR_succ hi2
    have hge := mkRs_get fs k i hi2
    refine cK ?_
    refine qN ?_
    refine cS ?_
    refine cB ?_
    refine cS ?_
    refine cS (cR ?_)
    refine mv rfl ?_
    refine mv rfl ?_
    first
      | refine ixP rfl rfl (by first | (apply RdP.aok; with_reducible assumption) | exact AOk.own) (by first | with_reducible assumption | omega) ?_
      | refine ixR rfl rfl (by first | (apply RdR.aok; with_reducible assumption) | exact AOk.own) (by first | with_reducible assumption | omega) ?_
    refine fA rfl ?_
    refine ldRf0 rfl (by (first | with_reducible assumption | (apply RdR.mono; (· with_reducible assumption); · (try simp only [List.cons_append, List.nil_append, List.append_assoc]); repeat' first | with_reducible apply eR | with_reducible apply eA | ((with_reducible apply xA); · repeat first | with_reducible apply lH | with_reducible apply lT | with_reducible apply lL) | ((with_reducible apply xC); · repeat first | apply pH | with_reducible apply pT | with_reducible apply pL) | with_reducible assumption | with_reducible apply eS | with_reducible apply eL | exact eR) | (apply RdR.mono; (· (apply OwR.rdR; with_reducible assumption)); · (try simp only [List.cons_append, List.nil_append, List.append_assoc]); repeat' first | with_reducible apply eR | with_reducible apply eA | ((with_reducible apply xA); · repeat first | with_reducible apply lH | with_reducible apply lT | with_reducible apply lL) | ((with_reducible apply xC); · repeat first | apply pH | with_reducible apply pT | with_reducible apply pL) | with_reducible assumption | with_reducible apply eS | with_reducible apply eL | exact eR))) (by first | with_reducible assumption | omega) ?_
    refine mv rfl ?_
    refine bNeq rfl rfl ?_
    refine rN ?_
    refine qN ?_
    refine cFa rfl (by rw [hge]; exact bne_self_eq_false _) ?_
    refine cK ?_
    refine qN ?_
    refine cS (cR ?_)
    refine mv rfl ?_
    first | refine rAn (b := 1) rfl rfl (by omega) ?_ | refine rA rfl rfl (by omega) (by omega) ?_ | refine bAdd rfl rfl ?_
    refine asg rfl ?_
    refine rN ?_
    refine qN ?_
    refine cS ?_
    refine cS (cR ?_)
    refine mv rfl ?_
    refine mv rfl ?_
    first
      | refine ixP rfl rfl (by first | (apply RdP.aok; with_reducible assumption) | exact AOk.own) (by first | with_reducible assumption | omega) ?_
      | refine ixR rfl rfl (by first | (apply RdR.aok; with_reducible assumption) | exact AOk.own) (by first | with_reducible assumption | omega) ?_
    refine fA rfl ?_
    refine ldRf1 rfl (by (first | with_reducible assumption | (apply RdR.mono; (· with_reducible assumption); · (try simp only [List.cons_append, List.nil_append, List.append_assoc]); repeat' first | with_reducible apply eR | with_reducible apply eA | ((with_reducible apply xA); · repeat first | with_reducible apply lH | with_reducible apply lT | with_reducible apply lL) | ((with_reducible apply xC); · repeat first | apply pH | with_reducible apply pT | with_reducible apply pL) | with_reducible assumption | with_reducible apply eS | with_reducible apply eL | exact eR) | (apply RdR.mono; (· (apply OwR.rdR; with_reducible assumption)); · (try simp only [List.cons_append, List.nil_append, List.append_assoc]); repeat' first | with_reducible apply eR | with_reducible apply eA | ((with_reducible apply xA); · repeat first | with_reducible apply lH | with_reducible apply lT | with_reducible apply lL) | ((with_reducible apply xC); · repeat first | apply pH | with_reducible apply pT | with_reducible apply pL) | with_reducible assumption | with_reducible apply eS | with_reducible apply eL | exact eR))) (by first | with_reducible assumption | omega) ?_
    refine mv rfl ?_
    refine bNeq rfl rfl ?_
    refine rN ?_
    refine qN ?_
    refine cFa rfl (by rw [hge]; exact bne_self_eq_false _) ?_
    refine cK ?_
    refine qN ?_
    refine cS (cR ?_)
    refine mv rfl ?_
    first | refine rAn (b := 1) rfl rfl (by omega) ?_ | refine rA rfl rfl (by omega) (by omega) ?_ | refine bAdd rfl rfl ?_
    refine asg rfl ?_
    refine rN ?_
    refine qN ?_
    refine cS (cR ?_)
    refine mv rfl ?_
    refine mv rfl ?_
    first
      | refine ixP rfl rfl (by first | (apply RdP.aok; with_reducible assumption) | exact AOk.own) (by first | with_reducible assumption | omega) ?_
      | refine ixR rfl rfl (by first | (apply RdR.aok; with_reducible assumption) | exact AOk.own) (by first | with_reducible assumption | omega) ?_
    refine fA rfl ?_
    refine ldRf2 rfl (by (first | with_reducible assumption | (apply RdR.mono; (· with_reducible assumption); · (try simp only [List.cons_append, List.nil_append, List.append_assoc]); repeat' first | with_reducible apply eR | with_reducible apply eA | ((with_reducible apply xA); · repeat first | with_reducible apply lH | with_reducible apply lT | with_reducible apply lL) | ((with_reducible apply xC); · repeat first | apply pH | with_reducible apply pT | with_reducible apply pL) | with_reducible assumption | with_reducible apply eS | with_reducible apply eL | exact eR) | (apply RdR.mono; (· (apply OwR.rdR; with_reducible assumption)); · (try simp only [List.cons_append, List.nil_append, List.append_assoc]); repeat' first | with_reducible apply eR | with_reducible apply eA | ((with_reducible apply xA); · repeat first | with_reducible apply lH | with_reducible apply lT | with_reducible apply lL) | ((with_reducible apply xC); · repeat first | apply pH | with_reducible apply pT | with_reducible apply pL) | with_reducible assumption | with_reducible apply eS | with_reducible apply eL | exact eR))) (by first | with_reducible assumption | omega) ?_
    intro aRr cRr hRr
    refine mv rfl ?_
    rw [hge] at hRr; rw [marks_len] at hRr
    refine rCq rfl (c_heldFloat32S _ _ _ (k + totR (fs.take i) + 2) (fs.getD i zR).xs.length _ (by rw [hge, marks_len]; exact hRr) (by omega) (by omega)) ?_
    refine asg rfl ?_
    refine rN ?_
    refine qN ?_
    refine cS (cR ?_)
    refine mv rfl ?_
    refine bLss rfl rfl ?_
    refine rN ?_
    refine qN ?_
    refine cFa rfl (by rw [decide_eq_false_iff_not]; omega) ?_
    refine cK ?_
    refine qBN ?_
    refine qN ?_
    refine cR ?_
    refine mv rfl ?_
    first | refine rAn (b := 1) rfl rfl (by omega) ?_ | refine rA rfl rfl (by omega) (by omega) ?_ | refine bAdd rfl rfl ?_
    refine asg rfl ?_
    refine rN ?_
    refine qL2 (i + 1) (_) ?_ (by omega) (by repeat first | exact Sub.nil _ | refine Sub.cons rfl ?_) (by (try simp only [List.cons_append, List.nil_append, List.append_assoc]); repeat' first | with_reducible apply eR | with_reducible apply eA | ((with_reducible apply xA); · repeat first | with_reducible apply lH | with_reducible apply lT | with_reducible apply lL) | ((with_reducible apply xC); · repeat first | apply pH | with_reducible apply pT | with_reducible apply pL) | with_reducible assumption | with_reducible apply eS | with_reducible apply eL | exact eR)
    omega
  · have c1' := c1; try simp only [inB_iff, Bool.and_eq_true, decide_eq_true_eq, decide_eq_false_iff_not, beq_iff_eq, beq_eq_false_iff_ne, bne_iff_ne, bne_eq_false_iff_eq, ne_eq] at c1'
    have : i = fs.length := by omega
    subst this
    refine cX ?_
    refine qX ?_
    refine qL2X ?_
    refine qBX ?_
    refine qN ?_
    refine cS (cR ?_)
    refine mv rfl ?_
    refine asg rfl ?_
    refine rN ?_
    refine qN ?_
    refine cE ?_
    refine kE rfl rfl  ?_
    first | (exfalso; contradiction) | exact ⟨_, ⟨by rw [List.take_length], rfl⟩, (by (try simp only [List.cons_append, List.nil_append, List.append_assoc]); repeat' first | with_reducible apply eR | with_reducible apply eA | ((with_reducible apply xA); · repeat first | with_reducible apply lH | with_reducible apply lT | with_reducible apply lL) | ((with_reducible apply xC); · repeat first | apply pH | with_reducible apply pT | with_reducible apply pL) | with_reducible assumption | with_reducible apply eS | with_reducible apply eL | exact eR)⟩ | (exfalso; first | contradiction | omega | (simp_all; done) | (simp_all; omega))
end Go.Proofs.Ytnikglngipbahaa.Ab
