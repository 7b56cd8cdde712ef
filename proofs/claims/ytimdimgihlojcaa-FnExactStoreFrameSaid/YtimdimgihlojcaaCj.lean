/-
  Walks: the packed trace; the laws FnExactPackTrace and FnExactRoundTrace.
-/
import Derived.Test.YtimdimgihlojcaaCi
import Derived.Test.YtimdimgihlojcaaUr
namespace Go.Proofs.Ytimdimgihlojcaa.Ab
open Go Go.RowKit
set_option linter.unusedVariables false
set_option linter.unusedSimpArgs false
theorem c_packTrace (a : Option Addr) (n c : Nat) (xs : List Nat) (M : Mem) (h : RdF M a n xs) (hcap : n ≤ c) (h1 : 1 ≤ n) (h2 : n ≤ 128) (hf : fnA xs = true) :
    ACall Try.prog 59 [.slice a n c] M fun v M' => v = .string (trS xs) ∧ M' = M := by
  intro w0 B av w ha hs
  obtain ⟨rfl, h0 | ⟨b, o, k, rfl, hm, hcell⟩⟩ := h
  · exfalso
    have := congrArg List.length h0
    simp at this
    subst this
    simp at h1
  · obtain ⟨ce, E, fr, hb, hce, _⟩ := hs.ok _ hm
    obtain ⟨u, rfl⟩ : ∃ u, av = #[u] := by
      cases av with
      | mk l =>
        simp at ha
        match l, ha with
        | [u], _ => exact ⟨u, rfl⟩
    have hu : nf u = .slice (some ⟨b, o, none⟩) xs.length c := by simpa using ha
    rw [nf_slice hu]
    refine (packTrace_calls w b o c E fr ce xs hb (fun i hi => by rw [hce]; exact hcell i (by simpa using hi)) hcap h1 h2 hf).mono ?_
    rintro e w' ⟨rfl, hB⟩
    exact ⟨_, M, rfl, hs.kept hB, rfl, rfl⟩
attribute [local irreducible] Run Then InBlock LoopQ LQ1 LQ2 LQ3 LQ4 LQ5 LQ6 AWp Ret ACall
def pgB (xs : List Nat) : Bool := inB (xs.length : Nat) 1 128 && fnA xs
theorem pgB_iff {xs : List Nat} (h : pgB xs = true) : (1 ≤ xs.length ∧ xs.length ≤ 128) ∧ fnA xs = true := by
  unfold pgB at h
  rw [Bool.and_eq_true, inB_iff] at h
  exact ⟨by omega, h.2⟩
-- @reg impl.isPackable : c_isPackable _ _ _ _ _ @RD@ @BD@
theorem c_isPackable (a : Option Addr) (n c : Nat) (xs : List Nat) (M : Mem) (h : RdF M a n xs) (hn : n ≤ 1073741824) :
    ACall Try.prog 58 [.slice a n c] M fun v M' => v = .bool (pgB xs) ∧ M' = M := by
  obtain ⟨rfl, _⟩ := id h
  skip
  refine acall_of_awp Try.func58 rfl Try.ntmps58 rfl ?_
  refine cS (cR ?_)
  refine asg rfl ?_
  refine rN ?_
  refine qN ?_
  refine cS (cR ?_)
  refine mv rfl ?_
  refine rCq rfl (c_IsTrace _ _ _ _) ?_
  refine mv rfl ?_
  refine gC rfl rfl (fun c1 => ?_) (fun c1 => ?_)
  · have c1' := c1; try simp only [inB_iff, Bool.and_eq_true, decide_eq_true_eq, decide_eq_false_iff_not, beq_iff_eq, beq_eq_false_iff_ne, bne_iff_ne, bne_eq_false_iff_eq, ne_eq] at c1'
    refine gG rfl rfl c1 ?_
    refine mv rfl ?_
    refine gG rfl rfl c1 ?_
    refine rCq rfl (c_areFrameNumbers _ _ _ _ _ (by first | with_reducible assumption | ((try first | with_reducible apply RdF.sub | with_reducible apply RdF.sub0) <;> first | with_reducible assumption | (apply RdF.mono; (· (with_reducible assumption)); · (try simp only [List.cons_append, List.nil_append, List.append_assoc]); repeat' first | with_reducible apply eR | with_reducible apply eA | ((with_reducible apply xA); · repeat first | with_reducible apply lH | with_reducible apply lT | with_reducible apply lL) | ((with_reducible apply xC); · repeat first | apply pH | with_reducible apply pT | with_reducible apply pL) | with_reducible assumption | with_reducible apply eS | with_reducible apply eL | exact eR) | (apply RdF.mono; (· (apply OwF.rdF; with_reducible assumption)); · (try simp only [List.cons_append, List.nil_append, List.append_assoc]); repeat' first | with_reducible apply eR | with_reducible apply eA | ((with_reducible apply xA); · repeat first | with_reducible apply lH | with_reducible apply lT | with_reducible apply lL) | ((with_reducible apply xC); · repeat first | apply pH | with_reducible apply pT | with_reducible apply pL) | with_reducible assumption | with_reducible apply eS | with_reducible apply eL | exact eR) | (apply RdF.ownm; (· repeat first | with_reducible assumption | with_reducible apply List.mem_cons_self | with_reducible apply List.mem_cons_of_mem | with_reducible apply List.mem_append_right | exact List.Mem.head _); · first | rfl | with_reducible assumption | omega | simp [*]) | with_reducible assumption | omega | (simp; done) | (simp; omega) | (simp only [Bool.and_eq_true, inB_iff] at *; omega))) (by first | with_reducible assumption | omega | (simp only [Bool.and_eq_true, inB_iff] at *; omega))) ?_
    refine kT rfl c1 rfl ?_
    refine asg rfl ?_
    refine rN ?_
    refine qN ?_
    refine cE ?_
    refine kE rfl rfl  ?_
    first | (exfalso; contradiction) | exact ⟨_, ⟨by (simp only [pgB, *, Bool.true_and, Bool.and_true, Bool.false_and, Bool.and_false, Bool.or_false, Bool.false_or, Bool.or_true, Bool.true_or, Bool.not_true, Bool.not_false, if_true, if_false, Bool.false_eq_true, decide_true, decide_false, cond_true, cond_false]; done), rfl⟩, (by (try simp only [List.cons_append, List.nil_append, List.append_assoc]); repeat' first | with_reducible apply eR | with_reducible apply eA | ((with_reducible apply xA); · repeat first | with_reducible apply lH | with_reducible apply lT | with_reducible apply lL) | ((with_reducible apply xC); · repeat first | apply pH | with_reducible apply pT | with_reducible apply pL) | with_reducible assumption | with_reducible apply eS | with_reducible apply eL | exact eR)⟩ | (exfalso; first | contradiction | omega | (simp_all; done) | (simp_all; omega))
  · have c1' := c1; try simp only [inB_iff, Bool.and_eq_true, decide_eq_true_eq, decide_eq_false_iff_not, beq_iff_eq, beq_eq_false_iff_ne, bne_iff_ne, bne_eq_false_iff_eq, ne_eq] at c1'
    refine gS rfl rfl c1 ?_
    refine gS rfl rfl c1 ?_
    refine kF rfl c1 rfl ?_
    refine asg rfl ?_
    refine rN ?_
    refine qN ?_
    refine cE ?_
    refine kE rfl rfl  ?_
    first | (exfalso; contradiction) | exact ⟨_, ⟨by (simp only [pgB, *, Bool.true_and, Bool.and_true, Bool.false_and, Bool.and_false, Bool.or_false, Bool.false_or, Bool.or_true, Bool.true_or, Bool.not_true, Bool.not_false, if_true, if_false, Bool.false_eq_true, decide_true, decide_false, cond_true, cond_false]; done), rfl⟩, (by (try simp only [List.cons_append, List.nil_append, List.append_assoc]); repeat' first | with_reducible apply eR | with_reducible apply eA | ((with_reducible apply xA); · repeat first | with_reducible apply lH | with_reducible apply lT | with_reducible apply lL) | ((with_reducible apply xC); · repeat first | apply pH | with_reducible apply pT | with_reducible apply pL) | with_reducible assumption | with_reducible apply eS | with_reducible apply eL | exact eR)⟩ | (exfalso; first | contradiction | omega | (simp_all; done) | (simp_all; omega))
-- @reg spec.l07Good : c_l07Good _ _ _ _ _ @RD@ @BD@
theorem c_l07Good (a : Option Addr) (n c : Nat) (xs : List Nat) (M : Mem) (h : RdF M a n xs) (hn : n ≤ 1073741824) :
    ACall Try.prog 56 [.slice a n c] M fun v M' => v = .bool (pgB xs) ∧ M' = M := by
  obtain ⟨rfl, _⟩ := id h
  skip
  refine acall_of_awp Try.func56 rfl Try.ntmps56 rfl ?_
  refine cS (cR ?_)
  refine asg rfl ?_
  refine rN ?_
  refine qN ?_
  refine cS ?_
  refine cS (cR ?_)
  refine mv rfl ?_
  refine ln rfl ?_
  refine mv rfl ?_
  refine rN ?_
  refine qN ?_
  refine cB ?_
  refine cL1 (fun (k : Nat) => [(6, .int .i64 (k : Nat))]) [(0, _), (5, _)] (fun (k : Nat) => M) (fun (k : Nat) => xs.length - k) (fun (k : Nat) => k ≤ xs.length ∧ ∀ j, j < k → fnB (xs.getD j 0) = true) (0) (by repeat first | exact Sub.nil _ | refine Sub.cons rfl ?_) (by (try simp only [List.cons_append, List.nil_append, List.append_assoc]); repeat' first | with_reducible apply eR | with_reducible apply eA | ((with_reducible apply xA); · repeat first | with_reducible apply lH | with_reducible apply lT | with_reducible apply lL) | ((with_reducible apply xC); · repeat first | apply pH | with_reducible apply pT | with_reducible apply pL) | with_reducible assumption | with_reducible apply eS | with_reducible apply eL | exact eR) (by exact ⟨Nat.zero_le _, fun j hj => by omega⟩) ?_
  rintro k ⟨hk, hj⟩
  refine wT (T' := [(6, _), (0, _), (5, _)]) rfl ?_
  refine cS (cR ?_)
  refine bLss rfl rfl ?_
  refine rN ?_
  refine qN ?_
  refine cS ?_
  refine cC rfl (fun c1 => ?_) (fun c1 => ?_)
  · have c1' := c1; try simp only [inB_iff, Bool.and_eq_true, decide_eq_true_eq, decide_eq_false_iff_not, beq_iff_eq, beq_eq_false_iff_ne, bne_iff_ne, bne_eq_false_iff_eq, ne_eq] at c1'
    refine cK ?_
    refine qN ?_
    refine cS ?_
    refine cB ?_
    refine cS (cR ?_)
    refine mv rfl ?_
    refine asg rfl ?_
    refine rN ?_
    refine qN ?_
    refine cS (cR ?_)
    refine mv rfl ?_
    refine mv rfl ?_
    first
      | refine ixN rfl rfl (by first | (apply RdC.aok; with_reducible assumption) | exact AOk.own | (apply RdD.aok; with_reducible assumption) | (apply RdD.aok; apply OwD.rdD; with_reducible assumption) | (apply RdI.aok; with_reducible assumption) | (apply RdW.aok; with_reducible assumption) | (apply RdI.aok; apply OwI.rdI; with_reducible assumption) | with_reducible assumption | (apply RdF.aok; with_reducible assumption) | (apply RdF.aok; apply OwF.rdF; with_reducible assumption)) (by first | with_reducible assumption | omega) ?_
      | refine ixI rfl rfl (by first | (apply RdC.aok; with_reducible assumption) | exact AOk.own | (apply RdD.aok; with_reducible assumption) | (apply RdD.aok; apply OwD.rdD; with_reducible assumption) | (apply RdI.aok; with_reducible assumption) | (apply RdW.aok; with_reducible assumption) | (apply RdI.aok; apply OwI.rdI; with_reducible assumption) | with_reducible assumption | (apply RdF.aok; with_reducible assumption) | (apply RdF.aok; apply OwF.rdF; with_reducible assumption)) (by omega) (by omega) ?_
    refine ldF rfl (by first | with_reducible assumption | ((try first | with_reducible apply RdF.sub | with_reducible apply RdF.sub0) <;> first | with_reducible assumption | (apply RdF.mono; (· (with_reducible assumption)); · (try simp only [List.cons_append, List.nil_append, List.append_assoc]); repeat' first | with_reducible apply eR | with_reducible apply eA | ((with_reducible apply xA); · repeat first | with_reducible apply lH | with_reducible apply lT | with_reducible apply lL) | ((with_reducible apply xC); · repeat first | apply pH | with_reducible apply pT | with_reducible apply pL) | with_reducible assumption | with_reducible apply eS | with_reducible apply eL | exact eR) | (apply RdF.mono; (· (apply OwF.rdF; with_reducible assumption)); · (try simp only [List.cons_append, List.nil_append, List.append_assoc]); repeat' first | with_reducible apply eR | with_reducible apply eA | ((with_reducible apply xA); · repeat first | with_reducible apply lH | with_reducible apply lT | with_reducible apply lL) | ((with_reducible apply xC); · repeat first | apply pH | with_reducible apply pT | with_reducible apply pL) | with_reducible assumption | with_reducible apply eS | with_reducible apply eL | exact eR) | (apply RdF.ownm; (· repeat first | with_reducible assumption | with_reducible apply List.mem_cons_self | with_reducible apply List.mem_cons_of_mem | with_reducible apply List.mem_append_right | exact List.Mem.head _); · first | rfl | with_reducible assumption | omega | simp [*]) | with_reducible assumption | omega | (simp; done) | (simp; omega) | (simp only [Bool.and_eq_true, inB_iff] at *; omega))) (by first | with_reducible assumption | omega) ?_
    refine rCq rfl (c_l07Number _ _) ?_
    refine uNot rfl ?_
    refine rN ?_
    refine qN ?_
    refine cC rfl (fun c2 => ?_) (fun c2 => ?_)
    · replace c2 := not_t c2
      have c2' := c2; try simp only [inB_iff, Bool.and_eq_true, decide_eq_true_eq, decide_eq_false_iff_not, beq_iff_eq, beq_eq_false_iff_ne, bne_iff_ne, bne_eq_false_iff_eq, ne_eq] at c2'
      refine cS (cR ?_)
      refine asg rfl ?_
      refine rN ?_
      refine qN ?_
      refine cE ?_
      refine qBE ?_
      refine qE ?_
      refine qL1E ?_
      refine qBE ?_
      refine qE ?_
      refine kE rfl rfl  ?_
      first | (exfalso; contradiction) | exact ⟨_, ⟨by rw [pgB, fnA_no (k := k) (by omega) (by first | exact c2 | simpa using c2), Bool.and_false], rfl⟩, (by (try simp only [List.cons_append, List.nil_append, List.append_assoc]); repeat' first | with_reducible apply eR | with_reducible apply eA | ((with_reducible apply xA); · repeat first | with_reducible apply lH | with_reducible apply lT | with_reducible apply lL) | ((with_reducible apply xC); · repeat first | apply pH | with_reducible apply pT | with_reducible apply pL) | with_reducible assumption | with_reducible apply eS | with_reducible apply eL | exact eR)⟩ | (exfalso; first | contradiction | omega | (simp_all; done) | (simp_all; omega))
    · replace c2 := not_f c2
      have c2' := c2; try simp only [inB_iff, Bool.and_eq_true, decide_eq_true_eq, decide_eq_false_iff_not, beq_iff_eq, beq_eq_false_iff_ne, bne_iff_ne, bne_eq_false_iff_eq, ne_eq] at c2'
      refine cK ?_
      refine qBN ?_
      refine qN ?_
      refine cR ?_
      first | refine rAn (b := 1) rfl rfl (by omega) ?_ | refine rA rfl rfl (by omega) (by omega) ?_ | refine bAdd rfl rfl ?_
      refine mv rfl ?_
      refine rN ?_
      refine qL1 (k + 1) ?_ (by omega) (by repeat first | exact Sub.nil _ | refine Sub.cons rfl ?_) (by (try simp only [List.cons_append, List.nil_append, List.append_assoc]); repeat' first | with_reducible apply eR | with_reducible apply eA | ((with_reducible apply xA); · repeat first | with_reducible apply lH | with_reducible apply lT | with_reducible apply lL) | ((with_reducible apply xC); · repeat first | apply pH | with_reducible apply pT | with_reducible apply pL) | with_reducible assumption | with_reducible apply eS | with_reducible apply eL | exact eR)
      refine ⟨by omega, fun j hj2 => ?_⟩
      by_cases e : j = k
      · subst e; first | exact c2 | simpa using c2
      · exact hj j (by omega)
  · have c1' := c1; try simp only [inB_iff, Bool.and_eq_true, decide_eq_true_eq, decide_eq_false_iff_not, beq_iff_eq, beq_eq_false_iff_ne, bne_iff_ne, bne_eq_false_iff_eq, ne_eq] at c1'
    have hall : fnA xs = true := fnA_yes (fun j hj2 => hj j (by omega))
    refine cX ?_
    refine qX ?_
    refine qL1X ?_
    refine qBX ?_
    refine qN ?_
    refine cS (cR ?_)
    refine mv rfl ?_
    refine rCq rfl (c_l03Is _ _ _ _) ?_
    refine asg rfl ?_
    refine rN ?_
    refine qN ?_
    refine cE ?_
    refine kE rfl rfl  ?_
    first | (exfalso; contradiction) | exact ⟨_, ⟨by (simp only [pgB, *, Bool.true_and, Bool.and_true, Bool.false_and, Bool.and_false, Bool.or_false, Bool.false_or, Bool.or_true, Bool.true_or, Bool.not_true, Bool.not_false, if_true, if_false, Bool.false_eq_true, decide_true, decide_false, cond_true, cond_false]; done), rfl⟩, (by (try simp only [List.cons_append, List.nil_append, List.append_assoc]); repeat' first | with_reducible apply eR | with_reducible apply eA | ((with_reducible apply xA); · repeat first | with_reducible apply lH | with_reducible apply lT | with_reducible apply lL) | ((with_reducible apply xC); · repeat first | apply pH | with_reducible apply pT | with_reducible apply pL) | with_reducible assumption | with_reducible apply eS | with_reducible apply eL | exact eR)⟩ | (exfalso; first | contradiction | omega | (simp_all; done) | (simp_all; omega))
theorem c_implPackTrace (a : Option Addr) (n c : Nat) (xs : List Nat) (M : Mem) (h : RdF M a n xs) (hn : n ≤ 1073741824) (hc : n ≤ c) :
    ACall Try.prog 24 [.slice a n c] M fun v M' => v = .tuple #[.string (bif pgB xs then trS xs else ⟨#[]⟩), .bool (pgB xs)] ∧ M' = M := by
  obtain ⟨rfl, _⟩ := id h
  skip
  refine acall_of_awp Try.func24 rfl Try.ntmps24 rfl ?_
  refine cS (cR ?_)
  refine asg rfl ?_
  refine asg rfl ?_
  refine rN ?_
  refine qN ?_
  refine cS ?_
  refine cS (cR ?_)
  refine mv rfl ?_
  refine rCq rfl (c_isPackable _ _ _ _ _ (by first | with_reducible assumption | ((try first | with_reducible apply RdF.sub | with_reducible apply RdF.sub0) <;> first | with_reducible assumption | (apply RdF.mono; (· (with_reducible assumption)); · (try simp only [List.cons_append, List.nil_append, List.append_assoc]); repeat' first | with_reducible apply eR | with_reducible apply eA | ((with_reducible apply xA); · repeat first | with_reducible apply lH | with_reducible apply lT | with_reducible apply lL) | ((with_reducible apply xC); · repeat first | apply pH | with_reducible apply pT | with_reducible apply pL) | with_reducible assumption | with_reducible apply eS | with_reducible apply eL | exact eR) | (apply RdF.mono; (· (apply OwF.rdF; with_reducible assumption)); · (try simp only [List.cons_append, List.nil_append, List.append_assoc]); repeat' first | with_reducible apply eR | with_reducible apply eA | ((with_reducible apply xA); · repeat first | with_reducible apply lH | with_reducible apply lT | with_reducible apply lL) | ((with_reducible apply xC); · repeat first | apply pH | with_reducible apply pT | with_reducible apply pL) | with_reducible assumption | with_reducible apply eS | with_reducible apply eL | exact eR) | (apply RdF.ownm; (· repeat first | with_reducible assumption | with_reducible apply List.mem_cons_self | with_reducible apply List.mem_cons_of_mem | with_reducible apply List.mem_append_right | exact List.Mem.head _); · first | rfl | with_reducible assumption | omega | simp [*]) | with_reducible assumption | omega | (simp; done) | (simp; omega) | (simp only [Bool.and_eq_true, inB_iff] at *; omega))) (by first | with_reducible assumption | omega | (simp only [Bool.and_eq_true, inB_iff] at *; omega))) ?_
  refine uNot rfl ?_
  refine rN ?_
  refine qN ?_
  refine cC rfl (fun hq => ?_) (fun hq => ?_)
  · replace hq := not_t hq
    have hq' := hq; try simp only [inB_iff, Bool.and_eq_true, decide_eq_true_eq, decide_eq_false_iff_not, beq_iff_eq, beq_eq_false_iff_ne, bne_iff_ne, bne_eq_false_iff_eq, ne_eq] at hq'
    refine cS (cR ?_)
    refine asg rfl ?_
    refine asg rfl ?_
    refine rN ?_
    refine qN ?_
    refine cE ?_
    refine qE ?_
    refine kE2 rfl rfl rfl rfl rfl  ?_
    first | (exfalso; contradiction) | exact ⟨_, ⟨by rw [hq]; rfl, rfl⟩, (by (try simp only [List.cons_append, List.nil_append, List.append_assoc]); repeat' first | with_reducible apply eR | with_reducible apply eA | ((with_reducible apply xA); · repeat first | with_reducible apply lH | with_reducible apply lT | with_reducible apply lL) | ((with_reducible apply xC); · repeat first | apply pH | with_reducible apply pT | with_reducible apply pL) | with_reducible assumption | with_reducible apply eS | with_reducible apply eL | exact eR)⟩ | (exfalso; first | contradiction | omega | (simp_all; done) | (simp_all; omega))
  · replace hq := not_f hq
    have hq' := hq; try simp only [inB_iff, Bool.and_eq_true, decide_eq_true_eq, decide_eq_false_iff_not, beq_iff_eq, beq_eq_false_iff_ne, bne_iff_ne, bne_eq_false_iff_eq, ne_eq] at hq'
    obtain ⟨q1, q2⟩ := pgB_iff hq
    refine cK ?_
    refine qN ?_
    refine cS (cR ?_)
    refine mv rfl ?_
    refine rCq rfl (c_packTrace _ _ _ xs _ (by first | with_reducible assumption | ((try first | with_reducible apply RdF.sub | with_reducible apply RdF.sub0) <;> first | with_reducible assumption | (apply RdF.mono; (· (with_reducible assumption)); · (try simp only [List.cons_append, List.nil_append, List.append_assoc]); repeat' first | with_reducible apply eR | with_reducible apply eA | ((with_reducible apply xA); · repeat first | with_reducible apply lH | with_reducible apply lT | with_reducible apply lL) | ((with_reducible apply xC); · repeat first | apply pH | with_reducible apply pT | with_reducible apply pL) | with_reducible assumption | with_reducible apply eS | with_reducible apply eL | exact eR) | (apply RdF.mono; (· (apply OwF.rdF; with_reducible assumption)); · (try simp only [List.cons_append, List.nil_append, List.append_assoc]); repeat' first | with_reducible apply eR | with_reducible apply eA | ((with_reducible apply xA); · repeat first | with_reducible apply lH | with_reducible apply lT | with_reducible apply lL) | ((with_reducible apply xC); · repeat first | apply pH | with_reducible apply pT | with_reducible apply pL) | with_reducible assumption | with_reducible apply eS | with_reducible apply eL | exact eR) | (apply RdF.ownm; (· repeat first | with_reducible assumption | with_reducible apply List.mem_cons_self | with_reducible apply List.mem_cons_of_mem | with_reducible apply List.mem_append_right | exact List.Mem.head _); · first | rfl | with_reducible assumption | omega | simp [*]) | with_reducible assumption | omega | (simp; done) | (simp; omega) | (simp only [Bool.and_eq_true, inB_iff] at *; omega))) hc q1.1 q1.2 q2) ?_
    refine asg rfl ?_
    refine asg rfl ?_
    refine rN ?_
    refine qN ?_
    refine cE ?_
    refine kE2 rfl rfl rfl rfl rfl  ?_
    first | (exfalso; contradiction) | exact ⟨_, ⟨by rw [hq]; rfl, rfl⟩, (by (try simp only [List.cons_append, List.nil_append, List.append_assoc]); repeat' first | with_reducible apply eR | with_reducible apply eA | ((with_reducible apply xA); · repeat first | with_reducible apply lH | with_reducible apply lT | with_reducible apply lL) | ((with_reducible apply xC); · repeat first | apply pH | with_reducible apply pT | with_reducible apply pL) | with_reducible assumption | with_reducible apply eS | with_reducible apply eL | exact eR)⟩ | (exfalso; first | contradiction | omega | (simp_all; done) | (simp_all; omega))
theorem c_specPackTrace (a : Option Addr) (n c : Nat) (xs : List Nat) (M : Mem) (h : RdF M a n xs) (hn : n ≤ 1073741824) (hc : n ≤ c) :
    ACall Try.prog 23 [.slice a n c] M fun v M' => v = .tuple #[.string (bif pgB xs then trS xs else ⟨#[]⟩), .bool (pgB xs)] ∧ M' = M := by
  obtain ⟨rfl, _⟩ := id h
  skip
  refine acall_of_awp Try.func23 rfl Try.ntmps23 rfl ?_
  refine cS (cR ?_)
  refine asg rfl ?_
  refine asg rfl ?_
  refine rN ?_
  refine qN ?_
  refine cS ?_
  refine cS (cR ?_)
  refine mv rfl ?_
  refine rCq rfl (c_l07Good _ _ _ _ _ (by first | with_reducible assumption | ((try first | with_reducible apply RdF.sub | with_reducible apply RdF.sub0) <;> first | with_reducible assumption | (apply RdF.mono; (· (with_reducible assumption)); · (try simp only [List.cons_append, List.nil_append, List.append_assoc]); repeat' first | with_reducible apply eR | with_reducible apply eA | ((with_reducible apply xA); · repeat first | with_reducible apply lH | with_reducible apply lT | with_reducible apply lL) | ((with_reducible apply xC); · repeat first | apply pH | with_reducible apply pT | with_reducible apply pL) | with_reducible assumption | with_reducible apply eS | with_reducible apply eL | exact eR) | (apply RdF.mono; (· (apply OwF.rdF; with_reducible assumption)); · (try simp only [List.cons_append, List.nil_append, List.append_assoc]); repeat' first | with_reducible apply eR | with_reducible apply eA | ((with_reducible apply xA); · repeat first | with_reducible apply lH | with_reducible apply lT | with_reducible apply lL) | ((with_reducible apply xC); · repeat first | apply pH | with_reducible apply pT | with_reducible apply pL) | with_reducible assumption | with_reducible apply eS | with_reducible apply eL | exact eR) | (apply RdF.ownm; (· repeat first | with_reducible assumption | with_reducible apply List.mem_cons_self | with_reducible apply List.mem_cons_of_mem | with_reducible apply List.mem_append_right | exact List.Mem.head _); · first | rfl | with_reducible assumption | omega | simp [*]) | with_reducible assumption | omega | (simp; done) | (simp; omega) | (simp only [Bool.and_eq_true, inB_iff] at *; omega))) (by first | with_reducible assumption | omega | (simp only [Bool.and_eq_true, inB_iff] at *; omega))) ?_
  refine uNot rfl ?_
  refine rN ?_
  refine qN ?_
  refine cC rfl (fun hq => ?_) (fun hq => ?_)
  · replace hq := not_t hq
    have hq' := hq; try simp only [inB_iff, Bool.and_eq_true, decide_eq_true_eq, decide_eq_false_iff_not, beq_iff_eq, beq_eq_false_iff_ne, bne_iff_ne, bne_eq_false_iff_eq, ne_eq] at hq'
    refine cS (cR ?_)
    refine asg rfl ?_
    refine asg rfl ?_
    refine rN ?_
    refine qN ?_
    refine cE ?_
    refine qE ?_
    refine kE2 rfl rfl rfl rfl rfl  ?_
    first | (exfalso; contradiction) | exact ⟨_, ⟨by rw [hq]; rfl, rfl⟩, (by (try simp only [List.cons_append, List.nil_append, List.append_assoc]); repeat' first | with_reducible apply eR | with_reducible apply eA | ((with_reducible apply xA); · repeat first | with_reducible apply lH | with_reducible apply lT | with_reducible apply lL) | ((with_reducible apply xC); · repeat first | apply pH | with_reducible apply pT | with_reducible apply pL) | with_reducible assumption | with_reducible apply eS | with_reducible apply eL | exact eR)⟩ | (exfalso; first | contradiction | omega | (simp_all; done) | (simp_all; omega))
  · replace hq := not_f hq
    have hq' := hq; try simp only [inB_iff, Bool.and_eq_true, decide_eq_true_eq, decide_eq_false_iff_not, beq_iff_eq, beq_eq_false_iff_ne, bne_iff_ne, bne_eq_false_iff_eq, ne_eq] at hq'
    obtain ⟨q1, q2⟩ := pgB_iff hq
    refine cK ?_
    refine qN ?_
    refine cS (cR ?_)
    refine mv rfl ?_
    refine rCq rfl (c_l07Trace _ _ _ xs _ (by first | with_reducible assumption | ((try first | with_reducible apply RdF.sub | with_reducible apply RdF.sub0) <;> first | with_reducible assumption | (apply RdF.mono; (· (with_reducible assumption)); · (try simp only [List.cons_append, List.nil_append, List.append_assoc]); repeat' first | with_reducible apply eR | with_reducible apply eA | ((with_reducible apply xA); · repeat first | with_reducible apply lH | with_reducible apply lT | with_reducible apply lL) | ((with_reducible apply xC); · repeat first | apply pH | with_reducible apply pT | with_reducible apply pL) | with_reducible assumption | with_reducible apply eS | with_reducible apply eL | exact eR) | (apply RdF.mono; (· (apply OwF.rdF; with_reducible assumption)); · (try simp only [List.cons_append, List.nil_append, List.append_assoc]); repeat' first | with_reducible apply eR | with_reducible apply eA | ((with_reducible apply xA); · repeat first | with_reducible apply lH | with_reducible apply lT | with_reducible apply lL) | ((with_reducible apply xC); · repeat first | apply pH | with_reducible apply pT | with_reducible apply pL) | with_reducible assumption | with_reducible apply eS | with_reducible apply eL | exact eR) | (apply RdF.ownm; (· repeat first | with_reducible assumption | with_reducible apply List.mem_cons_self | with_reducible apply List.mem_cons_of_mem | with_reducible apply List.mem_append_right | exact List.Mem.head _); · first | rfl | with_reducible assumption | omega | simp [*]) | with_reducible assumption | omega | (simp; done) | (simp; omega) | (simp only [Bool.and_eq_true, inB_iff] at *; omega))) (by omega) hc q2) ?_
    refine asg rfl ?_
    refine asg rfl ?_
    refine rN ?_
    refine qN ?_
    refine cE ?_
    refine kE2 rfl rfl rfl rfl rfl  ?_
    first | (exfalso; contradiction) | exact ⟨_, ⟨by rw [hq]; rfl, rfl⟩, (by (try simp only [List.cons_append, List.nil_append, List.append_assoc]); repeat' first | with_reducible apply eR | with_reducible apply eA | ((with_reducible apply xA); · repeat first | with_reducible apply lH | with_reducible apply lT | with_reducible apply lL) | ((with_reducible apply xC); · repeat first | apply pH | with_reducible apply pT | with_reducible apply pL) | with_reducible assumption | with_reducible apply eS | with_reducible apply eL | exact eR)⟩ | (exfalso; first | contradiction | omega | (simp_all; done) | (simp_all; omega))
set_option maxHeartbeats 2000000 in
theorem c_lawPackTrace (a : Option Addr) (n c : Nat) (xs : List Nat) (M : Mem) (h : RdF M a n xs) (hn : n ≤ 9223372036854775807) :
    ACall Try.prog 6 [.slice a n c] M fun v M' => v = .bool true ∧ M' = M := by
  obtain ⟨rfl, _⟩ := id h
  refine acall_of_awp Try.func6 rfl Try.ntmps6 rfl ?_
  refine cS (cR ?_)
  refine asg rfl ?_
  refine rN ?_
  refine qN ?_
  refine cS ?_
  refine cS (cR ?_)
  refine mv rfl ?_
  refine ln rfl ?_
  refine bGtr rfl rfl ?_
  refine rN ?_
  refine qN ?_
  refine cC rfl (fun c1 => ?_) (fun c1 => ?_)
  · have c1' := c1; try simp only [inB_iff, Bool.and_eq_true, decide_eq_true_eq, decide_eq_false_iff_not, beq_iff_eq, beq_eq_false_iff_ne, bne_iff_ne, bne_eq_false_iff_eq, ne_eq] at c1'
    refine cS (cR ?_)
    refine asg rfl ?_
    refine rN ?_
    refine qN ?_
    refine cE ?_
    refine qE ?_
    refine kE rfl rfl  ?_
    first | (exfalso; contradiction) | exact ⟨_, ⟨rfl, rfl⟩, (by (try simp only [List.cons_append, List.nil_append, List.append_assoc]); repeat' first | with_reducible apply eR | with_reducible apply eA | ((with_reducible apply xA); · repeat first | with_reducible apply lH | with_reducible apply lT | with_reducible apply lL) | ((with_reducible apply xC); · repeat first | apply pH | with_reducible apply pT | with_reducible apply pL) | with_reducible assumption | with_reducible apply eS | with_reducible apply eL | exact eR)⟩ | (exfalso; first | contradiction | omega | (simp_all; done) | (simp_all; omega))
  have c1' := c1; try simp only [inB_iff, Bool.and_eq_true, decide_eq_true_eq, decide_eq_false_iff_not, beq_iff_eq, beq_eq_false_iff_ne, bne_iff_ne, bne_eq_false_iff_eq, ne_eq] at c1'
  refine cK ?_
  refine qN ?_
  refine cS (cR ?_)
  refine mv rfl ?_
  refine rC rfl (c_toFloat32S _ _ _ _ _ (by first | with_reducible assumption | ((try first | with_reducible apply RdF.sub | with_reducible apply RdF.sub0) <;> first | with_reducible assumption | (apply RdF.mono; (· (with_reducible assumption)); · (try simp only [List.cons_append, List.nil_append, List.append_assoc]); repeat' first | with_reducible apply eR | with_reducible apply eA | ((with_reducible apply xA); · repeat first | with_reducible apply lH | with_reducible apply lT | with_reducible apply lL) | ((with_reducible apply xC); · repeat first | apply pH | with_reducible apply pT | with_reducible apply pL) | with_reducible assumption | with_reducible apply eS | with_reducible apply eL | exact eR) | (apply RdF.mono; (· (apply OwF.rdF; with_reducible assumption)); · (try simp only [List.cons_append, List.nil_append, List.append_assoc]); repeat' first | with_reducible apply eR | with_reducible apply eA | ((with_reducible apply xA); · repeat first | with_reducible apply lH | with_reducible apply lT | with_reducible apply lL) | ((with_reducible apply xC); · repeat first | apply pH | with_reducible apply pT | with_reducible apply pL) | with_reducible assumption | with_reducible apply eS | with_reducible apply eL | exact eR) | (apply RdF.ownm; (· repeat first | with_reducible assumption | with_reducible apply List.mem_cons_self | with_reducible apply List.mem_cons_of_mem | with_reducible apply List.mem_append_right | exact List.Mem.head _); · first | rfl | with_reducible assumption | omega | simp [*]) | with_reducible assumption | omega | (simp; done) | (simp; omega) | (simp only [Bool.and_eq_true, inB_iff] at *; omega))) (by first | with_reducible assumption | omega | (simp only [Bool.and_eq_true, inB_iff] at *; omega))) ?_
  rintro sv1 _ ⟨lk1, how1, rfl⟩
  obtain ⟨ad1, cn1, rfl, hrd1⟩ := how1.rd
  have hcn1 := how1.capl
  refine ⟨fun _ => eL eR, ?_⟩
  refine rC rfl (c_specPackTrace _ _ _ xs _ (by first | with_reducible assumption | ((try first | with_reducible apply RdF.sub | with_reducible apply RdF.sub0) <;> first | with_reducible assumption | (apply RdF.mono; (· (with_reducible assumption)); · (try simp only [List.cons_append, List.nil_append, List.append_assoc]); repeat' first | with_reducible apply eR | with_reducible apply eA | ((with_reducible apply xA); · repeat first | with_reducible apply lH | with_reducible apply lT | with_reducible apply lL) | ((with_reducible apply xC); · repeat first | apply pH | with_reducible apply pT | with_reducible apply pL) | with_reducible assumption | with_reducible apply eS | with_reducible apply eL | exact eR) | (apply RdF.mono; (· (apply OwF.rdF; with_reducible assumption)); · (try simp only [List.cons_append, List.nil_append, List.append_assoc]); repeat' first | with_reducible apply eR | with_reducible apply eA | ((with_reducible apply xA); · repeat first | with_reducible apply lH | with_reducible apply lT | with_reducible apply lL) | ((with_reducible apply xC); · repeat first | apply pH | with_reducible apply pT | with_reducible apply pL) | with_reducible assumption | with_reducible apply eS | with_reducible apply eL | exact eR) | (apply RdF.ownm; (· repeat first | with_reducible assumption | with_reducible apply List.mem_cons_self | with_reducible apply List.mem_cons_of_mem | with_reducible apply List.mem_append_right | exact List.Mem.head _); · first | rfl | with_reducible assumption | omega | simp [*]) | with_reducible assumption | omega | (simp; done) | (simp; omega) | (simp only [Bool.and_eq_true, inB_iff] at *; omega))) (by first | with_reducible assumption | omega | (simp only [Bool.and_eq_true, inB_iff] at *; omega)) (by first | assumption | omega)) ?_
  rintro _ _ ⟨rfl, rfl⟩
  refine ⟨fun _ => eR, ?_⟩
  refine mv rfl ?_
  refine xt rfl rfl rfl ?_
  refine xt rfl rfl rfl ?_
  refine asg rfl ?_
  refine asg rfl ?_
  refine rN ?_
  refine qN ?_
  refine cS (cR ?_)
  refine mv rfl ?_
  refine rC rfl (c_toFloat32S _ _ _ _ _ (by first | with_reducible assumption | ((try first | with_reducible apply RdF.sub | with_reducible apply RdF.sub0) <;> first | with_reducible assumption | (apply RdF.mono; (· (with_reducible assumption)); · (try simp only [List.cons_append, List.nil_append, List.append_assoc]); repeat' first | with_reducible apply eR | with_reducible apply eA | ((with_reducible apply xA); · repeat first | with_reducible apply lH | with_reducible apply lT | with_reducible apply lL) | ((with_reducible apply xC); · repeat first | apply pH | with_reducible apply pT | with_reducible apply pL) | with_reducible assumption | with_reducible apply eS | with_reducible apply eL | exact eR) | (apply RdF.mono; (· (apply OwF.rdF; with_reducible assumption)); · (try simp only [List.cons_append, List.nil_append, List.append_assoc]); repeat' first | with_reducible apply eR | with_reducible apply eA | ((with_reducible apply xA); · repeat first | with_reducible apply lH | with_reducible apply lT | with_reducible apply lL) | ((with_reducible apply xC); · repeat first | apply pH | with_reducible apply pT | with_reducible apply pL) | with_reducible assumption | with_reducible apply eS | with_reducible apply eL | exact eR) | (apply RdF.ownm; (· repeat first | with_reducible assumption | with_reducible apply List.mem_cons_self | with_reducible apply List.mem_cons_of_mem | with_reducible apply List.mem_append_right | exact List.Mem.head _); · first | rfl | with_reducible assumption | omega | simp [*]) | with_reducible assumption | omega | (simp; done) | (simp; omega) | (simp only [Bool.and_eq_true, inB_iff] at *; omega))) (by first | with_reducible assumption | omega | (simp only [Bool.and_eq_true, inB_iff] at *; omega))) ?_
  rintro sv3 _ ⟨lk3, how3, rfl⟩
  obtain ⟨ad3, cn3, rfl, hrd3⟩ := how3.rd
  have hcn3 := how3.capl
  refine ⟨fun _ => eL eR, ?_⟩
  refine asg rfl ?_
  refine rN ?_
  refine qN ?_
  refine cS (cR ?_)
  refine mv rfl ?_
  refine rC rfl (c_implPackTrace _ _ _ xs _ (by first | with_reducible assumption | ((try first | with_reducible apply RdF.sub | with_reducible apply RdF.sub0) <;> first | with_reducible assumption | (apply RdF.mono; (· (with_reducible assumption)); · (try simp only [List.cons_append, List.nil_append, List.append_assoc]); repeat' first | with_reducible apply eR | with_reducible apply eA | ((with_reducible apply xA); · repeat first | with_reducible apply lH | with_reducible apply lT | with_reducible apply lL) | ((with_reducible apply xC); · repeat first | apply pH | with_reducible apply pT | with_reducible apply pL) | with_reducible assumption | with_reducible apply eS | with_reducible apply eL | exact eR) | (apply RdF.mono; (· (apply OwF.rdF; with_reducible assumption)); · (try simp only [List.cons_append, List.nil_append, List.append_assoc]); repeat' first | with_reducible apply eR | with_reducible apply eA | ((with_reducible apply xA); · repeat first | with_reducible apply lH | with_reducible apply lT | with_reducible apply lL) | ((with_reducible apply xC); · repeat first | apply pH | with_reducible apply pT | with_reducible apply pL) | with_reducible assumption | with_reducible apply eS | with_reducible apply eL | exact eR) | (apply RdF.ownm; (· repeat first | with_reducible assumption | with_reducible apply List.mem_cons_self | with_reducible apply List.mem_cons_of_mem | with_reducible apply List.mem_append_right | exact List.Mem.head _); · first | rfl | with_reducible assumption | omega | simp [*]) | with_reducible assumption | omega | (simp; done) | (simp; omega) | (simp only [Bool.and_eq_true, inB_iff] at *; omega))) (by first | with_reducible assumption | omega | (simp only [Bool.and_eq_true, inB_iff] at *; omega)) (by first | assumption | omega)) ?_
  rintro _ _ ⟨rfl, rfl⟩
  refine ⟨fun _ => eR, ?_⟩
  refine mv rfl ?_
  refine xt rfl rfl rfl ?_
  refine xt rfl rfl rfl ?_
  refine asg rfl ?_
  refine asg rfl ?_
  refine rN ?_
  refine qN ?_
  refine cS ?_
  refine cS (cR ?_)
  refine mv rfl ?_
  refine mv rfl ?_
  refine sNeq rfl rfl ?_
  refine mv rfl ?_
  skip
  refine gG rfl rfl (by first | exact bne_self_eq_false _ | (simp; done) | (simp; omega) | omega) ?_
  refine mv rfl ?_
  refine gG rfl rfl (by first | exact bne_self_eq_false _ | (simp; done) | (simp; omega) | omega) ?_
  refine mv rfl ?_
  refine gG rfl rfl (by first | exact bne_self_eq_false _ | (simp; done) | (simp; omega) | omega) ?_
  refine rp rfl ?_
  refine kF rfl (by first | exact bne_self_eq_false _ | (simp; done) | (simp; omega) | omega) rfl ?_
  refine rN ?_
  refine qN ?_
  refine cFa rfl (by first | exact bne_self_eq_false _ | (simp; done) | (simp; omega) | omega) ?_
  refine cK ?_
  refine qN ?_
  refine cS ?_
  refine cS (cR ?_)
  refine mv rfl ?_
  refine mv rfl ?_
  refine rC rfl (c_toFloat32S _ _ _ _ _ (by first | with_reducible assumption | ((try first | with_reducible apply RdF.sub | with_reducible apply RdF.sub0) <;> first | with_reducible assumption | (apply RdF.mono; (· (with_reducible assumption)); · (try simp only [List.cons_append, List.nil_append, List.append_assoc]); repeat' first | with_reducible apply eR | with_reducible apply eA | ((with_reducible apply xA); · repeat first | with_reducible apply lH | with_reducible apply lT | with_reducible apply lL) | ((with_reducible apply xC); · repeat first | apply pH | with_reducible apply pT | with_reducible apply pL) | with_reducible assumption | with_reducible apply eS | with_reducible apply eL | exact eR) | (apply RdF.mono; (· (apply OwF.rdF; with_reducible assumption)); · (try simp only [List.cons_append, List.nil_append, List.append_assoc]); repeat' first | with_reducible apply eR | with_reducible apply eA | ((with_reducible apply xA); · repeat first | with_reducible apply lH | with_reducible apply lT | with_reducible apply lL) | ((with_reducible apply xC); · repeat first | apply pH | with_reducible apply pT | with_reducible apply pL) | with_reducible assumption | with_reducible apply eS | with_reducible apply eL | exact eR) | (apply RdF.ownm; (· repeat first | with_reducible assumption | with_reducible apply List.mem_cons_self | with_reducible apply List.mem_cons_of_mem | with_reducible apply List.mem_append_right | exact List.Mem.head _); · first | rfl | with_reducible assumption | omega | simp [*]) | with_reducible assumption | omega | (simp; done) | (simp; omega) | (simp only [Bool.and_eq_true, inB_iff] at *; omega))) (by first | with_reducible assumption | omega | (simp only [Bool.and_eq_true, inB_iff] at *; omega))) ?_
  rintro sv5 _ ⟨lk5, how5, rfl⟩
  obtain ⟨ad5, cn5, rfl, hrd5⟩ := how5.rd
  have hcn5 := how5.capl
  refine ⟨fun _ => eL eR, ?_⟩
  refine rCq rfl (c_eqFloat32S _ _ _ _ _ _ _ _ (by first | with_reducible assumption | ((try first | with_reducible apply RdF.sub | with_reducible apply RdF.sub0) <;> first | with_reducible assumption | (apply RdF.mono; (· (with_reducible assumption)); · (try simp only [List.cons_append, List.nil_append, List.append_assoc]); repeat' first | with_reducible apply eR | with_reducible apply eA | ((with_reducible apply xA); · repeat first | with_reducible apply lH | with_reducible apply lT | with_reducible apply lL) | ((with_reducible apply xC); · repeat first | apply pH | with_reducible apply pT | with_reducible apply pL) | with_reducible assumption | with_reducible apply eS | with_reducible apply eL | exact eR) | (apply RdF.mono; (· (apply OwF.rdF; with_reducible assumption)); · (try simp only [List.cons_append, List.nil_append, List.append_assoc]); repeat' first | with_reducible apply eR | with_reducible apply eA | ((with_reducible apply xA); · repeat first | with_reducible apply lH | with_reducible apply lT | with_reducible apply lL) | ((with_reducible apply xC); · repeat first | apply pH | with_reducible apply pT | with_reducible apply pL) | with_reducible assumption | with_reducible apply eS | with_reducible apply eL | exact eR) | (apply RdF.ownm; (· repeat first | with_reducible assumption | with_reducible apply List.mem_cons_self | with_reducible apply List.mem_cons_of_mem | with_reducible apply List.mem_append_right | exact List.Mem.head _); · first | rfl | with_reducible assumption | omega | simp [*]) | with_reducible assumption | omega | (simp; done) | (simp; omega) | (simp only [Bool.and_eq_true, inB_iff] at *; omega))) (by first | with_reducible assumption | ((try first | with_reducible apply RdF.sub | with_reducible apply RdF.sub0) <;> first | with_reducible assumption | (apply RdF.mono; (· (with_reducible assumption)); · (try simp only [List.cons_append, List.nil_append, List.append_assoc]); repeat' first | with_reducible apply eR | with_reducible apply eA | ((with_reducible apply xA); · repeat first | with_reducible apply lH | with_reducible apply lT | with_reducible apply lL) | ((with_reducible apply xC); · repeat first | apply pH | with_reducible apply pT | with_reducible apply pL) | with_reducible assumption | with_reducible apply eS | with_reducible apply eL | exact eR) | (apply RdF.mono; (· (apply OwF.rdF; with_reducible assumption)); · (try simp only [List.cons_append, List.nil_append, List.append_assoc]); repeat' first | with_reducible apply eR | with_reducible apply eA | ((with_reducible apply xA); · repeat first | with_reducible apply lH | with_reducible apply lT | with_reducible apply lL) | ((with_reducible apply xC); · repeat first | apply pH | with_reducible apply pT | with_reducible apply pL) | with_reducible assumption | with_reducible apply eS | with_reducible apply eL | exact eR) | (apply RdF.ownm; (· repeat first | with_reducible assumption | with_reducible apply List.mem_cons_self | with_reducible apply List.mem_cons_of_mem | with_reducible apply List.mem_append_right | exact List.Mem.head _); · first | rfl | with_reducible assumption | omega | simp [*]) | with_reducible assumption | omega | (simp; done) | (simp; omega) | (simp only [Bool.and_eq_true, inB_iff] at *; omega))) (by first | with_reducible assumption | omega | (simp only [Bool.and_eq_true, inB_iff] at *; omega))) ?_
  refine uNot rfl ?_
  refine rN ?_
  refine qN ?_
  refine cF rfl ?_
  refine cK ?_
  refine qN ?_
  refine cS (cR ?_)
  refine asg rfl ?_
  refine rN ?_
  refine qN ?_
  refine cE ?_
  refine kE rfl rfl  ?_
  first | (exfalso; contradiction) | exact ⟨_, ⟨rfl, rfl⟩, (by (try simp only [List.cons_append, List.nil_append, List.append_assoc]); repeat' first | with_reducible apply eR | with_reducible apply eA | ((with_reducible apply xA); · repeat first | with_reducible apply lH | with_reducible apply lT | with_reducible apply lL) | ((with_reducible apply xC); · repeat first | apply pH | with_reducible apply pT | with_reducible apply pL) | with_reducible assumption | with_reducible apply eS | with_reducible apply eL | exact eR)⟩ | (exfalso; first | contradiction | omega | (simp_all; done) | (simp_all; omega))
theorem trS_size {xs : List Nat} : (trS xs).size = utT xs.length := by
  unfold trS
  rw [trK_size xs _ (Nat.le_refl _), utA_end]
theorem c_implRoundTrace (a : Option Addr) (n c : Nat) (xs : List Nat) (M : Mem) (h : RdF M a n xs) (hn : n ≤ 1073741824) (hc : n ≤ c) :
    ACall Try.prog 28 [.slice a n c] M fun v M' => ∃ L, ResF (pgB xs && utB (trS xs)) (utX (trS xs)) v L ∧ M' = L ++ M := by
  obtain ⟨rfl, _⟩ := id h
  skip
  refine acall_of_awp Try.func28 rfl Try.ntmps28 rfl ?_
  refine cS (cR ?_)
  refine asg rfl ?_
  refine asg rfl ?_
  refine rN ?_
  refine qN ?_
  refine cS ?_
  refine cS (cR ?_)
  refine mv rfl ?_
  refine rCq rfl (c_isPackable _ _ _ _ _ (by first | with_reducible assumption | ((try first | with_reducible apply RdF.sub | with_reducible apply RdF.sub0) <;> first | with_reducible assumption | (apply RdF.mono; (· (with_reducible assumption)); · (try simp only [List.cons_append, List.nil_append, List.append_assoc]); repeat' first | with_reducible apply eR | with_reducible apply eA | ((with_reducible apply xA); · repeat first | with_reducible apply lH | with_reducible apply lT | with_reducible apply lL) | ((with_reducible apply xC); · repeat first | apply pH | with_reducible apply pT | with_reducible apply pL) | with_reducible assumption | with_reducible apply eS | with_reducible apply eL | exact eR) | (apply RdF.mono; (· (apply OwF.rdF; with_reducible assumption)); · (try simp only [List.cons_append, List.nil_append, List.append_assoc]); repeat' first | with_reducible apply eR | with_reducible apply eA | ((with_reducible apply xA); · repeat first | with_reducible apply lH | with_reducible apply lT | with_reducible apply lL) | ((with_reducible apply xC); · repeat first | apply pH | with_reducible apply pT | with_reducible apply pL) | with_reducible assumption | with_reducible apply eS | with_reducible apply eL | exact eR) | (apply RdF.ownm; (· repeat first | with_reducible assumption | with_reducible apply List.mem_cons_self | with_reducible apply List.mem_cons_of_mem | with_reducible apply List.mem_append_right | exact List.Mem.head _); · first | rfl | with_reducible assumption | omega | simp [*]) | with_reducible assumption | omega | (simp; done) | (simp; omega) | (simp only [Bool.and_eq_true, inB_iff] at *; omega))) (by first | with_reducible assumption | omega | (simp only [Bool.and_eq_true, inB_iff] at *; omega))) ?_
  refine uNot rfl ?_
  refine rN ?_
  refine qN ?_
  refine cC rfl (fun hq => ?_) (fun hq => ?_)
  · replace hq := not_t hq
    have hq' := hq; try simp only [inB_iff, Bool.and_eq_true, decide_eq_true_eq, decide_eq_false_iff_not, beq_iff_eq, beq_eq_false_iff_ne, bne_iff_ne, bne_eq_false_iff_eq, ne_eq] at hq'
    refine cS (cR ?_)
    refine asg rfl ?_
    refine asg rfl ?_
    refine rN ?_
    refine qN ?_
    refine cE ?_
    refine qE ?_
    refine kE2 rfl rfl rfl rfl rfl  ?_
    first | (exfalso; contradiction) | exact ⟨_, ⟨_, ResF.no (by rw [hq]; rfl), rfl⟩, (by (try simp only [List.cons_append, List.nil_append, List.append_assoc]); repeat' first | with_reducible apply eR | with_reducible apply eA | ((with_reducible apply xA); · repeat first | with_reducible apply lH | with_reducible apply lT | with_reducible apply lL) | ((with_reducible apply xC); · repeat first | apply pH | with_reducible apply pT | with_reducible apply pL) | with_reducible assumption | with_reducible apply eS | with_reducible apply eL | exact eR)⟩ | (exfalso; first | contradiction | omega | (simp_all; done) | (simp_all; omega))
  · replace hq := not_f hq
    have hq' := hq; try simp only [inB_iff, Bool.and_eq_true, decide_eq_true_eq, decide_eq_false_iff_not, beq_iff_eq, beq_eq_false_iff_ne, bne_iff_ne, bne_eq_false_iff_eq, ne_eq] at hq'
    obtain ⟨q1, q2⟩ := pgB_iff hq
    have hsz := trS_size (xs := xs)
    have hT : utT xs.length = 1 + 2 * xs.length + (xs.length + 7) / 8 := rfl
    refine cK ?_
    refine qN ?_
    refine cS (cR ?_)
    refine mv rfl ?_
    refine rCq rfl (c_packTrace _ _ _ xs _ (by first | with_reducible assumption | ((try first | with_reducible apply RdF.sub | with_reducible apply RdF.sub0) <;> first | with_reducible assumption | (apply RdF.mono; (· (with_reducible assumption)); · (try simp only [List.cons_append, List.nil_append, List.append_assoc]); repeat' first | with_reducible apply eR | with_reducible apply eA | ((with_reducible apply xA); · repeat first | with_reducible apply lH | with_reducible apply lT | with_reducible apply lL) | ((with_reducible apply xC); · repeat first | apply pH | with_reducible apply pT | with_reducible apply pL) | with_reducible assumption | with_reducible apply eS | with_reducible apply eL | exact eR) | (apply RdF.mono; (· (apply OwF.rdF; with_reducible assumption)); · (try simp only [List.cons_append, List.nil_append, List.append_assoc]); repeat' first | with_reducible apply eR | with_reducible apply eA | ((with_reducible apply xA); · repeat first | with_reducible apply lH | with_reducible apply lT | with_reducible apply lL) | ((with_reducible apply xC); · repeat first | apply pH | with_reducible apply pT | with_reducible apply pL) | with_reducible assumption | with_reducible apply eS | with_reducible apply eL | exact eR) | (apply RdF.ownm; (· repeat first | with_reducible assumption | with_reducible apply List.mem_cons_self | with_reducible apply List.mem_cons_of_mem | with_reducible apply List.mem_append_right | exact List.Mem.head _); · first | rfl | with_reducible assumption | omega | simp [*]) | with_reducible assumption | omega | (simp; done) | (simp; omega) | (simp only [Bool.and_eq_true, inB_iff] at *; omega))) hc q1.1 q1.2 q2) ?_
    refine rC rfl (c_implUnpackTrace (trS xs) _ (by omega)) ?_
    rintro _ _ ⟨lk9, ⟨sv9, rfl, how9⟩, rfl⟩
    refine ⟨fun _ => (by (try simp only [List.cons_append, List.nil_append, List.append_assoc]); repeat' first | with_reducible apply eR | with_reducible apply eA | ((with_reducible apply xA); · repeat first | with_reducible apply lH | with_reducible apply lT | with_reducible apply lL) | ((with_reducible apply xC); · repeat first | apply pH | with_reducible apply pT | with_reducible apply pL) | with_reducible assumption | with_reducible apply eS | with_reducible apply eL | exact eR), ?_⟩
    obtain ⟨ad9, cn9, rfl, hrd9⟩ := how9.rd
    have hcn9 := how9.capl
    refine xt rfl rfl rfl ?_
    refine xt rfl rfl rfl ?_
    refine asg rfl ?_
    refine asg rfl ?_
    refine rN ?_
    refine qN ?_
    refine cE ?_
    refine kE2 rfl rfl rfl rfl rfl  ?_
    first | (exfalso; contradiction) | exact ⟨_, ⟨_, ⟨_, by rw [hq]; rfl, by rw [hq]; exact how9⟩, rfl⟩, (by (try simp only [List.cons_append, List.nil_append, List.append_assoc]); repeat' first | with_reducible apply eR | with_reducible apply eA | ((with_reducible apply xA); · repeat first | with_reducible apply lH | with_reducible apply lT | with_reducible apply lL) | ((with_reducible apply xC); · repeat first | apply pH | with_reducible apply pT | with_reducible apply pL) | with_reducible assumption | with_reducible apply eS | with_reducible apply eL | exact eR)⟩ | (exfalso; first | contradiction | omega | (simp_all; done) | (simp_all; omega))
theorem c_specRoundTrace (a : Option Addr) (n c : Nat) (xs : List Nat) (M : Mem) (h : RdF M a n xs) (hn : n ≤ 1073741824) (hc : n ≤ c) :
    ACall Try.prog 27 [.slice a n c] M fun v M' => ∃ L, ResF (pgB xs && utB (trS xs)) (utX (trS xs)) v L ∧ M' = L ++ M := by
  obtain ⟨rfl, _⟩ := id h
  skip
  refine acall_of_awp Try.func27 rfl Try.ntmps27 rfl ?_
  refine cS (cR ?_)
  refine asg rfl ?_
  refine asg rfl ?_
  refine rN ?_
  refine qN ?_
  refine cS ?_
  refine cS (cR ?_)
  refine mv rfl ?_
  refine rCq rfl (c_l07Good _ _ _ _ _ (by first | with_reducible assumption | ((try first | with_reducible apply RdF.sub | with_reducible apply RdF.sub0) <;> first | with_reducible assumption | (apply RdF.mono; (· (with_reducible assumption)); · (try simp only [List.cons_append, List.nil_append, List.append_assoc]); repeat' first | with_reducible apply eR | with_reducible apply eA | ((with_reducible apply xA); · repeat first | with_reducible apply lH | with_reducible apply lT | with_reducible apply lL) | ((with_reducible apply xC); · repeat first | apply pH | with_reducible apply pT | with_reducible apply pL) | with_reducible assumption | with_reducible apply eS | with_reducible apply eL | exact eR) | (apply RdF.mono; (· (apply OwF.rdF; with_reducible assumption)); · (try simp only [List.cons_append, List.nil_append, List.append_assoc]); repeat' first | with_reducible apply eR | with_reducible apply eA | ((with_reducible apply xA); · repeat first | with_reducible apply lH | with_reducible apply lT | with_reducible apply lL) | ((with_reducible apply xC); · repeat first | apply pH | with_reducible apply pT | with_reducible apply pL) | with_reducible assumption | with_reducible apply eS | with_reducible apply eL | exact eR) | (apply RdF.ownm; (· repeat first | with_reducible assumption | with_reducible apply List.mem_cons_self | with_reducible apply List.mem_cons_of_mem | with_reducible apply List.mem_append_right | exact List.Mem.head _); · first | rfl | with_reducible assumption | omega | simp [*]) | with_reducible assumption | omega | (simp; done) | (simp; omega) | (simp only [Bool.and_eq_true, inB_iff] at *; omega))) (by first | with_reducible assumption | omega | (simp only [Bool.and_eq_true, inB_iff] at *; omega))) ?_
  refine uNot rfl ?_
  refine rN ?_
  refine qN ?_
  refine cC rfl (fun hq => ?_) (fun hq => ?_)
  · replace hq := not_t hq
    have hq' := hq; try simp only [inB_iff, Bool.and_eq_true, decide_eq_true_eq, decide_eq_false_iff_not, beq_iff_eq, beq_eq_false_iff_ne, bne_iff_ne, bne_eq_false_iff_eq, ne_eq] at hq'
    refine cS (cR ?_)
    refine asg rfl ?_
    refine asg rfl ?_
    refine rN ?_
    refine qN ?_
    refine cE ?_
    refine qE ?_
    refine kE2 rfl rfl rfl rfl rfl  ?_
    first | (exfalso; contradiction) | exact ⟨_, ⟨_, ResF.no (by rw [hq]; rfl), rfl⟩, (by (try simp only [List.cons_append, List.nil_append, List.append_assoc]); repeat' first | with_reducible apply eR | with_reducible apply eA | ((with_reducible apply xA); · repeat first | with_reducible apply lH | with_reducible apply lT | with_reducible apply lL) | ((with_reducible apply xC); · repeat first | apply pH | with_reducible apply pT | with_reducible apply pL) | with_reducible assumption | with_reducible apply eS | with_reducible apply eL | exact eR)⟩ | (exfalso; first | contradiction | omega | (simp_all; done) | (simp_all; omega))
  · replace hq := not_f hq
    have hq' := hq; try simp only [inB_iff, Bool.and_eq_true, decide_eq_true_eq, decide_eq_false_iff_not, beq_iff_eq, beq_eq_false_iff_ne, bne_iff_ne, bne_eq_false_iff_eq, ne_eq] at hq'
    obtain ⟨q1, q2⟩ := pgB_iff hq
    have hsz := trS_size (xs := xs)
    have hT : utT xs.length = 1 + 2 * xs.length + (xs.length + 7) / 8 := rfl
    refine cK ?_
    refine qN ?_
    refine cS (cR ?_)
    refine mv rfl ?_
    refine rCq rfl (c_l07Trace _ _ _ xs _ (by first | with_reducible assumption | ((try first | with_reducible apply RdF.sub | with_reducible apply RdF.sub0) <;> first | with_reducible assumption | (apply RdF.mono; (· (with_reducible assumption)); · (try simp only [List.cons_append, List.nil_append, List.append_assoc]); repeat' first | with_reducible apply eR | with_reducible apply eA | ((with_reducible apply xA); · repeat first | with_reducible apply lH | with_reducible apply lT | with_reducible apply lL) | ((with_reducible apply xC); · repeat first | apply pH | with_reducible apply pT | with_reducible apply pL) | with_reducible assumption | with_reducible apply eS | with_reducible apply eL | exact eR) | (apply RdF.mono; (· (apply OwF.rdF; with_reducible assumption)); · (try simp only [List.cons_append, List.nil_append, List.append_assoc]); repeat' first | with_reducible apply eR | with_reducible apply eA | ((with_reducible apply xA); · repeat first | with_reducible apply lH | with_reducible apply lT | with_reducible apply lL) | ((with_reducible apply xC); · repeat first | apply pH | with_reducible apply pT | with_reducible apply pL) | with_reducible assumption | with_reducible apply eS | with_reducible apply eL | exact eR) | (apply RdF.ownm; (· repeat first | with_reducible assumption | with_reducible apply List.mem_cons_self | with_reducible apply List.mem_cons_of_mem | with_reducible apply List.mem_append_right | exact List.Mem.head _); · first | rfl | with_reducible assumption | omega | simp [*]) | with_reducible assumption | omega | (simp; done) | (simp; omega) | (simp only [Bool.and_eq_true, inB_iff] at *; omega))) (by omega) hc q2) ?_
    refine rC rfl (c_l07ReadTrace (trS xs) _ (by omega)) ?_
    rintro _ _ ⟨lk9, ⟨sv9, rfl, how9⟩, rfl⟩
    refine ⟨fun _ => (by (try simp only [List.cons_append, List.nil_append, List.append_assoc]); repeat' first | with_reducible apply eR | with_reducible apply eA | ((with_reducible apply xA); · repeat first | with_reducible apply lH | with_reducible apply lT | with_reducible apply lL) | ((with_reducible apply xC); · repeat first | apply pH | with_reducible apply pT | with_reducible apply pL) | with_reducible assumption | with_reducible apply eS | with_reducible apply eL | exact eR), ?_⟩
    obtain ⟨ad9, cn9, rfl, hrd9⟩ := how9.rd
    have hcn9 := how9.capl
    refine xt rfl rfl rfl ?_
    refine xt rfl rfl rfl ?_
    refine asg rfl ?_
    refine asg rfl ?_
    refine rN ?_
    refine qN ?_
    refine cE ?_
    refine kE2 rfl rfl rfl rfl rfl  ?_
    first | (exfalso; contradiction) | exact ⟨_, ⟨_, ⟨_, by rw [hq]; rfl, by rw [hq]; exact how9⟩, rfl⟩, (by (try simp only [List.cons_append, List.nil_append, List.append_assoc]); repeat' first | with_reducible apply eR | with_reducible apply eA | ((with_reducible apply xA); · repeat first | with_reducible apply lH | with_reducible apply lT | with_reducible apply lL) | ((with_reducible apply xC); · repeat first | apply pH | with_reducible apply pT | with_reducible apply pL) | with_reducible assumption | with_reducible apply eS | with_reducible apply eL | exact eR)⟩ | (exfalso; first | contradiction | omega | (simp_all; done) | (simp_all; omega))
theorem rt_len (xs : List Nat) : (bif pgB xs && utB (trS xs) then utX (trS xs) else []).length ≤ 128 := by
  have := utB_len (trS xs)
  cases pgB xs with
  | false => simp
  | true => exact this
set_option maxHeartbeats 2000000 in
theorem c_lawRoundTrace (a : Option Addr) (n c : Nat) (xs : List Nat) (M : Mem) (h : RdF M a n xs) (hn : n ≤ 9223372036854775807) :
    ACall Try.prog 8 [.slice a n c] M fun v M' => v = .bool true ∧ M' = M := by
  obtain ⟨rfl, _⟩ := id h
  have hb : (bif pgB xs && utB (trS xs) then utX (trS xs) else []).length ≤ 1048576 := Nat.le_trans (rt_len xs) (by decide)
  refine acall_of_awp Try.func8 rfl Try.ntmps8 rfl ?_
  refine cS (cR ?_)
  refine asg rfl ?_
  refine rN ?_
  refine qN ?_
  refine cS ?_
  refine cS (cR ?_)
  refine mv rfl ?_
  refine ln rfl ?_
  refine bGtr rfl rfl ?_
  refine rN ?_
  refine qN ?_
  refine cC rfl (fun c1 => ?_) (fun c1 => ?_)
  · have c1' := c1; try simp only [inB_iff, Bool.and_eq_true, decide_eq_true_eq, decide_eq_false_iff_not, beq_iff_eq, beq_eq_false_iff_ne, bne_iff_ne, bne_eq_false_iff_eq, ne_eq] at c1'
    refine cS (cR ?_)
    refine asg rfl ?_
    refine rN ?_
    refine qN ?_
    refine cE ?_
    refine qE ?_
    refine kE rfl rfl  ?_
    first | (exfalso; contradiction) | exact ⟨_, ⟨rfl, rfl⟩, (by (try simp only [List.cons_append, List.nil_append, List.append_assoc]); repeat' first | with_reducible apply eR | with_reducible apply eA | ((with_reducible apply xA); · repeat first | with_reducible apply lH | with_reducible apply lT | with_reducible apply lL) | ((with_reducible apply xC); · repeat first | apply pH | with_reducible apply pT | with_reducible apply pL) | with_reducible assumption | with_reducible apply eS | with_reducible apply eL | exact eR)⟩ | (exfalso; first | contradiction | omega | (simp_all; done) | (simp_all; omega))
  have c1' := c1; try simp only [inB_iff, Bool.and_eq_true, decide_eq_true_eq, decide_eq_false_iff_not, beq_iff_eq, beq_eq_false_iff_ne, bne_iff_ne, bne_eq_false_iff_eq, ne_eq] at c1'
  refine cK ?_
  refine qN ?_
  refine cS (cR ?_)
  refine mv rfl ?_
  refine rC rfl (c_toFloat32S _ _ _ _ _ (by first | with_reducible assumption | ((try first | with_reducible apply RdF.sub | with_reducible apply RdF.sub0) <;> first | with_reducible assumption | (apply RdF.mono; (· (with_reducible assumption)); · (try simp only [List.cons_append, List.nil_append, List.append_assoc]); repeat' first | with_reducible apply eR | with_reducible apply eA | ((with_reducible apply xA); · repeat first | with_reducible apply lH | with_reducible apply lT | with_reducible apply lL) | ((with_reducible apply xC); · repeat first | apply pH | with_reducible apply pT | with_reducible apply pL) | with_reducible assumption | with_reducible apply eS | with_reducible apply eL | exact eR) | (apply RdF.mono; (· (apply OwF.rdF; with_reducible assumption)); · (try simp only [List.cons_append, List.nil_append, List.append_assoc]); repeat' first | with_reducible apply eR | with_reducible apply eA | ((with_reducible apply xA); · repeat first | with_reducible apply lH | with_reducible apply lT | with_reducible apply lL) | ((with_reducible apply xC); · repeat first | apply pH | with_reducible apply pT | with_reducible apply pL) | with_reducible assumption | with_reducible apply eS | with_reducible apply eL | exact eR) | (apply RdF.ownm; (· repeat first | with_reducible assumption | with_reducible apply List.mem_cons_self | with_reducible apply List.mem_cons_of_mem | with_reducible apply List.mem_append_right | exact List.Mem.head _); · first | rfl | with_reducible assumption | omega | simp [*]) | with_reducible assumption | omega | (simp; done) | (simp; omega) | (simp only [Bool.and_eq_true, inB_iff] at *; omega))) (by first | with_reducible assumption | omega | (simp only [Bool.and_eq_true, inB_iff] at *; omega))) ?_
  rintro sv1 _ ⟨lk1, how1, rfl⟩
  obtain ⟨ad1, cn1, rfl, hrd1⟩ := how1.rd
  have hcn1 := how1.capl
  refine ⟨fun _ => eL eR, ?_⟩
  refine rC rfl (c_specRoundTrace _ _ _ xs _ (by first | with_reducible assumption | ((try first | with_reducible apply RdF.sub | with_reducible apply RdF.sub0) <;> first | with_reducible assumption | (apply RdF.mono; (· (with_reducible assumption)); · (try simp only [List.cons_append, List.nil_append, List.append_assoc]); repeat' first | with_reducible apply eR | with_reducible apply eA | ((with_reducible apply xA); · repeat first | with_reducible apply lH | with_reducible apply lT | with_reducible apply lL) | ((with_reducible apply xC); · repeat first | apply pH | with_reducible apply pT | with_reducible apply pL) | with_reducible assumption | with_reducible apply eS | with_reducible apply eL | exact eR) | (apply RdF.mono; (· (apply OwF.rdF; with_reducible assumption)); · (try simp only [List.cons_append, List.nil_append, List.append_assoc]); repeat' first | with_reducible apply eR | with_reducible apply eA | ((with_reducible apply xA); · repeat first | with_reducible apply lH | with_reducible apply lT | with_reducible apply lL) | ((with_reducible apply xC); · repeat first | apply pH | with_reducible apply pT | with_reducible apply pL) | with_reducible assumption | with_reducible apply eS | with_reducible apply eL | exact eR) | (apply RdF.ownm; (· repeat first | with_reducible assumption | with_reducible apply List.mem_cons_self | with_reducible apply List.mem_cons_of_mem | with_reducible apply List.mem_append_right | exact List.Mem.head _); · first | rfl | with_reducible assumption | omega | simp [*]) | with_reducible assumption | omega | (simp; done) | (simp; omega) | (simp only [Bool.and_eq_true, inB_iff] at *; omega))) (by first | with_reducible assumption | omega | (simp only [Bool.and_eq_true, inB_iff] at *; omega)) (by first | assumption | omega)) ?_
  rintro _ _ ⟨lk2, ⟨sv2, rfl, how2⟩, rfl⟩
  obtain ⟨ad2, cn2, rfl, hrd2⟩ := how2.rd
  have hcn2 := how2.capl
  refine ⟨fun _ => eL eR, ?_⟩
  refine mv rfl ?_
  refine xt rfl rfl rfl ?_
  refine xt rfl rfl rfl ?_
  refine asg rfl ?_
  refine asg rfl ?_
  refine rN ?_
  refine qN ?_
  refine cS (cR ?_)
  refine mv rfl ?_
  refine rC rfl (c_toFloat32S _ _ _ _ _ (by first | with_reducible assumption | ((try first | with_reducible apply RdF.sub | with_reducible apply RdF.sub0) <;> first | with_reducible assumption | (apply RdF.mono; (· (with_reducible assumption)); · (try simp only [List.cons_append, List.nil_append, List.append_assoc]); repeat' first | with_reducible apply eR | with_reducible apply eA | ((with_reducible apply xA); · repeat first | with_reducible apply lH | with_reducible apply lT | with_reducible apply lL) | ((with_reducible apply xC); · repeat first | apply pH | with_reducible apply pT | with_reducible apply pL) | with_reducible assumption | with_reducible apply eS | with_reducible apply eL | exact eR) | (apply RdF.mono; (· (apply OwF.rdF; with_reducible assumption)); · (try simp only [List.cons_append, List.nil_append, List.append_assoc]); repeat' first | with_reducible apply eR | with_reducible apply eA | ((with_reducible apply xA); · repeat first | with_reducible apply lH | with_reducible apply lT | with_reducible apply lL) | ((with_reducible apply xC); · repeat first | apply pH | with_reducible apply pT | with_reducible apply pL) | with_reducible assumption | with_reducible apply eS | with_reducible apply eL | exact eR) | (apply RdF.ownm; (· repeat first | with_reducible assumption | with_reducible apply List.mem_cons_self | with_reducible apply List.mem_cons_of_mem | with_reducible apply List.mem_append_right | exact List.Mem.head _); · first | rfl | with_reducible assumption | omega | simp [*]) | with_reducible assumption | omega | (simp; done) | (simp; omega) | (simp only [Bool.and_eq_true, inB_iff] at *; omega))) (by first | with_reducible assumption | omega | (simp only [Bool.and_eq_true, inB_iff] at *; omega))) ?_
  rintro sv3 _ ⟨lk3, how3, rfl⟩
  obtain ⟨ad3, cn3, rfl, hrd3⟩ := how3.rd
  have hcn3 := how3.capl
  refine ⟨fun _ => eL eR, ?_⟩
  refine asg rfl ?_
  refine rN ?_
  refine qN ?_
  refine cS (cR ?_)
  refine mv rfl ?_
  refine rC rfl (c_implRoundTrace _ _ _ xs _ (by first | with_reducible assumption | ((try first | with_reducible apply RdF.sub | with_reducible apply RdF.sub0) <;> first | with_reducible assumption | (apply RdF.mono; (· (with_reducible assumption)); · (try simp only [List.cons_append, List.nil_append, List.append_assoc]); repeat' first | with_reducible apply eR | with_reducible apply eA | ((with_reducible apply xA); · repeat first | with_reducible apply lH | with_reducible apply lT | with_reducible apply lL) | ((with_reducible apply xC); · repeat first | apply pH | with_reducible apply pT | with_reducible apply pL) | with_reducible assumption | with_reducible apply eS | with_reducible apply eL | exact eR) | (apply RdF.mono; (· (apply OwF.rdF; with_reducible assumption)); · (try simp only [List.cons_append, List.nil_append, List.append_assoc]); repeat' first | with_reducible apply eR | with_reducible apply eA | ((with_reducible apply xA); · repeat first | with_reducible apply lH | with_reducible apply lT | with_reducible apply lL) | ((with_reducible apply xC); · repeat first | apply pH | with_reducible apply pT | with_reducible apply pL) | with_reducible assumption | with_reducible apply eS | with_reducible apply eL | exact eR) | (apply RdF.ownm; (· repeat first | with_reducible assumption | with_reducible apply List.mem_cons_self | with_reducible apply List.mem_cons_of_mem | with_reducible apply List.mem_append_right | exact List.Mem.head _); · first | rfl | with_reducible assumption | omega | simp [*]) | with_reducible assumption | omega | (simp; done) | (simp; omega) | (simp only [Bool.and_eq_true, inB_iff] at *; omega))) (by first | with_reducible assumption | omega | (simp only [Bool.and_eq_true, inB_iff] at *; omega)) (by first | assumption | omega)) ?_
  rintro _ _ ⟨lk4, ⟨sv4, rfl, how4⟩, rfl⟩
  obtain ⟨ad4, cn4, rfl, hrd4⟩ := how4.rd
  have hcn4 := how4.capl
  refine ⟨fun _ => eL eR, ?_⟩
  refine mv rfl ?_
  refine xt rfl rfl rfl ?_
  refine xt rfl rfl rfl ?_
  refine asg rfl ?_
  refine asg rfl ?_
  refine rN ?_
  refine qN ?_
  refine cS ?_
  refine cS (cR ?_)
  refine mv rfl ?_
  refine mv rfl ?_
  refine rCq rfl (c_eqFloat32S _ _ _ _ _ _ _ _ (by first | with_reducible assumption | ((try first | with_reducible apply RdF.sub | with_reducible apply RdF.sub0) <;> first | with_reducible assumption | (apply RdF.mono; (· (with_reducible assumption)); · (try simp only [List.cons_append, List.nil_append, List.append_assoc]); repeat' first | with_reducible apply eR | with_reducible apply eA | ((with_reducible apply xA); · repeat first | with_reducible apply lH | with_reducible apply lT | with_reducible apply lL) | ((with_reducible apply xC); · repeat first | apply pH | with_reducible apply pT | with_reducible apply pL) | with_reducible assumption | with_reducible apply eS | with_reducible apply eL | exact eR) | (apply RdF.mono; (· (apply OwF.rdF; with_reducible assumption)); · (try simp only [List.cons_append, List.nil_append, List.append_assoc]); repeat' first | with_reducible apply eR | with_reducible apply eA | ((with_reducible apply xA); · repeat first | with_reducible apply lH | with_reducible apply lT | with_reducible apply lL) | ((with_reducible apply xC); · repeat first | apply pH | with_reducible apply pT | with_reducible apply pL) | with_reducible assumption | with_reducible apply eS | with_reducible apply eL | exact eR) | (apply RdF.ownm; (· repeat first | with_reducible assumption | with_reducible apply List.mem_cons_self | with_reducible apply List.mem_cons_of_mem | with_reducible apply List.mem_append_right | exact List.Mem.head _); · first | rfl | with_reducible assumption | omega | simp [*]) | with_reducible assumption | omega | (simp; done) | (simp; omega) | (simp only [Bool.and_eq_true, inB_iff] at *; omega))) (by first | with_reducible assumption | ((try first | with_reducible apply RdF.sub | with_reducible apply RdF.sub0) <;> first | with_reducible assumption | (apply RdF.mono; (· (with_reducible assumption)); · (try simp only [List.cons_append, List.nil_append, List.append_assoc]); repeat' first | with_reducible apply eR | with_reducible apply eA | ((with_reducible apply xA); · repeat first | with_reducible apply lH | with_reducible apply lT | with_reducible apply lL) | ((with_reducible apply xC); · repeat first | apply pH | with_reducible apply pT | with_reducible apply pL) | with_reducible assumption | with_reducible apply eS | with_reducible apply eL | exact eR) | (apply RdF.mono; (· (apply OwF.rdF; with_reducible assumption)); · (try simp only [List.cons_append, List.nil_append, List.append_assoc]); repeat' first | with_reducible apply eR | with_reducible apply eA | ((with_reducible apply xA); · repeat first | with_reducible apply lH | with_reducible apply lT | with_reducible apply lL) | ((with_reducible apply xC); · repeat first | apply pH | with_reducible apply pT | with_reducible apply pL) | with_reducible assumption | with_reducible apply eS | with_reducible apply eL | exact eR) | (apply RdF.ownm; (· repeat first | with_reducible assumption | with_reducible apply List.mem_cons_self | with_reducible apply List.mem_cons_of_mem | with_reducible apply List.mem_append_right | exact List.Mem.head _); · first | rfl | with_reducible assumption | omega | simp [*]) | with_reducible assumption | omega | (simp; done) | (simp; omega) | (simp only [Bool.and_eq_true, inB_iff] at *; omega))) (by first | with_reducible assumption | omega | (simp only [Bool.and_eq_true, inB_iff] at *; omega))) ?_
  refine uNot rfl ?_
  refine mv rfl ?_
  refine gG rfl rfl rfl ?_
  refine mv rfl ?_
  refine gG rfl rfl rfl ?_
  refine mv rfl ?_
  refine gG rfl rfl rfl ?_
  refine rp rfl ?_
  refine kF rfl rfl rfl ?_
  refine rN ?_
  refine qN ?_
  refine cFa rfl (by first | exact bne_self_eq_false _ | (simp; done) | (simp; omega) | omega) ?_
  refine cK ?_
  refine qN ?_
  refine cS ?_
  refine cS (cR ?_)
  refine mv rfl ?_
  refine mv rfl ?_
  refine rC rfl (c_toFloat32S _ _ _ _ _ (by first | with_reducible assumption | ((try first | with_reducible apply RdF.sub | with_reducible apply RdF.sub0) <;> first | with_reducible assumption | (apply RdF.mono; (· (with_reducible assumption)); · (try simp only [List.cons_append, List.nil_append, List.append_assoc]); repeat' first | with_reducible apply eR | with_reducible apply eA | ((with_reducible apply xA); · repeat first | with_reducible apply lH | with_reducible apply lT | with_reducible apply lL) | ((with_reducible apply xC); · repeat first | apply pH | with_reducible apply pT | with_reducible apply pL) | with_reducible assumption | with_reducible apply eS | with_reducible apply eL | exact eR) | (apply RdF.mono; (· (apply OwF.rdF; with_reducible assumption)); · (try simp only [List.cons_append, List.nil_append, List.append_assoc]); repeat' first | with_reducible apply eR | with_reducible apply eA | ((with_reducible apply xA); · repeat first | with_reducible apply lH | with_reducible apply lT | with_reducible apply lL) | ((with_reducible apply xC); · repeat first | apply pH | with_reducible apply pT | with_reducible apply pL) | with_reducible assumption | with_reducible apply eS | with_reducible apply eL | exact eR) | (apply RdF.ownm; (· repeat first | with_reducible assumption | with_reducible apply List.mem_cons_self | with_reducible apply List.mem_cons_of_mem | with_reducible apply List.mem_append_right | exact List.Mem.head _); · first | rfl | with_reducible assumption | omega | simp [*]) | with_reducible assumption | omega | (simp; done) | (simp; omega) | (simp only [Bool.and_eq_true, inB_iff] at *; omega))) (by first | with_reducible assumption | omega | (simp only [Bool.and_eq_true, inB_iff] at *; omega))) ?_
  rintro sv5 _ ⟨lk5, how5, rfl⟩
  obtain ⟨ad5, cn5, rfl, hrd5⟩ := how5.rd
  have hcn5 := how5.capl
  refine ⟨fun _ => eL eR, ?_⟩
  refine rCq rfl (c_eqFloat32S _ _ _ _ _ _ _ _ (by first | with_reducible assumption | ((try first | with_reducible apply RdF.sub | with_reducible apply RdF.sub0) <;> first | with_reducible assumption | (apply RdF.mono; (· (with_reducible assumption)); · (try simp only [List.cons_append, List.nil_append, List.append_assoc]); repeat' first | with_reducible apply eR | with_reducible apply eA | ((with_reducible apply xA); · repeat first | with_reducible apply lH | with_reducible apply lT | with_reducible apply lL) | ((with_reducible apply xC); · repeat first | apply pH | with_reducible apply pT | with_reducible apply pL) | with_reducible assumption | with_reducible apply eS | with_reducible apply eL | exact eR) | (apply RdF.mono; (· (apply OwF.rdF; with_reducible assumption)); · (try simp only [List.cons_append, List.nil_append, List.append_assoc]); repeat' first | with_reducible apply eR | with_reducible apply eA | ((with_reducible apply xA); · repeat first | with_reducible apply lH | with_reducible apply lT | with_reducible apply lL) | ((with_reducible apply xC); · repeat first | apply pH | with_reducible apply pT | with_reducible apply pL) | with_reducible assumption | with_reducible apply eS | with_reducible apply eL | exact eR) | (apply RdF.ownm; (· repeat first | with_reducible assumption | with_reducible apply List.mem_cons_self | with_reducible apply List.mem_cons_of_mem | with_reducible apply List.mem_append_right | exact List.Mem.head _); · first | rfl | with_reducible assumption | omega | simp [*]) | with_reducible assumption | omega | (simp; done) | (simp; omega) | (simp only [Bool.and_eq_true, inB_iff] at *; omega))) (by first | with_reducible assumption | ((try first | with_reducible apply RdF.sub | with_reducible apply RdF.sub0) <;> first | with_reducible assumption | (apply RdF.mono; (· (with_reducible assumption)); · (try simp only [List.cons_append, List.nil_append, List.append_assoc]); repeat' first | with_reducible apply eR | with_reducible apply eA | ((with_reducible apply xA); · repeat first | with_reducible apply lH | with_reducible apply lT | with_reducible apply lL) | ((with_reducible apply xC); · repeat first | apply pH | with_reducible apply pT | with_reducible apply pL) | with_reducible assumption | with_reducible apply eS | with_reducible apply eL | exact eR) | (apply RdF.mono; (· (apply OwF.rdF; with_reducible assumption)); · (try simp only [List.cons_append, List.nil_append, List.append_assoc]); repeat' first | with_reducible apply eR | with_reducible apply eA | ((with_reducible apply xA); · repeat first | with_reducible apply lH | with_reducible apply lT | with_reducible apply lL) | ((with_reducible apply xC); · repeat first | apply pH | with_reducible apply pT | with_reducible apply pL) | with_reducible assumption | with_reducible apply eS | with_reducible apply eL | exact eR) | (apply RdF.ownm; (· repeat first | with_reducible assumption | with_reducible apply List.mem_cons_self | with_reducible apply List.mem_cons_of_mem | with_reducible apply List.mem_append_right | exact List.Mem.head _); · first | rfl | with_reducible assumption | omega | simp [*]) | with_reducible assumption | omega | (simp; done) | (simp; omega) | (simp only [Bool.and_eq_true, inB_iff] at *; omega))) (by first | with_reducible assumption | omega | (simp only [Bool.and_eq_true, inB_iff] at *; omega))) ?_
  refine uNot rfl ?_
  refine rN ?_
  refine qN ?_
  refine cF rfl ?_
  refine cK ?_
  refine qN ?_
  refine cS (cR ?_)
  refine asg rfl ?_
  refine rN ?_
  refine qN ?_
  refine cS (cR ?_)
  refine mv rfl ?_
  refine mv rfl ?_
  refine rC rfl ((c_markFloat32S _ _ _ 1 _ _ _ (by with_reducible assumption) (by first | with_reducible assumption | omega | (simp only [Bool.and_eq_true, inB_iff] at *; omega)) (by first | with_reducible assumption | omega | (simp only [Bool.and_eq_true, inB_iff] at *; omega))).ofLess (by repeat first | with_reducible apply lH | with_reducible apply lT | with_reducible apply lL)) ?_
  rintro _ _ ⟨rfl, lk6, how6, rfl⟩
  refine ⟨nofun, ?_⟩
  refine asg rfl ?_
  refine rN ?_
  refine qN ?_
  refine cS ?_
  refine cS (cR ?_)
  refine mv rfl ?_
  refine bLss rfl rfl ?_
  refine mv rfl ?_
  skip
  refine gG rfl rfl (by first | exact bne_self_eq_false _ | (simp; done) | (simp; omega) | omega) ?_
  refine mv rfl ?_
  refine gG rfl rfl (by first | exact bne_self_eq_false _ | (simp; done) | (simp; omega) | omega) ?_
  refine mv rfl ?_
  refine gG rfl rfl (by first | exact bne_self_eq_false _ | (simp; done) | (simp; omega) | omega) ?_
  refine rCq rfl (c_eqFloat32S _ _ _ _ _ _ _ _ (by first | with_reducible assumption | ((try first | with_reducible apply RdF.sub | with_reducible apply RdF.sub0) <;> first | with_reducible assumption | (apply RdF.mono; (· (with_reducible assumption)); · (try simp only [List.cons_append, List.nil_append, List.append_assoc]); repeat' first | with_reducible apply eR | with_reducible apply eA | ((with_reducible apply xA); · repeat first | with_reducible apply lH | with_reducible apply lT | with_reducible apply lL) | ((with_reducible apply xC); · repeat first | apply pH | with_reducible apply pT | with_reducible apply pL) | with_reducible assumption | with_reducible apply eS | with_reducible apply eL | exact eR) | (apply RdF.mono; (· (apply OwF.rdF; with_reducible assumption)); · (try simp only [List.cons_append, List.nil_append, List.append_assoc]); repeat' first | with_reducible apply eR | with_reducible apply eA | ((with_reducible apply xA); · repeat first | with_reducible apply lH | with_reducible apply lT | with_reducible apply lL) | ((with_reducible apply xC); · repeat first | apply pH | with_reducible apply pT | with_reducible apply pL) | with_reducible assumption | with_reducible apply eS | with_reducible apply eL | exact eR) | (apply RdF.ownm; (· repeat first | with_reducible assumption | with_reducible apply List.mem_cons_self | with_reducible apply List.mem_cons_of_mem | with_reducible apply List.mem_append_right | exact List.Mem.head _); · first | rfl | with_reducible assumption | omega | simp [*]) | with_reducible assumption | omega | (simp; done) | (simp; omega) | (simp only [Bool.and_eq_true, inB_iff] at *; omega))) (by first | with_reducible assumption | ((try first | with_reducible apply RdF.sub | with_reducible apply RdF.sub0) <;> first | with_reducible assumption | (apply RdF.mono; (· (with_reducible assumption)); · (try simp only [List.cons_append, List.nil_append, List.append_assoc]); repeat' first | with_reducible apply eR | with_reducible apply eA | ((with_reducible apply xA); · repeat first | with_reducible apply lH | with_reducible apply lT | with_reducible apply lL) | ((with_reducible apply xC); · repeat first | apply pH | with_reducible apply pT | with_reducible apply pL) | with_reducible assumption | with_reducible apply eS | with_reducible apply eL | exact eR) | (apply RdF.mono; (· (apply OwF.rdF; with_reducible assumption)); · (try simp only [List.cons_append, List.nil_append, List.append_assoc]); repeat' first | with_reducible apply eR | with_reducible apply eA | ((with_reducible apply xA); · repeat first | with_reducible apply lH | with_reducible apply lT | with_reducible apply lL) | ((with_reducible apply xC); · repeat first | apply pH | with_reducible apply pT | with_reducible apply pL) | with_reducible assumption | with_reducible apply eS | with_reducible apply eL | exact eR) | (apply RdF.ownm; (· repeat first | with_reducible assumption | with_reducible apply List.mem_cons_self | with_reducible apply List.mem_cons_of_mem | with_reducible apply List.mem_append_right | exact List.Mem.head _); · first | rfl | with_reducible assumption | omega | simp [*]) | with_reducible assumption | omega | (simp; done) | (simp; omega) | (simp only [Bool.and_eq_true, inB_iff] at *; omega))) (by first | with_reducible assumption | omega | (simp only [Bool.and_eq_true, inB_iff] at *; omega))) ?_
  refine gG rfl rfl (by first | exact bne_self_eq_false _ | (simp; done) | (simp; omega) | omega) ?_
  refine uNot rfl ?_
  refine kF rfl (by first | exact bne_self_eq_false _ | (simp; done) | (simp; omega) | omega) rfl ?_
  refine mv rfl ?_
  refine gG rfl rfl rfl ?_
  refine mv rfl ?_
  refine gG rfl rfl rfl ?_
  refine mv rfl ?_
  refine gG rfl rfl rfl ?_
  refine rp rfl ?_
  refine kF rfl rfl rfl ?_
  refine rN ?_
  refine qN ?_
  refine cFa rfl (by first | exact bne_self_eq_false _ | (simp; done) | (simp; omega) | omega) ?_
  refine cK ?_
  refine qN ?_
  refine cS (cR ?_)
  refine asg rfl ?_
  refine rN ?_
  refine qN ?_
  refine cS (cR ?_)
  refine mv rfl ?_
  refine mv rfl ?_
  refine rC rfl ((c_markFloat32S _ _ _ 1 _ _ _ (by with_reducible assumption) (by first | with_reducible assumption | omega | (simp only [Bool.and_eq_true, inB_iff] at *; omega)) (by first | with_reducible assumption | omega | (simp only [Bool.and_eq_true, inB_iff] at *; omega))).ofLess (by repeat first | with_reducible apply lH | with_reducible apply lT | with_reducible apply lL)) ?_
  rintro _ _ ⟨rfl, lk7, how7, rfl⟩
  refine ⟨nofun, ?_⟩
  refine asg rfl ?_
  refine rN ?_
  refine qN ?_
  refine cS (cR ?_)
  refine asg rfl ?_
  refine rN ?_
  refine qN ?_
  refine cS (cR ?_)
  refine mv rfl ?_
  refine mv rfl ?_
  refine rCq rfl (c_heldFloat32S _ _ _ 1 _ _ (by first | with_reducible assumption | ((try first | with_reducible apply RdF.sub | with_reducible apply RdF.sub0) <;> first | with_reducible assumption | (apply RdF.mono; (· (with_reducible assumption)); · (try simp only [List.cons_append, List.nil_append, List.append_assoc]); repeat' first | with_reducible apply eR | with_reducible apply eA | ((with_reducible apply xA); · repeat first | with_reducible apply lH | with_reducible apply lT | with_reducible apply lL) | ((with_reducible apply xC); · repeat first | apply pH | with_reducible apply pT | with_reducible apply pL) | with_reducible assumption | with_reducible apply eS | with_reducible apply eL | exact eR) | (apply RdF.mono; (· (apply OwF.rdF; with_reducible assumption)); · (try simp only [List.cons_append, List.nil_append, List.append_assoc]); repeat' first | with_reducible apply eR | with_reducible apply eA | ((with_reducible apply xA); · repeat first | with_reducible apply lH | with_reducible apply lT | with_reducible apply lL) | ((with_reducible apply xC); · repeat first | apply pH | with_reducible apply pT | with_reducible apply pL) | with_reducible assumption | with_reducible apply eS | with_reducible apply eL | exact eR) | (apply RdF.ownm; (· repeat first | with_reducible assumption | with_reducible apply List.mem_cons_self | with_reducible apply List.mem_cons_of_mem | with_reducible apply List.mem_append_right | exact List.Mem.head _); · first | rfl | with_reducible assumption | omega | simp [*]) | with_reducible assumption | omega | (simp; done) | (simp; omega) | (simp only [Bool.and_eq_true, inB_iff] at *; omega))) (by first | with_reducible assumption | omega | (simp only [Bool.and_eq_true, inB_iff] at *; omega)) (by first | with_reducible assumption | omega | (simp only [Bool.and_eq_true, inB_iff] at *; omega))) ?_
  refine asg rfl ?_
  refine rN ?_
  refine qN ?_
  refine cS ?_
  refine cS (cR ?_)
  refine mv rfl ?_
  refine bLss rfl rfl ?_
  refine rN ?_
  refine qN ?_
  refine cFa rfl (by first | exact bne_self_eq_false _ | (simp; done) | (simp; omega) | omega) ?_
  refine cK ?_
  refine qN ?_
  refine cS ?_
  refine cS (cR ?_)
  refine mv rfl ?_
  refine mv rfl ?_
  refine bNeq rfl rfl ?_
  refine rN ?_
  refine qN ?_
  refine cFa rfl (by first | exact bne_self_eq_false _ | (simp; done) | (simp; omega) | omega) ?_
  refine cK ?_
  refine qN ?_
  refine cS (cR ?_)
  refine mv rfl ?_
  refine rC rfl (c_toFloat32S _ _ _ _ _ (by first | with_reducible assumption | ((try first | with_reducible apply RdF.sub | with_reducible apply RdF.sub0) <;> first | with_reducible assumption | (apply RdF.mono; (· (with_reducible assumption)); · (try simp only [List.cons_append, List.nil_append, List.append_assoc]); repeat' first | with_reducible apply eR | with_reducible apply eA | ((with_reducible apply xA); · repeat first | with_reducible apply lH | with_reducible apply lT | with_reducible apply lL) | ((with_reducible apply xC); · repeat first | apply pH | with_reducible apply pT | with_reducible apply pL) | with_reducible assumption | with_reducible apply eS | with_reducible apply eL | exact eR) | (apply RdF.mono; (· (apply OwF.rdF; with_reducible assumption)); · (try simp only [List.cons_append, List.nil_append, List.append_assoc]); repeat' first | with_reducible apply eR | with_reducible apply eA | ((with_reducible apply xA); · repeat first | with_reducible apply lH | with_reducible apply lT | with_reducible apply lL) | ((with_reducible apply xC); · repeat first | apply pH | with_reducible apply pT | with_reducible apply pL) | with_reducible assumption | with_reducible apply eS | with_reducible apply eL | exact eR) | (apply RdF.ownm; (· repeat first | with_reducible assumption | with_reducible apply List.mem_cons_self | with_reducible apply List.mem_cons_of_mem | with_reducible apply List.mem_append_right | exact List.Mem.head _); · first | rfl | with_reducible assumption | omega | simp [*]) | with_reducible assumption | omega | (simp; done) | (simp; omega) | (simp only [Bool.and_eq_true, inB_iff] at *; omega))) (by first | with_reducible assumption | omega | (simp only [Bool.and_eq_true, inB_iff] at *; omega))) ?_
  rintro sv8 _ ⟨lk8, how8, rfl⟩
  obtain ⟨ad8, cn8, rfl, hrd8⟩ := how8.rd
  have hcn8 := how8.capl
  refine ⟨fun _ => eL eR, ?_⟩
  refine rC rfl (c_implRoundTrace _ _ _ xs _ (by first | with_reducible assumption | ((try first | with_reducible apply RdF.sub | with_reducible apply RdF.sub0) <;> first | with_reducible assumption | (apply RdF.mono; (· (with_reducible assumption)); · (try simp only [List.cons_append, List.nil_append, List.append_assoc]); repeat' first | with_reducible apply eR | with_reducible apply eA | ((with_reducible apply xA); · repeat first | with_reducible apply lH | with_reducible apply lT | with_reducible apply lL) | ((with_reducible apply xC); · repeat first | apply pH | with_reducible apply pT | with_reducible apply pL) | with_reducible assumption | with_reducible apply eS | with_reducible apply eL | exact eR) | (apply RdF.mono; (· (apply OwF.rdF; with_reducible assumption)); · (try simp only [List.cons_append, List.nil_append, List.append_assoc]); repeat' first | with_reducible apply eR | with_reducible apply eA | ((with_reducible apply xA); · repeat first | with_reducible apply lH | with_reducible apply lT | with_reducible apply lL) | ((with_reducible apply xC); · repeat first | apply pH | with_reducible apply pT | with_reducible apply pL) | with_reducible assumption | with_reducible apply eS | with_reducible apply eL | exact eR) | (apply RdF.ownm; (· repeat first | with_reducible assumption | with_reducible apply List.mem_cons_self | with_reducible apply List.mem_cons_of_mem | with_reducible apply List.mem_append_right | exact List.Mem.head _); · first | rfl | with_reducible assumption | omega | simp [*]) | with_reducible assumption | omega | (simp; done) | (simp; omega) | (simp only [Bool.and_eq_true, inB_iff] at *; omega))) (by first | with_reducible assumption | omega | (simp only [Bool.and_eq_true, inB_iff] at *; omega)) (by first | assumption | omega)) ?_
  rintro _ _ ⟨lk9, ⟨sv9, rfl, how9⟩, rfl⟩
  obtain ⟨ad9, cn9, rfl, hrd9⟩ := how9.rd
  have hcn9 := how9.capl
  refine ⟨fun _ => eL eR, ?_⟩
  refine mv rfl ?_
  refine xt rfl rfl rfl ?_
  refine xt rfl rfl rfl ?_
  refine asg rfl ?_
  refine asg rfl ?_
  refine rN ?_
  refine qN ?_
  refine cS ?_
  refine cS (cR ?_)
  refine mv rfl ?_
  refine mv rfl ?_
  refine rCq rfl (c_eqFloat32S _ _ _ _ _ _ _ _ (by first | with_reducible assumption | ((try first | with_reducible apply RdF.sub | with_reducible apply RdF.sub0) <;> first | with_reducible assumption | (apply RdF.mono; (· (with_reducible assumption)); · (try simp only [List.cons_append, List.nil_append, List.append_assoc]); repeat' first | with_reducible apply eR | with_reducible apply eA | ((with_reducible apply xA); · repeat first | with_reducible apply lH | with_reducible apply lT | with_reducible apply lL) | ((with_reducible apply xC); · repeat first | apply pH | with_reducible apply pT | with_reducible apply pL) | with_reducible assumption | with_reducible apply eS | with_reducible apply eL | exact eR) | (apply RdF.mono; (· (apply OwF.rdF; with_reducible assumption)); · (try simp only [List.cons_append, List.nil_append, List.append_assoc]); repeat' first | with_reducible apply eR | with_reducible apply eA | ((with_reducible apply xA); · repeat first | with_reducible apply lH | with_reducible apply lT | with_reducible apply lL) | ((with_reducible apply xC); · repeat first | apply pH | with_reducible apply pT | with_reducible apply pL) | with_reducible assumption | with_reducible apply eS | with_reducible apply eL | exact eR) | (apply RdF.ownm; (· repeat first | with_reducible assumption | with_reducible apply List.mem_cons_self | with_reducible apply List.mem_cons_of_mem | with_reducible apply List.mem_append_right | exact List.Mem.head _); · first | rfl | with_reducible assumption | omega | simp [*]) | with_reducible assumption | omega | (simp; done) | (simp; omega) | (simp only [Bool.and_eq_true, inB_iff] at *; omega))) (by first | with_reducible assumption | ((try first | with_reducible apply RdF.sub | with_reducible apply RdF.sub0) <;> first | with_reducible assumption | (apply RdF.mono; (· (with_reducible assumption)); · (try simp only [List.cons_append, List.nil_append, List.append_assoc]); repeat' first | with_reducible apply eR | with_reducible apply eA | ((with_reducible apply xA); · repeat first | with_reducible apply lH | with_reducible apply lT | with_reducible apply lL) | ((with_reducible apply xC); · repeat first | apply pH | with_reducible apply pT | with_reducible apply pL) | with_reducible assumption | with_reducible apply eS | with_reducible apply eL | exact eR) | (apply RdF.mono; (· (apply OwF.rdF; with_reducible assumption)); · (try simp only [List.cons_append, List.nil_append, List.append_assoc]); repeat' first | with_reducible apply eR | with_reducible apply eA | ((with_reducible apply xA); · repeat first | with_reducible apply lH | with_reducible apply lT | with_reducible apply lL) | ((with_reducible apply xC); · repeat first | apply pH | with_reducible apply pT | with_reducible apply pL) | with_reducible assumption | with_reducible apply eS | with_reducible apply eL | exact eR) | (apply RdF.ownm; (· repeat first | with_reducible assumption | with_reducible apply List.mem_cons_self | with_reducible apply List.mem_cons_of_mem | with_reducible apply List.mem_append_right | exact List.Mem.head _); · first | rfl | with_reducible assumption | omega | simp [*]) | with_reducible assumption | omega | (simp; done) | (simp; omega) | (simp only [Bool.and_eq_true, inB_iff] at *; omega))) (by first | with_reducible assumption | omega | (simp only [Bool.and_eq_true, inB_iff] at *; omega))) ?_
  refine uNot rfl ?_
  refine mv rfl ?_
  refine gG rfl rfl rfl ?_
  refine mv rfl ?_
  refine gG rfl rfl rfl ?_
  refine mv rfl ?_
  refine gG rfl rfl rfl ?_
  refine rp rfl ?_
  refine kF rfl rfl rfl ?_
  refine rN ?_
  refine qN ?_
  refine cFa rfl (by first | exact bne_self_eq_false _ | (simp; done) | (simp; omega) | omega) ?_
  refine cK ?_
  refine qN ?_
  refine cS (cR ?_)
  refine asg rfl ?_
  refine rN ?_
  refine qN ?_
  refine cS (cR ?_)
  refine mv rfl ?_
  refine mv rfl ?_
  refine rCq rfl (c_heldFloat32S _ _ _ 1 _ _ (by first | with_reducible assumption | ((try first | with_reducible apply RdF.sub | with_reducible apply RdF.sub0) <;> first | with_reducible assumption | (apply RdF.mono; (· (with_reducible assumption)); · (try simp only [List.cons_append, List.nil_append, List.append_assoc]); repeat' first | with_reducible apply eR | with_reducible apply eA | ((with_reducible apply xA); · repeat first | with_reducible apply lH | with_reducible apply lT | with_reducible apply lL) | ((with_reducible apply xC); · repeat first | apply pH | with_reducible apply pT | with_reducible apply pL) | with_reducible assumption | with_reducible apply eS | with_reducible apply eL | exact eR) | (apply RdF.mono; (· (apply OwF.rdF; with_reducible assumption)); · (try simp only [List.cons_append, List.nil_append, List.append_assoc]); repeat' first | with_reducible apply eR | with_reducible apply eA | ((with_reducible apply xA); · repeat first | with_reducible apply lH | with_reducible apply lT | with_reducible apply lL) | ((with_reducible apply xC); · repeat first | apply pH | with_reducible apply pT | with_reducible apply pL) | with_reducible assumption | with_reducible apply eS | with_reducible apply eL | exact eR) | (apply RdF.ownm; (· repeat first | with_reducible assumption | with_reducible apply List.mem_cons_self | with_reducible apply List.mem_cons_of_mem | with_reducible apply List.mem_append_right | exact List.Mem.head _); · first | rfl | with_reducible assumption | omega | simp [*]) | with_reducible assumption | omega | (simp; done) | (simp; omega) | (simp only [Bool.and_eq_true, inB_iff] at *; omega))) (by first | with_reducible assumption | omega | (simp only [Bool.and_eq_true, inB_iff] at *; omega)) (by first | with_reducible assumption | omega | (simp only [Bool.and_eq_true, inB_iff] at *; omega))) ?_
  refine asg rfl ?_
  refine rN ?_
  refine qN ?_
  refine cS ?_
  refine cS (cR ?_)
  refine mv rfl ?_
  refine bLss rfl rfl ?_
  refine rN ?_
  refine qN ?_
  refine cFa rfl (by first | exact bne_self_eq_false _ | (simp; done) | (simp; omega) | omega) ?_
  refine cK ?_
  refine qN ?_
  refine cS ?_
  refine cS (cR ?_)
  refine mv rfl ?_
  refine mv rfl ?_
  refine bNeq rfl rfl ?_
  refine rN ?_
  refine qN ?_
  refine cFa rfl (by first | exact bne_self_eq_false _ | (simp; done) | (simp; omega) | omega) ?_
  refine cK ?_
  refine qN ?_
  refine cS (cR ?_)
  refine asg rfl ?_
  refine rN ?_
  refine qN ?_
  refine cE ?_
  refine kE rfl rfl  ?_
  first | (exfalso; contradiction) | exact ⟨_, ⟨rfl, rfl⟩, (by (try simp only [List.cons_append, List.nil_append, List.append_assoc]); repeat' first | with_reducible apply eR | with_reducible apply eA | ((with_reducible apply xA); · repeat first | with_reducible apply lH | with_reducible apply lT | with_reducible apply lL) | ((with_reducible apply xC); · repeat first | apply pH | with_reducible apply pT | with_reducible apply pL) | with_reducible assumption | with_reducible apply eS | with_reducible apply eL | exact eR)⟩ | (exfalso; first | contradiction | omega | (simp_all; done) | (simp_all; omega))
end Go.Proofs.Ytimdimgihlojcaa.Ab
