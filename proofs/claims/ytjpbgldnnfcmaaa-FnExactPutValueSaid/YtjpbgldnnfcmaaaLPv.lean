/-
  Walks: PutValue.
-/
import Derived.Test.YtjpbgldnnfcmaaaSe
namespace Go.Proofs.Ytjpbgldnnfcmaaa.Ab
open Go Go.RowKit
attribute [local irreducible] Run Then InBlock LoopQ LQ1 LQ2 LQ3 LQ4 LQ5 LQ6 AWp Ret ACall
set_option linter.unusedVariables false
set_option linter.unusedSimpArgs false

/-- the place lies in a section that is valid -/
def pvB (w d x z : Int) (n : Nat) : Bool := vsB w d n && inB x 0 (w - 1) && inB z 0 (d - 1)
theorem pv_in {w d x z : Int} {n : Nat} (h1 : vsB w d n = true) (h2 : inB x 0 (w - 1) = true) (h3 : inB z 0 (d - 1) = true) :
    (1 ≤ n ∧ n ≤ 256) ∧ (0 ≤ w * z ∧ w * z ≤ 256) ∧ 0 ≤ x + w * z ∧ x + w * z < n ∧ (1 ≤ w ∧ w ≤ 16) ∧ (1 ≤ d ∧ d ≤ 16) := by
  obtain ⟨⟨a, b⟩, e⟩ := vsB_iff.1 h1
  have hn := vsB_n h1
  have h2 := inB_iff.1 h2
  have h3 := inB_iff.1 h3
  have p0 : 0 ≤ w * z := Int.mul_nonneg (by omega) (by omega)
  have p1 : w * z ≤ w * (d - 1) := Int.mul_le_mul_of_nonneg_left (by omega) (by omega)
  have p2 : w * (d - 1) = w * d - w := by rw [Int.mul_sub, Int.mul_one]
  omega
theorem c_specPutValue (w d x z : Int) (y : Nat) (a : Option Addr) (n c : Nat) (xs : List Nat) (M : Mem) (h : RdF M a n xs) (hn : n ≤ 1073741824) :
    ACall Try.prog 41 [.agg #[.int .i64 w, .int .i64 d, .slice a n c], .int .i64 x, .int .i64 z, .float .f32 y] M fun v M' => ∃ L, ResS (pvB w d x z n) w d (xs.set (x + w * z).toNat y) v L ∧ M' = L ++ M := by
  obtain ⟨rfl, _⟩ := id h
  refine acall_of_awp Try.func41 rfl Try.ntmps41 rfl ?_
  refine cS (cR ?_)
  first | (refine rXa rfl ?_; intro bk1) | (refine rX rfl rfl ?_; intro bk1)
  refine rO ?_; intro bk2
  refine asg rfl ?_
  refine rN ?_
  refine qN ?_
  refine cS ?_
  refine cS (cR ?_)
  refine rCq rfl (c_l06Is _ _ _ _ _ _ _ _ (by repeat first | with_reducible assumption | with_reducible apply List.mem_cons_self | with_reducible apply List.mem_cons_of_mem | with_reducible apply List.mem_append_right | exact List.Mem.head _)) ?_
  refine uNot rfl ?_
  refine mv rfl ?_
  refine gC rfl rfl (fun c1 => ?_) (fun c1 => ?_)
  · replace c1 := not_t c1
    have c1' := c1; try simp only [inB_iff, Bool.and_eq_true, decide_eq_true_eq, decide_eq_false_iff_not, beq_iff_eq, beq_eq_false_iff_ne, bne_iff_ne, bne_eq_false_iff_eq, ne_eq] at c1'
    refine gU rfl rfl (bnot_f c1) ?_
    refine gU rfl rfl (bnot_f c1) ?_
    refine gU rfl rfl (bnot_f c1) ?_
    refine gU rfl rfl (bnot_f c1) ?_
    refine gU rfl rfl (bnot_f c1) ?_
    refine gU rfl rfl (bnot_f c1) ?_
    refine kT rfl (bnot_f c1) rfl ?_
    refine mv rfl ?_
    refine gU rfl rfl rfl ?_
    refine gU rfl rfl rfl ?_
    refine gU rfl rfl rfl ?_
    refine gU rfl rfl rfl ?_
    refine gU rfl rfl rfl ?_
    refine gU rfl rfl rfl ?_
    refine kT rfl rfl rfl ?_
    refine rN ?_
    refine qN ?_
    refine cT rfl ?_
    refine cS (cR ?_)
    refine bd0 ?_
    refine tA rfl rfl rfl (by repeat first | apply pH | with_reducible apply pT | with_reducible apply pL) (by rfl) (by rfl) ?_
    refine asg rfl ?_
    refine rN ?_
    refine qN ?_
    refine cE ?_
    refine qE ?_
    refine kC2 rfl (resOne_cell rfl (by repeat first | with_reducible assumption | with_reducible apply List.mem_cons_self | with_reducible apply List.mem_cons_of_mem | with_reducible apply List.mem_append_right | exact List.Mem.head _) rfl) (resOne_tmp rfl) rfl rfl ?_
    first | (exfalso; contradiction) | exact ⟨_, ⟨_, ResS.no (by simp [pvB, c1]), rfl⟩, (by (try simp only [List.cons_append, List.nil_append]); repeat' first | with_reducible apply eR | with_reducible apply eA | ((with_reducible apply xA); · repeat first | with_reducible apply lH | with_reducible apply lT | with_reducible apply lL) | ((with_reducible apply xC); · repeat first | apply pH | with_reducible apply pT | with_reducible apply pL) | with_reducible assumption | with_reducible apply eS | with_reducible apply eL | exact eR)⟩ | (exfalso; first | contradiction | omega | (simp_all; done) | (simp_all; omega))
  · replace c1 := not_f c1
    have c1' := c1; try simp only [inB_iff, Bool.and_eq_true, decide_eq_true_eq, decide_eq_false_iff_not, beq_iff_eq, beq_eq_false_iff_ne, bne_iff_ne, bne_eq_false_iff_eq, ne_eq] at c1'
    obtain ⟨⟨⟨qa, qb⟩, qc, qd⟩, qe⟩ := vsB_iff.1 c1
    refine gG rfl rfl (bnot_t c1) ?_
    refine mv rfl ?_
    refine gG rfl rfl (bnot_t c1) ?_
    refine fA rfl ?_
    refine gG rfl rfl (bnot_t c1) ?_
    refine rL rfl (by repeat first | with_reducible assumption | with_reducible apply List.mem_cons_self | with_reducible apply List.mem_cons_of_mem | with_reducible apply List.mem_append_right | exact List.Mem.head _) rfl rfl ?_
    refine gG rfl rfl (bnot_t c1) ?_
    first | refine rB rfl rfl (by omega) (by omega) ?_ | refine bSub rfl rfl ?_
    refine gG rfl rfl (bnot_t c1) ?_
    refine rCq rfl (c_l00In _ _ _ _) ?_
    refine gG rfl rfl (bnot_t c1) ?_
    refine uNot rfl ?_
    refine kF rfl (bnot_t c1) rfl ?_
    refine mv rfl ?_
    refine gC rfl rfl (fun c2 => ?_) (fun c2 => ?_)
    · replace c2 := not_t c2
      have c2' := c2; try simp only [inB_iff, Bool.and_eq_true, decide_eq_true_eq, decide_eq_false_iff_not, beq_iff_eq, beq_eq_false_iff_ne, bne_iff_ne, bne_eq_false_iff_eq, ne_eq] at c2'
      refine gU rfl rfl (bnot_f c2) ?_
      refine gU rfl rfl (bnot_f c2) ?_
      refine gU rfl rfl (bnot_f c2) ?_
      refine gU rfl rfl (bnot_f c2) ?_
      refine gU rfl rfl (bnot_f c2) ?_
      refine gU rfl rfl (bnot_f c2) ?_
      refine kT rfl (bnot_f c2) rfl ?_
      refine rN ?_
      refine qN ?_
      refine cT rfl ?_
      refine cS (cR ?_)
      refine bd0 ?_
      refine tA rfl rfl rfl (by repeat first | apply pH | with_reducible apply pT | with_reducible apply pL) (by rfl) (by rfl) ?_
      refine asg rfl ?_
      refine rN ?_
      refine qN ?_
      refine cE ?_
      refine qE ?_
      refine kC2 rfl (resOne_cell rfl (by repeat first | with_reducible assumption | with_reducible apply List.mem_cons_self | with_reducible apply List.mem_cons_of_mem | with_reducible apply List.mem_append_right | exact List.Mem.head _) rfl) (resOne_tmp rfl) rfl rfl ?_
      first | (exfalso; contradiction) | exact ⟨_, ⟨_, ResS.no (by simp [pvB, c1, c2]), rfl⟩, (by (try simp only [List.cons_append, List.nil_append]); repeat' first | with_reducible apply eR | with_reducible apply eA | ((with_reducible apply xA); · repeat first | with_reducible apply lH | with_reducible apply lT | with_reducible apply lL) | ((with_reducible apply xC); · repeat first | apply pH | with_reducible apply pT | with_reducible apply pL) | with_reducible assumption | with_reducible apply eS | with_reducible apply eL | exact eR)⟩ | (exfalso; first | contradiction | omega | (simp_all; done) | (simp_all; omega))
    · replace c2 := not_f c2
      have c2' := c2; try simp only [inB_iff, Bool.and_eq_true, decide_eq_true_eq, decide_eq_false_iff_not, beq_iff_eq, beq_eq_false_iff_ne, bne_iff_ne, bne_eq_false_iff_eq, ne_eq] at c2'
      refine gG rfl rfl (bnot_t c2) ?_
      refine mv rfl ?_
      refine gG rfl rfl (bnot_t c2) ?_
      refine fA rfl ?_
      refine gG rfl rfl (bnot_t c2) ?_
      refine rL rfl (by repeat first | with_reducible assumption | with_reducible apply List.mem_cons_self | with_reducible apply List.mem_cons_of_mem | with_reducible apply List.mem_append_right | exact List.Mem.head _) rfl rfl ?_
      refine gG rfl rfl (bnot_t c2) ?_
      first | refine rB rfl rfl (by omega) (by omega) ?_ | refine bSub rfl rfl ?_
      refine gG rfl rfl (bnot_t c2) ?_
      refine rCq rfl (c_l00In _ _ _ _) ?_
      refine gG rfl rfl (bnot_t c2) ?_
      refine uNot rfl ?_
      refine kF rfl (bnot_t c2) rfl ?_
      refine rN ?_
      refine qN ?_
      refine cC rfl (fun c3 => ?_) (fun c3 => ?_)
      · replace c3 := not_t c3
        have c3' := c3; try simp only [inB_iff, Bool.and_eq_true, decide_eq_true_eq, decide_eq_false_iff_not, beq_iff_eq, beq_eq_false_iff_ne, bne_iff_ne, bne_eq_false_iff_eq, ne_eq] at c3'
        refine cS (cR ?_)
        refine bd0 ?_
        refine tA rfl rfl rfl (by repeat first | apply pH | with_reducible apply pT | with_reducible apply pL) (by rfl) (by rfl) ?_
        refine asg rfl ?_
        refine rN ?_
        refine qN ?_
        refine cE ?_
        refine qE ?_
        refine kC2 rfl (resOne_cell rfl (by repeat first | with_reducible assumption | with_reducible apply List.mem_cons_self | with_reducible apply List.mem_cons_of_mem | with_reducible apply List.mem_append_right | exact List.Mem.head _) rfl) (resOne_tmp rfl) rfl rfl ?_
        first | (exfalso; contradiction) | exact ⟨_, ⟨_, ResS.no (by simp [pvB, c1, c2, c3]), rfl⟩, (by (try simp only [List.cons_append, List.nil_append]); repeat' first | with_reducible apply eR | with_reducible apply eA | ((with_reducible apply xA); · repeat first | with_reducible apply lH | with_reducible apply lT | with_reducible apply lL) | ((with_reducible apply xC); · repeat first | apply pH | with_reducible apply pT | with_reducible apply pL) | with_reducible assumption | with_reducible apply eS | with_reducible apply eL | exact eR)⟩ | (exfalso; first | contradiction | omega | (simp_all; done) | (simp_all; omega))
      · replace c3 := not_f c3
        have c3' := c3; try simp only [inB_iff, Bool.and_eq_true, decide_eq_true_eq, decide_eq_false_iff_not, beq_iff_eq, beq_eq_false_iff_ne, bne_iff_ne, bne_eq_false_iff_eq, ne_eq] at c3'
        obtain ⟨pn, pz, p0, p1, pw, pd⟩ := pv_in c1 c2 c3
        refine cK ?_
        refine qN ?_
        refine cS (cR ?_)
        refine rC rfl (c_l06Own _ _ _ _ _ _ _ _ _ (by repeat first | with_reducible assumption | with_reducible apply List.mem_cons_self | with_reducible apply List.mem_cons_of_mem | with_reducible apply List.mem_append_right | exact List.Mem.head _) (by first | with_reducible assumption | (apply RdF.mono; (· (with_reducible assumption)); · (try simp only [List.cons_append, List.nil_append]); repeat' first | with_reducible apply eR | with_reducible apply eA | ((with_reducible apply xA); · repeat first | with_reducible apply lH | with_reducible apply lT | with_reducible apply lL) | ((with_reducible apply xC); · repeat first | apply pH | with_reducible apply pT | with_reducible apply pL) | with_reducible assumption | with_reducible apply eS | with_reducible apply eL | exact eR) | (apply RdF.mono; (· (apply OwF.rdF; with_reducible assumption)); · (try simp only [List.cons_append, List.nil_append]); repeat' first | with_reducible apply eR | with_reducible apply eA | ((with_reducible apply xA); · repeat first | with_reducible apply lH | with_reducible apply lT | with_reducible apply lL) | ((with_reducible apply xC); · repeat first | apply pH | with_reducible apply pT | with_reducible apply pL) | with_reducible assumption | with_reducible apply eS | with_reducible apply eL | exact eR) | (apply RdF.ownm; (· repeat first | with_reducible assumption | with_reducible apply List.mem_cons_self | with_reducible apply List.mem_cons_of_mem | with_reducible apply List.mem_append_right | exact List.Mem.head _); · first | rfl | with_reducible assumption | omega | simp [*])) (by first | with_reducible assumption | omega | (simp only [Bool.and_eq_true, inB_iff] at *; omega))) ?_
        rintro _ _ ⟨lk4, ⟨sv4, rfl, how4⟩, rfl⟩
        obtain ⟨ad4, cn4, rfl, hrd4⟩ := how4.rd
        refine ⟨fun _ => eL eR, ?_⟩
        refine rO ?_; intro bk3
        refine tA rfl rfl rfl (by repeat first | apply pH | with_reducible apply pT | with_reducible apply pL) (by rfl) (by rfl) ?_
        refine rN ?_
        refine qN ?_
        refine cS (cR ?_)
        refine fA rfl ?_
        refine rL rfl (by repeat first | with_reducible assumption | with_reducible apply List.mem_cons_self | with_reducible apply List.mem_cons_of_mem | with_reducible apply List.mem_append_right | exact List.Mem.head _) rfl rfl ?_
        refine mv rfl ?_
        refine fA rfl ?_
        refine rL rfl (by repeat first | with_reducible assumption | with_reducible apply List.mem_cons_self | with_reducible apply List.mem_cons_of_mem | with_reducible apply List.mem_append_right | exact List.Mem.head _) rfl rfl ?_
        refine mv rfl ?_
        first | refine rMl rfl rfl (by first | omega | assumption) (by first | omega | assumption) ?_ | refine bMul rfl rfl ?_
        first | refine rAn rfl rfl (by omega) ?_ | refine rA rfl rfl (by omega) (by omega) ?_ | refine bAdd rfl rfl ?_
        refine mv rfl ?_
        first
          | refine ixN rfl rfl (by first | exact AOk.own | with_reducible assumption | (apply RdF.aok; with_reducible assumption) | (apply RdF.aok; apply OwF.rdF; with_reducible assumption)) (by first | with_reducible assumption | omega) ?_
          | refine ixI rfl rfl (by first | exact AOk.own | with_reducible assumption | (apply RdF.aok; with_reducible assumption) | (apply RdF.aok; apply OwF.rdF; with_reducible assumption)) (by omega) (by omega) ?_
        first
          | (refine tO rfl rfl (by with_reducible assumption) (by repeat first | with_reducible apply lH | with_reducible apply lT | with_reducible apply lL) (by first | with_reducible assumption | omega) ?_; intro lk6 how6)
          | refine stF 0 rfl rfl rfl (by first | with_reducible assumption | omega) ?_
          | refine stF 1 rfl rfl rfl (by first | with_reducible assumption | omega) ?_
          | refine stF 2 rfl rfl rfl (by first | with_reducible assumption | omega) ?_
          | refine stF 3 rfl rfl rfl (by first | with_reducible assumption | omega) ?_
        refine rN ?_
        refine qN ?_
        refine cS (cR ?_)
        refine rLA rfl (by repeat first | with_reducible assumption | with_reducible apply List.mem_cons_self | with_reducible apply List.mem_cons_of_mem | with_reducible apply List.mem_append_right | exact List.Mem.head _) rfl rfl ?_
        refine tA rfl rfl rfl (by repeat first | apply pH | with_reducible apply pT | with_reducible apply pL) (by rfl) (by rfl) ?_
        refine asg rfl ?_
        refine rN ?_
        refine qN ?_
        refine cE ?_
        refine kC2 rfl (resOne_cell rfl (by repeat first | with_reducible assumption | with_reducible apply List.mem_cons_self | with_reducible apply List.mem_cons_of_mem | with_reducible apply List.mem_append_right | exact List.Mem.head _) rfl) (resOne_tmp rfl) rfl rfl ?_
        first | (exfalso; contradiction) | exact ⟨_, ⟨_, ResS.yes (by simp [pvB, c1, c2, c3]) how6, rfl⟩, (by (try simp only [List.cons_append, List.nil_append]); repeat' first | with_reducible apply eR | with_reducible apply eA | ((with_reducible apply xA); · repeat first | with_reducible apply lH | with_reducible apply lT | with_reducible apply lL) | ((with_reducible apply xC); · repeat first | apply pH | with_reducible apply pT | with_reducible apply pL) | with_reducible assumption | with_reducible apply eS | with_reducible apply eL | exact eR)⟩ | (exfalso; first | contradiction | omega | (simp_all; done) | (simp_all; omega))
theorem c_implPutValue (w d x z : Int) (y : Nat) (a : Option Addr) (n c : Nat) (xs : List Nat) (M : Mem) (h : RdF M a n xs) (hn : n ≤ 1073741824) :
    ACall Try.prog 42 [.agg #[.int .i64 w, .int .i64 d, .slice a n c], .int .i64 x, .int .i64 z, .float .f32 y] M fun v M' => ∃ L, ResS (pvB w d x z n) w d (xs.set (x + w * z).toNat y) v L ∧ M' = L ++ M := by
  obtain ⟨rfl, _⟩ := id h
  refine acall_of_awp Try.func42 rfl Try.ntmps42 rfl ?_
  refine cS (cR ?_)
  first | (refine rXa rfl ?_; intro bk1) | (refine rX rfl rfl ?_; intro bk1)
  refine rO ?_; intro bk2
  refine asg rfl ?_
  refine rN ?_
  refine qN ?_
  refine cS ?_
  refine cS (cR ?_)
  refine rLA rfl (by repeat first | with_reducible assumption | with_reducible apply List.mem_cons_self | with_reducible apply List.mem_cons_of_mem | with_reducible apply List.mem_append_right | exact List.Mem.head _) rfl rfl ?_
  refine rCq rfl (c_implValidSection _ _ _ _ _ _) ?_
  refine uNot rfl ?_
  refine mv rfl ?_
  refine gC rfl rfl (fun c1 => ?_) (fun c1 => ?_)
  · replace c1 := not_t c1
    have c1' := c1; try simp only [inB_iff, Bool.and_eq_true, decide_eq_true_eq, decide_eq_false_iff_not, beq_iff_eq, beq_eq_false_iff_ne, bne_iff_ne, bne_eq_false_iff_eq, ne_eq] at c1'
    refine gU rfl rfl (bnot_f c1) ?_
    refine gU rfl rfl (bnot_f c1) ?_
    refine gU rfl rfl (bnot_f c1) ?_
    refine gU rfl rfl (bnot_f c1) ?_
    refine gU rfl rfl (bnot_f c1) ?_
    refine gU rfl rfl (bnot_f c1) ?_
    refine kT rfl (bnot_f c1) rfl ?_
    refine mv rfl ?_
    refine gU rfl rfl rfl ?_
    refine gU rfl rfl rfl ?_
    refine gU rfl rfl rfl ?_
    refine gU rfl rfl rfl ?_
    refine gU rfl rfl rfl ?_
    refine gU rfl rfl rfl ?_
    refine kT rfl rfl rfl ?_
    refine rN ?_
    refine qN ?_
    refine cT rfl ?_
    refine cS (cR ?_)
    refine bd0 ?_
    refine tA rfl rfl rfl (by repeat first | apply pH | with_reducible apply pT | with_reducible apply pL) (by rfl) (by rfl) ?_
    refine asg rfl ?_
    refine rN ?_
    refine qN ?_
    refine cE ?_
    refine qE ?_
    refine kC2 rfl (resOne_cell rfl (by repeat first | with_reducible assumption | with_reducible apply List.mem_cons_self | with_reducible apply List.mem_cons_of_mem | with_reducible apply List.mem_append_right | exact List.Mem.head _) rfl) (resOne_tmp rfl) rfl rfl ?_
    first | (exfalso; contradiction) | exact ⟨_, ⟨_, ResS.no (by simp [pvB, c1]), rfl⟩, (by (try simp only [List.cons_append, List.nil_append]); repeat' first | with_reducible apply eR | with_reducible apply eA | ((with_reducible apply xA); · repeat first | with_reducible apply lH | with_reducible apply lT | with_reducible apply lL) | ((with_reducible apply xC); · repeat first | apply pH | with_reducible apply pT | with_reducible apply pL) | with_reducible assumption | with_reducible apply eS | with_reducible apply eL | exact eR)⟩ | (exfalso; first | contradiction | omega | (simp_all; done) | (simp_all; omega))
  · replace c1 := not_f c1
    have c1' := c1; try simp only [inB_iff, Bool.and_eq_true, decide_eq_true_eq, decide_eq_false_iff_not, beq_iff_eq, beq_eq_false_iff_ne, bne_iff_ne, bne_eq_false_iff_eq, ne_eq] at c1'
    obtain ⟨⟨⟨qa, qb⟩, qc, qd⟩, qe⟩ := vsB_iff.1 c1
    refine gG rfl rfl (bnot_t c1) ?_
    refine mv rfl ?_
    refine gG rfl rfl (bnot_t c1) ?_
    refine fA rfl ?_
    refine gG rfl rfl (bnot_t c1) ?_
    refine rL rfl (by repeat first | with_reducible assumption | with_reducible apply List.mem_cons_self | with_reducible apply List.mem_cons_of_mem | with_reducible apply List.mem_append_right | exact List.Mem.head _) rfl rfl ?_
    refine gG rfl rfl (bnot_t c1) ?_
    first | refine rB rfl rfl (by omega) (by omega) ?_ | refine bSub rfl rfl ?_
    refine gG rfl rfl (bnot_t c1) ?_
    refine rCq rfl (c_within _ _ _ _) ?_
    refine gG rfl rfl (bnot_t c1) ?_
    refine uNot rfl ?_
    refine kF rfl (bnot_t c1) rfl ?_
    refine mv rfl ?_
    refine gC rfl rfl (fun c2 => ?_) (fun c2 => ?_)
    · replace c2 := not_t c2
      have c2' := c2; try simp only [inB_iff, Bool.and_eq_true, decide_eq_true_eq, decide_eq_false_iff_not, beq_iff_eq, beq_eq_false_iff_ne, bne_iff_ne, bne_eq_false_iff_eq, ne_eq] at c2'
      refine gU rfl rfl (bnot_f c2) ?_
      refine gU rfl rfl (bnot_f c2) ?_
      refine gU rfl rfl (bnot_f c2) ?_
      refine gU rfl rfl (bnot_f c2) ?_
      refine gU rfl rfl (bnot_f c2) ?_
      refine gU rfl rfl (bnot_f c2) ?_
      refine kT rfl (bnot_f c2) rfl ?_
      refine rN ?_
      refine qN ?_
      refine cT rfl ?_
      refine cS (cR ?_)
      refine bd0 ?_
      refine tA rfl rfl rfl (by repeat first | apply pH | with_reducible apply pT | with_reducible apply pL) (by rfl) (by rfl) ?_
      refine asg rfl ?_
      refine rN ?_
      refine qN ?_
      refine cE ?_
      refine qE ?_
      refine kC2 rfl (resOne_cell rfl (by repeat first | with_reducible assumption | with_reducible apply List.mem_cons_self | with_reducible apply List.mem_cons_of_mem | with_reducible apply List.mem_append_right | exact List.Mem.head _) rfl) (resOne_tmp rfl) rfl rfl ?_
      first | (exfalso; contradiction) | exact ⟨_, ⟨_, ResS.no (by simp [pvB, c1, c2]), rfl⟩, (by (try simp only [List.cons_append, List.nil_append]); repeat' first | with_reducible apply eR | with_reducible apply eA | ((with_reducible apply xA); · repeat first | with_reducible apply lH | with_reducible apply lT | with_reducible apply lL) | ((with_reducible apply xC); · repeat first | apply pH | with_reducible apply pT | with_reducible apply pL) | with_reducible assumption | with_reducible apply eS | with_reducible apply eL | exact eR)⟩ | (exfalso; first | contradiction | omega | (simp_all; done) | (simp_all; omega))
    · replace c2 := not_f c2
      have c2' := c2; try simp only [inB_iff, Bool.and_eq_true, decide_eq_true_eq, decide_eq_false_iff_not, beq_iff_eq, beq_eq_false_iff_ne, bne_iff_ne, bne_eq_false_iff_eq, ne_eq] at c2'
      refine gG rfl rfl (bnot_t c2) ?_
      refine mv rfl ?_
      refine gG rfl rfl (bnot_t c2) ?_
      refine fA rfl ?_
      refine gG rfl rfl (bnot_t c2) ?_
      refine rL rfl (by repeat first | with_reducible assumption | with_reducible apply List.mem_cons_self | with_reducible apply List.mem_cons_of_mem | with_reducible apply List.mem_append_right | exact List.Mem.head _) rfl rfl ?_
      refine gG rfl rfl (bnot_t c2) ?_
      first | refine rB rfl rfl (by omega) (by omega) ?_ | refine bSub rfl rfl ?_
      refine gG rfl rfl (bnot_t c2) ?_
      refine rCq rfl (c_within _ _ _ _) ?_
      refine gG rfl rfl (bnot_t c2) ?_
      refine uNot rfl ?_
      refine kF rfl (bnot_t c2) rfl ?_
      refine rN ?_
      refine qN ?_
      refine cC rfl (fun c3 => ?_) (fun c3 => ?_)
      · replace c3 := not_t c3
        have c3' := c3; try simp only [inB_iff, Bool.and_eq_true, decide_eq_true_eq, decide_eq_false_iff_not, beq_iff_eq, beq_eq_false_iff_ne, bne_iff_ne, bne_eq_false_iff_eq, ne_eq] at c3'
        refine cS (cR ?_)
        refine bd0 ?_
        refine tA rfl rfl rfl (by repeat first | apply pH | with_reducible apply pT | with_reducible apply pL) (by rfl) (by rfl) ?_
        refine asg rfl ?_
        refine rN ?_
        refine qN ?_
        refine cE ?_
        refine qE ?_
        refine kC2 rfl (resOne_cell rfl (by repeat first | with_reducible assumption | with_reducible apply List.mem_cons_self | with_reducible apply List.mem_cons_of_mem | with_reducible apply List.mem_append_right | exact List.Mem.head _) rfl) (resOne_tmp rfl) rfl rfl ?_
        first | (exfalso; contradiction) | exact ⟨_, ⟨_, ResS.no (by simp [pvB, c1, c2, c3]), rfl⟩, (by (try simp only [List.cons_append, List.nil_append]); repeat' first | with_reducible apply eR | with_reducible apply eA | ((with_reducible apply xA); · repeat first | with_reducible apply lH | with_reducible apply lT | with_reducible apply lL) | ((with_reducible apply xC); · repeat first | apply pH | with_reducible apply pT | with_reducible apply pL) | with_reducible assumption | with_reducible apply eS | with_reducible apply eL | exact eR)⟩ | (exfalso; first | contradiction | omega | (simp_all; done) | (simp_all; omega))
      · replace c3 := not_f c3
        have c3' := c3; try simp only [inB_iff, Bool.and_eq_true, decide_eq_true_eq, decide_eq_false_iff_not, beq_iff_eq, beq_eq_false_iff_ne, bne_iff_ne, bne_eq_false_iff_eq, ne_eq] at c3'
        obtain ⟨pn, pz, p0, p1, pw, pd⟩ := pv_in c1 c2 c3
        refine cK ?_
        refine qN ?_
        refine cS (cR ?_)
        refine rLA rfl (by repeat first | with_reducible assumption | with_reducible apply List.mem_cons_self | with_reducible apply List.mem_cons_of_mem | with_reducible apply List.mem_append_right | exact List.Mem.head _) rfl rfl ?_
        refine rC rfl (c_sclone _ _ _ _ _ _ _ (by first | with_reducible assumption | (apply RdF.mono; (· (with_reducible assumption)); · (try simp only [List.cons_append, List.nil_append]); repeat' first | with_reducible apply eR | with_reducible apply eA | ((with_reducible apply xA); · repeat first | with_reducible apply lH | with_reducible apply lT | with_reducible apply lL) | ((with_reducible apply xC); · repeat first | apply pH | with_reducible apply pT | with_reducible apply pL) | with_reducible assumption | with_reducible apply eS | with_reducible apply eL | exact eR) | (apply RdF.mono; (· (apply OwF.rdF; with_reducible assumption)); · (try simp only [List.cons_append, List.nil_append]); repeat' first | with_reducible apply eR | with_reducible apply eA | ((with_reducible apply xA); · repeat first | with_reducible apply lH | with_reducible apply lT | with_reducible apply lL) | ((with_reducible apply xC); · repeat first | apply pH | with_reducible apply pT | with_reducible apply pL) | with_reducible assumption | with_reducible apply eS | with_reducible apply eL | exact eR) | (apply RdF.ownm; (· repeat first | with_reducible assumption | with_reducible apply List.mem_cons_self | with_reducible apply List.mem_cons_of_mem | with_reducible apply List.mem_append_right | exact List.Mem.head _); · first | rfl | with_reducible assumption | omega | simp [*])) (by first | with_reducible assumption | omega | (simp only [Bool.and_eq_true, inB_iff] at *; omega))) ?_
        rintro _ _ ⟨lk4, ⟨sv4, rfl, how4⟩, rfl⟩
        obtain ⟨ad4, cn4, rfl, hrd4⟩ := how4.rd
        refine ⟨fun _ => eL eR, ?_⟩
        refine rO ?_; intro bk3
        refine tA rfl rfl rfl (by repeat first | apply pH | with_reducible apply pT | with_reducible apply pL) (by rfl) (by rfl) ?_
        refine rN ?_
        refine qN ?_
        refine cS (cR ?_)
        refine fA rfl ?_
        refine rL rfl (by repeat first | with_reducible assumption | with_reducible apply List.mem_cons_self | with_reducible apply List.mem_cons_of_mem | with_reducible apply List.mem_append_right | exact List.Mem.head _) rfl rfl ?_
        refine mv rfl ?_
        refine fA rfl ?_
        refine rL rfl (by repeat first | with_reducible assumption | with_reducible apply List.mem_cons_self | with_reducible apply List.mem_cons_of_mem | with_reducible apply List.mem_append_right | exact List.Mem.head _) rfl rfl ?_
        refine mv rfl ?_
        first | refine rMl rfl rfl (by first | omega | assumption) (by first | omega | assumption) ?_ | refine bMul rfl rfl ?_
        first | refine rAn rfl rfl (by omega) ?_ | refine rA rfl rfl (by omega) (by omega) ?_ | refine bAdd rfl rfl ?_
        refine mv rfl ?_
        first
          | refine ixN rfl rfl (by first | exact AOk.own | with_reducible assumption | (apply RdF.aok; with_reducible assumption) | (apply RdF.aok; apply OwF.rdF; with_reducible assumption)) (by first | with_reducible assumption | omega) ?_
          | refine ixI rfl rfl (by first | exact AOk.own | with_reducible assumption | (apply RdF.aok; with_reducible assumption) | (apply RdF.aok; apply OwF.rdF; with_reducible assumption)) (by omega) (by omega) ?_
        first
          | (refine tO rfl rfl (by with_reducible assumption) (by repeat first | with_reducible apply lH | with_reducible apply lT | with_reducible apply lL) (by first | with_reducible assumption | omega) ?_; intro lk6 how6)
          | refine stF 0 rfl rfl rfl (by first | with_reducible assumption | omega) ?_
          | refine stF 1 rfl rfl rfl (by first | with_reducible assumption | omega) ?_
          | refine stF 2 rfl rfl rfl (by first | with_reducible assumption | omega) ?_
          | refine stF 3 rfl rfl rfl (by first | with_reducible assumption | omega) ?_
        refine rN ?_
        refine qN ?_
        refine cS (cR ?_)
        refine rLA rfl (by repeat first | with_reducible assumption | with_reducible apply List.mem_cons_self | with_reducible apply List.mem_cons_of_mem | with_reducible apply List.mem_append_right | exact List.Mem.head _) rfl rfl ?_
        refine tA rfl rfl rfl (by repeat first | apply pH | with_reducible apply pT | with_reducible apply pL) (by rfl) (by rfl) ?_
        refine asg rfl ?_
        refine rN ?_
        refine qN ?_
        refine cE ?_
        refine kC2 rfl (resOne_cell rfl (by repeat first | with_reducible assumption | with_reducible apply List.mem_cons_self | with_reducible apply List.mem_cons_of_mem | with_reducible apply List.mem_append_right | exact List.Mem.head _) rfl) (resOne_tmp rfl) rfl rfl ?_
        first | (exfalso; contradiction) | exact ⟨_, ⟨_, ResS.yes (by simp [pvB, c1, c2, c3]) how6, rfl⟩, (by (try simp only [List.cons_append, List.nil_append]); repeat' first | with_reducible apply eR | with_reducible apply eA | ((with_reducible apply xA); · repeat first | with_reducible apply lH | with_reducible apply lT | with_reducible apply lL) | ((with_reducible apply xC); · repeat first | apply pH | with_reducible apply pT | with_reducible apply pL) | with_reducible assumption | with_reducible apply eS | with_reducible apply eL | exact eR)⟩ | (exfalso; first | contradiction | omega | (simp_all; done) | (simp_all; omega))
set_option maxHeartbeats 1000000 in
theorem c_lawPutValue (w d x z : Int) (y : Nat) (a : Option Addr) (n c : Nat) (xs : List Nat) (M : Mem) (h : RdF M a n xs) (hn : n ≤ 9223372036854775807) :
    ACall Try.prog 12 [.agg #[.int .i64 w, .int .i64 d, .slice a n c], .int .i64 x, .int .i64 z, .float .f32 y] M fun v M' => v = .bool true ∧ M' = M := by
  obtain ⟨rfl, _⟩ := id h
  have hb : xs.length ≤ 1048576 → (bif pvB w d x z xs.length then xs.set (x + w * z).toNat y else []).length ≤ 1073741824 := by
    intro h1; cases pvB w d x z xs.length <;> simp <;> omega
  refine acall_of_awp Try.func12 rfl Try.ntmps12 rfl ?_
  refine cS (cR ?_)
  first | (refine rXa rfl ?_; intro bk1) | (refine rX rfl rfl ?_; intro bk1)
  refine asg rfl ?_
  refine rN ?_
  refine qN ?_
  refine cS (cR ?_)
  refine asg rfl ?_
  refine rN ?_
  refine qN ?_
  refine cS (cR ?_)
  refine rLA rfl (by repeat first | with_reducible assumption | with_reducible apply List.mem_cons_self | with_reducible apply List.mem_cons_of_mem | with_reducible apply List.mem_append_right | exact List.Mem.head _) rfl rfl ?_
  refine mv rfl ?_
  refine rCq rfl (c_szSection _ _ _ _ _ _ _ (by first | with_reducible assumption | omega | (simp only [Bool.and_eq_true, inB_iff] at *; omega)) (by first | with_reducible assumption | omega | (simp only [Bool.and_eq_true, inB_iff] at *; omega)) (by first | with_reducible assumption | omega | (simp only [Bool.and_eq_true, inB_iff] at *; omega))) ?_
  refine asg rfl ?_
  refine rN ?_
  refine qN ?_
  refine cS ?_
  refine cS (cR ?_)
  refine mv rfl ?_
  refine bLss rfl rfl ?_
  refine rN ?_
  refine qN ?_
  refine cC rfl (fun c1 => ?_) (fun c1 => ?_)
  · have c1' := c1; try simp only [inB_iff, Bool.and_eq_true, decide_eq_true_eq, decide_eq_false_iff_not, beq_iff_eq, beq_eq_false_iff_ne, bne_iff_ne, bne_eq_false_iff_eq, ne_eq] at c1'
    refine cS (cR ?_)
    refine asg rfl ?_
    refine rN ?_
    refine qN ?_
    refine cE ?_
    refine qE ?_
    refine kE rfl rfl  ?_
    first | (exfalso; contradiction) | exact ⟨_, ⟨rfl, rfl⟩, (by (try simp only [List.cons_append, List.nil_append]); repeat' first | with_reducible apply eR | with_reducible apply eA | ((with_reducible apply xA); · repeat first | with_reducible apply lH | with_reducible apply lT | with_reducible apply lL) | ((with_reducible apply xC); · repeat first | apply pH | with_reducible apply pT | with_reducible apply pL) | with_reducible assumption | with_reducible apply eS | with_reducible apply eL | exact eR)⟩ | (exfalso; first | contradiction | omega | (simp_all; done) | (simp_all; omega))
  have c1' := c1; try simp only [inB_iff, Bool.and_eq_true, decide_eq_true_eq, decide_eq_false_iff_not, beq_iff_eq, beq_eq_false_iff_ne, bne_iff_ne, bne_eq_false_iff_eq, ne_eq] at c1'
  have c1z := szI_ge c1
  refine cK ?_
  refine qN ?_
  refine cS (cR ?_)
  refine rLA rfl (by repeat first | with_reducible assumption | with_reducible apply List.mem_cons_self | with_reducible apply List.mem_cons_of_mem | with_reducible apply List.mem_append_right | exact List.Mem.head _) rfl rfl ?_
  refine rC rfl (c_toSection _ _ _ _ _ _ _ (by first | with_reducible assumption | (apply RdF.mono; (· (with_reducible assumption)); · (try simp only [List.cons_append, List.nil_append]); repeat' first | with_reducible apply eR | with_reducible apply eA | ((with_reducible apply xA); · repeat first | with_reducible apply lH | with_reducible apply lT | with_reducible apply lL) | ((with_reducible apply xC); · repeat first | apply pH | with_reducible apply pT | with_reducible apply pL) | with_reducible assumption | with_reducible apply eS | with_reducible apply eL | exact eR) | (apply RdF.mono; (· (apply OwF.rdF; with_reducible assumption)); · (try simp only [List.cons_append, List.nil_append]); repeat' first | with_reducible apply eR | with_reducible apply eA | ((with_reducible apply xA); · repeat first | with_reducible apply lH | with_reducible apply lT | with_reducible apply lL) | ((with_reducible apply xC); · repeat first | apply pH | with_reducible apply pT | with_reducible apply pL) | with_reducible assumption | with_reducible apply eS | with_reducible apply eL | exact eR) | (apply RdF.ownm; (· repeat first | with_reducible assumption | with_reducible apply List.mem_cons_self | with_reducible apply List.mem_cons_of_mem | with_reducible apply List.mem_append_right | exact List.Mem.head _); · first | rfl | with_reducible assumption | omega | simp [*])) (by first | with_reducible assumption | omega | (simp only [Bool.and_eq_true, inB_iff] at *; omega))) ?_
  rintro _ _ ⟨lk1, ⟨sv1, rfl, how1⟩, rfl⟩
  obtain ⟨ad1, cn1, rfl, hrd1⟩ := how1.rd
  refine ⟨fun _ => eL eR, ?_⟩
  refine mv rfl ?_
  refine mv rfl ?_
  refine mv rfl ?_
  refine rC rfl (c_specPutValue _ _ _ _ _ _ _ _ xs _ (by first | with_reducible assumption | (apply RdF.mono; (· (with_reducible assumption)); · (try simp only [List.cons_append, List.nil_append]); repeat' first | with_reducible apply eR | with_reducible apply eA | ((with_reducible apply xA); · repeat first | with_reducible apply lH | with_reducible apply lT | with_reducible apply lL) | ((with_reducible apply xC); · repeat first | apply pH | with_reducible apply pT | with_reducible apply pL) | with_reducible assumption | with_reducible apply eS | with_reducible apply eL | exact eR) | (apply RdF.mono; (· (apply OwF.rdF; with_reducible assumption)); · (try simp only [List.cons_append, List.nil_append]); repeat' first | with_reducible apply eR | with_reducible apply eA | ((with_reducible apply xA); · repeat first | with_reducible apply lH | with_reducible apply lT | with_reducible apply lL) | ((with_reducible apply xC); · repeat first | apply pH | with_reducible apply pT | with_reducible apply pL) | with_reducible assumption | with_reducible apply eS | with_reducible apply eL | exact eR) | (apply RdF.ownm; (· repeat first | with_reducible assumption | with_reducible apply List.mem_cons_self | with_reducible apply List.mem_cons_of_mem | with_reducible apply List.mem_append_right | exact List.Mem.head _); · first | rfl | with_reducible assumption | omega | simp [*])) (by first | with_reducible assumption | omega | (simp only [Bool.and_eq_true, inB_iff] at *; omega))) ?_
  rintro _ _ ⟨lk2, ⟨sv2, rfl, how2⟩, rfl⟩
  obtain ⟨ad2, cn2, rfl, hrd2⟩ := how2.rd
  refine ⟨fun _ => eL eR, ?_⟩
  refine mv rfl ?_
  refine xt rfl rfl rfl ?_
  refine xt rfl rfl rfl ?_
  refine rO ?_; intro bk2
  refine tA rfl rfl rfl (by repeat first | apply pH | with_reducible apply pT | with_reducible apply pL) (by rfl) (by rfl) ?_
  refine asg rfl ?_
  refine rN ?_
  refine qN ?_
  refine cS (cR ?_)
  refine rLA rfl (by repeat first | with_reducible assumption | with_reducible apply List.mem_cons_self | with_reducible apply List.mem_cons_of_mem | with_reducible apply List.mem_append_right | exact List.Mem.head _) rfl rfl ?_
  refine rC rfl (c_toSection _ _ _ _ _ _ _ (by first | with_reducible assumption | (apply RdF.mono; (· (with_reducible assumption)); · (try simp only [List.cons_append, List.nil_append]); repeat' first | with_reducible apply eR | with_reducible apply eA | ((with_reducible apply xA); · repeat first | with_reducible apply lH | with_reducible apply lT | with_reducible apply lL) | ((with_reducible apply xC); · repeat first | apply pH | with_reducible apply pT | with_reducible apply pL) | with_reducible assumption | with_reducible apply eS | with_reducible apply eL | exact eR) | (apply RdF.mono; (· (apply OwF.rdF; with_reducible assumption)); · (try simp only [List.cons_append, List.nil_append]); repeat' first | with_reducible apply eR | with_reducible apply eA | ((with_reducible apply xA); · repeat first | with_reducible apply lH | with_reducible apply lT | with_reducible apply lL) | ((with_reducible apply xC); · repeat first | apply pH | with_reducible apply pT | with_reducible apply pL) | with_reducible assumption | with_reducible apply eS | with_reducible apply eL | exact eR) | (apply RdF.ownm; (· repeat first | with_reducible assumption | with_reducible apply List.mem_cons_self | with_reducible apply List.mem_cons_of_mem | with_reducible apply List.mem_append_right | exact List.Mem.head _); · first | rfl | with_reducible assumption | omega | simp [*])) (by first | with_reducible assumption | omega | (simp only [Bool.and_eq_true, inB_iff] at *; omega))) ?_
  rintro _ _ ⟨lk4, ⟨sv4, rfl, how4⟩, rfl⟩
  obtain ⟨ad4, cn4, rfl, hrd4⟩ := how4.rd
  refine ⟨fun _ => eL eR, ?_⟩
  refine rO ?_; intro bk3
  refine tA rfl rfl rfl (by repeat first | apply pH | with_reducible apply pT | with_reducible apply pL) (by rfl) (by rfl) ?_
  refine rN ?_
  refine qN ?_
  refine cS (cR ?_)
  refine rLA rfl (by repeat first | with_reducible assumption | with_reducible apply List.mem_cons_self | with_reducible apply List.mem_cons_of_mem | with_reducible apply List.mem_append_right | exact List.Mem.head _) rfl rfl ?_
  refine mv rfl ?_
  refine mv rfl ?_
  refine mv rfl ?_
  refine rC rfl (c_implPutValue _ _ _ _ _ _ _ _ xs _ (by first | with_reducible assumption | (apply RdF.mono; (· (with_reducible assumption)); · (try simp only [List.cons_append, List.nil_append]); repeat' first | with_reducible apply eR | with_reducible apply eA | ((with_reducible apply xA); · repeat first | with_reducible apply lH | with_reducible apply lT | with_reducible apply lL) | ((with_reducible apply xC); · repeat first | apply pH | with_reducible apply pT | with_reducible apply pL) | with_reducible assumption | with_reducible apply eS | with_reducible apply eL | exact eR) | (apply RdF.mono; (· (apply OwF.rdF; with_reducible assumption)); · (try simp only [List.cons_append, List.nil_append]); repeat' first | with_reducible apply eR | with_reducible apply eA | ((with_reducible apply xA); · repeat first | with_reducible apply lH | with_reducible apply lT | with_reducible apply lL) | ((with_reducible apply xC); · repeat first | apply pH | with_reducible apply pT | with_reducible apply pL) | with_reducible assumption | with_reducible apply eS | with_reducible apply eL | exact eR) | (apply RdF.ownm; (· repeat first | with_reducible assumption | with_reducible apply List.mem_cons_self | with_reducible apply List.mem_cons_of_mem | with_reducible apply List.mem_append_right | exact List.Mem.head _); · first | rfl | with_reducible assumption | omega | simp [*])) (by first | with_reducible assumption | omega | (simp only [Bool.and_eq_true, inB_iff] at *; omega))) ?_
  rintro _ _ ⟨lk6, ⟨sv6, rfl, how6⟩, rfl⟩
  obtain ⟨ad6, cn6, rfl, hrd6⟩ := how6.rd
  refine ⟨fun _ => eL eR, ?_⟩
  refine mv rfl ?_
  refine xt rfl rfl rfl ?_
  refine xt rfl rfl rfl ?_
  refine rO ?_; intro bk4
  refine tA rfl rfl rfl (by repeat first | apply pH | with_reducible apply pT | with_reducible apply pL) (by rfl) (by rfl) ?_
  refine asg rfl ?_
  refine rN ?_
  refine qN ?_
  refine cS ?_
  refine cS (cR ?_)
  refine rLA rfl (by repeat first | with_reducible assumption | with_reducible apply List.mem_cons_self | with_reducible apply List.mem_cons_of_mem | with_reducible apply List.mem_append_right | exact List.Mem.head _) rfl rfl ?_
  refine rLA rfl (by repeat first | with_reducible assumption | with_reducible apply List.mem_cons_self | with_reducible apply List.mem_cons_of_mem | with_reducible apply List.mem_append_right | exact List.Mem.head _) rfl rfl ?_
  refine rCq rfl (c_eqSection _ _ _ _ _ _ _ _ _ _ (by first | with_reducible assumption | (apply RdF.mono; (· (with_reducible assumption)); · (try simp only [List.cons_append, List.nil_append]); repeat' first | with_reducible apply eR | with_reducible apply eA | ((with_reducible apply xA); · repeat first | with_reducible apply lH | with_reducible apply lT | with_reducible apply lL) | ((with_reducible apply xC); · repeat first | apply pH | with_reducible apply pT | with_reducible apply pL) | with_reducible assumption | with_reducible apply eS | with_reducible apply eL | exact eR) | (apply RdF.mono; (· (apply OwF.rdF; with_reducible assumption)); · (try simp only [List.cons_append, List.nil_append]); repeat' first | with_reducible apply eR | with_reducible apply eA | ((with_reducible apply xA); · repeat first | with_reducible apply lH | with_reducible apply lT | with_reducible apply lL) | ((with_reducible apply xC); · repeat first | apply pH | with_reducible apply pT | with_reducible apply pL) | with_reducible assumption | with_reducible apply eS | with_reducible apply eL | exact eR) | (apply RdF.ownm; (· repeat first | with_reducible assumption | with_reducible apply List.mem_cons_self | with_reducible apply List.mem_cons_of_mem | with_reducible apply List.mem_append_right | exact List.Mem.head _); · first | rfl | with_reducible assumption | omega | simp [*])) (by first | with_reducible assumption | (apply RdF.mono; (· (with_reducible assumption)); · (try simp only [List.cons_append, List.nil_append]); repeat' first | with_reducible apply eR | with_reducible apply eA | ((with_reducible apply xA); · repeat first | with_reducible apply lH | with_reducible apply lT | with_reducible apply lL) | ((with_reducible apply xC); · repeat first | apply pH | with_reducible apply pT | with_reducible apply pL) | with_reducible assumption | with_reducible apply eS | with_reducible apply eL | exact eR) | (apply RdF.mono; (· (apply OwF.rdF; with_reducible assumption)); · (try simp only [List.cons_append, List.nil_append]); repeat' first | with_reducible apply eR | with_reducible apply eA | ((with_reducible apply xA); · repeat first | with_reducible apply lH | with_reducible apply lT | with_reducible apply lL) | ((with_reducible apply xC); · repeat first | apply pH | with_reducible apply pT | with_reducible apply pL) | with_reducible assumption | with_reducible apply eS | with_reducible apply eL | exact eR) | (apply RdF.ownm; (· repeat first | with_reducible assumption | with_reducible apply List.mem_cons_self | with_reducible apply List.mem_cons_of_mem | with_reducible apply List.mem_append_right | exact List.Mem.head _); · first | rfl | with_reducible assumption | omega | simp [*])) (by first | with_reducible assumption | omega | (simp only [Bool.and_eq_true, inB_iff] at *; omega))) ?_
  refine uNot rfl ?_
  refine mv rfl ?_
  refine gG rfl rfl rfl ?_
  refine mv rfl ?_
  refine gG rfl rfl rfl ?_
  refine mv rfl ?_
  refine gG rfl rfl rfl ?_
  refine rp rfl ?_
  refine kF rfl rfl rfl ?_
  refine rN ?_
  refine qN ?_
  refine cFa rfl (by first | exact bne_self_eq_false _ | (simp; done) | (simp; omega) | omega) ?_
  refine cK ?_
  refine qN ?_
  refine cS ?_
  refine cS ?_
  refine cD [] [(0, true), (1, false), (2, false), (3, false), (4, false)] (by repeat first | exact fineT | exact fineL | exact fineLQ1 | exact fineLQ2 | exact fineLQ3 | exact fineLQ4 | exact fineLQ5 | exact fineLQ6 | refine fineB ?_) (by kernel_rfl) ?_
  simp only [pick, List.getElem?_toArray, List.getElem?_cons_zero, List.getElem?_cons_succ]
  refine rLA rfl (by repeat first | with_reducible assumption | with_reducible apply List.mem_cons_self | with_reducible apply List.mem_cons_of_mem | with_reducible apply List.mem_append_right | exact List.Mem.head _) rfl rfl ?_
  refine rLA rfl (by repeat first | with_reducible assumption | with_reducible apply List.mem_cons_self | with_reducible apply List.mem_cons_of_mem | with_reducible apply List.mem_append_right | exact List.Mem.head _) rfl rfl ?_
  refine rC rfl (c_toSection _ _ _ _ _ _ _ (by first | with_reducible assumption | (apply RdF.mono; (· (with_reducible assumption)); · (try simp only [List.cons_append, List.nil_append]); repeat' first | with_reducible apply eR | with_reducible apply eA | ((with_reducible apply xA); · repeat first | with_reducible apply lH | with_reducible apply lT | with_reducible apply lL) | ((with_reducible apply xC); · repeat first | apply pH | with_reducible apply pT | with_reducible apply pL) | with_reducible assumption | with_reducible apply eS | with_reducible apply eL | exact eR) | (apply RdF.mono; (· (apply OwF.rdF; with_reducible assumption)); · (try simp only [List.cons_append, List.nil_append]); repeat' first | with_reducible apply eR | with_reducible apply eA | ((with_reducible apply xA); · repeat first | with_reducible apply lH | with_reducible apply lT | with_reducible apply lL) | ((with_reducible apply xC); · repeat first | apply pH | with_reducible apply pT | with_reducible apply pL) | with_reducible assumption | with_reducible apply eS | with_reducible apply eL | exact eR) | (apply RdF.ownm; (· repeat first | with_reducible assumption | with_reducible apply List.mem_cons_self | with_reducible apply List.mem_cons_of_mem | with_reducible apply List.mem_append_right | exact List.Mem.head _); · first | rfl | with_reducible assumption | omega | simp [*])) (by first | with_reducible assumption | omega | (simp only [Bool.and_eq_true, inB_iff] at *; omega))) ?_
  rintro _ _ ⟨lk8, ⟨sv8, rfl, how8⟩, rfl⟩
  obtain ⟨ad8, cn8, rfl, hrd8⟩ := how8.rd
  refine ⟨fun _ => eL eR, ?_⟩
  refine rCq rfl (c_eqSection _ _ _ _ _ _ _ _ _ _ (by first | with_reducible assumption | (apply RdF.mono; (· (with_reducible assumption)); · (try simp only [List.cons_append, List.nil_append]); repeat' first | with_reducible apply eR | with_reducible apply eA | ((with_reducible apply xA); · repeat first | with_reducible apply lH | with_reducible apply lT | with_reducible apply lL) | ((with_reducible apply xC); · repeat first | apply pH | with_reducible apply pT | with_reducible apply pL) | with_reducible assumption | with_reducible apply eS | with_reducible apply eL | exact eR) | (apply RdF.mono; (· (apply OwF.rdF; with_reducible assumption)); · (try simp only [List.cons_append, List.nil_append]); repeat' first | with_reducible apply eR | with_reducible apply eA | ((with_reducible apply xA); · repeat first | with_reducible apply lH | with_reducible apply lT | with_reducible apply lL) | ((with_reducible apply xC); · repeat first | apply pH | with_reducible apply pT | with_reducible apply pL) | with_reducible assumption | with_reducible apply eS | with_reducible apply eL | exact eR) | (apply RdF.ownm; (· repeat first | with_reducible assumption | with_reducible apply List.mem_cons_self | with_reducible apply List.mem_cons_of_mem | with_reducible apply List.mem_append_right | exact List.Mem.head _); · first | rfl | with_reducible assumption | omega | simp [*])) (by first | with_reducible assumption | (apply RdF.mono; (· (with_reducible assumption)); · (try simp only [List.cons_append, List.nil_append]); repeat' first | with_reducible apply eR | with_reducible apply eA | ((with_reducible apply xA); · repeat first | with_reducible apply lH | with_reducible apply lT | with_reducible apply lL) | ((with_reducible apply xC); · repeat first | apply pH | with_reducible apply pT | with_reducible apply pL) | with_reducible assumption | with_reducible apply eS | with_reducible apply eL | exact eR) | (apply RdF.mono; (· (apply OwF.rdF; with_reducible assumption)); · (try simp only [List.cons_append, List.nil_append]); repeat' first | with_reducible apply eR | with_reducible apply eA | ((with_reducible apply xA); · repeat first | with_reducible apply lH | with_reducible apply lT | with_reducible apply lL) | ((with_reducible apply xC); · repeat first | apply pH | with_reducible apply pT | with_reducible apply pL) | with_reducible assumption | with_reducible apply eS | with_reducible apply eL | exact eR) | (apply RdF.ownm; (· repeat first | with_reducible assumption | with_reducible apply List.mem_cons_self | with_reducible apply List.mem_cons_of_mem | with_reducible apply List.mem_append_right | exact List.Mem.head _); · first | rfl | with_reducible assumption | omega | simp [*])) (by first | with_reducible assumption | omega | (simp only [Bool.and_eq_true, inB_iff] at *; omega))) ?_
  refine uNot rfl ?_
  refine rN ?_
  refine qN ?_
  refine cF rfl ?_
  refine cK ?_
  refine qN ?_
  refine cS (cR ?_)
  refine asg rfl ?_
  refine rN ?_
  refine qN ?_
  refine cS (cR ?_)
  refine rLA rfl (by repeat first | with_reducible assumption | with_reducible apply List.mem_cons_self | with_reducible apply List.mem_cons_of_mem | with_reducible apply List.mem_append_right | exact List.Mem.head _) rfl rfl ?_
  refine mv rfl ?_
  refine rC rfl ((c_markSection _ _ _ _ _ 1 _ _ _ (by with_reducible assumption) (by first | with_reducible assumption | omega | (simp only [Bool.and_eq_true, inB_iff] at *; omega)) (by first | with_reducible assumption | omega | (simp only [Bool.and_eq_true, inB_iff] at *; omega))).ofLess (by repeat first | with_reducible apply lH | with_reducible apply lT | with_reducible apply lL)) ?_
  rintro _ _ ⟨rfl, lk9, how9, rfl⟩
  refine ⟨nofun, ?_⟩
  refine asg rfl ?_
  refine rN ?_
  refine qN ?_
  refine cS ?_
  refine cS (cR ?_)
  refine mv rfl ?_
  refine bLss rfl rfl ?_
  refine mv rfl ?_
  skip
  refine gG rfl rfl (by first | exact bne_self_eq_false _ | (simp; done) | (simp; omega) | omega) ?_
  refine rLA rfl (by repeat first | with_reducible assumption | with_reducible apply List.mem_cons_self | with_reducible apply List.mem_cons_of_mem | with_reducible apply List.mem_append_right | exact List.Mem.head _) rfl rfl ?_
  refine gG rfl rfl (by first | exact bne_self_eq_false _ | (simp; done) | (simp; omega) | omega) ?_
  refine rLA rfl (by repeat first | with_reducible assumption | with_reducible apply List.mem_cons_self | with_reducible apply List.mem_cons_of_mem | with_reducible apply List.mem_append_right | exact List.Mem.head _) rfl rfl ?_
  refine gG rfl rfl (by first | exact bne_self_eq_false _ | (simp; done) | (simp; omega) | omega) ?_
  refine rCq rfl (c_eqSection _ _ _ _ _ _ _ _ _ _ (by first | with_reducible assumption | (apply RdF.mono; (· (with_reducible assumption)); · (try simp only [List.cons_append, List.nil_append]); repeat' first | with_reducible apply eR | with_reducible apply eA | ((with_reducible apply xA); · repeat first | with_reducible apply lH | with_reducible apply lT | with_reducible apply lL) | ((with_reducible apply xC); · repeat first | apply pH | with_reducible apply pT | with_reducible apply pL) | with_reducible assumption | with_reducible apply eS | with_reducible apply eL | exact eR) | (apply RdF.mono; (· (apply OwF.rdF; with_reducible assumption)); · (try simp only [List.cons_append, List.nil_append]); repeat' first | with_reducible apply eR | with_reducible apply eA | ((with_reducible apply xA); · repeat first | with_reducible apply lH | with_reducible apply lT | with_reducible apply lL) | ((with_reducible apply xC); · repeat first | apply pH | with_reducible apply pT | with_reducible apply pL) | with_reducible assumption | with_reducible apply eS | with_reducible apply eL | exact eR) | (apply RdF.ownm; (· repeat first | with_reducible assumption | with_reducible apply List.mem_cons_self | with_reducible apply List.mem_cons_of_mem | with_reducible apply List.mem_append_right | exact List.Mem.head _); · first | rfl | with_reducible assumption | omega | simp [*])) (by first | with_reducible assumption | (apply RdF.mono; (· (with_reducible assumption)); · (try simp only [List.cons_append, List.nil_append]); repeat' first | with_reducible apply eR | with_reducible apply eA | ((with_reducible apply xA); · repeat first | with_reducible apply lH | with_reducible apply lT | with_reducible apply lL) | ((with_reducible apply xC); · repeat first | apply pH | with_reducible apply pT | with_reducible apply pL) | with_reducible assumption | with_reducible apply eS | with_reducible apply eL | exact eR) | (apply RdF.mono; (· (apply OwF.rdF; with_reducible assumption)); · (try simp only [List.cons_append, List.nil_append]); repeat' first | with_reducible apply eR | with_reducible apply eA | ((with_reducible apply xA); · repeat first | with_reducible apply lH | with_reducible apply lT | with_reducible apply lL) | ((with_reducible apply xC); · repeat first | apply pH | with_reducible apply pT | with_reducible apply pL) | with_reducible assumption | with_reducible apply eS | with_reducible apply eL | exact eR) | (apply RdF.ownm; (· repeat first | with_reducible assumption | with_reducible apply List.mem_cons_self | with_reducible apply List.mem_cons_of_mem | with_reducible apply List.mem_append_right | exact List.Mem.head _); · first | rfl | with_reducible assumption | omega | simp [*])) (by first | with_reducible assumption | omega | (simp only [Bool.and_eq_true, inB_iff] at *; omega))) ?_
  refine gG rfl rfl (by first | exact bne_self_eq_false _ | (simp; done) | (simp; omega) | omega) ?_
  refine uNot rfl ?_
  refine kF rfl (by first | exact bne_self_eq_false _ | (simp; done) | (simp; omega) | omega) rfl ?_
  refine mv rfl ?_
  refine gG rfl rfl rfl ?_
  refine mv rfl ?_
  refine gG rfl rfl rfl ?_
  refine mv rfl ?_
  refine gG rfl rfl rfl ?_
  refine rp rfl ?_
  refine kF rfl rfl rfl ?_
  refine rN ?_
  refine qN ?_
  refine cFa rfl (by first | exact bne_self_eq_false _ | (simp; done) | (simp; omega) | omega) ?_
  refine cK ?_
  refine qN ?_
  refine cS (cR ?_)
  refine asg rfl ?_
  refine rN ?_
  refine qN ?_
  refine cS (cR ?_)
  refine rLA rfl (by repeat first | with_reducible assumption | with_reducible apply List.mem_cons_self | with_reducible apply List.mem_cons_of_mem | with_reducible apply List.mem_append_right | exact List.Mem.head _) rfl rfl ?_
  refine mv rfl ?_
  refine rC rfl ((c_markSection _ _ _ _ _ 1 _ _ _ (by with_reducible assumption) (by first | with_reducible assumption | omega | (simp only [Bool.and_eq_true, inB_iff] at *; omega)) (by first | with_reducible assumption | omega | (simp only [Bool.and_eq_true, inB_iff] at *; omega))).ofLess (by repeat first | with_reducible apply lH | with_reducible apply lT | with_reducible apply lL)) ?_
  rintro _ _ ⟨rfl, lk10, how10, rfl⟩
  refine ⟨nofun, ?_⟩
  refine asg rfl ?_
  refine rN ?_
  refine qN ?_
  refine cS (cR ?_)
  refine asg rfl ?_
  refine rN ?_
  refine qN ?_
  refine cS (cR ?_)
  refine rLA rfl (by repeat first | with_reducible assumption | with_reducible apply List.mem_cons_self | with_reducible apply List.mem_cons_of_mem | with_reducible apply List.mem_append_right | exact List.Mem.head _) rfl rfl ?_
  refine mv rfl ?_
  refine rCq rfl (c_heldSection _ _ _ _ _ 1 _ _ (by first | with_reducible assumption | (apply RdF.mono; (· (with_reducible assumption)); · (try simp only [List.cons_append, List.nil_append]); repeat' first | with_reducible apply eR | with_reducible apply eA | ((with_reducible apply xA); · repeat first | with_reducible apply lH | with_reducible apply lT | with_reducible apply lL) | ((with_reducible apply xC); · repeat first | apply pH | with_reducible apply pT | with_reducible apply pL) | with_reducible assumption | with_reducible apply eS | with_reducible apply eL | exact eR) | (apply RdF.mono; (· (apply OwF.rdF; with_reducible assumption)); · (try simp only [List.cons_append, List.nil_append]); repeat' first | with_reducible apply eR | with_reducible apply eA | ((with_reducible apply xA); · repeat first | with_reducible apply lH | with_reducible apply lT | with_reducible apply lL) | ((with_reducible apply xC); · repeat first | apply pH | with_reducible apply pT | with_reducible apply pL) | with_reducible assumption | with_reducible apply eS | with_reducible apply eL | exact eR) | (apply RdF.ownm; (· repeat first | with_reducible assumption | with_reducible apply List.mem_cons_self | with_reducible apply List.mem_cons_of_mem | with_reducible apply List.mem_append_right | exact List.Mem.head _); · first | rfl | with_reducible assumption | omega | simp [*])) (by first | with_reducible assumption | omega | (simp only [Bool.and_eq_true, inB_iff] at *; omega)) (by first | with_reducible assumption | omega | (simp only [Bool.and_eq_true, inB_iff] at *; omega))) ?_
  refine asg rfl ?_
  refine rN ?_
  refine qN ?_
  refine cS ?_
  refine cS (cR ?_)
  refine mv rfl ?_
  refine bLss rfl rfl ?_
  refine rN ?_
  refine qN ?_
  refine cFa rfl (by first | exact bne_self_eq_false _ | (simp; done) | (simp; omega) | omega) ?_
  refine cK ?_
  refine qN ?_
  refine cS ?_
  refine cS (cR ?_)
  refine mv rfl ?_
  refine mv rfl ?_
  refine bNeq rfl rfl ?_
  refine rN ?_
  refine qN ?_
  refine cFa rfl (by first | exact bne_self_eq_false _ | (simp; done) | (simp; omega) | omega) ?_
  refine cK ?_
  refine qN ?_
  refine cS (cR ?_)
  refine rLA rfl (by repeat first | with_reducible assumption | with_reducible apply List.mem_cons_self | with_reducible apply List.mem_cons_of_mem | with_reducible apply List.mem_append_right | exact List.Mem.head _) rfl rfl ?_
  refine rC rfl (c_toSection _ _ _ _ _ _ _ (by first | with_reducible assumption | (apply RdF.mono; (· (with_reducible assumption)); · (try simp only [List.cons_append, List.nil_append]); repeat' first | with_reducible apply eR | with_reducible apply eA | ((with_reducible apply xA); · repeat first | with_reducible apply lH | with_reducible apply lT | with_reducible apply lL) | ((with_reducible apply xC); · repeat first | apply pH | with_reducible apply pT | with_reducible apply pL) | with_reducible assumption | with_reducible apply eS | with_reducible apply eL | exact eR) | (apply RdF.mono; (· (apply OwF.rdF; with_reducible assumption)); · (try simp only [List.cons_append, List.nil_append]); repeat' first | with_reducible apply eR | with_reducible apply eA | ((with_reducible apply xA); · repeat first | with_reducible apply lH | with_reducible apply lT | with_reducible apply lL) | ((with_reducible apply xC); · repeat first | apply pH | with_reducible apply pT | with_reducible apply pL) | with_reducible assumption | with_reducible apply eS | with_reducible apply eL | exact eR) | (apply RdF.ownm; (· repeat first | with_reducible assumption | with_reducible apply List.mem_cons_self | with_reducible apply List.mem_cons_of_mem | with_reducible apply List.mem_append_right | exact List.Mem.head _); · first | rfl | with_reducible assumption | omega | simp [*])) (by first | with_reducible assumption | omega | (simp only [Bool.and_eq_true, inB_iff] at *; omega))) ?_
  rintro _ _ ⟨lk11, ⟨sv11, rfl, how11⟩, rfl⟩
  obtain ⟨ad11, cn11, rfl, hrd11⟩ := how11.rd
  refine ⟨fun _ => eL eR, ?_⟩
  refine mv rfl ?_
  refine mv rfl ?_
  refine mv rfl ?_
  refine rC rfl (c_implPutValue _ _ _ _ _ _ _ _ xs _ (by first | with_reducible assumption | (apply RdF.mono; (· (with_reducible assumption)); · (try simp only [List.cons_append, List.nil_append]); repeat' first | with_reducible apply eR | with_reducible apply eA | ((with_reducible apply xA); · repeat first | with_reducible apply lH | with_reducible apply lT | with_reducible apply lL) | ((with_reducible apply xC); · repeat first | apply pH | with_reducible apply pT | with_reducible apply pL) | with_reducible assumption | with_reducible apply eS | with_reducible apply eL | exact eR) | (apply RdF.mono; (· (apply OwF.rdF; with_reducible assumption)); · (try simp only [List.cons_append, List.nil_append]); repeat' first | with_reducible apply eR | with_reducible apply eA | ((with_reducible apply xA); · repeat first | with_reducible apply lH | with_reducible apply lT | with_reducible apply lL) | ((with_reducible apply xC); · repeat first | apply pH | with_reducible apply pT | with_reducible apply pL) | with_reducible assumption | with_reducible apply eS | with_reducible apply eL | exact eR) | (apply RdF.ownm; (· repeat first | with_reducible assumption | with_reducible apply List.mem_cons_self | with_reducible apply List.mem_cons_of_mem | with_reducible apply List.mem_append_right | exact List.Mem.head _); · first | rfl | with_reducible assumption | omega | simp [*])) (by first | with_reducible assumption | omega | (simp only [Bool.and_eq_true, inB_iff] at *; omega))) ?_
  rintro _ _ ⟨lk12, ⟨sv12, rfl, how12⟩, rfl⟩
  obtain ⟨ad12, cn12, rfl, hrd12⟩ := how12.rd
  refine ⟨fun _ => eL eR, ?_⟩
  refine mv rfl ?_
  refine xt rfl rfl rfl ?_
  refine xt rfl rfl rfl ?_
  refine rO ?_; intro bk5
  refine tA rfl rfl rfl (by repeat first | apply pH | with_reducible apply pT | with_reducible apply pL) (by rfl) (by rfl) ?_
  refine asg rfl ?_
  refine rN ?_
  refine qN ?_
  refine cS ?_
  refine cS (cR ?_)
  refine rLA rfl (by repeat first | with_reducible assumption | with_reducible apply List.mem_cons_self | with_reducible apply List.mem_cons_of_mem | with_reducible apply List.mem_append_right | exact List.Mem.head _) rfl rfl ?_
  refine rLA rfl (by repeat first | with_reducible assumption | with_reducible apply List.mem_cons_self | with_reducible apply List.mem_cons_of_mem | with_reducible apply List.mem_append_right | exact List.Mem.head _) rfl rfl ?_
  refine rCq rfl (c_eqSection _ _ _ _ _ _ _ _ _ _ (by first | with_reducible assumption | (apply RdF.mono; (· (with_reducible assumption)); · (try simp only [List.cons_append, List.nil_append]); repeat' first | with_reducible apply eR | with_reducible apply eA | ((with_reducible apply xA); · repeat first | with_reducible apply lH | with_reducible apply lT | with_reducible apply lL) | ((with_reducible apply xC); · repeat first | apply pH | with_reducible apply pT | with_reducible apply pL) | with_reducible assumption | with_reducible apply eS | with_reducible apply eL | exact eR) | (apply RdF.mono; (· (apply OwF.rdF; with_reducible assumption)); · (try simp only [List.cons_append, List.nil_append]); repeat' first | with_reducible apply eR | with_reducible apply eA | ((with_reducible apply xA); · repeat first | with_reducible apply lH | with_reducible apply lT | with_reducible apply lL) | ((with_reducible apply xC); · repeat first | apply pH | with_reducible apply pT | with_reducible apply pL) | with_reducible assumption | with_reducible apply eS | with_reducible apply eL | exact eR) | (apply RdF.ownm; (· repeat first | with_reducible assumption | with_reducible apply List.mem_cons_self | with_reducible apply List.mem_cons_of_mem | with_reducible apply List.mem_append_right | exact List.Mem.head _); · first | rfl | with_reducible assumption | omega | simp [*])) (by first | with_reducible assumption | (apply RdF.mono; (· (with_reducible assumption)); · (try simp only [List.cons_append, List.nil_append]); repeat' first | with_reducible apply eR | with_reducible apply eA | ((with_reducible apply xA); · repeat first | with_reducible apply lH | with_reducible apply lT | with_reducible apply lL) | ((with_reducible apply xC); · repeat first | apply pH | with_reducible apply pT | with_reducible apply pL) | with_reducible assumption | with_reducible apply eS | with_reducible apply eL | exact eR) | (apply RdF.mono; (· (apply OwF.rdF; with_reducible assumption)); · (try simp only [List.cons_append, List.nil_append]); repeat' first | with_reducible apply eR | with_reducible apply eA | ((with_reducible apply xA); · repeat first | with_reducible apply lH | with_reducible apply lT | with_reducible apply lL) | ((with_reducible apply xC); · repeat first | apply pH | with_reducible apply pT | with_reducible apply pL) | with_reducible assumption | with_reducible apply eS | with_reducible apply eL | exact eR) | (apply RdF.ownm; (· repeat first | with_reducible assumption | with_reducible apply List.mem_cons_self | with_reducible apply List.mem_cons_of_mem | with_reducible apply List.mem_append_right | exact List.Mem.head _); · first | rfl | with_reducible assumption | omega | simp [*])) (by first | with_reducible assumption | omega | (simp only [Bool.and_eq_true, inB_iff] at *; omega))) ?_
  refine uNot rfl ?_
  refine mv rfl ?_
  refine gG rfl rfl rfl ?_
  refine mv rfl ?_
  refine gG rfl rfl rfl ?_
  refine mv rfl ?_
  refine gG rfl rfl rfl ?_
  refine rp rfl ?_
  refine kF rfl rfl rfl ?_
  refine rN ?_
  refine qN ?_
  refine cFa rfl (by first | exact bne_self_eq_false _ | (simp; done) | (simp; omega) | omega) ?_
  refine cK ?_
  refine qN ?_
  refine cS (cR ?_)
  refine asg rfl ?_
  refine rN ?_
  refine qN ?_
  refine cS (cR ?_)
  refine rLA rfl (by repeat first | with_reducible assumption | with_reducible apply List.mem_cons_self | with_reducible apply List.mem_cons_of_mem | with_reducible apply List.mem_append_right | exact List.Mem.head _) rfl rfl ?_
  refine mv rfl ?_
  refine rCq rfl (c_heldSection _ _ _ _ _ 1 _ _ (by first | with_reducible assumption | (apply RdF.mono; (· (with_reducible assumption)); · (try simp only [List.cons_append, List.nil_append]); repeat' first | with_reducible apply eR | with_reducible apply eA | ((with_reducible apply xA); · repeat first | with_reducible apply lH | with_reducible apply lT | with_reducible apply lL) | ((with_reducible apply xC); · repeat first | apply pH | with_reducible apply pT | with_reducible apply pL) | with_reducible assumption | with_reducible apply eS | with_reducible apply eL | exact eR) | (apply RdF.mono; (· (apply OwF.rdF; with_reducible assumption)); · (try simp only [List.cons_append, List.nil_append]); repeat' first | with_reducible apply eR | with_reducible apply eA | ((with_reducible apply xA); · repeat first | with_reducible apply lH | with_reducible apply lT | with_reducible apply lL) | ((with_reducible apply xC); · repeat first | apply pH | with_reducible apply pT | with_reducible apply pL) | with_reducible assumption | with_reducible apply eS | with_reducible apply eL | exact eR) | (apply RdF.ownm; (· repeat first | with_reducible assumption | with_reducible apply List.mem_cons_self | with_reducible apply List.mem_cons_of_mem | with_reducible apply List.mem_append_right | exact List.Mem.head _); · first | rfl | with_reducible assumption | omega | simp [*])) (by first | with_reducible assumption | omega | (simp only [Bool.and_eq_true, inB_iff] at *; omega)) (by first | with_reducible assumption | omega | (simp only [Bool.and_eq_true, inB_iff] at *; omega))) ?_
  refine asg rfl ?_
  refine rN ?_
  refine qN ?_
  refine cS ?_
  refine cS (cR ?_)
  refine mv rfl ?_
  refine bLss rfl rfl ?_
  refine rN ?_
  refine qN ?_
  refine cFa rfl (by first | exact bne_self_eq_false _ | (simp; done) | (simp; omega) | omega) ?_
  refine cK ?_
  refine qN ?_
  refine cS ?_
  refine cS (cR ?_)
  refine mv rfl ?_
  refine mv rfl ?_
  refine bNeq rfl rfl ?_
  refine rN ?_
  refine qN ?_
  refine cFa rfl (by first | exact bne_self_eq_false _ | (simp; done) | (simp; omega) | omega) ?_
  refine cK ?_
  refine qN ?_
  refine cS (cR ?_)
  refine asg rfl ?_
  refine rN ?_
  refine qN ?_
  refine cE ?_
  refine kE rfl rfl  ?_
  first | (exfalso; contradiction) | exact ⟨_, ⟨rfl, rfl⟩, (by (try simp only [List.cons_append, List.nil_append]); repeat' first | with_reducible apply eR | with_reducible apply eA | ((with_reducible apply xA); · repeat first | with_reducible apply lH | with_reducible apply lT | with_reducible apply lL) | ((with_reducible apply xC); · repeat first | apply pH | with_reducible apply pT | with_reducible apply pL) | with_reducible assumption | with_reducible apply eS | with_reducible apply eL | exact eR)⟩ | (exfalso; first | contradiction | omega | (simp_all; done) | (simp_all; omega))
end Go.Proofs.Ytjpbgldnnfcmaaa.Ab
