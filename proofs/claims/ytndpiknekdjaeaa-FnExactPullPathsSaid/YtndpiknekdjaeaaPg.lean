/-
  Walks: a section pulled so that paths have times.
-/
import Derived.Test.YtndpiknekdjaeaaPc
import Derived.Test.YtndpiknekdjaeaaPe
import Derived.Test.YtndpiknekdjaeaaOv
namespace Go.Proofs.Ytndpiknekdjaeaa.Ab
open Go Go.RowKit
attribute [local irreducible] Run Then InBlock LoopQ LQ1 LQ2 LQ3 LQ4 LQ5 LQ6 AWp Ret ACall
set_option linter.unusedVariables false
set_option linter.unusedSimpArgs false

/-- pulled by the first paths -/
def roS (w d : Int) (ps : List Pth) (ts : List Nat) (parts share : Nat) (xs : List Nat) : Nat → List Nat
  | 0 => xs
  | j + 1 => puF (roS w d ps ts parts share xs j) (lnF w d (ps.getD j zP) parts) (ts.getD j 0) share
/-- pulled by all paths, some rounds -/
def roK (w d : Int) (ps : List Pth) (ts : List Nat) (parts share : Nat) (xs : List Nat) : Nat → List Nat
  | 0 => xs
  | k + 1 => roS w d ps ts parts share (roK w d ps ts parts share xs k) ps.length
theorem roS_len {w d : Int} {ps : List Pth} {ts : List Nat} {parts share : Nat} {xs : List Nat} : ∀ j, (roS w d ps ts parts share xs j).length = xs.length := by
  intro j
  induction j with
  | zero => rfl
  | succ j ih => exact (puF_len _ _ _ _).trans ih
theorem roK_len {w d : Int} {ps : List Pth} {ts : List Nat} {parts share : Nat} {xs : List Nat} : ∀ k, (roK w d ps ts parts share xs k).length = xs.length := by
  intro k
  induction k with
  | zero => rfl
  | succ k ih => exact (roS_len _).trans ih
def pqB (w d : Int) (n : Nat) (ps : List Pth) (m : Nat) (parts rounds : Int) : Bool := vsB w d n && ppB ps && inB parts 1 256 && ((m : Int) == (ps.length : Int)) && inB rounds 0 40
-- @reg spec.l06Can : c_l06Can _ _ _ _ _ _ _ _ _ _ _ _ _ _ _ _ @MEM@ @RDP@ @BD@
theorem c_l06Can2 (b : Nat) (wr : Bool) (w d : Int) (a a' a'' : Option Addr) (n n' n'' c c' c'' : Nat) (ps : List Pth) (parts : Int) (M : Mem) (hm : (b, (⟨[.int .i64 w, .int .i64 d, .slice a n c], wr⟩ : Blk)) ∈ M) (h' : RdP M a' n' ps) (hn' : n' ≤ 1073741824) :
    ACall Try.prog 88 [.pointer (some ⟨b, 0, none⟩), .slice a' n' c', .slice a'' n'' c'', .int .i64 parts] M fun v M' => v = .bool (vsB w d n && ppB ps && ((n'' : Int) == (n' : Int)) && inB parts 1 256) ∧ M' = M := by
  refine acall_of_awp Try.func88 rfl Try.ntmps88 rfl ?_
  refine cS (cR ?_)
  refine asg rfl ?_
  refine rN ?_
  refine qN ?_
  refine cS (cR ?_)
  refine mv rfl ?_
  refine rCq rfl (c_l06Is _ _ _ _ _ _ _ _ (by repeat first | with_reducible assumption | with_reducible apply List.mem_cons_self | with_reducible apply List.mem_cons_of_mem | with_reducible apply List.mem_append_right | exact List.Mem.head _)) ?_
  refine mv rfl ?_
  refine gC rfl rfl (fun c1 => ?_) (fun c1 => ?_)
  · have c1' := c1; try simp only [inB_iff, Bool.and_eq_true, decide_eq_true_eq, decide_eq_false_iff_not, beq_iff_eq, beq_eq_false_iff_ne, bne_iff_ne, bne_eq_false_iff_eq, ne_eq] at c1'
    refine gG rfl rfl c1 ?_
    refine mv rfl ?_
    refine gG rfl rfl c1 ?_
    refine rCq rfl (c_l06Paths _ _ _ _ _ (by (first | with_reducible assumption | (apply RdP.mono; (· with_reducible assumption); · (try simp only [List.cons_append, List.nil_append, List.append_assoc]); repeat' first | with_reducible apply eR | with_reducible apply eA | ((with_reducible apply xA); · repeat first | with_reducible apply lH | with_reducible apply lT | with_reducible apply lL) | ((with_reducible apply xC); · repeat first | apply pH | with_reducible apply pT | with_reducible apply pL) | with_reducible assumption | with_reducible apply eS | with_reducible apply eL | exact eR) | (apply RdP.mono; (· (apply OwP.rdP; with_reducible assumption)); · (try simp only [List.cons_append, List.nil_append, List.append_assoc]); repeat' first | with_reducible apply eR | with_reducible apply eA | ((with_reducible apply xA); · repeat first | with_reducible apply lH | with_reducible apply lT | with_reducible apply lL) | ((with_reducible apply xC); · repeat first | apply pH | with_reducible apply pT | with_reducible apply pL) | with_reducible assumption | with_reducible apply eS | with_reducible apply eL | exact eR))) (by first | with_reducible assumption | omega | (simp only [Bool.and_eq_true, inB_iff] at *; omega))) ?_
    refine kT rfl c1 rfl ?_
    refine mv rfl ?_
    refine gC rfl rfl (fun c2 => ?_) (fun c2 => ?_)
    · have c2' := c2; try simp only [inB_iff, Bool.and_eq_true, decide_eq_true_eq, decide_eq_false_iff_not, beq_iff_eq, beq_eq_false_iff_ne, bne_iff_ne, bne_eq_false_iff_eq, ne_eq] at c2'
      refine gG rfl rfl c2 ?_
      refine mv rfl ?_
      refine gG rfl rfl c2 ?_
      refine ln rfl ?_
      refine gG rfl rfl c2 ?_
      refine mv rfl ?_
      refine gG rfl rfl c2 ?_
      refine ln rfl ?_
      refine gG rfl rfl c2 ?_
      refine bEql rfl rfl ?_
      refine kT rfl c2 rfl ?_
      refine mv rfl ?_
      refine gC rfl rfl (fun c3 => ?_) (fun c3 => ?_)
      · have c3' := c3; try simp only [inB_iff, Bool.and_eq_true, decide_eq_true_eq, decide_eq_false_iff_not, beq_iff_eq, beq_eq_false_iff_ne, bne_iff_ne, bne_eq_false_iff_eq, ne_eq] at c3'
        refine gG rfl rfl c3 ?_
        refine mv rfl ?_
        refine gG rfl rfl c3 ?_
        refine rCq rfl (c_l06Parts _ _) ?_
        refine kT rfl c3 rfl ?_
        refine asg rfl ?_
        refine rN ?_
        refine qN ?_
        refine cE ?_
        refine kE rfl rfl  ?_
        first | (exfalso; contradiction) | exact ⟨_, ⟨by first | (simp only [c1, c2, c3, Bool.true_and, Bool.and_true, Bool.false_and, Bool.and_false, Bool.or_false, Bool.false_or, Bool.or_true, Bool.true_or, Bool.not_true, Bool.not_false, if_true, if_false, Bool.false_eq_true, decide_true, decide_false, cond_true, cond_false]; done) | (simp only [c1, c2, Bool.true_and, Bool.and_true, Bool.false_and, Bool.and_false, Bool.or_false, Bool.false_or, Bool.or_true, Bool.true_or, Bool.not_true, Bool.not_false, if_true, if_false, Bool.false_eq_true, decide_true, decide_false, cond_true, cond_false]; done) | (simp only [c1, Bool.true_and, Bool.and_true, Bool.false_and, Bool.and_false, Bool.or_false, Bool.false_or, Bool.or_true, Bool.true_or, Bool.not_true, Bool.not_false, if_true, if_false, Bool.false_eq_true, decide_true, decide_false, cond_true, cond_false]; done), rfl⟩, (by (try simp only [List.cons_append, List.nil_append, List.append_assoc]); repeat' first | with_reducible apply eR | with_reducible apply eA | ((with_reducible apply xA); · repeat first | with_reducible apply lH | with_reducible apply lT | with_reducible apply lL) | ((with_reducible apply xC); · repeat first | apply pH | with_reducible apply pT | with_reducible apply pL) | with_reducible assumption | with_reducible apply eS | with_reducible apply eL | exact eR)⟩ | (exfalso; first | contradiction | omega | (simp_all; done) | (simp_all; omega))
      · have c3' := c3; try simp only [inB_iff, Bool.and_eq_true, decide_eq_true_eq, decide_eq_false_iff_not, beq_iff_eq, beq_eq_false_iff_ne, bne_iff_ne, bne_eq_false_iff_eq, ne_eq] at c3'
        refine gS rfl rfl c3 ?_
        refine gS rfl rfl c3 ?_
        refine kF rfl c3 rfl ?_
        refine asg rfl ?_
        refine rN ?_
        refine qN ?_
        refine cE ?_
        refine kE rfl rfl  ?_
        first | (exfalso; contradiction) | exact ⟨_, ⟨by first | (simp only [c1, c2, c3, Bool.true_and, Bool.and_true, Bool.false_and, Bool.and_false, Bool.or_false, Bool.false_or, Bool.or_true, Bool.true_or, Bool.not_true, Bool.not_false, if_true, if_false, Bool.false_eq_true, decide_true, decide_false, cond_true, cond_false]; done) | (simp only [c1, c2, Bool.true_and, Bool.and_true, Bool.false_and, Bool.and_false, Bool.or_false, Bool.false_or, Bool.or_true, Bool.true_or, Bool.not_true, Bool.not_false, if_true, if_false, Bool.false_eq_true, decide_true, decide_false, cond_true, cond_false]; done) | (simp only [c1, Bool.true_and, Bool.and_true, Bool.false_and, Bool.and_false, Bool.or_false, Bool.false_or, Bool.or_true, Bool.true_or, Bool.not_true, Bool.not_false, if_true, if_false, Bool.false_eq_true, decide_true, decide_false, cond_true, cond_false]; done), rfl⟩, (by (try simp only [List.cons_append, List.nil_append, List.append_assoc]); repeat' first | with_reducible apply eR | with_reducible apply eA | ((with_reducible apply xA); · repeat first | with_reducible apply lH | with_reducible apply lT | with_reducible apply lL) | ((with_reducible apply xC); · repeat first | apply pH | with_reducible apply pT | with_reducible apply pL) | with_reducible assumption | with_reducible apply eS | with_reducible apply eL | exact eR)⟩ | (exfalso; first | contradiction | omega | (simp_all; done) | (simp_all; omega))
    · have c2' := c2; try simp only [inB_iff, Bool.and_eq_true, decide_eq_true_eq, decide_eq_false_iff_not, beq_iff_eq, beq_eq_false_iff_ne, bne_iff_ne, bne_eq_false_iff_eq, ne_eq] at c2'
      refine gS rfl rfl c2 ?_
      refine gS rfl rfl c2 ?_
      refine gS rfl rfl c2 ?_
      refine gS rfl rfl c2 ?_
      refine gS rfl rfl c2 ?_
      refine kF rfl c2 rfl ?_
      refine mv rfl ?_
      refine gS rfl rfl rfl ?_
      refine gS rfl rfl rfl ?_
      refine kF rfl rfl rfl ?_
      refine asg rfl ?_
      refine rN ?_
      refine qN ?_
      refine cE ?_
      refine kE rfl rfl  ?_
      first | (exfalso; contradiction) | exact ⟨_, ⟨by first | (simp only [c1, c2, c3, Bool.true_and, Bool.and_true, Bool.false_and, Bool.and_false, Bool.or_false, Bool.false_or, Bool.or_true, Bool.true_or, Bool.not_true, Bool.not_false, if_true, if_false, Bool.false_eq_true, decide_true, decide_false, cond_true, cond_false]; done) | (simp only [c1, c2, Bool.true_and, Bool.and_true, Bool.false_and, Bool.and_false, Bool.or_false, Bool.false_or, Bool.or_true, Bool.true_or, Bool.not_true, Bool.not_false, if_true, if_false, Bool.false_eq_true, decide_true, decide_false, cond_true, cond_false]; done) | (simp only [c1, Bool.true_and, Bool.and_true, Bool.false_and, Bool.and_false, Bool.or_false, Bool.false_or, Bool.or_true, Bool.true_or, Bool.not_true, Bool.not_false, if_true, if_false, Bool.false_eq_true, decide_true, decide_false, cond_true, cond_false]; done), rfl⟩, (by (try simp only [List.cons_append, List.nil_append, List.append_assoc]); repeat' first | with_reducible apply eR | with_reducible apply eA | ((with_reducible apply xA); · repeat first | with_reducible apply lH | with_reducible apply lT | with_reducible apply lL) | ((with_reducible apply xC); · repeat first | apply pH | with_reducible apply pT | with_reducible apply pL) | with_reducible assumption | with_reducible apply eS | with_reducible apply eL | exact eR)⟩ | (exfalso; first | contradiction | omega | (simp_all; done) | (simp_all; omega))
  · have c1' := c1; try simp only [inB_iff, Bool.and_eq_true, decide_eq_true_eq, decide_eq_false_iff_not, beq_iff_eq, beq_eq_false_iff_ne, bne_iff_ne, bne_eq_false_iff_eq, ne_eq] at c1'
    refine gS rfl rfl c1 ?_
    refine gS rfl rfl c1 ?_
    refine kF rfl c1 rfl ?_
    refine mv rfl ?_
    refine gS rfl rfl rfl ?_
    refine gS rfl rfl rfl ?_
    refine gS rfl rfl rfl ?_
    refine gS rfl rfl rfl ?_
    refine gS rfl rfl rfl ?_
    refine kF rfl rfl rfl ?_
    refine mv rfl ?_
    refine gS rfl rfl rfl ?_
    refine gS rfl rfl rfl ?_
    refine kF rfl rfl rfl ?_
    refine asg rfl ?_
    refine rN ?_
    refine qN ?_
    refine cE ?_
    refine kE rfl rfl  ?_
    first | (exfalso; contradiction) | exact ⟨_, ⟨by first | (simp only [c1, c2, c3, Bool.true_and, Bool.and_true, Bool.false_and, Bool.and_false, Bool.or_false, Bool.false_or, Bool.or_true, Bool.true_or, Bool.not_true, Bool.not_false, if_true, if_false, Bool.false_eq_true, decide_true, decide_false, cond_true, cond_false]; done) | (simp only [c1, c2, Bool.true_and, Bool.and_true, Bool.false_and, Bool.and_false, Bool.or_false, Bool.false_or, Bool.or_true, Bool.true_or, Bool.not_true, Bool.not_false, if_true, if_false, Bool.false_eq_true, decide_true, decide_false, cond_true, cond_false]; done) | (simp only [c1, Bool.true_and, Bool.and_true, Bool.false_and, Bool.and_false, Bool.or_false, Bool.false_or, Bool.or_true, Bool.true_or, Bool.not_true, Bool.not_false, if_true, if_false, Bool.false_eq_true, decide_true, decide_false, cond_true, cond_false]; done), rfl⟩, (by (try simp only [List.cons_append, List.nil_append, List.append_assoc]); repeat' first | with_reducible apply eR | with_reducible apply eA | ((with_reducible apply xA); · repeat first | with_reducible apply lH | with_reducible apply lT | with_reducible apply lL) | ((with_reducible apply xC); · repeat first | apply pH | with_reducible apply pT | with_reducible apply pL) | with_reducible assumption | with_reducible apply eS | with_reducible apply eL | exact eR)⟩ | (exfalso; first | contradiction | omega | (simp_all; done) | (simp_all; omega))
theorem c_specPullPaths (w d : Int) (a a' a'' : Option Addr) (n n' n'' c c' c'' : Nat) (xs : List Nat) (ps : List Pth) (ts : List Nat) (parts : Int) (share : Nat) (rounds : Int) (M : Mem) (h : RdF M a n xs) (h' : RdP M a' n' ps) (h'' : RdF M a'' n'' ts) (hn : n ≤ 1073741824) (hn' : n' ≤ 1073741824) (hn'' : n'' ≤ 1073741824) :
    ACall Try.prog 47 [.agg #[.int .i64 w, .int .i64 d, .slice a n c], .slice a' n' c', .slice a'' n'' c'', .int .i64 parts, .float .f32 share, .int .i64 rounds] M
      fun v M' => ∃ L, ResS (pqB w d xs.length ps ts.length parts rounds) w d (roK w d ps ts parts.toNat share xs rounds.toNat) v L ∧ M' = L ++ M := by
  obtain ⟨rfl, _⟩ := id h
  obtain ⟨rfl, _⟩ := id h'
  obtain ⟨rfl, _⟩ := id h''
  have hoc : pqB w d xs.length ps ts.length parts rounds = ((vsB w d xs.length && ppB ps && ((ts.length : Int) == (ps.length : Int)) && inB parts 1 256) && inB rounds 0 40) := by
    unfold pqB
    cases vsB w d xs.length <;> cases ppB ps <;> cases inB parts 1 256 <;> cases ((ts.length : Int) == (ps.length : Int)) <;> rfl
  skip
  refine acall_of_awp Try.func47 rfl Try.ntmps47 rfl ?_
  refine cS (cR ?_)
  first | (refine rXa rfl ?_; intro bk1) | (refine rX rfl rfl ?_; intro bk1)
  refine rO ?_; intro bk2
  refine asg rfl ?_
  refine rN ?_
  refine qN ?_
  refine cS ?_
  refine cS (cR ?_)
  refine mv rfl ?_
  refine mv rfl ?_
  refine mv rfl ?_
  refine rCq rfl (c_l06Can2 _ _ _ _ _ _ _ _ _ _ _ _ _ _ _ _ (by repeat first | with_reducible assumption | with_reducible apply List.mem_cons_self | with_reducible apply List.mem_cons_of_mem | with_reducible apply List.mem_append_right | exact List.Mem.head _) (by (first | with_reducible assumption | (apply RdP.mono; (· with_reducible assumption); · (try simp only [List.cons_append, List.nil_append, List.append_assoc]); repeat' first | with_reducible apply eR | with_reducible apply eA | ((with_reducible apply xA); · repeat first | with_reducible apply lH | with_reducible apply lT | with_reducible apply lL) | ((with_reducible apply xC); · repeat first | apply pH | with_reducible apply pT | with_reducible apply pL) | with_reducible assumption | with_reducible apply eS | with_reducible apply eL | exact eR) | (apply RdP.mono; (· (apply OwP.rdP; with_reducible assumption)); · (try simp only [List.cons_append, List.nil_append, List.append_assoc]); repeat' first | with_reducible apply eR | with_reducible apply eA | ((with_reducible apply xA); · repeat first | with_reducible apply lH | with_reducible apply lT | with_reducible apply lL) | ((with_reducible apply xC); · repeat first | apply pH | with_reducible apply pT | with_reducible apply pL) | with_reducible assumption | with_reducible apply eS | with_reducible apply eL | exact eR))) (by first | with_reducible assumption | omega | (simp only [Bool.and_eq_true, inB_iff] at *; omega))) ?_
  refine uNot rfl ?_
  refine mv rfl ?_
  refine gC rfl rfl (fun hq => ?_) (fun hq => ?_)
  · replace hq := not_t hq
    have hq' := hq; try simp only [inB_iff, Bool.and_eq_true, decide_eq_true_eq, decide_eq_false_iff_not, beq_iff_eq, beq_eq_false_iff_ne, bne_iff_ne, bne_eq_false_iff_eq, ne_eq] at hq'
    refine gU rfl rfl (bnot_f hq) ?_
    refine gU rfl rfl (bnot_f hq) ?_
    refine gU rfl rfl (bnot_f hq) ?_
    refine kT rfl (bnot_f hq) rfl ?_
    refine rN ?_
    refine qN ?_
    refine cT rfl ?_
    refine cS (cR ?_)
    refine bd0 ?_
    refine tA rfl rfl rfl (by repeat first | apply pH | with_reducible apply pT | with_reducible apply pL) (by rfl) (by rfl) ?_
    refine asg rfl ?_
    refine rN ?_
    refine qN ?_
    refine cE ?_
    refine qE ?_
    refine kC2 rfl (resOne_cell rfl (by repeat first | with_reducible assumption | with_reducible apply List.mem_cons_self | with_reducible apply List.mem_cons_of_mem | with_reducible apply List.mem_append_right | exact List.Mem.head _) rfl) (resOne_tmp rfl) rfl rfl ?_
    first | (exfalso; contradiction) | exact ⟨_, ⟨_, ResS.no (by rw [hoc, hq]; rfl), rfl⟩, (by (try simp only [List.cons_append, List.nil_append, List.append_assoc]); repeat' first | with_reducible apply eR | with_reducible apply eA | ((with_reducible apply xA); · repeat first | with_reducible apply lH | with_reducible apply lT | with_reducible apply lL) | ((with_reducible apply xC); · repeat first | apply pH | with_reducible apply pT | with_reducible apply pL) | with_reducible assumption | with_reducible apply eS | with_reducible apply eL | exact eR)⟩ | (exfalso; first | contradiction | omega | (simp_all; done) | (simp_all; omega))
  · replace hq := not_f hq
    have hq' := hq; try simp only [inB_iff, Bool.and_eq_true, decide_eq_true_eq, decide_eq_false_iff_not, beq_iff_eq, beq_eq_false_iff_ne, bne_iff_ne, bne_eq_false_iff_eq, ne_eq] at hq'
    have hq2 := hq
    simp only [Bool.and_eq_true, inB_iff, beq_iff_eq] at hq2
    obtain ⟨⟨⟨v1, v2⟩, v3⟩, v4, v5⟩ := hq2
    obtain ⟨hp1, hp2⟩ := ppB_at v2
    refine gG rfl rfl (bnot_t hq) ?_
    refine mv rfl ?_
    refine gG rfl rfl (bnot_t hq) ?_
    refine rCq rfl (c_l00In _ _ _ _) ?_
    refine gG rfl rfl (bnot_t hq) ?_
    refine uNot rfl ?_
    refine kF rfl (bnot_t hq) rfl ?_
    refine rN ?_
    refine qN ?_
    refine cC rfl (fun hr => ?_) (fun hr => ?_)
    · replace hr := not_t hr
      have hr' := hr; try simp only [inB_iff, Bool.and_eq_true, decide_eq_true_eq, decide_eq_false_iff_not, beq_iff_eq, beq_eq_false_iff_ne, bne_iff_ne, bne_eq_false_iff_eq, ne_eq] at hr'
      refine cS (cR ?_)
      refine bd0 ?_
      refine tA rfl rfl rfl (by repeat first | apply pH | with_reducible apply pT | with_reducible apply pL) (by rfl) (by rfl) ?_
      refine asg rfl ?_
      refine rN ?_
      refine qN ?_
      refine cE ?_
      refine qE ?_
      refine kC2 rfl (resOne_cell rfl (by repeat first | with_reducible assumption | with_reducible apply List.mem_cons_self | with_reducible apply List.mem_cons_of_mem | with_reducible apply List.mem_append_right | exact List.Mem.head _) rfl) (resOne_tmp rfl) rfl rfl ?_
      first | (exfalso; contradiction) | exact ⟨_, ⟨_, ResS.no (by rw [hoc, hq, hr]; rfl), rfl⟩, (by (try simp only [List.cons_append, List.nil_append, List.append_assoc]); repeat' first | with_reducible apply eR | with_reducible apply eA | ((with_reducible apply xA); · repeat first | with_reducible apply lH | with_reducible apply lT | with_reducible apply lL) | ((with_reducible apply xC); · repeat first | apply pH | with_reducible apply pT | with_reducible apply pL) | with_reducible assumption | with_reducible apply eS | with_reducible apply eL | exact eR)⟩ | (exfalso; first | contradiction | omega | (simp_all; done) | (simp_all; omega))
    · replace hr := not_f hr
      have hr' := hr; try simp only [inB_iff, Bool.and_eq_true, decide_eq_true_eq, decide_eq_false_iff_not, beq_iff_eq, beq_eq_false_iff_ne, bne_iff_ne, bne_eq_false_iff_eq, ne_eq] at hr'
      obtain ⟨r1, r2⟩ := inB_iff.1 hr
      have hB : pqB w d xs.length ps ts.length parts rounds = true := by rw [hoc, hq, hr]; rfl
      refine cK ?_
      refine qN ?_
      refine cS (cR ?_)
      refine rC rfl (c_l06Own _ _ _ _ _ _ _ _ _ (by repeat first | with_reducible assumption | with_reducible apply List.mem_cons_self | with_reducible apply List.mem_cons_of_mem | with_reducible apply List.mem_append_right | exact List.Mem.head _) (by first | with_reducible assumption | (apply RdF.mono; (· (with_reducible assumption)); · (try simp only [List.cons_append, List.nil_append, List.append_assoc]); repeat' first | with_reducible apply eR | with_reducible apply eA | ((with_reducible apply xA); · repeat first | with_reducible apply lH | with_reducible apply lT | with_reducible apply lL) | ((with_reducible apply xC); · repeat first | apply pH | with_reducible apply pT | with_reducible apply pL) | with_reducible assumption | with_reducible apply eS | with_reducible apply eL | exact eR) | (apply RdF.mono; (· (apply OwF.rdF; with_reducible assumption)); · (try simp only [List.cons_append, List.nil_append, List.append_assoc]); repeat' first | with_reducible apply eR | with_reducible apply eA | ((with_reducible apply xA); · repeat first | with_reducible apply lH | with_reducible apply lT | with_reducible apply lL) | ((with_reducible apply xC); · repeat first | apply pH | with_reducible apply pT | with_reducible apply pL) | with_reducible assumption | with_reducible apply eS | with_reducible apply eL | exact eR) | (apply RdF.ownm; (· repeat first | with_reducible assumption | with_reducible apply List.mem_cons_self | with_reducible apply List.mem_cons_of_mem | with_reducible apply List.mem_append_right | exact List.Mem.head _); · first | rfl | with_reducible assumption | omega | simp [*]) | (with_reducible apply RdF.sub; (· first | with_reducible assumption | (apply RdF.mono; (· (with_reducible assumption)); · (try simp only [List.cons_append, List.nil_append, List.append_assoc]); repeat' first | with_reducible apply eR | with_reducible apply eA | ((with_reducible apply xA); · repeat first | with_reducible apply lH | with_reducible apply lT | with_reducible apply lL) | ((with_reducible apply xC); · repeat first | apply pH | with_reducible apply pT | with_reducible apply pL) | with_reducible assumption | with_reducible apply eS | with_reducible apply eL | exact eR) | (apply RdF.mono; (· (apply OwF.rdF; with_reducible assumption)); · (try simp only [List.cons_append, List.nil_append, List.append_assoc]); repeat' first | with_reducible apply eR | with_reducible apply eA | ((with_reducible apply xA); · repeat first | with_reducible apply lH | with_reducible apply lT | with_reducible apply lL) | ((with_reducible apply xC); · repeat first | apply pH | with_reducible apply pT | with_reducible apply pL) | with_reducible assumption | with_reducible apply eS | with_reducible apply eL | exact eR) | (apply RdF.ownm; (· repeat first | with_reducible assumption | with_reducible apply List.mem_cons_self | with_reducible apply List.mem_cons_of_mem | with_reducible apply List.mem_append_right | exact List.Mem.head _); · first | rfl | with_reducible assumption | omega | simp [*])); (· first | with_reducible assumption | omega | (simp; done) | (simp; omega) | (simp only [Bool.and_eq_true, inB_iff] at *; omega)); (· first | with_reducible assumption | omega | (simp; done) | (simp; omega) | (simp only [Bool.and_eq_true, inB_iff] at *; omega)); (· first | with_reducible assumption | omega | (simp; done) | (simp; omega) | (simp only [Bool.and_eq_true, inB_iff] at *; omega))) | (with_reducible apply RdF.sub0; (· first | with_reducible assumption | (apply RdF.mono; (· (with_reducible assumption)); · (try simp only [List.cons_append, List.nil_append, List.append_assoc]); repeat' first | with_reducible apply eR | with_reducible apply eA | ((with_reducible apply xA); · repeat first | with_reducible apply lH | with_reducible apply lT | with_reducible apply lL) | ((with_reducible apply xC); · repeat first | apply pH | with_reducible apply pT | with_reducible apply pL) | with_reducible assumption | with_reducible apply eS | with_reducible apply eL | exact eR) | (apply RdF.mono; (· (apply OwF.rdF; with_reducible assumption)); · (try simp only [List.cons_append, List.nil_append, List.append_assoc]); repeat' first | with_reducible apply eR | with_reducible apply eA | ((with_reducible apply xA); · repeat first | with_reducible apply lH | with_reducible apply lT | with_reducible apply lL) | ((with_reducible apply xC); · repeat first | apply pH | with_reducible apply pT | with_reducible apply pL) | with_reducible assumption | with_reducible apply eS | with_reducible apply eL | exact eR) | (apply RdF.ownm; (· repeat first | with_reducible assumption | with_reducible apply List.mem_cons_self | with_reducible apply List.mem_cons_of_mem | with_reducible apply List.mem_append_right | exact List.Mem.head _); · first | rfl | with_reducible assumption | omega | simp [*])); (· first | with_reducible assumption | omega | (simp; done) | (simp; omega) | (simp only [Bool.and_eq_true, inB_iff] at *; omega)); (· first | with_reducible assumption | omega | (simp; done) | (simp; omega) | (simp only [Bool.and_eq_true, inB_iff] at *; omega)))) (by first | with_reducible assumption | omega | (simp only [Bool.and_eq_true, inB_iff] at *; omega))) ?_
      rintro _ _ ⟨lk3, ⟨sv3, rfl, how3⟩, rfl⟩
      obtain ⟨ad3, cn3, rfl, hrd3⟩ := how3.rd
      have hcn3 := how3.capl
      refine ⟨fun _ => eL eR, ?_⟩
      refine rO ?_; intro bk3
      refine tA rfl rfl rfl (by repeat first | apply pH | with_reducible apply pT | with_reducible apply pL) (by rfl) (by rfl) ?_
      refine rN ?_
      refine qN ?_
      refine cS ?_
      refine cS (cR ?_)
      refine asg rfl ?_
      refine rN ?_
      refine qN ?_
      refine cB ?_
      refine cL3 (fun (k : Nat) (s : Value) (L : Mem) => [(15, .int .i64 (k : Nat))]) [(1, _), (2, _), (3, _), (4, _), (5, _), (12, _), (14, _)] (fun (k : Nat) (s : Value) (L : Mem) => (bk3, ⟨[.int .i64 w, .int .i64 d, s], true⟩) :: (L ++ ((bk2, ⟨[.int .i64 0, .int .i64 0, .slice none 0 0], true⟩) :: (bk1, ⟨[.int .i64 w, .int .i64 d, .slice a xs.length c], true⟩) :: M))) (fun (k : Nat) (s : Value) (L : Mem) => rounds.toNat - k) (fun (k : Nat) (s : Value) (L : Mem) => k ≤ rounds.toNat ∧ OwF L s (roK w d ps ts parts.toNat share xs k)) (0) (_) (lk3) (by repeat first | exact Sub.nil _ | refine Sub.cons rfl ?_) (by (try simp only [List.cons_append, List.nil_append, List.append_assoc]); repeat' first | with_reducible apply eR | with_reducible apply eA | ((with_reducible apply xA); · repeat first | with_reducible apply lH | with_reducible apply lT | with_reducible apply lL) | ((with_reducible apply xC); · repeat first | apply pH | with_reducible apply pT | with_reducible apply pL) | with_reducible assumption | with_reducible apply eS | with_reducible apply eL | exact eR) (by exact ⟨Nat.zero_le _, how3⟩) ?_
      rintro k s L ⟨hk, hz⟩
      refine wT (T' := [(15, _), (1, _), (2, _), (3, _), (4, _), (5, _), (12, _), (14, _)]) rfl ?_
      refine cS ?_
      refine cS (cR ?_)
      refine mv rfl ?_
      refine mv rfl ?_
      refine bLss rfl rfl ?_
      refine rN ?_
      refine qN ?_
      refine cC rfl (fun c1 => ?_) (fun c1 => ?_)
      · have c1' := c1; try simp only [inB_iff, Bool.and_eq_true, decide_eq_true_eq, decide_eq_false_iff_not, beq_iff_eq, beq_eq_false_iff_ne, bne_iff_ne, bne_eq_false_iff_eq, ne_eq] at c1'
        refine cK ?_
        refine qN ?_
        refine cS ?_
        refine cB ?_
        refine cS (cR ?_)
        refine asg rfl ?_
        refine rN ?_
        refine qN ?_
        refine cB ?_
        refine cL3 (fun (i : Nat) (s : Value) (L : Mem) => [(16, .int .i64 (i : Nat))]) [(1, _), (2, _), (3, _), (4, _), (5, _), (12, _), (14, _), (15, _)] (fun (i : Nat) (s : Value) (L : Mem) => (bk3, ⟨[.int .i64 w, .int .i64 d, s], true⟩) :: (L ++ ((bk2, ⟨[.int .i64 0, .int .i64 0, .slice none 0 0], true⟩) :: (bk1, ⟨[.int .i64 w, .int .i64 d, .slice a xs.length c], true⟩) :: M))) (fun (i : Nat) (s : Value) (L : Mem) => ps.length - i) (fun (i : Nat) (s : Value) (L : Mem) => i ≤ ps.length ∧ OwF L s (roS w d ps ts parts.toNat share (roK w d ps ts parts.toNat share xs k) i)) (0) (_) (L) (by repeat first | exact Sub.nil _ | refine Sub.cons rfl ?_) (by (try simp only [List.cons_append, List.nil_append, List.append_assoc]); repeat' first | with_reducible apply eR | with_reducible apply eA | ((with_reducible apply xA); · repeat first | with_reducible apply lH | with_reducible apply lT | with_reducible apply lL) | ((with_reducible apply xC); · repeat first | apply pH | with_reducible apply pT | with_reducible apply pL) | with_reducible assumption | with_reducible apply eS | with_reducible apply eL | exact eR) (by exact ⟨Nat.zero_le _, hz⟩) ?_
        rintro i s L ⟨hi, hy⟩
        refine wT (T' := [(16, _), (1, _), (2, _), (3, _), (4, _), (5, _), (12, _), (14, _), (15, _)]) rfl ?_
        refine cS ?_
        refine cS (cR ?_)
        refine mv rfl ?_
        refine mv rfl ?_
        refine ln rfl ?_
        refine bLss rfl rfl ?_
        refine rN ?_
        refine qN ?_
        obtain ⟨a7, c7, rfl, hrd7⟩ := hy.rd
        refine cC rfl (fun c2 => ?_) (fun c2 => ?_)
        · have c2' := c2; try simp only [inB_iff, Bool.and_eq_true, decide_eq_true_eq, decide_eq_false_iff_not, beq_iff_eq, beq_eq_false_iff_ne, bne_iff_ne, bne_eq_false_iff_eq, ne_eq] at c2'
          have hi2 : i < ps.length := by omega
          have hpi := hp2 i hi2
          have hll : (roS w d ps ts parts.toNat share (roK w d ps ts parts.toNat share xs k) i).length = xs.length := (roS_len i).trans (roK_len k)
          have hvl : vsB w d (roS w d ps ts parts.toNat share (roK w d ps ts parts.toNat share xs k) i).length = true := by rw [hll]; exact v1
          refine cK ?_
          refine qN ?_
          refine cS ?_
          refine cB ?_
          refine cD [] [(0, true), (1, true), (2, true), (3, true), (4, true), (5, true), (6, true), (7, true), (8, false), (9, false), (10, false)] (by repeat first | exact fineT | exact fineL | exact fineLQ1 | exact fineLQ2 | exact fineLQ3 | exact fineLQ4 | exact fineLQ5 | exact fineLQ6 | exact fineR | refine fineB ?_) (by kernel_rfl) ?_
          simp only [pick, List.getElem?_toArray, List.getElem?_cons_zero, List.getElem?_cons_succ]
          refine mv rfl ?_
          refine mv rfl ?_
          first
            | refine ixP rfl rfl (by first | (apply RdP.aok; with_reducible assumption) | exact AOk.own) (by first | with_reducible assumption | omega) ?_
            | refine ixR rfl rfl (by first | (apply RdR.aok; with_reducible assumption) | exact AOk.own) (by first | with_reducible assumption | omega) ?_
          refine mv rfl ?_
          refine mv rfl ?_
          first
            | refine ixN rfl rfl (by first | exact AOk.own | (apply RdI.aok; with_reducible assumption) | (apply RdW.aok; with_reducible assumption) | (apply RdI.aok; apply OwI.rdI; with_reducible assumption) | with_reducible assumption | (apply RdF.aok; with_reducible assumption) | (apply RdF.aok; apply OwF.rdF; with_reducible assumption)) (by first | with_reducible assumption | omega) ?_
            | refine ixI rfl rfl (by first | exact AOk.own | (apply RdI.aok; with_reducible assumption) | (apply RdW.aok; with_reducible assumption) | (apply RdI.aok; apply OwI.rdI; with_reducible assumption) | with_reducible assumption | (apply RdF.aok; with_reducible assumption) | (apply RdF.aok; apply OwF.rdF; with_reducible assumption)) (by omega) (by omega) ?_
          first
            | refine ldF rfl (by first | with_reducible assumption | (apply RdF.mono; (· (with_reducible assumption)); · (try simp only [List.cons_append, List.nil_append, List.append_assoc]); repeat' first | with_reducible apply eR | with_reducible apply eA | ((with_reducible apply xA); · repeat first | with_reducible apply lH | with_reducible apply lT | with_reducible apply lL) | ((with_reducible apply xC); · repeat first | apply pH | with_reducible apply pT | with_reducible apply pL) | with_reducible assumption | with_reducible apply eS | with_reducible apply eL | exact eR) | (apply RdF.mono; (· (apply OwF.rdF; with_reducible assumption)); · (try simp only [List.cons_append, List.nil_append, List.append_assoc]); repeat' first | with_reducible apply eR | with_reducible apply eA | ((with_reducible apply xA); · repeat first | with_reducible apply lH | with_reducible apply lT | with_reducible apply lL) | ((with_reducible apply xC); · repeat first | apply pH | with_reducible apply pT | with_reducible apply pL) | with_reducible assumption | with_reducible apply eS | with_reducible apply eL | exact eR) | (apply RdF.ownm; (· repeat first | with_reducible assumption | with_reducible apply List.mem_cons_self | with_reducible apply List.mem_cons_of_mem | with_reducible apply List.mem_append_right | exact List.Mem.head _); · first | rfl | with_reducible assumption | omega | simp [*]) | (with_reducible apply RdF.sub; (· first | with_reducible assumption | (apply RdF.mono; (· (with_reducible assumption)); · (try simp only [List.cons_append, List.nil_append, List.append_assoc]); repeat' first | with_reducible apply eR | with_reducible apply eA | ((with_reducible apply xA); · repeat first | with_reducible apply lH | with_reducible apply lT | with_reducible apply lL) | ((with_reducible apply xC); · repeat first | apply pH | with_reducible apply pT | with_reducible apply pL) | with_reducible assumption | with_reducible apply eS | with_reducible apply eL | exact eR) | (apply RdF.mono; (· (apply OwF.rdF; with_reducible assumption)); · (try simp only [List.cons_append, List.nil_append, List.append_assoc]); repeat' first | with_reducible apply eR | with_reducible apply eA | ((with_reducible apply xA); · repeat first | with_reducible apply lH | with_reducible apply lT | with_reducible apply lL) | ((with_reducible apply xC); · repeat first | apply pH | with_reducible apply pT | with_reducible apply pL) | with_reducible assumption | with_reducible apply eS | with_reducible apply eL | exact eR) | (apply RdF.ownm; (· repeat first | with_reducible assumption | with_reducible apply List.mem_cons_self | with_reducible apply List.mem_cons_of_mem | with_reducible apply List.mem_append_right | exact List.Mem.head _); · first | rfl | with_reducible assumption | omega | simp [*])); (· first | with_reducible assumption | omega | (simp; done) | (simp; omega) | (simp only [Bool.and_eq_true, inB_iff] at *; omega)); (· first | with_reducible assumption | omega | (simp; done) | (simp; omega) | (simp only [Bool.and_eq_true, inB_iff] at *; omega)); (· first | with_reducible assumption | omega | (simp; done) | (simp; omega) | (simp only [Bool.and_eq_true, inB_iff] at *; omega))) | (with_reducible apply RdF.sub0; (· first | with_reducible assumption | (apply RdF.mono; (· (with_reducible assumption)); · (try simp only [List.cons_append, List.nil_append, List.append_assoc]); repeat' first | with_reducible apply eR | with_reducible apply eA | ((with_reducible apply xA); · repeat first | with_reducible apply lH | with_reducible apply lT | with_reducible apply lL) | ((with_reducible apply xC); · repeat first | apply pH | with_reducible apply pT | with_reducible apply pL) | with_reducible assumption | with_reducible apply eS | with_reducible apply eL | exact eR) | (apply RdF.mono; (· (apply OwF.rdF; with_reducible assumption)); · (try simp only [List.cons_append, List.nil_append, List.append_assoc]); repeat' first | with_reducible apply eR | with_reducible apply eA | ((with_reducible apply xA); · repeat first | with_reducible apply lH | with_reducible apply lT | with_reducible apply lL) | ((with_reducible apply xC); · repeat first | apply pH | with_reducible apply pT | with_reducible apply pL) | with_reducible assumption | with_reducible apply eS | with_reducible apply eL | exact eR) | (apply RdF.ownm; (· repeat first | with_reducible assumption | with_reducible apply List.mem_cons_self | with_reducible apply List.mem_cons_of_mem | with_reducible apply List.mem_append_right | exact List.Mem.head _); · first | rfl | with_reducible assumption | omega | simp [*])); (· first | with_reducible assumption | omega | (simp; done) | (simp; omega) | (simp only [Bool.and_eq_true, inB_iff] at *; omega)); (· first | with_reducible assumption | omega | (simp; done) | (simp; omega) | (simp only [Bool.and_eq_true, inB_iff] at *; omega)))) (by first | with_reducible assumption | omega) ?_
            | refine ldI rfl (by first | with_reducible assumption | (apply RdI.mono; (· (with_reducible assumption)); · (try simp only [List.cons_append, List.nil_append, List.append_assoc]); repeat' first | with_reducible apply eR | with_reducible apply eA | ((with_reducible apply xA); · repeat first | with_reducible apply lH | with_reducible apply lT | with_reducible apply lL) | ((with_reducible apply xC); · repeat first | apply pH | with_reducible apply pT | with_reducible apply pL) | with_reducible assumption | with_reducible apply eS | with_reducible apply eL | exact eR) | (apply RdI.mono; (· (apply OwI.rdI; with_reducible assumption)); · (try simp only [List.cons_append, List.nil_append, List.append_assoc]); repeat' first | with_reducible apply eR | with_reducible apply eA | ((with_reducible apply xA); · repeat first | with_reducible apply lH | with_reducible apply lT | with_reducible apply lL) | ((with_reducible apply xC); · repeat first | apply pH | with_reducible apply pT | with_reducible apply pL) | with_reducible assumption | with_reducible apply eS | with_reducible apply eL | exact eR)) (by first | with_reducible assumption | omega) ?_
            | refine ldV rfl (by (first | with_reducible assumption | (apply RdW.mono; (· with_reducible assumption); · (try simp only [List.cons_append, List.nil_append, List.append_assoc]); repeat' first | with_reducible apply eR | with_reducible apply eA | ((with_reducible apply xA); · repeat first | with_reducible apply lH | with_reducible apply lT | with_reducible apply lL) | ((with_reducible apply xC); · repeat first | apply pH | with_reducible apply pT | with_reducible apply pL) | with_reducible assumption | with_reducible apply eS | with_reducible apply eL | exact eR))) (by first | with_reducible assumption | omega) (by with_reducible assumption) rfl ?_
          refine mv rfl ?_
          refine mv rfl ?_
          refine rC rfl (c_l06Pull _ _ _ _ _ _ _ _ _ _ _ _ _ _ _ (by repeat first | with_reducible assumption | with_reducible apply List.mem_cons_self | with_reducible apply List.mem_cons_of_mem | with_reducible apply List.mem_append_right | exact List.Mem.head _) (by first | with_reducible assumption | (apply PAt.mono; (· with_reducible assumption); · (try simp only [List.cons_append, List.nil_append, List.append_assoc]); repeat' first | with_reducible apply eR | with_reducible apply eA | ((with_reducible apply xA); · repeat first | with_reducible apply lH | with_reducible apply lT | with_reducible apply lL) | ((with_reducible apply xC); · repeat first | apply pH | with_reducible apply pT | with_reducible apply pL) | with_reducible assumption | with_reducible apply eS | with_reducible apply eL | exact eR) | (refine PAt.blk (by repeat first | with_reducible assumption | with_reducible apply List.mem_cons_self | with_reducible apply List.mem_cons_of_mem | with_reducible apply List.mem_append_right | exact List.Mem.head _)) | (apply RdP.pat; (· (first | with_reducible assumption | (apply RdP.mono; (· with_reducible assumption); · (try simp only [List.cons_append, List.nil_append, List.append_assoc]); repeat' first | with_reducible apply eR | with_reducible apply eA | ((with_reducible apply xA); · repeat first | with_reducible apply lH | with_reducible apply lT | with_reducible apply lL) | ((with_reducible apply xC); · repeat first | apply pH | with_reducible apply pT | with_reducible apply pL) | with_reducible assumption | with_reducible apply eS | with_reducible apply eL | exact eR) | (apply RdP.mono; (· (apply OwP.rdP; with_reducible assumption)); · (try simp only [List.cons_append, List.nil_append, List.append_assoc]); repeat' first | with_reducible apply eR | with_reducible apply eA | ((with_reducible apply xA); · repeat first | with_reducible apply lH | with_reducible apply lT | with_reducible apply lL) | ((with_reducible apply xC); · repeat first | apply pH | with_reducible apply pT | with_reducible apply pL) | with_reducible assumption | with_reducible apply eS | with_reducible apply eL | exact eR))); · first | with_reducible assumption | omega)) (by first | with_reducible assumption | (apply RdF.mono; (· (with_reducible assumption)); · (try simp only [List.cons_append, List.nil_append, List.append_assoc]); repeat' first | with_reducible apply eR | with_reducible apply eA | ((with_reducible apply xA); · repeat first | with_reducible apply lH | with_reducible apply lT | with_reducible apply lL) | ((with_reducible apply xC); · repeat first | apply pH | with_reducible apply pT | with_reducible apply pL) | with_reducible assumption | with_reducible apply eS | with_reducible apply eL | exact eR) | (apply RdF.mono; (· (apply OwF.rdF; with_reducible assumption)); · (try simp only [List.cons_append, List.nil_append, List.append_assoc]); repeat' first | with_reducible apply eR | with_reducible apply eA | ((with_reducible apply xA); · repeat first | with_reducible apply lH | with_reducible apply lT | with_reducible apply lL) | ((with_reducible apply xC); · repeat first | apply pH | with_reducible apply pT | with_reducible apply pL) | with_reducible assumption | with_reducible apply eS | with_reducible apply eL | exact eR) | (apply RdF.ownm; (· repeat first | with_reducible assumption | with_reducible apply List.mem_cons_self | with_reducible apply List.mem_cons_of_mem | with_reducible apply List.mem_append_right | exact List.Mem.head _); · first | rfl | with_reducible assumption | omega | simp [*]) | (with_reducible apply RdF.sub; (· first | with_reducible assumption | (apply RdF.mono; (· (with_reducible assumption)); · (try simp only [List.cons_append, List.nil_append, List.append_assoc]); repeat' first | with_reducible apply eR | with_reducible apply eA | ((with_reducible apply xA); · repeat first | with_reducible apply lH | with_reducible apply lT | with_reducible apply lL) | ((with_reducible apply xC); · repeat first | apply pH | with_reducible apply pT | with_reducible apply pL) | with_reducible assumption | with_reducible apply eS | with_reducible apply eL | exact eR) | (apply RdF.mono; (· (apply OwF.rdF; with_reducible assumption)); · (try simp only [List.cons_append, List.nil_append, List.append_assoc]); repeat' first | with_reducible apply eR | with_reducible apply eA | ((with_reducible apply xA); · repeat first | with_reducible apply lH | with_reducible apply lT | with_reducible apply lL) | ((with_reducible apply xC); · repeat first | apply pH | with_reducible apply pT | with_reducible apply pL) | with_reducible assumption | with_reducible apply eS | with_reducible apply eL | exact eR) | (apply RdF.ownm; (· repeat first | with_reducible assumption | with_reducible apply List.mem_cons_self | with_reducible apply List.mem_cons_of_mem | with_reducible apply List.mem_append_right | exact List.Mem.head _); · first | rfl | with_reducible assumption | omega | simp [*])); (· first | with_reducible assumption | omega | (simp; done) | (simp; omega) | (simp only [Bool.and_eq_true, inB_iff] at *; omega)); (· first | with_reducible assumption | omega | (simp; done) | (simp; omega) | (simp only [Bool.and_eq_true, inB_iff] at *; omega)); (· first | with_reducible assumption | omega | (simp; done) | (simp; omega) | (simp only [Bool.and_eq_true, inB_iff] at *; omega))) | (with_reducible apply RdF.sub0; (· first | with_reducible assumption | (apply RdF.mono; (· (with_reducible assumption)); · (try simp only [List.cons_append, List.nil_append, List.append_assoc]); repeat' first | with_reducible apply eR | with_reducible apply eA | ((with_reducible apply xA); · repeat first | with_reducible apply lH | with_reducible apply lT | with_reducible apply lL) | ((with_reducible apply xC); · repeat first | apply pH | with_reducible apply pT | with_reducible apply pL) | with_reducible assumption | with_reducible apply eS | with_reducible apply eL | exact eR) | (apply RdF.mono; (· (apply OwF.rdF; with_reducible assumption)); · (try simp only [List.cons_append, List.nil_append, List.append_assoc]); repeat' first | with_reducible apply eR | with_reducible apply eA | ((with_reducible apply xA); · repeat first | with_reducible apply lH | with_reducible apply lT | with_reducible apply lL) | ((with_reducible apply xC); · repeat first | apply pH | with_reducible apply pT | with_reducible apply pL) | with_reducible assumption | with_reducible apply eS | with_reducible apply eL | exact eR) | (apply RdF.ownm; (· repeat first | with_reducible assumption | with_reducible apply List.mem_cons_self | with_reducible apply List.mem_cons_of_mem | with_reducible apply List.mem_append_right | exact List.Mem.head _); · first | rfl | with_reducible assumption | omega | simp [*])); (· first | with_reducible assumption | omega | (simp; done) | (simp; omega) | (simp only [Bool.and_eq_true, inB_iff] at *; omega)); (· first | with_reducible assumption | omega | (simp; done) | (simp; omega) | (simp only [Bool.and_eq_true, inB_iff] at *; omega)))) (by first | with_reducible assumption | omega | (simp only [Bool.and_eq_true, inB_iff] at *; omega)) (by assumption) (by assumption) (by omega)) ?_
          rintro _ _ ⟨lk5, ⟨sv5, rfl, how5⟩, rfl⟩
          obtain ⟨ad5, cn5, rfl, hrd5⟩ := how5.rd
          have hcn5 := how5.capl
          refine ⟨fun _ => eL eR, ?_⟩
          refine tA rfl rfl rfl (by repeat first | apply pH | with_reducible apply pT | with_reducible apply pL) (by rfl) (by rfl) ?_
          refine rN ?_
          refine qBN ?_
          refine qN ?_
          refine cR ?_
          refine mv rfl ?_
          first | refine rAn (b := 1) rfl rfl (by omega) ?_ | refine rA rfl rfl (by omega) (by omega) ?_ | refine bAdd rfl rfl ?_
          refine asg rfl ?_
          refine rN ?_
          refine qL3 (i + 1) (_) (_) ?_ (by omega) (by repeat first | exact Sub.nil _ | refine Sub.cons rfl ?_) (by (try simp only [List.cons_append, List.nil_append, List.append_assoc]); repeat' first | with_reducible apply eR | with_reducible apply eA | ((with_reducible apply xA); · repeat first | with_reducible apply lH | with_reducible apply lT | with_reducible apply lL) | ((with_reducible apply xC); · repeat first | apply pH | with_reducible apply pT | with_reducible apply pL) | with_reducible assumption | with_reducible apply eS | with_reducible apply eL | exact eR)
          exact ⟨by omega, by assumption⟩
        · have c2' := c2; try simp only [inB_iff, Bool.and_eq_true, decide_eq_true_eq, decide_eq_false_iff_not, beq_iff_eq, beq_eq_false_iff_ne, bne_iff_ne, bne_eq_false_iff_eq, ne_eq] at c2'
          refine cX ?_
          refine qX ?_
          refine qL3X ?_
          refine qBX ?_
          refine qBN ?_
          refine qN ?_
          refine cR ?_
          refine mv rfl ?_
          first | refine rAn (b := 1) rfl rfl (by omega) ?_ | refine rA rfl rfl (by omega) (by omega) ?_ | refine bAdd rfl rfl ?_
          refine asg rfl ?_
          refine rN ?_
          refine qL3 (k + 1) (_) (L) ?_ (by omega) (by repeat first | exact Sub.nil _ | refine Sub.cons rfl ?_) (by (try simp only [List.cons_append, List.nil_append, List.append_assoc]); repeat' first | with_reducible apply eR | with_reducible apply eA | ((with_reducible apply xA); · repeat first | with_reducible apply lH | with_reducible apply lT | with_reducible apply lL) | ((with_reducible apply xC); · repeat first | apply pH | with_reducible apply pT | with_reducible apply pL) | with_reducible assumption | with_reducible apply eS | with_reducible apply eL | exact eR)
          have : i = ps.length := by omega
          subst this
          exact ⟨by omega, hy⟩
      · have c1' := c1; try simp only [inB_iff, Bool.and_eq_true, decide_eq_true_eq, decide_eq_false_iff_not, beq_iff_eq, beq_eq_false_iff_ne, bne_iff_ne, bne_eq_false_iff_eq, ne_eq] at c1'
        have : k = rounds.toNat := by omega
        subst this
        obtain ⟨a7, c7, rfl, hrd7⟩ := hz.rd
        refine cX ?_
        refine qX ?_
        refine qL3X ?_
        refine qBX ?_
        refine qN ?_
        refine cS (cR ?_)
        refine rLA rfl (by repeat first | with_reducible assumption | with_reducible apply List.mem_cons_self | with_reducible apply List.mem_cons_of_mem | with_reducible apply List.mem_append_right | exact List.Mem.head _) rfl rfl ?_
        refine tA rfl rfl rfl (by repeat first | apply pH | with_reducible apply pT | with_reducible apply pL) (by rfl) (by rfl) ?_
        refine asg rfl ?_
        refine rN ?_
        refine qN ?_
        refine cE ?_
        refine kC2 rfl (resOne_cell rfl (by repeat first | with_reducible assumption | with_reducible apply List.mem_cons_self | with_reducible apply List.mem_cons_of_mem | with_reducible apply List.mem_append_right | exact List.Mem.head _) rfl) (resOne_tmp rfl) rfl rfl ?_
        first | (exfalso; contradiction) | exact ⟨_, ⟨_, ResS.yes hB hz, rfl⟩, (by (try simp only [List.cons_append, List.nil_append, List.append_assoc]); repeat' first | with_reducible apply eR | with_reducible apply eA | ((with_reducible apply xA); · repeat first | with_reducible apply lH | with_reducible apply lT | with_reducible apply lL) | ((with_reducible apply xC); · repeat first | apply pH | with_reducible apply pT | with_reducible apply pL) | with_reducible assumption | with_reducible apply eS | with_reducible apply eL | exact eR)⟩ | (exfalso; first | contradiction | omega | (simp_all; done) | (simp_all; omega))
theorem c_implPullPaths (w d : Int) (a a' a'' : Option Addr) (n n' n'' c c' c'' : Nat) (xs : List Nat) (ps : List Pth) (ts : List Nat) (parts : Int) (share : Nat) (rounds : Int) (M : Mem) (h : RdF M a n xs) (h' : RdP M a' n' ps) (h'' : RdF M a'' n'' ts) (hn : n ≤ 1073741824) (hn' : n' ≤ 1073741824) (hn'' : n'' ≤ 1073741824) :
    ACall Try.prog 49 [.agg #[.int .i64 w, .int .i64 d, .slice a n c], .slice a' n' c', .slice a'' n'' c'', .int .i64 parts, .float .f32 share, .int .i64 rounds] M
      fun v M' => ∃ L, ResS (pqB w d xs.length ps ts.length parts rounds) w d (roK w d ps ts parts.toNat share xs rounds.toNat) v L ∧ M' = L ++ M := by
  obtain ⟨rfl, _⟩ := id h
  obtain ⟨rfl, _⟩ := id h'
  obtain ⟨rfl, _⟩ := id h''
  have hoc : pqB w d xs.length ps ts.length parts rounds = (vsB w d xs.length && (ppB ps && inB parts 1 256) && ((ts.length : Int) == (ps.length : Int)) && inB rounds 0 40) := by
    unfold pqB
    cases vsB w d xs.length <;> cases ppB ps <;> cases inB parts 1 256 <;> cases ((ts.length : Int) == (ps.length : Int)) <;> rfl
  refine acall_of_awp Try.func49 rfl Try.ntmps49 rfl ?_
  refine cS (cR ?_)
  first | (refine rXa rfl ?_; intro bk1) | (refine rX rfl rfl ?_; intro bk1)
  refine rO ?_; intro bk2
  refine asg rfl ?_
  refine rN ?_
  refine qN ?_
  refine cS ?_
  refine cS (cR ?_)
  refine rLA rfl (by repeat first | with_reducible assumption | with_reducible apply List.mem_cons_self | with_reducible apply List.mem_cons_of_mem | with_reducible apply List.mem_append_right | exact List.Mem.head _) rfl rfl ?_
  refine rCq rfl (c_implValidSection _ _ _ _ _ _) ?_
  refine uNot rfl ?_
  refine mv rfl ?_
  refine gC rfl rfl (fun c1 => ?_) (fun c1 => ?_)
  · replace c1 := not_t c1
    have c1' := c1; try simp only [inB_iff, Bool.and_eq_true, decide_eq_true_eq, decide_eq_false_iff_not, beq_iff_eq, beq_eq_false_iff_ne, bne_iff_ne, bne_eq_false_iff_eq, ne_eq] at c1'
    refine gU rfl rfl (bnot_f c1) ?_
    refine gU rfl rfl (bnot_f c1) ?_
    refine gU rfl rfl (bnot_f c1) ?_
    refine gU rfl rfl (bnot_f c1) ?_
    refine kT rfl (bnot_f c1) rfl ?_
    refine mv rfl ?_
    refine gU rfl rfl rfl ?_
    refine gU rfl rfl rfl ?_
    refine gU rfl rfl rfl ?_
    refine gU rfl rfl rfl ?_
    refine gU rfl rfl rfl ?_
    refine kT rfl rfl rfl ?_
    refine mv rfl ?_
    refine gU rfl rfl rfl ?_
    refine gU rfl rfl rfl ?_
    refine gU rfl rfl rfl ?_
    refine kT rfl rfl rfl ?_
    refine rN ?_
    refine qN ?_
    refine cT rfl ?_
    refine cS (cR ?_)
    refine bd0 ?_
    refine tA rfl rfl rfl (by repeat first | apply pH | with_reducible apply pT | with_reducible apply pL) (by rfl) (by rfl) ?_
    refine asg rfl ?_
    refine rN ?_
    refine qN ?_
    refine cE ?_
    refine qE ?_
    refine kC2 rfl (resOne_cell rfl (by repeat first | with_reducible assumption | with_reducible apply List.mem_cons_self | with_reducible apply List.mem_cons_of_mem | with_reducible apply List.mem_append_right | exact List.Mem.head _) rfl) (resOne_tmp rfl) rfl rfl ?_
    first | (exfalso; contradiction) | exact ⟨_, ⟨_, ResS.no (by first | (rw [hoc, c1]; rfl) | (rw [hoc, c1, c2]; rfl) | (rw [hoc, c1, c2, beq_false_of_ne c3']; rfl) | (rw [hoc, c4, Bool.and_false]; done)), rfl⟩, (by (try simp only [List.cons_append, List.nil_append, List.append_assoc]); repeat' first | with_reducible apply eR | with_reducible apply eA | ((with_reducible apply xA); · repeat first | with_reducible apply lH | with_reducible apply lT | with_reducible apply lL) | ((with_reducible apply xC); · repeat first | apply pH | with_reducible apply pT | with_reducible apply pL) | with_reducible assumption | with_reducible apply eS | with_reducible apply eL | exact eR)⟩ | (exfalso; first | contradiction | omega | (simp_all; done) | (simp_all; omega))
  replace c1 := not_f c1
  have c1' := c1; try simp only [inB_iff, Bool.and_eq_true, decide_eq_true_eq, decide_eq_false_iff_not, beq_iff_eq, beq_eq_false_iff_ne, bne_iff_ne, bne_eq_false_iff_eq, ne_eq] at c1'
  refine gG rfl rfl (bnot_t c1) ?_
  refine mv rfl ?_
  refine gG rfl rfl (bnot_t c1) ?_
  refine mv rfl ?_
  refine gG rfl rfl (bnot_t c1) ?_
  refine rCq rfl (c_arePaths _ _ _ _ _ _ (by (first | with_reducible assumption | (apply RdP.mono; (· with_reducible assumption); · (try simp only [List.cons_append, List.nil_append, List.append_assoc]); repeat' first | with_reducible apply eR | with_reducible apply eA | ((with_reducible apply xA); · repeat first | with_reducible apply lH | with_reducible apply lT | with_reducible apply lL) | ((with_reducible apply xC); · repeat first | apply pH | with_reducible apply pT | with_reducible apply pL) | with_reducible assumption | with_reducible apply eS | with_reducible apply eL | exact eR) | (apply RdP.mono; (· (apply OwP.rdP; with_reducible assumption)); · (try simp only [List.cons_append, List.nil_append, List.append_assoc]); repeat' first | with_reducible apply eR | with_reducible apply eA | ((with_reducible apply xA); · repeat first | with_reducible apply lH | with_reducible apply lT | with_reducible apply lL) | ((with_reducible apply xC); · repeat first | apply pH | with_reducible apply pT | with_reducible apply pL) | with_reducible assumption | with_reducible apply eS | with_reducible apply eL | exact eR))) (by first | with_reducible assumption | omega | (simp only [Bool.and_eq_true, inB_iff] at *; omega))) ?_
  refine gG rfl rfl (bnot_t c1) ?_
  refine uNot rfl ?_
  refine kF rfl (bnot_t c1) rfl ?_
  refine mv rfl ?_
  refine gC rfl rfl (fun c2 => ?_) (fun c2 => ?_)
  · replace c2 := not_t c2
    have c2' := c2; try simp only [inB_iff, Bool.and_eq_true, decide_eq_true_eq, decide_eq_false_iff_not, beq_iff_eq, beq_eq_false_iff_ne, bne_iff_ne, bne_eq_false_iff_eq, ne_eq] at c2'
    refine gU rfl rfl (bnot_f c2) ?_
    refine gU rfl rfl (bnot_f c2) ?_
    refine gU rfl rfl (bnot_f c2) ?_
    refine gU rfl rfl (bnot_f c2) ?_
    refine gU rfl rfl (bnot_f c2) ?_
    refine kT rfl (bnot_f c2) rfl ?_
    refine mv rfl ?_
    refine gU rfl rfl rfl ?_
    refine gU rfl rfl rfl ?_
    refine gU rfl rfl rfl ?_
    refine kT rfl rfl rfl ?_
    refine rN ?_
    refine qN ?_
    refine cT rfl ?_
    refine cS (cR ?_)
    refine bd0 ?_
    refine tA rfl rfl rfl (by repeat first | apply pH | with_reducible apply pT | with_reducible apply pL) (by rfl) (by rfl) ?_
    refine asg rfl ?_
    refine rN ?_
    refine qN ?_
    refine cE ?_
    refine qE ?_
    refine kC2 rfl (resOne_cell rfl (by repeat first | with_reducible assumption | with_reducible apply List.mem_cons_self | with_reducible apply List.mem_cons_of_mem | with_reducible apply List.mem_append_right | exact List.Mem.head _) rfl) (resOne_tmp rfl) rfl rfl ?_
    first | (exfalso; contradiction) | exact ⟨_, ⟨_, ResS.no (by first | (rw [hoc, c1]; rfl) | (rw [hoc, c1, c2]; rfl) | (rw [hoc, c1, c2, beq_false_of_ne c3']; rfl) | (rw [hoc, c4, Bool.and_false]; done)), rfl⟩, (by (try simp only [List.cons_append, List.nil_append, List.append_assoc]); repeat' first | with_reducible apply eR | with_reducible apply eA | ((with_reducible apply xA); · repeat first | with_reducible apply lH | with_reducible apply lT | with_reducible apply lL) | ((with_reducible apply xC); · repeat first | apply pH | with_reducible apply pT | with_reducible apply pL) | with_reducible assumption | with_reducible apply eS | with_reducible apply eL | exact eR)⟩ | (exfalso; first | contradiction | omega | (simp_all; done) | (simp_all; omega))
  replace c2 := not_f c2
  have c2' := c2; try simp only [inB_iff, Bool.and_eq_true, decide_eq_true_eq, decide_eq_false_iff_not, beq_iff_eq, beq_eq_false_iff_ne, bne_iff_ne, bne_eq_false_iff_eq, ne_eq] at c2'
  refine gG rfl rfl (bnot_t c2) ?_
  refine mv rfl ?_
  refine gG rfl rfl (bnot_t c2) ?_
  refine ln rfl ?_
  refine gG rfl rfl (bnot_t c2) ?_
  refine mv rfl ?_
  refine gG rfl rfl (bnot_t c2) ?_
  refine ln rfl ?_
  refine gG rfl rfl (bnot_t c2) ?_
  refine bNeq rfl rfl ?_
  refine kF rfl (bnot_t c2) rfl ?_
  refine mv rfl ?_
  refine gC rfl rfl (fun c3 => ?_) (fun c3 => ?_)
  · have c3' := c3; try simp only [inB_iff, Bool.and_eq_true, decide_eq_true_eq, decide_eq_false_iff_not, beq_iff_eq, beq_eq_false_iff_ne, bne_iff_ne, bne_eq_false_iff_eq, ne_eq] at c3'
    refine gU rfl rfl c3 ?_
    refine gU rfl rfl c3 ?_
    refine gU rfl rfl c3 ?_
    refine kT rfl c3 rfl ?_
    refine rN ?_
    refine qN ?_
    refine cT rfl ?_
    refine cS (cR ?_)
    refine bd0 ?_
    refine tA rfl rfl rfl (by repeat first | apply pH | with_reducible apply pT | with_reducible apply pL) (by rfl) (by rfl) ?_
    refine asg rfl ?_
    refine rN ?_
    refine qN ?_
    refine cE ?_
    refine qE ?_
    refine kC2 rfl (resOne_cell rfl (by repeat first | with_reducible assumption | with_reducible apply List.mem_cons_self | with_reducible apply List.mem_cons_of_mem | with_reducible apply List.mem_append_right | exact List.Mem.head _) rfl) (resOne_tmp rfl) rfl rfl ?_
    first | (exfalso; contradiction) | exact ⟨_, ⟨_, ResS.no (by first | (rw [hoc, c1]; rfl) | (rw [hoc, c1, c2]; rfl) | (rw [hoc, c1, c2, beq_false_of_ne c3']; rfl) | (rw [hoc, c4, Bool.and_false]; done)), rfl⟩, (by (try simp only [List.cons_append, List.nil_append, List.append_assoc]); repeat' first | with_reducible apply eR | with_reducible apply eA | ((with_reducible apply xA); · repeat first | with_reducible apply lH | with_reducible apply lT | with_reducible apply lL) | ((with_reducible apply xC); · repeat first | apply pH | with_reducible apply pT | with_reducible apply pL) | with_reducible assumption | with_reducible apply eS | with_reducible apply eL | exact eR)⟩ | (exfalso; first | contradiction | omega | (simp_all; done) | (simp_all; omega))
  have c3' := c3; try simp only [inB_iff, Bool.and_eq_true, decide_eq_true_eq, decide_eq_false_iff_not, beq_iff_eq, beq_eq_false_iff_ne, bne_iff_ne, bne_eq_false_iff_eq, ne_eq] at c3'
  refine gG rfl rfl c3 ?_
  refine mv rfl ?_
  refine gG rfl rfl c3 ?_
  refine rCq rfl (c_within _ _ _ _) ?_
  refine gG rfl rfl c3 ?_
  refine uNot rfl ?_
  refine kF rfl c3 rfl ?_
  refine rN ?_
  refine qN ?_
  refine cC rfl (fun c4 => ?_) (fun c4 => ?_)
  · replace c4 := not_t c4
    have c4' := c4; try simp only [inB_iff, Bool.and_eq_true, decide_eq_true_eq, decide_eq_false_iff_not, beq_iff_eq, beq_eq_false_iff_ne, bne_iff_ne, bne_eq_false_iff_eq, ne_eq] at c4'
    refine cS (cR ?_)
    refine bd0 ?_
    refine tA rfl rfl rfl (by repeat first | apply pH | with_reducible apply pT | with_reducible apply pL) (by rfl) (by rfl) ?_
    refine asg rfl ?_
    refine rN ?_
    refine qN ?_
    refine cE ?_
    refine qE ?_
    refine kC2 rfl (resOne_cell rfl (by repeat first | with_reducible assumption | with_reducible apply List.mem_cons_self | with_reducible apply List.mem_cons_of_mem | with_reducible apply List.mem_append_right | exact List.Mem.head _) rfl) (resOne_tmp rfl) rfl rfl ?_
    first | (exfalso; contradiction) | exact ⟨_, ⟨_, ResS.no (by first | (rw [hoc, c1]; rfl) | (rw [hoc, c1, c2]; rfl) | (rw [hoc, c1, c2, beq_false_of_ne c3']; rfl) | (rw [hoc, c4, Bool.and_false]; done)), rfl⟩, (by (try simp only [List.cons_append, List.nil_append, List.append_assoc]); repeat' first | with_reducible apply eR | with_reducible apply eA | ((with_reducible apply xA); · repeat first | with_reducible apply lH | with_reducible apply lT | with_reducible apply lL) | ((with_reducible apply xC); · repeat first | apply pH | with_reducible apply pT | with_reducible apply pL) | with_reducible assumption | with_reducible apply eS | with_reducible apply eL | exact eR)⟩ | (exfalso; first | contradiction | omega | (simp_all; done) | (simp_all; omega))
  replace c4 := not_f c4
  have c4' := c4; try simp only [inB_iff, Bool.and_eq_true, decide_eq_true_eq, decide_eq_false_iff_not, beq_iff_eq, beq_eq_false_iff_ne, bne_iff_ne, bne_eq_false_iff_eq, ne_eq] at c4'
  refine cK ?_
  refine qN ?_
  refine cS (cR ?_)
  refine rLA rfl (by repeat first | with_reducible assumption | with_reducible apply List.mem_cons_self | with_reducible apply List.mem_cons_of_mem | with_reducible apply List.mem_append_right | exact List.Mem.head _) rfl rfl ?_
  refine rC rfl (c_sclone _ _ _ _ _ _ _ (by first | with_reducible assumption | (apply RdF.mono; (· (with_reducible assumption)); · (try simp only [List.cons_append, List.nil_append, List.append_assoc]); repeat' first | with_reducible apply eR | with_reducible apply eA | ((with_reducible apply xA); · repeat first | with_reducible apply lH | with_reducible apply lT | with_reducible apply lL) | ((with_reducible apply xC); · repeat first | apply pH | with_reducible apply pT | with_reducible apply pL) | with_reducible assumption | with_reducible apply eS | with_reducible apply eL | exact eR) | (apply RdF.mono; (· (apply OwF.rdF; with_reducible assumption)); · (try simp only [List.cons_append, List.nil_append, List.append_assoc]); repeat' first | with_reducible apply eR | with_reducible apply eA | ((with_reducible apply xA); · repeat first | with_reducible apply lH | with_reducible apply lT | with_reducible apply lL) | ((with_reducible apply xC); · repeat first | apply pH | with_reducible apply pT | with_reducible apply pL) | with_reducible assumption | with_reducible apply eS | with_reducible apply eL | exact eR) | (apply RdF.ownm; (· repeat first | with_reducible assumption | with_reducible apply List.mem_cons_self | with_reducible apply List.mem_cons_of_mem | with_reducible apply List.mem_append_right | exact List.Mem.head _); · first | rfl | with_reducible assumption | omega | simp [*]) | (with_reducible apply RdF.sub; (· first | with_reducible assumption | (apply RdF.mono; (· (with_reducible assumption)); · (try simp only [List.cons_append, List.nil_append, List.append_assoc]); repeat' first | with_reducible apply eR | with_reducible apply eA | ((with_reducible apply xA); · repeat first | with_reducible apply lH | with_reducible apply lT | with_reducible apply lL) | ((with_reducible apply xC); · repeat first | apply pH | with_reducible apply pT | with_reducible apply pL) | with_reducible assumption | with_reducible apply eS | with_reducible apply eL | exact eR) | (apply RdF.mono; (· (apply OwF.rdF; with_reducible assumption)); · (try simp only [List.cons_append, List.nil_append, List.append_assoc]); repeat' first | with_reducible apply eR | with_reducible apply eA | ((with_reducible apply xA); · repeat first | with_reducible apply lH | with_reducible apply lT | with_reducible apply lL) | ((with_reducible apply xC); · repeat first | apply pH | with_reducible apply pT | with_reducible apply pL) | with_reducible assumption | with_reducible apply eS | with_reducible apply eL | exact eR) | (apply RdF.ownm; (· repeat first | with_reducible assumption | with_reducible apply List.mem_cons_self | with_reducible apply List.mem_cons_of_mem | with_reducible apply List.mem_append_right | exact List.Mem.head _); · first | rfl | with_reducible assumption | omega | simp [*])); (· first | with_reducible assumption | omega | (simp; done) | (simp; omega) | (simp only [Bool.and_eq_true, inB_iff] at *; omega)); (· first | with_reducible assumption | omega | (simp; done) | (simp; omega) | (simp only [Bool.and_eq_true, inB_iff] at *; omega)); (· first | with_reducible assumption | omega | (simp; done) | (simp; omega) | (simp only [Bool.and_eq_true, inB_iff] at *; omega))) | (with_reducible apply RdF.sub0; (· first | with_reducible assumption | (apply RdF.mono; (· (with_reducible assumption)); · (try simp only [List.cons_append, List.nil_append, List.append_assoc]); repeat' first | with_reducible apply eR | with_reducible apply eA | ((with_reducible apply xA); · repeat first | with_reducible apply lH | with_reducible apply lT | with_reducible apply lL) | ((with_reducible apply xC); · repeat first | apply pH | with_reducible apply pT | with_reducible apply pL) | with_reducible assumption | with_reducible apply eS | with_reducible apply eL | exact eR) | (apply RdF.mono; (· (apply OwF.rdF; with_reducible assumption)); · (try simp only [List.cons_append, List.nil_append, List.append_assoc]); repeat' first | with_reducible apply eR | with_reducible apply eA | ((with_reducible apply xA); · repeat first | with_reducible apply lH | with_reducible apply lT | with_reducible apply lL) | ((with_reducible apply xC); · repeat first | apply pH | with_reducible apply pT | with_reducible apply pL) | with_reducible assumption | with_reducible apply eS | with_reducible apply eL | exact eR) | (apply RdF.ownm; (· repeat first | with_reducible assumption | with_reducible apply List.mem_cons_self | with_reducible apply List.mem_cons_of_mem | with_reducible apply List.mem_append_right | exact List.Mem.head _); · first | rfl | with_reducible assumption | omega | simp [*])); (· first | with_reducible assumption | omega | (simp; done) | (simp; omega) | (simp only [Bool.and_eq_true, inB_iff] at *; omega)); (· first | with_reducible assumption | omega | (simp; done) | (simp; omega) | (simp only [Bool.and_eq_true, inB_iff] at *; omega)))) (by first | with_reducible assumption | omega | (simp only [Bool.and_eq_true, inB_iff] at *; omega))) ?_
  rintro _ _ ⟨lk1, ⟨sv1, rfl, how1⟩, rfl⟩
  obtain ⟨ad1, cn1, rfl, hrd1⟩ := how1.rd
  have hcn1 := how1.capl
  refine ⟨fun _ => eL eR, ?_⟩
  refine rO ?_; intro bk3
  refine tA rfl rfl rfl (by repeat first | apply pH | with_reducible apply pT | with_reducible apply pL) (by rfl) (by rfl) ?_
  refine rN ?_
  refine qN ?_
  refine cS (cR ?_)
  refine asg rfl ?_
  refine rN ?_
  refine qN ?_
  refine cS ?_
  refine cS (cR ?_)
  refine mv rfl ?_
  refine ln rfl ?_
  refine mv rfl ?_
  refine rN ?_
  refine qN ?_
  refine cB ?_
  have hB : pqB w d xs.length ps ts.length parts rounds = true := by
    rw [hoc, c1, c2, c4, show ((ts.length : Int) == (ps.length : Int)) = true from beq_iff_eq.2 (by omega)]; rfl
  obtain ⟨v2, v4⟩ := Bool.and_eq_true_iff.1 c2
  obtain ⟨v4a, v4b⟩ := inB_iff.1 v4
  obtain ⟨r1, r2⟩ := inB_iff.1 c4
  obtain ⟨hp1, hp2⟩ := ppB_at v2
  have htl : ts.length = ps.length := by omega
  refine cL4 (fun (i : Nat) (s : Value) (L : Mem) (Lc : Mem) => [(46, .int .i64 (i : Nat)), (15, s)]) [(2, _), (3, _), (4, _), (5, _), (6, _), (12, _), (14, _), (44, _), (45, _)] (fun (i : Nat) (s : Value) (L : Mem) (Lc : Mem) => L ++ (Lc ++ ((bk3, ⟨[.int .i64 w, .int .i64 d, .slice ad1 xs.length cn1], true⟩) :: (lk1 ++ ((bk2, ⟨[.int .i64 0, .int .i64 0, .slice none 0 0], true⟩) :: (bk1, ⟨[.int .i64 w, .int .i64 d, .slice a xs.length c], true⟩) :: M))))) (fun (i : Nat) (s : Value) (L : Mem) (Lc : Mem) => ps.length - i) (fun (i : Nat) (s : Value) (L : Mem) (Lc : Mem) => i ≤ ps.length ∧ ∃ vs, OwV L s vs ∧ vs.length = i ∧ ∀ j, j < i → ∃ a c, vs.getD j zS = .slice a (lnF w d (ps.getD j zP) parts.toNat).length c ∧ RdF Lc a (lnF w d (ps.getD j zP) parts.toNat).length (lnF w d (ps.getD j zP) parts.toNat)) (0) (_) ([]) ([]) (by repeat first | exact Sub.nil _ | refine Sub.cons rfl ?_) (by (try simp only [List.cons_append, List.nil_append, List.append_assoc]); repeat' first | with_reducible apply eR | with_reducible apply eA | ((with_reducible apply xA); · repeat first | with_reducible apply lH | with_reducible apply lT | with_reducible apply lL) | ((with_reducible apply xC); · repeat first | apply pH | with_reducible apply pT | with_reducible apply pL) | with_reducible assumption | with_reducible apply eS | with_reducible apply eL | exact eR) (by exact ⟨Nat.zero_le _, [], OwV.nil, rfl, fun j hj => by omega⟩) ?_
  rintro i s L Lc ⟨hi, vs, hv, hvl, hj⟩
  refine wT (T' := [(46, _), (15, _), (2, _), (3, _), (4, _), (5, _), (6, _), (12, _), (14, _), (44, _), (45, _)]) rfl ?_
  refine cS (cR ?_)
  refine bLss rfl rfl ?_
  refine rN ?_
  refine qN ?_
  refine cS ?_
  obtain ⟨a7, c7, rfl, hrd7⟩ := hv.rd
  refine cC rfl (fun c5 => ?_) (fun c5 => ?_)
  · have c5' := c5; try simp only [inB_iff, Bool.and_eq_true, decide_eq_true_eq, decide_eq_false_iff_not, beq_iff_eq, beq_eq_false_iff_ne, bne_iff_ne, bne_eq_false_iff_eq, ne_eq] at c5'
    have hi2 : i < ps.length := by omega
    have hpi := hp2 i hi2
    refine cK ?_
    refine qN ?_
    refine cS ?_
    refine cB ?_
    refine cS (cR ?_)
    first
      | refine ixP rfl rfl (by first | (apply RdP.aok; with_reducible assumption) | exact AOk.own) (by first | with_reducible assumption | omega) ?_
      | refine ixR rfl rfl (by first | (apply RdR.aok; with_reducible assumption) | exact AOk.own) (by first | with_reducible assumption | omega) ?_
    first | refine ldP rfl (by (first | with_reducible assumption | (apply RdP.mono; (· with_reducible assumption); · (try simp only [List.cons_append, List.nil_append, List.append_assoc]); repeat' first | with_reducible apply eR | with_reducible apply eA | ((with_reducible apply xA); · repeat first | with_reducible apply lH | with_reducible apply lT | with_reducible apply lL) | ((with_reducible apply xC); · repeat first | apply pH | with_reducible apply pT | with_reducible apply pL) | with_reducible assumption | with_reducible apply eS | with_reducible apply eL | exact eR) | (apply RdP.mono; (· (apply OwP.rdP; with_reducible assumption)); · (try simp only [List.cons_append, List.nil_append, List.append_assoc]); repeat' first | with_reducible apply eR | with_reducible apply eA | ((with_reducible apply xA); · repeat first | with_reducible apply lH | with_reducible apply lT | with_reducible apply lL) | ((with_reducible apply xC); · repeat first | apply pH | with_reducible apply pT | with_reducible apply pL) | with_reducible assumption | with_reducible apply eS | with_reducible apply eL | exact eR))) (by first | with_reducible assumption | omega) ?_ | (refine ldR rfl (by (first | with_reducible assumption | (apply RdR.mono; (· with_reducible assumption); · (try simp only [List.cons_append, List.nil_append, List.append_assoc]); repeat' first | with_reducible apply eR | with_reducible apply eA | ((with_reducible apply xA); · repeat first | with_reducible apply lH | with_reducible apply lT | with_reducible apply lL) | ((with_reducible apply xC); · repeat first | apply pH | with_reducible apply pT | with_reducible apply pL) | with_reducible assumption | with_reducible apply eS | with_reducible apply eL | exact eR) | (apply RdR.mono; (· (apply OwR.rdR; with_reducible assumption)); · (try simp only [List.cons_append, List.nil_append, List.append_assoc]); repeat' first | with_reducible apply eR | with_reducible apply eA | ((with_reducible apply xA); · repeat first | with_reducible apply lH | with_reducible apply lT | with_reducible apply lL) | ((with_reducible apply xC); · repeat first | apply pH | with_reducible apply pT | with_reducible apply pL) | with_reducible assumption | with_reducible apply eS | with_reducible apply eL | exact eR))) (by first | with_reducible assumption | omega) ?_; intro aRr cRr hRr)
    refine rO ?_; intro bk4
    refine tA rfl rfl rfl (by repeat first | apply pH | with_reducible apply pT | with_reducible apply pL) (by rfl) (by rfl) ?_
    refine rN ?_
    refine qN ?_
    refine cR ?_
    refine mv rfl ?_
    refine rLA rfl (by repeat first | with_reducible assumption | with_reducible apply List.mem_cons_self | with_reducible apply List.mem_cons_of_mem | with_reducible apply List.mem_append_right | exact List.Mem.head _) rfl rfl ?_
    refine fA rfl ?_
    first | refine rL rfl (by repeat first | with_reducible assumption | with_reducible apply List.mem_cons_self | with_reducible apply List.mem_cons_of_mem | with_reducible apply List.mem_append_right | exact List.Mem.head _) rfl rfl ?_ | refine rL rfl (by repeat first | with_reducible assumption | with_reducible apply List.mem_cons_self | with_reducible apply List.mem_cons_of_mem | with_reducible apply List.mem_append_right | exact List.Mem.head _) (by with_reducible assumption) rfl ?_
    refine fA rfl ?_
    first | refine rL rfl (by repeat first | with_reducible assumption | with_reducible apply List.mem_cons_self | with_reducible apply List.mem_cons_of_mem | with_reducible apply List.mem_append_right | exact List.Mem.head _) rfl rfl ?_ | refine rL rfl (by repeat first | with_reducible assumption | with_reducible apply List.mem_cons_self | with_reducible apply List.mem_cons_of_mem | with_reducible apply List.mem_append_right | exact List.Mem.head _) (by with_reducible assumption) rfl ?_
    refine mv rfl ?_
    refine rC rfl (c_lengths _ _ _ _ _ (by first | assumption | exact szB_iff.1 (by assumption) | exact (vsB_iff.1 (by assumption)).1 | exact szB_iff.1 (cuB_iff.1 (by assumption)).1) (by first | assumption | exact (cuB_iff.1 (by assumption)).2.1) (by first | omega | exact (cuB_iff.1 (by assumption)).2.2)) ?_
    rintro sv4 _ ⟨lk4, how4, rfl⟩
    obtain ⟨ad4, cn4, rfl, hrd4⟩ := how4.rd
    have hcn4 := how4.capl
    refine ⟨fun _ => eL eR, ?_⟩
    refine apV (by intro _ h; cases h <;> rfl) rfl (fun _ => rfl) rfl rfl rfl (by with_reducible assumption) (by repeat first | with_reducible apply pmH | with_reducible apply pmT | with_reducible apply pmL) (by first | omega | (simp only [tab_len, List.length_append, List.length_map, List.length_range, List.length_replicate, List.length_cons, List.length_nil]; omega) | (simp; omega)) (by first | omega | (simp only [tab_len, List.length_append, List.length_map, List.length_range, List.length_replicate, List.length_cons, List.length_nil]; omega) | (simp; omega)) ?_
    intro bk5 sv5 lk5 how5; obtain ⟨ad5, cn5, rfl, hrd5⟩ := how5.rd
    have hcn5 := how5.capl
    refine asg rfl ?_
    refine rN ?_
    refine qBN ?_
    refine qN ?_
    refine cR ?_
    first | refine rAn (b := 1) rfl rfl (by omega) ?_ | refine rA rfl rfl (by omega) (by omega) ?_ | refine bAdd rfl rfl ?_
    refine mv rfl ?_
    refine rN ?_
    refine qL4 (i + 1) (_) (_) (lk4 ++ Lc) ?_ (by omega) (by repeat first | exact Sub.nil _ | refine Sub.cons rfl ?_) (by (try simp only [List.cons_append, List.nil_append, List.append_assoc]); repeat' first | with_reducible apply eR | with_reducible apply eA | ((with_reducible apply xA); · repeat first | with_reducible apply lH | with_reducible apply lT | with_reducible apply lL) | ((with_reducible apply xC); · repeat first | apply pH | with_reducible apply pT | with_reducible apply pL) | with_reducible assumption | with_reducible apply eS | with_reducible apply eL | exact eR)
    refine ⟨by omega, _, by assumption, by simp [hvl], fun j hj2 => ?_⟩
    by_cases e : j = i
    · subst e
      exact ⟨_, _, by rw [List.getD_eq_getElem?_getD, List.getElem?_append_right (by omega), hvl, Nat.sub_self]; rfl, how4.rdF.mono (Ext.of_sublist (List.sublist_append_left _ _))⟩
    · obtain ⟨a9, c9, k1, k2⟩ := hj j (by omega)
      exact ⟨a9, c9, by rw [List.getD_eq_getElem?_getD, List.getElem?_append_left (by omega), ← List.getD_eq_getElem?_getD]; exact k1, k2.mono (ext_append _ _)⟩
  · have c5' := c5; try simp only [inB_iff, Bool.and_eq_true, decide_eq_true_eq, decide_eq_false_iff_not, beq_iff_eq, beq_eq_false_iff_ne, bne_iff_ne, bne_eq_false_iff_eq, ne_eq] at c5'
    have : i = ps.length := by omega
    subst this
    refine cX ?_
    refine qX ?_
    refine qL4X ?_
    refine qBX ?_
    refine qN ?_
    refine cS ?_
    refine cS (cR ?_)
    refine mv rfl ?_
    refine mv rfl ?_
    refine rN ?_
    refine qN ?_
    refine cB ?_
    refine cL2 (fun (k : Nat) (L2 : Mem) => [(62, .int .i64 (k : Nat))]) [(2, _), (4, _), (12, _), (14, _), (15, _), (61, _)] (fun (k : Nat) (L2 : Mem) => L ++ (Lc ++ ((bk3, ⟨[.int .i64 w, .int .i64 d, .slice ad1 xs.length cn1], true⟩) :: (L2 ++ ((bk2, ⟨[.int .i64 0, .int .i64 0, .slice none 0 0], true⟩) :: (bk1, ⟨[.int .i64 w, .int .i64 d, .slice a xs.length c], true⟩) :: M))))) (fun (k : Nat) (L2 : Mem) => rounds.toNat - k) (fun (k : Nat) (L2 : Mem) => k ≤ rounds.toNat ∧ OwF L2 (.slice ad1 xs.length cn1) (roK w d ps ts parts.toNat share xs k)) (0) (lk1) (by repeat first | exact Sub.nil _ | refine Sub.cons rfl ?_) (by (try simp only [List.cons_append, List.nil_append, List.append_assoc]); repeat' first | with_reducible apply eR | with_reducible apply eA | ((with_reducible apply xA); · repeat first | with_reducible apply lH | with_reducible apply lT | with_reducible apply lL) | ((with_reducible apply xC); · repeat first | apply pH | with_reducible apply pT | with_reducible apply pL) | with_reducible assumption | with_reducible apply eS | with_reducible apply eL | exact eR) (by exact ⟨Nat.zero_le _, how1⟩) ?_
    rintro k L2 ⟨hk, hz⟩
    refine wT (T' := [(62, _), (2, _), (4, _), (12, _), (14, _), (15, _), (61, _)]) rfl ?_
    refine cS (cR ?_)
    refine bLss rfl rfl ?_
    refine rN ?_
    refine qN ?_
    refine cS ?_
    refine cC rfl (fun c6 => ?_) (fun c6 => ?_)
    · have c6' := c6; try simp only [inB_iff, Bool.and_eq_true, decide_eq_true_eq, decide_eq_false_iff_not, beq_iff_eq, beq_eq_false_iff_ne, bne_iff_ne, bne_eq_false_iff_eq, ne_eq] at c6'
      refine cK ?_
      refine qN ?_
      refine cS ?_
      refine cB ?_
      refine cS (cR ?_)
      refine mv rfl ?_
      refine ln rfl ?_
      refine mv rfl ?_
      refine rN ?_
      refine qN ?_
      refine cB ?_
      refine cL2 (fun (i : Nat) (L2 : Mem) => [(66, .int .i64 (i : Nat))]) [(2, _), (4, _), (12, _), (14, _), (15, _), (61, _), (62, _), (64, _), (65, _)] (fun (i : Nat) (L2 : Mem) => L ++ (Lc ++ ((bk3, ⟨[.int .i64 w, .int .i64 d, .slice ad1 xs.length cn1], true⟩) :: (L2 ++ ((bk2, ⟨[.int .i64 0, .int .i64 0, .slice none 0 0], true⟩) :: (bk1, ⟨[.int .i64 w, .int .i64 d, .slice a xs.length c], true⟩) :: M))))) (fun (i : Nat) (L2 : Mem) => vs.length - i) (fun (i : Nat) (L2 : Mem) => i ≤ vs.length ∧ OwF L2 (.slice ad1 xs.length cn1) (roS w d ps ts parts.toNat share (roK w d ps ts parts.toNat share xs k) i)) (0) (L2) (by repeat first | exact Sub.nil _ | refine Sub.cons rfl ?_) (by (try simp only [List.cons_append, List.nil_append, List.append_assoc]); repeat' first | with_reducible apply eR | with_reducible apply eA | ((with_reducible apply xA); · repeat first | with_reducible apply lH | with_reducible apply lT | with_reducible apply lL) | ((with_reducible apply xC); · repeat first | apply pH | with_reducible apply pT | with_reducible apply pL) | with_reducible assumption | with_reducible apply eS | with_reducible apply eL | exact eR) (by exact ⟨Nat.zero_le _, hz⟩) ?_
      rintro i L2 ⟨hi2, hy⟩
      refine wT (T' := [(66, _), (2, _), (4, _), (12, _), (14, _), (15, _), (61, _), (62, _), (64, _), (65, _)]) rfl ?_
      refine cS (cR ?_)
      refine bLss rfl rfl ?_
      refine rN ?_
      refine qN ?_
      refine cS ?_
      refine cC rfl (fun c7 => ?_) (fun c7 => ?_)
      · have c7' := c7; try simp only [inB_iff, Bool.and_eq_true, decide_eq_true_eq, decide_eq_false_iff_not, beq_iff_eq, beq_eq_false_iff_ne, bne_iff_ne, bne_eq_false_iff_eq, ne_eq] at c7'
        have hi3 : i < ps.length := by omega
        obtain ⟨a9, c9, k1, k2⟩ := hj i hi3
        have hll : (lnF w d (ps.getD i zP) parts.toNat).length = xs.length := by have := (vsB_iff.1 c1).2; rw [lnF_len]; omega
        refine cK ?_
        refine qN ?_
        refine cS ?_
        refine cB ?_
        refine cS (cR ?_)
        refine mv rfl ?_
        first
          | refine ixN rfl rfl (by first | exact AOk.own | (apply RdI.aok; with_reducible assumption) | (apply RdW.aok; with_reducible assumption) | (apply RdI.aok; apply OwI.rdI; with_reducible assumption) | with_reducible assumption | (apply RdF.aok; with_reducible assumption) | (apply RdF.aok; apply OwF.rdF; with_reducible assumption)) (by first | with_reducible assumption | omega) ?_
          | refine ixI rfl rfl (by first | exact AOk.own | (apply RdI.aok; with_reducible assumption) | (apply RdW.aok; with_reducible assumption) | (apply RdI.aok; apply OwI.rdI; with_reducible assumption) | with_reducible assumption | (apply RdF.aok; with_reducible assumption) | (apply RdF.aok; apply OwF.rdF; with_reducible assumption)) (by omega) (by omega) ?_
        first
          | refine ldF rfl (by first | with_reducible assumption | (apply RdF.mono; (· (with_reducible assumption)); · (try simp only [List.cons_append, List.nil_append, List.append_assoc]); repeat' first | with_reducible apply eR | with_reducible apply eA | ((with_reducible apply xA); · repeat first | with_reducible apply lH | with_reducible apply lT | with_reducible apply lL) | ((with_reducible apply xC); · repeat first | apply pH | with_reducible apply pT | with_reducible apply pL) | with_reducible assumption | with_reducible apply eS | with_reducible apply eL | exact eR) | (apply RdF.mono; (· (apply OwF.rdF; with_reducible assumption)); · (try simp only [List.cons_append, List.nil_append, List.append_assoc]); repeat' first | with_reducible apply eR | with_reducible apply eA | ((with_reducible apply xA); · repeat first | with_reducible apply lH | with_reducible apply lT | with_reducible apply lL) | ((with_reducible apply xC); · repeat first | apply pH | with_reducible apply pT | with_reducible apply pL) | with_reducible assumption | with_reducible apply eS | with_reducible apply eL | exact eR) | (apply RdF.ownm; (· repeat first | with_reducible assumption | with_reducible apply List.mem_cons_self | with_reducible apply List.mem_cons_of_mem | with_reducible apply List.mem_append_right | exact List.Mem.head _); · first | rfl | with_reducible assumption | omega | simp [*]) | (with_reducible apply RdF.sub; (· first | with_reducible assumption | (apply RdF.mono; (· (with_reducible assumption)); · (try simp only [List.cons_append, List.nil_append, List.append_assoc]); repeat' first | with_reducible apply eR | with_reducible apply eA | ((with_reducible apply xA); · repeat first | with_reducible apply lH | with_reducible apply lT | with_reducible apply lL) | ((with_reducible apply xC); · repeat first | apply pH | with_reducible apply pT | with_reducible apply pL) | with_reducible assumption | with_reducible apply eS | with_reducible apply eL | exact eR) | (apply RdF.mono; (· (apply OwF.rdF; with_reducible assumption)); · (try simp only [List.cons_append, List.nil_append, List.append_assoc]); repeat' first | with_reducible apply eR | with_reducible apply eA | ((with_reducible apply xA); · repeat first | with_reducible apply lH | with_reducible apply lT | with_reducible apply lL) | ((with_reducible apply xC); · repeat first | apply pH | with_reducible apply pT | with_reducible apply pL) | with_reducible assumption | with_reducible apply eS | with_reducible apply eL | exact eR) | (apply RdF.ownm; (· repeat first | with_reducible assumption | with_reducible apply List.mem_cons_self | with_reducible apply List.mem_cons_of_mem | with_reducible apply List.mem_append_right | exact List.Mem.head _); · first | rfl | with_reducible assumption | omega | simp [*])); (· first | with_reducible assumption | omega | (simp; done) | (simp; omega) | (simp only [Bool.and_eq_true, inB_iff] at *; omega)); (· first | with_reducible assumption | omega | (simp; done) | (simp; omega) | (simp only [Bool.and_eq_true, inB_iff] at *; omega)); (· first | with_reducible assumption | omega | (simp; done) | (simp; omega) | (simp only [Bool.and_eq_true, inB_iff] at *; omega))) | (with_reducible apply RdF.sub0; (· first | with_reducible assumption | (apply RdF.mono; (· (with_reducible assumption)); · (try simp only [List.cons_append, List.nil_append, List.append_assoc]); repeat' first | with_reducible apply eR | with_reducible apply eA | ((with_reducible apply xA); · repeat first | with_reducible apply lH | with_reducible apply lT | with_reducible apply lL) | ((with_reducible apply xC); · repeat first | apply pH | with_reducible apply pT | with_reducible apply pL) | with_reducible assumption | with_reducible apply eS | with_reducible apply eL | exact eR) | (apply RdF.mono; (· (apply OwF.rdF; with_reducible assumption)); · (try simp only [List.cons_append, List.nil_append, List.append_assoc]); repeat' first | with_reducible apply eR | with_reducible apply eA | ((with_reducible apply xA); · repeat first | with_reducible apply lH | with_reducible apply lT | with_reducible apply lL) | ((with_reducible apply xC); · repeat first | apply pH | with_reducible apply pT | with_reducible apply pL) | with_reducible assumption | with_reducible apply eS | with_reducible apply eL | exact eR) | (apply RdF.ownm; (· repeat first | with_reducible assumption | with_reducible apply List.mem_cons_self | with_reducible apply List.mem_cons_of_mem | with_reducible apply List.mem_append_right | exact List.Mem.head _); · first | rfl | with_reducible assumption | omega | simp [*])); (· first | with_reducible assumption | omega | (simp; done) | (simp; omega) | (simp only [Bool.and_eq_true, inB_iff] at *; omega)); (· first | with_reducible assumption | omega | (simp; done) | (simp; omega) | (simp only [Bool.and_eq_true, inB_iff] at *; omega)))) (by first | with_reducible assumption | omega) ?_
          | refine ldI rfl (by first | with_reducible assumption | (apply RdI.mono; (· (with_reducible assumption)); · (try simp only [List.cons_append, List.nil_append, List.append_assoc]); repeat' first | with_reducible apply eR | with_reducible apply eA | ((with_reducible apply xA); · repeat first | with_reducible apply lH | with_reducible apply lT | with_reducible apply lL) | ((with_reducible apply xC); · repeat first | apply pH | with_reducible apply pT | with_reducible apply pL) | with_reducible assumption | with_reducible apply eS | with_reducible apply eL | exact eR) | (apply RdI.mono; (· (apply OwI.rdI; with_reducible assumption)); · (try simp only [List.cons_append, List.nil_append, List.append_assoc]); repeat' first | with_reducible apply eR | with_reducible apply eA | ((with_reducible apply xA); · repeat first | with_reducible apply lH | with_reducible apply lT | with_reducible apply lL) | ((with_reducible apply xC); · repeat first | apply pH | with_reducible apply pT | with_reducible apply pL) | with_reducible assumption | with_reducible apply eS | with_reducible apply eL | exact eR)) (by first | with_reducible assumption | omega) ?_
          | refine ldV rfl (by (first | with_reducible assumption | (apply RdW.mono; (· with_reducible assumption); · (try simp only [List.cons_append, List.nil_append, List.append_assoc]); repeat' first | with_reducible apply eR | with_reducible apply eA | ((with_reducible apply xA); · repeat first | with_reducible apply lH | with_reducible apply lT | with_reducible apply lL) | ((with_reducible apply xC); · repeat first | apply pH | with_reducible apply pT | with_reducible apply pL) | with_reducible assumption | with_reducible apply eS | with_reducible apply eL | exact eR))) (by first | with_reducible assumption | omega) (by with_reducible assumption) rfl ?_
        refine asg rfl ?_
        refine asg rfl ?_
        refine rN ?_
        refine qN ?_
        refine cD [1000078] [(0, true), (1, true), (2, true), (3, true), (4, true), (5, true), (6, false), (7, false)] (by repeat first | exact fineT | exact fineL | exact fineLQ1 | exact fineLQ2 | exact fineLQ3 | exact fineLQ4 | exact fineLQ5 | exact fineLQ6 | exact fineR | refine fineB ?_) (by kernel_rfl) ?_
        simp only [pick, List.getElem?_toArray, List.getElem?_cons_zero, List.getElem?_cons_succ]
        refine rLA rfl (by repeat first | with_reducible assumption | with_reducible apply List.mem_cons_self | with_reducible apply List.mem_cons_of_mem | with_reducible apply List.mem_append_right | exact List.Mem.head _) rfl rfl ?_
        refine mv rfl ?_
        refine mv rfl ?_
        refine mv rfl ?_
        first
          | refine ixN rfl rfl (by first | exact AOk.own | (apply RdI.aok; with_reducible assumption) | (apply RdW.aok; with_reducible assumption) | (apply RdI.aok; apply OwI.rdI; with_reducible assumption) | with_reducible assumption | (apply RdF.aok; with_reducible assumption) | (apply RdF.aok; apply OwF.rdF; with_reducible assumption)) (by first | with_reducible assumption | omega) ?_
          | refine ixI rfl rfl (by first | exact AOk.own | (apply RdI.aok; with_reducible assumption) | (apply RdW.aok; with_reducible assumption) | (apply RdI.aok; apply OwI.rdI; with_reducible assumption) | with_reducible assumption | (apply RdF.aok; with_reducible assumption) | (apply RdF.aok; apply OwF.rdF; with_reducible assumption)) (by omega) (by omega) ?_
        first
          | refine ldF rfl (by first | with_reducible assumption | (apply RdF.mono; (· (with_reducible assumption)); · (try simp only [List.cons_append, List.nil_append, List.append_assoc]); repeat' first | with_reducible apply eR | with_reducible apply eA | ((with_reducible apply xA); · repeat first | with_reducible apply lH | with_reducible apply lT | with_reducible apply lL) | ((with_reducible apply xC); · repeat first | apply pH | with_reducible apply pT | with_reducible apply pL) | with_reducible assumption | with_reducible apply eS | with_reducible apply eL | exact eR) | (apply RdF.mono; (· (apply OwF.rdF; with_reducible assumption)); · (try simp only [List.cons_append, List.nil_append, List.append_assoc]); repeat' first | with_reducible apply eR | with_reducible apply eA | ((with_reducible apply xA); · repeat first | with_reducible apply lH | with_reducible apply lT | with_reducible apply lL) | ((with_reducible apply xC); · repeat first | apply pH | with_reducible apply pT | with_reducible apply pL) | with_reducible assumption | with_reducible apply eS | with_reducible apply eL | exact eR) | (apply RdF.ownm; (· repeat first | with_reducible assumption | with_reducible apply List.mem_cons_self | with_reducible apply List.mem_cons_of_mem | with_reducible apply List.mem_append_right | exact List.Mem.head _); · first | rfl | with_reducible assumption | omega | simp [*]) | (with_reducible apply RdF.sub; (· first | with_reducible assumption | (apply RdF.mono; (· (with_reducible assumption)); · (try simp only [List.cons_append, List.nil_append, List.append_assoc]); repeat' first | with_reducible apply eR | with_reducible apply eA | ((with_reducible apply xA); · repeat first | with_reducible apply lH | with_reducible apply lT | with_reducible apply lL) | ((with_reducible apply xC); · repeat first | apply pH | with_reducible apply pT | with_reducible apply pL) | with_reducible assumption | with_reducible apply eS | with_reducible apply eL | exact eR) | (apply RdF.mono; (· (apply OwF.rdF; with_reducible assumption)); · (try simp only [List.cons_append, List.nil_append, List.append_assoc]); repeat' first | with_reducible apply eR | with_reducible apply eA | ((with_reducible apply xA); · repeat first | with_reducible apply lH | with_reducible apply lT | with_reducible apply lL) | ((with_reducible apply xC); · repeat first | apply pH | with_reducible apply pT | with_reducible apply pL) | with_reducible assumption | with_reducible apply eS | with_reducible apply eL | exact eR) | (apply RdF.ownm; (· repeat first | with_reducible assumption | with_reducible apply List.mem_cons_self | with_reducible apply List.mem_cons_of_mem | with_reducible apply List.mem_append_right | exact List.Mem.head _); · first | rfl | with_reducible assumption | omega | simp [*])); (· first | with_reducible assumption | omega | (simp; done) | (simp; omega) | (simp only [Bool.and_eq_true, inB_iff] at *; omega)); (· first | with_reducible assumption | omega | (simp; done) | (simp; omega) | (simp only [Bool.and_eq_true, inB_iff] at *; omega)); (· first | with_reducible assumption | omega | (simp; done) | (simp; omega) | (simp only [Bool.and_eq_true, inB_iff] at *; omega))) | (with_reducible apply RdF.sub0; (· first | with_reducible assumption | (apply RdF.mono; (· (with_reducible assumption)); · (try simp only [List.cons_append, List.nil_append, List.append_assoc]); repeat' first | with_reducible apply eR | with_reducible apply eA | ((with_reducible apply xA); · repeat first | with_reducible apply lH | with_reducible apply lT | with_reducible apply lL) | ((with_reducible apply xC); · repeat first | apply pH | with_reducible apply pT | with_reducible apply pL) | with_reducible assumption | with_reducible apply eS | with_reducible apply eL | exact eR) | (apply RdF.mono; (· (apply OwF.rdF; with_reducible assumption)); · (try simp only [List.cons_append, List.nil_append, List.append_assoc]); repeat' first | with_reducible apply eR | with_reducible apply eA | ((with_reducible apply xA); · repeat first | with_reducible apply lH | with_reducible apply lT | with_reducible apply lL) | ((with_reducible apply xC); · repeat first | apply pH | with_reducible apply pT | with_reducible apply pL) | with_reducible assumption | with_reducible apply eS | with_reducible apply eL | exact eR) | (apply RdF.ownm; (· repeat first | with_reducible assumption | with_reducible apply List.mem_cons_self | with_reducible apply List.mem_cons_of_mem | with_reducible apply List.mem_append_right | exact List.Mem.head _); · first | rfl | with_reducible assumption | omega | simp [*])); (· first | with_reducible assumption | omega | (simp; done) | (simp; omega) | (simp only [Bool.and_eq_true, inB_iff] at *; omega)); (· first | with_reducible assumption | omega | (simp; done) | (simp; omega) | (simp only [Bool.and_eq_true, inB_iff] at *; omega)))) (by first | with_reducible assumption | omega) ?_
          | refine ldI rfl (by first | with_reducible assumption | (apply RdI.mono; (· (with_reducible assumption)); · (try simp only [List.cons_append, List.nil_append, List.append_assoc]); repeat' first | with_reducible apply eR | with_reducible apply eA | ((with_reducible apply xA); · repeat first | with_reducible apply lH | with_reducible apply lT | with_reducible apply lL) | ((with_reducible apply xC); · repeat first | apply pH | with_reducible apply pT | with_reducible apply pL) | with_reducible assumption | with_reducible apply eS | with_reducible apply eL | exact eR) | (apply RdI.mono; (· (apply OwI.rdI; with_reducible assumption)); · (try simp only [List.cons_append, List.nil_append, List.append_assoc]); repeat' first | with_reducible apply eR | with_reducible apply eA | ((with_reducible apply xA); · repeat first | with_reducible apply lH | with_reducible apply lT | with_reducible apply lL) | ((with_reducible apply xC); · repeat first | apply pH | with_reducible apply pT | with_reducible apply pL) | with_reducible assumption | with_reducible apply eS | with_reducible apply eL | exact eR)) (by first | with_reducible assumption | omega) ?_
          | refine ldV rfl (by (first | with_reducible assumption | (apply RdW.mono; (· with_reducible assumption); · (try simp only [List.cons_append, List.nil_append, List.append_assoc]); repeat' first | with_reducible apply eR | with_reducible apply eA | ((with_reducible apply xA); · repeat first | with_reducible apply lH | with_reducible apply lT | with_reducible apply lL) | ((with_reducible apply xC); · repeat first | apply pH | with_reducible apply pT | with_reducible apply pL) | with_reducible assumption | with_reducible apply eS | with_reducible apply eL | exact eR))) (by first | with_reducible assumption | omega) (by with_reducible assumption) rfl ?_
        refine mv rfl ?_
        refine rCw (by intro _ h; cases h <;> rfl) rfl (c_pullE _ _ _ _ _ _ _ _ _ _ _ _ _ _ _ (by with_reducible assumption) (by repeat first | with_reducible apply lH | with_reducible apply lT | with_reducible apply lL) (by first | with_reducible assumption | (apply RdF.mono; (· (with_reducible assumption)); · (try simp only [List.cons_append, List.nil_append, List.append_assoc]); repeat' first | with_reducible apply eR | with_reducible apply eA | ((with_reducible apply xA); · repeat first | with_reducible apply lH | with_reducible apply lT | with_reducible apply lL) | ((with_reducible apply xC); · repeat first | apply pH | with_reducible apply pT | with_reducible apply pL) | with_reducible assumption | with_reducible apply eS | with_reducible apply eL | exact eR) | (apply RdF.mono; (· (apply OwF.rdF; with_reducible assumption)); · (try simp only [List.cons_append, List.nil_append, List.append_assoc]); repeat' first | with_reducible apply eR | with_reducible apply eA | ((with_reducible apply xA); · repeat first | with_reducible apply lH | with_reducible apply lT | with_reducible apply lL) | ((with_reducible apply xC); · repeat first | apply pH | with_reducible apply pT | with_reducible apply pL) | with_reducible assumption | with_reducible apply eS | with_reducible apply eL | exact eR) | (apply RdF.ownm; (· repeat first | with_reducible assumption | with_reducible apply List.mem_cons_self | with_reducible apply List.mem_cons_of_mem | with_reducible apply List.mem_append_right | exact List.Mem.head _); · first | rfl | with_reducible assumption | omega | simp [*]) | (with_reducible apply RdF.sub; (· first | with_reducible assumption | (apply RdF.mono; (· (with_reducible assumption)); · (try simp only [List.cons_append, List.nil_append, List.append_assoc]); repeat' first | with_reducible apply eR | with_reducible apply eA | ((with_reducible apply xA); · repeat first | with_reducible apply lH | with_reducible apply lT | with_reducible apply lL) | ((with_reducible apply xC); · repeat first | apply pH | with_reducible apply pT | with_reducible apply pL) | with_reducible assumption | with_reducible apply eS | with_reducible apply eL | exact eR) | (apply RdF.mono; (· (apply OwF.rdF; with_reducible assumption)); · (try simp only [List.cons_append, List.nil_append, List.append_assoc]); repeat' first | with_reducible apply eR | with_reducible apply eA | ((with_reducible apply xA); · repeat first | with_reducible apply lH | with_reducible apply lT | with_reducible apply lL) | ((with_reducible apply xC); · repeat first | apply pH | with_reducible apply pT | with_reducible apply pL) | with_reducible assumption | with_reducible apply eS | with_reducible apply eL | exact eR) | (apply RdF.ownm; (· repeat first | with_reducible assumption | with_reducible apply List.mem_cons_self | with_reducible apply List.mem_cons_of_mem | with_reducible apply List.mem_append_right | exact List.Mem.head _); · first | rfl | with_reducible assumption | omega | simp [*])); (· first | with_reducible assumption | omega | (simp; done) | (simp; omega) | (simp only [Bool.and_eq_true, inB_iff] at *; omega)); (· first | with_reducible assumption | omega | (simp; done) | (simp; omega) | (simp only [Bool.and_eq_true, inB_iff] at *; omega)); (· first | with_reducible assumption | omega | (simp; done) | (simp; omega) | (simp only [Bool.and_eq_true, inB_iff] at *; omega))) | (with_reducible apply RdF.sub0; (· first | with_reducible assumption | (apply RdF.mono; (· (with_reducible assumption)); · (try simp only [List.cons_append, List.nil_append, List.append_assoc]); repeat' first | with_reducible apply eR | with_reducible apply eA | ((with_reducible apply xA); · repeat first | with_reducible apply lH | with_reducible apply lT | with_reducible apply lL) | ((with_reducible apply xC); · repeat first | apply pH | with_reducible apply pT | with_reducible apply pL) | with_reducible assumption | with_reducible apply eS | with_reducible apply eL | exact eR) | (apply RdF.mono; (· (apply OwF.rdF; with_reducible assumption)); · (try simp only [List.cons_append, List.nil_append, List.append_assoc]); repeat' first | with_reducible apply eR | with_reducible apply eA | ((with_reducible apply xA); · repeat first | with_reducible apply lH | with_reducible apply lT | with_reducible apply lL) | ((with_reducible apply xC); · repeat first | apply pH | with_reducible apply pT | with_reducible apply pL) | with_reducible assumption | with_reducible apply eS | with_reducible apply eL | exact eR) | (apply RdF.ownm; (· repeat first | with_reducible assumption | with_reducible apply List.mem_cons_self | with_reducible apply List.mem_cons_of_mem | with_reducible apply List.mem_append_right | exact List.Mem.head _); · first | rfl | with_reducible assumption | omega | simp [*])); (· first | with_reducible assumption | omega | (simp; done) | (simp; omega) | (simp only [Bool.and_eq_true, inB_iff] at *; omega)); (· first | with_reducible assumption | omega | (simp; done) | (simp; omega) | (simp only [Bool.and_eq_true, inB_iff] at *; omega)))) (by first | assumption | (have := (vsB_iff.1 (by assumption)).2; simp only [lnF_len]; omega))) ?_
        rintro _ _ ⟨rfl, lk6, how6, rfl⟩
        refine rN ?_
        refine qBN ?_
        refine qN ?_
        refine cR ?_
        first | refine rAn (b := 1) rfl rfl (by omega) ?_ | refine rA rfl rfl (by omega) (by omega) ?_ | refine bAdd rfl rfl ?_
        refine mv rfl ?_
        refine rN ?_
        refine qL2 (i + 1) (_) ?_ (by omega) (by repeat first | exact Sub.nil _ | refine Sub.cons rfl ?_) (by (try simp only [List.cons_append, List.nil_append, List.append_assoc]); repeat' first | with_reducible apply eR | with_reducible apply eA | ((with_reducible apply xA); · repeat first | with_reducible apply lH | with_reducible apply lT | with_reducible apply lL) | ((with_reducible apply xC); · repeat first | apply pH | with_reducible apply pT | with_reducible apply pL) | with_reducible assumption | with_reducible apply eS | with_reducible apply eL | exact eR)
        exact ⟨by omega, by assumption⟩
      · have c7' := c7; try simp only [inB_iff, Bool.and_eq_true, decide_eq_true_eq, decide_eq_false_iff_not, beq_iff_eq, beq_eq_false_iff_ne, bne_iff_ne, bne_eq_false_iff_eq, ne_eq] at c7'
        refine cX ?_
        refine qX ?_
        refine qL2X ?_
        refine qBX ?_
        refine qBN ?_
        refine qN ?_
        refine cR ?_
        first | refine rAn (b := 1) rfl rfl (by omega) ?_ | refine rA rfl rfl (by omega) (by omega) ?_ | refine bAdd rfl rfl ?_
        refine mv rfl ?_
        refine rN ?_
        refine qL2 (k + 1) (L2) ?_ (by omega) (by repeat first | exact Sub.nil _ | refine Sub.cons rfl ?_) (by (try simp only [List.cons_append, List.nil_append, List.append_assoc]); repeat' first | with_reducible apply eR | with_reducible apply eA | ((with_reducible apply xA); · repeat first | with_reducible apply lH | with_reducible apply lT | with_reducible apply lL) | ((with_reducible apply xC); · repeat first | apply pH | with_reducible apply pT | with_reducible apply pL) | with_reducible assumption | with_reducible apply eS | with_reducible apply eL | exact eR)
        have : i = ps.length := by omega
        subst this
        exact ⟨by omega, hy⟩
    · have c6' := c6; try simp only [inB_iff, Bool.and_eq_true, decide_eq_true_eq, decide_eq_false_iff_not, beq_iff_eq, beq_eq_false_iff_ne, bne_iff_ne, bne_eq_false_iff_eq, ne_eq] at c6'
      have : k = rounds.toNat := by omega
      subst this
      refine cX ?_
      refine qX ?_
      refine qL2X ?_
      refine qBX ?_
      refine qN ?_
      refine cS (cR ?_)
      refine rLA rfl (by repeat first | with_reducible assumption | with_reducible apply List.mem_cons_self | with_reducible apply List.mem_cons_of_mem | with_reducible apply List.mem_append_right | exact List.Mem.head _) rfl rfl ?_
      refine tA rfl rfl rfl (by repeat first | apply pH | with_reducible apply pT | with_reducible apply pL) (by rfl) (by rfl) ?_
      refine asg rfl ?_
      refine rN ?_
      refine qN ?_
      refine cE ?_
      refine kC2 rfl (resOne_cell rfl (by repeat first | with_reducible assumption | with_reducible apply List.mem_cons_self | with_reducible apply List.mem_cons_of_mem | with_reducible apply List.mem_append_right | exact List.Mem.head _) rfl) (resOne_tmp rfl) rfl rfl ?_
      first | (exfalso; contradiction) | exact ⟨_, ⟨_, ResS.yes hB hz, rfl⟩, (by (try simp only [List.cons_append, List.nil_append, List.append_assoc]); repeat' first | with_reducible apply eR | with_reducible apply eA | ((with_reducible apply xA); · repeat first | with_reducible apply lH | with_reducible apply lT | with_reducible apply lL) | ((with_reducible apply xC); · repeat first | apply pH | with_reducible apply pT | with_reducible apply pL) | with_reducible assumption | with_reducible apply eS | with_reducible apply eL | exact eR)⟩ | (exfalso; first | contradiction | omega | (simp_all; done) | (simp_all; omega))
end Go.Proofs.Ytndpiknekdjaeaa.Ab
