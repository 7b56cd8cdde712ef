/-
  Walks: sums of a tick over all traces, how much traces are alike, speeds tried out.
-/
import Derived.Test.YtfjancbmecfjgaaGc
import Derived.Test.YtfjancbmecfjgaaEs
namespace Go.Proofs.Ytfjancbmecfjgaa.Ab
open Go Go.RowKit
attribute [local irreducible] Run Then InBlock LoopQ LQ1 LQ2 LQ3 LQ4 LQ5 LQ6 AWp Ret ACall
set_option linter.unusedVariables false
set_option linter.unusedSimpArgs false

/-! ## sums -/
/-- the sum of a tick over the first i traces -/
def tkS (xss : List (List Nat)) (k : Nat) : Nat → Nat
  | 0 => 0
  | i + 1 => fadd .f32 (tkS xss k i) ((xss.getD i []).getD k 0)
/-- a plus the squares of a tick of the first i traces -/
def tqS (xss : List (List Nat)) (k a : Nat) : Nat → Nat
  | 0 => a
  | i + 1 => fadd .f32 (tqS xss k a i) (fmul .f32 ((xss.getD i []).getD k 0) ((xss.getD i []).getD k 0))
/-- how many numbers of a tick are not zero -/
def tkN (xss : List (List Nat)) (k : Nat) : Nat → Int
  | 0 => 0
  | i + 1 => if fcmp .neq .f32 ((xss.getD i []).getD k 0) 0 = true then tkN xss k i + 1 else tkN xss k i
theorem tkN_bd (xss : List (List Nat)) (k : Nat) : ∀ i : Nat, 0 ≤ tkN xss k i ∧ tkN xss k i ≤ i
  | 0 => by simp [tkN]
  | i + 1 => by
    have := tkN_bd xss k i
    unfold tkN
    split <;> omega
theorem tkN_y {xss : List (List Nat)} {k i : Nat} (h : fcmp .neq .f32 ((xss.getD i []).getD k 0) 0 = true) : tkN xss k i + 1 = tkN xss k (i + 1) := by
  show _ = (if _ then _ else _); rw [if_pos h]
theorem tkN_n {xss : List (List Nat)} {k i : Nat} (h : fcmp .neq .f32 ((xss.getD i []).getD k 0) 0 = false) : tkN xss k i = tkN xss k (i + 1) := by
  show _ = (if _ then _ else _); rw [if_neg (by rw [h]; decide)]
/-- both sums over j ticks from lo on -/
def onS (xss : List (List Nat)) (lo : Nat) : Nat → Nat
  | 0 => 0
  | j + 1 => fadd .f32 (onS xss lo j) (fmul .f32 (tkS xss (lo + j) xss.length) (tkS xss (lo + j) xss.length))
def alS (xss : List (List Nat)) (lo : Nat) : Nat → Nat
  | 0 => 0
  | j + 1 => tqS xss (lo + j) (alS xss lo j) xss.length
/-- how many ticks, and the first one -/
def seN (t tick reach : Int) : Nat := (min (t - 1) (tick + reach) + 1 - max 0 (tick - reach)).toNat
def seO (tick reach : Int) : Nat := (max 0 (tick - reach)).toNat
def seP (t : Int) (xss : List (List Nat)) (tick reach : Int) : Nat := fmul .f32 (fofint .f32 (xss.length : Nat)) (alS xss (seO tick reach) (seN t tick reach))
def seF (t : Int) (xss : List (List Nat)) (tick reach : Int) : Nat :=
  if fcmp .gtr .f32 (seP t xss tick reach) 0 = true then fdiv .f32 (onS xss (seO tick reach) (seN t tick reach)) (seP t xss tick reach) else 0
theorem seF_yes {t : Int} {xss : List (List Nat)} {tick reach : Int} (h : fcmp .gtr .f32 (seP t xss tick reach) 0 = true) : seF t xss tick reach = fdiv .f32 (onS xss (seO tick reach) (seN t tick reach)) (seP t xss tick reach) := by unfold seF; rw [if_pos h]
theorem seF_no {t : Int} {xss : List (List Nat)} {tick reach : Int} (h : fcmp .gtr .f32 (seP t xss tick reach) 0 = false) : seF t xss tick reach = 0 := by unfold seF; rw [if_neg (by rw [h]; decide)]
def winB (t tick reach : Int) : Bool := inB tick 0 (t - 1) && inB reach 0 64
theorem winB_iff {t tick reach : Int} (h : winB t tick reach = true) : (0 ≤ tick ∧ tick ≤ t - 1) ∧ 0 ≤ reach ∧ reach ≤ 64 := by
  unfold winB at h; rw [Bool.and_eq_true, inB_iff, inB_iff] at h; exact h
-- @reg (impl.Gather).isWindow : c_isWindow _ _ _ _ _ _ (by first | omega | (have := (vgB_iff (by assumption)).1; omega))
theorem c_isWindow (t : Int) (v1 v2 : Value) (tick reach : Int) (M : Mem) (ht : -1000000 ≤ t ∧ t ≤ 1000000) :
    ACall Try.prog 39 [.agg #[.int .i64 t, v1, v2], .int .i64 tick, .int .i64 reach] M fun v M' => v = .bool (winB t tick reach) ∧ M' = M := by
  unfold winB
  refine acall_of_awp Try.func39 rfl Try.ntmps39 rfl ?_
  refine cS (cR ?_)
  first | (refine rXa rfl ?_; intro bk1) | (refine rX rfl rfl ?_; intro bk1)
  refine asg rfl ?_
  refine rN ?_
  refine qN ?_
  refine cS (cR ?_)
  refine mv rfl ?_
  refine fA rfl ?_
  first | refine rL rfl (by repeat first | with_reducible assumption | with_reducible apply List.mem_cons_self | with_reducible apply List.mem_cons_of_mem | with_reducible apply List.mem_append_right | exact List.Mem.head _) rfl rfl ?_ | refine rL rfl (by repeat first | with_reducible assumption | with_reducible apply List.mem_cons_self | with_reducible apply List.mem_cons_of_mem | with_reducible apply List.mem_append_right | exact List.Mem.head _) (by with_reducible assumption) rfl ?_
  first | refine rB rfl rfl (by omega) (by omega) ?_ | refine bSub rfl rfl ?_
  refine rCq rfl (c_within _ _ _ _) ?_
  refine mv rfl ?_
  refine gC rfl rfl (fun c1 => ?_) (fun c1 => ?_)
  · have c1' := c1; try simp only [inB_iff, Bool.and_eq_true, decide_eq_true_eq, decide_eq_false_iff_not, beq_iff_eq, beq_eq_false_iff_ne, bne_iff_ne, bne_eq_false_iff_eq, ne_eq] at c1'
    refine gG rfl rfl c1 ?_
    refine mv rfl ?_
    refine gG rfl rfl c1 ?_
    refine rCq rfl (c_within _ _ _ _) ?_
    refine kT rfl c1 rfl ?_
    refine asg rfl ?_
    refine rN ?_
    refine qN ?_
    refine cE ?_
    refine kE rfl rfl  ?_
    first | (exfalso; contradiction) | exact ⟨_, ⟨by first | (simp only [*, Bool.true_and, Bool.and_true, Bool.false_and, Bool.and_false, Bool.or_false, Bool.false_or, Bool.or_true, Bool.true_or, Bool.not_true, Bool.not_false, if_true, if_false, Bool.false_eq_true, decide_true, decide_false, cond_true, cond_false]; done) | (simp [*]; done), rfl⟩, (by (try simp only [List.cons_append, List.nil_append, List.append_assoc]); repeat' first | with_reducible apply eR | with_reducible apply eA | ((with_reducible apply xA); · repeat first | with_reducible apply lH | with_reducible apply lT | with_reducible apply lL) | ((with_reducible apply xC); · repeat first | apply pH | with_reducible apply pT | with_reducible apply pL) | with_reducible assumption | with_reducible apply eS | with_reducible apply eL | exact eR)⟩ | (exfalso; first | contradiction | omega | (simp_all; done) | (simp_all; omega))
  · have c1' := c1; try simp only [inB_iff, Bool.and_eq_true, decide_eq_true_eq, decide_eq_false_iff_not, beq_iff_eq, beq_eq_false_iff_ne, bne_iff_ne, bne_eq_false_iff_eq, ne_eq] at c1'
    refine gS rfl rfl c1 ?_
    refine gS rfl rfl c1 ?_
    refine kF rfl c1 rfl ?_
    refine asg rfl ?_
    refine rN ?_
    refine qN ?_
    refine cE ?_
    refine kE rfl rfl  ?_
    first | (exfalso; contradiction) | exact ⟨_, ⟨by first | (simp only [*, Bool.true_and, Bool.and_true, Bool.false_and, Bool.and_false, Bool.or_false, Bool.false_or, Bool.or_true, Bool.true_or, Bool.not_true, Bool.not_false, if_true, if_false, Bool.false_eq_true, decide_true, decide_false, cond_true, cond_false]; done) | (simp [*]; done), rfl⟩, (by (try simp only [List.cons_append, List.nil_append, List.append_assoc]); repeat' first | with_reducible apply eR | with_reducible apply eA | ((with_reducible apply xA); · repeat first | with_reducible apply lH | with_reducible apply lT | with_reducible apply lL) | ((with_reducible apply xC); · repeat first | apply pH | with_reducible apply pT | with_reducible apply pL) | with_reducible assumption | with_reducible apply eS | with_reducible apply eL | exact eR)⟩ | (exfalso; first | contradiction | omega | (simp_all; done) | (simp_all; omega))
-- @reg spec.l04Window : c_l04Window _ _ _ _ _ _ _ _ @MEM@ (by first | omega | (have := (vgB_iff (by assumption)).1; omega))
theorem c_l04Window (b : Nat) (wr : Bool) (t : Int) (v1 v2 : Value) (tick reach : Int) (M : Mem) (hm : (b, (⟨[.int .i64 t, v1, v2], wr⟩ : Blk)) ∈ M) (ht : -1000000 ≤ t ∧ t ≤ 1000000) :
    ACall Try.prog 32 [.pointer (some ⟨b, 0, none⟩), .int .i64 tick, .int .i64 reach] M fun v M' => v = .bool (winB t tick reach) ∧ M' = M := by
  unfold winB
  refine acall_of_awp Try.func32 rfl Try.ntmps32 rfl ?_
  refine cS (cR ?_)
  refine asg rfl ?_
  refine rN ?_
  refine qN ?_
  refine cS (cR ?_)
  refine mv rfl ?_
  refine mv rfl ?_
  refine nk rfl ?_
  refine fA rfl ?_
  first | refine rL rfl (by repeat first | with_reducible assumption | with_reducible apply List.mem_cons_self | with_reducible apply List.mem_cons_of_mem | with_reducible apply List.mem_append_right | exact List.Mem.head _) rfl rfl ?_ | refine rL rfl (by repeat first | with_reducible assumption | with_reducible apply List.mem_cons_self | with_reducible apply List.mem_cons_of_mem | with_reducible apply List.mem_append_right | exact List.Mem.head _) (by with_reducible assumption) rfl ?_
  first | refine rB rfl rfl (by omega) (by omega) ?_ | refine bSub rfl rfl ?_
  refine rCq rfl (c_l00In _ _ _ _) ?_
  refine mv rfl ?_
  refine gC rfl rfl (fun c1 => ?_) (fun c1 => ?_)
  · have c1' := c1; try simp only [inB_iff, Bool.and_eq_true, decide_eq_true_eq, decide_eq_false_iff_not, beq_iff_eq, beq_eq_false_iff_ne, bne_iff_ne, bne_eq_false_iff_eq, ne_eq] at c1'
    refine gG rfl rfl c1 ?_
    refine mv rfl ?_
    refine gG rfl rfl c1 ?_
    refine rCq rfl (c_l00In _ _ _ _) ?_
    refine kT rfl c1 rfl ?_
    refine asg rfl ?_
    refine rN ?_
    refine qN ?_
    refine cE ?_
    refine kE rfl rfl  ?_
    first | (exfalso; contradiction) | exact ⟨_, ⟨by first | (simp only [*, Bool.true_and, Bool.and_true, Bool.false_and, Bool.and_false, Bool.or_false, Bool.false_or, Bool.or_true, Bool.true_or, Bool.not_true, Bool.not_false, if_true, if_false, Bool.false_eq_true, decide_true, decide_false, cond_true, cond_false]; done) | (simp [*]; done), rfl⟩, (by (try simp only [List.cons_append, List.nil_append, List.append_assoc]); repeat' first | with_reducible apply eR | with_reducible apply eA | ((with_reducible apply xA); · repeat first | with_reducible apply lH | with_reducible apply lT | with_reducible apply lL) | ((with_reducible apply xC); · repeat first | apply pH | with_reducible apply pT | with_reducible apply pL) | with_reducible assumption | with_reducible apply eS | with_reducible apply eL | exact eR)⟩ | (exfalso; first | contradiction | omega | (simp_all; done) | (simp_all; omega))
  · have c1' := c1; try simp only [inB_iff, Bool.and_eq_true, decide_eq_true_eq, decide_eq_false_iff_not, beq_iff_eq, beq_eq_false_iff_ne, bne_iff_ne, bne_eq_false_iff_eq, ne_eq] at c1'
    refine gS rfl rfl c1 ?_
    refine gS rfl rfl c1 ?_
    refine kF rfl c1 rfl ?_
    refine asg rfl ?_
    refine rN ?_
    refine qN ?_
    refine cE ?_
    refine kE rfl rfl  ?_
    first | (exfalso; contradiction) | exact ⟨_, ⟨by first | (simp only [*, Bool.true_and, Bool.and_true, Bool.false_and, Bool.and_false, Bool.or_false, Bool.false_or, Bool.or_true, Bool.true_or, Bool.not_true, Bool.not_false, if_true, if_false, Bool.false_eq_true, decide_true, decide_false, cond_true, cond_false]; done) | (simp [*]; done), rfl⟩, (by (try simp only [List.cons_append, List.nil_append, List.append_assoc]); repeat' first | with_reducible apply eR | with_reducible apply eA | ((with_reducible apply xA); · repeat first | with_reducible apply lH | with_reducible apply lT | with_reducible apply lL) | ((with_reducible apply xC); · repeat first | apply pH | with_reducible apply pT | with_reducible apply pL) | with_reducible assumption | with_reducible apply eS | with_reducible apply eL | exact eR)⟩ | (exfalso; first | contradiction | omega | (simp_all; done) | (simp_all; omega))
theorem c_stack (t : Int) (ap at' : Option Addr) (np nt cp ct : Nat) (xss : List (List Nat)) (k : Nat) (M : Mem) (h' : RdD M at' nt xss) (hn : nt ≤ 1073741824) (hk : ∀ i, i < nt → k < (xss.getD i []).length) :
    ACall Try.prog 77 [.agg #[.int .i64 t, .slice ap np cp, .slice at' nt ct], .int .i64 (k : Nat)] M fun v M' => v = .tuple #[.float .f32 (tkS xss k xss.length), .int .i64 (tkN xss k xss.length)] ∧ M' = M := by
  obtain ⟨rfl, _⟩ := id h'
  refine acall_of_awp Try.func77 rfl Try.ntmps77 rfl ?_
  refine cS (cR ?_)
  first | (refine rXa rfl ?_; intro bk1) | (refine rX rfl rfl ?_; intro bk1)
  refine asg rfl ?_
  refine asg rfl ?_
  refine rN ?_
  refine qN ?_
  refine cS (cR ?_)
  refine asg rfl ?_
  refine rN ?_
  refine qN ?_
  refine cS (cR ?_)
  refine asg rfl ?_
  refine rN ?_
  refine qN ?_
  refine cS ?_
  refine cS (cR ?_)
  refine fA rfl ?_
  first | refine rL rfl (by repeat first | with_reducible assumption | with_reducible apply List.mem_cons_self | with_reducible apply List.mem_cons_of_mem | with_reducible apply List.mem_append_right | exact List.Mem.head _) rfl rfl ?_ | refine rL rfl (by repeat first | with_reducible assumption | with_reducible apply List.mem_cons_self | with_reducible apply List.mem_cons_of_mem | with_reducible apply List.mem_append_right | exact List.Mem.head _) (by with_reducible assumption) rfl ?_
  refine ln rfl ?_
  refine mv rfl ?_
  refine rN ?_
  refine qN ?_
  refine cB ?_
  refine cL3 (fun (i : Nat) (s : Nat) (m : Int) => [(13, .int .i64 (i : Nat)), (6, .float .f32 s), (7, .int .i64 m)]) [(1, _), (11, _), (12, _)] (fun (i : Nat) (s : Nat) (m : Int) => (bk1, ⟨[.int .i64 t, .slice ap np cp, .slice at' xss.length ct], true⟩) :: M) (fun (i : Nat) (s : Nat) (m : Int) => xss.length - i) (fun (i : Nat) (s : Nat) (m : Int) => i ≤ xss.length ∧ s = tkS xss k i ∧ m = tkN xss k i) (0) (0) (0) (by repeat first | exact Sub.nil _ | refine Sub.cons rfl ?_) (by (try simp only [List.cons_append, List.nil_append, List.append_assoc]); repeat' first | with_reducible apply eR | with_reducible apply eA | ((with_reducible apply xA); · repeat first | with_reducible apply lH | with_reducible apply lT | with_reducible apply lL) | ((with_reducible apply xC); · repeat first | apply pH | with_reducible apply pT | with_reducible apply pL) | with_reducible assumption | with_reducible apply eS | with_reducible apply eL | exact eR) (by exact ⟨Nat.zero_le _, rfl, rfl⟩) ?_
  rintro i s m ⟨hi, hs, hm1⟩
  refine wT (T' := [(13, _), (6, _), (7, _), (1, _), (11, _), (12, _)]) rfl ?_
  refine cS (cR ?_)
  refine bLss rfl rfl ?_
  refine rN ?_
  refine qN ?_
  refine cS ?_
  refine cC rfl (fun c1 => ?_) (fun c1 => ?_)
  · have c1' := c1; try simp only [inB_iff, Bool.and_eq_true, decide_eq_true_eq, decide_eq_false_iff_not, beq_iff_eq, beq_eq_false_iff_ne, bne_iff_ne, bne_eq_false_iff_eq, ne_eq] at c1'
    have hi2 : i < xss.length := by omega
    have hki := hk i hi2
    have hbd := tkN_bd xss k i
    refine cK ?_
    refine qN ?_
    refine cS ?_
    refine cB ?_
    refine cS (cR ?_)
    first
      | refine ixN rfl rfl (by first | exact AOk.own | (apply RdD.aok; with_reducible assumption) | (apply RdD.aok; apply OwD.rdD; with_reducible assumption) | (apply RdI.aok; with_reducible assumption) | (apply RdW.aok; with_reducible assumption) | (apply RdI.aok; apply OwI.rdI; with_reducible assumption) | with_reducible assumption | (apply RdF.aok; with_reducible assumption) | (apply RdF.aok; apply OwF.rdF; with_reducible assumption)) (by first | with_reducible assumption | omega) ?_
      | refine ixI rfl rfl (by first | exact AOk.own | (apply RdD.aok; with_reducible assumption) | (apply RdD.aok; apply OwD.rdD; with_reducible assumption) | (apply RdI.aok; with_reducible assumption) | (apply RdW.aok; with_reducible assumption) | (apply RdI.aok; apply OwI.rdI; with_reducible assumption) | with_reducible assumption | (apply RdF.aok; with_reducible assumption) | (apply RdF.aok; apply OwF.rdF; with_reducible assumption)) (by omega) (by omega) ?_
    first
      | refine ldV rfl (by (first | with_reducible assumption | (apply RdW.mono; (· with_reducible assumption); · (try simp only [List.cons_append, List.nil_append, List.append_assoc]); repeat' first | with_reducible apply eR | with_reducible apply eA | ((with_reducible apply xA); · repeat first | with_reducible apply lH | with_reducible apply lT | with_reducible apply lL) | ((with_reducible apply xC); · repeat first | apply pH | with_reducible apply pT | with_reducible apply pL) | with_reducible assumption | with_reducible apply eS | with_reducible apply eL | exact eR))) (by first | with_reducible assumption | omega) (by with_reducible assumption) rfl ?_
      | (refine ldD rfl (by (first | with_reducible assumption | (apply RdD.mono; (· with_reducible assumption); · (try simp only [List.cons_append, List.nil_append, List.append_assoc]); repeat' first | with_reducible apply eR | with_reducible apply eA | ((with_reducible apply xA); · repeat first | with_reducible apply lH | with_reducible apply lT | with_reducible apply lL) | ((with_reducible apply xC); · repeat first | apply pH | with_reducible apply pT | with_reducible apply pL) | with_reducible assumption | with_reducible apply eS | with_reducible apply eL | exact eR) | (apply RdD.mono; (· (apply OwD.rdD; with_reducible assumption)); · (try simp only [List.cons_append, List.nil_append, List.append_assoc]); repeat' first | with_reducible apply eR | with_reducible apply eA | ((with_reducible apply xA); · repeat first | with_reducible apply lH | with_reducible apply lT | with_reducible apply lL) | ((with_reducible apply xC); · repeat first | apply pH | with_reducible apply pT | with_reducible apply pL) | with_reducible assumption | with_reducible apply eS | with_reducible apply eL | exact eR))) (by first | with_reducible assumption | omega) ?_; intro aDd cDd hDd)
    refine asg rfl ?_
    refine rN ?_
    refine qN ?_
    refine cS (cR ?_)
    refine mv rfl ?_
    refine mv rfl ?_
    refine mv rfl ?_
    first
      | refine ixN rfl rfl (by first | exact AOk.own | (apply RdD.aok; with_reducible assumption) | (apply RdD.aok; apply OwD.rdD; with_reducible assumption) | (apply RdI.aok; with_reducible assumption) | (apply RdW.aok; with_reducible assumption) | (apply RdI.aok; apply OwI.rdI; with_reducible assumption) | with_reducible assumption | (apply RdF.aok; with_reducible assumption) | (apply RdF.aok; apply OwF.rdF; with_reducible assumption)) (by first | with_reducible assumption | omega) ?_
      | refine ixI rfl rfl (by first | exact AOk.own | (apply RdD.aok; with_reducible assumption) | (apply RdD.aok; apply OwD.rdD; with_reducible assumption) | (apply RdI.aok; with_reducible assumption) | (apply RdW.aok; with_reducible assumption) | (apply RdI.aok; apply OwI.rdI; with_reducible assumption) | with_reducible assumption | (apply RdF.aok; with_reducible assumption) | (apply RdF.aok; apply OwF.rdF; with_reducible assumption)) (by omega) (by omega) ?_
    refine ldF rfl (by first | with_reducible assumption | ((try first | with_reducible apply RdF.sub | with_reducible apply RdF.sub0) <;> first | with_reducible assumption | (apply RdF.mono; (· (with_reducible assumption)); · (try simp only [List.cons_append, List.nil_append, List.append_assoc]); repeat' first | with_reducible apply eR | with_reducible apply eA | ((with_reducible apply xA); · repeat first | with_reducible apply lH | with_reducible apply lT | with_reducible apply lL) | ((with_reducible apply xC); · repeat first | apply pH | with_reducible apply pT | with_reducible apply pL) | with_reducible assumption | with_reducible apply eS | with_reducible apply eL | exact eR) | (apply RdF.mono; (· (apply OwF.rdF; with_reducible assumption)); · (try simp only [List.cons_append, List.nil_append, List.append_assoc]); repeat' first | with_reducible apply eR | with_reducible apply eA | ((with_reducible apply xA); · repeat first | with_reducible apply lH | with_reducible apply lT | with_reducible apply lL) | ((with_reducible apply xC); · repeat first | apply pH | with_reducible apply pT | with_reducible apply pL) | with_reducible assumption | with_reducible apply eS | with_reducible apply eL | exact eR) | (apply RdF.ownm; (· repeat first | with_reducible assumption | with_reducible apply List.mem_cons_self | with_reducible apply List.mem_cons_of_mem | with_reducible apply List.mem_append_right | exact List.Mem.head _); · first | rfl | with_reducible assumption | omega | simp [*]) | with_reducible assumption | omega | (simp; done) | (simp; omega) | (simp only [Bool.and_eq_true, inB_iff] at *; omega))) (by first | with_reducible assumption | omega) ?_
    refine fAd rfl rfl ?_
    refine asg rfl ?_
    refine rN ?_
    refine qN ?_
    refine cS (cR ?_)
    refine mv rfl ?_
    refine mv rfl ?_
    first
      | refine ixN rfl rfl (by first | exact AOk.own | (apply RdD.aok; with_reducible assumption) | (apply RdD.aok; apply OwD.rdD; with_reducible assumption) | (apply RdI.aok; with_reducible assumption) | (apply RdW.aok; with_reducible assumption) | (apply RdI.aok; apply OwI.rdI; with_reducible assumption) | with_reducible assumption | (apply RdF.aok; with_reducible assumption) | (apply RdF.aok; apply OwF.rdF; with_reducible assumption)) (by first | with_reducible assumption | omega) ?_
      | refine ixI rfl rfl (by first | exact AOk.own | (apply RdD.aok; with_reducible assumption) | (apply RdD.aok; apply OwD.rdD; with_reducible assumption) | (apply RdI.aok; with_reducible assumption) | (apply RdW.aok; with_reducible assumption) | (apply RdI.aok; apply OwI.rdI; with_reducible assumption) | with_reducible assumption | (apply RdF.aok; with_reducible assumption) | (apply RdF.aok; apply OwF.rdF; with_reducible assumption)) (by omega) (by omega) ?_
    refine ldF rfl (by first | with_reducible assumption | ((try first | with_reducible apply RdF.sub | with_reducible apply RdF.sub0) <;> first | with_reducible assumption | (apply RdF.mono; (· (with_reducible assumption)); · (try simp only [List.cons_append, List.nil_append, List.append_assoc]); repeat' first | with_reducible apply eR | with_reducible apply eA | ((with_reducible apply xA); · repeat first | with_reducible apply lH | with_reducible apply lT | with_reducible apply lL) | ((with_reducible apply xC); · repeat first | apply pH | with_reducible apply pT | with_reducible apply pL) | with_reducible assumption | with_reducible apply eS | with_reducible apply eL | exact eR) | (apply RdF.mono; (· (apply OwF.rdF; with_reducible assumption)); · (try simp only [List.cons_append, List.nil_append, List.append_assoc]); repeat' first | with_reducible apply eR | with_reducible apply eA | ((with_reducible apply xA); · repeat first | with_reducible apply lH | with_reducible apply lT | with_reducible apply lL) | ((with_reducible apply xC); · repeat first | apply pH | with_reducible apply pT | with_reducible apply pL) | with_reducible assumption | with_reducible apply eS | with_reducible apply eL | exact eR) | (apply RdF.ownm; (· repeat first | with_reducible assumption | with_reducible apply List.mem_cons_self | with_reducible apply List.mem_cons_of_mem | with_reducible apply List.mem_append_right | exact List.Mem.head _); · first | rfl | with_reducible assumption | omega | simp [*]) | with_reducible assumption | omega | (simp; done) | (simp; omega) | (simp only [Bool.and_eq_true, inB_iff] at *; omega))) (by first | with_reducible assumption | omega) ?_
    refine fCm rfl rfl rfl ?_
    refine rN ?_
    refine qN ?_
    refine cC rfl (fun hr => ?_) (fun hr => ?_)
    · have hr' := hr; try simp only [inB_iff, Bool.and_eq_true, decide_eq_true_eq, decide_eq_false_iff_not, beq_iff_eq, beq_eq_false_iff_ne, bne_iff_ne, bne_eq_false_iff_eq, ne_eq] at hr'
      refine cR ?_
      refine mv rfl ?_
      first | refine rAn (b := 1) rfl rfl (by omega) ?_ | refine rA rfl rfl (by omega) (by omega) ?_ | refine bAdd rfl rfl ?_
      refine asg rfl ?_
      refine rN ?_
      refine qBN ?_
      refine qN ?_
      refine cR ?_
      first | refine rAn (b := 1) rfl rfl (by omega) ?_ | refine rA rfl rfl (by omega) (by omega) ?_ | refine bAdd rfl rfl ?_
      refine mv rfl ?_
      refine rN ?_
      refine qL3 (i + 1) (_) (_) ?_ (by omega) (by repeat first | exact Sub.nil _ | refine Sub.cons rfl ?_) (by (try simp only [List.cons_append, List.nil_append, List.append_assoc]); repeat' first | with_reducible apply eR | with_reducible apply eA | ((with_reducible apply xA); · repeat first | with_reducible apply lH | with_reducible apply lT | with_reducible apply lL) | ((with_reducible apply xC); · repeat first | apply pH | with_reducible apply pT | with_reducible apply pL) | with_reducible assumption | with_reducible apply eS | with_reducible apply eL | exact eR)
      exact ⟨by omega, by rw [hs]; rfl, by rw [hm1]; exact tkN_y hr⟩
    · have hr' := hr; try simp only [inB_iff, Bool.and_eq_true, decide_eq_true_eq, decide_eq_false_iff_not, beq_iff_eq, beq_eq_false_iff_ne, bne_iff_ne, bne_eq_false_iff_eq, ne_eq] at hr'
      refine cK ?_
      refine qBN ?_
      refine qN ?_
      refine cR ?_
      first | refine rAn (b := 1) rfl rfl (by omega) ?_ | refine rA rfl rfl (by omega) (by omega) ?_ | refine bAdd rfl rfl ?_
      refine mv rfl ?_
      refine rN ?_
      refine qL3 (i + 1) (_) (_) ?_ (by omega) (by repeat first | exact Sub.nil _ | refine Sub.cons rfl ?_) (by (try simp only [List.cons_append, List.nil_append, List.append_assoc]); repeat' first | with_reducible apply eR | with_reducible apply eA | ((with_reducible apply xA); · repeat first | with_reducible apply lH | with_reducible apply lT | with_reducible apply lL) | ((with_reducible apply xC); · repeat first | apply pH | with_reducible apply pT | with_reducible apply pL) | with_reducible assumption | with_reducible apply eS | with_reducible apply eL | exact eR)
      exact ⟨by omega, by rw [hs]; rfl, by rw [hm1]; exact tkN_n hr⟩
  · have c1' := c1; try simp only [inB_iff, Bool.and_eq_true, decide_eq_true_eq, decide_eq_false_iff_not, beq_iff_eq, beq_eq_false_iff_ne, bne_iff_ne, bne_eq_false_iff_eq, ne_eq] at c1'
    have : i = xss.length := by omega
    subst this
    refine cX ?_
    refine qX ?_
    refine qL3X ?_
    refine qBX ?_
    refine qN ?_
    refine cS (cR ?_)
    refine mv rfl ?_
    refine mv rfl ?_
    refine asg rfl ?_
    refine asg rfl ?_
    refine rN ?_
    refine qN ?_
    refine cE ?_
    refine kE2 rfl rfl rfl rfl rfl  ?_
    first | (exfalso; contradiction) | exact ⟨_, ⟨by rw [hs, hm1], rfl⟩, (by (try simp only [List.cons_append, List.nil_append, List.append_assoc]); repeat' first | with_reducible apply eR | with_reducible apply eA | ((with_reducible apply xA); · repeat first | with_reducible apply lH | with_reducible apply lT | with_reducible apply lL) | ((with_reducible apply xC); · repeat first | apply pH | with_reducible apply pT | with_reducible apply pL) | with_reducible assumption | with_reducible apply eS | with_reducible apply eL | exact eR)⟩ | (exfalso; first | contradiction | omega | (simp_all; done) | (simp_all; omega))
theorem c_l04Sum (b : Nat) (wr : Bool) (t : Int) (ap at' : Option Addr) (np nt cp ct : Nat) (xss : List (List Nat)) (k : Nat) (M : Mem) (hmm : (b, (⟨[.int .i64 t, .slice ap np cp, .slice at' nt ct], wr⟩ : Blk)) ∈ M) (h' : RdD M at' nt xss) (hn : nt ≤ 1073741824) (hk : ∀ i, i < nt → k < (xss.getD i []).length) :
    ACall Try.prog 95 [.pointer (some ⟨b, 0, none⟩), .int .i64 (k : Nat)] M fun v M' => v = .tuple #[.float .f32 (tkS xss k xss.length), .int .i64 (tkN xss k xss.length)] ∧ M' = M := by
  obtain ⟨rfl, _⟩ := id h'
  refine acall_of_awp Try.func95 rfl Try.ntmps95 rfl ?_
  refine cS (cR ?_)
  refine asg rfl ?_
  refine asg rfl ?_
  refine rN ?_
  refine qN ?_
  refine cS (cR ?_)
  refine asg rfl ?_
  refine rN ?_
  refine qN ?_
  refine cS (cR ?_)
  refine asg rfl ?_
  refine rN ?_
  refine qN ?_
  refine cS ?_
  refine cS (cR ?_)
  refine asg rfl ?_
  refine rN ?_
  refine qN ?_
  refine cB ?_
  refine cL3 (fun (i : Nat) (s : Nat) (m : Int) => [(8, .int .i64 (i : Nat)), (6, .float .f32 s), (7, .int .i64 m)]) [(0, _), (1, _)] (fun (i : Nat) (s : Nat) (m : Int) => M) (fun (i : Nat) (s : Nat) (m : Int) => xss.length - i) (fun (i : Nat) (s : Nat) (m : Int) => i ≤ xss.length ∧ s = tkS xss k i ∧ m = tkN xss k i) (0) (0) (0) (by repeat first | exact Sub.nil _ | refine Sub.cons rfl ?_) (by (try simp only [List.cons_append, List.nil_append, List.append_assoc]); repeat' first | with_reducible apply eR | with_reducible apply eA | ((with_reducible apply xA); · repeat first | with_reducible apply lH | with_reducible apply lT | with_reducible apply lL) | ((with_reducible apply xC); · repeat first | apply pH | with_reducible apply pT | with_reducible apply pL) | with_reducible assumption | with_reducible apply eS | with_reducible apply eL | exact eR) (by exact ⟨Nat.zero_le _, rfl, rfl⟩) ?_
  rintro i s m ⟨hi, hs, hm1⟩
  refine wT (T' := [(8, _), (6, _), (7, _), (0, _), (1, _)]) rfl ?_
  refine cS ?_
  refine cS (cR ?_)
  refine mv rfl ?_
  refine mv rfl ?_
  refine nk rfl ?_
  refine fA rfl ?_
  first | refine rL rfl (by repeat first | with_reducible assumption | with_reducible apply List.mem_cons_self | with_reducible apply List.mem_cons_of_mem | with_reducible apply List.mem_append_right | exact List.Mem.head _) rfl rfl ?_ | refine rL rfl (by repeat first | with_reducible assumption | with_reducible apply List.mem_cons_self | with_reducible apply List.mem_cons_of_mem | with_reducible apply List.mem_append_right | exact List.Mem.head _) (by with_reducible assumption) rfl ?_
  refine ln rfl ?_
  refine bLss rfl rfl ?_
  refine rN ?_
  refine qN ?_
  refine cC rfl (fun c1 => ?_) (fun c1 => ?_)
  · have c1' := c1; try simp only [inB_iff, Bool.and_eq_true, decide_eq_true_eq, decide_eq_false_iff_not, beq_iff_eq, beq_eq_false_iff_ne, bne_iff_ne, bne_eq_false_iff_eq, ne_eq] at c1'
    have hi2 : i < xss.length := by omega
    have hki := hk i hi2
    have hbd := tkN_bd xss k i
    refine cK ?_
    refine qN ?_
    refine cS ?_
    refine cB ?_
    refine cS (cR ?_)
    refine mv rfl ?_
    refine mv rfl ?_
    refine nk rfl ?_
    refine fA rfl ?_
    first | refine rL rfl (by repeat first | with_reducible assumption | with_reducible apply List.mem_cons_self | with_reducible apply List.mem_cons_of_mem | with_reducible apply List.mem_append_right | exact List.Mem.head _) rfl rfl ?_ | refine rL rfl (by repeat first | with_reducible assumption | with_reducible apply List.mem_cons_self | with_reducible apply List.mem_cons_of_mem | with_reducible apply List.mem_append_right | exact List.Mem.head _) (by with_reducible assumption) rfl ?_
    refine mv rfl ?_
    first
      | refine ixN rfl rfl (by first | exact AOk.own | (apply RdD.aok; with_reducible assumption) | (apply RdD.aok; apply OwD.rdD; with_reducible assumption) | (apply RdI.aok; with_reducible assumption) | (apply RdW.aok; with_reducible assumption) | (apply RdI.aok; apply OwI.rdI; with_reducible assumption) | with_reducible assumption | (apply RdF.aok; with_reducible assumption) | (apply RdF.aok; apply OwF.rdF; with_reducible assumption)) (by first | with_reducible assumption | omega) ?_
      | refine ixI rfl rfl (by first | exact AOk.own | (apply RdD.aok; with_reducible assumption) | (apply RdD.aok; apply OwD.rdD; with_reducible assumption) | (apply RdI.aok; with_reducible assumption) | (apply RdW.aok; with_reducible assumption) | (apply RdI.aok; apply OwI.rdI; with_reducible assumption) | with_reducible assumption | (apply RdF.aok; with_reducible assumption) | (apply RdF.aok; apply OwF.rdF; with_reducible assumption)) (by omega) (by omega) ?_
    first
      | refine ldV rfl (by (first | with_reducible assumption | (apply RdW.mono; (· with_reducible assumption); · (try simp only [List.cons_append, List.nil_append, List.append_assoc]); repeat' first | with_reducible apply eR | with_reducible apply eA | ((with_reducible apply xA); · repeat first | with_reducible apply lH | with_reducible apply lT | with_reducible apply lL) | ((with_reducible apply xC); · repeat first | apply pH | with_reducible apply pT | with_reducible apply pL) | with_reducible assumption | with_reducible apply eS | with_reducible apply eL | exact eR))) (by first | with_reducible assumption | omega) (by with_reducible assumption) rfl ?_
      | (refine ldD rfl (by (first | with_reducible assumption | (apply RdD.mono; (· with_reducible assumption); · (try simp only [List.cons_append, List.nil_append, List.append_assoc]); repeat' first | with_reducible apply eR | with_reducible apply eA | ((with_reducible apply xA); · repeat first | with_reducible apply lH | with_reducible apply lT | with_reducible apply lL) | ((with_reducible apply xC); · repeat first | apply pH | with_reducible apply pT | with_reducible apply pL) | with_reducible assumption | with_reducible apply eS | with_reducible apply eL | exact eR) | (apply RdD.mono; (· (apply OwD.rdD; with_reducible assumption)); · (try simp only [List.cons_append, List.nil_append, List.append_assoc]); repeat' first | with_reducible apply eR | with_reducible apply eA | ((with_reducible apply xA); · repeat first | with_reducible apply lH | with_reducible apply lT | with_reducible apply lL) | ((with_reducible apply xC); · repeat first | apply pH | with_reducible apply pT | with_reducible apply pL) | with_reducible assumption | with_reducible apply eS | with_reducible apply eL | exact eR))) (by first | with_reducible assumption | omega) ?_; intro aDd cDd hDd)
    refine mv rfl ?_
    first
      | refine ixN rfl rfl (by first | exact AOk.own | (apply RdD.aok; with_reducible assumption) | (apply RdD.aok; apply OwD.rdD; with_reducible assumption) | (apply RdI.aok; with_reducible assumption) | (apply RdW.aok; with_reducible assumption) | (apply RdI.aok; apply OwI.rdI; with_reducible assumption) | with_reducible assumption | (apply RdF.aok; with_reducible assumption) | (apply RdF.aok; apply OwF.rdF; with_reducible assumption)) (by first | with_reducible assumption | omega) ?_
      | refine ixI rfl rfl (by first | exact AOk.own | (apply RdD.aok; with_reducible assumption) | (apply RdD.aok; apply OwD.rdD; with_reducible assumption) | (apply RdI.aok; with_reducible assumption) | (apply RdW.aok; with_reducible assumption) | (apply RdI.aok; apply OwI.rdI; with_reducible assumption) | with_reducible assumption | (apply RdF.aok; with_reducible assumption) | (apply RdF.aok; apply OwF.rdF; with_reducible assumption)) (by omega) (by omega) ?_
    refine ldF rfl (by first | with_reducible assumption | ((try first | with_reducible apply RdF.sub | with_reducible apply RdF.sub0) <;> first | with_reducible assumption | (apply RdF.mono; (· (with_reducible assumption)); · (try simp only [List.cons_append, List.nil_append, List.append_assoc]); repeat' first | with_reducible apply eR | with_reducible apply eA | ((with_reducible apply xA); · repeat first | with_reducible apply lH | with_reducible apply lT | with_reducible apply lL) | ((with_reducible apply xC); · repeat first | apply pH | with_reducible apply pT | with_reducible apply pL) | with_reducible assumption | with_reducible apply eS | with_reducible apply eL | exact eR) | (apply RdF.mono; (· (apply OwF.rdF; with_reducible assumption)); · (try simp only [List.cons_append, List.nil_append, List.append_assoc]); repeat' first | with_reducible apply eR | with_reducible apply eA | ((with_reducible apply xA); · repeat first | with_reducible apply lH | with_reducible apply lT | with_reducible apply lL) | ((with_reducible apply xC); · repeat first | apply pH | with_reducible apply pT | with_reducible apply pL) | with_reducible assumption | with_reducible apply eS | with_reducible apply eL | exact eR) | (apply RdF.ownm; (· repeat first | with_reducible assumption | with_reducible apply List.mem_cons_self | with_reducible apply List.mem_cons_of_mem | with_reducible apply List.mem_append_right | exact List.Mem.head _); · first | rfl | with_reducible assumption | omega | simp [*]) | with_reducible assumption | omega | (simp; done) | (simp; omega) | (simp only [Bool.and_eq_true, inB_iff] at *; omega))) (by first | with_reducible assumption | omega) ?_
    refine fAd rfl rfl ?_
    refine asg rfl ?_
    refine rN ?_
    refine qN ?_
    refine cS (cR ?_)
    refine mv rfl ?_
    refine nk rfl ?_
    refine fA rfl ?_
    first | refine rL rfl (by repeat first | with_reducible assumption | with_reducible apply List.mem_cons_self | with_reducible apply List.mem_cons_of_mem | with_reducible apply List.mem_append_right | exact List.Mem.head _) rfl rfl ?_ | refine rL rfl (by repeat first | with_reducible assumption | with_reducible apply List.mem_cons_self | with_reducible apply List.mem_cons_of_mem | with_reducible apply List.mem_append_right | exact List.Mem.head _) (by with_reducible assumption) rfl ?_
    refine mv rfl ?_
    first
      | refine ixN rfl rfl (by first | exact AOk.own | (apply RdD.aok; with_reducible assumption) | (apply RdD.aok; apply OwD.rdD; with_reducible assumption) | (apply RdI.aok; with_reducible assumption) | (apply RdW.aok; with_reducible assumption) | (apply RdI.aok; apply OwI.rdI; with_reducible assumption) | with_reducible assumption | (apply RdF.aok; with_reducible assumption) | (apply RdF.aok; apply OwF.rdF; with_reducible assumption)) (by first | with_reducible assumption | omega) ?_
      | refine ixI rfl rfl (by first | exact AOk.own | (apply RdD.aok; with_reducible assumption) | (apply RdD.aok; apply OwD.rdD; with_reducible assumption) | (apply RdI.aok; with_reducible assumption) | (apply RdW.aok; with_reducible assumption) | (apply RdI.aok; apply OwI.rdI; with_reducible assumption) | with_reducible assumption | (apply RdF.aok; with_reducible assumption) | (apply RdF.aok; apply OwF.rdF; with_reducible assumption)) (by omega) (by omega) ?_
    first
      | refine ldV rfl (by (first | with_reducible assumption | (apply RdW.mono; (· with_reducible assumption); · (try simp only [List.cons_append, List.nil_append, List.append_assoc]); repeat' first | with_reducible apply eR | with_reducible apply eA | ((with_reducible apply xA); · repeat first | with_reducible apply lH | with_reducible apply lT | with_reducible apply lL) | ((with_reducible apply xC); · repeat first | apply pH | with_reducible apply pT | with_reducible apply pL) | with_reducible assumption | with_reducible apply eS | with_reducible apply eL | exact eR))) (by first | with_reducible assumption | omega) (by with_reducible assumption) rfl ?_
      | (refine ldD rfl (by (first | with_reducible assumption | (apply RdD.mono; (· with_reducible assumption); · (try simp only [List.cons_append, List.nil_append, List.append_assoc]); repeat' first | with_reducible apply eR | with_reducible apply eA | ((with_reducible apply xA); · repeat first | with_reducible apply lH | with_reducible apply lT | with_reducible apply lL) | ((with_reducible apply xC); · repeat first | apply pH | with_reducible apply pT | with_reducible apply pL) | with_reducible assumption | with_reducible apply eS | with_reducible apply eL | exact eR) | (apply RdD.mono; (· (apply OwD.rdD; with_reducible assumption)); · (try simp only [List.cons_append, List.nil_append, List.append_assoc]); repeat' first | with_reducible apply eR | with_reducible apply eA | ((with_reducible apply xA); · repeat first | with_reducible apply lH | with_reducible apply lT | with_reducible apply lL) | ((with_reducible apply xC); · repeat first | apply pH | with_reducible apply pT | with_reducible apply pL) | with_reducible assumption | with_reducible apply eS | with_reducible apply eL | exact eR))) (by first | with_reducible assumption | omega) ?_; intro aDd cDd hDd)
    refine mv rfl ?_
    first
      | refine ixN rfl rfl (by first | exact AOk.own | (apply RdD.aok; with_reducible assumption) | (apply RdD.aok; apply OwD.rdD; with_reducible assumption) | (apply RdI.aok; with_reducible assumption) | (apply RdW.aok; with_reducible assumption) | (apply RdI.aok; apply OwI.rdI; with_reducible assumption) | with_reducible assumption | (apply RdF.aok; with_reducible assumption) | (apply RdF.aok; apply OwF.rdF; with_reducible assumption)) (by first | with_reducible assumption | omega) ?_
      | refine ixI rfl rfl (by first | exact AOk.own | (apply RdD.aok; with_reducible assumption) | (apply RdD.aok; apply OwD.rdD; with_reducible assumption) | (apply RdI.aok; with_reducible assumption) | (apply RdW.aok; with_reducible assumption) | (apply RdI.aok; apply OwI.rdI; with_reducible assumption) | with_reducible assumption | (apply RdF.aok; with_reducible assumption) | (apply RdF.aok; apply OwF.rdF; with_reducible assumption)) (by omega) (by omega) ?_
    refine ldF rfl (by first | with_reducible assumption | ((try first | with_reducible apply RdF.sub | with_reducible apply RdF.sub0) <;> first | with_reducible assumption | (apply RdF.mono; (· (with_reducible assumption)); · (try simp only [List.cons_append, List.nil_append, List.append_assoc]); repeat' first | with_reducible apply eR | with_reducible apply eA | ((with_reducible apply xA); · repeat first | with_reducible apply lH | with_reducible apply lT | with_reducible apply lL) | ((with_reducible apply xC); · repeat first | apply pH | with_reducible apply pT | with_reducible apply pL) | with_reducible assumption | with_reducible apply eS | with_reducible apply eL | exact eR) | (apply RdF.mono; (· (apply OwF.rdF; with_reducible assumption)); · (try simp only [List.cons_append, List.nil_append, List.append_assoc]); repeat' first | with_reducible apply eR | with_reducible apply eA | ((with_reducible apply xA); · repeat first | with_reducible apply lH | with_reducible apply lT | with_reducible apply lL) | ((with_reducible apply xC); · repeat first | apply pH | with_reducible apply pT | with_reducible apply pL) | with_reducible assumption | with_reducible apply eS | with_reducible apply eL | exact eR) | (apply RdF.ownm; (· repeat first | with_reducible assumption | with_reducible apply List.mem_cons_self | with_reducible apply List.mem_cons_of_mem | with_reducible apply List.mem_append_right | exact List.Mem.head _); · first | rfl | with_reducible assumption | omega | simp [*]) | with_reducible assumption | omega | (simp; done) | (simp; omega) | (simp only [Bool.and_eq_true, inB_iff] at *; omega))) (by first | with_reducible assumption | omega) ?_
    refine fCm rfl rfl rfl ?_
    refine rN ?_
    refine qN ?_
    refine cC rfl (fun hr => ?_) (fun hr => ?_)
    · have hr' := hr; try simp only [inB_iff, Bool.and_eq_true, decide_eq_true_eq, decide_eq_false_iff_not, beq_iff_eq, beq_eq_false_iff_ne, bne_iff_ne, bne_eq_false_iff_eq, ne_eq] at hr'
      refine cR ?_
      refine mv rfl ?_
      first | refine rAn (b := 1) rfl rfl (by omega) ?_ | refine rA rfl rfl (by omega) (by omega) ?_ | refine bAdd rfl rfl ?_
      refine asg rfl ?_
      refine rN ?_
      refine qBN ?_
      refine qN ?_
      refine cR ?_
      refine mv rfl ?_
      first | refine rAn (b := 1) rfl rfl (by omega) ?_ | refine rA rfl rfl (by omega) (by omega) ?_ | refine bAdd rfl rfl ?_
      refine asg rfl ?_
      refine rN ?_
      refine qL3 (i + 1) (_) (_) ?_ (by omega) (by repeat first | exact Sub.nil _ | refine Sub.cons rfl ?_) (by (try simp only [List.cons_append, List.nil_append, List.append_assoc]); repeat' first | with_reducible apply eR | with_reducible apply eA | ((with_reducible apply xA); · repeat first | with_reducible apply lH | with_reducible apply lT | with_reducible apply lL) | ((with_reducible apply xC); · repeat first | apply pH | with_reducible apply pT | with_reducible apply pL) | with_reducible assumption | with_reducible apply eS | with_reducible apply eL | exact eR)
      exact ⟨by omega, by rw [hs]; rfl, by rw [hm1]; exact tkN_y hr⟩
    · have hr' := hr; try simp only [inB_iff, Bool.and_eq_true, decide_eq_true_eq, decide_eq_false_iff_not, beq_iff_eq, beq_eq_false_iff_ne, bne_iff_ne, bne_eq_false_iff_eq, ne_eq] at hr'
      refine cK ?_
      refine qBN ?_
      refine qN ?_
      refine cR ?_
      refine mv rfl ?_
      first | refine rAn (b := 1) rfl rfl (by omega) ?_ | refine rA rfl rfl (by omega) (by omega) ?_ | refine bAdd rfl rfl ?_
      refine asg rfl ?_
      refine rN ?_
      refine qL3 (i + 1) (_) (_) ?_ (by omega) (by repeat first | exact Sub.nil _ | refine Sub.cons rfl ?_) (by (try simp only [List.cons_append, List.nil_append, List.append_assoc]); repeat' first | with_reducible apply eR | with_reducible apply eA | ((with_reducible apply xA); · repeat first | with_reducible apply lH | with_reducible apply lT | with_reducible apply lL) | ((with_reducible apply xC); · repeat first | apply pH | with_reducible apply pT | with_reducible apply pL) | with_reducible assumption | with_reducible apply eS | with_reducible apply eL | exact eR)
      exact ⟨by omega, by rw [hs]; rfl, by rw [hm1]; exact tkN_n hr⟩
  · have c1' := c1; try simp only [inB_iff, Bool.and_eq_true, decide_eq_true_eq, decide_eq_false_iff_not, beq_iff_eq, beq_eq_false_iff_ne, bne_iff_ne, bne_eq_false_iff_eq, ne_eq] at c1'
    have : i = xss.length := by omega
    subst this
    refine cX ?_
    refine qX ?_
    refine qL3X ?_
    refine qBX ?_
    refine qN ?_
    refine cS (cR ?_)
    refine mv rfl ?_
    refine mv rfl ?_
    refine asg rfl ?_
    refine asg rfl ?_
    refine rN ?_
    refine qN ?_
    refine cE ?_
    refine kE2 rfl rfl rfl rfl rfl  ?_
    first | (exfalso; contradiction) | exact ⟨_, ⟨by rw [hs, hm1], rfl⟩, (by (try simp only [List.cons_append, List.nil_append, List.append_assoc]); repeat' first | with_reducible apply eR | with_reducible apply eA | ((with_reducible apply xA); · repeat first | with_reducible apply lH | with_reducible apply lT | with_reducible apply lL) | ((with_reducible apply xC); · repeat first | apply pH | with_reducible apply pT | with_reducible apply pL) | with_reducible assumption | with_reducible apply eS | with_reducible apply eL | exact eR)⟩ | (exfalso; first | contradiction | omega | (simp_all; done) | (simp_all; omega))
theorem c_semblance (t : Int) (ap at' : Option Addr) (np nt cp ct : Nat) (xss : List (List Nat)) (tick reach : Int) (M : Mem) (h' : RdD M at' nt xss) (hn : nt ≤ 1073741824) (hw : winB t tick reach = true) (ht : t ≤ 64) (hk : ∀ i, i < nt → ((xss.getD i []).length : Int) = t) :
    ACall Try.prog 41 [.agg #[.int .i64 t, .slice ap np cp, .slice at' nt ct], .int .i64 tick, .int .i64 reach] M fun v M' => v = .float .f32 (seF t xss tick reach) ∧ M' = M := by
  obtain ⟨rfl, _⟩ := id h'
  obtain ⟨⟨w1, w2⟩, w3, w4⟩ := winB_iff hw
  refine acall_of_awp Try.func41 rfl Try.ntmps41 rfl ?_
  refine cS (cR ?_)
  first | (refine rXa rfl ?_; intro bk1) | (refine rX rfl rfl ?_; intro bk1)
  refine asg rfl ?_
  refine rN ?_
  refine qN ?_
  refine cS (cR ?_)
  refine asg rfl ?_
  refine asg rfl ?_
  refine rN ?_
  refine qN ?_
  refine cS ?_
  refine cS (cR ?_)
  refine mv rfl ?_
  refine mv rfl ?_
  first | refine rBn rfl rfl (by omega) (by omega) ?_ | refine rB rfl rfl (by omega) (by omega) ?_ | refine bSub rfl rfl ?_
  refine mxI rfl rfl ?_
  refine asg rfl ?_
  refine rN ?_
  refine qN ?_
  refine cB ?_
  have hO : (seO tick reach : Int) = max 0 (tick - reach) := by unfold seO; omega
  have hN : (seN t tick reach : Int) = min (t - 1) (tick + reach) + 1 - max 0 (tick - reach) := by unfold seN; omega
  refine cL4 (fun (j : Nat) (k : Int) (o : Nat) (a : Nat) => [(9, .int .i64 k), (7, .float .f32 o), (8, .float .f32 a)]) [(1, _), (2, _), (3, _)] (fun (j : Nat) (k : Int) (o : Nat) (a : Nat) => (bk1, ⟨[.int .i64 t, .slice ap np cp, .slice at' xss.length ct], true⟩) :: M) (fun (j : Nat) (k : Int) (o : Nat) (a : Nat) => seN t tick reach - j) (fun (j : Nat) (k : Int) (o : Nat) (a : Nat) => j ≤ seN t tick reach ∧ k = (seO tick reach : Int) + (j : Nat) ∧ o = onS xss (seO tick reach) j ∧ a = alS xss (seO tick reach) j) (0) (_) (0) (0) (by repeat first | exact Sub.nil _ | refine Sub.cons rfl ?_) (by (try simp only [List.cons_append, List.nil_append, List.append_assoc]); repeat' first | with_reducible apply eR | with_reducible apply eA | ((with_reducible apply xA); · repeat first | with_reducible apply lH | with_reducible apply lT | with_reducible apply lL) | ((with_reducible apply xC); · repeat first | apply pH | with_reducible apply pT | with_reducible apply pL) | with_reducible assumption | with_reducible apply eS | with_reducible apply eL | exact eR) (by exact ⟨Nat.zero_le _, by omega, rfl, rfl⟩) ?_
  rintro j k o a ⟨hj, hkk, ho, ha⟩
  refine wT (T' := [(9, _), (7, _), (8, _), (1, _), (2, _), (3, _)]) rfl ?_
  refine cS ?_
  refine cS (cR ?_)
  refine mv rfl ?_
  refine fA rfl ?_
  first | refine rL rfl (by repeat first | with_reducible assumption | with_reducible apply List.mem_cons_self | with_reducible apply List.mem_cons_of_mem | with_reducible apply List.mem_append_right | exact List.Mem.head _) rfl rfl ?_ | refine rL rfl (by repeat first | with_reducible assumption | with_reducible apply List.mem_cons_self | with_reducible apply List.mem_cons_of_mem | with_reducible apply List.mem_append_right | exact List.Mem.head _) (by with_reducible assumption) rfl ?_
  first | refine rB rfl rfl (by omega) (by omega) ?_ | refine bSub rfl rfl ?_
  refine mv rfl ?_
  refine mv rfl ?_
  first | refine rAn rfl rfl (by omega) ?_ | refine rA rfl rfl (by omega) (by omega) ?_ | refine bAdd rfl rfl ?_
  refine mnI rfl rfl ?_
  refine bLeq rfl rfl ?_
  refine rN ?_
  refine qN ?_
  obtain ⟨q, hq⟩ : ∃ q : Nat, q = seO tick reach + j := ⟨_, rfl⟩
  obtain rfl : k = (q : Nat) := by omega
  refine cC rfl (fun c1 => ?_) (fun c1 => ?_)
  · have c1' := c1; try simp only [inB_iff, Bool.and_eq_true, decide_eq_true_eq, decide_eq_false_iff_not, beq_iff_eq, beq_eq_false_iff_ne, bne_iff_ne, bne_eq_false_iff_eq, ne_eq] at c1'
    have hj2 : j < seN t tick reach := by omega
    refine cK ?_
    refine qN ?_
    refine cS ?_
    refine cB ?_
    refine cS (cR ?_)
    refine rLA rfl (by repeat first | with_reducible assumption | with_reducible apply List.mem_cons_self | with_reducible apply List.mem_cons_of_mem | with_reducible apply List.mem_append_right | exact List.Mem.head _) rfl rfl ?_
    refine mv rfl ?_
    refine rCq rfl (c_stack _ _ _ _ _ _ _ xss q _ (by (first | with_reducible assumption | (apply RdD.mono; (· with_reducible assumption); · (try simp only [List.cons_append, List.nil_append, List.append_assoc]); repeat' first | with_reducible apply eR | with_reducible apply eA | ((with_reducible apply xA); · repeat first | with_reducible apply lH | with_reducible apply lT | with_reducible apply lL) | ((with_reducible apply xC); · repeat first | apply pH | with_reducible apply pT | with_reducible apply pL) | with_reducible assumption | with_reducible apply eS | with_reducible apply eL | exact eR) | (apply RdD.mono; (· (apply OwD.rdD; with_reducible assumption)); · (try simp only [List.cons_append, List.nil_append, List.append_assoc]); repeat' first | with_reducible apply eR | with_reducible apply eA | ((with_reducible apply xA); · repeat first | with_reducible apply lH | with_reducible apply lT | with_reducible apply lL) | ((with_reducible apply xC); · repeat first | apply pH | with_reducible apply pT | with_reducible apply pL) | with_reducible assumption | with_reducible apply eS | with_reducible apply eL | exact eR))) hn (fun i hi => by have := hk i hi; omega)) ?_
    refine mv rfl ?_
    refine xt rfl rfl rfl ?_
    refine xt rfl rfl rfl ?_
    refine asg rfl ?_
    refine asg rfl ?_
    refine rN ?_
    refine qN ?_
    refine cS (cR ?_)
    refine mv rfl ?_
    refine mv rfl ?_
    refine mv rfl ?_
    refine fMl rfl rfl ?_
    refine fAd rfl rfl ?_
    refine asg rfl ?_
    refine rN ?_
    refine qN ?_
    refine cS (cR ?_)
    refine fA rfl ?_
    first | refine rL rfl (by repeat first | with_reducible assumption | with_reducible apply List.mem_cons_self | with_reducible apply List.mem_cons_of_mem | with_reducible apply List.mem_append_right | exact List.Mem.head _) rfl rfl ?_ | refine rL rfl (by repeat first | with_reducible assumption | with_reducible apply List.mem_cons_self | with_reducible apply List.mem_cons_of_mem | with_reducible apply List.mem_append_right | exact List.Mem.head _) (by with_reducible assumption) rfl ?_
    refine ln rfl ?_
    refine mv rfl ?_
    refine rN ?_
    refine qN ?_
    refine cB ?_
    refine cL2 (fun (i : Nat) (a : Nat) => [(44, .int .i64 (i : Nat)), (8, .float .f32 a)]) [(1, _), (2, _), (3, _), (7, _), (9, _), (42, _), (43, _)] (fun (i : Nat) (a : Nat) => (bk1, ⟨[.int .i64 t, .slice ap np cp, .slice at' xss.length ct], true⟩) :: M) (fun (i : Nat) (a : Nat) => xss.length - i) (fun (i : Nat) (a : Nat) => i ≤ xss.length ∧ a = tqS xss q (alS xss (seO tick reach) j) i) (0) (_) (by repeat first | exact Sub.nil _ | refine Sub.cons rfl ?_) (by (try simp only [List.cons_append, List.nil_append, List.append_assoc]); repeat' first | with_reducible apply eR | with_reducible apply eA | ((with_reducible apply xA); · repeat first | with_reducible apply lH | with_reducible apply lT | with_reducible apply lL) | ((with_reducible apply xC); · repeat first | apply pH | with_reducible apply pT | with_reducible apply pL) | with_reducible assumption | with_reducible apply eS | with_reducible apply eL | exact eR) (by exact ⟨Nat.zero_le _, by rw [ha]; rfl⟩) ?_
    rintro i a ⟨hi, hs⟩
    refine wT (T' := [(44, _), (8, _), (1, _), (2, _), (3, _), (7, _), (9, _), (42, _), (43, _)]) rfl ?_
    refine cS (cR ?_)
    refine bLss rfl rfl ?_
    refine rN ?_
    refine qN ?_
    refine cS ?_
    refine cC rfl (fun c2 => ?_) (fun c2 => ?_)
    · have c2' := c2; try simp only [inB_iff, Bool.and_eq_true, decide_eq_true_eq, decide_eq_false_iff_not, beq_iff_eq, beq_eq_false_iff_ne, bne_iff_ne, bne_eq_false_iff_eq, ne_eq] at c2'
      have hi2 : i < xss.length := by omega
      have hki := hk i hi2
      have hki2 : q < (xss.getD i []).length := by omega
      refine cK ?_
      refine qN ?_
      refine cS ?_
      refine cB ?_
      refine cS (cR ?_)
      first
        | refine ixN rfl rfl (by first | exact AOk.own | (apply RdD.aok; with_reducible assumption) | (apply RdD.aok; apply OwD.rdD; with_reducible assumption) | (apply RdI.aok; with_reducible assumption) | (apply RdW.aok; with_reducible assumption) | (apply RdI.aok; apply OwI.rdI; with_reducible assumption) | with_reducible assumption | (apply RdF.aok; with_reducible assumption) | (apply RdF.aok; apply OwF.rdF; with_reducible assumption)) (by first | with_reducible assumption | omega) ?_
        | refine ixI rfl rfl (by first | exact AOk.own | (apply RdD.aok; with_reducible assumption) | (apply RdD.aok; apply OwD.rdD; with_reducible assumption) | (apply RdI.aok; with_reducible assumption) | (apply RdW.aok; with_reducible assumption) | (apply RdI.aok; apply OwI.rdI; with_reducible assumption) | with_reducible assumption | (apply RdF.aok; with_reducible assumption) | (apply RdF.aok; apply OwF.rdF; with_reducible assumption)) (by omega) (by omega) ?_
      first
        | refine ldV rfl (by (first | with_reducible assumption | (apply RdW.mono; (· with_reducible assumption); · (try simp only [List.cons_append, List.nil_append, List.append_assoc]); repeat' first | with_reducible apply eR | with_reducible apply eA | ((with_reducible apply xA); · repeat first | with_reducible apply lH | with_reducible apply lT | with_reducible apply lL) | ((with_reducible apply xC); · repeat first | apply pH | with_reducible apply pT | with_reducible apply pL) | with_reducible assumption | with_reducible apply eS | with_reducible apply eL | exact eR))) (by first | with_reducible assumption | omega) (by with_reducible assumption) rfl ?_
        | (refine ldD rfl (by (first | with_reducible assumption | (apply RdD.mono; (· with_reducible assumption); · (try simp only [List.cons_append, List.nil_append, List.append_assoc]); repeat' first | with_reducible apply eR | with_reducible apply eA | ((with_reducible apply xA); · repeat first | with_reducible apply lH | with_reducible apply lT | with_reducible apply lL) | ((with_reducible apply xC); · repeat first | apply pH | with_reducible apply pT | with_reducible apply pL) | with_reducible assumption | with_reducible apply eS | with_reducible apply eL | exact eR) | (apply RdD.mono; (· (apply OwD.rdD; with_reducible assumption)); · (try simp only [List.cons_append, List.nil_append, List.append_assoc]); repeat' first | with_reducible apply eR | with_reducible apply eA | ((with_reducible apply xA); · repeat first | with_reducible apply lH | with_reducible apply lT | with_reducible apply lL) | ((with_reducible apply xC); · repeat first | apply pH | with_reducible apply pT | with_reducible apply pL) | with_reducible assumption | with_reducible apply eS | with_reducible apply eL | exact eR))) (by first | with_reducible assumption | omega) ?_; intro aDd cDd hDd)
      refine asg rfl ?_
      refine rN ?_
      refine qN ?_
      refine cD [] [(0, true), (1, true), (2, true), (3, true), (4, true), (5, true), (6, false), (7, false), (8, false), (9, false), (10, false), (11, false)] (by repeat first | exact fineT | exact fineL | exact fineLQ1 | exact fineLQ2 | exact fineLQ3 | exact fineLQ4 | exact fineLQ5 | exact fineLQ6 | exact fineR | refine fineB ?_) (by kernel_rfl) ?_
      simp only [pick, List.getElem?_toArray, List.getElem?_cons_zero, List.getElem?_cons_succ]
      refine mv rfl ?_
      refine mv rfl ?_
      refine mv rfl ?_
      first
        | refine ixN rfl rfl (by first | exact AOk.own | (apply RdD.aok; with_reducible assumption) | (apply RdD.aok; apply OwD.rdD; with_reducible assumption) | (apply RdI.aok; with_reducible assumption) | (apply RdW.aok; with_reducible assumption) | (apply RdI.aok; apply OwI.rdI; with_reducible assumption) | with_reducible assumption | (apply RdF.aok; with_reducible assumption) | (apply RdF.aok; apply OwF.rdF; with_reducible assumption)) (by first | with_reducible assumption | omega) ?_
        | refine ixI rfl rfl (by first | exact AOk.own | (apply RdD.aok; with_reducible assumption) | (apply RdD.aok; apply OwD.rdD; with_reducible assumption) | (apply RdI.aok; with_reducible assumption) | (apply RdW.aok; with_reducible assumption) | (apply RdI.aok; apply OwI.rdI; with_reducible assumption) | with_reducible assumption | (apply RdF.aok; with_reducible assumption) | (apply RdF.aok; apply OwF.rdF; with_reducible assumption)) (by omega) (by omega) ?_
      refine ldF rfl (by first | with_reducible assumption | ((try first | with_reducible apply RdF.sub | with_reducible apply RdF.sub0) <;> first | with_reducible assumption | (apply RdF.mono; (· (with_reducible assumption)); · (try simp only [List.cons_append, List.nil_append, List.append_assoc]); repeat' first | with_reducible apply eR | with_reducible apply eA | ((with_reducible apply xA); · repeat first | with_reducible apply lH | with_reducible apply lT | with_reducible apply lL) | ((with_reducible apply xC); · repeat first | apply pH | with_reducible apply pT | with_reducible apply pL) | with_reducible assumption | with_reducible apply eS | with_reducible apply eL | exact eR) | (apply RdF.mono; (· (apply OwF.rdF; with_reducible assumption)); · (try simp only [List.cons_append, List.nil_append, List.append_assoc]); repeat' first | with_reducible apply eR | with_reducible apply eA | ((with_reducible apply xA); · repeat first | with_reducible apply lH | with_reducible apply lT | with_reducible apply lL) | ((with_reducible apply xC); · repeat first | apply pH | with_reducible apply pT | with_reducible apply pL) | with_reducible assumption | with_reducible apply eS | with_reducible apply eL | exact eR) | (apply RdF.ownm; (· repeat first | with_reducible assumption | with_reducible apply List.mem_cons_self | with_reducible apply List.mem_cons_of_mem | with_reducible apply List.mem_append_right | exact List.Mem.head _); · first | rfl | with_reducible assumption | omega | simp [*]) | with_reducible assumption | omega | (simp; done) | (simp; omega) | (simp only [Bool.and_eq_true, inB_iff] at *; omega))) (by first | with_reducible assumption | omega) ?_
      refine mv rfl ?_
      refine mv rfl ?_
      first
        | refine ixN rfl rfl (by first | exact AOk.own | (apply RdD.aok; with_reducible assumption) | (apply RdD.aok; apply OwD.rdD; with_reducible assumption) | (apply RdI.aok; with_reducible assumption) | (apply RdW.aok; with_reducible assumption) | (apply RdI.aok; apply OwI.rdI; with_reducible assumption) | with_reducible assumption | (apply RdF.aok; with_reducible assumption) | (apply RdF.aok; apply OwF.rdF; with_reducible assumption)) (by first | with_reducible assumption | omega) ?_
        | refine ixI rfl rfl (by first | exact AOk.own | (apply RdD.aok; with_reducible assumption) | (apply RdD.aok; apply OwD.rdD; with_reducible assumption) | (apply RdI.aok; with_reducible assumption) | (apply RdW.aok; with_reducible assumption) | (apply RdI.aok; apply OwI.rdI; with_reducible assumption) | with_reducible assumption | (apply RdF.aok; with_reducible assumption) | (apply RdF.aok; apply OwF.rdF; with_reducible assumption)) (by omega) (by omega) ?_
      refine ldF rfl (by first | with_reducible assumption | ((try first | with_reducible apply RdF.sub | with_reducible apply RdF.sub0) <;> first | with_reducible assumption | (apply RdF.mono; (· (with_reducible assumption)); · (try simp only [List.cons_append, List.nil_append, List.append_assoc]); repeat' first | with_reducible apply eR | with_reducible apply eA | ((with_reducible apply xA); · repeat first | with_reducible apply lH | with_reducible apply lT | with_reducible apply lL) | ((with_reducible apply xC); · repeat first | apply pH | with_reducible apply pT | with_reducible apply pL) | with_reducible assumption | with_reducible apply eS | with_reducible apply eL | exact eR) | (apply RdF.mono; (· (apply OwF.rdF; with_reducible assumption)); · (try simp only [List.cons_append, List.nil_append, List.append_assoc]); repeat' first | with_reducible apply eR | with_reducible apply eA | ((with_reducible apply xA); · repeat first | with_reducible apply lH | with_reducible apply lT | with_reducible apply lL) | ((with_reducible apply xC); · repeat first | apply pH | with_reducible apply pT | with_reducible apply pL) | with_reducible assumption | with_reducible apply eS | with_reducible apply eL | exact eR) | (apply RdF.ownm; (· repeat first | with_reducible assumption | with_reducible apply List.mem_cons_self | with_reducible apply List.mem_cons_of_mem | with_reducible apply List.mem_append_right | exact List.Mem.head _); · first | rfl | with_reducible assumption | omega | simp [*]) | with_reducible assumption | omega | (simp; done) | (simp; omega) | (simp only [Bool.and_eq_true, inB_iff] at *; omega))) (by first | with_reducible assumption | omega) ?_
      refine fMl rfl rfl ?_
      refine fAd rfl rfl ?_
      refine asg rfl ?_
      refine rN ?_
      refine qBN ?_
      refine qN ?_
      refine cR ?_
      first | refine rAn (b := 1) rfl rfl (by omega) ?_ | refine rA rfl rfl (by omega) (by omega) ?_ | refine bAdd rfl rfl ?_
      refine mv rfl ?_
      refine rN ?_
      refine qL2 (i + 1) (_) ?_ (by omega) (by repeat first | exact Sub.nil _ | refine Sub.cons rfl ?_) (by (try simp only [List.cons_append, List.nil_append, List.append_assoc]); repeat' first | with_reducible apply eR | with_reducible apply eA | ((with_reducible apply xA); · repeat first | with_reducible apply lH | with_reducible apply lT | with_reducible apply lL) | ((with_reducible apply xC); · repeat first | apply pH | with_reducible apply pT | with_reducible apply pL) | with_reducible assumption | with_reducible apply eS | with_reducible apply eL | exact eR)
      refine ⟨by omega, by rw [hs]; rfl⟩
    · have c2' := c2; try simp only [inB_iff, Bool.and_eq_true, decide_eq_true_eq, decide_eq_false_iff_not, beq_iff_eq, beq_eq_false_iff_ne, bne_iff_ne, bne_eq_false_iff_eq, ne_eq] at c2'
      have : i = xss.length := by omega
      subst this
      refine cX ?_
      refine qX ?_
      refine qL2X ?_
      refine qBX ?_
      refine qBN ?_
      refine qN ?_
      refine cR ?_
      refine mv rfl ?_
      first | refine rAn (b := 1) rfl rfl (by omega) ?_ | refine rA rfl rfl (by omega) (by omega) ?_ | refine bAdd rfl rfl ?_
      refine asg rfl ?_
      refine rN ?_
      refine qL4 (j + 1) (_) (_) (_) ?_ (by omega) (by repeat first | exact Sub.nil _ | refine Sub.cons rfl ?_) (by (try simp only [List.cons_append, List.nil_append, List.append_assoc]); repeat' first | with_reducible apply eR | with_reducible apply eA | ((with_reducible apply xA); · repeat first | with_reducible apply lH | with_reducible apply lT | with_reducible apply lL) | ((with_reducible apply xC); · repeat first | apply pH | with_reducible apply pT | with_reducible apply pL) | with_reducible assumption | with_reducible apply eS | with_reducible apply eL | exact eR)
      refine ⟨by omega, by omega, by rw [ho, hq]; rfl, by rw [hs, hq]; rfl⟩
  · have c1' := c1; try simp only [inB_iff, Bool.and_eq_true, decide_eq_true_eq, decide_eq_false_iff_not, beq_iff_eq, beq_eq_false_iff_ne, bne_iff_ne, bne_eq_false_iff_eq, ne_eq] at c1'
    have hj2 : j = seN t tick reach := by omega
    subst hj2
    subst ho ha
    refine cX ?_
    refine qX ?_
    refine qL4X ?_
    refine qBX ?_
    refine qN ?_
    refine cS ?_
    refine cS (cR ?_)
    refine fA rfl ?_
    first | refine rL rfl (by repeat first | with_reducible assumption | with_reducible apply List.mem_cons_self | with_reducible apply List.mem_cons_of_mem | with_reducible apply List.mem_append_right | exact List.Mem.head _) rfl rfl ?_ | refine rL rfl (by repeat first | with_reducible assumption | with_reducible apply List.mem_cons_self | with_reducible apply List.mem_cons_of_mem | with_reducible apply List.mem_append_right | exact List.Mem.head _) (by with_reducible assumption) rfl ?_
    refine ln rfl ?_
    refine rp rfl ?_
    refine mv rfl ?_
    refine fMl rfl rfl ?_
    refine asg rfl ?_
    refine rN ?_
    refine qN ?_
    refine cS (cR ?_)
    refine mv rfl ?_
    refine fCm rfl rfl rfl ?_
    refine rN ?_
    refine qN ?_
    refine cC rfl (fun hr => ?_) (fun hr => ?_)
    · have hr' := hr; try simp only [inB_iff, Bool.and_eq_true, decide_eq_true_eq, decide_eq_false_iff_not, beq_iff_eq, beq_eq_false_iff_ne, bne_iff_ne, bne_eq_false_iff_eq, ne_eq] at hr'
      refine cS (cR ?_)
      refine mv rfl ?_
      refine mv rfl ?_
      refine fDv rfl rfl ?_
      refine asg rfl ?_
      refine rN ?_
      refine qN ?_
      refine cE ?_
      refine qE ?_
      refine kE rfl rfl  ?_
      first | (exfalso; contradiction) | exact ⟨_, ⟨by rw [seF_yes hr]; rfl, rfl⟩, (by (try simp only [List.cons_append, List.nil_append, List.append_assoc]); repeat' first | with_reducible apply eR | with_reducible apply eA | ((with_reducible apply xA); · repeat first | with_reducible apply lH | with_reducible apply lT | with_reducible apply lL) | ((with_reducible apply xC); · repeat first | apply pH | with_reducible apply pT | with_reducible apply pL) | with_reducible assumption | with_reducible apply eS | with_reducible apply eL | exact eR)⟩ | (exfalso; first | contradiction | omega | (simp_all; done) | (simp_all; omega))
    · have hr' := hr; try simp only [inB_iff, Bool.and_eq_true, decide_eq_true_eq, decide_eq_false_iff_not, beq_iff_eq, beq_eq_false_iff_ne, bne_iff_ne, bne_eq_false_iff_eq, ne_eq] at hr'
      refine cK ?_
      refine qN ?_
      refine cS (cR ?_)
      refine asg rfl ?_
      refine rN ?_
      refine qN ?_
      refine cE ?_
      refine kE rfl rfl  ?_
      first | (exfalso; contradiction) | exact ⟨_, ⟨by rw [seF_no hr], rfl⟩, (by (try simp only [List.cons_append, List.nil_append, List.append_assoc]); repeat' first | with_reducible apply eR | with_reducible apply eA | ((with_reducible apply xA); · repeat first | with_reducible apply lH | with_reducible apply lT | with_reducible apply lL) | ((with_reducible apply xC); · repeat first | apply pH | with_reducible apply pT | with_reducible apply pL) | with_reducible assumption | with_reducible apply eS | with_reducible apply eL | exact eR)⟩ | (exfalso; first | contradiction | omega | (simp_all; done) | (simp_all; omega))
theorem c_l04Semblance (b : Nat) (wr : Bool) (t : Int) (ap at' : Option Addr) (np nt cp ct : Nat) (xss : List (List Nat)) (tick reach : Int) (M : Mem) (hmm : (b, (⟨[.int .i64 t, .slice ap np cp, .slice at' nt ct], wr⟩ : Blk)) ∈ M) (h' : RdD M at' nt xss) (hn : nt ≤ 1073741824) (hw : winB t tick reach = true) (ht : t ≤ 64) (hk : ∀ i, i < nt → ((xss.getD i []).length : Int) = t) :
    ACall Try.prog 69 [.pointer (some ⟨b, 0, none⟩), .int .i64 tick, .int .i64 reach] M fun v M' => v = .float .f32 (seF t xss tick reach) ∧ M' = M := by
  obtain ⟨rfl, _⟩ := id h'
  obtain ⟨⟨w1, w2⟩, w3, w4⟩ := winB_iff hw
  refine acall_of_awp Try.func69 rfl Try.ntmps69 rfl ?_
  refine cS (cR ?_)
  refine asg rfl ?_
  refine rN ?_
  refine qN ?_
  refine cS (cR ?_)
  refine asg rfl ?_
  refine rN ?_
  refine qN ?_
  refine cS (cR ?_)
  refine asg rfl ?_
  refine rN ?_
  refine qN ?_
  refine cS ?_
  refine cS (cR ?_)
  refine mv rfl ?_
  refine mv rfl ?_
  first | refine rBn rfl rfl (by omega) (by omega) ?_ | refine rB rfl rfl (by omega) (by omega) ?_ | refine bSub rfl rfl ?_
  refine rCq rfl (c_l00Max _ _ _) ?_
  refine asg rfl ?_
  refine rN ?_
  refine qN ?_
  refine cB ?_
  have hO : (seO tick reach : Int) = max 0 (tick - reach) := by unfold seO; omega
  have hN : (seN t tick reach : Int) = min (t - 1) (tick + reach) + 1 - max 0 (tick - reach) := by unfold seN; omega
  refine cL4 (fun (j : Nat) (k : Int) (o : Nat) (a : Nat) => [(9, .int .i64 k), (7, .float .f32 o), (8, .float .f32 a)]) [(0, _), (1, _), (2, _)] (fun (j : Nat) (k : Int) (o : Nat) (a : Nat) => M) (fun (j : Nat) (k : Int) (o : Nat) (a : Nat) => seN t tick reach - j) (fun (j : Nat) (k : Int) (o : Nat) (a : Nat) => j ≤ seN t tick reach ∧ k = (seO tick reach : Int) + (j : Nat) ∧ o = onS xss (seO tick reach) j ∧ a = alS xss (seO tick reach) j) (0) (_) (0) (0) (by repeat first | exact Sub.nil _ | refine Sub.cons rfl ?_) (by (try simp only [List.cons_append, List.nil_append, List.append_assoc]); repeat' first | with_reducible apply eR | with_reducible apply eA | ((with_reducible apply xA); · repeat first | with_reducible apply lH | with_reducible apply lT | with_reducible apply lL) | ((with_reducible apply xC); · repeat first | apply pH | with_reducible apply pT | with_reducible apply pL) | with_reducible assumption | with_reducible apply eS | with_reducible apply eL | exact eR) (by exact ⟨Nat.zero_le _, by omega, rfl, rfl⟩) ?_
  rintro j k o a ⟨hj, hkk, ho, ha⟩
  refine wT (T' := [(9, _), (7, _), (8, _), (0, _), (1, _), (2, _)]) rfl ?_
  refine cS ?_
  refine cS (cR ?_)
  refine mv rfl ?_
  refine mv rfl ?_
  refine nk rfl ?_
  refine fA rfl ?_
  first | refine rL rfl (by repeat first | with_reducible assumption | with_reducible apply List.mem_cons_self | with_reducible apply List.mem_cons_of_mem | with_reducible apply List.mem_append_right | exact List.Mem.head _) rfl rfl ?_ | refine rL rfl (by repeat first | with_reducible assumption | with_reducible apply List.mem_cons_self | with_reducible apply List.mem_cons_of_mem | with_reducible apply List.mem_append_right | exact List.Mem.head _) (by with_reducible assumption) rfl ?_
  first | refine rB rfl rfl (by omega) (by omega) ?_ | refine bSub rfl rfl ?_
  refine mv rfl ?_
  refine mv rfl ?_
  first | refine rAn rfl rfl (by omega) ?_ | refine rA rfl rfl (by omega) (by omega) ?_ | refine bAdd rfl rfl ?_
  refine rCq rfl (c_l00Min _ _ _) ?_
  refine bLeq rfl rfl ?_
  refine rN ?_
  refine qN ?_
  obtain ⟨q, hq⟩ : ∃ q : Nat, q = seO tick reach + j := ⟨_, rfl⟩
  obtain rfl : k = (q : Nat) := by omega
  refine cC rfl (fun c1 => ?_) (fun c1 => ?_)
  · have c1' := c1; try simp only [inB_iff, Bool.and_eq_true, decide_eq_true_eq, decide_eq_false_iff_not, beq_iff_eq, beq_eq_false_iff_ne, bne_iff_ne, bne_eq_false_iff_eq, ne_eq] at c1'
    have hj2 : j < seN t tick reach := by omega
    refine cK ?_
    refine qN ?_
    refine cS ?_
    refine cB ?_
    refine cS (cR ?_)
    refine mv rfl ?_
    refine mv rfl ?_
    refine rCq rfl (c_l04Sum _ _ _ _ _ _ _ _ _ xss q _ (by repeat first | with_reducible assumption | with_reducible apply List.mem_cons_self | with_reducible apply List.mem_cons_of_mem | with_reducible apply List.mem_append_right | exact List.Mem.head _) (by (first | with_reducible assumption | (apply RdD.mono; (· with_reducible assumption); · (try simp only [List.cons_append, List.nil_append, List.append_assoc]); repeat' first | with_reducible apply eR | with_reducible apply eA | ((with_reducible apply xA); · repeat first | with_reducible apply lH | with_reducible apply lT | with_reducible apply lL) | ((with_reducible apply xC); · repeat first | apply pH | with_reducible apply pT | with_reducible apply pL) | with_reducible assumption | with_reducible apply eS | with_reducible apply eL | exact eR) | (apply RdD.mono; (· (apply OwD.rdD; with_reducible assumption)); · (try simp only [List.cons_append, List.nil_append, List.append_assoc]); repeat' first | with_reducible apply eR | with_reducible apply eA | ((with_reducible apply xA); · repeat first | with_reducible apply lH | with_reducible apply lT | with_reducible apply lL) | ((with_reducible apply xC); · repeat first | apply pH | with_reducible apply pT | with_reducible apply pL) | with_reducible assumption | with_reducible apply eS | with_reducible apply eL | exact eR))) hn (fun i hi => by have := hk i hi; omega)) ?_
    refine mv rfl ?_
    refine xt rfl rfl rfl ?_
    refine xt rfl rfl rfl ?_
    refine asg rfl ?_
    refine asg rfl ?_
    refine rN ?_
    refine qN ?_
    refine cS (cR ?_)
    refine mv rfl ?_
    refine mv rfl ?_
    refine mv rfl ?_
    refine fMl rfl rfl ?_
    refine fAd rfl rfl ?_
    refine asg rfl ?_
    refine rN ?_
    refine qN ?_
    refine cS (cR ?_)
    refine asg rfl ?_
    refine rN ?_
    refine qN ?_
    refine cB ?_
    refine cL2 (fun (i : Nat) (a : Nat) => [(12, .int .i64 (i : Nat)), (8, .float .f32 a)]) [(0, _), (1, _), (2, _), (7, _), (9, _)] (fun (i : Nat) (a : Nat) => M) (fun (i : Nat) (a : Nat) => xss.length - i) (fun (i : Nat) (a : Nat) => i ≤ xss.length ∧ a = tqS xss q (alS xss (seO tick reach) j) i) (0) (_) (by repeat first | exact Sub.nil _ | refine Sub.cons rfl ?_) (by (try simp only [List.cons_append, List.nil_append, List.append_assoc]); repeat' first | with_reducible apply eR | with_reducible apply eA | ((with_reducible apply xA); · repeat first | with_reducible apply lH | with_reducible apply lT | with_reducible apply lL) | ((with_reducible apply xC); · repeat first | apply pH | with_reducible apply pT | with_reducible apply pL) | with_reducible assumption | with_reducible apply eS | with_reducible apply eL | exact eR) (by exact ⟨Nat.zero_le _, by rw [ha]; rfl⟩) ?_
    rintro i a ⟨hi, hs⟩
    refine wT (T' := [(12, _), (8, _), (0, _), (1, _), (2, _), (7, _), (9, _)]) rfl ?_
    refine cS ?_
    refine cS (cR ?_)
    refine mv rfl ?_
    refine mv rfl ?_
    refine nk rfl ?_
    refine fA rfl ?_
    first | refine rL rfl (by repeat first | with_reducible assumption | with_reducible apply List.mem_cons_self | with_reducible apply List.mem_cons_of_mem | with_reducible apply List.mem_append_right | exact List.Mem.head _) rfl rfl ?_ | refine rL rfl (by repeat first | with_reducible assumption | with_reducible apply List.mem_cons_self | with_reducible apply List.mem_cons_of_mem | with_reducible apply List.mem_append_right | exact List.Mem.head _) (by with_reducible assumption) rfl ?_
    refine ln rfl ?_
    refine bLss rfl rfl ?_
    refine rN ?_
    refine qN ?_
    refine cC rfl (fun c2 => ?_) (fun c2 => ?_)
    · have c2' := c2; try simp only [inB_iff, Bool.and_eq_true, decide_eq_true_eq, decide_eq_false_iff_not, beq_iff_eq, beq_eq_false_iff_ne, bne_iff_ne, bne_eq_false_iff_eq, ne_eq] at c2'
      have hi2 : i < xss.length := by omega
      have hki := hk i hi2
      have hki2 : q < (xss.getD i []).length := by omega
      refine cK ?_
      refine qN ?_
      refine cS ?_
      refine cB ?_
      refine cD [] [(0, true), (1, true), (2, true), (3, true), (4, true), (5, true), (6, true), (7, true), (8, true), (9, true), (10, true), (11, true), (12, true), (13, true), (14, true), (15, true), (16, true), (17, true), (18, false), (19, false), (20, false), (21, false), (22, false), (23, false)] (by repeat first | exact fineT | exact fineL | exact fineLQ1 | exact fineLQ2 | exact fineLQ3 | exact fineLQ4 | exact fineLQ5 | exact fineLQ6 | exact fineR | refine fineB ?_) (by kernel_rfl) ?_
      simp only [pick, List.getElem?_toArray, List.getElem?_cons_zero, List.getElem?_cons_succ]
      refine mv rfl ?_
      refine mv rfl ?_
      refine nk rfl ?_
      refine fA rfl ?_
      first | refine rL rfl (by repeat first | with_reducible assumption | with_reducible apply List.mem_cons_self | with_reducible apply List.mem_cons_of_mem | with_reducible apply List.mem_append_right | exact List.Mem.head _) rfl rfl ?_ | refine rL rfl (by repeat first | with_reducible assumption | with_reducible apply List.mem_cons_self | with_reducible apply List.mem_cons_of_mem | with_reducible apply List.mem_append_right | exact List.Mem.head _) (by with_reducible assumption) rfl ?_
      refine mv rfl ?_
      first
        | refine ixN rfl rfl (by first | exact AOk.own | (apply RdD.aok; with_reducible assumption) | (apply RdD.aok; apply OwD.rdD; with_reducible assumption) | (apply RdI.aok; with_reducible assumption) | (apply RdW.aok; with_reducible assumption) | (apply RdI.aok; apply OwI.rdI; with_reducible assumption) | with_reducible assumption | (apply RdF.aok; with_reducible assumption) | (apply RdF.aok; apply OwF.rdF; with_reducible assumption)) (by first | with_reducible assumption | omega) ?_
        | refine ixI rfl rfl (by first | exact AOk.own | (apply RdD.aok; with_reducible assumption) | (apply RdD.aok; apply OwD.rdD; with_reducible assumption) | (apply RdI.aok; with_reducible assumption) | (apply RdW.aok; with_reducible assumption) | (apply RdI.aok; apply OwI.rdI; with_reducible assumption) | with_reducible assumption | (apply RdF.aok; with_reducible assumption) | (apply RdF.aok; apply OwF.rdF; with_reducible assumption)) (by omega) (by omega) ?_
      first
        | refine ldV rfl (by (first | with_reducible assumption | (apply RdW.mono; (· with_reducible assumption); · (try simp only [List.cons_append, List.nil_append, List.append_assoc]); repeat' first | with_reducible apply eR | with_reducible apply eA | ((with_reducible apply xA); · repeat first | with_reducible apply lH | with_reducible apply lT | with_reducible apply lL) | ((with_reducible apply xC); · repeat first | apply pH | with_reducible apply pT | with_reducible apply pL) | with_reducible assumption | with_reducible apply eS | with_reducible apply eL | exact eR))) (by first | with_reducible assumption | omega) (by with_reducible assumption) rfl ?_
        | (refine ldD rfl (by (first | with_reducible assumption | (apply RdD.mono; (· with_reducible assumption); · (try simp only [List.cons_append, List.nil_append, List.append_assoc]); repeat' first | with_reducible apply eR | with_reducible apply eA | ((with_reducible apply xA); · repeat first | with_reducible apply lH | with_reducible apply lT | with_reducible apply lL) | ((with_reducible apply xC); · repeat first | apply pH | with_reducible apply pT | with_reducible apply pL) | with_reducible assumption | with_reducible apply eS | with_reducible apply eL | exact eR) | (apply RdD.mono; (· (apply OwD.rdD; with_reducible assumption)); · (try simp only [List.cons_append, List.nil_append, List.append_assoc]); repeat' first | with_reducible apply eR | with_reducible apply eA | ((with_reducible apply xA); · repeat first | with_reducible apply lH | with_reducible apply lT | with_reducible apply lL) | ((with_reducible apply xC); · repeat first | apply pH | with_reducible apply pT | with_reducible apply pL) | with_reducible assumption | with_reducible apply eS | with_reducible apply eL | exact eR))) (by first | with_reducible assumption | omega) ?_; intro aDd cDd hDd)
      refine mv rfl ?_
      first
        | refine ixN rfl rfl (by first | exact AOk.own | (apply RdD.aok; with_reducible assumption) | (apply RdD.aok; apply OwD.rdD; with_reducible assumption) | (apply RdI.aok; with_reducible assumption) | (apply RdW.aok; with_reducible assumption) | (apply RdI.aok; apply OwI.rdI; with_reducible assumption) | with_reducible assumption | (apply RdF.aok; with_reducible assumption) | (apply RdF.aok; apply OwF.rdF; with_reducible assumption)) (by first | with_reducible assumption | omega) ?_
        | refine ixI rfl rfl (by first | exact AOk.own | (apply RdD.aok; with_reducible assumption) | (apply RdD.aok; apply OwD.rdD; with_reducible assumption) | (apply RdI.aok; with_reducible assumption) | (apply RdW.aok; with_reducible assumption) | (apply RdI.aok; apply OwI.rdI; with_reducible assumption) | with_reducible assumption | (apply RdF.aok; with_reducible assumption) | (apply RdF.aok; apply OwF.rdF; with_reducible assumption)) (by omega) (by omega) ?_
      refine ldF rfl (by first | with_reducible assumption | ((try first | with_reducible apply RdF.sub | with_reducible apply RdF.sub0) <;> first | with_reducible assumption | (apply RdF.mono; (· (with_reducible assumption)); · (try simp only [List.cons_append, List.nil_append, List.append_assoc]); repeat' first | with_reducible apply eR | with_reducible apply eA | ((with_reducible apply xA); · repeat first | with_reducible apply lH | with_reducible apply lT | with_reducible apply lL) | ((with_reducible apply xC); · repeat first | apply pH | with_reducible apply pT | with_reducible apply pL) | with_reducible assumption | with_reducible apply eS | with_reducible apply eL | exact eR) | (apply RdF.mono; (· (apply OwF.rdF; with_reducible assumption)); · (try simp only [List.cons_append, List.nil_append, List.append_assoc]); repeat' first | with_reducible apply eR | with_reducible apply eA | ((with_reducible apply xA); · repeat first | with_reducible apply lH | with_reducible apply lT | with_reducible apply lL) | ((with_reducible apply xC); · repeat first | apply pH | with_reducible apply pT | with_reducible apply pL) | with_reducible assumption | with_reducible apply eS | with_reducible apply eL | exact eR) | (apply RdF.ownm; (· repeat first | with_reducible assumption | with_reducible apply List.mem_cons_self | with_reducible apply List.mem_cons_of_mem | with_reducible apply List.mem_append_right | exact List.Mem.head _); · first | rfl | with_reducible assumption | omega | simp [*]) | with_reducible assumption | omega | (simp; done) | (simp; omega) | (simp only [Bool.and_eq_true, inB_iff] at *; omega))) (by first | with_reducible assumption | omega) ?_
      refine mv rfl ?_
      refine nk rfl ?_
      refine fA rfl ?_
      first | refine rL rfl (by repeat first | with_reducible assumption | with_reducible apply List.mem_cons_self | with_reducible apply List.mem_cons_of_mem | with_reducible apply List.mem_append_right | exact List.Mem.head _) rfl rfl ?_ | refine rL rfl (by repeat first | with_reducible assumption | with_reducible apply List.mem_cons_self | with_reducible apply List.mem_cons_of_mem | with_reducible apply List.mem_append_right | exact List.Mem.head _) (by with_reducible assumption) rfl ?_
      refine mv rfl ?_
      first
        | refine ixN rfl rfl (by first | exact AOk.own | (apply RdD.aok; with_reducible assumption) | (apply RdD.aok; apply OwD.rdD; with_reducible assumption) | (apply RdI.aok; with_reducible assumption) | (apply RdW.aok; with_reducible assumption) | (apply RdI.aok; apply OwI.rdI; with_reducible assumption) | with_reducible assumption | (apply RdF.aok; with_reducible assumption) | (apply RdF.aok; apply OwF.rdF; with_reducible assumption)) (by first | with_reducible assumption | omega) ?_
        | refine ixI rfl rfl (by first | exact AOk.own | (apply RdD.aok; with_reducible assumption) | (apply RdD.aok; apply OwD.rdD; with_reducible assumption) | (apply RdI.aok; with_reducible assumption) | (apply RdW.aok; with_reducible assumption) | (apply RdI.aok; apply OwI.rdI; with_reducible assumption) | with_reducible assumption | (apply RdF.aok; with_reducible assumption) | (apply RdF.aok; apply OwF.rdF; with_reducible assumption)) (by omega) (by omega) ?_
      first
        | refine ldV rfl (by (first | with_reducible assumption | (apply RdW.mono; (· with_reducible assumption); · (try simp only [List.cons_append, List.nil_append, List.append_assoc]); repeat' first | with_reducible apply eR | with_reducible apply eA | ((with_reducible apply xA); · repeat first | with_reducible apply lH | with_reducible apply lT | with_reducible apply lL) | ((with_reducible apply xC); · repeat first | apply pH | with_reducible apply pT | with_reducible apply pL) | with_reducible assumption | with_reducible apply eS | with_reducible apply eL | exact eR))) (by first | with_reducible assumption | omega) (by with_reducible assumption) rfl ?_
        | (refine ldD rfl (by (first | with_reducible assumption | (apply RdD.mono; (· with_reducible assumption); · (try simp only [List.cons_append, List.nil_append, List.append_assoc]); repeat' first | with_reducible apply eR | with_reducible apply eA | ((with_reducible apply xA); · repeat first | with_reducible apply lH | with_reducible apply lT | with_reducible apply lL) | ((with_reducible apply xC); · repeat first | apply pH | with_reducible apply pT | with_reducible apply pL) | with_reducible assumption | with_reducible apply eS | with_reducible apply eL | exact eR) | (apply RdD.mono; (· (apply OwD.rdD; with_reducible assumption)); · (try simp only [List.cons_append, List.nil_append, List.append_assoc]); repeat' first | with_reducible apply eR | with_reducible apply eA | ((with_reducible apply xA); · repeat first | with_reducible apply lH | with_reducible apply lT | with_reducible apply lL) | ((with_reducible apply xC); · repeat first | apply pH | with_reducible apply pT | with_reducible apply pL) | with_reducible assumption | with_reducible apply eS | with_reducible apply eL | exact eR))) (by first | with_reducible assumption | omega) ?_; intro aDd cDd hDd)
      refine mv rfl ?_
      first
        | refine ixN rfl rfl (by first | exact AOk.own | (apply RdD.aok; with_reducible assumption) | (apply RdD.aok; apply OwD.rdD; with_reducible assumption) | (apply RdI.aok; with_reducible assumption) | (apply RdW.aok; with_reducible assumption) | (apply RdI.aok; apply OwI.rdI; with_reducible assumption) | with_reducible assumption | (apply RdF.aok; with_reducible assumption) | (apply RdF.aok; apply OwF.rdF; with_reducible assumption)) (by first | with_reducible assumption | omega) ?_
        | refine ixI rfl rfl (by first | exact AOk.own | (apply RdD.aok; with_reducible assumption) | (apply RdD.aok; apply OwD.rdD; with_reducible assumption) | (apply RdI.aok; with_reducible assumption) | (apply RdW.aok; with_reducible assumption) | (apply RdI.aok; apply OwI.rdI; with_reducible assumption) | with_reducible assumption | (apply RdF.aok; with_reducible assumption) | (apply RdF.aok; apply OwF.rdF; with_reducible assumption)) (by omega) (by omega) ?_
      refine ldF rfl (by first | with_reducible assumption | ((try first | with_reducible apply RdF.sub | with_reducible apply RdF.sub0) <;> first | with_reducible assumption | (apply RdF.mono; (· (with_reducible assumption)); · (try simp only [List.cons_append, List.nil_append, List.append_assoc]); repeat' first | with_reducible apply eR | with_reducible apply eA | ((with_reducible apply xA); · repeat first | with_reducible apply lH | with_reducible apply lT | with_reducible apply lL) | ((with_reducible apply xC); · repeat first | apply pH | with_reducible apply pT | with_reducible apply pL) | with_reducible assumption | with_reducible apply eS | with_reducible apply eL | exact eR) | (apply RdF.mono; (· (apply OwF.rdF; with_reducible assumption)); · (try simp only [List.cons_append, List.nil_append, List.append_assoc]); repeat' first | with_reducible apply eR | with_reducible apply eA | ((with_reducible apply xA); · repeat first | with_reducible apply lH | with_reducible apply lT | with_reducible apply lL) | ((with_reducible apply xC); · repeat first | apply pH | with_reducible apply pT | with_reducible apply pL) | with_reducible assumption | with_reducible apply eS | with_reducible apply eL | exact eR) | (apply RdF.ownm; (· repeat first | with_reducible assumption | with_reducible apply List.mem_cons_self | with_reducible apply List.mem_cons_of_mem | with_reducible apply List.mem_append_right | exact List.Mem.head _); · first | rfl | with_reducible assumption | omega | simp [*]) | with_reducible assumption | omega | (simp; done) | (simp; omega) | (simp only [Bool.and_eq_true, inB_iff] at *; omega))) (by first | with_reducible assumption | omega) ?_
      refine fMl rfl rfl ?_
      refine fAd rfl rfl ?_
      refine asg rfl ?_
      refine rN ?_
      refine qBN ?_
      refine qN ?_
      refine cR ?_
      refine mv rfl ?_
      first | refine rAn (b := 1) rfl rfl (by omega) ?_ | refine rA rfl rfl (by omega) (by omega) ?_ | refine bAdd rfl rfl ?_
      refine asg rfl ?_
      refine rN ?_
      refine qL2 (i + 1) (_) ?_ (by omega) (by repeat first | exact Sub.nil _ | refine Sub.cons rfl ?_) (by (try simp only [List.cons_append, List.nil_append, List.append_assoc]); repeat' first | with_reducible apply eR | with_reducible apply eA | ((with_reducible apply xA); · repeat first | with_reducible apply lH | with_reducible apply lT | with_reducible apply lL) | ((with_reducible apply xC); · repeat first | apply pH | with_reducible apply pT | with_reducible apply pL) | with_reducible assumption | with_reducible apply eS | with_reducible apply eL | exact eR)
      refine ⟨by omega, by rw [hs]; rfl⟩
    · have c2' := c2; try simp only [inB_iff, Bool.and_eq_true, decide_eq_true_eq, decide_eq_false_iff_not, beq_iff_eq, beq_eq_false_iff_ne, bne_iff_ne, bne_eq_false_iff_eq, ne_eq] at c2'
      have : i = xss.length := by omega
      subst this
      refine cX ?_
      refine qX ?_
      refine qL2X ?_
      refine qBX ?_
      refine qBN ?_
      refine qN ?_
      refine cR ?_
      refine mv rfl ?_
      first | refine rAn (b := 1) rfl rfl (by omega) ?_ | refine rA rfl rfl (by omega) (by omega) ?_ | refine bAdd rfl rfl ?_
      refine asg rfl ?_
      refine rN ?_
      refine qL4 (j + 1) (_) (_) (_) ?_ (by omega) (by repeat first | exact Sub.nil _ | refine Sub.cons rfl ?_) (by (try simp only [List.cons_append, List.nil_append, List.append_assoc]); repeat' first | with_reducible apply eR | with_reducible apply eA | ((with_reducible apply xA); · repeat first | with_reducible apply lH | with_reducible apply lT | with_reducible apply lL) | ((with_reducible apply xC); · repeat first | apply pH | with_reducible apply pT | with_reducible apply pL) | with_reducible assumption | with_reducible apply eS | with_reducible apply eL | exact eR)
      refine ⟨by omega, by omega, by rw [ho, hq]; rfl, by rw [hs, hq]; rfl⟩
  · have c1' := c1; try simp only [inB_iff, Bool.and_eq_true, decide_eq_true_eq, decide_eq_false_iff_not, beq_iff_eq, beq_eq_false_iff_ne, bne_iff_ne, bne_eq_false_iff_eq, ne_eq] at c1'
    have hj2 : j = seN t tick reach := by omega
    subst hj2
    subst ho ha
    refine cX ?_
    refine qX ?_
    refine qL4X ?_
    refine qBX ?_
    refine qN ?_
    refine cS (cR ?_)
    refine mv rfl ?_
    refine nk rfl ?_
    refine fA rfl ?_
    first | refine rL rfl (by repeat first | with_reducible assumption | with_reducible apply List.mem_cons_self | with_reducible apply List.mem_cons_of_mem | with_reducible apply List.mem_append_right | exact List.Mem.head _) rfl rfl ?_ | refine rL rfl (by repeat first | with_reducible assumption | with_reducible apply List.mem_cons_self | with_reducible apply List.mem_cons_of_mem | with_reducible apply List.mem_append_right | exact List.Mem.head _) (by with_reducible assumption) rfl ?_
    refine ln rfl ?_
    refine rp rfl ?_
    refine mv rfl ?_
    refine fMl rfl rfl ?_
    refine asg rfl ?_
    refine rN ?_
    refine qN ?_
    refine cS ?_
    refine cS (cR ?_)
    refine mv rfl ?_
    refine fCm rfl rfl rfl ?_
    refine uNot rfl ?_
    refine rN ?_
    refine qN ?_
    refine cC rfl (fun hr => ?_) (fun hr => ?_)
    · replace hr := not_t hr
      have hr' := hr; try simp only [inB_iff, Bool.and_eq_true, decide_eq_true_eq, decide_eq_false_iff_not, beq_iff_eq, beq_eq_false_iff_ne, bne_iff_ne, bne_eq_false_iff_eq, ne_eq] at hr'
      refine cS (cR ?_)
      refine asg rfl ?_
      refine rN ?_
      refine qN ?_
      refine cE ?_
      refine qE ?_
      refine kE rfl rfl  ?_
      first | (exfalso; contradiction) | exact ⟨_, ⟨by rw [seF_no hr], rfl⟩, (by (try simp only [List.cons_append, List.nil_append, List.append_assoc]); repeat' first | with_reducible apply eR | with_reducible apply eA | ((with_reducible apply xA); · repeat first | with_reducible apply lH | with_reducible apply lT | with_reducible apply lL) | ((with_reducible apply xC); · repeat first | apply pH | with_reducible apply pT | with_reducible apply pL) | with_reducible assumption | with_reducible apply eS | with_reducible apply eL | exact eR)⟩ | (exfalso; first | contradiction | omega | (simp_all; done) | (simp_all; omega))
    · replace hr := not_f hr
      have hr' := hr; try simp only [inB_iff, Bool.and_eq_true, decide_eq_true_eq, decide_eq_false_iff_not, beq_iff_eq, beq_eq_false_iff_ne, bne_iff_ne, bne_eq_false_iff_eq, ne_eq] at hr'
      refine cK ?_
      refine qN ?_
      refine cS (cR ?_)
      refine mv rfl ?_
      refine mv rfl ?_
      refine fDv rfl rfl ?_
      refine asg rfl ?_
      refine rN ?_
      refine qN ?_
      refine cE ?_
      refine kE rfl rfl  ?_
      first | (exfalso; contradiction) | exact ⟨_, ⟨by rw [seF_yes hr]; rfl, rfl⟩, (by (try simp only [List.cons_append, List.nil_append, List.append_assoc]); repeat' first | with_reducible apply eR | with_reducible apply eA | ((with_reducible apply xA); · repeat first | with_reducible apply lH | with_reducible apply lT | with_reducible apply lL) | ((with_reducible apply xC); · repeat first | apply pH | with_reducible apply pT | with_reducible apply pL) | with_reducible assumption | with_reducible apply eS | with_reducible apply eL | exact eR)⟩ | (exfalso; first | contradiction | omega | (simp_all; done) | (simp_all; omega))
/-! ## speeds tried out -/
theorem anyP_yes {ss : List Nat} {i : Nat} (hi : i < ss.length) (h : poB (ss.getD i 0) = false) : (ss.any fun x => !poB x) = true :=
  List.any_eq_true.2 ⟨ss.getD i 0, by simp [List.getD, hi], by simp only [h]; rfl⟩
theorem anyP_no {ss : List Nat} (h : ∀ j, j < ss.length → poB (ss.getD j 0) = true) : (ss.any fun x => !poB x) = false := by
  rw [List.any_eq_false]
  intro x hx
  obtain ⟨j, hj, rfl⟩ := List.getElem_of_mem hx
  have := h j hj
  have e : ss.getD j 0 = ss[j] := by simp [List.getD, hj]
  rw [e] at this
  rw [this]; decide
def spdB (ss : List Nat) : Bool := inB (ss.length : Nat) 1 16 && !(ss.any fun x => !poB x)
def scanB (t : Int) (ps : List Nat) (xss : List (List Nat)) (ss : List Nat) (tick reach : Int) : Bool := vgB t ps xss && spdB ss && winB t tick reach
def scanV (t : Int) (ps : List Nat) (xss : List (List Nat)) (ss : List Nat) (tick reach : Int) (i : Nat) : Nat := seF t (tabL xss.length (coG ps xss (ss.getD i 0))) tick reach
def scanF (t : Int) (ps : List Nat) (xss : List (List Nat)) (ss : List Nat) (tick reach : Int) : List Nat := tab ss.length (scanV t ps xss ss tick reach)
theorem coG_len {t : Int} {ps : List Nat} {xss : List (List Nat)} {sp : Nat} (v5 : ∀ i, i < xss.length → ((xss.getD i []).length : Int) = t) : ∀ i, i < (tabL xss.length (coG ps xss sp)).length → (((tabL xss.length (coG ps xss sp)).getD i []).length : Int) = t := by
  intro i hi
  rw [tabL_len] at hi
  rw [tabL_get hi, coG, coF, tab_len]
  exact v5 i hi
-- @reg spec.l04Speeds : c_l04Speeds _ _ _ _ _ @RD@ @BD@
theorem c_l04Speeds (a : Option Addr) (n c : Nat) (ss : List Nat) (M : Mem) (h : RdF M a n ss) (hn : n ≤ 9223372036854775807) :
    ACall Try.prog 31 [.slice a n c] M fun v M' => v = .bool (spdB ss) ∧ M' = M := by
  obtain ⟨rfl, _⟩ := id h
  unfold spdB
  refine acall_of_awp Try.func31 rfl Try.ntmps31 rfl ?_
  refine cS (cR ?_)
  refine asg rfl ?_
  refine rN ?_
  refine qN ?_
  refine cS ?_
  refine cS (cR ?_)
  refine asg rfl ?_
  refine rN ?_
  refine qN ?_
  refine cB ?_
  refine cL1 (fun (i : Nat) => [(3, .int .i64 (i : Nat))]) [(0, _)] (fun (i : Nat) => M) (fun (i : Nat) => ss.length - i) (fun (i : Nat) => i ≤ ss.length ∧ (∀ j, j < i → poB (ss.getD j 0) = true)) (0) (by repeat first | exact Sub.nil _ | refine Sub.cons rfl ?_) (by (try simp only [List.cons_append, List.nil_append, List.append_assoc]); repeat' first | with_reducible apply eR | with_reducible apply eA | ((with_reducible apply xA); · repeat first | with_reducible apply lH | with_reducible apply lT | with_reducible apply lL) | ((with_reducible apply xC); · repeat first | apply pH | with_reducible apply pT | with_reducible apply pL) | with_reducible assumption | with_reducible apply eS | with_reducible apply eL | exact eR) (by exact ⟨Nat.zero_le _, fun j hj => by omega⟩) ?_
  rintro i ⟨hi, hb⟩
  refine wT (T' := [(3, _), (0, _)]) rfl ?_
  refine cS ?_
  refine cS (cR ?_)
  refine mv rfl ?_
  refine mv rfl ?_
  refine ln rfl ?_
  refine bLss rfl rfl ?_
  refine rN ?_
  refine qN ?_
  refine cC rfl (fun c1 => ?_) (fun c1 => ?_)
  · have c1' := c1; try simp only [inB_iff, Bool.and_eq_true, decide_eq_true_eq, decide_eq_false_iff_not, beq_iff_eq, beq_eq_false_iff_ne, bne_iff_ne, bne_eq_false_iff_eq, ne_eq] at c1'
    have hi2 : i < ss.length := by omega
    refine cK ?_
    refine qN ?_
    refine cS ?_
    refine cB ?_
    refine cS (cR ?_)
    refine mv rfl ?_
    refine mv rfl ?_
    first
      | refine ixN rfl rfl (by first | exact AOk.own | (apply RdD.aok; with_reducible assumption) | (apply RdD.aok; apply OwD.rdD; with_reducible assumption) | (apply RdI.aok; with_reducible assumption) | (apply RdW.aok; with_reducible assumption) | (apply RdI.aok; apply OwI.rdI; with_reducible assumption) | with_reducible assumption | (apply RdF.aok; with_reducible assumption) | (apply RdF.aok; apply OwF.rdF; with_reducible assumption)) (by first | with_reducible assumption | omega) ?_
      | refine ixI rfl rfl (by first | exact AOk.own | (apply RdD.aok; with_reducible assumption) | (apply RdD.aok; apply OwD.rdD; with_reducible assumption) | (apply RdI.aok; with_reducible assumption) | (apply RdW.aok; with_reducible assumption) | (apply RdI.aok; apply OwI.rdI; with_reducible assumption) | with_reducible assumption | (apply RdF.aok; with_reducible assumption) | (apply RdF.aok; apply OwF.rdF; with_reducible assumption)) (by omega) (by omega) ?_
    refine ldF rfl (by first | with_reducible assumption | ((try first | with_reducible apply RdF.sub | with_reducible apply RdF.sub0) <;> first | with_reducible assumption | (apply RdF.mono; (· (with_reducible assumption)); · (try simp only [List.cons_append, List.nil_append, List.append_assoc]); repeat' first | with_reducible apply eR | with_reducible apply eA | ((with_reducible apply xA); · repeat first | with_reducible apply lH | with_reducible apply lT | with_reducible apply lL) | ((with_reducible apply xC); · repeat first | apply pH | with_reducible apply pT | with_reducible apply pL) | with_reducible assumption | with_reducible apply eS | with_reducible apply eL | exact eR) | (apply RdF.mono; (· (apply OwF.rdF; with_reducible assumption)); · (try simp only [List.cons_append, List.nil_append, List.append_assoc]); repeat' first | with_reducible apply eR | with_reducible apply eA | ((with_reducible apply xA); · repeat first | with_reducible apply lH | with_reducible apply lT | with_reducible apply lL) | ((with_reducible apply xC); · repeat first | apply pH | with_reducible apply pT | with_reducible apply pL) | with_reducible assumption | with_reducible apply eS | with_reducible apply eL | exact eR) | (apply RdF.ownm; (· repeat first | with_reducible assumption | with_reducible apply List.mem_cons_self | with_reducible apply List.mem_cons_of_mem | with_reducible apply List.mem_append_right | exact List.Mem.head _); · first | rfl | with_reducible assumption | omega | simp [*]) | with_reducible assumption | omega | (simp; done) | (simp; omega) | (simp only [Bool.and_eq_true, inB_iff] at *; omega))) (by first | with_reducible assumption | omega) ?_
    refine rCq rfl (c_l02Above _ _) ?_
    refine uNot rfl ?_
    refine rN ?_
    refine qN ?_
    refine cC rfl (fun hp => ?_) (fun hp => ?_)
    · replace hp := not_t hp
      have hp' := hp; try simp only [inB_iff, Bool.and_eq_true, decide_eq_true_eq, decide_eq_false_iff_not, beq_iff_eq, beq_eq_false_iff_ne, bne_iff_ne, bne_eq_false_iff_eq, ne_eq] at hp'
      refine cS (cR ?_)
      refine asg rfl ?_
      refine rN ?_
      refine qN ?_
      refine cE ?_
      refine qBE ?_
      refine qE ?_
      refine qL1E ?_
      refine qBE ?_
      refine qE ?_
      refine kE rfl rfl  ?_
      first | (exfalso; contradiction) | exact ⟨_, ⟨by rw [anyP_yes hi2 hp]; simp, rfl⟩, (by (try simp only [List.cons_append, List.nil_append, List.append_assoc]); repeat' first | with_reducible apply eR | with_reducible apply eA | ((with_reducible apply xA); · repeat first | with_reducible apply lH | with_reducible apply lT | with_reducible apply lL) | ((with_reducible apply xC); · repeat first | apply pH | with_reducible apply pT | with_reducible apply pL) | with_reducible assumption | with_reducible apply eS | with_reducible apply eL | exact eR)⟩ | (exfalso; first | contradiction | omega | (simp_all; done) | (simp_all; omega))
    · replace hp := not_f hp
      have hp' := hp; try simp only [inB_iff, Bool.and_eq_true, decide_eq_true_eq, decide_eq_false_iff_not, beq_iff_eq, beq_eq_false_iff_ne, bne_iff_ne, bne_eq_false_iff_eq, ne_eq] at hp'
      refine cK ?_
      refine qBN ?_
      refine qN ?_
      refine cR ?_
      refine mv rfl ?_
      first | refine rAn (b := 1) rfl rfl (by omega) ?_ | refine rA rfl rfl (by omega) (by omega) ?_ | refine bAdd rfl rfl ?_
      refine asg rfl ?_
      refine rN ?_
      refine qL1 (i + 1) ?_ (by omega) (by repeat first | exact Sub.nil _ | refine Sub.cons rfl ?_) (by (try simp only [List.cons_append, List.nil_append, List.append_assoc]); repeat' first | with_reducible apply eR | with_reducible apply eA | ((with_reducible apply xA); · repeat first | with_reducible apply lH | with_reducible apply lT | with_reducible apply lL) | ((with_reducible apply xC); · repeat first | apply pH | with_reducible apply pT | with_reducible apply pL) | with_reducible assumption | with_reducible apply eS | with_reducible apply eL | exact eR)
      refine ⟨by omega, fun j hj => ?_⟩
      by_cases e : j = i
      · subst e; exact hp
      · exact hb j (by omega)
  · have c1' := c1; try simp only [inB_iff, Bool.and_eq_true, decide_eq_true_eq, decide_eq_false_iff_not, beq_iff_eq, beq_eq_false_iff_ne, bne_iff_ne, bne_eq_false_iff_eq, ne_eq] at c1'
    have : i = ss.length := by omega
    subst this
    rw [anyP_no hb]
    refine cX ?_
    refine qX ?_
    refine qL1X ?_
    refine qBX ?_
    refine qN ?_
    refine cS (cR ?_)
    refine mv rfl ?_
    refine ln rfl ?_
    refine bGeq rfl rfl ?_
    refine mv rfl ?_
    refine gC rfl rfl (fun c2 => ?_) (fun c2 => ?_)
    · have c2' := c2; try simp only [inB_iff, Bool.and_eq_true, decide_eq_true_eq, decide_eq_false_iff_not, beq_iff_eq, beq_eq_false_iff_ne, bne_iff_ne, bne_eq_false_iff_eq, ne_eq] at c2'
      refine gG rfl rfl c2 ?_
      refine mv rfl ?_
      refine gG rfl rfl c2 ?_
      refine ln rfl ?_
      refine gG rfl rfl c2 ?_
      refine bLeq rfl rfl ?_
      refine kT rfl c2 rfl ?_
      refine asg rfl ?_
      refine rN ?_
      refine qN ?_
      refine cE ?_
      refine kE rfl rfl  ?_
      first | (exfalso; contradiction) | exact ⟨_, ⟨by first | (simp [inB, *]; done) | (simp [inB, *]; omega), rfl⟩, (by (try simp only [List.cons_append, List.nil_append, List.append_assoc]); repeat' first | with_reducible apply eR | with_reducible apply eA | ((with_reducible apply xA); · repeat first | with_reducible apply lH | with_reducible apply lT | with_reducible apply lL) | ((with_reducible apply xC); · repeat first | apply pH | with_reducible apply pT | with_reducible apply pL) | with_reducible assumption | with_reducible apply eS | with_reducible apply eL | exact eR)⟩ | (exfalso; first | contradiction | omega | (simp_all; done) | (simp_all; omega))
    · have c2' := c2; try simp only [inB_iff, Bool.and_eq_true, decide_eq_true_eq, decide_eq_false_iff_not, beq_iff_eq, beq_eq_false_iff_ne, bne_iff_ne, bne_eq_false_iff_eq, ne_eq] at c2'
      refine gS rfl rfl c2 ?_
      refine gS rfl rfl c2 ?_
      refine gS rfl rfl c2 ?_
      refine kF rfl c2 rfl ?_
      refine asg rfl ?_
      refine rN ?_
      refine qN ?_
      refine cE ?_
      refine kE rfl rfl  ?_
      first | (exfalso; contradiction) | exact ⟨_, ⟨by first | (simp [inB, *]; done) | (simp [inB, *]; omega), rfl⟩, (by (try simp only [List.cons_append, List.nil_append, List.append_assoc]); repeat' first | with_reducible apply eR | with_reducible apply eA | ((with_reducible apply xA); · repeat first | with_reducible apply lH | with_reducible apply lT | with_reducible apply lL) | ((with_reducible apply xC); · repeat first | apply pH | with_reducible apply pT | with_reducible apply pL) | with_reducible assumption | with_reducible apply eS | with_reducible apply eL | exact eR)⟩ | (exfalso; first | contradiction | omega | (simp_all; done) | (simp_all; omega))
theorem c_l04Scan (b : Nat) (wr : Bool) (t : Int) (ap at' aS : Option Addr) (np nt nS cp ct cZ : Nat) (ps : List Nat) (xss : List (List Nat)) (ss : List Nat) (tick reach : Int) (M : Mem) (hmm : (b, (⟨[.int .i64 t, .slice ap np cp, .slice at' nt ct], wr⟩ : Blk)) ∈ M) (h : RdF M ap np ps) (h' : RdD M at' nt xss) (hs : RdF M aS nS ss) (hv : vgB t ps xss = true) (hw : winB t tick reach = true) (hn : nS ≤ 16) :
    ACall Try.prog 33 [.pointer (some ⟨b, 0, none⟩), .slice aS nS cZ, .int .i64 tick, .int .i64 reach] M fun v M' => ∃ L, OwF L v (scanF t ps xss ss tick reach) ∧ M' = L ++ M := by
  obtain ⟨rfl, _⟩ := id h
  obtain ⟨rfl, _⟩ := id h'
  obtain ⟨rfl, _⟩ := id hs
  obtain ⟨v1, v2, v3, v4, v5, v6⟩ := vgB_iff hv
  refine acall_of_awp Try.func33 rfl Try.ntmps33 rfl ?_
  refine cS (cR ?_)
  refine asg rfl ?_
  refine rN ?_
  refine qN ?_
  refine cS (cR ?_)
  refine rBS rfl rfl rfl rfl rfl ?_; intro bk1
  have how1 : OwF [(bk1, FB [] [])] (.slice (some ⟨bk1, 0, none⟩) 0 0) [] := OwF.blk rfl
  refine asg rfl ?_
  refine rN ?_
  refine qN ?_
  refine cS ?_
  refine cS (cR ?_)
  refine asg rfl ?_
  refine rN ?_
  refine qN ?_
  refine cB ?_
  refine cL3 (fun (i : Nat) (s : Value) (L : Mem) => [(10, .int .i64 (i : Nat)), (9, s)]) [(0, _), (1, _), (2, _), (3, _)] (fun (i : Nat) (s : Value) (L : Mem) => L ++ M) (fun (i : Nat) (s : Value) (L : Mem) => ss.length - i) (fun (i : Nat) (s : Value) (L : Mem) => i ≤ ss.length ∧ OwF L s (tab i (scanV t ps xss ss tick reach))) (0) (_) ([(bk1, FB [] [])]) (by repeat first | exact Sub.nil _ | refine Sub.cons rfl ?_) (by (try simp only [List.cons_append, List.nil_append, List.append_assoc]); repeat' first | with_reducible apply eR | with_reducible apply eA | ((with_reducible apply xA); · repeat first | with_reducible apply lH | with_reducible apply lT | with_reducible apply lL) | ((with_reducible apply xC); · repeat first | apply pH | with_reducible apply pT | with_reducible apply pL) | with_reducible assumption | with_reducible apply eS | with_reducible apply eL | exact eR) (by exact ⟨Nat.zero_le _, how1⟩) ?_
  rintro i s L ⟨hi, hz⟩
  refine wT (T' := [(10, _), (9, _), (0, _), (1, _), (2, _), (3, _)]) rfl ?_
  refine cS ?_
  refine cS (cR ?_)
  refine mv rfl ?_
  refine mv rfl ?_
  refine ln rfl ?_
  refine bLss rfl rfl ?_
  refine rN ?_
  refine qN ?_
  obtain ⟨a7, c7, rfl, hrd7⟩ := hz.rd
  refine cC rfl (fun c1 => ?_) (fun c1 => ?_)
  · have c1' := c1; try simp only [inB_iff, Bool.and_eq_true, decide_eq_true_eq, decide_eq_false_iff_not, beq_iff_eq, beq_eq_false_iff_ne, bne_iff_ne, bne_eq_false_iff_eq, ne_eq] at c1'
    have hi2 : i < ss.length := by omega
    refine cK ?_
    refine qN ?_
    refine cS ?_
    refine cB ?_
    refine cS (cR ?_)
    refine mv rfl ?_
    refine mv rfl ?_
    refine mv rfl ?_
    first
      | refine ixN rfl rfl (by first | exact AOk.own | (apply RdD.aok; with_reducible assumption) | (apply RdD.aok; apply OwD.rdD; with_reducible assumption) | (apply RdI.aok; with_reducible assumption) | (apply RdW.aok; with_reducible assumption) | (apply RdI.aok; apply OwI.rdI; with_reducible assumption) | with_reducible assumption | (apply RdF.aok; with_reducible assumption) | (apply RdF.aok; apply OwF.rdF; with_reducible assumption)) (by first | with_reducible assumption | omega) ?_
      | refine ixI rfl rfl (by first | exact AOk.own | (apply RdD.aok; with_reducible assumption) | (apply RdD.aok; apply OwD.rdD; with_reducible assumption) | (apply RdI.aok; with_reducible assumption) | (apply RdW.aok; with_reducible assumption) | (apply RdI.aok; apply OwI.rdI; with_reducible assumption) | with_reducible assumption | (apply RdF.aok; with_reducible assumption) | (apply RdF.aok; apply OwF.rdF; with_reducible assumption)) (by omega) (by omega) ?_
    refine ldF rfl (by first | with_reducible assumption | ((try first | with_reducible apply RdF.sub | with_reducible apply RdF.sub0) <;> first | with_reducible assumption | (apply RdF.mono; (· (with_reducible assumption)); · (try simp only [List.cons_append, List.nil_append, List.append_assoc]); repeat' first | with_reducible apply eR | with_reducible apply eA | ((with_reducible apply xA); · repeat first | with_reducible apply lH | with_reducible apply lT | with_reducible apply lL) | ((with_reducible apply xC); · repeat first | apply pH | with_reducible apply pT | with_reducible apply pL) | with_reducible assumption | with_reducible apply eS | with_reducible apply eL | exact eR) | (apply RdF.mono; (· (apply OwF.rdF; with_reducible assumption)); · (try simp only [List.cons_append, List.nil_append, List.append_assoc]); repeat' first | with_reducible apply eR | with_reducible apply eA | ((with_reducible apply xA); · repeat first | with_reducible apply lH | with_reducible apply lT | with_reducible apply lL) | ((with_reducible apply xC); · repeat first | apply pH | with_reducible apply pT | with_reducible apply pL) | with_reducible assumption | with_reducible apply eS | with_reducible apply eL | exact eR) | (apply RdF.ownm; (· repeat first | with_reducible assumption | with_reducible apply List.mem_cons_self | with_reducible apply List.mem_cons_of_mem | with_reducible apply List.mem_append_right | exact List.Mem.head _); · first | rfl | with_reducible assumption | omega | simp [*]) | with_reducible assumption | omega | (simp; done) | (simp; omega) | (simp only [Bool.and_eq_true, inB_iff] at *; omega))) (by first | with_reducible assumption | omega) ?_
    refine rC rfl (c_l04AllCorrect _ _ _ _ _ _ _ _ _ ps xss _ _ (by repeat first | with_reducible assumption | with_reducible apply List.mem_cons_self | with_reducible apply List.mem_cons_of_mem | with_reducible apply List.mem_append_right | exact List.Mem.head _) (by first | with_reducible assumption | ((try first | with_reducible apply RdF.sub | with_reducible apply RdF.sub0) <;> first | with_reducible assumption | (apply RdF.mono; (· (with_reducible assumption)); · (try simp only [List.cons_append, List.nil_append, List.append_assoc]); repeat' first | with_reducible apply eR | with_reducible apply eA | ((with_reducible apply xA); · repeat first | with_reducible apply lH | with_reducible apply lT | with_reducible apply lL) | ((with_reducible apply xC); · repeat first | apply pH | with_reducible apply pT | with_reducible apply pL) | with_reducible assumption | with_reducible apply eS | with_reducible apply eL | exact eR) | (apply RdF.mono; (· (apply OwF.rdF; with_reducible assumption)); · (try simp only [List.cons_append, List.nil_append, List.append_assoc]); repeat' first | with_reducible apply eR | with_reducible apply eA | ((with_reducible apply xA); · repeat first | with_reducible apply lH | with_reducible apply lT | with_reducible apply lL) | ((with_reducible apply xC); · repeat first | apply pH | with_reducible apply pT | with_reducible apply pL) | with_reducible assumption | with_reducible apply eS | with_reducible apply eL | exact eR) | (apply RdF.ownm; (· repeat first | with_reducible assumption | with_reducible apply List.mem_cons_self | with_reducible apply List.mem_cons_of_mem | with_reducible apply List.mem_append_right | exact List.Mem.head _); · first | rfl | with_reducible assumption | omega | simp [*]) | with_reducible assumption | omega | (simp; done) | (simp; omega) | (simp only [Bool.and_eq_true, inB_iff] at *; omega))) (by (first | with_reducible assumption | (apply RdD.mono; (· with_reducible assumption); · (try simp only [List.cons_append, List.nil_append, List.append_assoc]); repeat' first | with_reducible apply eR | with_reducible apply eA | ((with_reducible apply xA); · repeat first | with_reducible apply lH | with_reducible apply lT | with_reducible apply lL) | ((with_reducible apply xC); · repeat first | apply pH | with_reducible apply pT | with_reducible apply pL) | with_reducible assumption | with_reducible apply eS | with_reducible apply eL | exact eR) | (apply RdD.mono; (· (apply OwD.rdD; with_reducible assumption)); · (try simp only [List.cons_append, List.nil_append, List.append_assoc]); repeat' first | with_reducible apply eR | with_reducible apply eA | ((with_reducible apply xA); · repeat first | with_reducible apply lH | with_reducible apply lT | with_reducible apply lL) | ((with_reducible apply xC); · repeat first | apply pH | with_reducible apply pT | with_reducible apply pL) | with_reducible assumption | with_reducible apply eS | with_reducible apply eL | exact eR))) hv) ?_
    rintro _ _ ⟨lk9, ⟨sv9, tv9, rfl, how9⟩, rfl⟩
    refine ⟨fun _ => (by (try simp only [List.cons_append, List.nil_append, List.append_assoc]); repeat' first | with_reducible apply eR | with_reducible apply eA | ((with_reducible apply xA); · repeat first | with_reducible apply lH | with_reducible apply lT | with_reducible apply lL) | ((with_reducible apply xC); · repeat first | apply pH | with_reducible apply pT | with_reducible apply pL) | with_reducible assumption | with_reducible apply eS | with_reducible apply eL | exact eR), ?_⟩
    obtain ⟨ad9, cn9, at9, ct9, rfl, rfl, hrd9, hrt9⟩ := how9.rd
    refine rO ?_; intro bk2
    refine tA rfl rfl rfl (by repeat first | apply pH | with_reducible apply pT | with_reducible apply pL) (by rfl) (by rfl) ?_
    refine rN ?_
    refine qN ?_
    refine cR ?_
    refine mv rfl ?_
    refine mv rfl ?_
    refine mv rfl ?_
    have hlen := coG_len (ps := ps) (sp := ss.getD i 0) v5
    have hl2 := tabL_len xss.length (coG ps xss (ss.getD i 0))
    refine rCq rfl (c_l04Semblance _ _ _ _ _ _ _ _ _ _ _ _ _ (by repeat first | with_reducible assumption | with_reducible apply List.mem_cons_self | with_reducible apply List.mem_cons_of_mem | with_reducible apply List.mem_append_right | exact List.Mem.head _) (by (first | with_reducible assumption | (apply RdD.mono; (· with_reducible assumption); · (try simp only [List.cons_append, List.nil_append, List.append_assoc]); repeat' first | with_reducible apply eR | with_reducible apply eA | ((with_reducible apply xA); · repeat first | with_reducible apply lH | with_reducible apply lT | with_reducible apply lL) | ((with_reducible apply xC); · repeat first | apply pH | with_reducible apply pT | with_reducible apply pL) | with_reducible assumption | with_reducible apply eS | with_reducible apply eL | exact eR) | (apply RdD.mono; (· (apply OwD.rdD; with_reducible assumption)); · (try simp only [List.cons_append, List.nil_append, List.append_assoc]); repeat' first | with_reducible apply eR | with_reducible apply eA | ((with_reducible apply xA); · repeat first | with_reducible apply lH | with_reducible apply lT | with_reducible apply lL) | ((with_reducible apply xC); · repeat first | apply pH | with_reducible apply pT | with_reducible apply pL) | with_reducible assumption | with_reducible apply eS | with_reducible apply eL | exact eR))) (by omega) hw (by omega) hlen) ?_
    refine apFp (by intro _ h; cases h <;> rfl) rfl (fun _ => rfl) rfl (by with_reducible assumption) (by repeat first | with_reducible apply pmH | with_reducible apply pmT | with_reducible apply pmL) (by first | omega | (simp only [tab_len, List.length_append, List.length_map, List.length_range, List.length_replicate, List.length_cons, List.length_nil]; omega) | (simp; omega)) (by first | omega | (simp only [tab_len, List.length_append, List.length_map, List.length_range, List.length_replicate, List.length_cons, List.length_nil]; omega) | (simp; omega)) ?_
    intro bk3 sv3 lk3 how3; have hln3 := how3.len1; obtain ⟨ad3, cn3, rfl, hrd3⟩ := how3.rd
    have hcn3 := how3.capl
    refine asg rfl ?_
    refine rN ?_
    refine qBN ?_
    refine qN ?_
    refine cR ?_
    refine mv rfl ?_
    first | refine rAn (b := 1) rfl rfl (by omega) ?_ | refine rA rfl rfl (by omega) (by omega) ?_ | refine bAdd rfl rfl ?_
    refine asg rfl ?_
    refine rN ?_
    refine qL3 (i + 1) (_) (_) ?_ (by omega) (by repeat first | exact Sub.nil _ | refine Sub.cons rfl ?_) (by (try simp only [List.cons_append, List.nil_append, List.append_assoc]); repeat' first | with_reducible apply eR | with_reducible apply eA | ((with_reducible apply xA); · repeat first | with_reducible apply lH | with_reducible apply lT | with_reducible apply lL) | ((with_reducible apply xC); · repeat first | apply pH | with_reducible apply pT | with_reducible apply pL) | with_reducible assumption | with_reducible apply eS | with_reducible apply eL | exact eR)
    refine ⟨by omega, ?_⟩
    rw [tab_succ]
    assumption
  · have c1' := c1; try simp only [inB_iff, Bool.and_eq_true, decide_eq_true_eq, decide_eq_false_iff_not, beq_iff_eq, beq_eq_false_iff_ne, bne_iff_ne, bne_eq_false_iff_eq, ne_eq] at c1'
    have : i = ss.length := by omega
    subst this
    refine cX ?_
    refine qX ?_
    refine qL3X ?_
    refine qBX ?_
    refine qN ?_
    refine cS (cR ?_)
    refine mv rfl ?_
    refine asg rfl ?_
    refine rN ?_
    refine qN ?_
    refine cE ?_
    refine kE rfl rfl  ?_
    first | (exfalso; contradiction) | exact ⟨_, ⟨_, hz, rfl⟩, (by (try simp only [List.cons_append, List.nil_append, List.append_assoc]); repeat' first | with_reducible apply eR | with_reducible apply eA | ((with_reducible apply xA); · repeat first | with_reducible apply lH | with_reducible apply lT | with_reducible apply lL) | ((with_reducible apply xC); · repeat first | apply pH | with_reducible apply pT | with_reducible apply pL) | with_reducible assumption | with_reducible apply eS | with_reducible apply eL | exact eR)⟩ | (exfalso; first | contradiction | omega | (simp_all; done) | (simp_all; omega))
theorem c_specScanSpeeds (t : Int) (ap at' aS : Option Addr) (np nt nS cp ct cZ : Nat) (ps : List Nat) (xss : List (List Nat)) (ss : List Nat) (tick reach : Int) (M : Mem) (h : RdF M ap np ps) (h' : RdD M at' nt xss) (hs : RdF M aS nS ss) (hn : np ≤ 1073741824 ∧ nt ≤ 1073741824 ∧ nS ≤ 1073741824) :
    ACall Try.prog 9 [.agg #[.int .i64 t, .slice ap np cp, .slice at' nt ct], .slice aS nS cZ, .int .i64 tick, .int .i64 reach] M fun v M' => ∃ L, ResF (scanB t ps xss ss tick reach) (scanF t ps xss ss tick reach) v L ∧ M' = L ++ M := by
  obtain ⟨rfl, _⟩ := id h
  obtain ⟨rfl, _⟩ := id h'
  obtain ⟨rfl, _⟩ := id hs
  obtain ⟨hn1, hn2, hn3⟩ := hn
  refine acall_of_awp Try.func9 rfl Try.ntmps9 rfl ?_
  refine cS (cR ?_)
  first | (refine rXa rfl ?_; intro bk1) | (refine rX rfl rfl ?_; intro bk1)
  refine asg rfl ?_
  refine asg rfl ?_
  refine rN ?_
  refine qN ?_
  refine cS ?_
  refine cS (cR ?_)
  refine rCq rfl (c_l04Is _ _ _ _ _ _ _ _ _ _ _ _ (by repeat first | with_reducible assumption | with_reducible apply List.mem_cons_self | with_reducible apply List.mem_cons_of_mem | with_reducible apply List.mem_append_right | exact List.Mem.head _) (by first | with_reducible assumption | ((try first | with_reducible apply RdF.sub | with_reducible apply RdF.sub0) <;> first | with_reducible assumption | (apply RdF.mono; (· (with_reducible assumption)); · (try simp only [List.cons_append, List.nil_append, List.append_assoc]); repeat' first | with_reducible apply eR | with_reducible apply eA | ((with_reducible apply xA); · repeat first | with_reducible apply lH | with_reducible apply lT | with_reducible apply lL) | ((with_reducible apply xC); · repeat first | apply pH | with_reducible apply pT | with_reducible apply pL) | with_reducible assumption | with_reducible apply eS | with_reducible apply eL | exact eR) | (apply RdF.mono; (· (apply OwF.rdF; with_reducible assumption)); · (try simp only [List.cons_append, List.nil_append, List.append_assoc]); repeat' first | with_reducible apply eR | with_reducible apply eA | ((with_reducible apply xA); · repeat first | with_reducible apply lH | with_reducible apply lT | with_reducible apply lL) | ((with_reducible apply xC); · repeat first | apply pH | with_reducible apply pT | with_reducible apply pL) | with_reducible assumption | with_reducible apply eS | with_reducible apply eL | exact eR) | (apply RdF.ownm; (· repeat first | with_reducible assumption | with_reducible apply List.mem_cons_self | with_reducible apply List.mem_cons_of_mem | with_reducible apply List.mem_append_right | exact List.Mem.head _); · first | rfl | with_reducible assumption | omega | simp [*]) | with_reducible assumption | omega | (simp; done) | (simp; omega) | (simp only [Bool.and_eq_true, inB_iff] at *; omega))) (by (first | with_reducible assumption | (apply RdD.mono; (· with_reducible assumption); · (try simp only [List.cons_append, List.nil_append, List.append_assoc]); repeat' first | with_reducible apply eR | with_reducible apply eA | ((with_reducible apply xA); · repeat first | with_reducible apply lH | with_reducible apply lT | with_reducible apply lL) | ((with_reducible apply xC); · repeat first | apply pH | with_reducible apply pT | with_reducible apply pL) | with_reducible assumption | with_reducible apply eS | with_reducible apply eL | exact eR) | (apply RdD.mono; (· (apply OwD.rdD; with_reducible assumption)); · (try simp only [List.cons_append, List.nil_append, List.append_assoc]); repeat' first | with_reducible apply eR | with_reducible apply eA | ((with_reducible apply xA); · repeat first | with_reducible apply lH | with_reducible apply lT | with_reducible apply lL) | ((with_reducible apply xC); · repeat first | apply pH | with_reducible apply pT | with_reducible apply pL) | with_reducible assumption | with_reducible apply eS | with_reducible apply eL | exact eR))) (by first | with_reducible assumption | omega | (simp only [Bool.and_eq_true, inB_iff] at *; omega))) ?_
  refine uNot rfl ?_
  refine mv rfl ?_
  refine gC rfl rfl (fun c1 => ?_) (fun c1 => ?_)
  · replace c1 := not_t c1
    have c1' := c1; try simp only [inB_iff, Bool.and_eq_true, decide_eq_true_eq, decide_eq_false_iff_not, beq_iff_eq, beq_eq_false_iff_ne, bne_iff_ne, bne_eq_false_iff_eq, ne_eq] at c1'
    refine gU rfl rfl (bnot_f c1) ?_
    refine gU rfl rfl (bnot_f c1) ?_
    refine gU rfl rfl (bnot_f c1) ?_
    refine kT rfl (bnot_f c1) rfl ?_
    refine mv rfl ?_
    refine gU rfl rfl rfl ?_
    refine gU rfl rfl rfl ?_
    refine gU rfl rfl rfl ?_
    refine gU rfl rfl rfl ?_
    refine kT rfl rfl rfl ?_
    refine rN ?_
    refine qN ?_
    refine cT rfl ?_
    refine cS (cR ?_)
    refine asg rfl ?_
    refine asg rfl ?_
    refine rN ?_
    refine qN ?_
    refine cE ?_
    refine qE ?_
    refine kE2 rfl rfl rfl rfl rfl  ?_
    first | (exfalso; contradiction) | exact ⟨_, ⟨_, ResF.no (by unfold scanB; simp [*]), rfl⟩, (by (try simp only [List.cons_append, List.nil_append, List.append_assoc]); repeat' first | with_reducible apply eR | with_reducible apply eA | ((with_reducible apply xA); · repeat first | with_reducible apply lH | with_reducible apply lT | with_reducible apply lL) | ((with_reducible apply xC); · repeat first | apply pH | with_reducible apply pT | with_reducible apply pL) | with_reducible assumption | with_reducible apply eS | with_reducible apply eL | exact eR)⟩ | (exfalso; first | contradiction | omega | (simp_all; done) | (simp_all; omega))
  replace c1 := not_f c1
  have c1' := c1; try simp only [inB_iff, Bool.and_eq_true, decide_eq_true_eq, decide_eq_false_iff_not, beq_iff_eq, beq_eq_false_iff_ne, bne_iff_ne, bne_eq_false_iff_eq, ne_eq] at c1'
  refine gG rfl rfl (bnot_t c1) ?_
  refine mv rfl ?_
  refine gG rfl rfl (bnot_t c1) ?_
  refine rCq rfl (c_l04Speeds _ _ _ _ _ (by first | with_reducible assumption | ((try first | with_reducible apply RdF.sub | with_reducible apply RdF.sub0) <;> first | with_reducible assumption | (apply RdF.mono; (· (with_reducible assumption)); · (try simp only [List.cons_append, List.nil_append, List.append_assoc]); repeat' first | with_reducible apply eR | with_reducible apply eA | ((with_reducible apply xA); · repeat first | with_reducible apply lH | with_reducible apply lT | with_reducible apply lL) | ((with_reducible apply xC); · repeat first | apply pH | with_reducible apply pT | with_reducible apply pL) | with_reducible assumption | with_reducible apply eS | with_reducible apply eL | exact eR) | (apply RdF.mono; (· (apply OwF.rdF; with_reducible assumption)); · (try simp only [List.cons_append, List.nil_append, List.append_assoc]); repeat' first | with_reducible apply eR | with_reducible apply eA | ((with_reducible apply xA); · repeat first | with_reducible apply lH | with_reducible apply lT | with_reducible apply lL) | ((with_reducible apply xC); · repeat first | apply pH | with_reducible apply pT | with_reducible apply pL) | with_reducible assumption | with_reducible apply eS | with_reducible apply eL | exact eR) | (apply RdF.ownm; (· repeat first | with_reducible assumption | with_reducible apply List.mem_cons_self | with_reducible apply List.mem_cons_of_mem | with_reducible apply List.mem_append_right | exact List.Mem.head _); · first | rfl | with_reducible assumption | omega | simp [*]) | with_reducible assumption | omega | (simp; done) | (simp; omega) | (simp only [Bool.and_eq_true, inB_iff] at *; omega))) (by first | with_reducible assumption | omega | (simp only [Bool.and_eq_true, inB_iff] at *; omega))) ?_
  refine gG rfl rfl (bnot_t c1) ?_
  refine uNot rfl ?_
  refine kF rfl (bnot_t c1) rfl ?_
  refine mv rfl ?_
  refine gC rfl rfl (fun c2 => ?_) (fun c2 => ?_)
  · replace c2 := not_t c2
    have c2' := c2; try simp only [inB_iff, Bool.and_eq_true, decide_eq_true_eq, decide_eq_false_iff_not, beq_iff_eq, beq_eq_false_iff_ne, bne_iff_ne, bne_eq_false_iff_eq, ne_eq] at c2'
    refine gU rfl rfl (bnot_f c2) ?_
    refine gU rfl rfl (bnot_f c2) ?_
    refine gU rfl rfl (bnot_f c2) ?_
    refine gU rfl rfl (bnot_f c2) ?_
    refine kT rfl (bnot_f c2) rfl ?_
    refine rN ?_
    refine qN ?_
    refine cT rfl ?_
    refine cS (cR ?_)
    refine asg rfl ?_
    refine asg rfl ?_
    refine rN ?_
    refine qN ?_
    refine cE ?_
    refine qE ?_
    refine kE2 rfl rfl rfl rfl rfl  ?_
    first | (exfalso; contradiction) | exact ⟨_, ⟨_, ResF.no (by unfold scanB; simp [*]), rfl⟩, (by (try simp only [List.cons_append, List.nil_append, List.append_assoc]); repeat' first | with_reducible apply eR | with_reducible apply eA | ((with_reducible apply xA); · repeat first | with_reducible apply lH | with_reducible apply lT | with_reducible apply lL) | ((with_reducible apply xC); · repeat first | apply pH | with_reducible apply pT | with_reducible apply pL) | with_reducible assumption | with_reducible apply eS | with_reducible apply eL | exact eR)⟩ | (exfalso; first | contradiction | omega | (simp_all; done) | (simp_all; omega))
  replace c2 := not_f c2
  have c2' := c2; try simp only [inB_iff, Bool.and_eq_true, decide_eq_true_eq, decide_eq_false_iff_not, beq_iff_eq, beq_eq_false_iff_ne, bne_iff_ne, bne_eq_false_iff_eq, ne_eq] at c2'
  refine gG rfl rfl (bnot_t c2) ?_
  refine mv rfl ?_
  refine gG rfl rfl (bnot_t c2) ?_
  refine mv rfl ?_
  refine gG rfl rfl (bnot_t c2) ?_
  refine rCq rfl (c_l04Window _ _ _ _ _ _ _ _ (by repeat first | with_reducible assumption | with_reducible apply List.mem_cons_self | with_reducible apply List.mem_cons_of_mem | with_reducible apply List.mem_append_right | exact List.Mem.head _) (by first | omega | (have := (vgB_iff (by assumption)).1; omega))) ?_
  refine gG rfl rfl (bnot_t c2) ?_
  refine uNot rfl ?_
  refine kF rfl (bnot_t c2) rfl ?_
  refine rN ?_
  refine qN ?_
  refine cC rfl (fun c3 => ?_) (fun c3 => ?_)
  · replace c3 := not_t c3
    have c3' := c3; try simp only [inB_iff, Bool.and_eq_true, decide_eq_true_eq, decide_eq_false_iff_not, beq_iff_eq, beq_eq_false_iff_ne, bne_iff_ne, bne_eq_false_iff_eq, ne_eq] at c3'
    refine cS (cR ?_)
    refine asg rfl ?_
    refine asg rfl ?_
    refine rN ?_
    refine qN ?_
    refine cE ?_
    refine qE ?_
    refine kE2 rfl rfl rfl rfl rfl  ?_
    first | (exfalso; contradiction) | exact ⟨_, ⟨_, ResF.no (by unfold scanB; simp [*]), rfl⟩, (by (try simp only [List.cons_append, List.nil_append, List.append_assoc]); repeat' first | with_reducible apply eR | with_reducible apply eA | ((with_reducible apply xA); · repeat first | with_reducible apply lH | with_reducible apply lT | with_reducible apply lL) | ((with_reducible apply xC); · repeat first | apply pH | with_reducible apply pT | with_reducible apply pL) | with_reducible assumption | with_reducible apply eS | with_reducible apply eL | exact eR)⟩ | (exfalso; first | contradiction | omega | (simp_all; done) | (simp_all; omega))
  replace c3 := not_f c3
  have c3' := c3; try simp only [inB_iff, Bool.and_eq_true, decide_eq_true_eq, decide_eq_false_iff_not, beq_iff_eq, beq_eq_false_iff_ne, bne_iff_ne, bne_eq_false_iff_eq, ne_eq] at c3'
  refine cK ?_
  refine qN ?_
  refine cS (cR ?_)
  refine mv rfl ?_
  refine mv rfl ?_
  refine mv rfl ?_
  have hvg : vgB t ps xss = true := by assumption
  have hw : winB t tick reach = true := by assumption
  obtain ⟨v1, v2, v3, v4, v5, v6⟩ := vgB_iff hvg
  have hB : scanB t ps xss ss tick reach = true := by unfold scanB; simp [*]
  have hss : ss.length ≤ 16 := by have := hB; unfold scanB spdB inB at this; simp at this; omega
  refine rC rfl (c_l04Scan _ _ _ _ _ _ _ _ _ _ _ _ ps xss ss _ _ _ (by repeat first | with_reducible assumption | with_reducible apply List.mem_cons_self | with_reducible apply List.mem_cons_of_mem | with_reducible apply List.mem_append_right | exact List.Mem.head _) (by first | with_reducible assumption | ((try first | with_reducible apply RdF.sub | with_reducible apply RdF.sub0) <;> first | with_reducible assumption | (apply RdF.mono; (· (with_reducible assumption)); · (try simp only [List.cons_append, List.nil_append, List.append_assoc]); repeat' first | with_reducible apply eR | with_reducible apply eA | ((with_reducible apply xA); · repeat first | with_reducible apply lH | with_reducible apply lT | with_reducible apply lL) | ((with_reducible apply xC); · repeat first | apply pH | with_reducible apply pT | with_reducible apply pL) | with_reducible assumption | with_reducible apply eS | with_reducible apply eL | exact eR) | (apply RdF.mono; (· (apply OwF.rdF; with_reducible assumption)); · (try simp only [List.cons_append, List.nil_append, List.append_assoc]); repeat' first | with_reducible apply eR | with_reducible apply eA | ((with_reducible apply xA); · repeat first | with_reducible apply lH | with_reducible apply lT | with_reducible apply lL) | ((with_reducible apply xC); · repeat first | apply pH | with_reducible apply pT | with_reducible apply pL) | with_reducible assumption | with_reducible apply eS | with_reducible apply eL | exact eR) | (apply RdF.ownm; (· repeat first | with_reducible assumption | with_reducible apply List.mem_cons_self | with_reducible apply List.mem_cons_of_mem | with_reducible apply List.mem_append_right | exact List.Mem.head _); · first | rfl | with_reducible assumption | omega | simp [*]) | with_reducible assumption | omega | (simp; done) | (simp; omega) | (simp only [Bool.and_eq_true, inB_iff] at *; omega))) (by (first | with_reducible assumption | (apply RdD.mono; (· with_reducible assumption); · (try simp only [List.cons_append, List.nil_append, List.append_assoc]); repeat' first | with_reducible apply eR | with_reducible apply eA | ((with_reducible apply xA); · repeat first | with_reducible apply lH | with_reducible apply lT | with_reducible apply lL) | ((with_reducible apply xC); · repeat first | apply pH | with_reducible apply pT | with_reducible apply pL) | with_reducible assumption | with_reducible apply eS | with_reducible apply eL | exact eR) | (apply RdD.mono; (· (apply OwD.rdD; with_reducible assumption)); · (try simp only [List.cons_append, List.nil_append, List.append_assoc]); repeat' first | with_reducible apply eR | with_reducible apply eA | ((with_reducible apply xA); · repeat first | with_reducible apply lH | with_reducible apply lT | with_reducible apply lL) | ((with_reducible apply xC); · repeat first | apply pH | with_reducible apply pT | with_reducible apply pL) | with_reducible assumption | with_reducible apply eS | with_reducible apply eL | exact eR))) (by first | with_reducible assumption | ((try first | with_reducible apply RdF.sub | with_reducible apply RdF.sub0) <;> first | with_reducible assumption | (apply RdF.mono; (· (with_reducible assumption)); · (try simp only [List.cons_append, List.nil_append, List.append_assoc]); repeat' first | with_reducible apply eR | with_reducible apply eA | ((with_reducible apply xA); · repeat first | with_reducible apply lH | with_reducible apply lT | with_reducible apply lL) | ((with_reducible apply xC); · repeat first | apply pH | with_reducible apply pT | with_reducible apply pL) | with_reducible assumption | with_reducible apply eS | with_reducible apply eL | exact eR) | (apply RdF.mono; (· (apply OwF.rdF; with_reducible assumption)); · (try simp only [List.cons_append, List.nil_append, List.append_assoc]); repeat' first | with_reducible apply eR | with_reducible apply eA | ((with_reducible apply xA); · repeat first | with_reducible apply lH | with_reducible apply lT | with_reducible apply lL) | ((with_reducible apply xC); · repeat first | apply pH | with_reducible apply pT | with_reducible apply pL) | with_reducible assumption | with_reducible apply eS | with_reducible apply eL | exact eR) | (apply RdF.ownm; (· repeat first | with_reducible assumption | with_reducible apply List.mem_cons_self | with_reducible apply List.mem_cons_of_mem | with_reducible apply List.mem_append_right | exact List.Mem.head _); · first | rfl | with_reducible assumption | omega | simp [*]) | with_reducible assumption | omega | (simp; done) | (simp; omega) | (simp only [Bool.and_eq_true, inB_iff] at *; omega))) hvg hw hss) ?_
  rintro _ _ ⟨lk9, how9, rfl⟩
  refine ⟨fun _ => (by (try simp only [List.cons_append, List.nil_append, List.append_assoc]); repeat' first | with_reducible apply eR | with_reducible apply eA | ((with_reducible apply xA); · repeat first | with_reducible apply lH | with_reducible apply lT | with_reducible apply lL) | ((with_reducible apply xC); · repeat first | apply pH | with_reducible apply pT | with_reducible apply pL) | with_reducible assumption | with_reducible apply eS | with_reducible apply eL | exact eR), ?_⟩
  obtain ⟨ad9, cn9, rfl, hrd9⟩ := how9.rd
  have hcn9 := how9.capl
  refine asg rfl ?_
  refine asg rfl ?_
  refine rN ?_
  refine qN ?_
  refine cE ?_
  refine kE2 rfl rfl rfl rfl rfl  ?_
  first | (exfalso; contradiction) | exact ⟨_, ⟨_, ResF.yes hB how9, rfl⟩, (by (try simp only [List.cons_append, List.nil_append, List.append_assoc]); repeat' first | with_reducible apply eR | with_reducible apply eA | ((with_reducible apply xA); · repeat first | with_reducible apply lH | with_reducible apply lT | with_reducible apply lL) | ((with_reducible apply xC); · repeat first | apply pH | with_reducible apply pT | with_reducible apply pL) | with_reducible assumption | with_reducible apply eS | with_reducible apply eL | exact eR)⟩ | (exfalso; first | contradiction | omega | (simp_all; done) | (simp_all; omega))
theorem c_implScanSpeeds (t : Int) (ap at' aS : Option Addr) (np nt nS cp ct cZ : Nat) (ps : List Nat) (xss : List (List Nat)) (ss : List Nat) (tick reach : Int) (M : Mem) (h : RdF M ap np ps) (h' : RdD M at' nt xss) (hs : RdF M aS nS ss) (hn : np ≤ 1073741824 ∧ nt ≤ 1073741824 ∧ nS ≤ 1073741824) :
    ACall Try.prog 12 [.agg #[.int .i64 t, .slice ap np cp, .slice at' nt ct], .slice aS nS cZ, .int .i64 tick, .int .i64 reach] M fun v M' => ∃ L, ResF (scanB t ps xss ss tick reach) (scanF t ps xss ss tick reach) v L ∧ M' = L ++ M := by
  obtain ⟨rfl, _⟩ := id h
  obtain ⟨rfl, _⟩ := id h'
  obtain ⟨rfl, _⟩ := id hs
  obtain ⟨hn1, hn2, hn3⟩ := hn
  skip
  refine acall_of_awp Try.func12 rfl Try.ntmps12 rfl ?_
  refine cS (cR ?_)
  first | (refine rXa rfl ?_; intro bk1) | (refine rX rfl rfl ?_; intro bk1)
  refine asg rfl ?_
  refine asg rfl ?_
  refine rN ?_
  refine qN ?_
  refine cS ?_
  refine cS (cR ?_)
  refine rLA rfl (by repeat first | with_reducible assumption | with_reducible apply List.mem_cons_self | with_reducible apply List.mem_cons_of_mem | with_reducible apply List.mem_append_right | exact List.Mem.head _) rfl rfl ?_
  refine rCq rfl (c_implValidGather _ _ _ _ _ _ _ _ _ _ (by first | with_reducible assumption | ((try first | with_reducible apply RdF.sub | with_reducible apply RdF.sub0) <;> first | with_reducible assumption | (apply RdF.mono; (· (with_reducible assumption)); · (try simp only [List.cons_append, List.nil_append, List.append_assoc]); repeat' first | with_reducible apply eR | with_reducible apply eA | ((with_reducible apply xA); · repeat first | with_reducible apply lH | with_reducible apply lT | with_reducible apply lL) | ((with_reducible apply xC); · repeat first | apply pH | with_reducible apply pT | with_reducible apply pL) | with_reducible assumption | with_reducible apply eS | with_reducible apply eL | exact eR) | (apply RdF.mono; (· (apply OwF.rdF; with_reducible assumption)); · (try simp only [List.cons_append, List.nil_append, List.append_assoc]); repeat' first | with_reducible apply eR | with_reducible apply eA | ((with_reducible apply xA); · repeat first | with_reducible apply lH | with_reducible apply lT | with_reducible apply lL) | ((with_reducible apply xC); · repeat first | apply pH | with_reducible apply pT | with_reducible apply pL) | with_reducible assumption | with_reducible apply eS | with_reducible apply eL | exact eR) | (apply RdF.ownm; (· repeat first | with_reducible assumption | with_reducible apply List.mem_cons_self | with_reducible apply List.mem_cons_of_mem | with_reducible apply List.mem_append_right | exact List.Mem.head _); · first | rfl | with_reducible assumption | omega | simp [*]) | with_reducible assumption | omega | (simp; done) | (simp; omega) | (simp only [Bool.and_eq_true, inB_iff] at *; omega))) (by (first | with_reducible assumption | (apply RdD.mono; (· with_reducible assumption); · (try simp only [List.cons_append, List.nil_append, List.append_assoc]); repeat' first | with_reducible apply eR | with_reducible apply eA | ((with_reducible apply xA); · repeat first | with_reducible apply lH | with_reducible apply lT | with_reducible apply lL) | ((with_reducible apply xC); · repeat first | apply pH | with_reducible apply pT | with_reducible apply pL) | with_reducible assumption | with_reducible apply eS | with_reducible apply eL | exact eR) | (apply RdD.mono; (· (apply OwD.rdD; with_reducible assumption)); · (try simp only [List.cons_append, List.nil_append, List.append_assoc]); repeat' first | with_reducible apply eR | with_reducible apply eA | ((with_reducible apply xA); · repeat first | with_reducible apply lH | with_reducible apply lT | with_reducible apply lL) | ((with_reducible apply xC); · repeat first | apply pH | with_reducible apply pT | with_reducible apply pL) | with_reducible assumption | with_reducible apply eS | with_reducible apply eL | exact eR))) (by first | with_reducible assumption | omega | (simp only [Bool.and_eq_true, inB_iff] at *; omega))) ?_
  refine uNot rfl ?_
  refine mv rfl ?_
  refine gC rfl rfl (fun c1 => ?_) (fun c1 => ?_)
  · replace c1 := not_t c1
    have c1' := c1; try simp only [inB_iff, Bool.and_eq_true, decide_eq_true_eq, decide_eq_false_iff_not, beq_iff_eq, beq_eq_false_iff_ne, bne_iff_ne, bne_eq_false_iff_eq, ne_eq] at c1'
    refine gU rfl rfl (bnot_f c1) ?_
    refine gU rfl rfl (bnot_f c1) ?_
    refine gU rfl rfl (bnot_f c1) ?_
    refine gU rfl rfl (bnot_f c1) ?_
    refine kT rfl (bnot_f c1) rfl ?_
    refine mv rfl ?_
    refine gU rfl rfl rfl ?_
    refine gU rfl rfl rfl ?_
    refine gU rfl rfl rfl ?_
    refine kT rfl rfl rfl ?_
    refine mv rfl ?_
    refine gU rfl rfl rfl ?_
    refine gU rfl rfl rfl ?_
    refine gU rfl rfl rfl ?_
    refine gU rfl rfl rfl ?_
    refine gU rfl rfl rfl ?_
    refine kT rfl rfl rfl ?_
    refine rN ?_
    refine qN ?_
    refine cT rfl ?_
    refine cS (cR ?_)
    refine asg rfl ?_
    refine asg rfl ?_
    refine rN ?_
    refine qN ?_
    refine cE ?_
    refine qE ?_
    refine kE2 rfl rfl rfl rfl rfl  ?_
    first | (exfalso; contradiction) | exact ⟨_, ⟨_, ResF.no (by unfold scanB spdB; simp [*]), rfl⟩, (by (try simp only [List.cons_append, List.nil_append, List.append_assoc]); repeat' first | with_reducible apply eR | with_reducible apply eA | ((with_reducible apply xA); · repeat first | with_reducible apply lH | with_reducible apply lT | with_reducible apply lL) | ((with_reducible apply xC); · repeat first | apply pH | with_reducible apply pT | with_reducible apply pL) | with_reducible assumption | with_reducible apply eS | with_reducible apply eL | exact eR)⟩ | (exfalso; first | contradiction | omega | (simp_all; done) | (simp_all; omega))
  replace c1 := not_f c1
  have c1' := c1; try simp only [inB_iff, Bool.and_eq_true, decide_eq_true_eq, decide_eq_false_iff_not, beq_iff_eq, beq_eq_false_iff_ne, bne_iff_ne, bne_eq_false_iff_eq, ne_eq] at c1'
  refine gG rfl rfl (bnot_t c1) ?_
  refine mv rfl ?_
  refine gG rfl rfl (bnot_t c1) ?_
  refine rCq rfl (c_length _ _ _ _) ?_
  refine gG rfl rfl (bnot_t c1) ?_
  refine rCq rfl (c_within _ _ _ _) ?_
  refine gG rfl rfl (bnot_t c1) ?_
  refine uNot rfl ?_
  refine kF rfl (bnot_t c1) rfl ?_
  refine mv rfl ?_
  refine gC rfl rfl (fun c2 => ?_) (fun c2 => ?_)
  · replace c2 := not_t c2
    have c2' := c2; try simp only [inB_iff, Bool.and_eq_true, decide_eq_true_eq, decide_eq_false_iff_not, beq_iff_eq, beq_eq_false_iff_ne, bne_iff_ne, bne_eq_false_iff_eq, ne_eq] at c2'
    refine gU rfl rfl (bnot_f c2) ?_
    refine gU rfl rfl (bnot_f c2) ?_
    refine gU rfl rfl (bnot_f c2) ?_
    refine kT rfl (bnot_f c2) rfl ?_
    refine mv rfl ?_
    refine gU rfl rfl rfl ?_
    refine gU rfl rfl rfl ?_
    refine gU rfl rfl rfl ?_
    refine gU rfl rfl rfl ?_
    refine gU rfl rfl rfl ?_
    refine kT rfl rfl rfl ?_
    refine rN ?_
    refine qN ?_
    refine cT rfl ?_
    refine cS (cR ?_)
    refine asg rfl ?_
    refine asg rfl ?_
    refine rN ?_
    refine qN ?_
    refine cE ?_
    refine qE ?_
    refine kE2 rfl rfl rfl rfl rfl  ?_
    first | (exfalso; contradiction) | exact ⟨_, ⟨_, ResF.no (by unfold scanB spdB; simp [*]), rfl⟩, (by (try simp only [List.cons_append, List.nil_append, List.append_assoc]); repeat' first | with_reducible apply eR | with_reducible apply eA | ((with_reducible apply xA); · repeat first | with_reducible apply lH | with_reducible apply lT | with_reducible apply lL) | ((with_reducible apply xC); · repeat first | apply pH | with_reducible apply pT | with_reducible apply pL) | with_reducible assumption | with_reducible apply eS | with_reducible apply eL | exact eR)⟩ | (exfalso; first | contradiction | omega | (simp_all; done) | (simp_all; omega))
  replace c2 := not_f c2
  have c2' := c2; try simp only [inB_iff, Bool.and_eq_true, decide_eq_true_eq, decide_eq_false_iff_not, beq_iff_eq, beq_eq_false_iff_ne, bne_iff_ne, bne_eq_false_iff_eq, ne_eq] at c2'
  refine gG rfl rfl (bnot_t c2) ?_
  refine mv rfl ?_
  refine gG rfl rfl (bnot_t c2) ?_
  refine rCq rfl (c_arePositive _ _ _ _ _ (by first | with_reducible assumption | ((try first | with_reducible apply RdF.sub | with_reducible apply RdF.sub0) <;> first | with_reducible assumption | (apply RdF.mono; (· (with_reducible assumption)); · (try simp only [List.cons_append, List.nil_append, List.append_assoc]); repeat' first | with_reducible apply eR | with_reducible apply eA | ((with_reducible apply xA); · repeat first | with_reducible apply lH | with_reducible apply lT | with_reducible apply lL) | ((with_reducible apply xC); · repeat first | apply pH | with_reducible apply pT | with_reducible apply pL) | with_reducible assumption | with_reducible apply eS | with_reducible apply eL | exact eR) | (apply RdF.mono; (· (apply OwF.rdF; with_reducible assumption)); · (try simp only [List.cons_append, List.nil_append, List.append_assoc]); repeat' first | with_reducible apply eR | with_reducible apply eA | ((with_reducible apply xA); · repeat first | with_reducible apply lH | with_reducible apply lT | with_reducible apply lL) | ((with_reducible apply xC); · repeat first | apply pH | with_reducible apply pT | with_reducible apply pL) | with_reducible assumption | with_reducible apply eS | with_reducible apply eL | exact eR) | (apply RdF.ownm; (· repeat first | with_reducible assumption | with_reducible apply List.mem_cons_self | with_reducible apply List.mem_cons_of_mem | with_reducible apply List.mem_append_right | exact List.Mem.head _); · first | rfl | with_reducible assumption | omega | simp [*]) | with_reducible assumption | omega | (simp; done) | (simp; omega) | (simp only [Bool.and_eq_true, inB_iff] at *; omega))) (by first | with_reducible assumption | omega | (simp only [Bool.and_eq_true, inB_iff] at *; omega))) ?_
  refine gG rfl rfl (bnot_t c2) ?_
  refine uNot rfl ?_
  refine kF rfl (bnot_t c2) rfl ?_
  refine mv rfl ?_
  refine gC rfl rfl (fun c3 => ?_) (fun c3 => ?_)
  · replace c3 := not_t c3
    have c3' := c3; try simp only [inB_iff, Bool.and_eq_true, decide_eq_true_eq, decide_eq_false_iff_not, beq_iff_eq, beq_eq_false_iff_ne, bne_iff_ne, bne_eq_false_iff_eq, ne_eq] at c3'
    refine gU rfl rfl (bnot_f c3) ?_
    refine gU rfl rfl (bnot_f c3) ?_
    refine gU rfl rfl (bnot_f c3) ?_
    refine gU rfl rfl (bnot_f c3) ?_
    refine gU rfl rfl (bnot_f c3) ?_
    refine kT rfl (bnot_f c3) rfl ?_
    refine rN ?_
    refine qN ?_
    refine cT rfl ?_
    refine cS (cR ?_)
    refine asg rfl ?_
    refine asg rfl ?_
    refine rN ?_
    refine qN ?_
    refine cE ?_
    refine qE ?_
    refine kE2 rfl rfl rfl rfl rfl  ?_
    first | (exfalso; contradiction) | exact ⟨_, ⟨_, ResF.no (by unfold scanB spdB; simp [*]), rfl⟩, (by (try simp only [List.cons_append, List.nil_append, List.append_assoc]); repeat' first | with_reducible apply eR | with_reducible apply eA | ((with_reducible apply xA); · repeat first | with_reducible apply lH | with_reducible apply lT | with_reducible apply lL) | ((with_reducible apply xC); · repeat first | apply pH | with_reducible apply pT | with_reducible apply pL) | with_reducible assumption | with_reducible apply eS | with_reducible apply eL | exact eR)⟩ | (exfalso; first | contradiction | omega | (simp_all; done) | (simp_all; omega))
  replace c3 := not_f c3
  have c3' := c3; try simp only [inB_iff, Bool.and_eq_true, decide_eq_true_eq, decide_eq_false_iff_not, beq_iff_eq, beq_eq_false_iff_ne, bne_iff_ne, bne_eq_false_iff_eq, ne_eq] at c3'
  refine gG rfl rfl (bnot_t c3) ?_
  refine rLA rfl (by repeat first | with_reducible assumption | with_reducible apply List.mem_cons_self | with_reducible apply List.mem_cons_of_mem | with_reducible apply List.mem_append_right | exact List.Mem.head _) rfl rfl ?_
  refine gG rfl rfl (bnot_t c3) ?_
  refine mv rfl ?_
  refine gG rfl rfl (bnot_t c3) ?_
  refine mv rfl ?_
  refine gG rfl rfl (bnot_t c3) ?_
  refine rCq rfl (c_isWindow _ _ _ _ _ _ (by first | omega | (have := (vgB_iff (by assumption)).1; omega))) ?_
  refine gG rfl rfl (bnot_t c3) ?_
  refine uNot rfl ?_
  refine kF rfl (bnot_t c3) rfl ?_
  refine rN ?_
  refine qN ?_
  refine cC rfl (fun c4 => ?_) (fun c4 => ?_)
  · replace c4 := not_t c4
    have c4' := c4; try simp only [inB_iff, Bool.and_eq_true, decide_eq_true_eq, decide_eq_false_iff_not, beq_iff_eq, beq_eq_false_iff_ne, bne_iff_ne, bne_eq_false_iff_eq, ne_eq] at c4'
    refine cS (cR ?_)
    refine asg rfl ?_
    refine asg rfl ?_
    refine rN ?_
    refine qN ?_
    refine cE ?_
    refine qE ?_
    refine kE2 rfl rfl rfl rfl rfl  ?_
    first | (exfalso; contradiction) | exact ⟨_, ⟨_, ResF.no (by unfold scanB spdB; simp [*]), rfl⟩, (by (try simp only [List.cons_append, List.nil_append, List.append_assoc]); repeat' first | with_reducible apply eR | with_reducible apply eA | ((with_reducible apply xA); · repeat first | with_reducible apply lH | with_reducible apply lT | with_reducible apply lL) | ((with_reducible apply xC); · repeat first | apply pH | with_reducible apply pT | with_reducible apply pL) | with_reducible assumption | with_reducible apply eS | with_reducible apply eL | exact eR)⟩ | (exfalso; first | contradiction | omega | (simp_all; done) | (simp_all; omega))
  replace c4 := not_f c4
  have c4' := c4; try simp only [inB_iff, Bool.and_eq_true, decide_eq_true_eq, decide_eq_false_iff_not, beq_iff_eq, beq_eq_false_iff_ne, bne_iff_ne, bne_eq_false_iff_eq, ne_eq] at c4'
  refine cK ?_
  refine qN ?_
  refine cS (cR ?_)
  refine asg rfl ?_
  refine rN ?_
  refine qN ?_
  refine cS ?_
  refine cS (cR ?_)
  refine mv rfl ?_
  refine ln rfl ?_
  refine mv rfl ?_
  refine rN ?_
  refine qN ?_
  refine cB ?_
  have hvg : vgB t ps xss = true := by assumption
  have hw : winB t tick reach = true := by assumption
  obtain ⟨v1, v2, v3, v4, v5, v6⟩ := vgB_iff hvg
  have hB : scanB t ps xss ss tick reach = true := by unfold scanB spdB; simp [*]
  have hss : ss.length ≤ 16 := by have := hB; unfold scanB spdB inB at this; simp at this; omega
  refine cL3 (fun (i : Nat) (s : Value) (L : Mem) => [(36, .int .i64 (i : Nat)), (10, s)]) [(2, _), (3, _), (4, _), (34, _), (35, _)] (fun (i : Nat) (s : Value) (L : Mem) => L ++ ((bk1, ⟨[.int .i64 t, .slice ap ps.length cp, .slice at' xss.length ct], true⟩) :: M)) (fun (i : Nat) (s : Value) (L : Mem) => ss.length - i) (fun (i : Nat) (s : Value) (L : Mem) => i ≤ ss.length ∧ OwF L s (tab i (scanV t ps xss ss tick reach))) (0) (_) ([]) (by repeat first | exact Sub.nil _ | refine Sub.cons rfl ?_) (by (try simp only [List.cons_append, List.nil_append, List.append_assoc]); repeat' first | with_reducible apply eR | with_reducible apply eA | ((with_reducible apply xA); · repeat first | with_reducible apply lH | with_reducible apply lT | with_reducible apply lL) | ((with_reducible apply xC); · repeat first | apply pH | with_reducible apply pT | with_reducible apply pL) | with_reducible assumption | with_reducible apply eS | with_reducible apply eL | exact eR) (by exact ⟨Nat.zero_le _, OwF.nil⟩) ?_
  rintro i s L ⟨hi, hz⟩
  refine wT (T' := [(36, _), (10, _), (2, _), (3, _), (4, _), (34, _), (35, _)]) rfl ?_
  refine cS (cR ?_)
  refine bLss rfl rfl ?_
  refine rN ?_
  refine qN ?_
  refine cS ?_
  obtain ⟨a7, c7, rfl, hrd7⟩ := hz.rd
  refine cC rfl (fun c5 => ?_) (fun c5 => ?_)
  · have c5' := c5; try simp only [inB_iff, Bool.and_eq_true, decide_eq_true_eq, decide_eq_false_iff_not, beq_iff_eq, beq_eq_false_iff_ne, bne_iff_ne, bne_eq_false_iff_eq, ne_eq] at c5'
    have hi2 : i < ss.length := by omega
    refine cK ?_
    refine qN ?_
    refine cS ?_
    refine cB ?_
    refine cS (cR ?_)
    first
      | refine ixN rfl rfl (by first | exact AOk.own | (apply RdD.aok; with_reducible assumption) | (apply RdD.aok; apply OwD.rdD; with_reducible assumption) | (apply RdI.aok; with_reducible assumption) | (apply RdW.aok; with_reducible assumption) | (apply RdI.aok; apply OwI.rdI; with_reducible assumption) | with_reducible assumption | (apply RdF.aok; with_reducible assumption) | (apply RdF.aok; apply OwF.rdF; with_reducible assumption)) (by first | with_reducible assumption | omega) ?_
      | refine ixI rfl rfl (by first | exact AOk.own | (apply RdD.aok; with_reducible assumption) | (apply RdD.aok; apply OwD.rdD; with_reducible assumption) | (apply RdI.aok; with_reducible assumption) | (apply RdW.aok; with_reducible assumption) | (apply RdI.aok; apply OwI.rdI; with_reducible assumption) | with_reducible assumption | (apply RdF.aok; with_reducible assumption) | (apply RdF.aok; apply OwF.rdF; with_reducible assumption)) (by omega) (by omega) ?_
    refine ldF rfl (by first | with_reducible assumption | ((try first | with_reducible apply RdF.sub | with_reducible apply RdF.sub0) <;> first | with_reducible assumption | (apply RdF.mono; (· (with_reducible assumption)); · (try simp only [List.cons_append, List.nil_append, List.append_assoc]); repeat' first | with_reducible apply eR | with_reducible apply eA | ((with_reducible apply xA); · repeat first | with_reducible apply lH | with_reducible apply lT | with_reducible apply lL) | ((with_reducible apply xC); · repeat first | apply pH | with_reducible apply pT | with_reducible apply pL) | with_reducible assumption | with_reducible apply eS | with_reducible apply eL | exact eR) | (apply RdF.mono; (· (apply OwF.rdF; with_reducible assumption)); · (try simp only [List.cons_append, List.nil_append, List.append_assoc]); repeat' first | with_reducible apply eR | with_reducible apply eA | ((with_reducible apply xA); · repeat first | with_reducible apply lH | with_reducible apply lT | with_reducible apply lL) | ((with_reducible apply xC); · repeat first | apply pH | with_reducible apply pT | with_reducible apply pL) | with_reducible assumption | with_reducible apply eS | with_reducible apply eL | exact eR) | (apply RdF.ownm; (· repeat first | with_reducible assumption | with_reducible apply List.mem_cons_self | with_reducible apply List.mem_cons_of_mem | with_reducible apply List.mem_append_right | exact List.Mem.head _); · first | rfl | with_reducible assumption | omega | simp [*]) | with_reducible assumption | omega | (simp; done) | (simp; omega) | (simp only [Bool.and_eq_true, inB_iff] at *; omega))) (by first | with_reducible assumption | omega) ?_
    refine asg rfl ?_
    refine rN ?_
    refine qN ?_
    refine cR ?_
    refine mv rfl ?_
    refine rLA rfl (by repeat first | with_reducible assumption | with_reducible apply List.mem_cons_self | with_reducible apply List.mem_cons_of_mem | with_reducible apply List.mem_append_right | exact List.Mem.head _) rfl rfl ?_
    refine mv rfl ?_
    refine rC rfl (c_gcorrected _ _ _ _ _ _ _ ps xss _ _ (by first | with_reducible assumption | ((try first | with_reducible apply RdF.sub | with_reducible apply RdF.sub0) <;> first | with_reducible assumption | (apply RdF.mono; (· (with_reducible assumption)); · (try simp only [List.cons_append, List.nil_append, List.append_assoc]); repeat' first | with_reducible apply eR | with_reducible apply eA | ((with_reducible apply xA); · repeat first | with_reducible apply lH | with_reducible apply lT | with_reducible apply lL) | ((with_reducible apply xC); · repeat first | apply pH | with_reducible apply pT | with_reducible apply pL) | with_reducible assumption | with_reducible apply eS | with_reducible apply eL | exact eR) | (apply RdF.mono; (· (apply OwF.rdF; with_reducible assumption)); · (try simp only [List.cons_append, List.nil_append, List.append_assoc]); repeat' first | with_reducible apply eR | with_reducible apply eA | ((with_reducible apply xA); · repeat first | with_reducible apply lH | with_reducible apply lT | with_reducible apply lL) | ((with_reducible apply xC); · repeat first | apply pH | with_reducible apply pT | with_reducible apply pL) | with_reducible assumption | with_reducible apply eS | with_reducible apply eL | exact eR) | (apply RdF.ownm; (· repeat first | with_reducible assumption | with_reducible apply List.mem_cons_self | with_reducible apply List.mem_cons_of_mem | with_reducible apply List.mem_append_right | exact List.Mem.head _); · first | rfl | with_reducible assumption | omega | simp [*]) | with_reducible assumption | omega | (simp; done) | (simp; omega) | (simp only [Bool.and_eq_true, inB_iff] at *; omega))) (by (first | with_reducible assumption | (apply RdD.mono; (· with_reducible assumption); · (try simp only [List.cons_append, List.nil_append, List.append_assoc]); repeat' first | with_reducible apply eR | with_reducible apply eA | ((with_reducible apply xA); · repeat first | with_reducible apply lH | with_reducible apply lT | with_reducible apply lL) | ((with_reducible apply xC); · repeat first | apply pH | with_reducible apply pT | with_reducible apply pL) | with_reducible assumption | with_reducible apply eS | with_reducible apply eL | exact eR) | (apply RdD.mono; (· (apply OwD.rdD; with_reducible assumption)); · (try simp only [List.cons_append, List.nil_append, List.append_assoc]); repeat' first | with_reducible apply eR | with_reducible apply eA | ((with_reducible apply xA); · repeat first | with_reducible apply lH | with_reducible apply lT | with_reducible apply lL) | ((with_reducible apply xC); · repeat first | apply pH | with_reducible apply pT | with_reducible apply pL) | with_reducible assumption | with_reducible apply eS | with_reducible apply eL | exact eR))) hvg) ?_
    rintro _ _ ⟨lk9, ⟨sv9, tv9, rfl, how9⟩, rfl⟩
    refine ⟨fun _ => (by (try simp only [List.cons_append, List.nil_append, List.append_assoc]); repeat' first | with_reducible apply eR | with_reducible apply eA | ((with_reducible apply xA); · repeat first | with_reducible apply lH | with_reducible apply lT | with_reducible apply lL) | ((with_reducible apply xC); · repeat first | apply pH | with_reducible apply pT | with_reducible apply pL) | with_reducible assumption | with_reducible apply eS | with_reducible apply eL | exact eR), ?_⟩
    obtain ⟨ad9, cn9, at9, ct9, rfl, rfl, hrd9, hrt9⟩ := how9.rd
    refine mv rfl ?_
    refine mv rfl ?_
    have hlen := coG_len (ps := ps) (sp := ss.getD i 0) v5
    have hl2 := tabL_len xss.length (coG ps xss (ss.getD i 0))
    refine rCq rfl (c_semblance _ _ _ _ _ _ _ _ _ _ _ (by (first | with_reducible assumption | (apply RdD.mono; (· with_reducible assumption); · (try simp only [List.cons_append, List.nil_append, List.append_assoc]); repeat' first | with_reducible apply eR | with_reducible apply eA | ((with_reducible apply xA); · repeat first | with_reducible apply lH | with_reducible apply lT | with_reducible apply lL) | ((with_reducible apply xC); · repeat first | apply pH | with_reducible apply pT | with_reducible apply pL) | with_reducible assumption | with_reducible apply eS | with_reducible apply eL | exact eR) | (apply RdD.mono; (· (apply OwD.rdD; with_reducible assumption)); · (try simp only [List.cons_append, List.nil_append, List.append_assoc]); repeat' first | with_reducible apply eR | with_reducible apply eA | ((with_reducible apply xA); · repeat first | with_reducible apply lH | with_reducible apply lT | with_reducible apply lL) | ((with_reducible apply xC); · repeat first | apply pH | with_reducible apply pT | with_reducible apply pL) | with_reducible assumption | with_reducible apply eS | with_reducible apply eL | exact eR))) (by omega) hw (by omega) hlen) ?_
    refine apFp (by intro _ h; cases h <;> rfl) rfl (fun _ => rfl) rfl (by with_reducible assumption) (by repeat first | with_reducible apply pmH | with_reducible apply pmT | with_reducible apply pmL) (by first | omega | (simp only [tab_len, List.length_append, List.length_map, List.length_range, List.length_replicate, List.length_cons, List.length_nil]; omega) | (simp; omega)) (by first | omega | (simp only [tab_len, List.length_append, List.length_map, List.length_range, List.length_replicate, List.length_cons, List.length_nil]; omega) | (simp; omega)) ?_
    intro bk2 sv1 lk1 how1; have hln1 := how1.len1; obtain ⟨ad1, cn1, rfl, hrd1⟩ := how1.rd
    have hcn1 := how1.capl
    refine asg rfl ?_
    refine rN ?_
    refine qBN ?_
    refine qN ?_
    refine cR ?_
    first | refine rAn (b := 1) rfl rfl (by omega) ?_ | refine rA rfl rfl (by omega) (by omega) ?_ | refine bAdd rfl rfl ?_
    refine mv rfl ?_
    refine rN ?_
    refine qL3 (i + 1) (_) (_) ?_ (by omega) (by repeat first | exact Sub.nil _ | refine Sub.cons rfl ?_) (by (try simp only [List.cons_append, List.nil_append, List.append_assoc]); repeat' first | with_reducible apply eR | with_reducible apply eA | ((with_reducible apply xA); · repeat first | with_reducible apply lH | with_reducible apply lT | with_reducible apply lL) | ((with_reducible apply xC); · repeat first | apply pH | with_reducible apply pT | with_reducible apply pL) | with_reducible assumption | with_reducible apply eS | with_reducible apply eL | exact eR)
    refine ⟨by omega, ?_⟩
    rw [tab_succ]
    assumption
  · have c5' := c5; try simp only [inB_iff, Bool.and_eq_true, decide_eq_true_eq, decide_eq_false_iff_not, beq_iff_eq, beq_eq_false_iff_ne, bne_iff_ne, bne_eq_false_iff_eq, ne_eq] at c5'
    have : i = ss.length := by omega
    subst this
    refine cX ?_
    refine qX ?_
    refine qL3X ?_
    refine qBX ?_
    refine qN ?_
    refine cS (cR ?_)
    refine mv rfl ?_
    refine asg rfl ?_
    refine asg rfl ?_
    refine rN ?_
    refine qN ?_
    refine cE ?_
    refine kE2 rfl rfl rfl rfl rfl  ?_
    first | (exfalso; contradiction) | exact ⟨_, ⟨_, ResF.yes hB hz, rfl⟩, (by (try simp only [List.cons_append, List.nil_append, List.append_assoc]); repeat' first | with_reducible apply eR | with_reducible apply eA | ((with_reducible apply xA); · repeat first | with_reducible apply lH | with_reducible apply lT | with_reducible apply lL) | ((with_reducible apply xC); · repeat first | apply pH | with_reducible apply pT | with_reducible apply pL) | with_reducible assumption | with_reducible apply eS | with_reducible apply eL | exact eR)⟩ | (exfalso; first | contradiction | omega | (simp_all; done) | (simp_all; omega))
end Go.Proofs.Ytfjancbmecfjgaa.Ab
