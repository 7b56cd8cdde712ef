/-
  Walks: frames in order, by the program.
-/
import Derived.Test.YtnikglngipbahaaRb
namespace Go.Proofs.Ytnikglngipbahaa.Ab
open Go Go.RowKit
attribute [local irreducible] Run Then InBlock LoopQ LQ1 LQ2 LQ3 LQ4 LQ5 LQ6 AWp Ret ACall
set_option linter.unusedVariables false
set_option linter.unusedSimpArgs false

-- @reg cmp.isNaN[int64] : c_cmpIsNaN _ _
theorem c_cmpIsNaN (x : Int) (M : Mem) : ACall Try.prog 76 [.int .i64 x] M fun v M' => v = .bool false ∧ M' = M := by
  skip
  skip
  refine acall_of_awp Try.func76 rfl Try.ntmps76 rfl ?_
  refine cS (cR ?_)
  refine asg rfl ?_
  refine rN ?_
  refine qN ?_
  refine cS (cR ?_)
  refine mv rfl ?_
  refine mv rfl ?_
  refine bNeq rfl rfl ?_
  refine asg rfl ?_
  refine rN ?_
  refine qN ?_
  refine cE ?_
  refine kE rfl rfl  ?_
  first | (exfalso; contradiction) | exact ⟨_, ⟨by simp, rfl⟩, (by (try simp only [List.cons_append, List.nil_append, List.append_assoc]); repeat' first | with_reducible apply eR | with_reducible apply eA | ((with_reducible apply xA); · repeat first | with_reducible apply lH | with_reducible apply lT | with_reducible apply lL) | ((with_reducible apply xC); · repeat first | apply pH | with_reducible apply pT | with_reducible apply pL) | with_reducible assumption | with_reducible apply eS | with_reducible apply eL | exact eR)⟩ | (exfalso; first | contradiction | omega | (simp_all; done) | (simp_all; omega))
def cmpI (x y : Int) : Int := if x < y then -1 else if x > y then 1 else 0
-- @reg cmp.Compare[int64] : c_cmpCompare _ _ _
theorem c_cmpCompare (x y : Int) (M : Mem) : ACall Try.prog 67 [.int .i64 x, .int .i64 y] M fun v M' => v = .int .i64 (cmpI x y) ∧ M' = M := by
  refine acall_of_awp Try.func67 rfl Try.ntmps67 rfl ?_
  refine cS (cR ?_)
  refine asg rfl ?_
  refine rN ?_
  refine qN ?_
  refine cS (cR ?_)
  refine mv rfl ?_
  refine rCq rfl (c_cmpIsNaN _ _) ?_
  refine asg rfl ?_
  refine rN ?_
  refine qN ?_
  refine cS (cR ?_)
  refine mv rfl ?_
  refine rCq rfl (c_cmpIsNaN _ _) ?_
  refine asg rfl ?_
  refine rN ?_
  refine qN ?_
  refine cS ?_
  refine cS (cR ?_)
  refine mv rfl ?_
  refine rN ?_
  refine qN ?_
  refine cFa rfl (rfl) ?_
  refine cK ?_
  refine qN ?_
  refine cS ?_
  refine cS (cR ?_)
  refine mv rfl ?_
  refine rN ?_
  refine qN ?_
  refine cFa rfl (rfl) ?_
  refine cK ?_
  refine qN ?_
  refine cS ?_
  refine cS (cR ?_)
  refine mv rfl ?_
  refine mv rfl ?_
  refine bLss rfl rfl ?_
  refine rN ?_
  refine qN ?_
  refine cC rfl (fun c1 => ?_) (fun c1 => ?_)
  · have c1' := c1; try simp only [inB_iff, Bool.and_eq_true, decide_eq_true_eq, decide_eq_false_iff_not, beq_iff_eq, beq_eq_false_iff_ne, bne_iff_ne, bne_eq_false_iff_eq, ne_eq] at c1'
    refine cS (cR ?_)
    refine asg rfl ?_
    refine rN ?_
    refine qN ?_
    refine cE ?_
    refine qE ?_
    refine kE rfl rfl  ?_
    first | (exfalso; contradiction) | exact ⟨_, ⟨by first | (rw [cmpI, if_pos (by omega)]; done) | (rw [cmpI, if_neg (by omega), if_pos (by omega)]; done) | (rw [cmpI, if_neg (by omega), if_neg (by omega)]; done), rfl⟩, (by (try simp only [List.cons_append, List.nil_append, List.append_assoc]); repeat' first | with_reducible apply eR | with_reducible apply eA | ((with_reducible apply xA); · repeat first | with_reducible apply lH | with_reducible apply lT | with_reducible apply lL) | ((with_reducible apply xC); · repeat first | apply pH | with_reducible apply pT | with_reducible apply pL) | with_reducible assumption | with_reducible apply eS | with_reducible apply eL | exact eR)⟩ | (exfalso; first | contradiction | omega | (simp_all; done) | (simp_all; omega))
  · have c1' := c1; try simp only [inB_iff, Bool.and_eq_true, decide_eq_true_eq, decide_eq_false_iff_not, beq_iff_eq, beq_eq_false_iff_ne, bne_iff_ne, bne_eq_false_iff_eq, ne_eq] at c1'
    refine cK ?_
    refine qN ?_
    refine cS ?_
    refine cS (cR ?_)
    refine mv rfl ?_
    refine mv rfl ?_
    refine bGtr rfl rfl ?_
    refine rN ?_
    refine qN ?_
    refine cC rfl (fun c2 => ?_) (fun c2 => ?_)
    · have c2' := c2; try simp only [inB_iff, Bool.and_eq_true, decide_eq_true_eq, decide_eq_false_iff_not, beq_iff_eq, beq_eq_false_iff_ne, bne_iff_ne, bne_eq_false_iff_eq, ne_eq] at c2'
      refine cS (cR ?_)
      refine asg rfl ?_
      refine rN ?_
      refine qN ?_
      refine cE ?_
      refine qE ?_
      refine kE rfl rfl  ?_
      first | (exfalso; contradiction) | exact ⟨_, ⟨by first | (rw [cmpI, if_pos (by omega)]; done) | (rw [cmpI, if_neg (by omega), if_pos (by omega)]; done) | (rw [cmpI, if_neg (by omega), if_neg (by omega)]; done), rfl⟩, (by (try simp only [List.cons_append, List.nil_append, List.append_assoc]); repeat' first | with_reducible apply eR | with_reducible apply eA | ((with_reducible apply xA); · repeat first | with_reducible apply lH | with_reducible apply lT | with_reducible apply lL) | ((with_reducible apply xC); · repeat first | apply pH | with_reducible apply pT | with_reducible apply pL) | with_reducible assumption | with_reducible apply eS | with_reducible apply eL | exact eR)⟩ | (exfalso; first | contradiction | omega | (simp_all; done) | (simp_all; omega))
    · have c2' := c2; try simp only [inB_iff, Bool.and_eq_true, decide_eq_true_eq, decide_eq_false_iff_not, beq_iff_eq, beq_eq_false_iff_ne, bne_iff_ne, bne_eq_false_iff_eq, ne_eq] at c2'
      refine cK ?_
      refine qN ?_
      refine cS (cR ?_)
      refine asg rfl ?_
      refine rN ?_
      refine qN ?_
      refine cE ?_
      refine kE rfl rfl  ?_
      first | (exfalso; contradiction) | exact ⟨_, ⟨by first | (rw [cmpI, if_pos (by omega)]; done) | (rw [cmpI, if_neg (by omega), if_pos (by omega)]; done) | (rw [cmpI, if_neg (by omega), if_neg (by omega)]; done), rfl⟩, (by (try simp only [List.cons_append, List.nil_append, List.append_assoc]); repeat' first | with_reducible apply eR | with_reducible apply eA | ((with_reducible apply xA); · repeat first | with_reducible apply lH | with_reducible apply lT | with_reducible apply lL) | ((with_reducible apply xC); · repeat first | apply pH | with_reducible apply pT | with_reducible apply pL) | with_reducible assumption | with_reducible apply eS | with_reducible apply eL | exact eR)⟩ | (exfalso; first | contradiction | omega | (simp_all; done) | (simp_all; omega))
def orI (x y : Int) : Int := if x ≠ 0 then x else y
theorem or_yes {x y : Int} {k : Nat} (hk : k < 2) (hj : ∀ j, j < k → [x, y].getD j 0 = 0) (h : [x, y].getD k 0 ≠ 0) : [x, y].getD k 0 = orI x y := by
  match k, hk with
  | 0, _ => have h' : x ≠ 0 := h; show x = orI x y; rw [orI, if_pos h']
  | 1, _ => have h' : x = 0 := hj 0 (by decide); show y = orI x y; rw [orI, if_neg (by rw [h']; simp)]
theorem or_no {x y : Int} (hj : ∀ j, j < 2 → [x, y].getD j 0 = 0) : 0 = orI x y := by
  have h0 : x = 0 := hj 0 (by decide)
  have h1 : y = 0 := hj 1 (by decide)
  rw [orI, if_neg (by rw [h0]; simp), h1]
theorem rdI2 {b : Nat} {x y : Int} {wr : Bool} {M : Mem} (hm : (b, (⟨[.int .i64 x, .int .i64 y], wr⟩ : Blk)) ∈ M) : RdI M (some ⟨b, 0, none⟩) 2 [x, y] :=
  ⟨rfl, .inr ⟨b, 0, _, rfl, hm, fun i hi => by
    rw [Nat.zero_add]
    match i, hi with
    | 0, _ => rfl
    | 1, _ => rfl⟩⟩
theorem c_cmpOr (a : Option Addr) (c : Nat) (x y : Int) (M : Mem) (h : RdI M a 2 [x, y]) : ACall Try.prog 66 [.slice a 2 c] M fun v M' => v = .int .i64 (orI x y) ∧ M' = M := by
  refine acall_of_awp Try.func66 rfl Try.ntmps66 rfl ?_
  refine cS (cR ?_)
  refine asg rfl ?_
  refine rN ?_
  refine qN ?_
  refine cS (cR ?_)
  refine asg rfl ?_
  refine rN ?_
  refine qN ?_
  refine cS ?_
  refine cS (cR ?_)
  refine mv rfl ?_
  refine ln rfl ?_
  refine mv rfl ?_
  refine rN ?_
  refine qN ?_
  refine cB ?_
  refine cL1 (fun (k : Nat) => [(8, .int .i64 (k : Nat))]) [(3, _), (6, _), (7, _)] (fun (k : Nat) => M) (fun (k : Nat) => 2 - k) (fun (k : Nat) => k ≤ 2 ∧ ∀ j, j < k → [x, y].getD j 0 = 0) (0) (by repeat first | exact Sub.nil _ | refine Sub.cons rfl ?_) (by (try simp only [List.cons_append, List.nil_append, List.append_assoc]); repeat' first | with_reducible apply eR | with_reducible apply eA | ((with_reducible apply xA); · repeat first | with_reducible apply lH | with_reducible apply lT | with_reducible apply lL) | ((with_reducible apply xC); · repeat first | apply pH | with_reducible apply pT | with_reducible apply pL) | with_reducible assumption | with_reducible apply eS | with_reducible apply eL | exact eR) (by exact ⟨Nat.zero_le _, fun j hj => by omega⟩) ?_
  rintro k ⟨hk, hj⟩
  refine wT (T' := [(8, _), (3, _), (6, _), (7, _)]) rfl ?_
  refine cS (cR ?_)
  refine bLss rfl rfl ?_
  refine rN ?_
  refine qN ?_
  refine cS ?_
  refine cC rfl (fun c1 => ?_) (fun c1 => ?_)
  · have c1' := c1; try simp only [inB_iff, Bool.and_eq_true, decide_eq_true_eq, decide_eq_false_iff_not, beq_iff_eq, beq_eq_false_iff_ne, bne_iff_ne, bne_eq_false_iff_eq, ne_eq] at c1'
    have hk2 : k < 2 := by omega
    refine cK ?_
    refine qN ?_
    refine cS ?_
    refine cB ?_
    refine cS (cR ?_)
    first
      | refine ixN rfl rfl (by first | (apply RdC.aok; with_reducible assumption) | exact AOk.own | (apply RdD.aok; with_reducible assumption) | (apply RdD.aok; apply OwD.rdD; with_reducible assumption) | (apply RdI.aok; with_reducible assumption) | (apply RdW.aok; with_reducible assumption) | (apply RdI.aok; apply OwI.rdI; with_reducible assumption) | with_reducible assumption | (apply RdF.aok; with_reducible assumption) | (apply RdF.aok; apply OwF.rdF; with_reducible assumption)) (by first | with_reducible assumption | omega) ?_
      | refine ixI rfl rfl (by first | (apply RdC.aok; with_reducible assumption) | exact AOk.own | (apply RdD.aok; with_reducible assumption) | (apply RdD.aok; apply OwD.rdD; with_reducible assumption) | (apply RdI.aok; with_reducible assumption) | (apply RdW.aok; with_reducible assumption) | (apply RdI.aok; apply OwI.rdI; with_reducible assumption) | with_reducible assumption | (apply RdF.aok; with_reducible assumption) | (apply RdF.aok; apply OwF.rdF; with_reducible assumption)) (by omega) (by omega) ?_
    refine ldI rfl (by first | with_reducible assumption | (apply RdI.mono; (· (with_reducible assumption)); · (try simp only [List.cons_append, List.nil_append, List.append_assoc]); repeat' first | with_reducible apply eR | with_reducible apply eA | ((with_reducible apply xA); · repeat first | with_reducible apply lH | with_reducible apply lT | with_reducible apply lL) | ((with_reducible apply xC); · repeat first | apply pH | with_reducible apply pT | with_reducible apply pL) | with_reducible assumption | with_reducible apply eS | with_reducible apply eL | exact eR) | (apply RdI.mono; (· (apply OwI.rdI; with_reducible assumption)); · (try simp only [List.cons_append, List.nil_append, List.append_assoc]); repeat' first | with_reducible apply eR | with_reducible apply eA | ((with_reducible apply xA); · repeat first | with_reducible apply lH | with_reducible apply lT | with_reducible apply lL) | ((with_reducible apply xC); · repeat first | apply pH | with_reducible apply pT | with_reducible apply pL) | with_reducible assumption | with_reducible apply eS | with_reducible apply eL | exact eR)) (by first | with_reducible assumption | omega) ?_
    refine asg rfl ?_
    refine rN ?_
    refine qN ?_
    refine cS (cR ?_)
    refine mv rfl ?_
    refine mv rfl ?_
    refine bNeq rfl rfl ?_
    refine rN ?_
    refine qN ?_
    refine cC rfl (fun hr => ?_) (fun hr => ?_)
    · have hr' := hr; try simp only [inB_iff, Bool.and_eq_true, decide_eq_true_eq, decide_eq_false_iff_not, beq_iff_eq, beq_eq_false_iff_ne, bne_iff_ne, bne_eq_false_iff_eq, ne_eq] at hr'
      refine cS (cR ?_)
      refine mv rfl ?_
      refine asg rfl ?_
      refine rN ?_
      refine qN ?_
      refine cE ?_
      refine qBE ?_
      refine qE ?_
      refine qL1E ?_
      refine qBE ?_
      refine qE ?_
      refine kE rfl rfl  ?_
      first | (exfalso; contradiction) | exact ⟨_, ⟨by rw [← or_yes hk2 hj hr'], rfl⟩, (by (try simp only [List.cons_append, List.nil_append, List.append_assoc]); repeat' first | with_reducible apply eR | with_reducible apply eA | ((with_reducible apply xA); · repeat first | with_reducible apply lH | with_reducible apply lT | with_reducible apply lL) | ((with_reducible apply xC); · repeat first | apply pH | with_reducible apply pT | with_reducible apply pL) | with_reducible assumption | with_reducible apply eS | with_reducible apply eL | exact eR)⟩ | (exfalso; first | contradiction | omega | (simp_all; done) | (simp_all; omega))
    · have hr' := hr; try simp only [inB_iff, Bool.and_eq_true, decide_eq_true_eq, decide_eq_false_iff_not, beq_iff_eq, beq_eq_false_iff_ne, bne_iff_ne, bne_eq_false_iff_eq, ne_eq] at hr'
      refine cK ?_
      refine qBN ?_
      refine qN ?_
      refine cR ?_
      first | refine rAn (b := 1) rfl rfl (by omega) ?_ | refine rA rfl rfl (by omega) (by omega) ?_ | refine bAdd rfl rfl ?_
      refine mv rfl ?_
      refine rN ?_
      refine qL1 (k + 1) ?_ (by omega) (by repeat first | exact Sub.nil _ | refine Sub.cons rfl ?_) (by (try simp only [List.cons_append, List.nil_append, List.append_assoc]); repeat' first | with_reducible apply eR | with_reducible apply eA | ((with_reducible apply xA); · repeat first | with_reducible apply lH | with_reducible apply lT | with_reducible apply lL) | ((with_reducible apply xC); · repeat first | apply pH | with_reducible apply pT | with_reducible apply pL) | with_reducible assumption | with_reducible apply eS | with_reducible apply eL | exact eR)
      refine ⟨by omega, fun j hj2 => ?_⟩
      by_cases e : j = k
      · subst e; exact hr'
      · exact hj j (by omega)
  · have c1' := c1; try simp only [inB_iff, Bool.and_eq_true, decide_eq_true_eq, decide_eq_false_iff_not, beq_iff_eq, beq_eq_false_iff_ne, bne_iff_ne, bne_eq_false_iff_eq, ne_eq] at c1'
    refine cX ?_
    refine qX ?_
    refine qL1X ?_
    refine qBX ?_
    refine qN ?_
    refine cS (cR ?_)
    refine mv rfl ?_
    refine asg rfl ?_
    refine rN ?_
    refine qN ?_
    refine cE ?_
    refine kE rfl rfl  ?_
    first | (exfalso; contradiction) | exact ⟨_, ⟨by rw [← or_no (fun j h2 => hj j (by omega))], rfl⟩, (by (try simp only [List.cons_append, List.nil_append, List.append_assoc]); repeat' first | with_reducible apply eR | with_reducible apply eA | ((with_reducible apply xA); · repeat first | with_reducible apply lH | with_reducible apply lT | with_reducible apply lL) | ((with_reducible apply xC); · repeat first | apply pH | with_reducible apply pT | with_reducible apply pL) | with_reducible assumption | with_reducible apply eS | with_reducible apply eL | exact eR)⟩ | (exfalso; first | contradiction | omega | (simp_all; done) | (simp_all; omega))
def cmp3 (w d w' d' : Int) : Int := orI (cmpI w w') (cmpI d d')
theorem cmpI_ne (x y : Int) : cmpI x y ≠ 0 ↔ x ≠ y := by
  unfold cmpI; split
  · constructor <;> intro _ <;> omega
  · split
    · constructor <;> intro _ <;> omega
    · constructor <;> intro _ <;> omega
theorem cmpI_lt (x y : Int) : cmpI x y < 0 ↔ x < y := by
  unfold cmpI; split
  · constructor <;> intro _ <;> omega
  · split
    · constructor <;> intro _ <;> omega
    · constructor <;> intro _ <;> omega
theorem cmp3_lt (f g : Frm) : decide (cmp3 f.w f.d g.w g.d < 0) = gtR g f := by
  unfold cmp3 orI gtR
  by_cases h : f.w = g.w
  · rw [if_neg (by rw [cmpI_ne]; simp [h])]
    have e1 : (g.w == f.w) = true := by simp [h]
    have e2 : decide (g.w > f.w) = false := decide_eq_false (by omega)
    rw [e1, e2, Bool.false_or, Bool.true_and]
    exact decide_eq_decide.2 (cmpI_lt _ _)
  · rw [if_pos (by rw [cmpI_ne]; exact h)]
    have e1 : (g.w == f.w) = false := beq_false_of_ne (Ne.symm h)
    rw [e1, Bool.false_and, Bool.or_false]
    exact decide_eq_decide.2 (cmpI_lt _ _)
theorem c_sorted1 (w d w' d' : Int) (u u' : Value) (M : Mem) :
    ACall Try.prog 65 [.agg #[.int .i64 w, .int .i64 d, u], .agg #[.int .i64 w', .int .i64 d', u']] M fun v M' => v = .int .i64 (cmp3 w d w' d') ∧ M' = M := by
  skip
  refine acall_of_awp Try.func65 rfl Try.ntmps65 rfl ?_
  refine cS (cR ?_)
  first | (refine rXa rfl ?_; intro bk1) | (refine rX rfl rfl ?_; intro bk1)
  first | (refine rXa rfl ?_; intro bk2) | (refine rX rfl rfl ?_; intro bk2)
  refine asg rfl ?_
  refine rN ?_
  refine qN ?_
  refine cS ?_
  refine cD [] [(0, true), (1, true), (2, true), (3, true), (5, true), (6, true), (7, true), (8, true), (4, false), (9, false), (10, false), (11, false), (12, false)] (by repeat first | exact fineT | exact fineL | exact fineLQ1 | exact fineLQ2 | exact fineLQ3 | exact fineLQ4 | exact fineLQ5 | exact fineLQ6 | exact fineR | refine fineB ?_) (by kernel_rfl) ?_
  simp only [pick, List.getElem?_toArray, List.getElem?_cons_zero, List.getElem?_cons_succ]
  refine fA rfl ?_
  first | refine rL rfl (by repeat first | with_reducible assumption | with_reducible apply List.mem_cons_self | with_reducible apply List.mem_cons_of_mem | with_reducible apply List.mem_append_right | exact List.Mem.head _) rfl rfl ?_ | refine rL rfl (by repeat first | with_reducible assumption | with_reducible apply List.mem_cons_self | with_reducible apply List.mem_cons_of_mem | with_reducible apply List.mem_append_right | exact List.Mem.head _) (by with_reducible assumption) rfl ?_
  refine fA rfl ?_
  first | refine rL rfl (by repeat first | with_reducible assumption | with_reducible apply List.mem_cons_self | with_reducible apply List.mem_cons_of_mem | with_reducible apply List.mem_append_right | exact List.Mem.head _) rfl rfl ?_ | refine rL rfl (by repeat first | with_reducible assumption | with_reducible apply List.mem_cons_self | with_reducible apply List.mem_cons_of_mem | with_reducible apply List.mem_append_right | exact List.Mem.head _) (by with_reducible assumption) rfl ?_
  refine fA rfl ?_
  first | refine rL rfl (by repeat first | with_reducible assumption | with_reducible apply List.mem_cons_self | with_reducible apply List.mem_cons_of_mem | with_reducible apply List.mem_append_right | exact List.Mem.head _) rfl rfl ?_ | refine rL rfl (by repeat first | with_reducible assumption | with_reducible apply List.mem_cons_self | with_reducible apply List.mem_cons_of_mem | with_reducible apply List.mem_append_right | exact List.Mem.head _) (by with_reducible assumption) rfl ?_
  refine fA rfl ?_
  first | refine rL rfl (by repeat first | with_reducible assumption | with_reducible apply List.mem_cons_self | with_reducible apply List.mem_cons_of_mem | with_reducible apply List.mem_append_right | exact List.Mem.head _) rfl rfl ?_ | refine rL rfl (by repeat first | with_reducible assumption | with_reducible apply List.mem_cons_self | with_reducible apply List.mem_cons_of_mem | with_reducible apply List.mem_append_right | exact List.Mem.head _) (by with_reducible assumption) rfl ?_
  refine rCq rfl (c_cmpCompare _ _ _) ?_
  refine rCq rfl (c_cmpCompare _ _ _) ?_
  refine rBS rfl rfl rfl rfl rfl ?_; intro bk3
  refine rCq rfl (c_cmpOr _ _ (cmpI w w') (cmpI d d') _ (rdI2 (by repeat first | with_reducible assumption | with_reducible apply List.mem_cons_self | with_reducible apply List.mem_cons_of_mem | with_reducible apply List.mem_append_right | exact List.Mem.head _))) ?_
  refine asg rfl ?_
  refine rN ?_
  refine qN ?_
  refine cE ?_
  refine kE rfl rfl  ?_
  first | (exfalso; contradiction) | exact ⟨_, ⟨rfl, rfl⟩, (by (try simp only [List.cons_append, List.nil_append, List.append_assoc]); repeat' first | with_reducible apply eR | with_reducible apply eA | ((with_reducible apply xA); · repeat first | with_reducible apply lH | with_reducible apply lT | with_reducible apply lL) | ((with_reducible apply xC); · repeat first | apply pH | with_reducible apply pT | with_reducible apply pL) | with_reducible assumption | with_reducible apply eS | with_reducible apply eL | exact eR)⟩ | (exfalso; first | contradiction | omega | (simp_all; done) | (simp_all; omega))
/-! ## frames of a list of the call's own, loaded and stored whole -/
theorem OwC.aok {s : Nat} {L : Mem} {a : Option Addr} {n c : Nat} {cs : List Value} (h : OwC s L (.slice a n c) n cs) : AOk a n := by
  rcases h with ⟨⟨a0, hv⟩, rfl, rfl, rfl⟩ | ⟨b, cap, rest, hv, h1, h2, h3, rfl⟩
  · exact .inl rfl
  · obtain ⟨rfl, _, rfl⟩ := Value.slice.inj hv
    exact .inr ⟨b, 0, rfl⟩
section
variable {P : Program} {n : Nat} {T : Tm} {M : Mem} {ops : Array Oper} {st : Option (List Nat)} {Q : Tm → Mem → Prop} {fl : Bool} {l : List (Oper × Bool)} {d : Option Nat} {ty : Nat} {pos : String} {after : Array Edge}
theorem ldT {t bytes : Nat} {z : Value} [AggT P t] [InfoT P t 3 bytes z] {x : Operand} {a : Option Addr} {m c j : Nat} {ds : List Efr} {e : Efr} {L : Mem} (ho : OwC 3 L (.slice a m c) m (eCs ds)) (he : ds.getD j zE = e) (hj : j < m) (ex : ev T x = some (pRt a j)) (hL : Ext L M)
    (kk : Run P n ops st Q l (putT n d (.agg #[.int .i64 e.1.w, .int .i64 e.1.d, e.2]) T) M) : Run P n ops st Q ((⟨d, .load t x, ty, pos, after, none⟩, fl) :: l) T M := by
  rcases ho with ⟨⟨a0, hv⟩, rfl, _, rfl⟩ | ⟨b, cap, rest, hv, h1, h2, h3, rfl⟩
  · omega
  · obtain ⟨rfl, _, rfl⟩ := Value.slice.inj hv
    have hdl : ds.length = m := by rw [eCs_len] at h2; omega
    have hget : ∀ q, q < 3 → (eCs ds ++ rest)[j * 3 + q]? = (t3 (tE e))[q]? := by
      intro q hq
      rw [List.getElem?_append_left (by rw [eCs_len]; omega)]
      unfold eCs
      rw [tcs_get _ j q (by rw [List.length_map]; omega) hq, map_tE_get (by omega), he]
    refine rLA (b := b) (o := j * 3) (k := ⟨eCs ds ++ rest, true⟩) (by rw [ex]; simp [pRt]) (hL.mem List.mem_cons_self) (drop_take3 (hget 0 (by decide)) (hget 1 (by decide)) (hget 2 (by decide))) (Nat.ble_eq_true_of_le ?_) kk
    show j * 3 + 3 ≤ (eCs ds ++ rest).length
    rw [List.length_append, eCs_len]; omega
theorem tQ {t bytes : Nat} {z : Value} [InfoT P t 3 bytes z] {x y : Operand} {a : Option Addr} {m c j : Nat} {ds : List Efr} {e : Efr} {L M1 : Mem} (ex : ev T x = some (pRt a j)) (ey : ev T y = some (.agg #[.int .i64 e.1.w, .int .i64 e.1.d, e.2])) (hf : flatV e.2 = true) (ho : OwC 3 L (.slice a m c) m (eCs ds)) (hM : Ext (L ++ M1) M) (hj : j < m)
    (kk : ∀ L', OwC 3 L' (.slice a m c) m (eCs (ds.set j e)) → Run P n ops st Q l T (L' ++ M1)) : Run P n ops st Q ((⟨none, .store t x y, ty, pos, after, none⟩, false) :: l) T M := by
  rcases ho with ⟨⟨a0, hv⟩, rfl, _, rfl⟩ | ⟨b, cap, rest, hv, h1, h2, h3, rfl⟩
  · omega
  · obtain ⟨rfl, _, rfl⟩ := Value.slice.inj hv
    have hdl : ds.length = m := by rw [eCs_len] at h2; omega
    have hcs : (eCs ds ++ rest).take (j * 3) ++ t3 (tE e) ++ (eCs ds ++ rest).drop (j * 3 + 3) = eCs (ds.set j e) ++ rest := by
      have h := tcs_set (ds.map tE) j (tE e) (by rw [List.length_map]; omega)
      rw [List.take_append_of_le_length (by rw [eCs_len]; omega), List.drop_append_of_le_length (by rw [eCs_len]; omega), ← List.append_assoc]
      congr 1
      unfold eCs
      rw [h, List.map_set]
    refine run_step rfl (Step.ofExt (step_storeAgg (P := P) (M := (b, ⟨eCs ds ++ rest, true⟩) :: M1) (tl := t) (size := 3) (k := ⟨eCs ds ++ rest, true⟩) (vs := t3 (tE e)) (cs := eCs (ds.set j e) ++ rest) (b := b) (o := j * 3) 0 (by rw [ex]; simp [pRt]) ey (by simp only [tE, List.all_cons, List.all_nil, hf, Bool.and_true]; rfl) rfl rfl rfl (Nat.ble_eq_true_of_le (by show j * 3 + 3 ≤ (eCs ds ++ rest).length; rw [List.length_append, eCs_len]; omega)) hcs ⟨fun _ _ h => by simp [keeps, writer, keptD] at h, ?_⟩) hM)
    exact kk [(b, ⟨eCs (ds.set j e) ++ rest, true⟩)] (.inr ⟨b, c, rest, rfl, h1, by rw [eCs_len, List.length_set, ← eCs_len]; exact h2, by rw [eCs_len, List.length_set, ← eCs_len]; exact h3, rfl⟩)
end
/-! ## one that goes down a list -/
section
variable {α : Type}
def stI (l : List α) (x : α) (r : List α) (j : Nat) : List α := l.take j ++ x :: (l.drop j ++ r)
theorem stI_len {l : List α} {x : α} {r : List α} {j : Nat} (h : j ≤ l.length) : (stI l x r j).length = l.length + 1 + r.length := by
  unfold stI; simp; omega
theorem stI_top {l : List α} {x : α} {r : List α} : stI l x r l.length = l ++ x :: r := by unfold stI; simp
theorem stI_ins {l : List α} {x : α} {r : List α} {j : Nat} : stI l x r j = (l.take j ++ x :: l.drop j) ++ r := by unfold stI; simp
theorem stI_at {l : List α} {x z : α} {r : List α} {j : Nat} (h : j ≤ l.length) : (stI l x r j).getD j z = x := by
  have e : (l.take j).length = j := by rw [List.length_take]; omega
  unfold stI
  rw [List.getD_eq_getElem?_getD, List.getElem?_append_right (by omega), e, Nat.sub_self]; rfl
theorem stI_pre {l : List α} {x z : α} {r : List α} {j k : Nat} (h : j ≤ l.length) (hk : k < j) : (stI l x r j).getD k z = l.getD k z := by
  have e : (l.take j).length = j := by rw [List.length_take]; omega
  unfold stI
  rw [List.getD_eq_getElem?_getD, List.getElem?_append_left (by omega), List.getElem?_take, if_pos hk, ← List.getD_eq_getElem?_getD]
theorem stI_swap {l : List α} {x z : α} {r : List α} {k : Nat} (h : k + 1 ≤ l.length) : ((stI l x r (k + 1)).set (k + 1) (l.getD k z)).set k x = stI l x r k := by
  have hk : k < l.length := by omega
  have e1 : l.take (k + 1) = l.take k ++ [l[k]] := by rw [List.take_succ_eq_append_getElem hk]
  have e2 : l.drop k = l[k] :: l.drop (k + 1) := List.drop_eq_getElem_cons hk
  have e3 : (l.take k).length = k := by rw [List.length_take]; omega
  have e4 : l.getD k z = l[k] := by simp [List.getD, hk]
  unfold stI
  rw [e1, e2, e4, List.append_assoc, List.set_append_right _ _ (by omega), e3, show k + 1 - k = 1 from by omega]
  show (l.take k ++ (l[k] :: l[k] :: (l.drop (k + 1) ++ r))).set k x = _
  rw [List.set_append_right _ _ (by omega), e3, Nat.sub_self]
  rfl
theorem stI_swap' {l : List α} {x z : α} {r : List α} {k : Nat} (h : k + 1 ≤ l.length) : ((stI l x r (k + 1)).set k x).set (k + 1) (l.getD k z) = stI l x r k := by
  rw [← stI_swap (z := z) h, List.set_comm _ _ (by omega)]
end
theorem stI_swapJ {α : Type} {l : List α} {x z : α} {r : List α} {j : Nat} (h0 : 0 < j) (h : j ≤ l.length) : ((stI l x r j).set j (l.getD (j - 1) z)).set (j - 1) x = stI l x r (j - 1) := by
  obtain ⟨k, rfl⟩ : ∃ k, j = k + 1 := ⟨j - 1, by omega⟩
  exact stI_swap h
theorem stI_swapK {α : Type} {l : List α} {x z : α} {r : List α} {j : Nat} (h0 : 0 < j) (h : j ≤ l.length) : ((stI l x r j).set (j - 1) x).set j (l.getD (j - 1) z) = stI l x r (j - 1) := by
  obtain ⟨k, rfl⟩ : ∃ k, j = k + 1 := ⟨j - 1, by omega⟩
  exact stI_swap' h
theorem OwE.flatE {L : Mem} {es : List Efr} (h : OwE L es) : ∀ e ∈ es, flatV e.2 = true := fun e he => OwL.flat h _ (List.mem_map_of_mem he)
abbrev srE (es : List Efr) (i : Nat) : List Efr := sortG gtE zE es i
theorem drop_getD {α : Type} {l : List α} {i : Nat} {z : α} (h : i < l.length) : l.drop i = l.getD i z :: l.drop (i + 1) := by
  rw [List.drop_eq_getElem_cons h]; simp [List.getD, h]
theorem mem_getD {α : Type} {l : List α} {i : Nat} {z : α} (h : i < l.length) : l.getD i z ∈ l := by
  rw [getD_of_lt h]; exact List.getElem_mem h
theorem ds_end {es ds : List Efr} {i : Nat} (h : es.length = 0 ∧ ds = [] ∨ i ≤ es.length ∧ ds = srE es i ++ es.drop i) (hi : ¬ i < es.length) : ds = srE es es.length := by
  rcases h with ⟨h0, h1⟩ | ⟨h0, h1⟩
  · obtain rfl : es = [] := List.length_eq_zero_iff.1 h0
    exact h1
  · obtain rfl : i = es.length := by omega
    rw [h1, List.drop_length, List.append_nil]
set_option maxHeartbeats 1000000 in
theorem c_insSort (a : Option Addr) (n c : Nat) (es : List Efr) (L M : Mem) (ho : OwC 3 L (.slice a n c) n (eCs es)) (hF : ∀ e ∈ es, flatV e.2 = true) (hn : n ≤ 1000) :
    ACall Try.prog 79 [.slice a n c, .int .i64 0, .int .i64 (n : Nat), .func (.func 65) #[] #[]] (L ++ M) fun v M' => v = .tuple #[] ∧ ∃ L', OwC 3 L' (.slice a n c) n (eCs (srE es n)) ∧ M' = L' ++ M := by
  have hel : es.length = n := by obtain ⟨_, _, _, _, h⟩ := ho.shape; rw [eCs_len] at h; omega
  subst hel
  have hao := ho.aok
  skip
  skip
  skip
  skip
  skip
  skip
  skip
  skip
  skip
  skip
  skip
  skip
  skip
  skip
  skip
  skip
  skip
  refine acall_of_awp Try.func79 rfl Try.ntmps79 rfl ?_
  refine cS (cR ?_)
  refine mv rfl ?_
  first | refine rAn (b := 1) rfl rfl (by omega) ?_ | refine rA rfl rfl (by omega) (by omega) ?_ | refine bAdd rfl rfl ?_
  refine asg rfl ?_
  refine rN ?_
  refine qN ?_
  refine cB ?_
  refine cL3 (fun (i : Nat) (L : Mem) (ds : List Efr) => [(8, .int .i64 (i : Nat))]) [(0, _), (1, _), (2, _), (3, _)] (fun (i : Nat) (L : Mem) (ds : List Efr) => L ++ M) (fun (i : Nat) (L : Mem) (ds : List Efr) => es.length - i) (fun (i : Nat) (L : Mem) (ds : List Efr) => 1 ≤ i ∧ OwC 3 L (.slice a es.length c) es.length (eCs ds) ∧ (es.length = 0 ∧ ds = [] ∨ i ≤ es.length ∧ ds = srE es i ++ es.drop i)) (1) (L) (es) (by repeat first | exact Sub.nil _ | refine Sub.cons rfl ?_) (by (try simp only [List.cons_append, List.nil_append, List.append_assoc]); repeat' first | with_reducible apply eR | with_reducible apply eA | ((with_reducible apply xA); · repeat first | with_reducible apply lH | with_reducible apply lT | with_reducible apply lL) | ((with_reducible apply xC); · repeat first | apply pH | with_reducible apply pT | with_reducible apply pL) | with_reducible assumption | with_reducible apply eS | with_reducible apply eL | exact eR) (by exact ⟨Nat.le_refl _, ho, by cases es with | nil => exact .inl ⟨rfl, rfl⟩ | cons e es => exact .inr ⟨by simp, rfl⟩⟩) ?_
  rintro i L ds ⟨hi, hO, hds⟩
  refine wT (T' := [(8, _), (0, _), (1, _), (2, _), (3, _)]) rfl ?_
  refine cS ?_
  refine cS (cR ?_)
  refine mv rfl ?_
  refine mv rfl ?_
  refine bLss rfl rfl ?_
  refine rN ?_
  refine qN ?_
  refine cC rfl (fun c1 => ?_) (fun c1 => ?_)
  · have c1' := c1; try simp only [inB_iff, Bool.and_eq_true, decide_eq_true_eq, decide_eq_false_iff_not, beq_iff_eq, beq_eq_false_iff_ne, bne_iff_ne, bne_eq_false_iff_eq, ne_eq] at c1'
    have hi2 : i < es.length := by omega
    obtain rfl : ds = srE es i ++ es.drop i := by rcases hds with ⟨h0, _⟩ | ⟨_, h⟩; (exfalso; omega); exact h
    have hsl : (srE es i).length = i := sortG_len _ _ _ _
    rw [drop_getD (z := zE) hi2, ← stI_top, hsl] at hO
    have hfx : flatV (es.getD i zE).2 = true := hF _ (mem_getD hi2)
    refine cK ?_
    refine qN ?_
    refine cS ?_
    refine cB ?_
    refine cS (cR ?_)
    refine mv rfl ?_
    refine asg rfl ?_
    refine rN ?_
    refine qN ?_
    refine cB ?_
    refine cL2 (fun (j : Nat) (L : Mem) => [(9, .int .i64 (j : Nat))]) [(0, _), (1, _), (2, _), (3, _), (8, _)] (fun (j : Nat) (L : Mem) => L ++ M) (fun (j : Nat) (L : Mem) => j) (fun (j : Nat) (L : Mem) => j ≤ i ∧ OwC 3 L (.slice a es.length c) es.length (eCs (stI (srE es i) (es.getD i zE) (es.drop (i + 1)) j)) ∧ posN (fun k => gtE ((srE es i).getD k zE) (es.getD i zE)) i = posN (fun k => gtE ((srE es i).getD k zE) (es.getD i zE)) j) (i) (_) (by repeat first | exact Sub.nil _ | refine Sub.cons rfl ?_) (by (try simp only [List.cons_append, List.nil_append, List.append_assoc]); repeat' first | with_reducible apply eR | with_reducible apply eA | ((with_reducible apply xA); · repeat first | with_reducible apply lH | with_reducible apply lT | with_reducible apply lL) | ((with_reducible apply xC); · repeat first | apply pH | with_reducible apply pT | with_reducible apply pL) | with_reducible assumption | with_reducible apply eS | with_reducible apply eL | exact eR) (by exact ⟨Nat.le_refl _, hO, rfl⟩) ?_
    rintro j L ⟨hj, hO, hp⟩
    refine wT (T' := [(9, _), (0, _), (1, _), (2, _), (3, _), (8, _)]) rfl ?_
    refine cS ?_
    refine cM1 (fun (B : Bool) => [(34, .bool B)]) [(0, _), (1, _), (2, _), (3, _), (8, _), (9, _)] (fun (B : Bool) => L ++ M) (fun (B : Bool) => B = (decide (0 < j) && gtE ((srE es i).getD (j - 1) zE) (es.getD i zE))) (by repeat first | exact Sub.nil _ | refine Sub.cons rfl ?_) ?_ ?_
    · refine cD [] [(0, true), (1, false), (2, false), (3, false), (4, true), (5, true), (6, true), (7, true), (8, true), (9, true), (10, false), (11, false), (12, false), (13, false), (14, false), (15, false), (16, false)] (by repeat first | exact fineT | exact fineL | exact fineLQ1 | exact fineLQ2 | exact fineLQ3 | exact fineLQ4 | exact fineLQ5 | exact fineLQ6 | exact fineR | refine fineB ?_) (by kernel_rfl) ?_
      simp only [pick, List.getElem?_toArray, List.getElem?_cons_zero, List.getElem?_cons_succ]
      refine mv rfl ?_
      refine mv rfl ?_
      refine bGtr rfl rfl ?_
      refine mv rfl ?_
      refine gC rfl rfl (fun c2 => ?_) (fun c2 => ?_)
      · have c2' := c2; try simp only [inB_iff, Bool.and_eq_true, decide_eq_true_eq, decide_eq_false_iff_not, beq_iff_eq, beq_eq_false_iff_ne, bne_iff_ne, bne_eq_false_iff_eq, ne_eq] at c2'
        refine gG rfl rfl c2 ?_
        refine mv rfl ?_
        refine gG rfl rfl c2 ?_
        refine mv rfl ?_
        refine gG rfl rfl c2 ?_
        refine mv rfl ?_
        refine gG rfl rfl c2 ?_
        refine ixR rfl rfl hao (by omega) ?_
        refine gG rfl rfl c2 ?_
        refine ldT hO (stI_at (by omega)) (by omega) rfl (by (try simp only [List.cons_append, List.nil_append, List.append_assoc]); repeat' first | with_reducible apply eR | with_reducible apply eA | ((with_reducible apply xA); · repeat first | with_reducible apply lH | with_reducible apply lT | with_reducible apply lL) | ((with_reducible apply xC); · repeat first | apply pH | with_reducible apply pT | with_reducible apply pL) | with_reducible assumption | with_reducible apply eS | with_reducible apply eL | exact eR) ?_
        refine gG rfl rfl c2 ?_
        refine mv rfl ?_
        refine gG rfl rfl c2 ?_
        refine mv rfl ?_
        refine gG rfl rfl c2 ?_
        refine rBn (b := 1) rfl rfl (by omega) (by omega) ?_
        refine gG rfl rfl c2 ?_
        refine ixR rfl rfl hao (by omega) ?_
        refine gG rfl rfl c2 ?_
        refine ldT hO (stI_pre (by omega) (show j - 1 < j by omega)) (by omega) rfl (by (try simp only [List.cons_append, List.nil_append, List.append_assoc]); repeat' first | with_reducible apply eR | with_reducible apply eA | ((with_reducible apply xA); · repeat first | with_reducible apply lH | with_reducible apply lT | with_reducible apply lL) | ((with_reducible apply xC); · repeat first | apply pH | with_reducible apply pT | with_reducible apply pL) | with_reducible assumption | with_reducible apply eS | with_reducible apply eL | exact eR) ?_
        refine gG rfl rfl c2 ?_
        refine rV (fi := []) (ca := []) rfl rfl rfl rfl (c_sorted1 _ _ _ _ _ _ _) ?_
        rintro _ _ ⟨rfl, rfl⟩
        refine ⟨fun _ => eR, ?_⟩
        refine gG rfl rfl c2 ?_
        refine bLss rfl rfl ?_
        refine kT rfl c2 rfl ?_
        refine rN ?_
        refine qL1 (_) ?_ (by exact Nat.zero_lt_one) (by repeat first | exact Sub.nil _ | refine Sub.cons rfl ?_) (by (try simp only [List.cons_append, List.nil_append, List.append_assoc]); repeat' first | with_reducible apply eR | with_reducible apply eA | ((with_reducible apply xA); · repeat first | with_reducible apply lH | with_reducible apply lT | with_reducible apply lL) | ((with_reducible apply xC); · repeat first | apply pH | with_reducible apply pT | with_reducible apply pL) | with_reducible assumption | with_reducible apply eS | with_reducible apply eL | exact eR)
        first | (rw [decide_eq_false (show ¬ 0 < j by omega)]; rfl) | (rw [decide_eq_true (show 0 < j by omega), Bool.true_and]; exact cmp3_lt _ _)
      · have c2' := c2; try simp only [inB_iff, Bool.and_eq_true, decide_eq_true_eq, decide_eq_false_iff_not, beq_iff_eq, beq_eq_false_iff_ne, bne_iff_ne, bne_eq_false_iff_eq, ne_eq] at c2'
        refine gS rfl rfl c2 ?_
        refine gS rfl rfl c2 ?_
        refine gS rfl rfl c2 ?_
        refine gS rfl rfl c2 ?_
        refine gS rfl rfl c2 ?_
        refine gS rfl rfl c2 ?_
        refine gS rfl rfl c2 ?_
        refine gS rfl rfl c2 ?_
        refine gS rfl rfl c2 ?_
        refine gS rfl rfl c2 ?_
        refine gS rfl rfl c2 ?_
        refine gS rfl rfl c2 ?_
        refine kF rfl c2 rfl ?_
        refine rN ?_
        refine qL1 (_) ?_ (by exact Nat.zero_lt_one) (by repeat first | exact Sub.nil _ | refine Sub.cons rfl ?_) (by (try simp only [List.cons_append, List.nil_append, List.append_assoc]); repeat' first | with_reducible apply eR | with_reducible apply eA | ((with_reducible apply xA); · repeat first | with_reducible apply lH | with_reducible apply lT | with_reducible apply lL) | ((with_reducible apply xC); · repeat first | apply pH | with_reducible apply pT | with_reducible apply pL) | with_reducible assumption | with_reducible apply eS | with_reducible apply eL | exact eR)
        first | (rw [decide_eq_false (show ¬ 0 < j by omega)]; rfl) | (rw [decide_eq_true (show 0 < j by omega), Bool.true_and]; exact cmp3_lt _ _)
    · rintro B rfl
      refine wT (T' := [(34, _), (0, _), (1, _), (2, _), (3, _), (8, _), (9, _)]) rfl ?_
      refine cC rfl (fun hB => ?_) (fun hB => ?_)
      · have hB' := hB; try simp only [inB_iff, Bool.and_eq_true, decide_eq_true_eq, decide_eq_false_iff_not, beq_iff_eq, beq_eq_false_iff_ne, bne_iff_ne, bne_eq_false_iff_eq, ne_eq] at hB'
        rw [Bool.and_eq_true, decide_eq_true_eq] at hB
        obtain ⟨hB1, hB2⟩ := hB
        have hfl : flatV ((srE es i).getD (j - 1) zE).2 = true := hF _ (((sortG_perm gtE zE es i (by omega)).mem_iff.1 (mem_getD (by rw [hsl]; omega))) |> List.mem_of_mem_take)
        refine cK ?_
        refine qN ?_
        refine cM1 (fun (L2 : Mem) => []) [(0, _), (1, _), (2, _), (3, _), (8, _), (9, _)] (fun (L2 : Mem) => L2 ++ M) (fun (L2 : Mem) => OwC 3 L2 (.slice a es.length c) es.length (eCs (stI (srE es i) (es.getD i zE) (es.drop (i + 1)) (j - 1)))) (by repeat first | exact Sub.nil _ | refine Sub.cons rfl ?_) ?_ ?_
        · refine cB ?_
          refine cD [] [(0, true), (1, true), (2, true), (3, true), (4, true), (5, true), (6, true), (7, true), (8, true), (9, true), (10, true), (11, false), (12, false), (13, false), (14, false), (15, false), (16, false), (17, false)] (by repeat first | exact fineT | exact fineL | exact fineLQ1 | exact fineLQ2 | exact fineLQ3 | exact fineLQ4 | exact fineLQ5 | exact fineLQ6 | exact fineR | refine fineB ?_) (by kernel_rfl) ?_
          simp only [pick, List.getElem?_toArray, List.getElem?_cons_zero, List.getElem?_cons_succ]
          refine mv rfl ?_
          refine mv rfl ?_
          refine mv rfl ?_
          refine mv rfl ?_
          refine rBn (b := 1) rfl rfl (by omega) (by omega) ?_
          refine mv rfl ?_
          refine mv rfl ?_
          refine rBn (b := 1) rfl rfl (by omega) (by omega) ?_
          refine ixR rfl rfl hao (by omega) ?_
          refine ldT hO (stI_pre (by omega) (show j - 1 < j by omega)) (by omega) rfl (by (try simp only [List.cons_append, List.nil_append, List.append_assoc]); repeat' first | with_reducible apply eR | with_reducible apply eA | ((with_reducible apply xA); · repeat first | with_reducible apply lH | with_reducible apply lT | with_reducible apply lL) | ((with_reducible apply xC); · repeat first | apply pH | with_reducible apply pT | with_reducible apply pL) | with_reducible assumption | with_reducible apply eS | with_reducible apply eL | exact eR) ?_
          refine mv rfl ?_
          refine mv rfl ?_
          refine ixR rfl rfl hao (by omega) ?_
          refine ldT hO (stI_at (by omega)) (by omega) rfl (by (try simp only [List.cons_append, List.nil_append, List.append_assoc]); repeat' first | with_reducible apply eR | with_reducible apply eA | ((with_reducible apply xA); · repeat first | with_reducible apply lH | with_reducible apply lT | with_reducible apply lL) | ((with_reducible apply xC); · repeat first | apply pH | with_reducible apply pT | with_reducible apply pL) | with_reducible assumption | with_reducible apply eS | with_reducible apply eL | exact eR) ?_
          refine ixR rfl rfl hao (by omega) ?_
          first | (refine tP rfl rfl (by with_reducible assumption) (by repeat first | with_reducible apply lH | with_reducible apply lT | with_reducible apply lL) (by first | with_reducible assumption | omega) ?_; intro lk1 how1) | refine tR rfl rfl rfl (by repeat first | apply pH | with_reducible apply pT | with_reducible apply pL) (by first | with_reducible assumption | omega) ?_ | (refine tQ rfl rfl (by with_reducible assumption) (by with_reducible assumption) (by repeat first | with_reducible apply lH | with_reducible apply lT | with_reducible apply lL) (by first | with_reducible assumption | omega) ?_; intro lk1 how1)
          refine ixR rfl rfl hao (by omega) ?_
          first | (refine tP rfl rfl (by with_reducible assumption) (by repeat first | with_reducible apply lH | with_reducible apply lT | with_reducible apply lL) (by first | with_reducible assumption | omega) ?_; intro lk2 how2) | refine tR rfl rfl rfl (by repeat first | apply pH | with_reducible apply pT | with_reducible apply pL) (by first | with_reducible assumption | omega) ?_ | (refine tQ rfl rfl (by with_reducible assumption) (by with_reducible assumption) (by repeat first | with_reducible apply lH | with_reducible apply lT | with_reducible apply lL) (by first | with_reducible assumption | omega) ?_; intro lk2 how2)
          refine rN ?_
          refine qBN ?_
          refine qL1 (_) ?_ (by exact Nat.zero_lt_one) (by repeat first | exact Sub.nil _ | refine Sub.cons rfl ?_) (by (try simp only [List.cons_append, List.nil_append, List.append_assoc]); repeat' first | with_reducible apply eR | with_reducible apply eA | ((with_reducible apply xA); · repeat first | with_reducible apply lH | with_reducible apply lT | with_reducible apply lL) | ((with_reducible apply xC); · repeat first | apply pH | with_reducible apply pT | with_reducible apply pL) | with_reducible assumption | with_reducible apply eS | with_reducible apply eL | exact eR)
          first | (rw [← stI_swapJ hB1 (by omega)]; assumption) | (rw [← stI_swapK hB1 (by omega)]; assumption)
        · rintro L2 hO2
          refine wT (T' := [(0, _), (1, _), (2, _), (3, _), (8, _), (9, _)]) rfl ?_
          refine cR ?_
          refine mv rfl ?_
          refine rBn (b := 1) rfl rfl (by omega) (by omega) ?_
          refine asg rfl ?_
          refine rN ?_
          refine qL2 (j - 1) (_) ?_ (by omega) (by repeat first | exact Sub.nil _ | refine Sub.cons rfl ?_) (by (try simp only [List.cons_append, List.nil_append, List.append_assoc]); repeat' first | with_reducible apply eR | with_reducible apply eA | ((with_reducible apply xA); · repeat first | with_reducible apply lH | with_reducible apply lT | with_reducible apply lL) | ((with_reducible apply xC); · repeat first | apply pH | with_reducible apply pT | with_reducible apply pL) | with_reducible assumption | with_reducible apply eS | with_reducible apply eL | exact eR)
          refine ⟨by omega, hO2, ?_⟩
          obtain ⟨k, rfl⟩ : ∃ k, j = k + 1 := ⟨j - 1, by omega⟩
          rw [hp]; exact posN_y hB2
      · have hB' := hB; try simp only [inB_iff, Bool.and_eq_true, decide_eq_true_eq, decide_eq_false_iff_not, beq_iff_eq, beq_eq_false_iff_ne, bne_iff_ne, bne_eq_false_iff_eq, ne_eq] at hB'
        have hpj : posN (fun k => gtE ((srE es i).getD k zE) (es.getD i zE)) (srE es i).length = j := by rw [hsl, hp]; exact posN_at hB
        refine cX ?_
        refine qX ?_
        refine qL2X ?_
        refine qBX ?_
        refine qBN ?_
        refine qN ?_
        refine cR ?_
        refine mv rfl ?_
        first | refine rAn (b := 1) rfl rfl (by omega) ?_ | refine rA rfl rfl (by omega) (by omega) ?_ | refine bAdd rfl rfl ?_
        refine asg rfl ?_
        refine rN ?_
        refine qL3 (i + 1) (_) (srE es (i + 1) ++ es.drop (i + 1)) ?_ (by omega) (by repeat first | exact Sub.nil _ | refine Sub.cons rfl ?_) (by (try simp only [List.cons_append, List.nil_append, List.append_assoc]); repeat' first | with_reducible apply eR | with_reducible apply eA | ((with_reducible apply xA); · repeat first | with_reducible apply lH | with_reducible apply lT | with_reducible apply lL) | ((with_reducible apply xC); · repeat first | apply pH | with_reducible apply pT | with_reducible apply pL) | with_reducible assumption | with_reducible apply eS | with_reducible apply eL | exact eR)
        rw [stI_ins, ← insG_at hpj] at hO
        exact ⟨by omega, hO, .inr ⟨by omega, rfl⟩⟩
  · have c1' := c1; try simp only [inB_iff, Bool.and_eq_true, decide_eq_true_eq, decide_eq_false_iff_not, beq_iff_eq, beq_eq_false_iff_ne, bne_iff_ne, bne_eq_false_iff_eq, ne_eq] at c1'
    have hds2 : ds = srE es es.length := ds_end hds (by omega)
    subst hds2
    refine cX ?_
    refine qX ?_
    refine qL3X ?_
    refine qBX ?_
    refine fN ?_
    refine kE0 rfl  ?_
    first | (exfalso; contradiction) | exact ⟨_, ⟨rfl, _, hO, rfl⟩, (by (try simp only [List.cons_append, List.nil_append, List.append_assoc]); repeat' first | with_reducible apply eR | with_reducible apply eA | ((with_reducible apply xA); · repeat first | with_reducible apply lH | with_reducible apply lT | with_reducible apply lL) | ((with_reducible apply xC); · repeat first | apply pH | with_reducible apply pT | with_reducible apply pL) | with_reducible assumption | with_reducible apply eS | with_reducible apply eL | exact eR)⟩ | (exfalso; first | contradiction | omega | (simp_all; done) | (simp_all; omega))
theorem c_stable (a : Option Addr) (n c : Nat) (es : List Efr) (L M : Mem) (ho : OwC 3 L (.slice a n c) n (eCs es)) (hF : ∀ e ∈ es, flatV e.2 = true) (hn : n ≤ 19) :
    ACall Try.prog 75 [.slice a n c, .int .i64 (n : Nat), .func (.func 65) #[] #[]] (L ++ M) fun v M' => v = .tuple #[] ∧ ∃ L', OwC 3 L' (.slice a n c) n (eCs (srE es n)) ∧ M' = L' ++ M := by
  skip
  skip
  refine acall_of_awp Try.func75 rfl Try.ntmps75 rfl ?_
  refine cS (cR ?_)
  refine asg rfl ?_
  refine rN ?_
  refine qN ?_
  refine cS (cR ?_)
  refine mv rfl ?_
  refine asg rfl ?_
  refine asg rfl ?_
  refine rN ?_
  refine qN ?_
  refine cS ?_
  refine cB ?_
  refine cL1 (fun (k : Nat) => [(7, .int .i64 0), (8, .int .i64 20)]) [(0, _), (1, _), (2, _), (6, _)] (fun (k : Nat) => L ++ M) (fun (k : Nat) => 0) (fun (k : Nat) => True) (0) (by repeat first | exact Sub.nil _ | refine Sub.cons rfl ?_) (by (try simp only [List.cons_append, List.nil_append, List.append_assoc]); repeat' first | with_reducible apply eR | with_reducible apply eA | ((with_reducible apply xA); · repeat first | with_reducible apply lH | with_reducible apply lT | with_reducible apply lL) | ((with_reducible apply xC); · repeat first | apply pH | with_reducible apply pT | with_reducible apply pL) | with_reducible assumption | with_reducible apply eS | with_reducible apply eL | exact eR) (by trivial) ?_
  rintro k _
  refine wT (T' := [(7, _), (8, _), (0, _), (1, _), (2, _), (6, _)]) rfl ?_
  refine cS ?_
  refine cS (cR ?_)
  refine mv rfl ?_
  refine mv rfl ?_
  refine bLeq rfl rfl ?_
  refine rN ?_
  refine qN ?_
  refine cFa rfl (decide_eq_false (by omega)) ?_
  refine cX ?_
  refine qX ?_
  refine qL1X ?_
  refine qBX ?_
  refine qN ?_
  refine cS (cR ?_)
  refine mv rfl ?_
  refine mv rfl ?_
  refine mv rfl ?_
  refine mv rfl ?_
  refine rCw (by intro _ h; cases h <;> rfl) rfl (c_insSort _ _ _ es _ _ ho hF (by omega)) ?_
  rintro _ _ ⟨rfl, lk9, how9, rfl⟩
  refine rN ?_
  refine qN ?_
  refine cB ?_
  refine cL1 (fun (k : Nat) => [(6, .int .i64 20)]) [(0, _), (1, _), (2, _)] (fun (k : Nat) => lk9 ++ M) (fun (k : Nat) => 0) (fun (k : Nat) => True) (0) (by repeat first | exact Sub.nil _ | refine Sub.cons rfl ?_) (by (try simp only [List.cons_append, List.nil_append, List.append_assoc]); repeat' first | with_reducible apply eR | with_reducible apply eA | ((with_reducible apply xA); · repeat first | with_reducible apply lH | with_reducible apply lT | with_reducible apply lL) | ((with_reducible apply xC); · repeat first | apply pH | with_reducible apply pT | with_reducible apply pL) | with_reducible assumption | with_reducible apply eS | with_reducible apply eL | exact eR) (by trivial) ?_
  rintro k _
  refine wT (T' := [(6, _), (0, _), (1, _), (2, _)]) rfl ?_
  refine cS ?_
  refine cS (cR ?_)
  refine mv rfl ?_
  refine mv rfl ?_
  refine bLss rfl rfl ?_
  refine rN ?_
  refine qN ?_
  refine cFa rfl (decide_eq_false (by omega)) ?_
  refine cX ?_
  refine qX ?_
  refine qL1X ?_
  refine qBX ?_
  refine fN ?_
  refine kE0 rfl  ?_
  first | (exfalso; contradiction) | exact ⟨_, ⟨rfl, _, how9, rfl⟩, (by (try simp only [List.cons_append, List.nil_append, List.append_assoc]); repeat' first | with_reducible apply eR | with_reducible apply eA | ((with_reducible apply xA); · repeat first | with_reducible apply lH | with_reducible apply lT | with_reducible apply lL) | ((with_reducible apply xC); · repeat first | apply pH | with_reducible apply pT | with_reducible apply pL) | with_reducible assumption | with_reducible apply eS | with_reducible apply eL | exact eR)⟩ | (exfalso; first | contradiction | omega | (simp_all; done) | (simp_all; omega))
theorem c_sortStable (a : Option Addr) (n c : Nat) (es : List Efr) (L M : Mem) (ho : OwC 3 L (.slice a n c) n (eCs es)) (hF : ∀ e ∈ es, flatV e.2 = true) (hn : n ≤ 19) :
    ACall Try.prog 64 [.slice a n c, .func (.func 65) #[] #[]] (L ++ M) fun v M' => v = .tuple #[] ∧ ∃ L', OwC 3 L' (.slice a n c) n (eCs (srE es n)) ∧ M' = L' ++ M := by
  refine acall_of_awp Try.func64 rfl Try.ntmps64 rfl ?_
  refine cR ?_
  refine mv rfl ?_
  refine mv rfl ?_
  refine ln rfl ?_
  refine mv rfl ?_
  refine rCw (by intro _ h; cases h <;> rfl) rfl (c_stable _ _ _ es _ _ ho hF hn) ?_
  rintro _ _ ⟨rfl, lk9, how9, rfl⟩
  refine rN ?_
  refine fN ?_
  refine kE0 rfl  ?_
  first | (exfalso; contradiction) | exact ⟨_, ⟨rfl, _, how9, rfl⟩, (by (try simp only [List.cons_append, List.nil_append, List.append_assoc]); repeat' first | with_reducible apply eR | with_reducible apply eA | ((with_reducible apply xA); · repeat first | with_reducible apply lH | with_reducible apply lT | with_reducible apply lL) | ((with_reducible apply xC); · repeat first | apply pH | with_reducible apply pT | with_reducible apply pL) | with_reducible assumption | with_reducible apply eS | with_reducible apply eL | exact eR)⟩ | (exfalso; first | contradiction | omega | (simp_all; done) | (simp_all; omega))
theorem E_end {fs : List Frm} {es : List Efr} (h : es.map (·.1) = fs) : (srE es es.length).map (·.1) = sortR fs fs.length := by
  subst h
  have h := sortG_map (gt := gtE) (gt' := gtR) (z := zE) (z' := zR) (fun e : Efr => e.1) (fun _ _ => rfl) es es.length (Nat.le_refl _)
  rw [List.length_map]
  exact h.symm
theorem c_sorted (a : Option Addr) (n c : Nat) (fs : List Frm) (M : Mem) (h : RdR M a n fs) (hn : n ≤ 19) (hxs : ∀ i, i < n → (fs.getD i zR).xs.length ≤ 1048576) :
    ACall Try.prog 46 [.slice a n c] M fun v M' => ∃ L, OwR L v (sortR fs n) ∧ M' = L ++ M := by
  obtain ⟨rfl, _⟩ := id h
  skip
  skip
  skip
  refine acall_of_awp Try.func46 rfl Try.ntmps46 rfl ?_
  refine cS (cR ?_)
  refine asg rfl ?_
  refine rN ?_
  refine qN ?_
  refine cS (cR ?_)
  refine asg rfl ?_
  refine rN ?_
  refine qN ?_
  refine cS ?_
  refine cS (cR ?_)
  refine mv rfl ?_
  refine ln rfl ?_
  refine mv rfl ?_
  refine rN ?_
  refine qN ?_
  refine cB ?_
  refine cL4 (fun (i : Nat) (sl : Value) (Lo : Mem) (Li : Mem) => [(8, .int .i64 (i : Nat)), (3, sl)]) [(6, _), (7, _)] (fun (i : Nat) (sl : Value) (Lo : Mem) (Li : Mem) => Lo ++ (Li ++ M)) (fun (i : Nat) (sl : Value) (Lo : Mem) (Li : Mem) => fs.length - i) (fun (i : Nat) (sl : Value) (Lo : Mem) (Li : Mem) => i ≤ fs.length ∧ ∃ es : List Efr, es.map (·.1) = fs.take i ∧ OwC 3 Lo sl i (eCs es) ∧ OwE Li es) (0) (_) ([]) ([]) (by repeat first | exact Sub.nil _ | refine Sub.cons rfl ?_) (by (try simp only [List.cons_append, List.nil_append, List.append_assoc]); repeat' first | with_reducible apply eR | with_reducible apply eA | ((with_reducible apply xA); · repeat first | with_reducible apply lH | with_reducible apply lT | with_reducible apply lL) | ((with_reducible apply xC); · repeat first | apply pH | with_reducible apply pT | with_reducible apply pL) | with_reducible assumption | with_reducible apply eS | with_reducible apply eL | exact eR) (by exact ⟨Nat.zero_le _, [], rfl, OwC.nil, OwE.nil⟩) ?_
  rintro i sl Lo Li ⟨hi, es, hes, ho, hE⟩
  refine wT (T' := [(8, _), (3, _), (6, _), (7, _)]) rfl ?_
  refine cS (cR ?_)
  refine bLss rfl rfl ?_
  refine rN ?_
  refine qN ?_
  refine cS ?_
  obtain ⟨a7, c7, rfl, hc7, hcl⟩ := ho.shape
  have hel : es.length = i := by rw [eCs_len] at hcl; omega
  refine cC rfl (fun c1 => ?_) (fun c1 => ?_)
  · have c1' := c1; try simp only [inB_iff, Bool.and_eq_true, decide_eq_true_eq, decide_eq_false_iff_not, beq_iff_eq, beq_eq_false_iff_ne, bne_iff_ne, bne_eq_false_iff_eq, ne_eq] at c1'
    have hi2 : i < fs.length := by omega
    have hxi := hxs i hi2
    refine cK ?_
    refine qN ?_
    refine cS ?_
    refine cB ?_
    refine cS (cR ?_)
    first
      | refine ixP rfl rfl (by first | (apply RdP.aok; with_reducible assumption) | exact AOk.own) (by first | with_reducible assumption | omega) ?_
      | refine ixR rfl rfl (by first | (apply RdR.aok; with_reducible assumption) | exact AOk.own) (by first | with_reducible assumption | omega) ?_
    first | refine ldP rfl (by (first | with_reducible assumption | (apply RdP.mono; (· with_reducible assumption); · (try simp only [List.cons_append, List.nil_append, List.append_assoc]); repeat' first | with_reducible apply eR | with_reducible apply eA | ((with_reducible apply xA); · repeat first | with_reducible apply lH | with_reducible apply lT | with_reducible apply lL) | ((with_reducible apply xC); · repeat first | apply pH | with_reducible apply pT | with_reducible apply pL) | with_reducible assumption | with_reducible apply eS | with_reducible apply eL | exact eR) | (apply RdP.mono; (· (apply OwP.rdP; with_reducible assumption)); · (try simp only [List.cons_append, List.nil_append, List.append_assoc]); repeat' first | with_reducible apply eR | with_reducible apply eA | ((with_reducible apply xA); · repeat first | with_reducible apply lH | with_reducible apply lT | with_reducible apply lL) | ((with_reducible apply xC); · repeat first | apply pH | with_reducible apply pT | with_reducible apply pL) | with_reducible assumption | with_reducible apply eS | with_reducible apply eL | exact eR))) (by first | with_reducible assumption | omega) ?_ | (refine ldR rfl (by (first | with_reducible assumption | (apply RdR.mono; (· with_reducible assumption); · (try simp only [List.cons_append, List.nil_append, List.append_assoc]); repeat' first | with_reducible apply eR | with_reducible apply eA | ((with_reducible apply xA); · repeat first | with_reducible apply lH | with_reducible apply lT | with_reducible apply lL) | ((with_reducible apply xC); · repeat first | apply pH | with_reducible apply pT | with_reducible apply pL) | with_reducible assumption | with_reducible apply eS | with_reducible apply eL | exact eR) | (apply RdR.mono; (· (apply OwR.rdR; with_reducible assumption)); · (try simp only [List.cons_append, List.nil_append, List.append_assoc]); repeat' first | with_reducible apply eR | with_reducible apply eA | ((with_reducible apply xA); · repeat first | with_reducible apply lH | with_reducible apply lT | with_reducible apply lL) | ((with_reducible apply xC); · repeat first | apply pH | with_reducible apply pT | with_reducible apply pL) | with_reducible assumption | with_reducible apply eS | with_reducible apply eL | exact eR))) (by first | with_reducible assumption | omega) ?_; intro aRr cRr hRr)
    refine rO ?_; intro bk1
    refine tA rfl rfl rfl (by repeat first | apply pH | with_reducible apply pT | with_reducible apply pL) (by rfl) (by rfl) ?_
    refine rN ?_
    refine qN ?_
    refine cD [] [(0, true), (1, true), (2, true), (3, true), (4, true), (5, false), (6, false), (7, false), (8, false), (9, false), (10, false), (11, false)] (by repeat first | exact fineT | exact fineL | exact fineLQ1 | exact fineLQ2 | exact fineLQ3 | exact fineLQ4 | exact fineLQ5 | exact fineLQ6 | exact fineR | refine fineB ?_) (by kernel_rfl) ?_
    simp only [pick, List.getElem?_toArray, List.getElem?_cons_zero, List.getElem?_cons_succ]
    refine mv rfl ?_
    refine fA rfl ?_
    first | refine rL rfl (by repeat first | with_reducible assumption | with_reducible apply List.mem_cons_self | with_reducible apply List.mem_cons_of_mem | with_reducible apply List.mem_append_right | exact List.Mem.head _) rfl rfl ?_ | refine rL rfl (by repeat first | with_reducible assumption | with_reducible apply List.mem_cons_self | with_reducible apply List.mem_cons_of_mem | with_reducible apply List.mem_append_right | exact List.Mem.head _) (by with_reducible assumption) rfl ?_
    refine fA rfl ?_
    first | refine rL rfl (by repeat first | with_reducible assumption | with_reducible apply List.mem_cons_self | with_reducible apply List.mem_cons_of_mem | with_reducible apply List.mem_append_right | exact List.Mem.head _) rfl rfl ?_ | refine rL rfl (by repeat first | with_reducible assumption | with_reducible apply List.mem_cons_self | with_reducible apply List.mem_cons_of_mem | with_reducible apply List.mem_append_right | exact List.Mem.head _) (by with_reducible assumption) rfl ?_
    refine fA rfl ?_
    first | refine rL rfl (by repeat first | with_reducible assumption | with_reducible apply List.mem_cons_self | with_reducible apply List.mem_cons_of_mem | with_reducible apply List.mem_append_right | exact List.Mem.head _) rfl rfl ?_ | refine rL rfl (by repeat first | with_reducible assumption | with_reducible apply List.mem_cons_self | with_reducible apply List.mem_cons_of_mem | with_reducible apply List.mem_append_right | exact List.Mem.head _) (by with_reducible assumption) rfl ?_
    refine rC rfl (c_clone _ _ _ _ _ (by first | with_reducible assumption | ((try first | with_reducible apply RdF.sub | with_reducible apply RdF.sub0) <;> first | with_reducible assumption | (apply RdF.mono; (· (with_reducible assumption)); · (try simp only [List.cons_append, List.nil_append, List.append_assoc]); repeat' first | with_reducible apply eR | with_reducible apply eA | ((with_reducible apply xA); · repeat first | with_reducible apply lH | with_reducible apply lT | with_reducible apply lL) | ((with_reducible apply xC); · repeat first | apply pH | with_reducible apply pT | with_reducible apply pL) | with_reducible assumption | with_reducible apply eS | with_reducible apply eL | exact eR) | (apply RdF.mono; (· (apply OwF.rdF; with_reducible assumption)); · (try simp only [List.cons_append, List.nil_append, List.append_assoc]); repeat' first | with_reducible apply eR | with_reducible apply eA | ((with_reducible apply xA); · repeat first | with_reducible apply lH | with_reducible apply lT | with_reducible apply lL) | ((with_reducible apply xC); · repeat first | apply pH | with_reducible apply pT | with_reducible apply pL) | with_reducible assumption | with_reducible apply eS | with_reducible apply eL | exact eR) | (apply RdF.ownm; (· repeat first | with_reducible assumption | with_reducible apply List.mem_cons_self | with_reducible apply List.mem_cons_of_mem | with_reducible apply List.mem_append_right | exact List.Mem.head _); · first | rfl | with_reducible assumption | omega | simp [*]) | with_reducible assumption | omega | (simp; done) | (simp; omega) | (simp only [Bool.and_eq_true, inB_iff] at *; omega))) (by first | with_reducible assumption | omega | (simp only [Bool.and_eq_true, inB_iff] at *; omega))) ?_
    rintro sv2 _ ⟨lk2, how2, rfl⟩
    obtain ⟨ad2, cn2, rfl, hrd2⟩ := how2.rd
    have hcn2 := how2.capl
    refine ⟨fun _ => eL eR, ?_⟩
    refine bd3 rfl rfl rfl rfl rfl rfl ?_
    refine rB3 rfl ?_
    intro bk21
    refine apC (by decide) (by intro _ h; cases h <;> rfl) rfl rfl ho (by repeat first | with_reducible apply pmH | apply pmS | with_reducible apply pmT | with_reducible apply pmL) (rdC_head (by repeat first | with_reducible assumption | with_reducible apply List.mem_cons_self | with_reducible apply List.mem_cons_of_mem | with_reducible apply List.mem_append_right | exact List.Mem.head _)) one_flat (by omega) (by omega) ?_
    intro sv22 lk22 how22
    refine asg rfl ?_
    refine rN ?_
    refine qBN ?_
    refine qN ?_
    refine cR ?_
    first | refine rAn (b := 1) rfl rfl (by omega) ?_ | refine rA rfl rfl (by omega) (by omega) ?_ | refine bAdd rfl rfl ?_
    refine mv rfl ?_
    refine rN ?_
    refine qL4 (i + 1) (_) (lk22) (lk2 ++ Li) ?_ (by omega) (by repeat first | exact Sub.nil _ | refine Sub.cons rfl ?_) (by (try simp only [List.cons_append, List.nil_append, List.append_assoc]); repeat' first | with_reducible apply eR | with_reducible apply eA | ((with_reducible apply xA); · repeat first | with_reducible apply lH | with_reducible apply lT | with_reducible apply lL) | ((with_reducible apply xC); · repeat first | apply pH | with_reducible apply pT | with_reducible apply pL) | with_reducible assumption | with_reducible apply eS | with_reducible apply eL | exact eR)
    refine ⟨by omega, es ++ [(fs.getD i zR, .slice ad2 (fs.getD i zR).xs.length cn2)], ?_, by rw [eCs_app]; exact how22, ?_⟩
    · rw [List.map_append, hes, take_succR hi2]; rfl
    · have := OwE.ins (x := (fs.getD i zR, .slice ad2 (fs.getD i zR).xs.length cn2)) (j := es.length) how2 hE
      rwa [List.take_length, List.drop_length] at this
  · have c1' := c1; try simp only [inB_iff, Bool.and_eq_true, decide_eq_true_eq, decide_eq_false_iff_not, beq_iff_eq, beq_eq_false_iff_ne, bne_iff_ne, bne_eq_false_iff_eq, ne_eq] at c1'
    have : i = fs.length := by omega
    subst this
    rw [List.take_length] at hes
    refine cX ?_
    refine qX ?_
    refine qL4X ?_
    refine qBX ?_
    refine qN ?_
    refine cS (cR ?_)
    refine mv rfl ?_
    refine rCw (by intro _ h; cases h <;> rfl) rfl (c_sortStable _ _ _ es _ _ ho hE.flatE hn) ?_
    rintro _ _ ⟨rfl, lk9, how9, rfl⟩
    refine rN ?_
    refine qN ?_
    refine cS (cR ?_)
    refine mv rfl ?_
    refine asg rfl ?_
    refine rN ?_
    refine qN ?_
    refine cE ?_
    have hp := sortG_perm gtE zE es es.length (Nat.le_refl _)
    rw [List.take_length] at hp
    rw [← hel] at how9
    have hR := OwE.toR (by rw [sortG_len]) how9 (hE.perm hp.symm)
    rw [E_end hes, hel] at hR
    refine kE rfl rfl  ?_
    first | (exfalso; contradiction) | exact ⟨_, ⟨_, hR, rfl⟩, (by (try simp only [List.cons_append, List.nil_append, List.append_assoc]); repeat' first | with_reducible apply eR | with_reducible apply eA | ((with_reducible apply xA); · repeat first | with_reducible apply lH | with_reducible apply lT | with_reducible apply lL) | ((with_reducible apply xC); · repeat first | apply pH | with_reducible apply pT | with_reducible apply pL) | with_reducible assumption | with_reducible apply eS | with_reducible apply eL | exact eR)⟩ | (exfalso; first | contradiction | omega | (simp_all; done) | (simp_all; omega))
end Go.Proofs.Ytnikglngipbahaa.Ab
