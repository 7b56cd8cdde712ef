/-
  Walks: sections: sizes, copies, and what the laws do with them.
-/
import Derived.Test.YtkbpdgacfeachaaLi
namespace Go.Proofs.Ytkbpdgacfeachaa.Ab
open Go Go.RowKit
attribute [local irreducible] Run Then InBlock LoopQ LQ1 LQ2 LQ3 LQ4 LQ5 LQ6 AWp Ret ACall
set_option linter.unusedVariables false
set_option linter.unusedSimpArgs false

/-- a section of the call's own -/
def OwS (L : Mem) (r : Value) (w d : Int) (xs : List Nat) : Prop := ∃ v, r = .agg #[.int .i64 w, .int .i64 d, v] ∧ OwF L v xs
/-- a section and a bool: the zero where the bool is false -/
def ResS (B : Bool) (w d : Int) (xs : List Nat) (r : Value) (L : Mem) : Prop := ∃ v, r = .tuple #[.agg #[.int .i64 (bif B then w else 0), .int .i64 (bif B then d else 0), v], .bool B] ∧ OwF L v (bif B then xs else [])
theorem ResS.no {B : Bool} {w d : Int} {xs : List Nat} (h : B = false) : ResS B w d xs (.tuple #[.agg #[.int .i64 0, .int .i64 0, .slice none 0 0], .bool false]) [] := by subst h; exact ⟨_, rfl, OwF.nil⟩
theorem ResS.yes {B : Bool} {w d : Int} {v : Value} {xs : List Nat} {L : Mem} (h : B = true) (ho : OwF L v xs) : ResS B w d xs (.tuple #[.agg #[.int .i64 w, .int .i64 d, v], .bool true]) L := by subst h; exact ⟨_, rfl, ho⟩

def szB (w d : Int) : Bool := inB w 1 16 && inB d 1 16
/-- a section of n values is valid -/
def vsB (w d : Int) (n : Nat) : Bool := szB w d && ((n : Int) == w * d)
theorem szB_iff {w d : Int} : szB w d = true ↔ (1 ≤ w ∧ w ≤ 16) ∧ (1 ≤ d ∧ d ≤ 16) := by simp [szB, inB_iff]
theorem mul_bd {w d : Int} (h : (1 ≤ w ∧ w ≤ 16) ∧ (1 ≤ d ∧ d ≤ 16)) : 1 ≤ w * d ∧ w * d ≤ 256 := by
  obtain ⟨⟨h1, h2⟩, h3, h4⟩ := h
  have a : 1 * 1 ≤ w * d := Int.mul_le_mul h1 h3 (by omega) (by omega)
  have b : w * d ≤ 16 * 16 := Int.mul_le_mul h2 h4 (by omega) (by omega)
  omega
theorem vsB_iff {w d : Int} {n : Nat} : vsB w d n = true ↔ ((1 ≤ w ∧ w ≤ 16) ∧ (1 ≤ d ∧ d ≤ 16)) ∧ (n : Int) = w * d := by
  unfold vsB; rw [Bool.and_eq_true, szB_iff, beq_iff_eq]
theorem vsB_n {w d : Int} {n : Nat} (h : vsB w d n = true) : 1 ≤ n ∧ n ≤ 256 := by
  obtain ⟨h1, h2⟩ := vsB_iff.1 h
  have := mul_bd h1
  omega

-- @reg impl.isSize : c_isSize _ _ _
theorem c_isSize (w d : Int) (M : Mem) : ACall Try.prog 39 [.int .i64 w, .int .i64 d] M fun v M' => v = .bool (szB w d) ∧ M' = M := by
  unfold szB
  refine acall_of_awp Try.func39 rfl Try.ntmps39 rfl ?_
  refine cS (cR ?_)
  refine asg rfl ?_
  refine rN ?_
  refine qN ?_
  refine cS (cR ?_)
  refine mv rfl ?_
  refine rCq rfl (c_within _ _ _ _) ?_
  refine mv rfl ?_
  refine gC rfl rfl (fun c1 => ?_) (fun c1 => ?_)
  · have c1' := c1; try simp only [inB_iff, Bool.and_eq_true, decide_eq_true_eq, decide_eq_false_iff_not, beq_iff_eq, beq_eq_false_iff_ne, bne_iff_ne, bne_eq_false_iff_eq, ne_eq] at c1'
    refine gG rfl rfl c1 ?_
    refine mv rfl ?_
    refine gG rfl rfl c1 ?_
    refine rCq rfl (c_within _ _ _ _) ?_
    refine kT rfl c1 rfl ?_
    refine asg rfl ?_
    refine rN ?_
    refine qN ?_
    refine cE ?_
    refine kE rfl rfl  ?_
    first | (exfalso; contradiction) | exact ⟨_, ⟨rfl, rfl⟩, (by (try simp only [List.cons_append, List.nil_append, List.append_assoc]); repeat' first | with_reducible apply eR | with_reducible apply eA | ((with_reducible apply xA); · repeat first | with_reducible apply lH | with_reducible apply lT | with_reducible apply lL) | ((with_reducible apply xC); · repeat first | apply pH | with_reducible apply pT | with_reducible apply pL) | with_reducible assumption | with_reducible apply eS | with_reducible apply eL | exact eR)⟩ | exact ⟨_, ⟨by first | (simp_all; done) | (simp_all; intros; omega), rfl⟩, (by (try simp only [List.cons_append, List.nil_append, List.append_assoc]); repeat' first | with_reducible apply eR | with_reducible apply eA | ((with_reducible apply xA); · repeat first | with_reducible apply lH | with_reducible apply lT | with_reducible apply lL) | ((with_reducible apply xC); · repeat first | apply pH | with_reducible apply pT | with_reducible apply pL) | with_reducible assumption | with_reducible apply eS | with_reducible apply eL | exact eR)⟩ | (exfalso; first | contradiction | omega | (simp_all; done) | (simp_all; omega))
  · have c1' := c1; try simp only [inB_iff, Bool.and_eq_true, decide_eq_true_eq, decide_eq_false_iff_not, beq_iff_eq, beq_eq_false_iff_ne, bne_iff_ne, bne_eq_false_iff_eq, ne_eq] at c1'
    refine gS rfl rfl c1 ?_
    refine gS rfl rfl c1 ?_
    refine kF rfl c1 rfl ?_
    refine asg rfl ?_
    refine rN ?_
    refine qN ?_
    refine cE ?_
    refine kE rfl rfl  ?_
    first | (exfalso; contradiction) | exact ⟨_, ⟨rfl, rfl⟩, (by (try simp only [List.cons_append, List.nil_append, List.append_assoc]); repeat' first | with_reducible apply eR | with_reducible apply eA | ((with_reducible apply xA); · repeat first | with_reducible apply lH | with_reducible apply lT | with_reducible apply lL) | ((with_reducible apply xC); · repeat first | apply pH | with_reducible apply pT | with_reducible apply pL) | with_reducible assumption | with_reducible apply eS | with_reducible apply eL | exact eR)⟩ | exact ⟨_, ⟨by first | (simp_all; done) | (simp_all; intros; omega), rfl⟩, (by (try simp only [List.cons_append, List.nil_append, List.append_assoc]); repeat' first | with_reducible apply eR | with_reducible apply eA | ((with_reducible apply xA); · repeat first | with_reducible apply lH | with_reducible apply lT | with_reducible apply lL) | ((with_reducible apply xC); · repeat first | apply pH | with_reducible apply pT | with_reducible apply pL) | with_reducible assumption | with_reducible apply eS | with_reducible apply eL | exact eR)⟩ | (exfalso; first | contradiction | omega | (simp_all; done) | (simp_all; omega))
-- @reg spec.l06Size : c_l06Size _ _ _
theorem c_l06Size (w d : Int) (M : Mem) : ACall Try.prog 37 [.int .i64 w, .int .i64 d] M fun v M' => v = .bool (szB w d) ∧ M' = M := by
  unfold szB
  refine acall_of_awp Try.func37 rfl Try.ntmps37 rfl ?_
  refine cS (cR ?_)
  refine asg rfl ?_
  refine rN ?_
  refine qN ?_
  refine cS (cR ?_)
  refine mv rfl ?_
  refine rCq rfl (c_l00In _ _ _ _) ?_
  refine mv rfl ?_
  refine gC rfl rfl (fun c1 => ?_) (fun c1 => ?_)
  · have c1' := c1; try simp only [inB_iff, Bool.and_eq_true, decide_eq_true_eq, decide_eq_false_iff_not, beq_iff_eq, beq_eq_false_iff_ne, bne_iff_ne, bne_eq_false_iff_eq, ne_eq] at c1'
    refine gG rfl rfl c1 ?_
    refine mv rfl ?_
    refine gG rfl rfl c1 ?_
    refine rCq rfl (c_l00In _ _ _ _) ?_
    refine kT rfl c1 rfl ?_
    refine asg rfl ?_
    refine rN ?_
    refine qN ?_
    refine cE ?_
    refine kE rfl rfl  ?_
    first | (exfalso; contradiction) | exact ⟨_, ⟨rfl, rfl⟩, (by (try simp only [List.cons_append, List.nil_append, List.append_assoc]); repeat' first | with_reducible apply eR | with_reducible apply eA | ((with_reducible apply xA); · repeat first | with_reducible apply lH | with_reducible apply lT | with_reducible apply lL) | ((with_reducible apply xC); · repeat first | apply pH | with_reducible apply pT | with_reducible apply pL) | with_reducible assumption | with_reducible apply eS | with_reducible apply eL | exact eR)⟩ | exact ⟨_, ⟨by first | (simp_all; done) | (simp_all; intros; omega), rfl⟩, (by (try simp only [List.cons_append, List.nil_append, List.append_assoc]); repeat' first | with_reducible apply eR | with_reducible apply eA | ((with_reducible apply xA); · repeat first | with_reducible apply lH | with_reducible apply lT | with_reducible apply lL) | ((with_reducible apply xC); · repeat first | apply pH | with_reducible apply pT | with_reducible apply pL) | with_reducible assumption | with_reducible apply eS | with_reducible apply eL | exact eR)⟩ | (exfalso; first | contradiction | omega | (simp_all; done) | (simp_all; omega))
  · have c1' := c1; try simp only [inB_iff, Bool.and_eq_true, decide_eq_true_eq, decide_eq_false_iff_not, beq_iff_eq, beq_eq_false_iff_ne, bne_iff_ne, bne_eq_false_iff_eq, ne_eq] at c1'
    refine gS rfl rfl c1 ?_
    refine gS rfl rfl c1 ?_
    refine kF rfl c1 rfl ?_
    refine asg rfl ?_
    refine rN ?_
    refine qN ?_
    refine cE ?_
    refine kE rfl rfl  ?_
    first | (exfalso; contradiction) | exact ⟨_, ⟨rfl, rfl⟩, (by (try simp only [List.cons_append, List.nil_append, List.append_assoc]); repeat' first | with_reducible apply eR | with_reducible apply eA | ((with_reducible apply xA); · repeat first | with_reducible apply lH | with_reducible apply lT | with_reducible apply lL) | ((with_reducible apply xC); · repeat first | apply pH | with_reducible apply pT | with_reducible apply pL) | with_reducible assumption | with_reducible apply eS | with_reducible apply eL | exact eR)⟩ | exact ⟨_, ⟨by first | (simp_all; done) | (simp_all; intros; omega), rfl⟩, (by (try simp only [List.cons_append, List.nil_append, List.append_assoc]); repeat' first | with_reducible apply eR | with_reducible apply eA | ((with_reducible apply xA); · repeat first | with_reducible apply lH | with_reducible apply lT | with_reducible apply lL) | ((with_reducible apply xC); · repeat first | apply pH | with_reducible apply pT | with_reducible apply pL) | with_reducible assumption | with_reducible apply eS | with_reducible apply eL | exact eR)⟩ | (exfalso; first | contradiction | omega | (simp_all; done) | (simp_all; omega))
-- @reg impl.ValidSection : c_implValidSection _ _ _ _ _ _
theorem c_implValidSection (w d : Int) (a : Option Addr) (n c : Nat) (M : Mem) : ACall Try.prog 31 [.agg #[.int .i64 w, .int .i64 d, .slice a n c]] M fun v M' => v = .bool (vsB w d n) ∧ M' = M := by
  refine acall_of_awp Try.func31 rfl Try.ntmps31 rfl ?_
  refine cS (cR ?_)
  first | (refine rXa rfl ?_; intro bk1) | (refine rX rfl rfl ?_; intro bk1)
  refine asg rfl ?_
  refine rN ?_
  refine qN ?_
  refine cS ?_
  refine cD [] [(0, true), (1, true), (2, false), (3, false), (4, false), (5, false), (6, true), (7, true), (9, true), (10, true), (11, true), (12, true), (13, true), (8, false), (14, false), (15, false), (16, false)] (by repeat first | exact fineT | exact fineL | exact fineLQ1 | exact fineLQ2 | exact fineLQ3 | exact fineLQ4 | exact fineLQ5 | exact fineLQ6 | exact fineR | refine fineB ?_) (by kernel_rfl) ?_
  simp only [pick, List.getElem?_toArray, List.getElem?_cons_zero, List.getElem?_cons_succ]
  refine fA rfl ?_
  first | refine rL rfl (by repeat first | with_reducible assumption | with_reducible apply List.mem_cons_self | with_reducible apply List.mem_cons_of_mem | with_reducible apply List.mem_append_right | exact List.Mem.head _) rfl rfl ?_ | refine rL rfl (by repeat first | with_reducible assumption | with_reducible apply List.mem_cons_self | with_reducible apply List.mem_cons_of_mem | with_reducible apply List.mem_append_right | exact List.Mem.head _) (by with_reducible assumption) rfl ?_
  refine fA rfl ?_
  first | refine rL rfl (by repeat first | with_reducible assumption | with_reducible apply List.mem_cons_self | with_reducible apply List.mem_cons_of_mem | with_reducible apply List.mem_append_right | exact List.Mem.head _) rfl rfl ?_ | refine rL rfl (by repeat first | with_reducible assumption | with_reducible apply List.mem_cons_self | with_reducible apply List.mem_cons_of_mem | with_reducible apply List.mem_append_right | exact List.Mem.head _) (by with_reducible assumption) rfl ?_
  refine rCq rfl (c_isSize _ _ _) ?_
  refine mv rfl ?_
  refine gC rfl rfl (fun c1 => ?_) (fun c1 => ?_)
  · have c1' := c1; try simp only [inB_iff, Bool.and_eq_true, decide_eq_true_eq, decide_eq_false_iff_not, beq_iff_eq, beq_eq_false_iff_ne, bne_iff_ne, bne_eq_false_iff_eq, ne_eq] at c1'
    obtain ⟨p1, p2⟩ := mul_bd (szB_iff.1 c1)
    have q1 : -9223372036854775808 ≤ w * d := by omega
    have q2 : w * d ≤ 9223372036854775807 := by omega
    refine gG rfl rfl c1 ?_
    refine fA rfl ?_
    refine gG rfl rfl c1 ?_
    first | refine rL rfl (by repeat first | with_reducible assumption | with_reducible apply List.mem_cons_self | with_reducible apply List.mem_cons_of_mem | with_reducible apply List.mem_append_right | exact List.Mem.head _) rfl rfl ?_ | refine rL rfl (by repeat first | with_reducible assumption | with_reducible apply List.mem_cons_self | with_reducible apply List.mem_cons_of_mem | with_reducible apply List.mem_append_right | exact List.Mem.head _) (by with_reducible assumption) rfl ?_
    refine gG rfl rfl c1 ?_
    refine fA rfl ?_
    refine gG rfl rfl c1 ?_
    first | refine rL rfl (by repeat first | with_reducible assumption | with_reducible apply List.mem_cons_self | with_reducible apply List.mem_cons_of_mem | with_reducible apply List.mem_append_right | exact List.Mem.head _) rfl rfl ?_ | refine rL rfl (by repeat first | with_reducible assumption | with_reducible apply List.mem_cons_self | with_reducible apply List.mem_cons_of_mem | with_reducible apply List.mem_append_right | exact List.Mem.head _) (by with_reducible assumption) rfl ?_
    refine gG rfl rfl c1 ?_
    refine fA rfl ?_
    refine gG rfl rfl c1 ?_
    first | refine rL rfl (by repeat first | with_reducible assumption | with_reducible apply List.mem_cons_self | with_reducible apply List.mem_cons_of_mem | with_reducible apply List.mem_append_right | exact List.Mem.head _) rfl rfl ?_ | refine rL rfl (by repeat first | with_reducible assumption | with_reducible apply List.mem_cons_self | with_reducible apply List.mem_cons_of_mem | with_reducible apply List.mem_append_right | exact List.Mem.head _) (by with_reducible assumption) rfl ?_
    refine gG rfl rfl c1 ?_
    first | refine rMlk rfl rfl (by with_reducible assumption) (by omega) ?_ | refine rMl rfl rfl (by first | omega | assumption) (by first | omega | assumption) ?_ | refine bMul rfl rfl ?_
    refine gG rfl rfl c1 ?_
    refine rCq rfl (c_length _ _ _ _) ?_
    refine gG rfl rfl c1 ?_
    refine bEql rfl rfl ?_
    refine kT rfl c1 rfl ?_
    refine asg rfl ?_
    refine rN ?_
    refine qN ?_
    refine cE ?_
    refine kE rfl rfl  ?_
    first | (exfalso; contradiction) | exact ⟨_, ⟨by simp only [vsB, c1, Bool.true_and], rfl⟩, (by (try simp only [List.cons_append, List.nil_append, List.append_assoc]); repeat' first | with_reducible apply eR | with_reducible apply eA | ((with_reducible apply xA); · repeat first | with_reducible apply lH | with_reducible apply lT | with_reducible apply lL) | ((with_reducible apply xC); · repeat first | apply pH | with_reducible apply pT | with_reducible apply pL) | with_reducible assumption | with_reducible apply eS | with_reducible apply eL | exact eR)⟩ | (exfalso; first | contradiction | omega | (simp_all; done) | (simp_all; omega))
  · have c1' := c1; try simp only [inB_iff, Bool.and_eq_true, decide_eq_true_eq, decide_eq_false_iff_not, beq_iff_eq, beq_eq_false_iff_ne, bne_iff_ne, bne_eq_false_iff_eq, ne_eq] at c1'
    refine gS rfl rfl c1 ?_
    refine gS rfl rfl c1 ?_
    refine gS rfl rfl c1 ?_
    refine gS rfl rfl c1 ?_
    refine gS rfl rfl c1 ?_
    refine gS rfl rfl c1 ?_
    refine gS rfl rfl c1 ?_
    refine gS rfl rfl c1 ?_
    refine gS rfl rfl c1 ?_
    refine kF rfl c1 rfl ?_
    refine asg rfl ?_
    refine rN ?_
    refine qN ?_
    refine cE ?_
    refine kE rfl rfl  ?_
    first | (exfalso; contradiction) | exact ⟨_, ⟨by simp only [vsB, c1, Bool.false_and], rfl⟩, (by (try simp only [List.cons_append, List.nil_append, List.append_assoc]); repeat' first | with_reducible apply eR | with_reducible apply eA | ((with_reducible apply xA); · repeat first | with_reducible apply lH | with_reducible apply lT | with_reducible apply lL) | ((with_reducible apply xC); · repeat first | apply pH | with_reducible apply pT | with_reducible apply pL) | with_reducible assumption | with_reducible apply eS | with_reducible apply eL | exact eR)⟩ | (exfalso; first | contradiction | omega | (simp_all; done) | (simp_all; omega))
-- @reg spec.l06Is : c_l06Is _ _ _ _ _ _ _ _ @MEM@
theorem c_l06Is (b : Nat) (wr : Bool) (w d : Int) (a : Option Addr) (n c : Nat) (M : Mem) (hm : (b, (⟨[.int .i64 w, .int .i64 d, .slice a n c], wr⟩ : Blk)) ∈ M) : ACall Try.prog 24 [.pointer (some ⟨b, 0, none⟩)] M fun v M' => v = .bool (vsB w d n) ∧ M' = M := by
  refine acall_of_awp Try.func24 rfl Try.ntmps24 rfl ?_
  refine cS (cR ?_)
  refine asg rfl ?_
  refine rN ?_
  refine qN ?_
  refine cS ?_
  refine cD [] [(0, true), (1, true), (2, true), (3, true), (4, false), (5, false), (6, false), (7, false), (8, false), (9, false), (10, true), (11, true), (12, true), (13, true), (14, true), (15, true), (16, true), (17, true), (18, true), (19, false), (20, false), (21, false), (22, false), (23, false), (24, false), (25, false), (26, false)] (by repeat first | exact fineT | exact fineL | exact fineLQ1 | exact fineLQ2 | exact fineLQ3 | exact fineLQ4 | exact fineLQ5 | exact fineLQ6 | exact fineR | refine fineB ?_) (by kernel_rfl) ?_
  simp only [pick, List.getElem?_toArray, List.getElem?_cons_zero, List.getElem?_cons_succ]
  refine mv rfl ?_
  refine nk rfl ?_
  refine fA rfl ?_
  first | refine rL rfl (by repeat first | with_reducible assumption | with_reducible apply List.mem_cons_self | with_reducible apply List.mem_cons_of_mem | with_reducible apply List.mem_append_right | exact List.Mem.head _) rfl rfl ?_ | refine rL rfl (by repeat first | with_reducible assumption | with_reducible apply List.mem_cons_self | with_reducible apply List.mem_cons_of_mem | with_reducible apply List.mem_append_right | exact List.Mem.head _) (by with_reducible assumption) rfl ?_
  refine mv rfl ?_
  refine nk rfl ?_
  refine fA rfl ?_
  first | refine rL rfl (by repeat first | with_reducible assumption | with_reducible apply List.mem_cons_self | with_reducible apply List.mem_cons_of_mem | with_reducible apply List.mem_append_right | exact List.Mem.head _) rfl rfl ?_ | refine rL rfl (by repeat first | with_reducible assumption | with_reducible apply List.mem_cons_self | with_reducible apply List.mem_cons_of_mem | with_reducible apply List.mem_append_right | exact List.Mem.head _) (by with_reducible assumption) rfl ?_
  refine rCq rfl (c_l06Size _ _ _) ?_
  refine mv rfl ?_
  refine gC rfl rfl (fun c1 => ?_) (fun c1 => ?_)
  · have c1' := c1; try simp only [inB_iff, Bool.and_eq_true, decide_eq_true_eq, decide_eq_false_iff_not, beq_iff_eq, beq_eq_false_iff_ne, bne_iff_ne, bne_eq_false_iff_eq, ne_eq] at c1'
    obtain ⟨p1, p2⟩ := mul_bd (szB_iff.1 c1)
    have q1 : -9223372036854775808 ≤ w * d := by omega
    have q2 : w * d ≤ 9223372036854775807 := by omega
    refine gG rfl rfl c1 ?_
    refine mv rfl ?_
    refine gG rfl rfl c1 ?_
    refine nk rfl ?_
    refine gG rfl rfl c1 ?_
    refine fA rfl ?_
    refine gG rfl rfl c1 ?_
    first | refine rL rfl (by repeat first | with_reducible assumption | with_reducible apply List.mem_cons_self | with_reducible apply List.mem_cons_of_mem | with_reducible apply List.mem_append_right | exact List.Mem.head _) rfl rfl ?_ | refine rL rfl (by repeat first | with_reducible assumption | with_reducible apply List.mem_cons_self | with_reducible apply List.mem_cons_of_mem | with_reducible apply List.mem_append_right | exact List.Mem.head _) (by with_reducible assumption) rfl ?_
    refine gG rfl rfl c1 ?_
    refine ln rfl ?_
    refine gG rfl rfl c1 ?_
    refine mv rfl ?_
    refine gG rfl rfl c1 ?_
    refine nk rfl ?_
    refine gG rfl rfl c1 ?_
    refine fA rfl ?_
    refine gG rfl rfl c1 ?_
    first | refine rL rfl (by repeat first | with_reducible assumption | with_reducible apply List.mem_cons_self | with_reducible apply List.mem_cons_of_mem | with_reducible apply List.mem_append_right | exact List.Mem.head _) rfl rfl ?_ | refine rL rfl (by repeat first | with_reducible assumption | with_reducible apply List.mem_cons_self | with_reducible apply List.mem_cons_of_mem | with_reducible apply List.mem_append_right | exact List.Mem.head _) (by with_reducible assumption) rfl ?_
    refine gG rfl rfl c1 ?_
    refine mv rfl ?_
    refine gG rfl rfl c1 ?_
    refine nk rfl ?_
    refine gG rfl rfl c1 ?_
    refine fA rfl ?_
    refine gG rfl rfl c1 ?_
    first | refine rL rfl (by repeat first | with_reducible assumption | with_reducible apply List.mem_cons_self | with_reducible apply List.mem_cons_of_mem | with_reducible apply List.mem_append_right | exact List.Mem.head _) rfl rfl ?_ | refine rL rfl (by repeat first | with_reducible assumption | with_reducible apply List.mem_cons_self | with_reducible apply List.mem_cons_of_mem | with_reducible apply List.mem_append_right | exact List.Mem.head _) (by with_reducible assumption) rfl ?_
    refine gG rfl rfl c1 ?_
    first | refine rMlk rfl rfl (by with_reducible assumption) (by omega) ?_ | refine rMl rfl rfl (by first | omega | assumption) (by first | omega | assumption) ?_ | refine bMul rfl rfl ?_
    refine gG rfl rfl c1 ?_
    refine bEql rfl rfl ?_
    refine kT rfl c1 rfl ?_
    refine asg rfl ?_
    refine rN ?_
    refine qN ?_
    refine cE ?_
    refine kE rfl rfl  ?_
    first | (exfalso; contradiction) | exact ⟨_, ⟨by simp only [vsB, c1, Bool.true_and], rfl⟩, (by (try simp only [List.cons_append, List.nil_append, List.append_assoc]); repeat' first | with_reducible apply eR | with_reducible apply eA | ((with_reducible apply xA); · repeat first | with_reducible apply lH | with_reducible apply lT | with_reducible apply lL) | ((with_reducible apply xC); · repeat first | apply pH | with_reducible apply pT | with_reducible apply pL) | with_reducible assumption | with_reducible apply eS | with_reducible apply eL | exact eR)⟩ | (exfalso; first | contradiction | omega | (simp_all; done) | (simp_all; omega))
  · have c1' := c1; try simp only [inB_iff, Bool.and_eq_true, decide_eq_true_eq, decide_eq_false_iff_not, beq_iff_eq, beq_eq_false_iff_ne, bne_iff_ne, bne_eq_false_iff_eq, ne_eq] at c1'
    refine gS rfl rfl c1 ?_
    refine gS rfl rfl c1 ?_
    refine gS rfl rfl c1 ?_
    refine gS rfl rfl c1 ?_
    refine gS rfl rfl c1 ?_
    refine gS rfl rfl c1 ?_
    refine gS rfl rfl c1 ?_
    refine gS rfl rfl c1 ?_
    refine gS rfl rfl c1 ?_
    refine gS rfl rfl c1 ?_
    refine gS rfl rfl c1 ?_
    refine gS rfl rfl c1 ?_
    refine gS rfl rfl c1 ?_
    refine gS rfl rfl c1 ?_
    refine gS rfl rfl c1 ?_
    refine kF rfl c1 rfl ?_
    refine asg rfl ?_
    refine rN ?_
    refine qN ?_
    refine cE ?_
    refine kE rfl rfl  ?_
    first | (exfalso; contradiction) | exact ⟨_, ⟨by simp only [vsB, c1, Bool.false_and], rfl⟩, (by (try simp only [List.cons_append, List.nil_append, List.append_assoc]); repeat' first | with_reducible apply eR | with_reducible apply eA | ((with_reducible apply xA); · repeat first | with_reducible apply lH | with_reducible apply lT | with_reducible apply lL) | ((with_reducible apply xC); · repeat first | apply pH | with_reducible apply pT | with_reducible apply pL) | with_reducible assumption | with_reducible apply eS | with_reducible apply eL | exact eR)⟩ | (exfalso; first | contradiction | omega | (simp_all; done) | (simp_all; omega))
-- @owns spec.l06Own : c_l06Own _ _ _ _ _ _ _ _ _ @MEM@ @RD@ @BD@

-- @owns (impl.Section).clone : c_sclone _ _ _ _ _ _ _ @RD@ @BD@
-- @owns laws.toSection : c_toSection _ _ _ _ _ _ _ @RD@ @BD@
theorem c_toSection (w d : Int) (a : Option Addr) (n c : Nat) (xs : List Nat) (M : Mem) (h : RdF M a n xs) (hn : n ≤ 1048576) :
    ACall Try.prog 8 [.agg #[.int .i64 w, .int .i64 d, .slice a n c]] M fun v M' => ∃ L, OwS L v w d xs ∧ M' = L ++ M := by
  refine acall_of_awp Try.func8 rfl Try.ntmps8 rfl ?_
  refine cS (cR ?_)
  first | (refine rXa rfl ?_; intro bk1) | (refine rX rfl rfl ?_; intro bk1)
  refine rO ?_; intro bk2
  refine rN ?_
  refine qN ?_
  refine cS (cR ?_)
  refine rO ?_; intro bk3
  refine rN ?_
  refine qN ?_
  refine cS (cR ?_)
  refine fA rfl ?_
  first | refine rL rfl (by repeat first | with_reducible assumption | with_reducible apply List.mem_cons_self | with_reducible apply List.mem_cons_of_mem | with_reducible apply List.mem_append_right | exact List.Mem.head _) rfl rfl ?_ | refine rL rfl (by repeat first | with_reducible assumption | with_reducible apply List.mem_cons_self | with_reducible apply List.mem_cons_of_mem | with_reducible apply List.mem_append_right | exact List.Mem.head _) (by with_reducible assumption) rfl ?_
  refine fA rfl ?_
  first | refine tS rfl rfl rfl (by repeat first | apply pH | with_reducible apply pT | with_reducible apply pL) (by rfl) (by rfl) ?_ | refine tS rfl rfl rfl (by repeat first | apply pH | with_reducible apply pT | with_reducible apply pL) (by apply Nat.ble_eq_true_of_le; (try simp only [List.length_set, Option.getD_some]); omega) (by rfl) ?_
  refine rN ?_
  refine qN ?_
  refine cS (cR ?_)
  refine fA rfl ?_
  first | refine rL rfl (by repeat first | with_reducible assumption | with_reducible apply List.mem_cons_self | with_reducible apply List.mem_cons_of_mem | with_reducible apply List.mem_append_right | exact List.Mem.head _) rfl rfl ?_ | refine rL rfl (by repeat first | with_reducible assumption | with_reducible apply List.mem_cons_self | with_reducible apply List.mem_cons_of_mem | with_reducible apply List.mem_append_right | exact List.Mem.head _) (by with_reducible assumption) rfl ?_
  refine fA rfl ?_
  first | refine tS rfl rfl rfl (by repeat first | apply pH | with_reducible apply pT | with_reducible apply pL) (by rfl) (by rfl) ?_ | refine tS rfl rfl rfl (by repeat first | apply pH | with_reducible apply pT | with_reducible apply pL) (by apply Nat.ble_eq_true_of_le; (try simp only [List.length_set, Option.getD_some]); omega) (by rfl) ?_
  refine rN ?_
  refine qN ?_
  refine cS (cR ?_)
  refine fA rfl ?_
  first | refine rL rfl (by repeat first | with_reducible assumption | with_reducible apply List.mem_cons_self | with_reducible apply List.mem_cons_of_mem | with_reducible apply List.mem_append_right | exact List.Mem.head _) rfl rfl ?_ | refine rL rfl (by repeat first | with_reducible assumption | with_reducible apply List.mem_cons_self | with_reducible apply List.mem_cons_of_mem | with_reducible apply List.mem_append_right | exact List.Mem.head _) (by with_reducible assumption) rfl ?_
  refine rC rfl (c_toFloat32S _ _ _ _ _ (by first | with_reducible assumption | ((try first | with_reducible apply RdF.sub | with_reducible apply RdF.sub0) <;> first | with_reducible assumption | (apply RdF.mono; (· (with_reducible assumption)); · (try simp only [List.cons_append, List.nil_append, List.append_assoc]); repeat' first | with_reducible apply eR | with_reducible apply eA | ((with_reducible apply xA); · repeat first | with_reducible apply lH | with_reducible apply lT | with_reducible apply lL) | ((with_reducible apply xC); · repeat first | apply pH | with_reducible apply pT | with_reducible apply pL) | with_reducible assumption | with_reducible apply eS | with_reducible apply eL | exact eR) | (apply RdF.mono; (· (apply OwF.rdF; with_reducible assumption)); · (try simp only [List.cons_append, List.nil_append, List.append_assoc]); repeat' first | with_reducible apply eR | with_reducible apply eA | ((with_reducible apply xA); · repeat first | with_reducible apply lH | with_reducible apply lT | with_reducible apply lL) | ((with_reducible apply xC); · repeat first | apply pH | with_reducible apply pT | with_reducible apply pL) | with_reducible assumption | with_reducible apply eS | with_reducible apply eL | exact eR) | (apply RdF.ownm; (· repeat first | with_reducible assumption | with_reducible apply List.mem_cons_self | with_reducible apply List.mem_cons_of_mem | with_reducible apply List.mem_append_right | exact List.Mem.head _); · first | rfl | with_reducible assumption | omega | simp [*]) | with_reducible assumption | omega | (simp; done) | (simp; omega) | (simp only [Bool.and_eq_true, inB_iff] at *; omega))) (by first | with_reducible assumption | omega | (simp only [Bool.and_eq_true, inB_iff] at *; omega))) ?_
  rintro sv3 _ ⟨lk3, how3, rfl⟩
  obtain ⟨ad3, cn3, rfl, hrd3⟩ := how3.rd
  have hcn3 := how3.capl
  refine ⟨fun _ => eL eR, ?_⟩
  refine fA rfl ?_
  first | refine tS rfl rfl rfl (by repeat first | apply pH | with_reducible apply pT | with_reducible apply pL) (by rfl) (by rfl) ?_ | refine tS rfl rfl rfl (by repeat first | apply pH | with_reducible apply pT | with_reducible apply pL) (by apply Nat.ble_eq_true_of_le; (try simp only [List.length_set, Option.getD_some]); omega) (by rfl) ?_
  refine rN ?_
  refine qN ?_
  refine cS (cR ?_)
  refine rLA rfl (by repeat first | with_reducible assumption | with_reducible apply List.mem_cons_self | with_reducible apply List.mem_cons_of_mem | with_reducible apply List.mem_append_right | exact List.Mem.head _) rfl rfl ?_
  refine tA rfl rfl rfl (by repeat first | apply pH | with_reducible apply pT | with_reducible apply pL) (by rfl) (by rfl) ?_
  refine rN ?_
  refine qN ?_
  refine cE ?_
  refine kC rfl (resOne_cell rfl (by repeat first | with_reducible assumption | with_reducible apply List.mem_cons_self | with_reducible apply List.mem_cons_of_mem | with_reducible apply List.mem_append_right | exact List.Mem.head _) rfl) ?_
  first | (exfalso; contradiction) | exact ⟨_, ⟨_, ⟨_, rfl, by assumption⟩, rfl⟩, (by (try simp only [List.cons_append, List.nil_append, List.append_assoc]); repeat' first | with_reducible apply eR | with_reducible apply eA | ((with_reducible apply xA); · repeat first | with_reducible apply lH | with_reducible apply lT | with_reducible apply lL) | ((with_reducible apply xC); · repeat first | apply pH | with_reducible apply pT | with_reducible apply pL) | with_reducible assumption | with_reducible apply eS | with_reducible apply eL | exact eR)⟩ | (exfalso; first | contradiction | omega | (simp_all; done) | (simp_all; omega))
-- @reg laws.szSection : c_szSection _ _ _ _ _ _ _ @BD@ @BD@ @BD@
theorem c_szSection (w d : Int) (a : Option Addr) (n c : Nat) (left : Int) (M : Mem) (h0 : 0 ≤ left) (h1 : left ≤ 1048576) (hn : n ≤ 9223372036854775807) :
    ACall Try.prog 5 [.agg #[.int .i64 w, .int .i64 d, .slice a n c], .int .i64 left] M fun r M' => r = .int .i64 (szI left n) ∧ M' = M := by
  refine acall_of_awp Try.func5 rfl Try.ntmps5 rfl ?_
  refine cS (cR ?_)
  first | (refine rXa rfl ?_; intro bk1) | (refine rX rfl rfl ?_; intro bk1)
  refine asg rfl ?_
  refine rN ?_
  refine qN ?_
  refine cS (cR ?_)
  refine fA rfl ?_
  first | refine rL rfl (by repeat first | with_reducible assumption | with_reducible apply List.mem_cons_self | with_reducible apply List.mem_cons_of_mem | with_reducible apply List.mem_append_right | exact List.Mem.head _) rfl rfl ?_ | refine rL rfl (by repeat first | with_reducible assumption | with_reducible apply List.mem_cons_self | with_reducible apply List.mem_cons_of_mem | with_reducible apply List.mem_append_right | exact List.Mem.head _) (by with_reducible assumption) rfl ?_
  refine mv rfl ?_
  refine rCq rfl (c_szFloat32S _ _ _ _ _ (by first | with_reducible assumption | omega | (simp only [Bool.and_eq_true, inB_iff] at *; omega)) (by first | with_reducible assumption | omega | (simp only [Bool.and_eq_true, inB_iff] at *; omega)) (by first | with_reducible assumption | omega | (simp only [Bool.and_eq_true, inB_iff] at *; omega))) ?_
  refine asg rfl ?_
  refine rN ?_
  refine qN ?_
  refine cS ?_
  refine cS (cR ?_)
  refine mv rfl ?_
  refine bLss rfl rfl ?_
  refine rN ?_
  refine qN ?_
  refine cC rfl (fun c1 => ?_) (fun c1 => ?_)
  · have c1' := c1; try simp only [inB_iff, Bool.and_eq_true, decide_eq_true_eq, decide_eq_false_iff_not, beq_iff_eq, beq_eq_false_iff_ne, bne_iff_ne, bne_eq_false_iff_eq, ne_eq] at c1'
    refine cS (cR ?_)
    refine asg rfl ?_
    refine rN ?_
    refine qN ?_
    refine cE ?_
    refine qE ?_
    refine kE rfl rfl  ?_
    first | (exfalso; contradiction) | exact ⟨_, ⟨rfl, rfl⟩, (by (try simp only [List.cons_append, List.nil_append, List.append_assoc]); repeat' first | with_reducible apply eR | with_reducible apply eA | ((with_reducible apply xA); · repeat first | with_reducible apply lH | with_reducible apply lT | with_reducible apply lL) | ((with_reducible apply xC); · repeat first | apply pH | with_reducible apply pT | with_reducible apply pL) | with_reducible assumption | with_reducible apply eS | with_reducible apply eL | exact eR)⟩ | exact ⟨_, ⟨by unfold szI at *; split at c1' <;> first | (rw [if_pos (by assumption)]; done) | omega, rfl⟩, (by (try simp only [List.cons_append, List.nil_append, List.append_assoc]); repeat' first | with_reducible apply eR | with_reducible apply eA | ((with_reducible apply xA); · repeat first | with_reducible apply lH | with_reducible apply lT | with_reducible apply lL) | ((with_reducible apply xC); · repeat first | apply pH | with_reducible apply pT | with_reducible apply pL) | with_reducible assumption | with_reducible apply eS | with_reducible apply eL | exact eR)⟩ | (exfalso; first | contradiction | omega | (simp_all; done) | (simp_all; omega))
  · have c1' := c1; try simp only [inB_iff, Bool.and_eq_true, decide_eq_true_eq, decide_eq_false_iff_not, beq_iff_eq, beq_eq_false_iff_ne, bne_iff_ne, bne_eq_false_iff_eq, ne_eq] at c1'
    refine cK ?_
    refine qN ?_
    refine cS (cR ?_)
    refine mv rfl ?_
    refine asg rfl ?_
    refine rN ?_
    refine qN ?_
    refine cE ?_
    refine kE rfl rfl  ?_
    first | (exfalso; contradiction) | exact ⟨_, ⟨rfl, rfl⟩, (by (try simp only [List.cons_append, List.nil_append, List.append_assoc]); repeat' first | with_reducible apply eR | with_reducible apply eA | ((with_reducible apply xA); · repeat first | with_reducible apply lH | with_reducible apply lT | with_reducible apply lL) | ((with_reducible apply xC); · repeat first | apply pH | with_reducible apply pT | with_reducible apply pL) | with_reducible assumption | with_reducible apply eS | with_reducible apply eL | exact eR)⟩ | exact ⟨_, ⟨by unfold szI at *; split at c1' <;> first | (rw [if_pos (by assumption)]; done) | omega, rfl⟩, (by (try simp only [List.cons_append, List.nil_append, List.append_assoc]); repeat' first | with_reducible apply eR | with_reducible apply eA | ((with_reducible apply xA); · repeat first | with_reducible apply lH | with_reducible apply lT | with_reducible apply lL) | ((with_reducible apply xC); · repeat first | apply pH | with_reducible apply pT | with_reducible apply pL) | with_reducible assumption | with_reducible apply eS | with_reducible apply eL | exact eR)⟩ | (exfalso; first | contradiction | omega | (simp_all; done) | (simp_all; omega))
-- @true laws.eqSection : c_eqSection _ _ _ _ _ _ _ _ _ _ @RD@ @RD@ @BD@
theorem c_eqSection (w d : Int) (a a' : Option Addr) (n n' c c' : Nat) (xs : List Nat) (M : Mem) (h : RdF M a n xs) (h' : RdF M a' n' xs) (hn : n ≤ 1073741824) :
    ACall Try.prog 12 [.agg #[.int .i64 w, .int .i64 d, .slice a n c], .agg #[.int .i64 w, .int .i64 d, .slice a' n' c']] M fun r M' => r = .bool true ∧ M' = M := by
  have e1 : (w != w) = false := by simp
  have e2 : (d != d) = false := by simp
  refine acall_of_awp Try.func12 rfl Try.ntmps12 rfl ?_
  refine cS (cR ?_)
  first | (refine rXa rfl ?_; intro bk1) | (refine rX rfl rfl ?_; intro bk1)
  first | (refine rXa rfl ?_; intro bk2) | (refine rX rfl rfl ?_; intro bk2)
  refine asg rfl ?_
  refine rN ?_
  refine qN ?_
  refine cS ?_
  refine cS (cR ?_)
  refine fA rfl ?_
  first | refine rL rfl (by repeat first | with_reducible assumption | with_reducible apply List.mem_cons_self | with_reducible apply List.mem_cons_of_mem | with_reducible apply List.mem_append_right | exact List.Mem.head _) rfl rfl ?_ | refine rL rfl (by repeat first | with_reducible assumption | with_reducible apply List.mem_cons_self | with_reducible apply List.mem_cons_of_mem | with_reducible apply List.mem_append_right | exact List.Mem.head _) (by with_reducible assumption) rfl ?_
  refine fA rfl ?_
  first | refine rL rfl (by repeat first | with_reducible assumption | with_reducible apply List.mem_cons_self | with_reducible apply List.mem_cons_of_mem | with_reducible apply List.mem_append_right | exact List.Mem.head _) rfl rfl ?_ | refine rL rfl (by repeat first | with_reducible assumption | with_reducible apply List.mem_cons_self | with_reducible apply List.mem_cons_of_mem | with_reducible apply List.mem_append_right | exact List.Mem.head _) (by with_reducible assumption) rfl ?_
  refine bNeq rfl rfl ?_
  refine rN ?_
  refine qN ?_
  refine cFa rfl (e1) ?_
  refine cK ?_
  refine qN ?_
  refine cS ?_
  refine cS (cR ?_)
  refine fA rfl ?_
  first | refine rL rfl (by repeat first | with_reducible assumption | with_reducible apply List.mem_cons_self | with_reducible apply List.mem_cons_of_mem | with_reducible apply List.mem_append_right | exact List.Mem.head _) rfl rfl ?_ | refine rL rfl (by repeat first | with_reducible assumption | with_reducible apply List.mem_cons_self | with_reducible apply List.mem_cons_of_mem | with_reducible apply List.mem_append_right | exact List.Mem.head _) (by with_reducible assumption) rfl ?_
  refine fA rfl ?_
  first | refine rL rfl (by repeat first | with_reducible assumption | with_reducible apply List.mem_cons_self | with_reducible apply List.mem_cons_of_mem | with_reducible apply List.mem_append_right | exact List.Mem.head _) rfl rfl ?_ | refine rL rfl (by repeat first | with_reducible assumption | with_reducible apply List.mem_cons_self | with_reducible apply List.mem_cons_of_mem | with_reducible apply List.mem_append_right | exact List.Mem.head _) (by with_reducible assumption) rfl ?_
  refine bNeq rfl rfl ?_
  refine rN ?_
  refine qN ?_
  refine cFa rfl (e2) ?_
  refine cK ?_
  refine qN ?_
  refine cS ?_
  refine cS (cR ?_)
  refine fA rfl ?_
  first | refine rL rfl (by repeat first | with_reducible assumption | with_reducible apply List.mem_cons_self | with_reducible apply List.mem_cons_of_mem | with_reducible apply List.mem_append_right | exact List.Mem.head _) rfl rfl ?_ | refine rL rfl (by repeat first | with_reducible assumption | with_reducible apply List.mem_cons_self | with_reducible apply List.mem_cons_of_mem | with_reducible apply List.mem_append_right | exact List.Mem.head _) (by with_reducible assumption) rfl ?_
  refine fA rfl ?_
  first | refine rL rfl (by repeat first | with_reducible assumption | with_reducible apply List.mem_cons_self | with_reducible apply List.mem_cons_of_mem | with_reducible apply List.mem_append_right | exact List.Mem.head _) rfl rfl ?_ | refine rL rfl (by repeat first | with_reducible assumption | with_reducible apply List.mem_cons_self | with_reducible apply List.mem_cons_of_mem | with_reducible apply List.mem_append_right | exact List.Mem.head _) (by with_reducible assumption) rfl ?_
  refine rCq rfl (c_eqFloat32S _ _ _ _ _ _ _ _ (by first | with_reducible assumption | ((try first | with_reducible apply RdF.sub | with_reducible apply RdF.sub0) <;> first | with_reducible assumption | (apply RdF.mono; (· (with_reducible assumption)); · (try simp only [List.cons_append, List.nil_append, List.append_assoc]); repeat' first | with_reducible apply eR | with_reducible apply eA | ((with_reducible apply xA); · repeat first | with_reducible apply lH | with_reducible apply lT | with_reducible apply lL) | ((with_reducible apply xC); · repeat first | apply pH | with_reducible apply pT | with_reducible apply pL) | with_reducible assumption | with_reducible apply eS | with_reducible apply eL | exact eR) | (apply RdF.mono; (· (apply OwF.rdF; with_reducible assumption)); · (try simp only [List.cons_append, List.nil_append, List.append_assoc]); repeat' first | with_reducible apply eR | with_reducible apply eA | ((with_reducible apply xA); · repeat first | with_reducible apply lH | with_reducible apply lT | with_reducible apply lL) | ((with_reducible apply xC); · repeat first | apply pH | with_reducible apply pT | with_reducible apply pL) | with_reducible assumption | with_reducible apply eS | with_reducible apply eL | exact eR) | (apply RdF.ownm; (· repeat first | with_reducible assumption | with_reducible apply List.mem_cons_self | with_reducible apply List.mem_cons_of_mem | with_reducible apply List.mem_append_right | exact List.Mem.head _); · first | rfl | with_reducible assumption | omega | simp [*]) | with_reducible assumption | omega | (simp; done) | (simp; omega) | (simp only [Bool.and_eq_true, inB_iff] at *; omega))) (by first | with_reducible assumption | ((try first | with_reducible apply RdF.sub | with_reducible apply RdF.sub0) <;> first | with_reducible assumption | (apply RdF.mono; (· (with_reducible assumption)); · (try simp only [List.cons_append, List.nil_append, List.append_assoc]); repeat' first | with_reducible apply eR | with_reducible apply eA | ((with_reducible apply xA); · repeat first | with_reducible apply lH | with_reducible apply lT | with_reducible apply lL) | ((with_reducible apply xC); · repeat first | apply pH | with_reducible apply pT | with_reducible apply pL) | with_reducible assumption | with_reducible apply eS | with_reducible apply eL | exact eR) | (apply RdF.mono; (· (apply OwF.rdF; with_reducible assumption)); · (try simp only [List.cons_append, List.nil_append, List.append_assoc]); repeat' first | with_reducible apply eR | with_reducible apply eA | ((with_reducible apply xA); · repeat first | with_reducible apply lH | with_reducible apply lT | with_reducible apply lL) | ((with_reducible apply xC); · repeat first | apply pH | with_reducible apply pT | with_reducible apply pL) | with_reducible assumption | with_reducible apply eS | with_reducible apply eL | exact eR) | (apply RdF.ownm; (· repeat first | with_reducible assumption | with_reducible apply List.mem_cons_self | with_reducible apply List.mem_cons_of_mem | with_reducible apply List.mem_append_right | exact List.Mem.head _); · first | rfl | with_reducible assumption | omega | simp [*]) | with_reducible assumption | omega | (simp; done) | (simp; omega) | (simp only [Bool.and_eq_true, inB_iff] at *; omega))) (by first | with_reducible assumption | omega | (simp only [Bool.and_eq_true, inB_iff] at *; omega))) ?_
  refine uNot rfl ?_
  refine rN ?_
  refine qN ?_
  refine cF rfl ?_
  refine cK ?_
  refine qN ?_
  refine cS (cR ?_)
  refine asg rfl ?_
  refine rN ?_
  refine qN ?_
  refine cE ?_
  refine kE rfl rfl  ?_
  first | (exfalso; contradiction) | exact ⟨_, ⟨rfl, rfl⟩, (by (try simp only [List.cons_append, List.nil_append, List.append_assoc]); repeat' first | with_reducible apply eR | with_reducible apply eA | ((with_reducible apply xA); · repeat first | with_reducible apply lH | with_reducible apply lT | with_reducible apply lL) | ((with_reducible apply xC); · repeat first | apply pH | with_reducible apply pT | with_reducible apply pL) | with_reducible assumption | with_reducible apply eS | with_reducible apply eL | exact eR)⟩ | exact ⟨_, ⟨by first | (simp_all; done) | (simp_all; intros; omega), rfl⟩, (by (try simp only [List.cons_append, List.nil_append, List.append_assoc]); repeat' first | with_reducible apply eR | with_reducible apply eA | ((with_reducible apply xA); · repeat first | with_reducible apply lH | with_reducible apply lT | with_reducible apply lL) | ((with_reducible apply xC); · repeat first | apply pH | with_reducible apply pT | with_reducible apply pL) | with_reducible assumption | with_reducible apply eS | with_reducible apply eL | exact eR)⟩ | (exfalso; first | contradiction | omega | (simp_all; done) | (simp_all; omega))
theorem c_markSection (w d : Int) (a : Option Addr) (n c : Nat) (k : Nat) (xs : List Nat) (L M : Mem) (ho : OwF L (.slice a n c) xs) (hlen : n ≤ 1073741824) (hk0 : k ≤ 1073741824) :
    ACall Try.prog 14 [.agg #[.int .i64 w, .int .i64 d, .slice a n c], .int .i64 (k : Nat)] (L ++ M) fun r M' => r = .int .i64 ((k + n : Nat) : Int) ∧ ∃ L', OwF L' (.slice a n c) (marks k n) ∧ M' = L' ++ M := by
  refine acall_of_awp Try.func14 rfl Try.ntmps14 rfl ?_
  refine cS (cR ?_)
  first | (refine rXa rfl ?_; intro bk1) | (refine rX rfl rfl ?_; intro bk1)
  refine asg rfl ?_
  refine rN ?_
  refine qN ?_
  refine cS (cR ?_)
  refine fA rfl ?_
  first | refine rL rfl (by repeat first | with_reducible assumption | with_reducible apply List.mem_cons_self | with_reducible apply List.mem_cons_of_mem | with_reducible apply List.mem_append_right | exact List.Mem.head _) rfl rfl ?_ | refine rL rfl (by repeat first | with_reducible assumption | with_reducible apply List.mem_cons_self | with_reducible apply List.mem_cons_of_mem | with_reducible apply List.mem_append_right | exact List.Mem.head _) (by with_reducible assumption) rfl ?_
  refine mv rfl ?_
  refine rC rfl ((c_markFloat32S _ _ _ _ _ _ ((bk1, _) :: M) ho hlen hk0).ofLess (by refine Ext.of_perm ?_; exact List.perm_middle)) ?_
  rintro _ _ ⟨rfl, lk1, how1, rfl⟩
  refine ⟨nofun, ?_⟩
  refine asg rfl ?_
  refine rN ?_
  refine qN ?_
  refine cS (cR ?_)
  refine mv rfl ?_
  refine asg rfl ?_
  refine rN ?_
  refine qN ?_
  refine cE ?_
  refine kE rfl rfl  ?_
  first | (exfalso; contradiction) | exact ⟨_, ⟨rfl, _, how1, rfl⟩, (by (try simp only [List.cons_append, List.nil_append, List.append_assoc]); repeat' first | with_reducible apply eR | with_reducible apply eA | ((with_reducible apply xA); · repeat first | with_reducible apply lH | with_reducible apply lT | with_reducible apply lL) | ((with_reducible apply xC); · repeat first | apply pH | with_reducible apply pT | with_reducible apply pL) | with_reducible assumption | with_reducible apply eS | with_reducible apply eL | exact eR)⟩ | (exfalso; first | contradiction | omega | (simp_all; done) | (simp_all; omega))
end Go.Proofs.Ytkbpdgacfeachaa.Ab
