/-
  The walks of the laws FnExactValidSection and FnExactSameSection.
-/
import Derived.Test.YtjpbgldnnfcmaaaSe
namespace Go.Proofs.Ytjpbgldnnfcmaaa.Ab
open Go Go.RowKit
attribute [local irreducible] Run Then InBlock LoopQ LQ1 LQ2 LQ3 LQ4 LQ5 LQ6 AWp Ret ACall
set_option linter.unusedVariables false
set_option linter.unusedSimpArgs false

theorem c_lawValidSection (w d : Int) (a : Option Addr) (n c : Nat) (xs : List Nat) (M : Mem) (h : RdF M a n xs) (hn : n ≤ 9223372036854775807) :
    ACall Try.prog 3 [.agg #[.int .i64 w, .int .i64 d, .slice a n c]] M fun v M' => v = .bool true ∧ M' = M := by
  obtain ⟨rfl, _⟩ := id h
  refine acall_of_awp Try.func3 rfl Try.ntmps3 rfl ?_
  refine cS (cR ?_)
  first | (refine rXa rfl ?_; intro bk1) | (refine rX rfl rfl ?_; intro bk1)
  refine asg rfl ?_
  refine rN ?_
  refine qN ?_
  refine cS (cR ?_)
  refine asg rfl ?_
  refine rN ?_
  refine qN ?_
  refine cS (cR ?_)
  refine rLA rfl (by repeat first | with_reducible assumption | exact List.Mem.head _ | refine List.Mem.tail _ ?_ | refine List.mem_append_right _ ?_) rfl rfl ?_
  refine mv rfl ?_
  refine rCq rfl (c_szSection _ _ _ _ _ _ _ (by first | with_reducible assumption | omega | (simp only [Bool.and_eq_true, inB_iff] at *; omega)) (by first | with_reducible assumption | omega | (simp only [Bool.and_eq_true, inB_iff] at *; omega)) (by first | with_reducible assumption | omega | (simp only [Bool.and_eq_true, inB_iff] at *; omega))) ?_
  refine asg rfl ?_
  refine rN ?_
  refine qN ?_
  refine cS ?_
  refine cS (cR ?_)
  refine mv rfl ?_
  refine bLss rfl rfl ?_
  refine rN ?_
  refine qN ?_
  refine cC rfl (fun c1 => ?_) (fun c1 => ?_)
  · have c1' := c1; try simp only [inB_iff, Bool.and_eq_true, decide_eq_true_eq, decide_eq_false_iff_not, beq_iff_eq, beq_eq_false_iff_ne, bne_iff_ne, bne_eq_false_iff_eq, ne_eq] at c1'
    refine cS (cR ?_)
    refine asg rfl ?_
    refine rN ?_
    refine qN ?_
    refine cE ?_
    refine qE ?_
    refine kE rfl rfl  ?_
    first | (exfalso; contradiction) | exact ⟨_, ⟨rfl, rfl⟩, (by (try simp only [List.cons_append, List.nil_append]); repeat' first | with_reducible exact eR | with_reducible exact eA | with_reducible refine xA (by repeat first | with_reducible exact lH | with_reducible apply lT | with_reducible apply lL) ?_ | with_reducible refine xC (by repeat first | exact pH | with_reducible apply pT | with_reducible apply pL) ?_ | with_reducible assumption | with_reducible refine eS ?_ | with_reducible refine eL ?_ | exact eR)⟩ | (exfalso; first | contradiction | omega | (simp_all; done) | (simp_all; omega))
  have c1' := c1; try simp only [inB_iff, Bool.and_eq_true, decide_eq_true_eq, decide_eq_false_iff_not, beq_iff_eq, beq_eq_false_iff_ne, bne_iff_ne, bne_eq_false_iff_eq, ne_eq] at c1'
  have c1z := szI_ge c1
  refine cK ?_
  refine qN ?_
  refine cS (cR ?_)
  refine rLA rfl (by repeat first | with_reducible assumption | exact List.Mem.head _ | refine List.Mem.tail _ ?_ | refine List.mem_append_right _ ?_) rfl rfl ?_
  refine rC rfl (c_toSection _ _ _ _ _ _ _ (by first | with_reducible assumption | exact RdF.mono (OwF.rdF (by with_reducible assumption)) (by (try simp only [List.cons_append, List.nil_append]); repeat' first | with_reducible exact eR | with_reducible exact eA | with_reducible refine xA (by repeat first | with_reducible exact lH | with_reducible apply lT | with_reducible apply lL) ?_ | with_reducible refine xC (by repeat first | exact pH | with_reducible apply pT | with_reducible apply pL) ?_ | with_reducible assumption | with_reducible refine eS ?_ | with_reducible refine eL ?_ | exact eR) | exact RdF.ownm (by repeat first | with_reducible assumption | exact List.Mem.head _ | refine List.Mem.tail _ ?_ | refine List.mem_append_right _ ?_) (by first | rfl | with_reducible assumption | omega | simp [*]) | exact RdF.mono (by with_reducible assumption) (by (try simp only [List.cons_append, List.nil_append]); repeat' first | with_reducible exact eR | with_reducible exact eA | with_reducible refine xA (by repeat first | with_reducible exact lH | with_reducible apply lT | with_reducible apply lL) ?_ | with_reducible refine xC (by repeat first | exact pH | with_reducible apply pT | with_reducible apply pL) ?_ | with_reducible assumption | with_reducible refine eS ?_ | with_reducible refine eL ?_ | exact eR)) (by first | with_reducible assumption | omega | (simp only [Bool.and_eq_true, inB_iff] at *; omega))) ?_
  rintro _ _ ⟨lk1, ⟨sv1, rfl, how1⟩, rfl⟩
  obtain ⟨ad1, cn1, rfl, hrd1⟩ := how1.rd
  refine ⟨fun _ => eL eR, ?_⟩
  refine rC rfl (c_specValidSection _ _ _ _ _ _) ?_
  rintro _ _ ⟨rfl, rfl⟩
  refine ⟨fun _ => eR, ?_⟩
  refine asg rfl ?_
  refine rN ?_
  refine qN ?_
  refine cS (cR ?_)
  refine rLA rfl (by repeat first | with_reducible assumption | exact List.Mem.head _ | refine List.Mem.tail _ ?_ | refine List.mem_append_right _ ?_) rfl rfl ?_
  refine rC rfl (c_toSection _ _ _ _ _ _ _ (by first | with_reducible assumption | exact RdF.mono (OwF.rdF (by with_reducible assumption)) (by (try simp only [List.cons_append, List.nil_append]); repeat' first | with_reducible exact eR | with_reducible exact eA | with_reducible refine xA (by repeat first | with_reducible exact lH | with_reducible apply lT | with_reducible apply lL) ?_ | with_reducible refine xC (by repeat first | exact pH | with_reducible apply pT | with_reducible apply pL) ?_ | with_reducible assumption | with_reducible refine eS ?_ | with_reducible refine eL ?_ | exact eR) | exact RdF.ownm (by repeat first | with_reducible assumption | exact List.Mem.head _ | refine List.Mem.tail _ ?_ | refine List.mem_append_right _ ?_) (by first | rfl | with_reducible assumption | omega | simp [*]) | exact RdF.mono (by with_reducible assumption) (by (try simp only [List.cons_append, List.nil_append]); repeat' first | with_reducible exact eR | with_reducible exact eA | with_reducible refine xA (by repeat first | with_reducible exact lH | with_reducible apply lT | with_reducible apply lL) ?_ | with_reducible refine xC (by repeat first | exact pH | with_reducible apply pT | with_reducible apply pL) ?_ | with_reducible assumption | with_reducible refine eS ?_ | with_reducible refine eL ?_ | exact eR)) (by first | with_reducible assumption | omega | (simp only [Bool.and_eq_true, inB_iff] at *; omega))) ?_
  rintro _ _ ⟨lk3, ⟨sv3, rfl, how3⟩, rfl⟩
  obtain ⟨ad3, cn3, rfl, hrd3⟩ := how3.rd
  refine ⟨fun _ => eL eR, ?_⟩
  refine rO ?_; intro bk2
  refine tA rfl rfl rfl (by repeat first | exact pH | with_reducible apply pT | with_reducible apply pL) (by rfl) (by rfl) ?_
  refine rN ?_
  refine qN ?_
  refine cS (cR ?_)
  refine rLA rfl (by repeat first | with_reducible assumption | exact List.Mem.head _ | refine List.Mem.tail _ ?_ | refine List.mem_append_right _ ?_) rfl rfl ?_
  refine rCq rfl (c_implValidSection _ _ _ _ _ _) ?_
  refine asg rfl ?_
  refine rN ?_
  refine qN ?_
  refine cS ?_
  refine cS (cR ?_)
  refine mv rfl ?_
  refine mv rfl ?_
  refine rp rfl ?_
  refine rN ?_
  refine qN ?_
  refine cFa rfl (by first | exact bne_self_eq_false _ | (simp; done) | (simp; omega) | omega) ?_
  refine cK ?_
  refine qN ?_
  refine cS ?_
  refine cS ?_
  refine cD [(0, true), (1, false), (2, false), (3, false), (4, false)] (by repeat first | exact fineT | exact fineL | exact fineLQ1 | exact fineLQ2 | exact fineLQ3 | exact fineLQ4 | exact fineLQ5 | exact fineLQ6 | refine fineB ?_) (by kernel_rfl) ?_
  simp only [pick, List.getElem?_toArray, List.getElem?_cons_zero, List.getElem?_cons_succ]
  refine rLA rfl (by repeat first | with_reducible assumption | exact List.Mem.head _ | refine List.Mem.tail _ ?_ | refine List.mem_append_right _ ?_) rfl rfl ?_
  refine rLA rfl (by repeat first | with_reducible assumption | exact List.Mem.head _ | refine List.Mem.tail _ ?_ | refine List.mem_append_right _ ?_) rfl rfl ?_
  refine rC rfl (c_toSection _ _ _ _ _ _ _ (by first | with_reducible assumption | exact RdF.mono (OwF.rdF (by with_reducible assumption)) (by (try simp only [List.cons_append, List.nil_append]); repeat' first | with_reducible exact eR | with_reducible exact eA | with_reducible refine xA (by repeat first | with_reducible exact lH | with_reducible apply lT | with_reducible apply lL) ?_ | with_reducible refine xC (by repeat first | exact pH | with_reducible apply pT | with_reducible apply pL) ?_ | with_reducible assumption | with_reducible refine eS ?_ | with_reducible refine eL ?_ | exact eR) | exact RdF.ownm (by repeat first | with_reducible assumption | exact List.Mem.head _ | refine List.Mem.tail _ ?_ | refine List.mem_append_right _ ?_) (by first | rfl | with_reducible assumption | omega | simp [*]) | exact RdF.mono (by with_reducible assumption) (by (try simp only [List.cons_append, List.nil_append]); repeat' first | with_reducible exact eR | with_reducible exact eA | with_reducible refine xA (by repeat first | with_reducible exact lH | with_reducible apply lT | with_reducible apply lL) ?_ | with_reducible refine xC (by repeat first | exact pH | with_reducible apply pT | with_reducible apply pL) ?_ | with_reducible assumption | with_reducible refine eS ?_ | with_reducible refine eL ?_ | exact eR)) (by first | with_reducible assumption | omega | (simp only [Bool.and_eq_true, inB_iff] at *; omega))) ?_
  rintro _ _ ⟨lk5, ⟨sv5, rfl, how5⟩, rfl⟩
  obtain ⟨ad5, cn5, rfl, hrd5⟩ := how5.rd
  refine ⟨fun _ => eL eR, ?_⟩
  refine rCq rfl (c_eqSection _ _ _ _ _ _ _ _ _ _ (by first | with_reducible assumption | exact RdF.mono (OwF.rdF (by with_reducible assumption)) (by (try simp only [List.cons_append, List.nil_append]); repeat' first | with_reducible exact eR | with_reducible exact eA | with_reducible refine xA (by repeat first | with_reducible exact lH | with_reducible apply lT | with_reducible apply lL) ?_ | with_reducible refine xC (by repeat first | exact pH | with_reducible apply pT | with_reducible apply pL) ?_ | with_reducible assumption | with_reducible refine eS ?_ | with_reducible refine eL ?_ | exact eR) | exact RdF.ownm (by repeat first | with_reducible assumption | exact List.Mem.head _ | refine List.Mem.tail _ ?_ | refine List.mem_append_right _ ?_) (by first | rfl | with_reducible assumption | omega | simp [*]) | exact RdF.mono (by with_reducible assumption) (by (try simp only [List.cons_append, List.nil_append]); repeat' first | with_reducible exact eR | with_reducible exact eA | with_reducible refine xA (by repeat first | with_reducible exact lH | with_reducible apply lT | with_reducible apply lL) ?_ | with_reducible refine xC (by repeat first | exact pH | with_reducible apply pT | with_reducible apply pL) ?_ | with_reducible assumption | with_reducible refine eS ?_ | with_reducible refine eL ?_ | exact eR)) (by first | with_reducible assumption | exact RdF.mono (OwF.rdF (by with_reducible assumption)) (by (try simp only [List.cons_append, List.nil_append]); repeat' first | with_reducible exact eR | with_reducible exact eA | with_reducible refine xA (by repeat first | with_reducible exact lH | with_reducible apply lT | with_reducible apply lL) ?_ | with_reducible refine xC (by repeat first | exact pH | with_reducible apply pT | with_reducible apply pL) ?_ | with_reducible assumption | with_reducible refine eS ?_ | with_reducible refine eL ?_ | exact eR) | exact RdF.ownm (by repeat first | with_reducible assumption | exact List.Mem.head _ | refine List.Mem.tail _ ?_ | refine List.mem_append_right _ ?_) (by first | rfl | with_reducible assumption | omega | simp [*]) | exact RdF.mono (by with_reducible assumption) (by (try simp only [List.cons_append, List.nil_append]); repeat' first | with_reducible exact eR | with_reducible exact eA | with_reducible refine xA (by repeat first | with_reducible exact lH | with_reducible apply lT | with_reducible apply lL) ?_ | with_reducible refine xC (by repeat first | exact pH | with_reducible apply pT | with_reducible apply pL) ?_ | with_reducible assumption | with_reducible refine eS ?_ | with_reducible refine eL ?_ | exact eR)) (by first | with_reducible assumption | omega | (simp only [Bool.and_eq_true, inB_iff] at *; omega))) ?_
  refine uNot rfl ?_
  refine rN ?_
  refine qN ?_
  refine cF rfl ?_
  refine cK ?_
  refine qN ?_
  refine cS (cR ?_)
  refine asg rfl ?_
  refine rN ?_
  refine qN ?_
  refine cE ?_
  refine kE rfl rfl  ?_
  first | (exfalso; contradiction) | exact ⟨_, ⟨rfl, rfl⟩, (by (try simp only [List.cons_append, List.nil_append]); repeat' first | with_reducible exact eR | with_reducible exact eA | with_reducible refine xA (by repeat first | with_reducible exact lH | with_reducible apply lT | with_reducible apply lL) ?_ | with_reducible refine xC (by repeat first | exact pH | with_reducible apply pT | with_reducible apply pL) ?_ | with_reducible assumption | with_reducible refine eS ?_ | with_reducible refine eL ?_ | exact eR)⟩ | (exfalso; first | contradiction | omega | (simp_all; done) | (simp_all; omega))

def bitF (x : Nat) : Int := if nanB .f32 x = true then 2143289344 else IntKind.i64.wrap (x : Nat)
def sameN (x y : Nat) : Bool := bitF x == bitF y
-- @reg impl.BitsOf : c_BitsOf _ _
theorem c_BitsOf (x : Nat) (M : Mem) : ACall Try.prog 98 [.float .f32 x] M fun v M' => v = .int .i64 (bitF x) ∧ M' = M := by
  refine acall_of_awp Try.func98 rfl Try.ntmps98 rfl ?_
  refine cS (cR ?_)
  refine asg rfl ?_
  refine rN ?_
  refine qN ?_
  refine cS ?_
  refine cS (cR ?_)
  refine mv rfl ?_
  refine mv rfl ?_
  refine fCm rfl rfl rfl ?_
  refine rN ?_
  refine qN ?_
  refine cC rfl (fun c1 => ?_) (fun c1 => ?_)
  · have c1' := c1; try simp only [inB_iff, Bool.and_eq_true, decide_eq_true_eq, decide_eq_false_iff_not, beq_iff_eq, beq_eq_false_iff_ne, bne_iff_ne, bne_eq_false_iff_eq, ne_eq] at c1'
    refine cS (cR ?_)
    refine asg rfl ?_
    refine rN ?_
    refine qN ?_
    refine cE ?_
    refine qE ?_
    rw [fcmp_neq_self] at c1
    refine kE rfl rfl  ?_
    first | (exfalso; contradiction) | exact ⟨_, ⟨by rw [bitF, if_pos c1], rfl⟩, (by (try simp only [List.cons_append, List.nil_append]); repeat' first | with_reducible exact eR | with_reducible exact eA | with_reducible refine xA (by repeat first | with_reducible exact lH | with_reducible apply lT | with_reducible apply lL) ?_ | with_reducible refine xC (by repeat first | exact pH | with_reducible apply pT | with_reducible apply pL) ?_ | with_reducible assumption | with_reducible refine eS ?_ | with_reducible refine eL ?_ | exact eR)⟩ | (exfalso; first | contradiction | omega | (simp_all; done) | (simp_all; omega))
  · have c1' := c1; try simp only [inB_iff, Bool.and_eq_true, decide_eq_true_eq, decide_eq_false_iff_not, beq_iff_eq, beq_eq_false_iff_ne, bne_iff_ne, bne_eq_false_iff_eq, ne_eq] at c1'
    have hn : nanB .f32 x = false := by rw [← fcmp_neq_self]; exact c1
    refine cK ?_
    refine qN ?_
    refine cS (cR ?_)
    refine mv rfl ?_
    refine xF32 rfl (by with_reducible assumption) ?_
    first | refine cvI rfl (by omega) (by omega) ?_ | refine rp rfl ?_
    refine asg rfl ?_
    refine rN ?_
    refine qN ?_
    refine cE ?_
    refine kE rfl rfl  ?_
    first | (exfalso; contradiction) | exact ⟨_, ⟨by rw [bitF, if_neg (by rw [hn]; decide)], rfl⟩, (by (try simp only [List.cons_append, List.nil_append]); repeat' first | with_reducible exact eR | with_reducible exact eA | with_reducible refine xA (by repeat first | with_reducible exact lH | with_reducible apply lT | with_reducible apply lL) ?_ | with_reducible refine xC (by repeat first | exact pH | with_reducible apply pT | with_reducible apply pL) ?_ | with_reducible assumption | with_reducible refine eS ?_ | with_reducible refine eL ?_ | exact eR)⟩ | (exfalso; first | contradiction | omega | (simp_all; done) | (simp_all; omega))
-- @reg spec.l01Bits : c_l01Bits _ _
theorem c_l01Bits (x : Nat) (M : Mem) : ACall Try.prog 97 [.float .f32 x] M fun v M' => v = .int .i64 (bitF x) ∧ M' = M := by
  refine acall_of_awp Try.func97 rfl Try.ntmps97 rfl ?_
  refine cS (cR ?_)
  refine asg rfl ?_
  refine rN ?_
  refine qN ?_
  refine cS ?_
  refine cS (cR ?_)
  refine mv rfl ?_
  refine mv rfl ?_
  refine fCm rfl rfl rfl ?_
  refine rN ?_
  refine qN ?_
  refine cC rfl (fun c1 => ?_) (fun c1 => ?_)
  · have c1' := c1; try simp only [inB_iff, Bool.and_eq_true, decide_eq_true_eq, decide_eq_false_iff_not, beq_iff_eq, beq_eq_false_iff_ne, bne_iff_ne, bne_eq_false_iff_eq, ne_eq] at c1'
    refine cS (cR ?_)
    refine asg rfl ?_
    refine rN ?_
    refine qN ?_
    refine cE ?_
    refine qE ?_
    rw [fcmp_neq_self] at c1
    refine kE rfl rfl  ?_
    first | (exfalso; contradiction) | exact ⟨_, ⟨by rw [bitF, if_pos c1], rfl⟩, (by (try simp only [List.cons_append, List.nil_append]); repeat' first | with_reducible exact eR | with_reducible exact eA | with_reducible refine xA (by repeat first | with_reducible exact lH | with_reducible apply lT | with_reducible apply lL) ?_ | with_reducible refine xC (by repeat first | exact pH | with_reducible apply pT | with_reducible apply pL) ?_ | with_reducible assumption | with_reducible refine eS ?_ | with_reducible refine eL ?_ | exact eR)⟩ | (exfalso; first | contradiction | omega | (simp_all; done) | (simp_all; omega))
  · have c1' := c1; try simp only [inB_iff, Bool.and_eq_true, decide_eq_true_eq, decide_eq_false_iff_not, beq_iff_eq, beq_eq_false_iff_ne, bne_iff_ne, bne_eq_false_iff_eq, ne_eq] at c1'
    have hn : nanB .f32 x = false := by rw [← fcmp_neq_self]; exact c1
    refine cK ?_
    refine qN ?_
    refine cS (cR ?_)
    refine mv rfl ?_
    refine xF32 rfl (by with_reducible assumption) ?_
    first | refine cvI rfl (by omega) (by omega) ?_ | refine rp rfl ?_
    refine asg rfl ?_
    refine rN ?_
    refine qN ?_
    refine cE ?_
    refine kE rfl rfl  ?_
    first | (exfalso; contradiction) | exact ⟨_, ⟨by rw [bitF, if_neg (by rw [hn]; decide)], rfl⟩, (by (try simp only [List.cons_append, List.nil_append]); repeat' first | with_reducible exact eR | with_reducible exact eA | with_reducible refine xA (by repeat first | with_reducible exact lH | with_reducible apply lT | with_reducible apply lL) ?_ | with_reducible refine xC (by repeat first | exact pH | with_reducible apply pT | with_reducible apply pL) ?_ | with_reducible assumption | with_reducible refine eS ?_ | with_reducible refine eL ?_ | exact eR)⟩ | (exfalso; first | contradiction | omega | (simp_all; done) | (simp_all; omega))
-- @reg impl.SameNumber : c_SameNumber _ _ _
theorem c_SameNumber (x y : Nat) (M : Mem) : ACall Try.prog 92 [.float .f32 x, .float .f32 y] M fun v M' => v = .bool (sameN x y) ∧ M' = M := by
  refine acall_of_awp Try.func92 rfl Try.ntmps92 rfl ?_
  refine cS (cR ?_)
  refine asg rfl ?_
  refine rN ?_
  refine qN ?_
  refine cS (cR ?_)
  refine mv rfl ?_
  refine rCq rfl (c_BitsOf _ _) ?_
  refine mv rfl ?_
  refine rCq rfl (c_BitsOf _ _) ?_
  refine bEql rfl rfl ?_
  refine asg rfl ?_
  refine rN ?_
  refine qN ?_
  refine cE ?_
  refine kE rfl rfl  ?_
  first | (exfalso; contradiction) | exact ⟨_, ⟨rfl, rfl⟩, (by (try simp only [List.cons_append, List.nil_append]); repeat' first | with_reducible exact eR | with_reducible exact eA | with_reducible refine xA (by repeat first | with_reducible exact lH | with_reducible apply lT | with_reducible apply lL) ?_ | with_reducible refine xC (by repeat first | exact pH | with_reducible apply pT | with_reducible apply pL) ?_ | with_reducible assumption | with_reducible refine eS ?_ | with_reducible refine eL ?_ | exact eR)⟩ | exact ⟨_, ⟨by first | (simp_all; done) | (simp_all; intros; omega), rfl⟩, (by (try simp only [List.cons_append, List.nil_append]); repeat' first | with_reducible exact eR | with_reducible exact eA | with_reducible refine xA (by repeat first | with_reducible exact lH | with_reducible apply lT | with_reducible apply lL) ?_ | with_reducible refine xC (by repeat first | exact pH | with_reducible apply pT | with_reducible apply pL) ?_ | with_reducible assumption | with_reducible refine eS ?_ | with_reducible refine eL ?_ | exact eR)⟩ | (exfalso; first | contradiction | omega | (simp_all; done) | (simp_all; omega))
-- @reg spec.l01Same : c_l01Same _ _ _
theorem c_l01Same (x y : Nat) (M : Mem) : ACall Try.prog 90 [.float .f32 x, .float .f32 y] M fun v M' => v = .bool (sameN x y) ∧ M' = M := by
  refine acall_of_awp Try.func90 rfl Try.ntmps90 rfl ?_
  refine cS (cR ?_)
  refine asg rfl ?_
  refine rN ?_
  refine qN ?_
  refine cS (cR ?_)
  refine mv rfl ?_
  refine rCq rfl (c_l01Bits _ _) ?_
  refine mv rfl ?_
  refine rCq rfl (c_l01Bits _ _) ?_
  refine bEql rfl rfl ?_
  refine asg rfl ?_
  refine rN ?_
  refine qN ?_
  refine cE ?_
  refine kE rfl rfl  ?_
  first | (exfalso; contradiction) | exact ⟨_, ⟨rfl, rfl⟩, (by (try simp only [List.cons_append, List.nil_append]); repeat' first | with_reducible exact eR | with_reducible exact eA | with_reducible refine xA (by repeat first | with_reducible exact lH | with_reducible apply lT | with_reducible apply lL) ?_ | with_reducible refine xC (by repeat first | exact pH | with_reducible apply pT | with_reducible apply pL) ?_ | with_reducible assumption | with_reducible refine eS ?_ | with_reducible refine eL ?_ | exact eR)⟩ | exact ⟨_, ⟨by first | (simp_all; done) | (simp_all; intros; omega), rfl⟩, (by (try simp only [List.cons_append, List.nil_append]); repeat' first | with_reducible exact eR | with_reducible exact eA | with_reducible refine xA (by repeat first | with_reducible exact lH | with_reducible apply lT | with_reducible apply lL) ?_ | with_reducible refine xC (by repeat first | exact pH | with_reducible apply pT | with_reducible apply pL) ?_ | with_reducible assumption | with_reducible refine eS ?_ | with_reducible refine eL ?_ | exact eR)⟩ | (exfalso; first | contradiction | omega | (simp_all; done) | (simp_all; omega))
/-- two lists have the same numbers -/
def sameL (xs ys : List Nat) : Bool := ((xs.length : Int) == ys.length) && (List.range xs.length).all fun i => sameN (xs.getD i 0) (ys.getD i 0)
theorem sameL_len {xs ys : List Nat} (h : ((xs.length : Int) != ys.length) = true) : sameL xs ys = false := by
  unfold sameL; rw [Bool.and_eq_false_iff]; left; simpa [bne] using h
theorem sameL_no {xs ys : List Nat} {k : Nat} (hk : k < xs.length) (h : sameN (xs.getD k 0) (ys.getD k 0) = false) : sameL xs ys = false := by
  unfold sameL; rw [Bool.and_eq_false_iff]; right
  rw [List.all_eq_false]
  exact ⟨k, by simpa using hk, by rw [h]; decide⟩
theorem sameL_yes {xs ys : List Nat} (h0 : ((xs.length : Int) != ys.length) = false) (h : ∀ k, k < xs.length → sameN (xs.getD k 0) (ys.getD k 0) = true) : sameL xs ys = true := by
  unfold sameL; rw [Bool.and_eq_true]
  refine ⟨by simpa [bne] using h0, ?_⟩
  rw [List.all_eq_true]
  intro k hk
  exact h k (by simpa using hk)
-- @reg slices.EqualFunc[[]float32,[]float32,float32,float32] : c_equalFunc _ _ _ _ _ _ _ _ _ @RD@ @RD@ @BD@ @BD@
theorem c_equalFunc (a a' : Option Addr) (n n' c c' : Nat) (xs ys : List Nat) (M : Mem) (h : RdF M a n xs) (h' : RdF M a' n' ys) (hn : n ≤ 1073741824) (hn' : n' ≤ 1073741824) :
    ACall Try.prog 91 [.slice a n c, .slice a' n' c', .func (.func 92) #[] #[]] M fun v M' => v = .bool (sameL xs ys) ∧ M' = M := by
  obtain ⟨rfl, _⟩ := id h
  obtain ⟨rfl, _⟩ := id h'
  refine acall_of_awp Try.func91 rfl Try.ntmps91 rfl ?_
  refine cS (cR ?_)
  refine asg rfl ?_
  refine rN ?_
  refine qN ?_
  refine cS ?_
  refine cS (cR ?_)
  refine mv rfl ?_
  refine ln rfl ?_
  refine mv rfl ?_
  refine ln rfl ?_
  refine bNeq rfl rfl ?_
  refine rN ?_
  refine qN ?_
  refine cC rfl (fun c1 => ?_) (fun c1 => ?_)
  · have c1' := c1; try simp only [inB_iff, Bool.and_eq_true, decide_eq_true_eq, decide_eq_false_iff_not, beq_iff_eq, beq_eq_false_iff_ne, bne_iff_ne, bne_eq_false_iff_eq, ne_eq] at c1'
    refine cS (cR ?_)
    refine asg rfl ?_
    refine rN ?_
    refine qN ?_
    refine cE ?_
    refine qE ?_
    refine kE rfl rfl  ?_
    first | (exfalso; contradiction) | exact ⟨_, ⟨by rw [sameL_len c1], rfl⟩, (by (try simp only [List.cons_append, List.nil_append]); repeat' first | with_reducible exact eR | with_reducible exact eA | with_reducible refine xA (by repeat first | with_reducible exact lH | with_reducible apply lT | with_reducible apply lL) ?_ | with_reducible refine xC (by repeat first | exact pH | with_reducible apply pT | with_reducible apply pL) ?_ | with_reducible assumption | with_reducible refine eS ?_ | with_reducible refine eL ?_ | exact eR)⟩ | (exfalso; first | contradiction | omega | (simp_all; done) | (simp_all; omega))
  · have c1' := c1; try simp only [inB_iff, Bool.and_eq_true, decide_eq_true_eq, decide_eq_false_iff_not, beq_iff_eq, beq_eq_false_iff_ne, bne_iff_ne, bne_eq_false_iff_eq, ne_eq] at c1'
    refine cK ?_
    refine qN ?_
    refine cS ?_
    refine cS (cR ?_)
    refine mv rfl ?_
    refine ln rfl ?_
    refine mv rfl ?_
    refine rN ?_
    refine qN ?_
    refine cB ?_
    refine cL1 (fun (k : Nat) => [(17, .int .i64 (k : Nat))]) [(1, _), (2, _), (15, _), (16, _)] (fun (k : Nat) => M) (fun (k : Nat) => xs.length - k) (fun (k : Nat) => k ≤ xs.length ∧ ∀ j, j < k → sameN (xs.getD j 0) (ys.getD j 0) = true) (0) (by repeat first | exact Sub.nil _ | refine Sub.cons rfl ?_) (by (try simp only [List.cons_append, List.nil_append]); repeat' first | with_reducible exact eR | with_reducible exact eA | with_reducible refine xA (by repeat first | with_reducible exact lH | with_reducible apply lT | with_reducible apply lL) ?_ | with_reducible refine xC (by repeat first | exact pH | with_reducible apply pT | with_reducible apply pL) ?_ | with_reducible assumption | with_reducible refine eS ?_ | with_reducible refine eL ?_ | exact eR) (by exact ⟨Nat.zero_le _, fun j hj => by omega⟩) ?_
    rintro k ⟨hk, hj⟩
    refine wT (T' := [(17, _), (1, _), (2, _), (15, _), (16, _)]) rfl ?_
    refine cS (cR ?_)
    refine bLss rfl rfl ?_
    refine rN ?_
    refine qN ?_
    refine cS ?_
    refine cC rfl (fun c2 => ?_) (fun c2 => ?_)
    · have c2' := c2; try simp only [inB_iff, Bool.and_eq_true, decide_eq_true_eq, decide_eq_false_iff_not, beq_iff_eq, beq_eq_false_iff_ne, bne_iff_ne, bne_eq_false_iff_eq, ne_eq] at c2'
      refine cK ?_
      refine qN ?_
      refine cS ?_
      refine cB ?_
      refine cS (cR ?_)
      refine mv rfl ?_
      first
        | refine ixN rfl rfl (by first | exact AOk.own | with_reducible assumption | exact RdF.aok (by with_reducible assumption) | exact RdF.aok (OwF.rdF (by with_reducible assumption))) (by first | with_reducible assumption | omega) ?_
        | refine ixI rfl rfl (by first | exact AOk.own | with_reducible assumption | exact RdF.aok (by with_reducible assumption) | exact RdF.aok (OwF.rdF (by with_reducible assumption))) (by omega) (by omega) ?_
      first
        | refine ldF rfl (by first | with_reducible assumption | exact RdF.mono (OwF.rdF (by with_reducible assumption)) (by (try simp only [List.cons_append, List.nil_append]); repeat' first | with_reducible exact eR | with_reducible exact eA | with_reducible refine xA (by repeat first | with_reducible exact lH | with_reducible apply lT | with_reducible apply lL) ?_ | with_reducible refine xC (by repeat first | exact pH | with_reducible apply pT | with_reducible apply pL) ?_ | with_reducible assumption | with_reducible refine eS ?_ | with_reducible refine eL ?_ | exact eR) | exact RdF.ownm (by repeat first | with_reducible assumption | exact List.Mem.head _ | refine List.Mem.tail _ ?_ | refine List.mem_append_right _ ?_) (by first | rfl | with_reducible assumption | omega | simp [*]) | exact RdF.mono (by with_reducible assumption) (by (try simp only [List.cons_append, List.nil_append]); repeat' first | with_reducible exact eR | with_reducible exact eA | with_reducible refine xA (by repeat first | with_reducible exact lH | with_reducible apply lT | with_reducible apply lL) ?_ | with_reducible refine xC (by repeat first | exact pH | with_reducible apply pT | with_reducible apply pL) ?_ | with_reducible assumption | with_reducible refine eS ?_ | with_reducible refine eL ?_ | exact eR)) (by first | with_reducible assumption | omega) ?_
      refine asg rfl ?_
      refine asg rfl ?_
      refine rN ?_
      refine qN ?_
      refine cS (cR ?_)
      refine mv rfl ?_
      refine mv rfl ?_
      first
        | refine ixN rfl rfl (by first | exact AOk.own | with_reducible assumption | exact RdF.aok (by with_reducible assumption) | exact RdF.aok (OwF.rdF (by with_reducible assumption))) (by first | with_reducible assumption | omega) ?_
        | refine ixI rfl rfl (by first | exact AOk.own | with_reducible assumption | exact RdF.aok (by with_reducible assumption) | exact RdF.aok (OwF.rdF (by with_reducible assumption))) (by omega) (by omega) ?_
      first
        | refine ldF rfl (by first | with_reducible assumption | exact RdF.mono (OwF.rdF (by with_reducible assumption)) (by (try simp only [List.cons_append, List.nil_append]); repeat' first | with_reducible exact eR | with_reducible exact eA | with_reducible refine xA (by repeat first | with_reducible exact lH | with_reducible apply lT | with_reducible apply lL) ?_ | with_reducible refine xC (by repeat first | exact pH | with_reducible apply pT | with_reducible apply pL) ?_ | with_reducible assumption | with_reducible refine eS ?_ | with_reducible refine eL ?_ | exact eR) | exact RdF.ownm (by repeat first | with_reducible assumption | exact List.Mem.head _ | refine List.Mem.tail _ ?_ | refine List.mem_append_right _ ?_) (by first | rfl | with_reducible assumption | omega | simp [*]) | exact RdF.mono (by with_reducible assumption) (by (try simp only [List.cons_append, List.nil_append]); repeat' first | with_reducible exact eR | with_reducible exact eA | with_reducible refine xA (by repeat first | with_reducible exact lH | with_reducible apply lT | with_reducible apply lL) ?_ | with_reducible refine xC (by repeat first | exact pH | with_reducible apply pT | with_reducible apply pL) ?_ | with_reducible assumption | with_reducible refine eS ?_ | with_reducible refine eL ?_ | exact eR)) (by first | with_reducible assumption | omega) ?_
      refine asg rfl ?_
      refine rN ?_
      refine qN ?_
      refine cS (cR ?_)
      refine mv rfl ?_
      refine mv rfl ?_
      refine mv rfl ?_
      refine rV (fi := []) (ca := []) rfl rfl rfl rfl (c_SameNumber _ _ _) ?_
      rintro _ _ ⟨rfl, rfl⟩
      refine ⟨fun _ => eR, ?_⟩
      refine uNot rfl ?_
      refine rN ?_
      refine qN ?_
      refine cC rfl (fun c3 => ?_) (fun c3 => ?_)
      · replace c3 := not_t c3
        have c3' := c3; try simp only [inB_iff, Bool.and_eq_true, decide_eq_true_eq, decide_eq_false_iff_not, beq_iff_eq, beq_eq_false_iff_ne, bne_iff_ne, bne_eq_false_iff_eq, ne_eq] at c3'
        refine cS (cR ?_)
        refine asg rfl ?_
        refine rN ?_
        refine qN ?_
        refine cE ?_
        refine qBE ?_
        refine qE ?_
        refine qL1E ?_
        refine qBE ?_
        refine qE ?_
        refine kE rfl rfl  ?_
        first | (exfalso; contradiction) | exact ⟨_, ⟨by rw [sameL_no (by omega) c3], rfl⟩, (by (try simp only [List.cons_append, List.nil_append]); repeat' first | with_reducible exact eR | with_reducible exact eA | with_reducible refine xA (by repeat first | with_reducible exact lH | with_reducible apply lT | with_reducible apply lL) ?_ | with_reducible refine xC (by repeat first | exact pH | with_reducible apply pT | with_reducible apply pL) ?_ | with_reducible assumption | with_reducible refine eS ?_ | with_reducible refine eL ?_ | exact eR)⟩ | (exfalso; first | contradiction | omega | (simp_all; done) | (simp_all; omega))
      · replace c3 := not_f c3
        have c3' := c3; try simp only [inB_iff, Bool.and_eq_true, decide_eq_true_eq, decide_eq_false_iff_not, beq_iff_eq, beq_eq_false_iff_ne, bne_iff_ne, bne_eq_false_iff_eq, ne_eq] at c3'
        refine cK ?_
        refine qBN ?_
        refine qN ?_
        refine cR ?_
        first | refine rAn (b := 1) rfl rfl (by omega) ?_ | refine rA rfl rfl (by omega) (by omega) ?_ | refine bAdd rfl rfl ?_
        refine mv rfl ?_
        refine rN ?_
        refine qL1 (k + 1) ?_ (by omega) (by repeat first | exact Sub.nil _ | refine Sub.cons rfl ?_) (by (try simp only [List.cons_append, List.nil_append]); repeat' first | with_reducible exact eR | with_reducible exact eA | with_reducible refine xA (by repeat first | with_reducible exact lH | with_reducible apply lT | with_reducible apply lL) ?_ | with_reducible refine xC (by repeat first | exact pH | with_reducible apply pT | with_reducible apply pL) ?_ | with_reducible assumption | with_reducible refine eS ?_ | with_reducible refine eL ?_ | exact eR)
        refine ⟨by omega, fun j hj2 => ?_⟩
        by_cases e : j = k
        · subst e; exact c3
        · exact hj j (by omega)
    · have c2' := c2; try simp only [inB_iff, Bool.and_eq_true, decide_eq_true_eq, decide_eq_false_iff_not, beq_iff_eq, beq_eq_false_iff_ne, bne_iff_ne, bne_eq_false_iff_eq, ne_eq] at c2'
      refine cX ?_
      refine qX ?_
      refine qL1X ?_
      refine qBX ?_
      refine qN ?_
      refine cS (cR ?_)
      refine asg rfl ?_
      refine rN ?_
      refine qN ?_
      refine cE ?_
      refine kE rfl rfl  ?_
      first | (exfalso; contradiction) | exact ⟨_, ⟨by rw [sameL_yes c1 (fun j hj2 => hj j (by omega))], rfl⟩, (by (try simp only [List.cons_append, List.nil_append]); repeat' first | with_reducible exact eR | with_reducible exact eA | with_reducible refine xA (by repeat first | with_reducible exact lH | with_reducible apply lT | with_reducible apply lL) ?_ | with_reducible refine xC (by repeat first | exact pH | with_reducible apply pT | with_reducible apply pL) ?_ | with_reducible assumption | with_reducible refine eS ?_ | with_reducible refine eL ?_ | exact eR)⟩ | (exfalso; first | contradiction | omega | (simp_all; done) | (simp_all; omega))
-- @reg impl.sameList : c_sameList _ _ _ _ _ _ _ _ _ @RD@ @RD@ @BD@ @BD@
theorem c_sameList (a a' : Option Addr) (n n' c c' : Nat) (xs ys : List Nat) (M : Mem) (h : RdF M a n xs) (h' : RdF M a' n' ys) (hn : n ≤ 1073741824) (hn' : n' ≤ 1073741824) :
    ACall Try.prog 72 [.slice a n c, .slice a' n' c'] M fun v M' => v = .bool (sameL xs ys) ∧ M' = M := by
  refine acall_of_awp Try.func72 rfl Try.ntmps72 rfl ?_
  refine cS (cR ?_)
  refine asg rfl ?_
  refine rN ?_
  refine qN ?_
  refine cS (cR ?_)
  refine mv rfl ?_
  refine mv rfl ?_
  refine rCq rfl (c_equalFunc _ _ _ _ _ _ _ _ _ (by first | with_reducible assumption | exact RdF.mono (OwF.rdF (by with_reducible assumption)) (by (try simp only [List.cons_append, List.nil_append]); repeat' first | with_reducible exact eR | with_reducible exact eA | with_reducible refine xA (by repeat first | with_reducible exact lH | with_reducible apply lT | with_reducible apply lL) ?_ | with_reducible refine xC (by repeat first | exact pH | with_reducible apply pT | with_reducible apply pL) ?_ | with_reducible assumption | with_reducible refine eS ?_ | with_reducible refine eL ?_ | exact eR) | exact RdF.ownm (by repeat first | with_reducible assumption | exact List.Mem.head _ | refine List.Mem.tail _ ?_ | refine List.mem_append_right _ ?_) (by first | rfl | with_reducible assumption | omega | simp [*]) | exact RdF.mono (by with_reducible assumption) (by (try simp only [List.cons_append, List.nil_append]); repeat' first | with_reducible exact eR | with_reducible exact eA | with_reducible refine xA (by repeat first | with_reducible exact lH | with_reducible apply lT | with_reducible apply lL) ?_ | with_reducible refine xC (by repeat first | exact pH | with_reducible apply pT | with_reducible apply pL) ?_ | with_reducible assumption | with_reducible refine eS ?_ | with_reducible refine eL ?_ | exact eR)) (by first | with_reducible assumption | exact RdF.mono (OwF.rdF (by with_reducible assumption)) (by (try simp only [List.cons_append, List.nil_append]); repeat' first | with_reducible exact eR | with_reducible exact eA | with_reducible refine xA (by repeat first | with_reducible exact lH | with_reducible apply lT | with_reducible apply lL) ?_ | with_reducible refine xC (by repeat first | exact pH | with_reducible apply pT | with_reducible apply pL) ?_ | with_reducible assumption | with_reducible refine eS ?_ | with_reducible refine eL ?_ | exact eR) | exact RdF.ownm (by repeat first | with_reducible assumption | exact List.Mem.head _ | refine List.Mem.tail _ ?_ | refine List.mem_append_right _ ?_) (by first | rfl | with_reducible assumption | omega | simp [*]) | exact RdF.mono (by with_reducible assumption) (by (try simp only [List.cons_append, List.nil_append]); repeat' first | with_reducible exact eR | with_reducible exact eA | with_reducible refine xA (by repeat first | with_reducible exact lH | with_reducible apply lT | with_reducible apply lL) ?_ | with_reducible refine xC (by repeat first | exact pH | with_reducible apply pT | with_reducible apply pL) ?_ | with_reducible assumption | with_reducible refine eS ?_ | with_reducible refine eL ?_ | exact eR)) (by first | with_reducible assumption | omega | (simp only [Bool.and_eq_true, inB_iff] at *; omega)) (by first | with_reducible assumption | omega | (simp only [Bool.and_eq_true, inB_iff] at *; omega))) ?_
  refine asg rfl ?_
  refine rN ?_
  refine qN ?_
  refine cE ?_
  refine kE rfl rfl  ?_
  first | (exfalso; contradiction) | exact ⟨_, ⟨rfl, rfl⟩, (by (try simp only [List.cons_append, List.nil_append]); repeat' first | with_reducible exact eR | with_reducible exact eA | with_reducible refine xA (by repeat first | with_reducible exact lH | with_reducible apply lT | with_reducible apply lL) ?_ | with_reducible refine xC (by repeat first | exact pH | with_reducible apply pT | with_reducible apply pL) ?_ | with_reducible assumption | with_reducible refine eS ?_ | with_reducible refine eL ?_ | exact eR)⟩ | exact ⟨_, ⟨by first | (simp_all; done) | (simp_all; intros; omega), rfl⟩, (by (try simp only [List.cons_append, List.nil_append]); repeat' first | with_reducible exact eR | with_reducible exact eA | with_reducible refine xA (by repeat first | with_reducible exact lH | with_reducible apply lT | with_reducible apply lL) ?_ | with_reducible refine xC (by repeat first | exact pH | with_reducible apply pT | with_reducible apply pL) ?_ | with_reducible assumption | with_reducible refine eS ?_ | with_reducible refine eL ?_ | exact eR)⟩ | (exfalso; first | contradiction | omega | (simp_all; done) | (simp_all; omega))
-- @reg spec.l01SameAll : c_l01SameAll _ _ _ _ _ _ _ _ _ @RD@ @RD@ @BD@ @BD@
theorem c_l01SameAll (a a' : Option Addr) (n n' c c' : Nat) (xs ys : List Nat) (M : Mem) (h : RdF M a n xs) (h' : RdF M a' n' ys) (hn : n ≤ 1073741824) (hn' : n' ≤ 1073741824) :
    ACall Try.prog 71 [.slice a n c, .slice a' n' c'] M fun v M' => v = .bool (sameL xs ys) ∧ M' = M := by
  obtain ⟨rfl, _⟩ := id h
  obtain ⟨rfl, _⟩ := id h'
  refine acall_of_awp Try.func71 rfl Try.ntmps71 rfl ?_
  refine cS (cR ?_)
  refine asg rfl ?_
  refine rN ?_
  refine qN ?_
  refine cS ?_
  refine cS (cR ?_)
  refine mv rfl ?_
  refine ln rfl ?_
  refine mv rfl ?_
  refine ln rfl ?_
  refine bNeq rfl rfl ?_
  refine rN ?_
  refine qN ?_
  refine cC rfl (fun c1 => ?_) (fun c1 => ?_)
  · have c1' := c1; try simp only [inB_iff, Bool.and_eq_true, decide_eq_true_eq, decide_eq_false_iff_not, beq_iff_eq, beq_eq_false_iff_ne, bne_iff_ne, bne_eq_false_iff_eq, ne_eq] at c1'
    refine cS (cR ?_)
    refine asg rfl ?_
    refine rN ?_
    refine qN ?_
    refine cE ?_
    refine qE ?_
    refine kE rfl rfl  ?_
    first | (exfalso; contradiction) | exact ⟨_, ⟨by rw [sameL_len c1], rfl⟩, (by (try simp only [List.cons_append, List.nil_append]); repeat' first | with_reducible exact eR | with_reducible exact eA | with_reducible refine xA (by repeat first | with_reducible exact lH | with_reducible apply lT | with_reducible apply lL) ?_ | with_reducible refine xC (by repeat first | exact pH | with_reducible apply pT | with_reducible apply pL) ?_ | with_reducible assumption | with_reducible refine eS ?_ | with_reducible refine eL ?_ | exact eR)⟩ | (exfalso; first | contradiction | omega | (simp_all; done) | (simp_all; omega))
  · have c1' := c1; try simp only [inB_iff, Bool.and_eq_true, decide_eq_true_eq, decide_eq_false_iff_not, beq_iff_eq, beq_eq_false_iff_ne, bne_iff_ne, bne_eq_false_iff_eq, ne_eq] at c1'
    refine cK ?_
    refine qN ?_
    refine cS ?_
    refine cS (cR ?_)
    refine asg rfl ?_
    refine rN ?_
    refine qN ?_
    refine cB ?_
    refine cL1 (fun (k : Nat) => [(5, .int .i64 (k : Nat))]) [(0, _), (1, _)] (fun (k : Nat) => M) (fun (k : Nat) => xs.length - k) (fun (k : Nat) => k ≤ xs.length ∧ ∀ j, j < k → sameN (xs.getD j 0) (ys.getD j 0) = true) (0) (by repeat first | exact Sub.nil _ | refine Sub.cons rfl ?_) (by (try simp only [List.cons_append, List.nil_append]); repeat' first | with_reducible exact eR | with_reducible exact eA | with_reducible refine xA (by repeat first | with_reducible exact lH | with_reducible apply lT | with_reducible apply lL) ?_ | with_reducible refine xC (by repeat first | exact pH | with_reducible apply pT | with_reducible apply pL) ?_ | with_reducible assumption | with_reducible refine eS ?_ | with_reducible refine eL ?_ | exact eR) (by exact ⟨Nat.zero_le _, fun j hj => by omega⟩) ?_
    rintro k ⟨hk, hj⟩
    refine wT (T' := [(5, _), (0, _), (1, _)]) rfl ?_
    refine cS ?_
    refine cS (cR ?_)
    refine mv rfl ?_
    refine mv rfl ?_
    refine ln rfl ?_
    refine bLss rfl rfl ?_
    refine rN ?_
    refine qN ?_
    refine cC rfl (fun c2 => ?_) (fun c2 => ?_)
    · have c2' := c2; try simp only [inB_iff, Bool.and_eq_true, decide_eq_true_eq, decide_eq_false_iff_not, beq_iff_eq, beq_eq_false_iff_ne, bne_iff_ne, bne_eq_false_iff_eq, ne_eq] at c2'
      refine cK ?_
      refine qN ?_
      refine cS ?_
      refine cB ?_
      refine cS ?_
      refine cD [(0, true), (1, true), (2, true), (3, true), (4, true), (5, false), (6, false), (7, false), (8, false), (9, false)] (by repeat first | exact fineT | exact fineL | exact fineLQ1 | exact fineLQ2 | exact fineLQ3 | exact fineLQ4 | exact fineLQ5 | exact fineLQ6 | refine fineB ?_) (by kernel_rfl) ?_
      simp only [pick, List.getElem?_toArray, List.getElem?_cons_zero, List.getElem?_cons_succ]
      refine mv rfl ?_
      refine mv rfl ?_
      first
        | refine ixN rfl rfl (by first | exact AOk.own | with_reducible assumption | exact RdF.aok (by with_reducible assumption) | exact RdF.aok (OwF.rdF (by with_reducible assumption))) (by first | with_reducible assumption | omega) ?_
        | refine ixI rfl rfl (by first | exact AOk.own | with_reducible assumption | exact RdF.aok (by with_reducible assumption) | exact RdF.aok (OwF.rdF (by with_reducible assumption))) (by omega) (by omega) ?_
      first
        | refine ldF rfl (by first | with_reducible assumption | exact RdF.mono (OwF.rdF (by with_reducible assumption)) (by (try simp only [List.cons_append, List.nil_append]); repeat' first | with_reducible exact eR | with_reducible exact eA | with_reducible refine xA (by repeat first | with_reducible exact lH | with_reducible apply lT | with_reducible apply lL) ?_ | with_reducible refine xC (by repeat first | exact pH | with_reducible apply pT | with_reducible apply pL) ?_ | with_reducible assumption | with_reducible refine eS ?_ | with_reducible refine eL ?_ | exact eR) | exact RdF.ownm (by repeat first | with_reducible assumption | exact List.Mem.head _ | refine List.Mem.tail _ ?_ | refine List.mem_append_right _ ?_) (by first | rfl | with_reducible assumption | omega | simp [*]) | exact RdF.mono (by with_reducible assumption) (by (try simp only [List.cons_append, List.nil_append]); repeat' first | with_reducible exact eR | with_reducible exact eA | with_reducible refine xA (by repeat first | with_reducible exact lH | with_reducible apply lT | with_reducible apply lL) ?_ | with_reducible refine xC (by repeat first | exact pH | with_reducible apply pT | with_reducible apply pL) ?_ | with_reducible assumption | with_reducible refine eS ?_ | with_reducible refine eL ?_ | exact eR)) (by first | with_reducible assumption | omega) ?_
      refine mv rfl ?_
      refine mv rfl ?_
      first
        | refine ixN rfl rfl (by first | exact AOk.own | with_reducible assumption | exact RdF.aok (by with_reducible assumption) | exact RdF.aok (OwF.rdF (by with_reducible assumption))) (by first | with_reducible assumption | omega) ?_
        | refine ixI rfl rfl (by first | exact AOk.own | with_reducible assumption | exact RdF.aok (by with_reducible assumption) | exact RdF.aok (OwF.rdF (by with_reducible assumption))) (by omega) (by omega) ?_
      first
        | refine ldF rfl (by first | with_reducible assumption | exact RdF.mono (OwF.rdF (by with_reducible assumption)) (by (try simp only [List.cons_append, List.nil_append]); repeat' first | with_reducible exact eR | with_reducible exact eA | with_reducible refine xA (by repeat first | with_reducible exact lH | with_reducible apply lT | with_reducible apply lL) ?_ | with_reducible refine xC (by repeat first | exact pH | with_reducible apply pT | with_reducible apply pL) ?_ | with_reducible assumption | with_reducible refine eS ?_ | with_reducible refine eL ?_ | exact eR) | exact RdF.ownm (by repeat first | with_reducible assumption | exact List.Mem.head _ | refine List.Mem.tail _ ?_ | refine List.mem_append_right _ ?_) (by first | rfl | with_reducible assumption | omega | simp [*]) | exact RdF.mono (by with_reducible assumption) (by (try simp only [List.cons_append, List.nil_append]); repeat' first | with_reducible exact eR | with_reducible exact eA | with_reducible refine xA (by repeat first | with_reducible exact lH | with_reducible apply lT | with_reducible apply lL) ?_ | with_reducible refine xC (by repeat first | exact pH | with_reducible apply pT | with_reducible apply pL) ?_ | with_reducible assumption | with_reducible refine eS ?_ | with_reducible refine eL ?_ | exact eR)) (by first | with_reducible assumption | omega) ?_
      refine rCq rfl (c_l01Same _ _ _) ?_
      refine uNot rfl ?_
      refine rN ?_
      refine qN ?_
      refine cC rfl (fun c3 => ?_) (fun c3 => ?_)
      · replace c3 := not_t c3
        have c3' := c3; try simp only [inB_iff, Bool.and_eq_true, decide_eq_true_eq, decide_eq_false_iff_not, beq_iff_eq, beq_eq_false_iff_ne, bne_iff_ne, bne_eq_false_iff_eq, ne_eq] at c3'
        refine cS (cR ?_)
        refine asg rfl ?_
        refine rN ?_
        refine qN ?_
        refine cE ?_
        refine qBE ?_
        refine qE ?_
        refine qL1E ?_
        refine qBE ?_
        refine qE ?_
        refine kE rfl rfl  ?_
        first | (exfalso; contradiction) | exact ⟨_, ⟨by rw [sameL_no (by omega) c3], rfl⟩, (by (try simp only [List.cons_append, List.nil_append]); repeat' first | with_reducible exact eR | with_reducible exact eA | with_reducible refine xA (by repeat first | with_reducible exact lH | with_reducible apply lT | with_reducible apply lL) ?_ | with_reducible refine xC (by repeat first | exact pH | with_reducible apply pT | with_reducible apply pL) ?_ | with_reducible assumption | with_reducible refine eS ?_ | with_reducible refine eL ?_ | exact eR)⟩ | (exfalso; first | contradiction | omega | (simp_all; done) | (simp_all; omega))
      · replace c3 := not_f c3
        have c3' := c3; try simp only [inB_iff, Bool.and_eq_true, decide_eq_true_eq, decide_eq_false_iff_not, beq_iff_eq, beq_eq_false_iff_ne, bne_iff_ne, bne_eq_false_iff_eq, ne_eq] at c3'
        refine cK ?_
        refine qBN ?_
        refine qN ?_
        refine cR ?_
        refine mv rfl ?_
        first | refine rAn (b := 1) rfl rfl (by omega) ?_ | refine rA rfl rfl (by omega) (by omega) ?_ | refine bAdd rfl rfl ?_
        refine asg rfl ?_
        refine rN ?_
        refine qL1 (k + 1) ?_ (by omega) (by repeat first | exact Sub.nil _ | refine Sub.cons rfl ?_) (by (try simp only [List.cons_append, List.nil_append]); repeat' first | with_reducible exact eR | with_reducible exact eA | with_reducible refine xA (by repeat first | with_reducible exact lH | with_reducible apply lT | with_reducible apply lL) ?_ | with_reducible refine xC (by repeat first | exact pH | with_reducible apply pT | with_reducible apply pL) ?_ | with_reducible assumption | with_reducible refine eS ?_ | with_reducible refine eL ?_ | exact eR)
        refine ⟨by omega, fun j hj2 => ?_⟩
        by_cases e : j = k
        · subst e; exact c3
        · exact hj j (by omega)
    · have c2' := c2; try simp only [inB_iff, Bool.and_eq_true, decide_eq_true_eq, decide_eq_false_iff_not, beq_iff_eq, beq_eq_false_iff_ne, bne_iff_ne, bne_eq_false_iff_eq, ne_eq] at c2'
      refine cX ?_
      refine qX ?_
      refine qL1X ?_
      refine qBX ?_
      refine qN ?_
      refine cS (cR ?_)
      refine asg rfl ?_
      refine rN ?_
      refine qN ?_
      refine cE ?_
      refine kE rfl rfl  ?_
      first | (exfalso; contradiction) | exact ⟨_, ⟨by rw [sameL_yes c1 (fun j hj2 => hj j (by omega))], rfl⟩, (by (try simp only [List.cons_append, List.nil_append]); repeat' first | with_reducible exact eR | with_reducible exact eA | with_reducible refine xA (by repeat first | with_reducible exact lH | with_reducible apply lT | with_reducible apply lL) ?_ | with_reducible refine xC (by repeat first | exact pH | with_reducible apply pT | with_reducible apply pL) ?_ | with_reducible assumption | with_reducible refine eS ?_ | with_reducible refine eL ?_ | exact eR)⟩ | (exfalso; first | contradiction | omega | (simp_all; done) | (simp_all; omega))
def ssB (w d w' d' : Int) (xs ys : List Nat) : Bool := (w == w') && (d == d') && sameL xs ys
theorem c_implSameSection (w d w' d' : Int) (a a' : Option Addr) (n n' c c' : Nat) (xs ys : List Nat) (M : Mem) (h : RdF M a n xs) (h' : RdF M a' n' ys) (hn : n ≤ 1073741824) (hn' : n' ≤ 1073741824) :
    ACall Try.prog 34 [.agg #[.int .i64 w, .int .i64 d, .slice a n c], .agg #[.int .i64 w', .int .i64 d', .slice a' n' c']] M fun v M' => v = .bool (ssB w d w' d' xs ys) ∧ M' = M := by
  refine acall_of_awp Try.func34 rfl Try.ntmps34 rfl ?_
  refine cS (cR ?_)
  first | (refine rXa rfl ?_; intro bk1) | (refine rX rfl rfl ?_; intro bk1)
  first | (refine rXa rfl ?_; intro bk2) | (refine rX rfl rfl ?_; intro bk2)
  refine asg rfl ?_
  refine rN ?_
  refine qN ?_
  refine cS (cR ?_)
  refine fA rfl ?_
  refine rL rfl (by repeat first | with_reducible assumption | exact List.Mem.head _ | refine List.Mem.tail _ ?_ | refine List.mem_append_right _ ?_) rfl rfl ?_
  refine fA rfl ?_
  refine rL rfl (by repeat first | with_reducible assumption | exact List.Mem.head _ | refine List.Mem.tail _ ?_ | refine List.mem_append_right _ ?_) rfl rfl ?_
  refine bEql rfl rfl ?_
  refine mv rfl ?_
  refine gC rfl rfl (fun c1 => ?_) (fun c1 => ?_)
  · have c1' := c1; try simp only [inB_iff, Bool.and_eq_true, decide_eq_true_eq, decide_eq_false_iff_not, beq_iff_eq, beq_eq_false_iff_ne, bne_iff_ne, bne_eq_false_iff_eq, ne_eq] at c1'
    refine gG rfl rfl c1 ?_
    refine fA rfl ?_
    refine gG rfl rfl c1 ?_
    refine rL rfl (by repeat first | with_reducible assumption | exact List.Mem.head _ | refine List.Mem.tail _ ?_ | refine List.mem_append_right _ ?_) rfl rfl ?_
    refine gG rfl rfl c1 ?_
    refine fA rfl ?_
    refine gG rfl rfl c1 ?_
    refine rL rfl (by repeat first | with_reducible assumption | exact List.Mem.head _ | refine List.Mem.tail _ ?_ | refine List.mem_append_right _ ?_) rfl rfl ?_
    refine gG rfl rfl c1 ?_
    refine bEql rfl rfl ?_
    refine kT rfl c1 rfl ?_
    refine mv rfl ?_
    refine gC rfl rfl (fun c2 => ?_) (fun c2 => ?_)
    · have c2' := c2; try simp only [inB_iff, Bool.and_eq_true, decide_eq_true_eq, decide_eq_false_iff_not, beq_iff_eq, beq_eq_false_iff_ne, bne_iff_ne, bne_eq_false_iff_eq, ne_eq] at c2'
      refine gG rfl rfl c2 ?_
      refine fA rfl ?_
      refine gG rfl rfl c2 ?_
      refine rL rfl (by repeat first | with_reducible assumption | exact List.Mem.head _ | refine List.Mem.tail _ ?_ | refine List.mem_append_right _ ?_) rfl rfl ?_
      refine gG rfl rfl c2 ?_
      refine fA rfl ?_
      refine gG rfl rfl c2 ?_
      refine rL rfl (by repeat first | with_reducible assumption | exact List.Mem.head _ | refine List.Mem.tail _ ?_ | refine List.mem_append_right _ ?_) rfl rfl ?_
      refine gG rfl rfl c2 ?_
      refine rCq rfl (c_sameList _ _ _ _ _ _ _ _ _ (by first | with_reducible assumption | exact RdF.mono (OwF.rdF (by with_reducible assumption)) (by (try simp only [List.cons_append, List.nil_append]); repeat' first | with_reducible exact eR | with_reducible exact eA | with_reducible refine xA (by repeat first | with_reducible exact lH | with_reducible apply lT | with_reducible apply lL) ?_ | with_reducible refine xC (by repeat first | exact pH | with_reducible apply pT | with_reducible apply pL) ?_ | with_reducible assumption | with_reducible refine eS ?_ | with_reducible refine eL ?_ | exact eR) | exact RdF.ownm (by repeat first | with_reducible assumption | exact List.Mem.head _ | refine List.Mem.tail _ ?_ | refine List.mem_append_right _ ?_) (by first | rfl | with_reducible assumption | omega | simp [*]) | exact RdF.mono (by with_reducible assumption) (by (try simp only [List.cons_append, List.nil_append]); repeat' first | with_reducible exact eR | with_reducible exact eA | with_reducible refine xA (by repeat first | with_reducible exact lH | with_reducible apply lT | with_reducible apply lL) ?_ | with_reducible refine xC (by repeat first | exact pH | with_reducible apply pT | with_reducible apply pL) ?_ | with_reducible assumption | with_reducible refine eS ?_ | with_reducible refine eL ?_ | exact eR)) (by first | with_reducible assumption | exact RdF.mono (OwF.rdF (by with_reducible assumption)) (by (try simp only [List.cons_append, List.nil_append]); repeat' first | with_reducible exact eR | with_reducible exact eA | with_reducible refine xA (by repeat first | with_reducible exact lH | with_reducible apply lT | with_reducible apply lL) ?_ | with_reducible refine xC (by repeat first | exact pH | with_reducible apply pT | with_reducible apply pL) ?_ | with_reducible assumption | with_reducible refine eS ?_ | with_reducible refine eL ?_ | exact eR) | exact RdF.ownm (by repeat first | with_reducible assumption | exact List.Mem.head _ | refine List.Mem.tail _ ?_ | refine List.mem_append_right _ ?_) (by first | rfl | with_reducible assumption | omega | simp [*]) | exact RdF.mono (by with_reducible assumption) (by (try simp only [List.cons_append, List.nil_append]); repeat' first | with_reducible exact eR | with_reducible exact eA | with_reducible refine xA (by repeat first | with_reducible exact lH | with_reducible apply lT | with_reducible apply lL) ?_ | with_reducible refine xC (by repeat first | exact pH | with_reducible apply pT | with_reducible apply pL) ?_ | with_reducible assumption | with_reducible refine eS ?_ | with_reducible refine eL ?_ | exact eR)) (by first | with_reducible assumption | omega | (simp only [Bool.and_eq_true, inB_iff] at *; omega)) (by first | with_reducible assumption | omega | (simp only [Bool.and_eq_true, inB_iff] at *; omega))) ?_
      refine kT rfl c2 rfl ?_
      refine asg rfl ?_
      refine rN ?_
      refine qN ?_
      refine cE ?_
      refine kE rfl rfl  ?_
      first | (exfalso; contradiction) | exact ⟨_, ⟨by (simp [ssB, *]; done), rfl⟩, (by (try simp only [List.cons_append, List.nil_append]); repeat' first | with_reducible exact eR | with_reducible exact eA | with_reducible refine xA (by repeat first | with_reducible exact lH | with_reducible apply lT | with_reducible apply lL) ?_ | with_reducible refine xC (by repeat first | exact pH | with_reducible apply pT | with_reducible apply pL) ?_ | with_reducible assumption | with_reducible refine eS ?_ | with_reducible refine eL ?_ | exact eR)⟩ | (exfalso; first | contradiction | omega | (simp_all; done) | (simp_all; omega))
    · have c2' := c2; try simp only [inB_iff, Bool.and_eq_true, decide_eq_true_eq, decide_eq_false_iff_not, beq_iff_eq, beq_eq_false_iff_ne, bne_iff_ne, bne_eq_false_iff_eq, ne_eq] at c2'
      refine gS rfl rfl c2 ?_
      refine gS rfl rfl c2 ?_
      refine gS rfl rfl c2 ?_
      refine gS rfl rfl c2 ?_
      refine gS rfl rfl c2 ?_
      refine kF rfl c2 rfl ?_
      refine asg rfl ?_
      refine rN ?_
      refine qN ?_
      refine cE ?_
      refine kE rfl rfl  ?_
      first | (exfalso; contradiction) | exact ⟨_, ⟨by (simp [ssB, *]; done), rfl⟩, (by (try simp only [List.cons_append, List.nil_append]); repeat' first | with_reducible exact eR | with_reducible exact eA | with_reducible refine xA (by repeat first | with_reducible exact lH | with_reducible apply lT | with_reducible apply lL) ?_ | with_reducible refine xC (by repeat first | exact pH | with_reducible apply pT | with_reducible apply pL) ?_ | with_reducible assumption | with_reducible refine eS ?_ | with_reducible refine eL ?_ | exact eR)⟩ | (exfalso; first | contradiction | omega | (simp_all; done) | (simp_all; omega))
  · have c1' := c1; try simp only [inB_iff, Bool.and_eq_true, decide_eq_true_eq, decide_eq_false_iff_not, beq_iff_eq, beq_eq_false_iff_ne, bne_iff_ne, bne_eq_false_iff_eq, ne_eq] at c1'
    refine gS rfl rfl c1 ?_
    refine gS rfl rfl c1 ?_
    refine gS rfl rfl c1 ?_
    refine gS rfl rfl c1 ?_
    refine gS rfl rfl c1 ?_
    refine kF rfl c1 rfl ?_
    refine mv rfl ?_
    refine gS rfl rfl rfl ?_
    refine gS rfl rfl rfl ?_
    refine gS rfl rfl rfl ?_
    refine gS rfl rfl rfl ?_
    refine gS rfl rfl rfl ?_
    refine kF rfl rfl rfl ?_
    refine asg rfl ?_
    refine rN ?_
    refine qN ?_
    refine cE ?_
    refine kE rfl rfl  ?_
    first | (exfalso; contradiction) | exact ⟨_, ⟨by (simp [ssB, *]; done), rfl⟩, (by (try simp only [List.cons_append, List.nil_append]); repeat' first | with_reducible exact eR | with_reducible exact eA | with_reducible refine xA (by repeat first | with_reducible exact lH | with_reducible apply lT | with_reducible apply lL) ?_ | with_reducible refine xC (by repeat first | exact pH | with_reducible apply pT | with_reducible apply pL) ?_ | with_reducible assumption | with_reducible refine eS ?_ | with_reducible refine eL ?_ | exact eR)⟩ | (exfalso; first | contradiction | omega | (simp_all; done) | (simp_all; omega))
theorem c_specSameSection (w d w' d' : Int) (a a' : Option Addr) (n n' c c' : Nat) (xs ys : List Nat) (M : Mem) (h : RdF M a n xs) (h' : RdF M a' n' ys) (hn : n ≤ 1073741824) (hn' : n' ≤ 1073741824) :
    ACall Try.prog 33 [.agg #[.int .i64 w, .int .i64 d, .slice a n c], .agg #[.int .i64 w', .int .i64 d', .slice a' n' c']] M fun v M' => v = .bool (ssB w d w' d' xs ys) ∧ M' = M := by
  refine acall_of_awp Try.func33 rfl Try.ntmps33 rfl ?_
  refine cS (cR ?_)
  first | (refine rXa rfl ?_; intro bk1) | (refine rX rfl rfl ?_; intro bk1)
  first | (refine rXa rfl ?_; intro bk2) | (refine rX rfl rfl ?_; intro bk2)
  refine asg rfl ?_
  refine rN ?_
  refine qN ?_
  refine cS (cR ?_)
  refine fA rfl ?_
  refine rL rfl (by repeat first | with_reducible assumption | exact List.Mem.head _ | refine List.Mem.tail _ ?_ | refine List.mem_append_right _ ?_) rfl rfl ?_
  refine fA rfl ?_
  refine rL rfl (by repeat first | with_reducible assumption | exact List.Mem.head _ | refine List.Mem.tail _ ?_ | refine List.mem_append_right _ ?_) rfl rfl ?_
  refine bEql rfl rfl ?_
  refine mv rfl ?_
  refine gC rfl rfl (fun c1 => ?_) (fun c1 => ?_)
  · have c1' := c1; try simp only [inB_iff, Bool.and_eq_true, decide_eq_true_eq, decide_eq_false_iff_not, beq_iff_eq, beq_eq_false_iff_ne, bne_iff_ne, bne_eq_false_iff_eq, ne_eq] at c1'
    refine gG rfl rfl c1 ?_
    refine fA rfl ?_
    refine gG rfl rfl c1 ?_
    refine rL rfl (by repeat first | with_reducible assumption | exact List.Mem.head _ | refine List.Mem.tail _ ?_ | refine List.mem_append_right _ ?_) rfl rfl ?_
    refine gG rfl rfl c1 ?_
    refine fA rfl ?_
    refine gG rfl rfl c1 ?_
    refine rL rfl (by repeat first | with_reducible assumption | exact List.Mem.head _ | refine List.Mem.tail _ ?_ | refine List.mem_append_right _ ?_) rfl rfl ?_
    refine gG rfl rfl c1 ?_
    refine bEql rfl rfl ?_
    refine kT rfl c1 rfl ?_
    refine mv rfl ?_
    refine gC rfl rfl (fun c2 => ?_) (fun c2 => ?_)
    · have c2' := c2; try simp only [inB_iff, Bool.and_eq_true, decide_eq_true_eq, decide_eq_false_iff_not, beq_iff_eq, beq_eq_false_iff_ne, bne_iff_ne, bne_eq_false_iff_eq, ne_eq] at c2'
      refine gG rfl rfl c2 ?_
      refine fA rfl ?_
      refine gG rfl rfl c2 ?_
      refine rL rfl (by repeat first | with_reducible assumption | exact List.Mem.head _ | refine List.Mem.tail _ ?_ | refine List.mem_append_right _ ?_) rfl rfl ?_
      refine gG rfl rfl c2 ?_
      refine fA rfl ?_
      refine gG rfl rfl c2 ?_
      refine rL rfl (by repeat first | with_reducible assumption | exact List.Mem.head _ | refine List.Mem.tail _ ?_ | refine List.mem_append_right _ ?_) rfl rfl ?_
      refine gG rfl rfl c2 ?_
      refine rCq rfl (c_l01SameAll _ _ _ _ _ _ _ _ _ (by first | with_reducible assumption | exact RdF.mono (OwF.rdF (by with_reducible assumption)) (by (try simp only [List.cons_append, List.nil_append]); repeat' first | with_reducible exact eR | with_reducible exact eA | with_reducible refine xA (by repeat first | with_reducible exact lH | with_reducible apply lT | with_reducible apply lL) ?_ | with_reducible refine xC (by repeat first | exact pH | with_reducible apply pT | with_reducible apply pL) ?_ | with_reducible assumption | with_reducible refine eS ?_ | with_reducible refine eL ?_ | exact eR) | exact RdF.ownm (by repeat first | with_reducible assumption | exact List.Mem.head _ | refine List.Mem.tail _ ?_ | refine List.mem_append_right _ ?_) (by first | rfl | with_reducible assumption | omega | simp [*]) | exact RdF.mono (by with_reducible assumption) (by (try simp only [List.cons_append, List.nil_append]); repeat' first | with_reducible exact eR | with_reducible exact eA | with_reducible refine xA (by repeat first | with_reducible exact lH | with_reducible apply lT | with_reducible apply lL) ?_ | with_reducible refine xC (by repeat first | exact pH | with_reducible apply pT | with_reducible apply pL) ?_ | with_reducible assumption | with_reducible refine eS ?_ | with_reducible refine eL ?_ | exact eR)) (by first | with_reducible assumption | exact RdF.mono (OwF.rdF (by with_reducible assumption)) (by (try simp only [List.cons_append, List.nil_append]); repeat' first | with_reducible exact eR | with_reducible exact eA | with_reducible refine xA (by repeat first | with_reducible exact lH | with_reducible apply lT | with_reducible apply lL) ?_ | with_reducible refine xC (by repeat first | exact pH | with_reducible apply pT | with_reducible apply pL) ?_ | with_reducible assumption | with_reducible refine eS ?_ | with_reducible refine eL ?_ | exact eR) | exact RdF.ownm (by repeat first | with_reducible assumption | exact List.Mem.head _ | refine List.Mem.tail _ ?_ | refine List.mem_append_right _ ?_) (by first | rfl | with_reducible assumption | omega | simp [*]) | exact RdF.mono (by with_reducible assumption) (by (try simp only [List.cons_append, List.nil_append]); repeat' first | with_reducible exact eR | with_reducible exact eA | with_reducible refine xA (by repeat first | with_reducible exact lH | with_reducible apply lT | with_reducible apply lL) ?_ | with_reducible refine xC (by repeat first | exact pH | with_reducible apply pT | with_reducible apply pL) ?_ | with_reducible assumption | with_reducible refine eS ?_ | with_reducible refine eL ?_ | exact eR)) (by first | with_reducible assumption | omega | (simp only [Bool.and_eq_true, inB_iff] at *; omega)) (by first | with_reducible assumption | omega | (simp only [Bool.and_eq_true, inB_iff] at *; omega))) ?_
      refine kT rfl c2 rfl ?_
      refine asg rfl ?_
      refine rN ?_
      refine qN ?_
      refine cE ?_
      refine kE rfl rfl  ?_
      first | (exfalso; contradiction) | exact ⟨_, ⟨by (simp [ssB, *]; done), rfl⟩, (by (try simp only [List.cons_append, List.nil_append]); repeat' first | with_reducible exact eR | with_reducible exact eA | with_reducible refine xA (by repeat first | with_reducible exact lH | with_reducible apply lT | with_reducible apply lL) ?_ | with_reducible refine xC (by repeat first | exact pH | with_reducible apply pT | with_reducible apply pL) ?_ | with_reducible assumption | with_reducible refine eS ?_ | with_reducible refine eL ?_ | exact eR)⟩ | (exfalso; first | contradiction | omega | (simp_all; done) | (simp_all; omega))
    · have c2' := c2; try simp only [inB_iff, Bool.and_eq_true, decide_eq_true_eq, decide_eq_false_iff_not, beq_iff_eq, beq_eq_false_iff_ne, bne_iff_ne, bne_eq_false_iff_eq, ne_eq] at c2'
      refine gS rfl rfl c2 ?_
      refine gS rfl rfl c2 ?_
      refine gS rfl rfl c2 ?_
      refine gS rfl rfl c2 ?_
      refine gS rfl rfl c2 ?_
      refine kF rfl c2 rfl ?_
      refine asg rfl ?_
      refine rN ?_
      refine qN ?_
      refine cE ?_
      refine kE rfl rfl  ?_
      first | (exfalso; contradiction) | exact ⟨_, ⟨by (simp [ssB, *]; done), rfl⟩, (by (try simp only [List.cons_append, List.nil_append]); repeat' first | with_reducible exact eR | with_reducible exact eA | with_reducible refine xA (by repeat first | with_reducible exact lH | with_reducible apply lT | with_reducible apply lL) ?_ | with_reducible refine xC (by repeat first | exact pH | with_reducible apply pT | with_reducible apply pL) ?_ | with_reducible assumption | with_reducible refine eS ?_ | with_reducible refine eL ?_ | exact eR)⟩ | (exfalso; first | contradiction | omega | (simp_all; done) | (simp_all; omega))
  · have c1' := c1; try simp only [inB_iff, Bool.and_eq_true, decide_eq_true_eq, decide_eq_false_iff_not, beq_iff_eq, beq_eq_false_iff_ne, bne_iff_ne, bne_eq_false_iff_eq, ne_eq] at c1'
    refine gS rfl rfl c1 ?_
    refine gS rfl rfl c1 ?_
    refine gS rfl rfl c1 ?_
    refine gS rfl rfl c1 ?_
    refine gS rfl rfl c1 ?_
    refine kF rfl c1 rfl ?_
    refine mv rfl ?_
    refine gS rfl rfl rfl ?_
    refine gS rfl rfl rfl ?_
    refine gS rfl rfl rfl ?_
    refine gS rfl rfl rfl ?_
    refine gS rfl rfl rfl ?_
    refine kF rfl rfl rfl ?_
    refine asg rfl ?_
    refine rN ?_
    refine qN ?_
    refine cE ?_
    refine kE rfl rfl  ?_
    first | (exfalso; contradiction) | exact ⟨_, ⟨by (simp [ssB, *]; done), rfl⟩, (by (try simp only [List.cons_append, List.nil_append]); repeat' first | with_reducible exact eR | with_reducible exact eA | with_reducible refine xA (by repeat first | with_reducible exact lH | with_reducible apply lT | with_reducible apply lL) ?_ | with_reducible refine xC (by repeat first | exact pH | with_reducible apply pT | with_reducible apply pL) ?_ | with_reducible assumption | with_reducible refine eS ?_ | with_reducible refine eL ?_ | exact eR)⟩ | (exfalso; first | contradiction | omega | (simp_all; done) | (simp_all; omega))
set_option maxHeartbeats 1000000 in
theorem c_lawSameSection (w d w' d' : Int) (a a' : Option Addr) (n n' c c' : Nat) (xs ys : List Nat) (M : Mem) (h : RdF M a n xs) (h' : RdF M a' n' ys) (hn : n ≤ 9223372036854775807) (hn' : n' ≤ 9223372036854775807) :
    ACall Try.prog 8 [.agg #[.int .i64 w, .int .i64 d, .slice a n c], .agg #[.int .i64 w', .int .i64 d', .slice a' n' c']] M fun v M' => v = .bool true ∧ M' = M := by
  obtain ⟨rfl, _⟩ := id h
  obtain ⟨rfl, _⟩ := id h'
  refine acall_of_awp Try.func8 rfl Try.ntmps8 rfl ?_
  refine cS (cR ?_)
  first | (refine rXa rfl ?_; intro bk1) | (refine rX rfl rfl ?_; intro bk1)
  first | (refine rXa rfl ?_; intro bk2) | (refine rX rfl rfl ?_; intro bk2)
  refine asg rfl ?_
  refine rN ?_
  refine qN ?_
  refine cS (cR ?_)
  refine asg rfl ?_
  refine rN ?_
  refine qN ?_
  refine cS (cR ?_)
  refine rLA rfl (by repeat first | with_reducible assumption | exact List.Mem.head _ | refine List.Mem.tail _ ?_ | refine List.mem_append_right _ ?_) rfl rfl ?_
  refine mv rfl ?_
  refine rCq rfl (c_szSection _ _ _ _ _ _ _ (by first | with_reducible assumption | omega | (simp only [Bool.and_eq_true, inB_iff] at *; omega)) (by first | with_reducible assumption | omega | (simp only [Bool.and_eq_true, inB_iff] at *; omega)) (by first | with_reducible assumption | omega | (simp only [Bool.and_eq_true, inB_iff] at *; omega))) ?_
  refine asg rfl ?_
  refine rN ?_
  refine qN ?_
  refine cS ?_
  refine cS (cR ?_)
  refine mv rfl ?_
  refine bLss rfl rfl ?_
  refine rN ?_
  refine qN ?_
  refine cC rfl (fun c1 => ?_) (fun c1 => ?_)
  · have c1' := c1; try simp only [inB_iff, Bool.and_eq_true, decide_eq_true_eq, decide_eq_false_iff_not, beq_iff_eq, beq_eq_false_iff_ne, bne_iff_ne, bne_eq_false_iff_eq, ne_eq] at c1'
    refine cS (cR ?_)
    refine asg rfl ?_
    refine rN ?_
    refine qN ?_
    refine cE ?_
    refine qE ?_
    refine kE rfl rfl  ?_
    first | (exfalso; contradiction) | exact ⟨_, ⟨rfl, rfl⟩, (by (try simp only [List.cons_append, List.nil_append]); repeat' first | with_reducible exact eR | with_reducible exact eA | with_reducible refine xA (by repeat first | with_reducible exact lH | with_reducible apply lT | with_reducible apply lL) ?_ | with_reducible refine xC (by repeat first | exact pH | with_reducible apply pT | with_reducible apply pL) ?_ | with_reducible assumption | with_reducible refine eS ?_ | with_reducible refine eL ?_ | exact eR)⟩ | (exfalso; first | contradiction | omega | (simp_all; done) | (simp_all; omega))
  have c1' := c1; try simp only [inB_iff, Bool.and_eq_true, decide_eq_true_eq, decide_eq_false_iff_not, beq_iff_eq, beq_eq_false_iff_ne, bne_iff_ne, bne_eq_false_iff_eq, ne_eq] at c1'
  have c1z := szI_ge c1
  refine cK ?_
  refine qN ?_
  refine cS (cR ?_)
  refine rLA rfl (by repeat first | with_reducible assumption | exact List.Mem.head _ | refine List.Mem.tail _ ?_ | refine List.mem_append_right _ ?_) rfl rfl ?_
  refine mv rfl ?_
  refine rCq rfl (c_szSection _ _ _ _ _ _ _ (by first | with_reducible assumption | omega | (simp only [Bool.and_eq_true, inB_iff] at *; omega)) (by first | with_reducible assumption | omega | (simp only [Bool.and_eq_true, inB_iff] at *; omega)) (by first | with_reducible assumption | omega | (simp only [Bool.and_eq_true, inB_iff] at *; omega))) ?_
  refine asg rfl ?_
  refine rN ?_
  refine qN ?_
  refine cS ?_
  refine cS (cR ?_)
  refine mv rfl ?_
  refine bLss rfl rfl ?_
  refine rN ?_
  refine qN ?_
  refine cC rfl (fun c2 => ?_) (fun c2 => ?_)
  · have c2' := c2; try simp only [inB_iff, Bool.and_eq_true, decide_eq_true_eq, decide_eq_false_iff_not, beq_iff_eq, beq_eq_false_iff_ne, bne_iff_ne, bne_eq_false_iff_eq, ne_eq] at c2'
    refine cS (cR ?_)
    refine asg rfl ?_
    refine rN ?_
    refine qN ?_
    refine cE ?_
    refine qE ?_
    refine kE rfl rfl  ?_
    first | (exfalso; contradiction) | exact ⟨_, ⟨rfl, rfl⟩, (by (try simp only [List.cons_append, List.nil_append]); repeat' first | with_reducible exact eR | with_reducible exact eA | with_reducible refine xA (by repeat first | with_reducible exact lH | with_reducible apply lT | with_reducible apply lL) ?_ | with_reducible refine xC (by repeat first | exact pH | with_reducible apply pT | with_reducible apply pL) ?_ | with_reducible assumption | with_reducible refine eS ?_ | with_reducible refine eL ?_ | exact eR)⟩ | (exfalso; first | contradiction | omega | (simp_all; done) | (simp_all; omega))
  have c2' := c2; try simp only [inB_iff, Bool.and_eq_true, decide_eq_true_eq, decide_eq_false_iff_not, beq_iff_eq, beq_eq_false_iff_ne, bne_iff_ne, bne_eq_false_iff_eq, ne_eq] at c2'
  have c2z := szI_ge c2
  refine cK ?_
  refine qN ?_
  refine cS ?_
  refine cD [(0, true), (2, true), (1, false), (3, false), (4, false), (5, false)] (by repeat first | exact fineT | exact fineL | exact fineLQ1 | exact fineLQ2 | exact fineLQ3 | exact fineLQ4 | exact fineLQ5 | exact fineLQ6 | refine fineB ?_) (by kernel_rfl) ?_
  simp only [pick, List.getElem?_toArray, List.getElem?_cons_zero, List.getElem?_cons_succ]
  refine rLA rfl (by repeat first | with_reducible assumption | exact List.Mem.head _ | refine List.Mem.tail _ ?_ | refine List.mem_append_right _ ?_) rfl rfl ?_
  refine rLA rfl (by repeat first | with_reducible assumption | exact List.Mem.head _ | refine List.Mem.tail _ ?_ | refine List.mem_append_right _ ?_) rfl rfl ?_
  refine rC rfl (c_toSection _ _ _ _ _ _ _ (by first | with_reducible assumption | exact RdF.mono (OwF.rdF (by with_reducible assumption)) (by (try simp only [List.cons_append, List.nil_append]); repeat' first | with_reducible exact eR | with_reducible exact eA | with_reducible refine xA (by repeat first | with_reducible exact lH | with_reducible apply lT | with_reducible apply lL) ?_ | with_reducible refine xC (by repeat first | exact pH | with_reducible apply pT | with_reducible apply pL) ?_ | with_reducible assumption | with_reducible refine eS ?_ | with_reducible refine eL ?_ | exact eR) | exact RdF.ownm (by repeat first | with_reducible assumption | exact List.Mem.head _ | refine List.Mem.tail _ ?_ | refine List.mem_append_right _ ?_) (by first | rfl | with_reducible assumption | omega | simp [*]) | exact RdF.mono (by with_reducible assumption) (by (try simp only [List.cons_append, List.nil_append]); repeat' first | with_reducible exact eR | with_reducible exact eA | with_reducible refine xA (by repeat first | with_reducible exact lH | with_reducible apply lT | with_reducible apply lL) ?_ | with_reducible refine xC (by repeat first | exact pH | with_reducible apply pT | with_reducible apply pL) ?_ | with_reducible assumption | with_reducible refine eS ?_ | with_reducible refine eL ?_ | exact eR)) (by first | with_reducible assumption | omega | (simp only [Bool.and_eq_true, inB_iff] at *; omega))) ?_
  rintro _ _ ⟨lk1, ⟨sv1, rfl, how1⟩, rfl⟩
  obtain ⟨ad1, cn1, rfl, hrd1⟩ := how1.rd
  refine ⟨fun _ => eL eR, ?_⟩
  refine rC rfl (c_toSection _ _ _ _ _ _ _ (by first | with_reducible assumption | exact RdF.mono (OwF.rdF (by with_reducible assumption)) (by (try simp only [List.cons_append, List.nil_append]); repeat' first | with_reducible exact eR | with_reducible exact eA | with_reducible refine xA (by repeat first | with_reducible exact lH | with_reducible apply lT | with_reducible apply lL) ?_ | with_reducible refine xC (by repeat first | exact pH | with_reducible apply pT | with_reducible apply pL) ?_ | with_reducible assumption | with_reducible refine eS ?_ | with_reducible refine eL ?_ | exact eR) | exact RdF.ownm (by repeat first | with_reducible assumption | exact List.Mem.head _ | refine List.Mem.tail _ ?_ | refine List.mem_append_right _ ?_) (by first | rfl | with_reducible assumption | omega | simp [*]) | exact RdF.mono (by with_reducible assumption) (by (try simp only [List.cons_append, List.nil_append]); repeat' first | with_reducible exact eR | with_reducible exact eA | with_reducible refine xA (by repeat first | with_reducible exact lH | with_reducible apply lT | with_reducible apply lL) ?_ | with_reducible refine xC (by repeat first | exact pH | with_reducible apply pT | with_reducible apply pL) ?_ | with_reducible assumption | with_reducible refine eS ?_ | with_reducible refine eL ?_ | exact eR)) (by first | with_reducible assumption | omega | (simp only [Bool.and_eq_true, inB_iff] at *; omega))) ?_
  rintro _ _ ⟨lk2, ⟨sv2, rfl, how2⟩, rfl⟩
  obtain ⟨ad2, cn2, rfl, hrd2⟩ := how2.rd
  refine ⟨fun _ => eL eR, ?_⟩
  refine rC rfl (c_specSameSection _ _ _ _ _ _ _ _ _ _ xs ys _ (by first | with_reducible assumption | exact RdF.mono (OwF.rdF (by with_reducible assumption)) (by (try simp only [List.cons_append, List.nil_append]); repeat' first | with_reducible exact eR | with_reducible exact eA | with_reducible refine xA (by repeat first | with_reducible exact lH | with_reducible apply lT | with_reducible apply lL) ?_ | with_reducible refine xC (by repeat first | exact pH | with_reducible apply pT | with_reducible apply pL) ?_ | with_reducible assumption | with_reducible refine eS ?_ | with_reducible refine eL ?_ | exact eR) | exact RdF.ownm (by repeat first | with_reducible assumption | exact List.Mem.head _ | refine List.Mem.tail _ ?_ | refine List.mem_append_right _ ?_) (by first | rfl | with_reducible assumption | omega | simp [*]) | exact RdF.mono (by with_reducible assumption) (by (try simp only [List.cons_append, List.nil_append]); repeat' first | with_reducible exact eR | with_reducible exact eA | with_reducible refine xA (by repeat first | with_reducible exact lH | with_reducible apply lT | with_reducible apply lL) ?_ | with_reducible refine xC (by repeat first | exact pH | with_reducible apply pT | with_reducible apply pL) ?_ | with_reducible assumption | with_reducible refine eS ?_ | with_reducible refine eL ?_ | exact eR)) (by first | with_reducible assumption | exact RdF.mono (OwF.rdF (by with_reducible assumption)) (by (try simp only [List.cons_append, List.nil_append]); repeat' first | with_reducible exact eR | with_reducible exact eA | with_reducible refine xA (by repeat first | with_reducible exact lH | with_reducible apply lT | with_reducible apply lL) ?_ | with_reducible refine xC (by repeat first | exact pH | with_reducible apply pT | with_reducible apply pL) ?_ | with_reducible assumption | with_reducible refine eS ?_ | with_reducible refine eL ?_ | exact eR) | exact RdF.ownm (by repeat first | with_reducible assumption | exact List.Mem.head _ | refine List.Mem.tail _ ?_ | refine List.mem_append_right _ ?_) (by first | rfl | with_reducible assumption | omega | simp [*]) | exact RdF.mono (by with_reducible assumption) (by (try simp only [List.cons_append, List.nil_append]); repeat' first | with_reducible exact eR | with_reducible exact eA | with_reducible refine xA (by repeat first | with_reducible exact lH | with_reducible apply lT | with_reducible apply lL) ?_ | with_reducible refine xC (by repeat first | exact pH | with_reducible apply pT | with_reducible apply pL) ?_ | with_reducible assumption | with_reducible refine eS ?_ | with_reducible refine eL ?_ | exact eR)) (by first | with_reducible assumption | omega | (simp only [Bool.and_eq_true, inB_iff] at *; omega)) (by first | with_reducible assumption | omega | (simp only [Bool.and_eq_true, inB_iff] at *; omega))) ?_
  rintro _ _ ⟨rfl, rfl⟩
  refine ⟨fun _ => eR, ?_⟩
  refine asg rfl ?_
  refine rN ?_
  refine qN ?_
  refine cS (cR ?_)
  refine rLA rfl (by repeat first | with_reducible assumption | exact List.Mem.head _ | refine List.Mem.tail _ ?_ | refine List.mem_append_right _ ?_) rfl rfl ?_
  refine rC rfl (c_toSection _ _ _ _ _ _ _ (by first | with_reducible assumption | exact RdF.mono (OwF.rdF (by with_reducible assumption)) (by (try simp only [List.cons_append, List.nil_append]); repeat' first | with_reducible exact eR | with_reducible exact eA | with_reducible refine xA (by repeat first | with_reducible exact lH | with_reducible apply lT | with_reducible apply lL) ?_ | with_reducible refine xC (by repeat first | exact pH | with_reducible apply pT | with_reducible apply pL) ?_ | with_reducible assumption | with_reducible refine eS ?_ | with_reducible refine eL ?_ | exact eR) | exact RdF.ownm (by repeat first | with_reducible assumption | exact List.Mem.head _ | refine List.Mem.tail _ ?_ | refine List.mem_append_right _ ?_) (by first | rfl | with_reducible assumption | omega | simp [*]) | exact RdF.mono (by with_reducible assumption) (by (try simp only [List.cons_append, List.nil_append]); repeat' first | with_reducible exact eR | with_reducible exact eA | with_reducible refine xA (by repeat first | with_reducible exact lH | with_reducible apply lT | with_reducible apply lL) ?_ | with_reducible refine xC (by repeat first | exact pH | with_reducible apply pT | with_reducible apply pL) ?_ | with_reducible assumption | with_reducible refine eS ?_ | with_reducible refine eL ?_ | exact eR)) (by first | with_reducible assumption | omega | (simp only [Bool.and_eq_true, inB_iff] at *; omega))) ?_
  rintro _ _ ⟨lk4, ⟨sv4, rfl, how4⟩, rfl⟩
  obtain ⟨ad4, cn4, rfl, hrd4⟩ := how4.rd
  refine ⟨fun _ => eL eR, ?_⟩
  refine rO ?_; intro bk3
  refine tA rfl rfl rfl (by repeat first | exact pH | with_reducible apply pT | with_reducible apply pL) (by rfl) (by rfl) ?_
  refine rN ?_
  refine qN ?_
  refine cS (cR ?_)
  refine rLA rfl (by repeat first | with_reducible assumption | exact List.Mem.head _ | refine List.Mem.tail _ ?_ | refine List.mem_append_right _ ?_) rfl rfl ?_
  refine rC rfl (c_toSection _ _ _ _ _ _ _ (by first | with_reducible assumption | exact RdF.mono (OwF.rdF (by with_reducible assumption)) (by (try simp only [List.cons_append, List.nil_append]); repeat' first | with_reducible exact eR | with_reducible exact eA | with_reducible refine xA (by repeat first | with_reducible exact lH | with_reducible apply lT | with_reducible apply lL) ?_ | with_reducible refine xC (by repeat first | exact pH | with_reducible apply pT | with_reducible apply pL) ?_ | with_reducible assumption | with_reducible refine eS ?_ | with_reducible refine eL ?_ | exact eR) | exact RdF.ownm (by repeat first | with_reducible assumption | exact List.Mem.head _ | refine List.Mem.tail _ ?_ | refine List.mem_append_right _ ?_) (by first | rfl | with_reducible assumption | omega | simp [*]) | exact RdF.mono (by with_reducible assumption) (by (try simp only [List.cons_append, List.nil_append]); repeat' first | with_reducible exact eR | with_reducible exact eA | with_reducible refine xA (by repeat first | with_reducible exact lH | with_reducible apply lT | with_reducible apply lL) ?_ | with_reducible refine xC (by repeat first | exact pH | with_reducible apply pT | with_reducible apply pL) ?_ | with_reducible assumption | with_reducible refine eS ?_ | with_reducible refine eL ?_ | exact eR)) (by first | with_reducible assumption | omega | (simp only [Bool.and_eq_true, inB_iff] at *; omega))) ?_
  rintro _ _ ⟨lk6, ⟨sv6, rfl, how6⟩, rfl⟩
  obtain ⟨ad6, cn6, rfl, hrd6⟩ := how6.rd
  refine ⟨fun _ => eL eR, ?_⟩
  refine rO ?_; intro bk4
  refine tA rfl rfl rfl (by repeat first | exact pH | with_reducible apply pT | with_reducible apply pL) (by rfl) (by rfl) ?_
  refine rN ?_
  refine qN ?_
  refine cS (cR ?_)
  refine rLA rfl (by repeat first | with_reducible assumption | exact List.Mem.head _ | refine List.Mem.tail _ ?_ | refine List.mem_append_right _ ?_) rfl rfl ?_
  refine rLA rfl (by repeat first | with_reducible assumption | exact List.Mem.head _ | refine List.Mem.tail _ ?_ | refine List.mem_append_right _ ?_) rfl rfl ?_
  refine rC rfl (c_implSameSection _ _ _ _ _ _ _ _ _ _ xs ys _ (by first | with_reducible assumption | exact RdF.mono (OwF.rdF (by with_reducible assumption)) (by (try simp only [List.cons_append, List.nil_append]); repeat' first | with_reducible exact eR | with_reducible exact eA | with_reducible refine xA (by repeat first | with_reducible exact lH | with_reducible apply lT | with_reducible apply lL) ?_ | with_reducible refine xC (by repeat first | exact pH | with_reducible apply pT | with_reducible apply pL) ?_ | with_reducible assumption | with_reducible refine eS ?_ | with_reducible refine eL ?_ | exact eR) | exact RdF.ownm (by repeat first | with_reducible assumption | exact List.Mem.head _ | refine List.Mem.tail _ ?_ | refine List.mem_append_right _ ?_) (by first | rfl | with_reducible assumption | omega | simp [*]) | exact RdF.mono (by with_reducible assumption) (by (try simp only [List.cons_append, List.nil_append]); repeat' first | with_reducible exact eR | with_reducible exact eA | with_reducible refine xA (by repeat first | with_reducible exact lH | with_reducible apply lT | with_reducible apply lL) ?_ | with_reducible refine xC (by repeat first | exact pH | with_reducible apply pT | with_reducible apply pL) ?_ | with_reducible assumption | with_reducible refine eS ?_ | with_reducible refine eL ?_ | exact eR)) (by first | with_reducible assumption | exact RdF.mono (OwF.rdF (by with_reducible assumption)) (by (try simp only [List.cons_append, List.nil_append]); repeat' first | with_reducible exact eR | with_reducible exact eA | with_reducible refine xA (by repeat first | with_reducible exact lH | with_reducible apply lT | with_reducible apply lL) ?_ | with_reducible refine xC (by repeat first | exact pH | with_reducible apply pT | with_reducible apply pL) ?_ | with_reducible assumption | with_reducible refine eS ?_ | with_reducible refine eL ?_ | exact eR) | exact RdF.ownm (by repeat first | with_reducible assumption | exact List.Mem.head _ | refine List.Mem.tail _ ?_ | refine List.mem_append_right _ ?_) (by first | rfl | with_reducible assumption | omega | simp [*]) | exact RdF.mono (by with_reducible assumption) (by (try simp only [List.cons_append, List.nil_append]); repeat' first | with_reducible exact eR | with_reducible exact eA | with_reducible refine xA (by repeat first | with_reducible exact lH | with_reducible apply lT | with_reducible apply lL) ?_ | with_reducible refine xC (by repeat first | exact pH | with_reducible apply pT | with_reducible apply pL) ?_ | with_reducible assumption | with_reducible refine eS ?_ | with_reducible refine eL ?_ | exact eR)) (by first | with_reducible assumption | omega | (simp only [Bool.and_eq_true, inB_iff] at *; omega)) (by first | with_reducible assumption | omega | (simp only [Bool.and_eq_true, inB_iff] at *; omega))) ?_
  rintro _ _ ⟨rfl, rfl⟩
  refine ⟨fun _ => eR, ?_⟩
  refine asg rfl ?_
  refine rN ?_
  refine qN ?_
  refine cS ?_
  refine cS (cR ?_)
  refine mv rfl ?_
  refine mv rfl ?_
  refine rp rfl ?_
  refine rN ?_
  refine qN ?_
  refine cFa rfl (by first | exact bne_self_eq_false _ | (simp; done) | (simp; omega) | omega) ?_
  refine cK ?_
  refine qN ?_
  refine cS ?_
  refine cS ?_
  refine cD [(0, true), (1, false), (2, false), (3, false), (4, false)] (by repeat first | exact fineT | exact fineL | exact fineLQ1 | exact fineLQ2 | exact fineLQ3 | exact fineLQ4 | exact fineLQ5 | exact fineLQ6 | refine fineB ?_) (by kernel_rfl) ?_
  simp only [pick, List.getElem?_toArray, List.getElem?_cons_zero, List.getElem?_cons_succ]
  refine rLA rfl (by repeat first | with_reducible assumption | exact List.Mem.head _ | refine List.Mem.tail _ ?_ | refine List.mem_append_right _ ?_) rfl rfl ?_
  refine rLA rfl (by repeat first | with_reducible assumption | exact List.Mem.head _ | refine List.Mem.tail _ ?_ | refine List.mem_append_right _ ?_) rfl rfl ?_
  refine rC rfl (c_toSection _ _ _ _ _ _ _ (by first | with_reducible assumption | exact RdF.mono (OwF.rdF (by with_reducible assumption)) (by (try simp only [List.cons_append, List.nil_append]); repeat' first | with_reducible exact eR | with_reducible exact eA | with_reducible refine xA (by repeat first | with_reducible exact lH | with_reducible apply lT | with_reducible apply lL) ?_ | with_reducible refine xC (by repeat first | exact pH | with_reducible apply pT | with_reducible apply pL) ?_ | with_reducible assumption | with_reducible refine eS ?_ | with_reducible refine eL ?_ | exact eR) | exact RdF.ownm (by repeat first | with_reducible assumption | exact List.Mem.head _ | refine List.Mem.tail _ ?_ | refine List.mem_append_right _ ?_) (by first | rfl | with_reducible assumption | omega | simp [*]) | exact RdF.mono (by with_reducible assumption) (by (try simp only [List.cons_append, List.nil_append]); repeat' first | with_reducible exact eR | with_reducible exact eA | with_reducible refine xA (by repeat first | with_reducible exact lH | with_reducible apply lT | with_reducible apply lL) ?_ | with_reducible refine xC (by repeat first | exact pH | with_reducible apply pT | with_reducible apply pL) ?_ | with_reducible assumption | with_reducible refine eS ?_ | with_reducible refine eL ?_ | exact eR)) (by first | with_reducible assumption | omega | (simp only [Bool.and_eq_true, inB_iff] at *; omega))) ?_
  rintro _ _ ⟨lk9, ⟨sv9, rfl, how9⟩, rfl⟩
  obtain ⟨ad9, cn9, rfl, hrd9⟩ := how9.rd
  refine ⟨fun _ => eL eR, ?_⟩
  refine rCq rfl (c_eqSection _ _ _ _ _ _ _ _ _ _ (by first | with_reducible assumption | exact RdF.mono (OwF.rdF (by with_reducible assumption)) (by (try simp only [List.cons_append, List.nil_append]); repeat' first | with_reducible exact eR | with_reducible exact eA | with_reducible refine xA (by repeat first | with_reducible exact lH | with_reducible apply lT | with_reducible apply lL) ?_ | with_reducible refine xC (by repeat first | exact pH | with_reducible apply pT | with_reducible apply pL) ?_ | with_reducible assumption | with_reducible refine eS ?_ | with_reducible refine eL ?_ | exact eR) | exact RdF.ownm (by repeat first | with_reducible assumption | exact List.Mem.head _ | refine List.Mem.tail _ ?_ | refine List.mem_append_right _ ?_) (by first | rfl | with_reducible assumption | omega | simp [*]) | exact RdF.mono (by with_reducible assumption) (by (try simp only [List.cons_append, List.nil_append]); repeat' first | with_reducible exact eR | with_reducible exact eA | with_reducible refine xA (by repeat first | with_reducible exact lH | with_reducible apply lT | with_reducible apply lL) ?_ | with_reducible refine xC (by repeat first | exact pH | with_reducible apply pT | with_reducible apply pL) ?_ | with_reducible assumption | with_reducible refine eS ?_ | with_reducible refine eL ?_ | exact eR)) (by first | with_reducible assumption | exact RdF.mono (OwF.rdF (by with_reducible assumption)) (by (try simp only [List.cons_append, List.nil_append]); repeat' first | with_reducible exact eR | with_reducible exact eA | with_reducible refine xA (by repeat first | with_reducible exact lH | with_reducible apply lT | with_reducible apply lL) ?_ | with_reducible refine xC (by repeat first | exact pH | with_reducible apply pT | with_reducible apply pL) ?_ | with_reducible assumption | with_reducible refine eS ?_ | with_reducible refine eL ?_ | exact eR) | exact RdF.ownm (by repeat first | with_reducible assumption | exact List.Mem.head _ | refine List.Mem.tail _ ?_ | refine List.mem_append_right _ ?_) (by first | rfl | with_reducible assumption | omega | simp [*]) | exact RdF.mono (by with_reducible assumption) (by (try simp only [List.cons_append, List.nil_append]); repeat' first | with_reducible exact eR | with_reducible exact eA | with_reducible refine xA (by repeat first | with_reducible exact lH | with_reducible apply lT | with_reducible apply lL) ?_ | with_reducible refine xC (by repeat first | exact pH | with_reducible apply pT | with_reducible apply pL) ?_ | with_reducible assumption | with_reducible refine eS ?_ | with_reducible refine eL ?_ | exact eR)) (by first | with_reducible assumption | omega | (simp only [Bool.and_eq_true, inB_iff] at *; omega))) ?_
  refine uNot rfl ?_
  refine rN ?_
  refine qN ?_
  refine cF rfl ?_
  refine cK ?_
  refine qN ?_
  refine cS ?_
  refine cS ?_
  refine cD [(0, true), (1, false), (2, false), (3, false), (4, false)] (by repeat first | exact fineT | exact fineL | exact fineLQ1 | exact fineLQ2 | exact fineLQ3 | exact fineLQ4 | exact fineLQ5 | exact fineLQ6 | refine fineB ?_) (by kernel_rfl) ?_
  simp only [pick, List.getElem?_toArray, List.getElem?_cons_zero, List.getElem?_cons_succ]
  refine rLA rfl (by repeat first | with_reducible assumption | exact List.Mem.head _ | refine List.Mem.tail _ ?_ | refine List.mem_append_right _ ?_) rfl rfl ?_
  refine rLA rfl (by repeat first | with_reducible assumption | exact List.Mem.head _ | refine List.Mem.tail _ ?_ | refine List.mem_append_right _ ?_) rfl rfl ?_
  refine rC rfl (c_toSection _ _ _ _ _ _ _ (by first | with_reducible assumption | exact RdF.mono (OwF.rdF (by with_reducible assumption)) (by (try simp only [List.cons_append, List.nil_append]); repeat' first | with_reducible exact eR | with_reducible exact eA | with_reducible refine xA (by repeat first | with_reducible exact lH | with_reducible apply lT | with_reducible apply lL) ?_ | with_reducible refine xC (by repeat first | exact pH | with_reducible apply pT | with_reducible apply pL) ?_ | with_reducible assumption | with_reducible refine eS ?_ | with_reducible refine eL ?_ | exact eR) | exact RdF.ownm (by repeat first | with_reducible assumption | exact List.Mem.head _ | refine List.Mem.tail _ ?_ | refine List.mem_append_right _ ?_) (by first | rfl | with_reducible assumption | omega | simp [*]) | exact RdF.mono (by with_reducible assumption) (by (try simp only [List.cons_append, List.nil_append]); repeat' first | with_reducible exact eR | with_reducible exact eA | with_reducible refine xA (by repeat first | with_reducible exact lH | with_reducible apply lT | with_reducible apply lL) ?_ | with_reducible refine xC (by repeat first | exact pH | with_reducible apply pT | with_reducible apply pL) ?_ | with_reducible assumption | with_reducible refine eS ?_ | with_reducible refine eL ?_ | exact eR)) (by first | with_reducible assumption | omega | (simp only [Bool.and_eq_true, inB_iff] at *; omega))) ?_
  rintro _ _ ⟨lk10, ⟨sv10, rfl, how10⟩, rfl⟩
  obtain ⟨ad10, cn10, rfl, hrd10⟩ := how10.rd
  refine ⟨fun _ => eL eR, ?_⟩
  refine rCq rfl (c_eqSection _ _ _ _ _ _ _ _ _ _ (by first | with_reducible assumption | exact RdF.mono (OwF.rdF (by with_reducible assumption)) (by (try simp only [List.cons_append, List.nil_append]); repeat' first | with_reducible exact eR | with_reducible exact eA | with_reducible refine xA (by repeat first | with_reducible exact lH | with_reducible apply lT | with_reducible apply lL) ?_ | with_reducible refine xC (by repeat first | exact pH | with_reducible apply pT | with_reducible apply pL) ?_ | with_reducible assumption | with_reducible refine eS ?_ | with_reducible refine eL ?_ | exact eR) | exact RdF.ownm (by repeat first | with_reducible assumption | exact List.Mem.head _ | refine List.Mem.tail _ ?_ | refine List.mem_append_right _ ?_) (by first | rfl | with_reducible assumption | omega | simp [*]) | exact RdF.mono (by with_reducible assumption) (by (try simp only [List.cons_append, List.nil_append]); repeat' first | with_reducible exact eR | with_reducible exact eA | with_reducible refine xA (by repeat first | with_reducible exact lH | with_reducible apply lT | with_reducible apply lL) ?_ | with_reducible refine xC (by repeat first | exact pH | with_reducible apply pT | with_reducible apply pL) ?_ | with_reducible assumption | with_reducible refine eS ?_ | with_reducible refine eL ?_ | exact eR)) (by first | with_reducible assumption | exact RdF.mono (OwF.rdF (by with_reducible assumption)) (by (try simp only [List.cons_append, List.nil_append]); repeat' first | with_reducible exact eR | with_reducible exact eA | with_reducible refine xA (by repeat first | with_reducible exact lH | with_reducible apply lT | with_reducible apply lL) ?_ | with_reducible refine xC (by repeat first | exact pH | with_reducible apply pT | with_reducible apply pL) ?_ | with_reducible assumption | with_reducible refine eS ?_ | with_reducible refine eL ?_ | exact eR) | exact RdF.ownm (by repeat first | with_reducible assumption | exact List.Mem.head _ | refine List.Mem.tail _ ?_ | refine List.mem_append_right _ ?_) (by first | rfl | with_reducible assumption | omega | simp [*]) | exact RdF.mono (by with_reducible assumption) (by (try simp only [List.cons_append, List.nil_append]); repeat' first | with_reducible exact eR | with_reducible exact eA | with_reducible refine xA (by repeat first | with_reducible exact lH | with_reducible apply lT | with_reducible apply lL) ?_ | with_reducible refine xC (by repeat first | exact pH | with_reducible apply pT | with_reducible apply pL) ?_ | with_reducible assumption | with_reducible refine eS ?_ | with_reducible refine eL ?_ | exact eR)) (by first | with_reducible assumption | omega | (simp only [Bool.and_eq_true, inB_iff] at *; omega))) ?_
  refine uNot rfl ?_
  refine rN ?_
  refine qN ?_
  refine cF rfl ?_
  refine cK ?_
  refine qN ?_
  refine cS (cR ?_)
  refine asg rfl ?_
  refine rN ?_
  refine qN ?_
  refine cE ?_
  refine kE rfl rfl  ?_
  first | (exfalso; contradiction) | exact ⟨_, ⟨rfl, rfl⟩, (by (try simp only [List.cons_append, List.nil_append]); repeat' first | with_reducible exact eR | with_reducible exact eA | with_reducible refine xA (by repeat first | with_reducible exact lH | with_reducible apply lT | with_reducible apply lL) ?_ | with_reducible refine xC (by repeat first | exact pH | with_reducible apply pT | with_reducible apply pL) ?_ | with_reducible assumption | with_reducible refine eS ?_ | with_reducible refine eL ?_ | exact eR)⟩ | (exfalso; first | contradiction | omega | (simp_all; done) | (simp_all; omega))
end Go.Proofs.Ytjpbgldnnfcmaaa.Ab
