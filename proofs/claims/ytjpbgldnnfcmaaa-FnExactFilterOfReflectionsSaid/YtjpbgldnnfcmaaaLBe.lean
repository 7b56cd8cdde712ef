/-
  The walks of the laws FnExactBestShift and FnExactFilterOfReflections.
-/
import Derived.Test.YtjpbgldnnfcmaaaBe
namespace Go.Proofs.Ytjpbgldnnfcmaaa.Ab
open Go Go.RowKit
attribute [local irreducible] Run Then InBlock LoopQ LQ1 LQ2 LQ3 LQ4 LQ5 LQ6 AWp Ret ACall
set_option linter.unusedVariables false
set_option linter.unusedSimpArgs false

def bsC (xs ys : List Nat) (most : Int) : Bool := bsB xs.length ys.length most && decide (0 ≤ shO xs ys most)
def bsI (xs ys : List Nat) (most : Int) : Int := if bsC xs ys most = true then shO xs ys most - most else 0
def bsV (xs ys : List Nat) (most : Int) : Nat := if bsC xs ys most = true then shV xs ys most else 0
theorem bsR_eq (xs ys : List Nat) (most : Int) : bsR xs ys most = .tuple #[.int .i64 (bsI xs ys most), .float .f32 (bsV xs ys most), .bool (bsC xs ys most)] := by
  unfold bsR bsI bsV bsC
  by_cases h : bsB xs.length ys.length most = true
  · by_cases h2 : 0 ≤ shO xs ys most <;> simp [h, h2]
  · simp [h]
theorem c_lawBestShift (a a' : Option Addr) (n n' c c' : Nat) (r : Int) (xs ys : List Nat) (M : Mem) (h : RdF M a n xs) (h' : RdF M a' n' ys) :
    ACall Try.prog 6 [.slice a n c, .slice a' n' c', .int .i64 r] M fun v M' => v = .bool true ∧ M' = M := by
  obtain ⟨rfl, _⟩ := id h
  obtain ⟨rfl, _⟩ := id h'
  refine acall_of_awp Try.func6 rfl Try.ntmps6 rfl ?_
  refine cS (cR ?_)
  refine asg rfl ?_
  refine rN ?_
  refine qN ?_
  refine cS ?_
  refine cS (cR ?_)
  refine mv rfl ?_
  refine ln rfl ?_
  refine bGtr rfl rfl ?_
  refine rN ?_
  refine qN ?_
  refine cC rfl (fun c1 => ?_) (fun c1 => ?_)
  · have c1' := c1; try simp only [inB_iff, Bool.and_eq_true, decide_eq_true_eq, decide_eq_false_iff_not, beq_iff_eq, beq_eq_false_iff_ne, bne_iff_ne, bne_eq_false_iff_eq, ne_eq] at c1'
    refine cS (cR ?_)
    refine asg rfl ?_
    refine rN ?_
    refine qN ?_
    refine cE ?_
    refine qE ?_
    refine kE rfl rfl  ?_
    first | (exfalso; contradiction) | exact ⟨_, ⟨rfl, rfl⟩, (by repeat' first | exact eR | exact eA | assumption | refine eLK ?_ | refine eK ?_ | refine eS ?_ | refine eL ?_)⟩ | (exfalso; first | contradiction | omega | (simp_all; done) | (simp_all; omega))
  have c1' := c1; try simp only [inB_iff, Bool.and_eq_true, decide_eq_true_eq, decide_eq_false_iff_not, beq_iff_eq, beq_eq_false_iff_ne, bne_iff_ne, bne_eq_false_iff_eq, ne_eq] at c1'
  refine cK ?_
  refine qN ?_
  refine cS ?_
  refine cS (cR ?_)
  refine mv rfl ?_
  refine ln rfl ?_
  refine bGtr rfl rfl ?_
  refine rN ?_
  refine qN ?_
  refine cC rfl (fun c2 => ?_) (fun c2 => ?_)
  · have c2' := c2; try simp only [inB_iff, Bool.and_eq_true, decide_eq_true_eq, decide_eq_false_iff_not, beq_iff_eq, beq_eq_false_iff_ne, bne_iff_ne, bne_eq_false_iff_eq, ne_eq] at c2'
    refine cS (cR ?_)
    refine asg rfl ?_
    refine rN ?_
    refine qN ?_
    refine cE ?_
    refine qE ?_
    refine kE rfl rfl  ?_
    first | (exfalso; contradiction) | exact ⟨_, ⟨rfl, rfl⟩, (by repeat' first | exact eR | exact eA | assumption | refine eLK ?_ | refine eK ?_ | refine eS ?_ | refine eL ?_)⟩ | (exfalso; first | contradiction | omega | (simp_all; done) | (simp_all; omega))
  have c2' := c2; try simp only [inB_iff, Bool.and_eq_true, decide_eq_true_eq, decide_eq_false_iff_not, beq_iff_eq, beq_eq_false_iff_ne, bne_iff_ne, bne_eq_false_iff_eq, ne_eq] at c2'
  refine cK ?_
  refine qN ?_
  refine cS (cR ?_)
  refine mv rfl ?_
  refine rC rfl (c_toFloat32S _ _ _ _ _ (by first | with_reducible assumption | exact RdF.mono (OwF.rdF (by assumption)) (by repeat' first | exact eR | exact eA | assumption | refine eLK ?_ | refine eK ?_ | refine eS ?_ | refine eL ?_) | exact RdF.ownm (by repeat first | assumption | exact List.Mem.head _ | refine List.Mem.tail _ ?_ | refine List.mem_append_right _ ?_) (by first | rfl | assumption | omega | simp [*]) | exact RdF.mono (by assumption) (by repeat' first | exact eR | exact eA | assumption | refine eLK ?_ | refine eK ?_ | refine eS ?_ | refine eL ?_)) (by first | assumption | omega | (simp only [Bool.and_eq_true, inB_iff] at *; omega))) ?_
  rintro sv1 _ ⟨lk1, how1, rfl⟩
  obtain ⟨ad1, cn1, rfl, hrd1⟩ := how1.rd
  refine ⟨fun _ => eL eR, ?_⟩
  refine mv rfl ?_
  refine rC rfl (c_toFloat32S _ _ _ _ _ (by first | with_reducible assumption | exact RdF.mono (OwF.rdF (by assumption)) (by repeat' first | exact eR | exact eA | assumption | refine eLK ?_ | refine eK ?_ | refine eS ?_ | refine eL ?_) | exact RdF.ownm (by repeat first | assumption | exact List.Mem.head _ | refine List.Mem.tail _ ?_ | refine List.mem_append_right _ ?_) (by first | rfl | assumption | omega | simp [*]) | exact RdF.mono (by assumption) (by repeat' first | exact eR | exact eA | assumption | refine eLK ?_ | refine eK ?_ | refine eS ?_ | refine eL ?_)) (by first | assumption | omega | (simp only [Bool.and_eq_true, inB_iff] at *; omega))) ?_
  rintro sv2 _ ⟨lk2, how2, rfl⟩
  obtain ⟨ad2, cn2, rfl, hrd2⟩ := how2.rd
  refine ⟨fun _ => eL eR, ?_⟩
  refine mv rfl ?_
  refine rC rfl ((c_specBestShift _ _ _ _ _ _ xs ys _ _ (by first | with_reducible assumption | exact RdF.mono (OwF.rdF (by assumption)) (by repeat' first | exact eR | exact eA | assumption | refine eLK ?_ | refine eK ?_ | refine eS ?_ | refine eL ?_) | exact RdF.ownm (by repeat first | assumption | exact List.Mem.head _ | refine List.Mem.tail _ ?_ | refine List.mem_append_right _ ?_) (by first | rfl | assumption | omega | simp [*]) | exact RdF.mono (by assumption) (by repeat' first | exact eR | exact eA | assumption | refine eLK ?_ | refine eK ?_ | refine eS ?_ | refine eL ?_)) (by first | with_reducible assumption | exact RdF.mono (OwF.rdF (by assumption)) (by repeat' first | exact eR | exact eA | assumption | refine eLK ?_ | refine eK ?_ | refine eS ?_ | refine eL ?_) | exact RdF.ownm (by repeat first | assumption | exact List.Mem.head _ | refine List.Mem.tail _ ?_ | refine List.mem_append_right _ ?_) (by first | rfl | assumption | omega | simp [*]) | exact RdF.mono (by assumption) (by repeat' first | exact eR | exact eA | assumption | refine eLK ?_ | refine eK ?_ | refine eS ?_ | refine eL ?_))).mono (fun v M' hv => (⟨hv.1.trans (bsR_eq xs ys r), hv.2⟩ : v = .tuple #[.int .i64 (bsI xs ys r), .float .f32 (bsV xs ys r), .bool (bsC xs ys r)] ∧ M' = _))) ?_
  rintro _ _ ⟨rfl, rfl⟩
  refine ⟨fun _ => eR, ?_⟩
  refine mv rfl ?_
  refine xt rfl rfl rfl ?_
  refine xt rfl rfl rfl ?_
  refine xt rfl rfl rfl ?_
  refine asg rfl ?_
  refine asg rfl ?_
  refine asg rfl ?_
  refine rN ?_
  refine qN ?_
  refine cS (cR ?_)
  refine mv rfl ?_
  refine rC rfl (c_toFloat32S _ _ _ _ _ (by first | with_reducible assumption | exact RdF.mono (OwF.rdF (by assumption)) (by repeat' first | exact eR | exact eA | assumption | refine eLK ?_ | refine eK ?_ | refine eS ?_ | refine eL ?_) | exact RdF.ownm (by repeat first | assumption | exact List.Mem.head _ | refine List.Mem.tail _ ?_ | refine List.mem_append_right _ ?_) (by first | rfl | assumption | omega | simp [*]) | exact RdF.mono (by assumption) (by repeat' first | exact eR | exact eA | assumption | refine eLK ?_ | refine eK ?_ | refine eS ?_ | refine eL ?_)) (by first | assumption | omega | (simp only [Bool.and_eq_true, inB_iff] at *; omega))) ?_
  rintro sv4 _ ⟨lk4, how4, rfl⟩
  obtain ⟨ad4, cn4, rfl, hrd4⟩ := how4.rd
  refine ⟨fun _ => eL eR, ?_⟩
  refine asg rfl ?_
  refine rN ?_
  refine qN ?_
  refine cS (cR ?_)
  refine mv rfl ?_
  refine rC rfl (c_toFloat32S _ _ _ _ _ (by first | with_reducible assumption | exact RdF.mono (OwF.rdF (by assumption)) (by repeat' first | exact eR | exact eA | assumption | refine eLK ?_ | refine eK ?_ | refine eS ?_ | refine eL ?_) | exact RdF.ownm (by repeat first | assumption | exact List.Mem.head _ | refine List.Mem.tail _ ?_ | refine List.mem_append_right _ ?_) (by first | rfl | assumption | omega | simp [*]) | exact RdF.mono (by assumption) (by repeat' first | exact eR | exact eA | assumption | refine eLK ?_ | refine eK ?_ | refine eS ?_ | refine eL ?_)) (by first | assumption | omega | (simp only [Bool.and_eq_true, inB_iff] at *; omega))) ?_
  rintro sv5 _ ⟨lk5, how5, rfl⟩
  obtain ⟨ad5, cn5, rfl, hrd5⟩ := how5.rd
  refine ⟨fun _ => eL eR, ?_⟩
  refine asg rfl ?_
  refine rN ?_
  refine qN ?_
  refine cS (cR ?_)
  refine mv rfl ?_
  refine mv rfl ?_
  refine mv rfl ?_
  refine rC rfl ((c_implBestShift _ _ _ _ _ _ xs ys _ _ (by first | with_reducible assumption | exact RdF.mono (OwF.rdF (by assumption)) (by repeat' first | exact eR | exact eA | assumption | refine eLK ?_ | refine eK ?_ | refine eS ?_ | refine eL ?_) | exact RdF.ownm (by repeat first | assumption | exact List.Mem.head _ | refine List.Mem.tail _ ?_ | refine List.mem_append_right _ ?_) (by first | rfl | assumption | omega | simp [*]) | exact RdF.mono (by assumption) (by repeat' first | exact eR | exact eA | assumption | refine eLK ?_ | refine eK ?_ | refine eS ?_ | refine eL ?_)) (by first | with_reducible assumption | exact RdF.mono (OwF.rdF (by assumption)) (by repeat' first | exact eR | exact eA | assumption | refine eLK ?_ | refine eK ?_ | refine eS ?_ | refine eL ?_) | exact RdF.ownm (by repeat first | assumption | exact List.Mem.head _ | refine List.Mem.tail _ ?_ | refine List.mem_append_right _ ?_) (by first | rfl | assumption | omega | simp [*]) | exact RdF.mono (by assumption) (by repeat' first | exact eR | exact eA | assumption | refine eLK ?_ | refine eK ?_ | refine eS ?_ | refine eL ?_))).mono (fun v M' hv => (⟨hv.1.trans (bsR_eq xs ys r), hv.2⟩ : v = .tuple #[.int .i64 (bsI xs ys r), .float .f32 (bsV xs ys r), .bool (bsC xs ys r)] ∧ M' = _))) ?_
  rintro _ _ ⟨rfl, rfl⟩
  refine ⟨fun _ => eR, ?_⟩
  refine mv rfl ?_
  refine xt rfl rfl rfl ?_
  refine xt rfl rfl rfl ?_
  refine xt rfl rfl rfl ?_
  refine asg rfl ?_
  refine asg rfl ?_
  refine asg rfl ?_
  refine rN ?_
  refine qN ?_
  refine cS ?_
  refine cS (cR ?_)
  refine mv rfl ?_
  refine mv rfl ?_
  refine bNeq rfl rfl ?_
  refine mv rfl ?_
  skip
  refine gG rfl rfl (by first | exact bne_self_eq_false _ | (simp; done) | (simp; omega) | omega) ?_
  refine mv rfl ?_
  refine gG rfl rfl (by first | exact bne_self_eq_false _ | (simp; done) | (simp; omega) | omega) ?_
  refine rW rfl ?_
  refine gG rfl rfl (by first | exact bne_self_eq_false _ | (simp; done) | (simp; omega) | omega) ?_
  refine mv rfl ?_
  refine gG rfl rfl (by first | exact bne_self_eq_false _ | (simp; done) | (simp; omega) | omega) ?_
  refine rW rfl ?_
  refine gG rfl rfl (by first | exact bne_self_eq_false _ | (simp; done) | (simp; omega) | omega) ?_
  refine rCq rfl (c_sameFloat _ _) ?_
  refine gG rfl rfl (by first | exact bne_self_eq_false _ | (simp; done) | (simp; omega) | omega) ?_
  refine uNot rfl ?_
  refine kF rfl (by first | exact bne_self_eq_false _ | (simp; done) | (simp; omega) | omega) rfl ?_
  refine mv rfl ?_
  refine gG rfl rfl rfl ?_
  refine mv rfl ?_
  refine gG rfl rfl rfl ?_
  refine mv rfl ?_
  refine gG rfl rfl rfl ?_
  refine rp rfl ?_
  refine kF rfl rfl rfl ?_
  refine rN ?_
  refine qN ?_
  refine cFa rfl (by first | exact bne_self_eq_false _ | (simp; done) | (simp; omega) | omega) ?_
  refine cK ?_
  refine qN ?_
  refine cS ?_
  refine cS (cR ?_)
  refine mv rfl ?_
  refine mv rfl ?_
  refine rC rfl (c_toFloat32S _ _ _ _ _ (by first | with_reducible assumption | exact RdF.mono (OwF.rdF (by assumption)) (by repeat' first | exact eR | exact eA | assumption | refine eLK ?_ | refine eK ?_ | refine eS ?_ | refine eL ?_) | exact RdF.ownm (by repeat first | assumption | exact List.Mem.head _ | refine List.Mem.tail _ ?_ | refine List.mem_append_right _ ?_) (by first | rfl | assumption | omega | simp [*]) | exact RdF.mono (by assumption) (by repeat' first | exact eR | exact eA | assumption | refine eLK ?_ | refine eK ?_ | refine eS ?_ | refine eL ?_)) (by first | assumption | omega | (simp only [Bool.and_eq_true, inB_iff] at *; omega))) ?_
  rintro sv7 _ ⟨lk7, how7, rfl⟩
  obtain ⟨ad7, cn7, rfl, hrd7⟩ := how7.rd
  refine ⟨fun _ => eL eR, ?_⟩
  refine rCq rfl (c_eqFloat32S _ _ _ _ _ _ _ _ (by first | with_reducible assumption | exact RdF.mono (OwF.rdF (by assumption)) (by repeat' first | exact eR | exact eA | assumption | refine eLK ?_ | refine eK ?_ | refine eS ?_ | refine eL ?_) | exact RdF.ownm (by repeat first | assumption | exact List.Mem.head _ | refine List.Mem.tail _ ?_ | refine List.mem_append_right _ ?_) (by first | rfl | assumption | omega | simp [*]) | exact RdF.mono (by assumption) (by repeat' first | exact eR | exact eA | assumption | refine eLK ?_ | refine eK ?_ | refine eS ?_ | refine eL ?_)) (by first | with_reducible assumption | exact RdF.mono (OwF.rdF (by assumption)) (by repeat' first | exact eR | exact eA | assumption | refine eLK ?_ | refine eK ?_ | refine eS ?_ | refine eL ?_) | exact RdF.ownm (by repeat first | assumption | exact List.Mem.head _ | refine List.Mem.tail _ ?_ | refine List.mem_append_right _ ?_) (by first | rfl | assumption | omega | simp [*]) | exact RdF.mono (by assumption) (by repeat' first | exact eR | exact eA | assumption | refine eLK ?_ | refine eK ?_ | refine eS ?_ | refine eL ?_)) (by first | assumption | omega | (simp only [Bool.and_eq_true, inB_iff] at *; omega))) ?_
  refine uNot rfl ?_
  refine rN ?_
  refine qN ?_
  refine cF rfl ?_
  refine cK ?_
  refine qN ?_
  refine cS ?_
  refine cS (cR ?_)
  refine mv rfl ?_
  refine mv rfl ?_
  refine rC rfl (c_toFloat32S _ _ _ _ _ (by first | with_reducible assumption | exact RdF.mono (OwF.rdF (by assumption)) (by repeat' first | exact eR | exact eA | assumption | refine eLK ?_ | refine eK ?_ | refine eS ?_ | refine eL ?_) | exact RdF.ownm (by repeat first | assumption | exact List.Mem.head _ | refine List.Mem.tail _ ?_ | refine List.mem_append_right _ ?_) (by first | rfl | assumption | omega | simp [*]) | exact RdF.mono (by assumption) (by repeat' first | exact eR | exact eA | assumption | refine eLK ?_ | refine eK ?_ | refine eS ?_ | refine eL ?_)) (by first | assumption | omega | (simp only [Bool.and_eq_true, inB_iff] at *; omega))) ?_
  rintro sv8 _ ⟨lk8, how8, rfl⟩
  obtain ⟨ad8, cn8, rfl, hrd8⟩ := how8.rd
  refine ⟨fun _ => eL eR, ?_⟩
  refine rCq rfl (c_eqFloat32S _ _ _ _ _ _ _ _ (by first | with_reducible assumption | exact RdF.mono (OwF.rdF (by assumption)) (by repeat' first | exact eR | exact eA | assumption | refine eLK ?_ | refine eK ?_ | refine eS ?_ | refine eL ?_) | exact RdF.ownm (by repeat first | assumption | exact List.Mem.head _ | refine List.Mem.tail _ ?_ | refine List.mem_append_right _ ?_) (by first | rfl | assumption | omega | simp [*]) | exact RdF.mono (by assumption) (by repeat' first | exact eR | exact eA | assumption | refine eLK ?_ | refine eK ?_ | refine eS ?_ | refine eL ?_)) (by first | with_reducible assumption | exact RdF.mono (OwF.rdF (by assumption)) (by repeat' first | exact eR | exact eA | assumption | refine eLK ?_ | refine eK ?_ | refine eS ?_ | refine eL ?_) | exact RdF.ownm (by repeat first | assumption | exact List.Mem.head _ | refine List.Mem.tail _ ?_ | refine List.mem_append_right _ ?_) (by first | rfl | assumption | omega | simp [*]) | exact RdF.mono (by assumption) (by repeat' first | exact eR | exact eA | assumption | refine eLK ?_ | refine eK ?_ | refine eS ?_ | refine eL ?_)) (by first | assumption | omega | (simp only [Bool.and_eq_true, inB_iff] at *; omega))) ?_
  refine uNot rfl ?_
  refine rN ?_
  refine qN ?_
  refine cF rfl ?_
  refine cK ?_
  refine qN ?_
  refine cS (cR ?_)
  refine asg rfl ?_
  refine rN ?_
  refine qN ?_
  refine cE ?_
  refine kE rfl rfl  ?_
  first | (exfalso; contradiction) | exact ⟨_, ⟨rfl, rfl⟩, (by repeat' first | exact eR | exact eA | assumption | refine eLK ?_ | refine eK ?_ | refine eS ?_ | refine eL ?_)⟩ | (exfalso; first | contradiction | omega | (simp_all; done) | (simp_all; omega))
theorem c_lawFilterOfReflections (a : Option Addr) (n c : Nat) (xs : List Nat) (M : Mem) (h : RdF M a n xs) :
    ACall Try.prog 5 [.slice a n c] M fun v M' => v = .bool true ∧ M' = M := by
  obtain ⟨rfl, _⟩ := id h
  have hyl : (bif filB xs.length then filK xs xs.length else []).length ≤ xs.length + 1 := by cases filB xs.length <;> simp [filK_len]
  refine acall_of_awp Try.func5 rfl Try.ntmps5 rfl ?_
  refine cS (cR ?_)
  refine asg rfl ?_
  refine rN ?_
  refine qN ?_
  refine cS ?_
  refine cS (cR ?_)
  refine mv rfl ?_
  refine ln rfl ?_
  refine bGtr rfl rfl ?_
  refine rN ?_
  refine qN ?_
  refine cC rfl (fun c1 => ?_) (fun c1 => ?_)
  · have c1' := c1; try simp only [inB_iff, Bool.and_eq_true, decide_eq_true_eq, decide_eq_false_iff_not, beq_iff_eq, beq_eq_false_iff_ne, bne_iff_ne, bne_eq_false_iff_eq, ne_eq] at c1'
    refine cS (cR ?_)
    refine asg rfl ?_
    refine rN ?_
    refine qN ?_
    refine cE ?_
    refine qE ?_
    refine kE rfl rfl  ?_
    first | (exfalso; contradiction) | exact ⟨_, ⟨rfl, rfl⟩, (by repeat' first | exact eR | exact eA | assumption | refine eLK ?_ | refine eK ?_ | refine eS ?_ | refine eL ?_)⟩ | (exfalso; first | contradiction | omega | (simp_all; done) | (simp_all; omega))
  have c1' := c1; try simp only [inB_iff, Bool.and_eq_true, decide_eq_true_eq, decide_eq_false_iff_not, beq_iff_eq, beq_eq_false_iff_ne, bne_iff_ne, bne_eq_false_iff_eq, ne_eq] at c1'
  refine cK ?_
  refine qN ?_
  refine cS (cR ?_)
  refine mv rfl ?_
  refine rC rfl (c_toFloat32S _ _ _ _ _ (by first | with_reducible assumption | exact RdF.mono (OwF.rdF (by assumption)) (by repeat' first | exact eR | exact eA | assumption | refine eLK ?_ | refine eK ?_ | refine eS ?_ | refine eL ?_) | exact RdF.ownm (by repeat first | assumption | exact List.Mem.head _ | refine List.Mem.tail _ ?_ | refine List.mem_append_right _ ?_) (by first | rfl | assumption | omega | simp [*]) | exact RdF.mono (by assumption) (by repeat' first | exact eR | exact eA | assumption | refine eLK ?_ | refine eK ?_ | refine eS ?_ | refine eL ?_)) (by first | assumption | omega | (simp only [Bool.and_eq_true, inB_iff] at *; omega))) ?_
  rintro sv1 _ ⟨lk1, how1, rfl⟩
  obtain ⟨ad1, cn1, rfl, hrd1⟩ := how1.rd
  refine ⟨fun _ => eL eR, ?_⟩
  refine rC rfl (c_specFilterOfReflections _ _ _ xs _ (by first | with_reducible assumption | exact RdF.mono (OwF.rdF (by assumption)) (by repeat' first | exact eR | exact eA | assumption | refine eLK ?_ | refine eK ?_ | refine eS ?_ | refine eL ?_) | exact RdF.ownm (by repeat first | assumption | exact List.Mem.head _ | refine List.Mem.tail _ ?_ | refine List.mem_append_right _ ?_) (by first | rfl | assumption | omega | simp [*]) | exact RdF.mono (by assumption) (by repeat' first | exact eR | exact eA | assumption | refine eLK ?_ | refine eK ?_ | refine eS ?_ | refine eL ?_))) ?_
  rintro _ _ ⟨lk2, ⟨sv2, rfl, how2⟩, rfl⟩
  obtain ⟨ad2, cn2, rfl, hrd2⟩ := how2.rd
  refine ⟨fun _ => eL eR, ?_⟩
  refine mv rfl ?_
  refine xt rfl rfl rfl ?_
  refine xt rfl rfl rfl ?_
  refine asg rfl ?_
  refine asg rfl ?_
  refine rN ?_
  refine qN ?_
  refine cS (cR ?_)
  refine mv rfl ?_
  refine rC rfl (c_toFloat32S _ _ _ _ _ (by first | with_reducible assumption | exact RdF.mono (OwF.rdF (by assumption)) (by repeat' first | exact eR | exact eA | assumption | refine eLK ?_ | refine eK ?_ | refine eS ?_ | refine eL ?_) | exact RdF.ownm (by repeat first | assumption | exact List.Mem.head _ | refine List.Mem.tail _ ?_ | refine List.mem_append_right _ ?_) (by first | rfl | assumption | omega | simp [*]) | exact RdF.mono (by assumption) (by repeat' first | exact eR | exact eA | assumption | refine eLK ?_ | refine eK ?_ | refine eS ?_ | refine eL ?_)) (by first | assumption | omega | (simp only [Bool.and_eq_true, inB_iff] at *; omega))) ?_
  rintro sv3 _ ⟨lk3, how3, rfl⟩
  obtain ⟨ad3, cn3, rfl, hrd3⟩ := how3.rd
  refine ⟨fun _ => eL eR, ?_⟩
  refine asg rfl ?_
  refine rN ?_
  refine qN ?_
  refine cS (cR ?_)
  refine mv rfl ?_
  refine rC rfl (c_implFilterOfReflections _ _ _ xs _ (by first | with_reducible assumption | exact RdF.mono (OwF.rdF (by assumption)) (by repeat' first | exact eR | exact eA | assumption | refine eLK ?_ | refine eK ?_ | refine eS ?_ | refine eL ?_) | exact RdF.ownm (by repeat first | assumption | exact List.Mem.head _ | refine List.Mem.tail _ ?_ | refine List.mem_append_right _ ?_) (by first | rfl | assumption | omega | simp [*]) | exact RdF.mono (by assumption) (by repeat' first | exact eR | exact eA | assumption | refine eLK ?_ | refine eK ?_ | refine eS ?_ | refine eL ?_))) ?_
  rintro _ _ ⟨lk4, ⟨sv4, rfl, how4⟩, rfl⟩
  obtain ⟨ad4, cn4, rfl, hrd4⟩ := how4.rd
  refine ⟨fun _ => eL eR, ?_⟩
  refine mv rfl ?_
  refine xt rfl rfl rfl ?_
  refine xt rfl rfl rfl ?_
  refine asg rfl ?_
  refine asg rfl ?_
  refine rN ?_
  refine qN ?_
  refine cS ?_
  refine cS (cR ?_)
  refine mv rfl ?_
  refine mv rfl ?_
  refine rCq rfl (c_eqFloat32S _ _ _ _ _ _ _ _ (by first | with_reducible assumption | exact RdF.mono (OwF.rdF (by assumption)) (by repeat' first | exact eR | exact eA | assumption | refine eLK ?_ | refine eK ?_ | refine eS ?_ | refine eL ?_) | exact RdF.ownm (by repeat first | assumption | exact List.Mem.head _ | refine List.Mem.tail _ ?_ | refine List.mem_append_right _ ?_) (by first | rfl | assumption | omega | simp [*]) | exact RdF.mono (by assumption) (by repeat' first | exact eR | exact eA | assumption | refine eLK ?_ | refine eK ?_ | refine eS ?_ | refine eL ?_)) (by first | with_reducible assumption | exact RdF.mono (OwF.rdF (by assumption)) (by repeat' first | exact eR | exact eA | assumption | refine eLK ?_ | refine eK ?_ | refine eS ?_ | refine eL ?_) | exact RdF.ownm (by repeat first | assumption | exact List.Mem.head _ | refine List.Mem.tail _ ?_ | refine List.mem_append_right _ ?_) (by first | rfl | assumption | omega | simp [*]) | exact RdF.mono (by assumption) (by repeat' first | exact eR | exact eA | assumption | refine eLK ?_ | refine eK ?_ | refine eS ?_ | refine eL ?_)) (by first | assumption | omega | (simp only [Bool.and_eq_true, inB_iff] at *; omega))) ?_
  refine uNot rfl ?_
  refine mv rfl ?_
  refine gG rfl rfl rfl ?_
  refine mv rfl ?_
  refine gG rfl rfl rfl ?_
  refine mv rfl ?_
  refine gG rfl rfl rfl ?_
  refine rp rfl ?_
  refine kF rfl rfl rfl ?_
  refine rN ?_
  refine qN ?_
  refine cFa rfl (by first | exact bne_self_eq_false _ | (simp; done) | (simp; omega) | omega) ?_
  refine cK ?_
  refine qN ?_
  refine cS ?_
  refine cS (cR ?_)
  refine mv rfl ?_
  refine mv rfl ?_
  refine rC rfl (c_toFloat32S _ _ _ _ _ (by first | with_reducible assumption | exact RdF.mono (OwF.rdF (by assumption)) (by repeat' first | exact eR | exact eA | assumption | refine eLK ?_ | refine eK ?_ | refine eS ?_ | refine eL ?_) | exact RdF.ownm (by repeat first | assumption | exact List.Mem.head _ | refine List.Mem.tail _ ?_ | refine List.mem_append_right _ ?_) (by first | rfl | assumption | omega | simp [*]) | exact RdF.mono (by assumption) (by repeat' first | exact eR | exact eA | assumption | refine eLK ?_ | refine eK ?_ | refine eS ?_ | refine eL ?_)) (by first | assumption | omega | (simp only [Bool.and_eq_true, inB_iff] at *; omega))) ?_
  rintro sv5 _ ⟨lk5, how5, rfl⟩
  obtain ⟨ad5, cn5, rfl, hrd5⟩ := how5.rd
  refine ⟨fun _ => eL eR, ?_⟩
  refine rCq rfl (c_eqFloat32S _ _ _ _ _ _ _ _ (by first | with_reducible assumption | exact RdF.mono (OwF.rdF (by assumption)) (by repeat' first | exact eR | exact eA | assumption | refine eLK ?_ | refine eK ?_ | refine eS ?_ | refine eL ?_) | exact RdF.ownm (by repeat first | assumption | exact List.Mem.head _ | refine List.Mem.tail _ ?_ | refine List.mem_append_right _ ?_) (by first | rfl | assumption | omega | simp [*]) | exact RdF.mono (by assumption) (by repeat' first | exact eR | exact eA | assumption | refine eLK ?_ | refine eK ?_ | refine eS ?_ | refine eL ?_)) (by first | with_reducible assumption | exact RdF.mono (OwF.rdF (by assumption)) (by repeat' first | exact eR | exact eA | assumption | refine eLK ?_ | refine eK ?_ | refine eS ?_ | refine eL ?_) | exact RdF.ownm (by repeat first | assumption | exact List.Mem.head _ | refine List.Mem.tail _ ?_ | refine List.mem_append_right _ ?_) (by first | rfl | assumption | omega | simp [*]) | exact RdF.mono (by assumption) (by repeat' first | exact eR | exact eA | assumption | refine eLK ?_ | refine eK ?_ | refine eS ?_ | refine eL ?_)) (by first | assumption | omega | (simp only [Bool.and_eq_true, inB_iff] at *; omega))) ?_
  refine uNot rfl ?_
  refine rN ?_
  refine qN ?_
  refine cF rfl ?_
  refine cK ?_
  refine qN ?_
  refine cS (cR ?_)
  refine asg rfl ?_
  refine rN ?_
  refine qN ?_
  refine cS (cR ?_)
  refine mv rfl ?_
  refine mv rfl ?_
  refine rC rfl ((c_markFloat32S _ _ _ 1 _ _ (lk5 ++ (lk4 ++ (lk2 ++ (lk1 ++ M)))) (by assumption) (by first | assumption | omega | (simp only [Bool.and_eq_true, inB_iff] at *; omega)) (by first | assumption | omega | (simp only [Bool.and_eq_true, inB_iff] at *; omega))).ofLess (by repeat first | exact eR | refine ext_pull ?_)) ?_
  rintro _ _ ⟨rfl, lk6, how6, rfl⟩
  refine ⟨nofun, ?_⟩
  refine asg rfl ?_
  refine rN ?_
  refine qN ?_
  refine cS ?_
  refine cS (cR ?_)
  refine mv rfl ?_
  refine bLss rfl rfl ?_
  refine mv rfl ?_
  skip
  refine gG rfl rfl (by first | exact bne_self_eq_false _ | (simp; done) | (simp; omega) | omega) ?_
  refine mv rfl ?_
  refine gG rfl rfl (by first | exact bne_self_eq_false _ | (simp; done) | (simp; omega) | omega) ?_
  refine mv rfl ?_
  refine gG rfl rfl (by first | exact bne_self_eq_false _ | (simp; done) | (simp; omega) | omega) ?_
  refine rCq rfl (c_eqFloat32S _ _ _ _ _ _ _ _ (by first | with_reducible assumption | exact RdF.mono (OwF.rdF (by assumption)) (by repeat' first | exact eR | exact eA | assumption | refine eLK ?_ | refine eK ?_ | refine eS ?_ | refine eL ?_) | exact RdF.ownm (by repeat first | assumption | exact List.Mem.head _ | refine List.Mem.tail _ ?_ | refine List.mem_append_right _ ?_) (by first | rfl | assumption | omega | simp [*]) | exact RdF.mono (by assumption) (by repeat' first | exact eR | exact eA | assumption | refine eLK ?_ | refine eK ?_ | refine eS ?_ | refine eL ?_)) (by first | with_reducible assumption | exact RdF.mono (OwF.rdF (by assumption)) (by repeat' first | exact eR | exact eA | assumption | refine eLK ?_ | refine eK ?_ | refine eS ?_ | refine eL ?_) | exact RdF.ownm (by repeat first | assumption | exact List.Mem.head _ | refine List.Mem.tail _ ?_ | refine List.mem_append_right _ ?_) (by first | rfl | assumption | omega | simp [*]) | exact RdF.mono (by assumption) (by repeat' first | exact eR | exact eA | assumption | refine eLK ?_ | refine eK ?_ | refine eS ?_ | refine eL ?_)) (by first | assumption | omega | (simp only [Bool.and_eq_true, inB_iff] at *; omega))) ?_
  refine gG rfl rfl (by first | exact bne_self_eq_false _ | (simp; done) | (simp; omega) | omega) ?_
  refine uNot rfl ?_
  refine kF rfl (by first | exact bne_self_eq_false _ | (simp; done) | (simp; omega) | omega) rfl ?_
  refine mv rfl ?_
  refine gG rfl rfl rfl ?_
  refine mv rfl ?_
  refine gG rfl rfl rfl ?_
  refine mv rfl ?_
  refine gG rfl rfl rfl ?_
  refine rp rfl ?_
  refine kF rfl rfl rfl ?_
  refine rN ?_
  refine qN ?_
  refine cFa rfl (by first | exact bne_self_eq_false _ | (simp; done) | (simp; omega) | omega) ?_
  refine cK ?_
  refine qN ?_
  refine cS (cR ?_)
  refine asg rfl ?_
  refine rN ?_
  refine qN ?_
  refine cS (cR ?_)
  refine mv rfl ?_
  refine mv rfl ?_
  refine rC rfl ((c_markFloat32S _ _ _ 1 _ _ (lk6 ++ (lk5 ++ (lk2 ++ (lk1 ++ M)))) (by assumption) (by first | assumption | omega | (simp only [Bool.and_eq_true, inB_iff] at *; omega)) (by first | assumption | omega | (simp only [Bool.and_eq_true, inB_iff] at *; omega))).ofLess (by repeat first | exact eR | refine ext_pull ?_)) ?_
  rintro _ _ ⟨rfl, lk7, how7, rfl⟩
  refine ⟨nofun, ?_⟩
  refine asg rfl ?_
  refine rN ?_
  refine qN ?_
  refine cS (cR ?_)
  refine asg rfl ?_
  refine rN ?_
  refine qN ?_
  refine cS (cR ?_)
  refine mv rfl ?_
  refine mv rfl ?_
  refine rCq rfl (c_heldFloat32S _ _ _ 1 _ _ (by first | with_reducible assumption | exact RdF.mono (OwF.rdF (by assumption)) (by repeat' first | exact eR | exact eA | assumption | refine eLK ?_ | refine eK ?_ | refine eS ?_ | refine eL ?_) | exact RdF.ownm (by repeat first | assumption | exact List.Mem.head _ | refine List.Mem.tail _ ?_ | refine List.mem_append_right _ ?_) (by first | rfl | assumption | omega | simp [*]) | exact RdF.mono (by assumption) (by repeat' first | exact eR | exact eA | assumption | refine eLK ?_ | refine eK ?_ | refine eS ?_ | refine eL ?_)) (by first | assumption | omega | (simp only [Bool.and_eq_true, inB_iff] at *; omega)) (by first | assumption | omega | (simp only [Bool.and_eq_true, inB_iff] at *; omega))) ?_
  refine asg rfl ?_
  refine rN ?_
  refine qN ?_
  refine cS ?_
  refine cS (cR ?_)
  refine mv rfl ?_
  refine bLss rfl rfl ?_
  refine rN ?_
  refine qN ?_
  refine cFa rfl (by first | exact bne_self_eq_false _ | (simp; done) | (simp; omega) | omega) ?_
  refine cK ?_
  refine qN ?_
  refine cS ?_
  refine cS (cR ?_)
  refine mv rfl ?_
  refine mv rfl ?_
  refine bNeq rfl rfl ?_
  refine rN ?_
  refine qN ?_
  refine cFa rfl (by first | exact bne_self_eq_false _ | (simp; done) | (simp; omega) | omega) ?_
  refine cK ?_
  refine qN ?_
  refine cS (cR ?_)
  refine mv rfl ?_
  refine rC rfl (c_toFloat32S _ _ _ _ _ (by first | with_reducible assumption | exact RdF.mono (OwF.rdF (by assumption)) (by repeat' first | exact eR | exact eA | assumption | refine eLK ?_ | refine eK ?_ | refine eS ?_ | refine eL ?_) | exact RdF.ownm (by repeat first | assumption | exact List.Mem.head _ | refine List.Mem.tail _ ?_ | refine List.mem_append_right _ ?_) (by first | rfl | assumption | omega | simp [*]) | exact RdF.mono (by assumption) (by repeat' first | exact eR | exact eA | assumption | refine eLK ?_ | refine eK ?_ | refine eS ?_ | refine eL ?_)) (by first | assumption | omega | (simp only [Bool.and_eq_true, inB_iff] at *; omega))) ?_
  rintro sv8 _ ⟨lk8, how8, rfl⟩
  obtain ⟨ad8, cn8, rfl, hrd8⟩ := how8.rd
  refine ⟨fun _ => eL eR, ?_⟩
  refine rC rfl (c_implFilterOfReflections _ _ _ xs _ (by first | with_reducible assumption | exact RdF.mono (OwF.rdF (by assumption)) (by repeat' first | exact eR | exact eA | assumption | refine eLK ?_ | refine eK ?_ | refine eS ?_ | refine eL ?_) | exact RdF.ownm (by repeat first | assumption | exact List.Mem.head _ | refine List.Mem.tail _ ?_ | refine List.mem_append_right _ ?_) (by first | rfl | assumption | omega | simp [*]) | exact RdF.mono (by assumption) (by repeat' first | exact eR | exact eA | assumption | refine eLK ?_ | refine eK ?_ | refine eS ?_ | refine eL ?_))) ?_
  rintro _ _ ⟨lk9, ⟨sv9, rfl, how9⟩, rfl⟩
  obtain ⟨ad9, cn9, rfl, hrd9⟩ := how9.rd
  refine ⟨fun _ => eL eR, ?_⟩
  refine mv rfl ?_
  refine xt rfl rfl rfl ?_
  refine xt rfl rfl rfl ?_
  refine asg rfl ?_
  refine asg rfl ?_
  refine rN ?_
  refine qN ?_
  refine cS ?_
  refine cS (cR ?_)
  refine mv rfl ?_
  refine mv rfl ?_
  refine rCq rfl (c_eqFloat32S _ _ _ _ _ _ _ _ (by first | with_reducible assumption | exact RdF.mono (OwF.rdF (by assumption)) (by repeat' first | exact eR | exact eA | assumption | refine eLK ?_ | refine eK ?_ | refine eS ?_ | refine eL ?_) | exact RdF.ownm (by repeat first | assumption | exact List.Mem.head _ | refine List.Mem.tail _ ?_ | refine List.mem_append_right _ ?_) (by first | rfl | assumption | omega | simp [*]) | exact RdF.mono (by assumption) (by repeat' first | exact eR | exact eA | assumption | refine eLK ?_ | refine eK ?_ | refine eS ?_ | refine eL ?_)) (by first | with_reducible assumption | exact RdF.mono (OwF.rdF (by assumption)) (by repeat' first | exact eR | exact eA | assumption | refine eLK ?_ | refine eK ?_ | refine eS ?_ | refine eL ?_) | exact RdF.ownm (by repeat first | assumption | exact List.Mem.head _ | refine List.Mem.tail _ ?_ | refine List.mem_append_right _ ?_) (by first | rfl | assumption | omega | simp [*]) | exact RdF.mono (by assumption) (by repeat' first | exact eR | exact eA | assumption | refine eLK ?_ | refine eK ?_ | refine eS ?_ | refine eL ?_)) (by first | assumption | omega | (simp only [Bool.and_eq_true, inB_iff] at *; omega))) ?_
  refine uNot rfl ?_
  refine mv rfl ?_
  refine gG rfl rfl rfl ?_
  refine mv rfl ?_
  refine gG rfl rfl rfl ?_
  refine mv rfl ?_
  refine gG rfl rfl rfl ?_
  refine rp rfl ?_
  refine kF rfl rfl rfl ?_
  refine rN ?_
  refine qN ?_
  refine cFa rfl (by first | exact bne_self_eq_false _ | (simp; done) | (simp; omega) | omega) ?_
  refine cK ?_
  refine qN ?_
  refine cS (cR ?_)
  refine asg rfl ?_
  refine rN ?_
  refine qN ?_
  refine cS (cR ?_)
  refine mv rfl ?_
  refine mv rfl ?_
  refine rCq rfl (c_heldFloat32S _ _ _ 1 _ _ (by first | with_reducible assumption | exact RdF.mono (OwF.rdF (by assumption)) (by repeat' first | exact eR | exact eA | assumption | refine eLK ?_ | refine eK ?_ | refine eS ?_ | refine eL ?_) | exact RdF.ownm (by repeat first | assumption | exact List.Mem.head _ | refine List.Mem.tail _ ?_ | refine List.mem_append_right _ ?_) (by first | rfl | assumption | omega | simp [*]) | exact RdF.mono (by assumption) (by repeat' first | exact eR | exact eA | assumption | refine eLK ?_ | refine eK ?_ | refine eS ?_ | refine eL ?_)) (by first | assumption | omega | (simp only [Bool.and_eq_true, inB_iff] at *; omega)) (by first | assumption | omega | (simp only [Bool.and_eq_true, inB_iff] at *; omega))) ?_
  refine asg rfl ?_
  refine rN ?_
  refine qN ?_
  refine cS ?_
  refine cS (cR ?_)
  refine mv rfl ?_
  refine bLss rfl rfl ?_
  refine rN ?_
  refine qN ?_
  refine cFa rfl (by first | exact bne_self_eq_false _ | (simp; done) | (simp; omega) | omega) ?_
  refine cK ?_
  refine qN ?_
  refine cS ?_
  refine cS (cR ?_)
  refine mv rfl ?_
  refine mv rfl ?_
  refine bNeq rfl rfl ?_
  refine rN ?_
  refine qN ?_
  refine cFa rfl (by first | exact bne_self_eq_false _ | (simp; done) | (simp; omega) | omega) ?_
  refine cK ?_
  refine qN ?_
  refine cS (cR ?_)
  refine asg rfl ?_
  refine rN ?_
  refine qN ?_
  refine cE ?_
  refine kE rfl rfl  ?_
  first | (exfalso; contradiction) | exact ⟨_, ⟨rfl, rfl⟩, (by repeat' first | exact eR | exact eA | assumption | refine eLK ?_ | refine eK ?_ | refine eS ?_ | refine eL ?_)⟩ | (exfalso; first | contradiction | omega | (simp_all; done) | (simp_all; omega))
end Go.Proofs.Ytjpbgldnnfcmaaa.Ab
