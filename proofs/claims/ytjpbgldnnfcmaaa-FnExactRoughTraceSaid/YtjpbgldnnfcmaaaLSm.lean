/-
  The walks of the laws FnExactSmoothTrace and FnExactRoughTrace.
-/
import Derived.Test.YtjpbgldnnfcmaaaRs
namespace Go.Proofs.Ytjpbgldnnfcmaaa.Ab
open Go Go.RowKit
attribute [local irreducible] Run Then InBlock LoopQ LQ AWp Ret ACall
set_option linter.unusedVariables false
set_option linter.unusedSimpArgs false

theorem c_lawSmoothTrace (a : Option Addr) (n c : Nat) (r : Int) (xs : List Nat) (M : Mem) (h : RdF M a n xs) :
    ACall Try.prog 9 [.slice a n c, .int .i64 r] M fun v M' => v = .bool true ∧ M' = M := by
  obtain ⟨rfl, _⟩ := id h
  have hyl : (bif smoothB xs.length r then smF xs r.toNat else []).length ≤ xs.length := by cases smoothB xs.length r <;> simp [smF_len]
  refine acall_of_awp Try.func9 rfl Try.ntmps9 rfl ?_
  refine cS (cR ?_)
  refine asg rfl ?_
  refine rN ?_
  refine qN ?_
  refine cS ?_
  refine cS (cR ?_)
  refine mv rfl ?_
  refine ln rfl ?_
  refine bGtr rfl rfl ?_
  refine rN ?_
  refine qN ?_
  refine cC rfl (fun c1 => ?_) (fun c1 => ?_)
  · have c1' := c1; try simp only [decide_eq_true_eq, decide_eq_false_iff_not, beq_iff_eq, beq_eq_false_iff_ne, bne_iff_ne, bne_eq_false_iff_eq, ne_eq] at c1'
    refine cS (cR ?_)
    refine asg rfl ?_
    refine rN ?_
    refine qN ?_
    refine cE ?_
    refine qE ?_
    refine kE rfl rfl  ?_
    first | exact ⟨_, ⟨rfl, rfl⟩, (by repeat' first | exact eR | exact eA | assumption | refine eLK ?_ | refine eK ?_ | refine eS ?_ | refine eL ?_)⟩
  have c1' := c1; try simp only [decide_eq_true_eq, decide_eq_false_iff_not, beq_iff_eq, beq_eq_false_iff_ne, bne_iff_ne, bne_eq_false_iff_eq, ne_eq] at c1'
  refine cK ?_
  refine qN ?_
  refine cS (cR ?_)
  refine mv rfl ?_
  refine rC rfl (c_toFloat32S _ _ _ _ _ (by first | with_reducible assumption | exact RdF.mono (OwF.rdF (by assumption)) (by repeat' first | exact eR | exact eA | assumption | refine eLK ?_ | refine eK ?_ | refine eS ?_ | refine eL ?_) | exact RdF.ownm (by repeat first | assumption | exact List.Mem.head _ | refine List.Mem.tail _ ?_ | refine List.mem_append_right _ ?_) (by first | rfl | assumption | omega | simp [*]) | exact RdF.mono (by assumption) (by repeat' first | exact eR | exact eA | assumption | refine eLK ?_ | refine eK ?_ | refine eS ?_ | refine eL ?_)) (by first | assumption | omega | (simp only [Bool.and_eq_true, inB_iff] at *; omega))) ?_
  rintro sv1 _ ⟨lk1, how1, rfl⟩
  obtain ⟨ad1, cn1, rfl, hrd1⟩ := how1.rd
  refine ⟨fun _ => eL eR, ?_⟩
  refine mv rfl ?_
  refine rC rfl (c_specSmoothTrace _ _ _ _ xs _ (by first | with_reducible assumption | exact RdF.mono (OwF.rdF (by assumption)) (by repeat' first | exact eR | exact eA | assumption | refine eLK ?_ | refine eK ?_ | refine eS ?_ | refine eL ?_) | exact RdF.ownm (by repeat first | assumption | exact List.Mem.head _ | refine List.Mem.tail _ ?_ | refine List.mem_append_right _ ?_) (by first | rfl | assumption | omega | simp [*]) | exact RdF.mono (by assumption) (by repeat' first | exact eR | exact eA | assumption | refine eLK ?_ | refine eK ?_ | refine eS ?_ | refine eL ?_)) (by first | assumption | omega | (simp only [Bool.and_eq_true, inB_iff] at *; omega))) ?_
  rintro _ _ ⟨lk2, ⟨sv2, rfl, how2⟩, rfl⟩
  obtain ⟨ad2, cn2, rfl, hrd2⟩ := how2.rd
  refine ⟨fun _ => eL eR, ?_⟩
  refine mv rfl ?_
  refine xt rfl rfl rfl ?_
  refine xt rfl rfl rfl ?_
  refine asg rfl ?_
  refine asg rfl ?_
  refine rN ?_
  refine qN ?_
  refine cS (cR ?_)
  refine mv rfl ?_
  refine rC rfl (c_toFloat32S _ _ _ _ _ (by first | with_reducible assumption | exact RdF.mono (OwF.rdF (by assumption)) (by repeat' first | exact eR | exact eA | assumption | refine eLK ?_ | refine eK ?_ | refine eS ?_ | refine eL ?_) | exact RdF.ownm (by repeat first | assumption | exact List.Mem.head _ | refine List.Mem.tail _ ?_ | refine List.mem_append_right _ ?_) (by first | rfl | assumption | omega | simp [*]) | exact RdF.mono (by assumption) (by repeat' first | exact eR | exact eA | assumption | refine eLK ?_ | refine eK ?_ | refine eS ?_ | refine eL ?_)) (by first | assumption | omega | (simp only [Bool.and_eq_true, inB_iff] at *; omega))) ?_
  rintro sv3 _ ⟨lk3, how3, rfl⟩
  obtain ⟨ad3, cn3, rfl, hrd3⟩ := how3.rd
  refine ⟨fun _ => eL eR, ?_⟩
  refine asg rfl ?_
  refine rN ?_
  refine qN ?_
  refine cS (cR ?_)
  refine mv rfl ?_
  refine mv rfl ?_
  refine rC rfl (c_implSmoothTrace _ _ _ _ xs _ (by first | with_reducible assumption | exact RdF.mono (OwF.rdF (by assumption)) (by repeat' first | exact eR | exact eA | assumption | refine eLK ?_ | refine eK ?_ | refine eS ?_ | refine eL ?_) | exact RdF.ownm (by repeat first | assumption | exact List.Mem.head _ | refine List.Mem.tail _ ?_ | refine List.mem_append_right _ ?_) (by first | rfl | assumption | omega | simp [*]) | exact RdF.mono (by assumption) (by repeat' first | exact eR | exact eA | assumption | refine eLK ?_ | refine eK ?_ | refine eS ?_ | refine eL ?_)) (by first | assumption | omega | (simp only [Bool.and_eq_true, inB_iff] at *; omega))) ?_
  rintro _ _ ⟨lk4, ⟨sv4, rfl, how4⟩, rfl⟩
  obtain ⟨ad4, cn4, rfl, hrd4⟩ := how4.rd
  refine ⟨fun _ => eL eR, ?_⟩
  refine mv rfl ?_
  refine xt rfl rfl rfl ?_
  refine xt rfl rfl rfl ?_
  refine asg rfl ?_
  refine asg rfl ?_
  refine rN ?_
  refine qN ?_
  refine cS ?_
  refine cS (cR ?_)
  refine mv rfl ?_
  refine mv rfl ?_
  refine rCq rfl (c_eqFloat32S _ _ _ _ _ _ _ _ (by first | with_reducible assumption | exact RdF.mono (OwF.rdF (by assumption)) (by repeat' first | exact eR | exact eA | assumption | refine eLK ?_ | refine eK ?_ | refine eS ?_ | refine eL ?_) | exact RdF.ownm (by repeat first | assumption | exact List.Mem.head _ | refine List.Mem.tail _ ?_ | refine List.mem_append_right _ ?_) (by first | rfl | assumption | omega | simp [*]) | exact RdF.mono (by assumption) (by repeat' first | exact eR | exact eA | assumption | refine eLK ?_ | refine eK ?_ | refine eS ?_ | refine eL ?_)) (by first | with_reducible assumption | exact RdF.mono (OwF.rdF (by assumption)) (by repeat' first | exact eR | exact eA | assumption | refine eLK ?_ | refine eK ?_ | refine eS ?_ | refine eL ?_) | exact RdF.ownm (by repeat first | assumption | exact List.Mem.head _ | refine List.Mem.tail _ ?_ | refine List.mem_append_right _ ?_) (by first | rfl | assumption | omega | simp [*]) | exact RdF.mono (by assumption) (by repeat' first | exact eR | exact eA | assumption | refine eLK ?_ | refine eK ?_ | refine eS ?_ | refine eL ?_)) (by first | assumption | omega | (simp only [Bool.and_eq_true, inB_iff] at *; omega))) ?_
  refine uNot rfl ?_
  refine mv rfl ?_
  refine gG rfl rfl rfl ?_
  refine mv rfl ?_
  refine gG rfl rfl rfl ?_
  refine mv rfl ?_
  refine gG rfl rfl rfl ?_
  refine rp rfl ?_
  refine kF rfl rfl rfl ?_
  refine rN ?_
  refine qN ?_
  refine cFa rfl (by first | exact bne_self_eq_false _ | (simp; done) | (simp; omega) | omega) ?_
  refine cK ?_
  refine qN ?_
  refine cS ?_
  refine cS (cR ?_)
  refine mv rfl ?_
  refine mv rfl ?_
  refine rC rfl (c_toFloat32S _ _ _ _ _ (by first | with_reducible assumption | exact RdF.mono (OwF.rdF (by assumption)) (by repeat' first | exact eR | exact eA | assumption | refine eLK ?_ | refine eK ?_ | refine eS ?_ | refine eL ?_) | exact RdF.ownm (by repeat first | assumption | exact List.Mem.head _ | refine List.Mem.tail _ ?_ | refine List.mem_append_right _ ?_) (by first | rfl | assumption | omega | simp [*]) | exact RdF.mono (by assumption) (by repeat' first | exact eR | exact eA | assumption | refine eLK ?_ | refine eK ?_ | refine eS ?_ | refine eL ?_)) (by first | assumption | omega | (simp only [Bool.and_eq_true, inB_iff] at *; omega))) ?_
  rintro sv5 _ ⟨lk5, how5, rfl⟩
  obtain ⟨ad5, cn5, rfl, hrd5⟩ := how5.rd
  refine ⟨fun _ => eL eR, ?_⟩
  refine rCq rfl (c_eqFloat32S _ _ _ _ _ _ _ _ (by first | with_reducible assumption | exact RdF.mono (OwF.rdF (by assumption)) (by repeat' first | exact eR | exact eA | assumption | refine eLK ?_ | refine eK ?_ | refine eS ?_ | refine eL ?_) | exact RdF.ownm (by repeat first | assumption | exact List.Mem.head _ | refine List.Mem.tail _ ?_ | refine List.mem_append_right _ ?_) (by first | rfl | assumption | omega | simp [*]) | exact RdF.mono (by assumption) (by repeat' first | exact eR | exact eA | assumption | refine eLK ?_ | refine eK ?_ | refine eS ?_ | refine eL ?_)) (by first | with_reducible assumption | exact RdF.mono (OwF.rdF (by assumption)) (by repeat' first | exact eR | exact eA | assumption | refine eLK ?_ | refine eK ?_ | refine eS ?_ | refine eL ?_) | exact RdF.ownm (by repeat first | assumption | exact List.Mem.head _ | refine List.Mem.tail _ ?_ | refine List.mem_append_right _ ?_) (by first | rfl | assumption | omega | simp [*]) | exact RdF.mono (by assumption) (by repeat' first | exact eR | exact eA | assumption | refine eLK ?_ | refine eK ?_ | refine eS ?_ | refine eL ?_)) (by first | assumption | omega | (simp only [Bool.and_eq_true, inB_iff] at *; omega))) ?_
  refine uNot rfl ?_
  refine rN ?_
  refine qN ?_
  refine cF rfl ?_
  refine cK ?_
  refine qN ?_
  refine cS (cR ?_)
  refine asg rfl ?_
  refine rN ?_
  refine qN ?_
  refine cS (cR ?_)
  refine mv rfl ?_
  refine mv rfl ?_
  refine rC rfl ((c_markFloat32S _ _ _ 1 _ _ (lk5 ++ (lk4 ++ (lk2 ++ (lk1 ++ M)))) (by assumption) (by first | assumption | omega | (simp only [Bool.and_eq_true, inB_iff] at *; omega)) (by first | assumption | omega | (simp only [Bool.and_eq_true, inB_iff] at *; omega))).ofLess (by repeat first | exact eR | refine ext_pull ?_)) ?_
  rintro _ _ ⟨rfl, lk6, how6, rfl⟩
  refine ⟨nofun, ?_⟩
  refine asg rfl ?_
  refine rN ?_
  refine qN ?_
  refine cS ?_
  refine cS (cR ?_)
  refine mv rfl ?_
  refine bLss rfl rfl ?_
  refine mv rfl ?_
  skip
  refine gG rfl rfl (by first | exact bne_self_eq_false _ | (simp; done) | (simp; omega) | omega) ?_
  refine mv rfl ?_
  refine gG rfl rfl (by first | exact bne_self_eq_false _ | (simp; done) | (simp; omega) | omega) ?_
  refine mv rfl ?_
  refine gG rfl rfl (by first | exact bne_self_eq_false _ | (simp; done) | (simp; omega) | omega) ?_
  refine rCq rfl (c_eqFloat32S _ _ _ _ _ _ _ _ (by first | with_reducible assumption | exact RdF.mono (OwF.rdF (by assumption)) (by repeat' first | exact eR | exact eA | assumption | refine eLK ?_ | refine eK ?_ | refine eS ?_ | refine eL ?_) | exact RdF.ownm (by repeat first | assumption | exact List.Mem.head _ | refine List.Mem.tail _ ?_ | refine List.mem_append_right _ ?_) (by first | rfl | assumption | omega | simp [*]) | exact RdF.mono (by assumption) (by repeat' first | exact eR | exact eA | assumption | refine eLK ?_ | refine eK ?_ | refine eS ?_ | refine eL ?_)) (by first | with_reducible assumption | exact RdF.mono (OwF.rdF (by assumption)) (by repeat' first | exact eR | exact eA | assumption | refine eLK ?_ | refine eK ?_ | refine eS ?_ | refine eL ?_) | exact RdF.ownm (by repeat first | assumption | exact List.Mem.head _ | refine List.Mem.tail _ ?_ | refine List.mem_append_right _ ?_) (by first | rfl | assumption | omega | simp [*]) | exact RdF.mono (by assumption) (by repeat' first | exact eR | exact eA | assumption | refine eLK ?_ | refine eK ?_ | refine eS ?_ | refine eL ?_)) (by first | assumption | omega | (simp only [Bool.and_eq_true, inB_iff] at *; omega))) ?_
  refine gG rfl rfl (by first | exact bne_self_eq_false _ | (simp; done) | (simp; omega) | omega) ?_
  refine uNot rfl ?_
  refine kF rfl (by first | exact bne_self_eq_false _ | (simp; done) | (simp; omega) | omega) rfl ?_
  refine mv rfl ?_
  refine gG rfl rfl rfl ?_
  refine mv rfl ?_
  refine gG rfl rfl rfl ?_
  refine mv rfl ?_
  refine gG rfl rfl rfl ?_
  refine rp rfl ?_
  refine kF rfl rfl rfl ?_
  refine rN ?_
  refine qN ?_
  refine cFa rfl (by first | exact bne_self_eq_false _ | (simp; done) | (simp; omega) | omega) ?_
  refine cK ?_
  refine qN ?_
  refine cS (cR ?_)
  refine asg rfl ?_
  refine rN ?_
  refine qN ?_
  refine cS (cR ?_)
  refine mv rfl ?_
  refine mv rfl ?_
  refine rC rfl ((c_markFloat32S _ _ _ 1 _ _ (lk6 ++ (lk5 ++ (lk2 ++ (lk1 ++ M)))) (by assumption) (by first | assumption | omega | (simp only [Bool.and_eq_true, inB_iff] at *; omega)) (by first | assumption | omega | (simp only [Bool.and_eq_true, inB_iff] at *; omega))).ofLess (by repeat first | exact eR | refine ext_pull ?_)) ?_
  rintro _ _ ⟨rfl, lk7, how7, rfl⟩
  refine ⟨nofun, ?_⟩
  refine asg rfl ?_
  refine rN ?_
  refine qN ?_
  refine cS (cR ?_)
  refine asg rfl ?_
  refine rN ?_
  refine qN ?_
  refine cS (cR ?_)
  refine mv rfl ?_
  refine mv rfl ?_
  refine rCq rfl (c_heldFloat32S _ _ _ 1 _ _ (by first | with_reducible assumption | exact RdF.mono (OwF.rdF (by assumption)) (by repeat' first | exact eR | exact eA | assumption | refine eLK ?_ | refine eK ?_ | refine eS ?_ | refine eL ?_) | exact RdF.ownm (by repeat first | assumption | exact List.Mem.head _ | refine List.Mem.tail _ ?_ | refine List.mem_append_right _ ?_) (by first | rfl | assumption | omega | simp [*]) | exact RdF.mono (by assumption) (by repeat' first | exact eR | exact eA | assumption | refine eLK ?_ | refine eK ?_ | refine eS ?_ | refine eL ?_)) (by first | assumption | omega | (simp only [Bool.and_eq_true, inB_iff] at *; omega)) (by first | assumption | omega | (simp only [Bool.and_eq_true, inB_iff] at *; omega))) ?_
  refine asg rfl ?_
  refine rN ?_
  refine qN ?_
  refine cS ?_
  refine cS (cR ?_)
  refine mv rfl ?_
  refine bLss rfl rfl ?_
  refine rN ?_
  refine qN ?_
  refine cFa rfl (by first | exact bne_self_eq_false _ | (simp; done) | (simp; omega) | omega) ?_
  refine cK ?_
  refine qN ?_
  refine cS ?_
  refine cS (cR ?_)
  refine mv rfl ?_
  refine mv rfl ?_
  refine bNeq rfl rfl ?_
  refine rN ?_
  refine qN ?_
  refine cFa rfl (by first | exact bne_self_eq_false _ | (simp; done) | (simp; omega) | omega) ?_
  refine cK ?_
  refine qN ?_
  refine cS (cR ?_)
  refine mv rfl ?_
  refine rC rfl (c_toFloat32S _ _ _ _ _ (by first | with_reducible assumption | exact RdF.mono (OwF.rdF (by assumption)) (by repeat' first | exact eR | exact eA | assumption | refine eLK ?_ | refine eK ?_ | refine eS ?_ | refine eL ?_) | exact RdF.ownm (by repeat first | assumption | exact List.Mem.head _ | refine List.Mem.tail _ ?_ | refine List.mem_append_right _ ?_) (by first | rfl | assumption | omega | simp [*]) | exact RdF.mono (by assumption) (by repeat' first | exact eR | exact eA | assumption | refine eLK ?_ | refine eK ?_ | refine eS ?_ | refine eL ?_)) (by first | assumption | omega | (simp only [Bool.and_eq_true, inB_iff] at *; omega))) ?_
  rintro sv8 _ ⟨lk8, how8, rfl⟩
  obtain ⟨ad8, cn8, rfl, hrd8⟩ := how8.rd
  refine ⟨fun _ => eL eR, ?_⟩
  refine mv rfl ?_
  refine rC rfl (c_implSmoothTrace _ _ _ _ xs _ (by first | with_reducible assumption | exact RdF.mono (OwF.rdF (by assumption)) (by repeat' first | exact eR | exact eA | assumption | refine eLK ?_ | refine eK ?_ | refine eS ?_ | refine eL ?_) | exact RdF.ownm (by repeat first | assumption | exact List.Mem.head _ | refine List.Mem.tail _ ?_ | refine List.mem_append_right _ ?_) (by first | rfl | assumption | omega | simp [*]) | exact RdF.mono (by assumption) (by repeat' first | exact eR | exact eA | assumption | refine eLK ?_ | refine eK ?_ | refine eS ?_ | refine eL ?_)) (by first | assumption | omega | (simp only [Bool.and_eq_true, inB_iff] at *; omega))) ?_
  rintro _ _ ⟨lk9, ⟨sv9, rfl, how9⟩, rfl⟩
  obtain ⟨ad9, cn9, rfl, hrd9⟩ := how9.rd
  refine ⟨fun _ => eL eR, ?_⟩
  refine mv rfl ?_
  refine xt rfl rfl rfl ?_
  refine xt rfl rfl rfl ?_
  refine asg rfl ?_
  refine asg rfl ?_
  refine rN ?_
  refine qN ?_
  refine cS ?_
  refine cS (cR ?_)
  refine mv rfl ?_
  refine mv rfl ?_
  refine rCq rfl (c_eqFloat32S _ _ _ _ _ _ _ _ (by first | with_reducible assumption | exact RdF.mono (OwF.rdF (by assumption)) (by repeat' first | exact eR | exact eA | assumption | refine eLK ?_ | refine eK ?_ | refine eS ?_ | refine eL ?_) | exact RdF.ownm (by repeat first | assumption | exact List.Mem.head _ | refine List.Mem.tail _ ?_ | refine List.mem_append_right _ ?_) (by first | rfl | assumption | omega | simp [*]) | exact RdF.mono (by assumption) (by repeat' first | exact eR | exact eA | assumption | refine eLK ?_ | refine eK ?_ | refine eS ?_ | refine eL ?_)) (by first | with_reducible assumption | exact RdF.mono (OwF.rdF (by assumption)) (by repeat' first | exact eR | exact eA | assumption | refine eLK ?_ | refine eK ?_ | refine eS ?_ | refine eL ?_) | exact RdF.ownm (by repeat first | assumption | exact List.Mem.head _ | refine List.Mem.tail _ ?_ | refine List.mem_append_right _ ?_) (by first | rfl | assumption | omega | simp [*]) | exact RdF.mono (by assumption) (by repeat' first | exact eR | exact eA | assumption | refine eLK ?_ | refine eK ?_ | refine eS ?_ | refine eL ?_)) (by first | assumption | omega | (simp only [Bool.and_eq_true, inB_iff] at *; omega))) ?_
  refine uNot rfl ?_
  refine mv rfl ?_
  refine gG rfl rfl rfl ?_
  refine mv rfl ?_
  refine gG rfl rfl rfl ?_
  refine mv rfl ?_
  refine gG rfl rfl rfl ?_
  refine rp rfl ?_
  refine kF rfl rfl rfl ?_
  refine rN ?_
  refine qN ?_
  refine cFa rfl (by first | exact bne_self_eq_false _ | (simp; done) | (simp; omega) | omega) ?_
  refine cK ?_
  refine qN ?_
  refine cS (cR ?_)
  refine asg rfl ?_
  refine rN ?_
  refine qN ?_
  refine cS (cR ?_)
  refine mv rfl ?_
  refine mv rfl ?_
  refine rCq rfl (c_heldFloat32S _ _ _ 1 _ _ (by first | with_reducible assumption | exact RdF.mono (OwF.rdF (by assumption)) (by repeat' first | exact eR | exact eA | assumption | refine eLK ?_ | refine eK ?_ | refine eS ?_ | refine eL ?_) | exact RdF.ownm (by repeat first | assumption | exact List.Mem.head _ | refine List.Mem.tail _ ?_ | refine List.mem_append_right _ ?_) (by first | rfl | assumption | omega | simp [*]) | exact RdF.mono (by assumption) (by repeat' first | exact eR | exact eA | assumption | refine eLK ?_ | refine eK ?_ | refine eS ?_ | refine eL ?_)) (by first | assumption | omega | (simp only [Bool.and_eq_true, inB_iff] at *; omega)) (by first | assumption | omega | (simp only [Bool.and_eq_true, inB_iff] at *; omega))) ?_
  refine asg rfl ?_
  refine rN ?_
  refine qN ?_
  refine cS ?_
  refine cS (cR ?_)
  refine mv rfl ?_
  refine bLss rfl rfl ?_
  refine rN ?_
  refine qN ?_
  refine cFa rfl (by first | exact bne_self_eq_false _ | (simp; done) | (simp; omega) | omega) ?_
  refine cK ?_
  refine qN ?_
  refine cS ?_
  refine cS (cR ?_)
  refine mv rfl ?_
  refine mv rfl ?_
  refine bNeq rfl rfl ?_
  refine rN ?_
  refine qN ?_
  refine cFa rfl (by first | exact bne_self_eq_false _ | (simp; done) | (simp; omega) | omega) ?_
  refine cK ?_
  refine qN ?_
  refine cS (cR ?_)
  refine asg rfl ?_
  refine rN ?_
  refine qN ?_
  refine cE ?_
  refine kE rfl rfl  ?_
  first | exact ⟨_, ⟨rfl, rfl⟩, (by repeat' first | exact eR | exact eA | assumption | refine eLK ?_ | refine eK ?_ | refine eS ?_ | refine eL ?_)⟩
theorem c_lawRoughTrace (a : Option Addr) (n c : Nat) (r : Int) (xs : List Nat) (M : Mem) (h : RdF M a n xs) :
    ACall Try.prog 10 [.slice a n c, .int .i64 r] M fun v M' => v = .bool true ∧ M' = M := by
  obtain ⟨rfl, _⟩ := id h
  have hyl : (bif smoothB xs.length r then lsF xs (smF xs r.toNat) else []).length ≤ xs.length := by cases smoothB xs.length r <;> simp [lsF, tab_len]
  refine acall_of_awp Try.func10 rfl Try.ntmps10 rfl ?_
  refine cS (cR ?_)
  refine asg rfl ?_
  refine rN ?_
  refine qN ?_
  refine cS ?_
  refine cS (cR ?_)
  refine mv rfl ?_
  refine ln rfl ?_
  refine bGtr rfl rfl ?_
  refine rN ?_
  refine qN ?_
  refine cC rfl (fun c1 => ?_) (fun c1 => ?_)
  · have c1' := c1; try simp only [decide_eq_true_eq, decide_eq_false_iff_not, beq_iff_eq, beq_eq_false_iff_ne, bne_iff_ne, bne_eq_false_iff_eq, ne_eq] at c1'
    refine cS (cR ?_)
    refine asg rfl ?_
    refine rN ?_
    refine qN ?_
    refine cE ?_
    refine qE ?_
    refine kE rfl rfl  ?_
    first | exact ⟨_, ⟨rfl, rfl⟩, (by repeat' first | exact eR | exact eA | assumption | refine eLK ?_ | refine eK ?_ | refine eS ?_ | refine eL ?_)⟩
  have c1' := c1; try simp only [decide_eq_true_eq, decide_eq_false_iff_not, beq_iff_eq, beq_eq_false_iff_ne, bne_iff_ne, bne_eq_false_iff_eq, ne_eq] at c1'
  refine cK ?_
  refine qN ?_
  refine cS (cR ?_)
  refine mv rfl ?_
  refine rC rfl (c_toFloat32S _ _ _ _ _ (by first | with_reducible assumption | exact RdF.mono (OwF.rdF (by assumption)) (by repeat' first | exact eR | exact eA | assumption | refine eLK ?_ | refine eK ?_ | refine eS ?_ | refine eL ?_) | exact RdF.ownm (by repeat first | assumption | exact List.Mem.head _ | refine List.Mem.tail _ ?_ | refine List.mem_append_right _ ?_) (by first | rfl | assumption | omega | simp [*]) | exact RdF.mono (by assumption) (by repeat' first | exact eR | exact eA | assumption | refine eLK ?_ | refine eK ?_ | refine eS ?_ | refine eL ?_)) (by first | assumption | omega | (simp only [Bool.and_eq_true, inB_iff] at *; omega))) ?_
  rintro sv1 _ ⟨lk1, how1, rfl⟩
  obtain ⟨ad1, cn1, rfl, hrd1⟩ := how1.rd
  refine ⟨fun _ => eL eR, ?_⟩
  refine mv rfl ?_
  refine rC rfl (c_specRoughTrace _ _ _ _ xs _ (by first | with_reducible assumption | exact RdF.mono (OwF.rdF (by assumption)) (by repeat' first | exact eR | exact eA | assumption | refine eLK ?_ | refine eK ?_ | refine eS ?_ | refine eL ?_) | exact RdF.ownm (by repeat first | assumption | exact List.Mem.head _ | refine List.Mem.tail _ ?_ | refine List.mem_append_right _ ?_) (by first | rfl | assumption | omega | simp [*]) | exact RdF.mono (by assumption) (by repeat' first | exact eR | exact eA | assumption | refine eLK ?_ | refine eK ?_ | refine eS ?_ | refine eL ?_)) (by first | assumption | omega | (simp only [Bool.and_eq_true, inB_iff] at *; omega))) ?_
  rintro _ _ ⟨lk2, ⟨sv2, rfl, how2⟩, rfl⟩
  obtain ⟨ad2, cn2, rfl, hrd2⟩ := how2.rd
  refine ⟨fun _ => eL eR, ?_⟩
  refine mv rfl ?_
  refine xt rfl rfl rfl ?_
  refine xt rfl rfl rfl ?_
  refine asg rfl ?_
  refine asg rfl ?_
  refine rN ?_
  refine qN ?_
  refine cS (cR ?_)
  refine mv rfl ?_
  refine rC rfl (c_toFloat32S _ _ _ _ _ (by first | with_reducible assumption | exact RdF.mono (OwF.rdF (by assumption)) (by repeat' first | exact eR | exact eA | assumption | refine eLK ?_ | refine eK ?_ | refine eS ?_ | refine eL ?_) | exact RdF.ownm (by repeat first | assumption | exact List.Mem.head _ | refine List.Mem.tail _ ?_ | refine List.mem_append_right _ ?_) (by first | rfl | assumption | omega | simp [*]) | exact RdF.mono (by assumption) (by repeat' first | exact eR | exact eA | assumption | refine eLK ?_ | refine eK ?_ | refine eS ?_ | refine eL ?_)) (by first | assumption | omega | (simp only [Bool.and_eq_true, inB_iff] at *; omega))) ?_
  rintro sv3 _ ⟨lk3, how3, rfl⟩
  obtain ⟨ad3, cn3, rfl, hrd3⟩ := how3.rd
  refine ⟨fun _ => eL eR, ?_⟩
  refine asg rfl ?_
  refine rN ?_
  refine qN ?_
  refine cS (cR ?_)
  refine mv rfl ?_
  refine mv rfl ?_
  refine rC rfl (c_implRoughTrace _ _ _ _ xs _ (by first | with_reducible assumption | exact RdF.mono (OwF.rdF (by assumption)) (by repeat' first | exact eR | exact eA | assumption | refine eLK ?_ | refine eK ?_ | refine eS ?_ | refine eL ?_) | exact RdF.ownm (by repeat first | assumption | exact List.Mem.head _ | refine List.Mem.tail _ ?_ | refine List.mem_append_right _ ?_) (by first | rfl | assumption | omega | simp [*]) | exact RdF.mono (by assumption) (by repeat' first | exact eR | exact eA | assumption | refine eLK ?_ | refine eK ?_ | refine eS ?_ | refine eL ?_)) (by first | assumption | omega | (simp only [Bool.and_eq_true, inB_iff] at *; omega))) ?_
  rintro _ _ ⟨lk4, ⟨sv4, rfl, how4⟩, rfl⟩
  obtain ⟨ad4, cn4, rfl, hrd4⟩ := how4.rd
  refine ⟨fun _ => eL eR, ?_⟩
  refine mv rfl ?_
  refine xt rfl rfl rfl ?_
  refine xt rfl rfl rfl ?_
  refine asg rfl ?_
  refine asg rfl ?_
  refine rN ?_
  refine qN ?_
  refine cS ?_
  refine cS (cR ?_)
  refine mv rfl ?_
  refine mv rfl ?_
  refine rCq rfl (c_eqFloat32S _ _ _ _ _ _ _ _ (by first | with_reducible assumption | exact RdF.mono (OwF.rdF (by assumption)) (by repeat' first | exact eR | exact eA | assumption | refine eLK ?_ | refine eK ?_ | refine eS ?_ | refine eL ?_) | exact RdF.ownm (by repeat first | assumption | exact List.Mem.head _ | refine List.Mem.tail _ ?_ | refine List.mem_append_right _ ?_) (by first | rfl | assumption | omega | simp [*]) | exact RdF.mono (by assumption) (by repeat' first | exact eR | exact eA | assumption | refine eLK ?_ | refine eK ?_ | refine eS ?_ | refine eL ?_)) (by first | with_reducible assumption | exact RdF.mono (OwF.rdF (by assumption)) (by repeat' first | exact eR | exact eA | assumption | refine eLK ?_ | refine eK ?_ | refine eS ?_ | refine eL ?_) | exact RdF.ownm (by repeat first | assumption | exact List.Mem.head _ | refine List.Mem.tail _ ?_ | refine List.mem_append_right _ ?_) (by first | rfl | assumption | omega | simp [*]) | exact RdF.mono (by assumption) (by repeat' first | exact eR | exact eA | assumption | refine eLK ?_ | refine eK ?_ | refine eS ?_ | refine eL ?_)) (by first | assumption | omega | (simp only [Bool.and_eq_true, inB_iff] at *; omega))) ?_
  refine uNot rfl ?_
  refine mv rfl ?_
  refine gG rfl rfl rfl ?_
  refine mv rfl ?_
  refine gG rfl rfl rfl ?_
  refine mv rfl ?_
  refine gG rfl rfl rfl ?_
  refine rp rfl ?_
  refine kF rfl rfl rfl ?_
  refine rN ?_
  refine qN ?_
  refine cFa rfl (by first | exact bne_self_eq_false _ | (simp; done) | (simp; omega) | omega) ?_
  refine cK ?_
  refine qN ?_
  refine cS ?_
  refine cS (cR ?_)
  refine mv rfl ?_
  refine mv rfl ?_
  refine rC rfl (c_toFloat32S _ _ _ _ _ (by first | with_reducible assumption | exact RdF.mono (OwF.rdF (by assumption)) (by repeat' first | exact eR | exact eA | assumption | refine eLK ?_ | refine eK ?_ | refine eS ?_ | refine eL ?_) | exact RdF.ownm (by repeat first | assumption | exact List.Mem.head _ | refine List.Mem.tail _ ?_ | refine List.mem_append_right _ ?_) (by first | rfl | assumption | omega | simp [*]) | exact RdF.mono (by assumption) (by repeat' first | exact eR | exact eA | assumption | refine eLK ?_ | refine eK ?_ | refine eS ?_ | refine eL ?_)) (by first | assumption | omega | (simp only [Bool.and_eq_true, inB_iff] at *; omega))) ?_
  rintro sv5 _ ⟨lk5, how5, rfl⟩
  obtain ⟨ad5, cn5, rfl, hrd5⟩ := how5.rd
  refine ⟨fun _ => eL eR, ?_⟩
  refine rCq rfl (c_eqFloat32S _ _ _ _ _ _ _ _ (by first | with_reducible assumption | exact RdF.mono (OwF.rdF (by assumption)) (by repeat' first | exact eR | exact eA | assumption | refine eLK ?_ | refine eK ?_ | refine eS ?_ | refine eL ?_) | exact RdF.ownm (by repeat first | assumption | exact List.Mem.head _ | refine List.Mem.tail _ ?_ | refine List.mem_append_right _ ?_) (by first | rfl | assumption | omega | simp [*]) | exact RdF.mono (by assumption) (by repeat' first | exact eR | exact eA | assumption | refine eLK ?_ | refine eK ?_ | refine eS ?_ | refine eL ?_)) (by first | with_reducible assumption | exact RdF.mono (OwF.rdF (by assumption)) (by repeat' first | exact eR | exact eA | assumption | refine eLK ?_ | refine eK ?_ | refine eS ?_ | refine eL ?_) | exact RdF.ownm (by repeat first | assumption | exact List.Mem.head _ | refine List.Mem.tail _ ?_ | refine List.mem_append_right _ ?_) (by first | rfl | assumption | omega | simp [*]) | exact RdF.mono (by assumption) (by repeat' first | exact eR | exact eA | assumption | refine eLK ?_ | refine eK ?_ | refine eS ?_ | refine eL ?_)) (by first | assumption | omega | (simp only [Bool.and_eq_true, inB_iff] at *; omega))) ?_
  refine uNot rfl ?_
  refine rN ?_
  refine qN ?_
  refine cF rfl ?_
  refine cK ?_
  refine qN ?_
  refine cS (cR ?_)
  refine asg rfl ?_
  refine rN ?_
  refine qN ?_
  refine cS (cR ?_)
  refine mv rfl ?_
  refine mv rfl ?_
  refine rC rfl ((c_markFloat32S _ _ _ 1 _ _ (lk5 ++ (lk4 ++ (lk2 ++ (lk1 ++ M)))) (by assumption) (by first | assumption | omega | (simp only [Bool.and_eq_true, inB_iff] at *; omega)) (by first | assumption | omega | (simp only [Bool.and_eq_true, inB_iff] at *; omega))).ofLess (by repeat first | exact eR | refine ext_pull ?_)) ?_
  rintro _ _ ⟨rfl, lk6, how6, rfl⟩
  refine ⟨nofun, ?_⟩
  refine asg rfl ?_
  refine rN ?_
  refine qN ?_
  refine cS ?_
  refine cS (cR ?_)
  refine mv rfl ?_
  refine bLss rfl rfl ?_
  refine mv rfl ?_
  skip
  refine gG rfl rfl (by first | exact bne_self_eq_false _ | (simp; done) | (simp; omega) | omega) ?_
  refine mv rfl ?_
  refine gG rfl rfl (by first | exact bne_self_eq_false _ | (simp; done) | (simp; omega) | omega) ?_
  refine mv rfl ?_
  refine gG rfl rfl (by first | exact bne_self_eq_false _ | (simp; done) | (simp; omega) | omega) ?_
  refine rCq rfl (c_eqFloat32S _ _ _ _ _ _ _ _ (by first | with_reducible assumption | exact RdF.mono (OwF.rdF (by assumption)) (by repeat' first | exact eR | exact eA | assumption | refine eLK ?_ | refine eK ?_ | refine eS ?_ | refine eL ?_) | exact RdF.ownm (by repeat first | assumption | exact List.Mem.head _ | refine List.Mem.tail _ ?_ | refine List.mem_append_right _ ?_) (by first | rfl | assumption | omega | simp [*]) | exact RdF.mono (by assumption) (by repeat' first | exact eR | exact eA | assumption | refine eLK ?_ | refine eK ?_ | refine eS ?_ | refine eL ?_)) (by first | with_reducible assumption | exact RdF.mono (OwF.rdF (by assumption)) (by repeat' first | exact eR | exact eA | assumption | refine eLK ?_ | refine eK ?_ | refine eS ?_ | refine eL ?_) | exact RdF.ownm (by repeat first | assumption | exact List.Mem.head _ | refine List.Mem.tail _ ?_ | refine List.mem_append_right _ ?_) (by first | rfl | assumption | omega | simp [*]) | exact RdF.mono (by assumption) (by repeat' first | exact eR | exact eA | assumption | refine eLK ?_ | refine eK ?_ | refine eS ?_ | refine eL ?_)) (by first | assumption | omega | (simp only [Bool.and_eq_true, inB_iff] at *; omega))) ?_
  refine gG rfl rfl (by first | exact bne_self_eq_false _ | (simp; done) | (simp; omega) | omega) ?_
  refine uNot rfl ?_
  refine kF rfl (by first | exact bne_self_eq_false _ | (simp; done) | (simp; omega) | omega) rfl ?_
  refine mv rfl ?_
  refine gG rfl rfl rfl ?_
  refine mv rfl ?_
  refine gG rfl rfl rfl ?_
  refine mv rfl ?_
  refine gG rfl rfl rfl ?_
  refine rp rfl ?_
  refine kF rfl rfl rfl ?_
  refine rN ?_
  refine qN ?_
  refine cFa rfl (by first | exact bne_self_eq_false _ | (simp; done) | (simp; omega) | omega) ?_
  refine cK ?_
  refine qN ?_
  refine cS (cR ?_)
  refine asg rfl ?_
  refine rN ?_
  refine qN ?_
  refine cS (cR ?_)
  refine mv rfl ?_
  refine mv rfl ?_
  refine rC rfl ((c_markFloat32S _ _ _ 1 _ _ (lk6 ++ (lk5 ++ (lk2 ++ (lk1 ++ M)))) (by assumption) (by first | assumption | omega | (simp only [Bool.and_eq_true, inB_iff] at *; omega)) (by first | assumption | omega | (simp only [Bool.and_eq_true, inB_iff] at *; omega))).ofLess (by repeat first | exact eR | refine ext_pull ?_)) ?_
  rintro _ _ ⟨rfl, lk7, how7, rfl⟩
  refine ⟨nofun, ?_⟩
  refine asg rfl ?_
  refine rN ?_
  refine qN ?_
  refine cS (cR ?_)
  refine asg rfl ?_
  refine rN ?_
  refine qN ?_
  refine cS (cR ?_)
  refine mv rfl ?_
  refine mv rfl ?_
  refine rCq rfl (c_heldFloat32S _ _ _ 1 _ _ (by first | with_reducible assumption | exact RdF.mono (OwF.rdF (by assumption)) (by repeat' first | exact eR | exact eA | assumption | refine eLK ?_ | refine eK ?_ | refine eS ?_ | refine eL ?_) | exact RdF.ownm (by repeat first | assumption | exact List.Mem.head _ | refine List.Mem.tail _ ?_ | refine List.mem_append_right _ ?_) (by first | rfl | assumption | omega | simp [*]) | exact RdF.mono (by assumption) (by repeat' first | exact eR | exact eA | assumption | refine eLK ?_ | refine eK ?_ | refine eS ?_ | refine eL ?_)) (by first | assumption | omega | (simp only [Bool.and_eq_true, inB_iff] at *; omega)) (by first | assumption | omega | (simp only [Bool.and_eq_true, inB_iff] at *; omega))) ?_
  refine asg rfl ?_
  refine rN ?_
  refine qN ?_
  refine cS ?_
  refine cS (cR ?_)
  refine mv rfl ?_
  refine bLss rfl rfl ?_
  refine rN ?_
  refine qN ?_
  refine cFa rfl (by first | exact bne_self_eq_false _ | (simp; done) | (simp; omega) | omega) ?_
  refine cK ?_
  refine qN ?_
  refine cS ?_
  refine cS (cR ?_)
  refine mv rfl ?_
  refine mv rfl ?_
  refine bNeq rfl rfl ?_
  refine rN ?_
  refine qN ?_
  refine cFa rfl (by first | exact bne_self_eq_false _ | (simp; done) | (simp; omega) | omega) ?_
  refine cK ?_
  refine qN ?_
  refine cS (cR ?_)
  refine mv rfl ?_
  refine rC rfl (c_toFloat32S _ _ _ _ _ (by first | with_reducible assumption | exact RdF.mono (OwF.rdF (by assumption)) (by repeat' first | exact eR | exact eA | assumption | refine eLK ?_ | refine eK ?_ | refine eS ?_ | refine eL ?_) | exact RdF.ownm (by repeat first | assumption | exact List.Mem.head _ | refine List.Mem.tail _ ?_ | refine List.mem_append_right _ ?_) (by first | rfl | assumption | omega | simp [*]) | exact RdF.mono (by assumption) (by repeat' first | exact eR | exact eA | assumption | refine eLK ?_ | refine eK ?_ | refine eS ?_ | refine eL ?_)) (by first | assumption | omega | (simp only [Bool.and_eq_true, inB_iff] at *; omega))) ?_
  rintro sv8 _ ⟨lk8, how8, rfl⟩
  obtain ⟨ad8, cn8, rfl, hrd8⟩ := how8.rd
  refine ⟨fun _ => eL eR, ?_⟩
  refine mv rfl ?_
  refine rC rfl (c_implRoughTrace _ _ _ _ xs _ (by first | with_reducible assumption | exact RdF.mono (OwF.rdF (by assumption)) (by repeat' first | exact eR | exact eA | assumption | refine eLK ?_ | refine eK ?_ | refine eS ?_ | refine eL ?_) | exact RdF.ownm (by repeat first | assumption | exact List.Mem.head _ | refine List.Mem.tail _ ?_ | refine List.mem_append_right _ ?_) (by first | rfl | assumption | omega | simp [*]) | exact RdF.mono (by assumption) (by repeat' first | exact eR | exact eA | assumption | refine eLK ?_ | refine eK ?_ | refine eS ?_ | refine eL ?_)) (by first | assumption | omega | (simp only [Bool.and_eq_true, inB_iff] at *; omega))) ?_
  rintro _ _ ⟨lk9, ⟨sv9, rfl, how9⟩, rfl⟩
  obtain ⟨ad9, cn9, rfl, hrd9⟩ := how9.rd
  refine ⟨fun _ => eL eR, ?_⟩
  refine mv rfl ?_
  refine xt rfl rfl rfl ?_
  refine xt rfl rfl rfl ?_
  refine asg rfl ?_
  refine asg rfl ?_
  refine rN ?_
  refine qN ?_
  refine cS ?_
  refine cS (cR ?_)
  refine mv rfl ?_
  refine mv rfl ?_
  refine rCq rfl (c_eqFloat32S _ _ _ _ _ _ _ _ (by first | with_reducible assumption | exact RdF.mono (OwF.rdF (by assumption)) (by repeat' first | exact eR | exact eA | assumption | refine eLK ?_ | refine eK ?_ | refine eS ?_ | refine eL ?_) | exact RdF.ownm (by repeat first | assumption | exact List.Mem.head _ | refine List.Mem.tail _ ?_ | refine List.mem_append_right _ ?_) (by first | rfl | assumption | omega | simp [*]) | exact RdF.mono (by assumption) (by repeat' first | exact eR | exact eA | assumption | refine eLK ?_ | refine eK ?_ | refine eS ?_ | refine eL ?_)) (by first | with_reducible assumption | exact RdF.mono (OwF.rdF (by assumption)) (by repeat' first | exact eR | exact eA | assumption | refine eLK ?_ | refine eK ?_ | refine eS ?_ | refine eL ?_) | exact RdF.ownm (by repeat first | assumption | exact List.Mem.head _ | refine List.Mem.tail _ ?_ | refine List.mem_append_right _ ?_) (by first | rfl | assumption | omega | simp [*]) | exact RdF.mono (by assumption) (by repeat' first | exact eR | exact eA | assumption | refine eLK ?_ | refine eK ?_ | refine eS ?_ | refine eL ?_)) (by first | assumption | omega | (simp only [Bool.and_eq_true, inB_iff] at *; omega))) ?_
  refine uNot rfl ?_
  refine mv rfl ?_
  refine gG rfl rfl rfl ?_
  refine mv rfl ?_
  refine gG rfl rfl rfl ?_
  refine mv rfl ?_
  refine gG rfl rfl rfl ?_
  refine rp rfl ?_
  refine kF rfl rfl rfl ?_
  refine rN ?_
  refine qN ?_
  refine cFa rfl (by first | exact bne_self_eq_false _ | (simp; done) | (simp; omega) | omega) ?_
  refine cK ?_
  refine qN ?_
  refine cS (cR ?_)
  refine asg rfl ?_
  refine rN ?_
  refine qN ?_
  refine cS (cR ?_)
  refine mv rfl ?_
  refine mv rfl ?_
  refine rCq rfl (c_heldFloat32S _ _ _ 1 _ _ (by first | with_reducible assumption | exact RdF.mono (OwF.rdF (by assumption)) (by repeat' first | exact eR | exact eA | assumption | refine eLK ?_ | refine eK ?_ | refine eS ?_ | refine eL ?_) | exact RdF.ownm (by repeat first | assumption | exact List.Mem.head _ | refine List.Mem.tail _ ?_ | refine List.mem_append_right _ ?_) (by first | rfl | assumption | omega | simp [*]) | exact RdF.mono (by assumption) (by repeat' first | exact eR | exact eA | assumption | refine eLK ?_ | refine eK ?_ | refine eS ?_ | refine eL ?_)) (by first | assumption | omega | (simp only [Bool.and_eq_true, inB_iff] at *; omega)) (by first | assumption | omega | (simp only [Bool.and_eq_true, inB_iff] at *; omega))) ?_
  refine asg rfl ?_
  refine rN ?_
  refine qN ?_
  refine cS ?_
  refine cS (cR ?_)
  refine mv rfl ?_
  refine bLss rfl rfl ?_
  refine rN ?_
  refine qN ?_
  refine cFa rfl (by first | exact bne_self_eq_false _ | (simp; done) | (simp; omega) | omega) ?_
  refine cK ?_
  refine qN ?_
  refine cS ?_
  refine cS (cR ?_)
  refine mv rfl ?_
  refine mv rfl ?_
  refine bNeq rfl rfl ?_
  refine rN ?_
  refine qN ?_
  refine cFa rfl (by first | exact bne_self_eq_false _ | (simp; done) | (simp; omega) | omega) ?_
  refine cK ?_
  refine qN ?_
  refine cS (cR ?_)
  refine asg rfl ?_
  refine rN ?_
  refine qN ?_
  refine cE ?_
  refine kE rfl rfl  ?_
  first | exact ⟨_, ⟨rfl, rfl⟩, (by repeat' first | exact eR | exact eA | assumption | refine eLK ?_ | refine eK ?_ | refine eS ?_ | refine eL ?_)⟩
end Go.Proofs.Ytjpbgldnnfcmaaa.Ab
