/-
  Walks: neighbours in a section; sections made cell by cell; EdgeSection and SmoothSection.
-/
import Derived.Test.YtfjancbmecfjgaaSo
namespace Go.Proofs.Ytfjancbmecfjgaa.Ab
open Go Go.RowKit
attribute [local irreducible] Run Then InBlock LoopQ LQ1 LQ2 LQ3 LQ4 LQ5 LQ6 AWp Ret ACall
set_option linter.unusedVariables false
set_option linter.unusedSimpArgs false

/-- the value of the nearest cell -/
def nearF (xs : List Nat) (w d x z : Int) : Nat := xs.getD (min (max x 0) (w - 1) + w * min (max z 0) (d - 1)).toNat 0
theorem gridN {w : Int} (hw : 1 ≤ w) {z x : Nat} (hx : (x : Int) < w) : ((w.toNat * z + x : Nat) : Int) % w = x ∧ ((w.toNat * z + x : Nat) : Int) / w = z := by
  have e : ((w.toNat * z + x : Nat) : Int) = (x : Int) + w * (z : Int) := by
    rw [Int.natCast_add, Int.natCast_mul, Int.toNat_of_nonneg (by omega)]; omega
  rw [e]
  exact grid_eq (by omega) hx
theorem near_self {xs : List Nat} {w d : Int} {k : Nat} (h : vsB w d xs.length = true) (hk : k < xs.length) : nearF xs w d ((k : Int) % w) ((k : Int) / w) = xs.getD k 0 := by
  obtain ⟨⟨a1, a2⟩, b1, b2⟩ := num_in (k := k) h (by omega)
  unfold nearF
  have e1 : min (max ((k : Int) % w) 0) (w - 1) = (k : Int) % w := by omega
  have e2 : min (max ((k : Int) / w) 0) (d - 1) = (k : Int) / w := by omega
  rw [e1, e2, Int.emod_add_mul_ediv, Int.toNat_natCast]

-- @reg (impl.Section).near : c_near _ _ _ _ _ _ _ xs _ @RD@ (by assumption) (by omega) (by omega)
-- @reg spec.l00Min : c_l00Min _ _ _
theorem c_l00Min (x y : Int) (M : Mem) : ACall Try.prog 94 [.int .i64 x, .int .i64 y] M fun v M' => v = .int .i64 (min x y) ∧ M' = M := by
  refine acall_of_awp Try.func94 rfl Try.ntmps94 rfl ?_
  refine cS (cR ?_)
  refine asg rfl ?_
  refine rN ?_
  refine qN ?_
  refine cS ?_
  refine cS (cR ?_)
  refine mv rfl ?_
  refine mv rfl ?_
  refine bLss rfl rfl ?_
  refine rN ?_
  refine qN ?_
  refine cC rfl (fun c1 => ?_) (fun c1 => ?_)
  · have c1' := c1; try simp only [inB_iff, Bool.and_eq_true, decide_eq_true_eq, decide_eq_false_iff_not, beq_iff_eq, beq_eq_false_iff_ne, bne_iff_ne, bne_eq_false_iff_eq, ne_eq] at c1'
    refine cS (cR ?_)
    refine mv rfl ?_
    refine asg rfl ?_
    refine rN ?_
    refine qN ?_
    refine cE ?_
    refine qE ?_
    refine kE rfl rfl  ?_
    first | (exfalso; contradiction) | exact ⟨_, ⟨by (congr 1; omega), rfl⟩, (by (try simp only [List.cons_append, List.nil_append, List.append_assoc]); repeat' first | with_reducible apply eR | with_reducible apply eA | ((with_reducible apply xA); · repeat first | with_reducible apply lH | with_reducible apply lT | with_reducible apply lL) | ((with_reducible apply xC); · repeat first | apply pH | with_reducible apply pT | with_reducible apply pL) | with_reducible assumption | with_reducible apply eS | with_reducible apply eL | exact eR)⟩ | (exfalso; first | contradiction | omega | (simp_all; done) | (simp_all; omega))
  · have c1' := c1; try simp only [inB_iff, Bool.and_eq_true, decide_eq_true_eq, decide_eq_false_iff_not, beq_iff_eq, beq_eq_false_iff_ne, bne_iff_ne, bne_eq_false_iff_eq, ne_eq] at c1'
    refine cK ?_
    refine qN ?_
    refine cS (cR ?_)
    refine mv rfl ?_
    refine asg rfl ?_
    refine rN ?_
    refine qN ?_
    refine cE ?_
    refine kE rfl rfl  ?_
    first | (exfalso; contradiction) | exact ⟨_, ⟨by (congr 1; omega), rfl⟩, (by (try simp only [List.cons_append, List.nil_append, List.append_assoc]); repeat' first | with_reducible apply eR | with_reducible apply eA | ((with_reducible apply xA); · repeat first | with_reducible apply lH | with_reducible apply lT | with_reducible apply lL) | ((with_reducible apply xC); · repeat first | apply pH | with_reducible apply pT | with_reducible apply pL) | with_reducible assumption | with_reducible apply eS | with_reducible apply eL | exact eR)⟩ | (exfalso; first | contradiction | omega | (simp_all; done) | (simp_all; omega))
-- @reg spec.l00Max : c_l00Max _ _ _
theorem c_l00Max (x y : Int) (M : Mem) : ACall Try.prog 93 [.int .i64 x, .int .i64 y] M fun v M' => v = .int .i64 (max x y) ∧ M' = M := by
  refine acall_of_awp Try.func93 rfl Try.ntmps93 rfl ?_
  refine cS (cR ?_)
  refine asg rfl ?_
  refine rN ?_
  refine qN ?_
  refine cS ?_
  refine cS (cR ?_)
  refine mv rfl ?_
  refine mv rfl ?_
  refine bGtr rfl rfl ?_
  refine rN ?_
  refine qN ?_
  refine cC rfl (fun c1 => ?_) (fun c1 => ?_)
  · have c1' := c1; try simp only [inB_iff, Bool.and_eq_true, decide_eq_true_eq, decide_eq_false_iff_not, beq_iff_eq, beq_eq_false_iff_ne, bne_iff_ne, bne_eq_false_iff_eq, ne_eq] at c1'
    refine cS (cR ?_)
    refine mv rfl ?_
    refine asg rfl ?_
    refine rN ?_
    refine qN ?_
    refine cE ?_
    refine qE ?_
    refine kE rfl rfl  ?_
    first | (exfalso; contradiction) | exact ⟨_, ⟨by (congr 1; omega), rfl⟩, (by (try simp only [List.cons_append, List.nil_append, List.append_assoc]); repeat' first | with_reducible apply eR | with_reducible apply eA | ((with_reducible apply xA); · repeat first | with_reducible apply lH | with_reducible apply lT | with_reducible apply lL) | ((with_reducible apply xC); · repeat first | apply pH | with_reducible apply pT | with_reducible apply pL) | with_reducible assumption | with_reducible apply eS | with_reducible apply eL | exact eR)⟩ | (exfalso; first | contradiction | omega | (simp_all; done) | (simp_all; omega))
  · have c1' := c1; try simp only [inB_iff, Bool.and_eq_true, decide_eq_true_eq, decide_eq_false_iff_not, beq_iff_eq, beq_eq_false_iff_ne, bne_iff_ne, bne_eq_false_iff_eq, ne_eq] at c1'
    refine cK ?_
    refine qN ?_
    refine cS (cR ?_)
    refine mv rfl ?_
    refine asg rfl ?_
    refine rN ?_
    refine qN ?_
    refine cE ?_
    refine kE rfl rfl  ?_
    first | (exfalso; contradiction) | exact ⟨_, ⟨by (congr 1; omega), rfl⟩, (by (try simp only [List.cons_append, List.nil_append, List.append_assoc]); repeat' first | with_reducible apply eR | with_reducible apply eA | ((with_reducible apply xA); · repeat first | with_reducible apply lH | with_reducible apply lT | with_reducible apply lL) | ((with_reducible apply xC); · repeat first | apply pH | with_reducible apply pT | with_reducible apply pL) | with_reducible assumption | with_reducible apply eS | with_reducible apply eL | exact eR)⟩ | (exfalso; first | contradiction | omega | (simp_all; done) | (simp_all; omega))
-- @reg spec.l06At : c_l06At _ _ _ _ _ _ _ _ _ xs _ @MEM@ @RD@ (by assumption) (by omega) (by omega)


/-- differences down a section -/
def edG (xs : List Nat) (w d x z : Int) : Nat := fmul .f32 1056964608 (fsub .f32 (nearF xs w d x (z + 1)) (nearF xs w d x (z - 1)))
def edF (xs : List Nat) (w d : Int) : List Nat := tab xs.length fun i => edG xs w d ((i : Int) % w) ((i : Int) / w)

/-- a smoother section -/
def smG (xs : List Nat) (y : Nat) (w d x z : Int) : Nat :=
  fadd .f32 (fmul .f32 (fsub .f32 1065353216 y) (nearF xs w d x z)) (fmul .f32 y (fmul .f32 1048576000 (fadd .f32 (fadd .f32 (fadd .f32 (nearF xs w d (x - 1) z) (nearF xs w d (x + 1) z)) (nearF xs w d x (z - 1))) (nearF xs w d x (z + 1)))))
def smS (xs : List Nat) (y : Nat) (w d : Int) : List Nat := tab xs.length fun i => smG xs y w d ((i : Int) % w) ((i : Int) / w)
end Go.Proofs.Ytfjancbmecfjgaa.Ab
