/-
  Walks: the strongest cell of a section, sections of one value.
-/
import Derived.Test.YtfjancbmecfjgaaSo
import Derived.Test.YtfjancbmecfjgaaBe
import Derived.Test.YtfjancbmecfjgaaBi
namespace Go.Proofs.Ytfjancbmecfjgaa.Ab
open Go Go.RowKit
attribute [local irreducible] Run Then InBlock LoopQ LQ1 LQ2 LQ3 LQ4 LQ5 LQ6 AWp Ret ACall
set_option linter.unusedVariables false
set_option linter.unusedSimpArgs false

-- @own impl.sizes : c_sizes _ _ _ _ _ @RD@ @BD@

/-- the best of sizes -/
def bsz (xs : List Nat) : Nat → Int := bst (tab xs.length fun i => absF (xs.getD i 0))
def scR (w d : Int) (xs : List Nat) : Value :=
  if vsB w d xs.length = true ∧ 0 ≤ bsz xs xs.length then .tuple #[.int .i64 (bsz xs xs.length % w), .int .i64 (bsz xs xs.length / w), .float .f32 (xs.getD (bsz xs xs.length).toNat 0), .bool true] else .tuple #[.int .i64 0, .int .i64 0, .float .f32 0, .bool false]
theorem eql_absF (x : Nat) : fcmp .eql .f32 (absF x) (absF x) = fcmp .eql .f32 x x := by
  rw [fcmp_eql_self, fcmp_eql_self]
  rcases word_cases .f32 x with h | ⟨s, h⟩ | ⟨a, h⟩
  · rw [h, (absF_nan h).1, nanB_qn]
  · have : nanB .f32 x = false := by unfold nanB; rw [h]; rfl
    rw [this, (absF_inf h).1]; decide
  · rw [sv_notnan h, sv_notnan (absF_num h).2.2]
theorem gtr_szF (x y : Nat) : fcmp .gtr .f32 (szF x) (szF y) = fcmp .gtr .f32 (absF x) (absF y) := fcmp_ordeq (szF_absF x) (szF_absF y)
theorem bsz_succ {xs : List Nat} {k : Nat} (hk : k < xs.length) : bsz xs (k + 1) = if fcmp .eql .f32 (xs.getD k 0) (xs.getD k 0) = true ∧ (bsz xs k < 0 ∨ fcmp .gtr .f32 (szF (xs.getD k 0)) (szF (xs.getD (bsz xs k).toNat 0)) = true) then (k : Int) else bsz xs k := by
  have hbd := bst_bd (tab xs.length fun i => absF (xs.getD i 0)) k
  show bst _ (k + 1) = _
  have e1 : (tab xs.length fun i => absF (xs.getD i 0)).getD k 0 = absF (xs.getD k 0) := tab_getD hk
  unfold bst
  rw [e1, eql_absF]
  have hb : bst (tab xs.length fun i => absF (xs.getD i 0)) k = bsz xs k := rfl
  rw [hb] at hbd ⊢
  cases he : fcmp .eql .f32 (xs.getD k 0) (xs.getD k 0) with
  | false =>
    have hg := gtr_nan (y := (tab xs.length fun i => absF (xs.getD i 0)).getD (bsz xs k).toNat 0) ((eql_absF (xs.getD k 0)).trans he)
    rw [hg]
    simp
  | true =>
    by_cases h0 : bsz xs k < 0
    · simp [h0]
    · have hp : 0 ≤ bsz xs k := by omega
      have e2 : (tab xs.length fun i => absF (xs.getD i 0)).getD (bsz xs k).toNat 0 = absF (xs.getD (bsz xs k).toNat 0) := tab_getD (by omega)
      rw [e2, gtr_szF]
      simp [h0, hp]

/-! ## sections of one value -/
theorem wrapU {z : Int} (h0 : 0 ≤ z) (h1 : z < 18446744073709551616) : IntKind.u64.wrap z = z := by
  unfold IntKind.wrap
  simp only [IntKind.signed, IntKind.bits, Bool.false_and, Bool.false_eq_true, if_false]
  omega
theorem rep_copy {v j k : Nat} (h1 : 1 ≤ j) (h2 : j ≤ k) : cpd (List.replicate j v ++ List.replicate (k - j) 0) ((List.replicate j v ++ List.replicate (k - j) 0).take j) j (min j (k - j)) = List.replicate (j + min j (k - j)) v ++ List.replicate (k - (j + min j (k - j))) 0 := by
  unfold cpd
  have e1 : (List.replicate j v ++ List.replicate (k - j) 0).take j = List.replicate j v := by
    rw [List.take_append_of_le_length (by simp), List.take_of_length_le (by simp)]
  have e2 : (List.replicate j v ++ List.replicate (k - j) 0).drop (j + min j (k - j)) = List.replicate (k - (j + min j (k - j))) 0 := by
    rw [List.drop_append, List.drop_replicate, List.drop_replicate, List.length_replicate]
    rw [show j - (j + min j (k - j)) = 0 from by omega, show k - j - (j + min j (k - j) - j) = k - (j + min j (k - j)) from by omega]
    rfl
  rw [e1, e2, List.take_replicate, List.replicate_append_replicate]
  rw [show min (min j (k - j)) j = min j (k - j) from by omega]
theorem RdF.head1 {b y : Nat} {M : Mem} : RdF ((b, ⟨[.float .f32 y], true⟩) :: M) (some ⟨b, 0, none⟩) 1 [y] := RdF.ownm (b := b) (xs := [y]) (rest := []) (List.Mem.head _) rfl
-- @own slices.Repeat[[]float32,float32] : c_repeat _ _ _ _ _ _ RdF.head1 (by first | rfl | assumption) (by omega)

-- @owns impl.flat : c_implflat _ _ _ _ (by assumption)
-- @owns spec.l06Flat : c_l06Flat _ _ _ (by assumption)
end Go.Proofs.Ytfjancbmecfjgaa.Ab
