/-
  The top of FnExactMergeGathers.
-/
import Derived.Test.YtfjancbmecfjgaaLGMerge
import Derived.Test.YtfjancbmecfjgaaTq
namespace Go.Proofs.Ytfjancbmecfjgaa.fnExactMergeGathers
open Go Go.RowKit Go.ChangeShapes Go.WideShapes Go.ChangeAt Go.Proofs.Ytfjancbmecfjgaa.Ab
set_option linter.unusedVariables false
set_option linter.unusedSimpArgs false

theorem own : ownKnob Try.prog.godebug = none := by kernel_rfl
theorem laidOut : laidOutB Try.prog = true := by kernel_rfl
theorem good : goodTs Try.prog Try.f6.params.toList = true := by kernel_rfl

set_option maxRecDepth 100000 in
theorem contract (H : Type) (enc : TypeId × Value → H) (W : World) (base : Nat) (args : Array Value) (ds gs : List (DataW H)) (before : List MemPlace)
    (hval : ∀ (j : Nat) t v, Try.f6.params[j]? = some t → args[j]? = some v → Value.okWide Try.prog W .any base t v)
    (hW : DataW.Whole enc Try.prog Try.f6.params.toList Rows.fnExactMergeGathersSpec.vars false W args.toList ds gs before) :
    Calls Try.prog 6 args W fun e W' => ∃ v, e = .returned v ∧ Rows.fnExactMergeGathersSpec.post enc Try.prog Try.f6 false true false false W args v W' := by
  have hW' := hW
  obtain ⟨p, q, hA0, hV, rfl, hfz, hnd⟩ := hW
  have hA : DataW.TrodAll enc Try.prog W 0 (fun _ => true) true Try.f6.params.toList args.toList ds p := hA0
  rw [Try.params6] at hA hval
  obtain ⟨d0, d1, rfl⟩ := lst2 (trod_dlen _ _ _ _ hA)
  obtain ⟨v0, v1, rfl⟩ := arr2 (trod_len _ _ _ _ hA)
  obtain ⟨rfl, rfl⟩ := trodVars_none hV
  obtain ⟨m0, y0, h0⟩ := trod_at _ _ _ _ hA 0 _ _ rfl rfl
  obtain ⟨u0_0, u0_1, u0_2, z0_0, z0_1, z0_2, n0, rfl, _, _, g0_0, g0_1, g0_2⟩ := Joins.open_agg3 (d := y0.1) (p := y0.2) Try.underlying25 (by kernel_rfl) (by kernel_rfl) (hval 0 25 v0 rfl rfl) ⟨m0, h0⟩
  obtain ⟨w0, rfl, hw0, hW0⟩ := inv_int Try.underlying2 g0_0
  obtain ⟨ps0, aa0, ac0, rfl, hr0, hl0⟩ := inv_F Try.underlying22 Try.underlying37 (by kernel_rfl) g0_1
  obtain ⟨xss0, ba0, bc0, rfl, hd0, hk0, hxl0⟩ := inv_D Try.underlying23 Try.underlying22 Try.underlying37 (by kernel_rfl) (by kernel_rfl) g0_2
  obtain ⟨m1, y1, h1⟩ := trod_at _ _ _ _ hA 1 _ _ rfl rfl
  obtain ⟨u1_0, u1_1, u1_2, z1_0, z1_1, z1_2, n1, rfl, _, _, g1_0, g1_1, g1_2⟩ := Joins.open_agg3 (d := y1.1) (p := y1.2) Try.underlying25 (by kernel_rfl) (by kernel_rfl) (hval 1 25 v1 rfl rfl) ⟨m1, h1⟩
  obtain ⟨w1, rfl, hw1, hW1⟩ := inv_int Try.underlying2 g1_0
  obtain ⟨ps1, aa1, ac1, rfl, hr1, hl1⟩ := inv_F Try.underlying22 Try.underlying37 (by kernel_rfl) g1_1
  obtain ⟨xss1, ba1, bc1, rfl, hd1, hk1, hxl1⟩ := inv_D Try.underlying23 Try.underlying22 Try.underlying37 (by kernel_rfl) (by kernel_rfl) g1_2
  have hmx : maxLen ≤ 9223372036854775807 := by unfold maxLen; omega
  refine (calls_fits (c_lawMergeGathers w0 w1 aa0 ba0 aa1 ba1 _ _ ac0 bc0 _ _ ac1 bc1 ps0 ps1 xss0 xss1 (MA W) hr0 hd0 hr1 hd1 ⟨(Nat.le_trans hl0 hmx), Nat.le_trans hk0 hmx, (Nat.le_trans hl1 hmx), Nat.le_trans hk1 hmx⟩ (fun i hi => Nat.le_trans (hxl0 i hi) hmx) (fun i hi => Nat.le_trans (hxl1 i hi) hmx)) (w0 := W) (B := W.heap.size) (vals := #[.agg #[.int .i64 w0, .slice aa0 ps0.length ac0, .slice ba0 xss0.length bc0], .agg #[.int .i64 w1, .slice aa1 ps1.length ac1, .slice ba1 xss1.length bc1]]) (by simp [nf, nfA, nfS]) (sat_MA W)).mono ?_
  rintro e W' ⟨u, M', rfl, hs, hu, _⟩
  obtain rfl := nf_bool hu
  exact ⟨_, rfl, post_true laidOut good rfl Try.underlying4 rfl hW' hs.below rfl⟩

set_option maxRecDepth 100000 in
theorem lifted (os : Os) (started : os.Started) (H : Type) (enc : TypeId × Value → H) :
    ReturnsInHanded {} Try.checked os 6 .any (Rows.fnExactMergeGathersSpec.pre6 enc Try.prog Try.f6 Rows.fnExactMergeGathersRow.domain false) (Rows.fnExactMergeGathersSpec.post enc Try.prog Try.f6 false true false false) := by
  refine returnsInHanded_of_change (C := Try.checked) own started (by kernel_rfl) Try.func6
    (ChangeSpec.witness6 (enc := enc) (C := Try.checked) false ⟨#[], #[.agg #[.int .i64 0, .slice none 0 0, .slice none 0 0], .agg #[.int .i64 0, .slice none 0 0, .slice none 0 0]], []⟩ 8 (by kernel_rfl) (by kernel_rfl) (by kernel_rfl) (by kernel_rfl)) ?_
  intro W base args ds gs before hval hW _ _
  exact contract H enc W base args ds gs before hval hW

theorem proved : Rows.FnExactMergeGathersSaid :=
  OpenClaim.holds_of_wide 6 Try.f6 rfl rfl rfl rfl rfl rfl rfl ⟨rfl, rfl, rfl, rfl, rfl⟩ rfl rfl rfl rfl rfl (by kernel_rfl) Try.func6 (by kernel_rfl)
    (of_decide_eq_true (by kernel_rfl)) (by unfold Func.isWrapper; first | (rw [if_pos (by decide +kernel)]; kernel_rfl) | (rw [if_neg (by decide +kernel)]; exact ⟨rfl, rfl⟩))
    (fun os started H enc _ => lifted os started H enc)
end Go.Proofs.Ytfjancbmecfjgaa.fnExactMergeGathers
#print axioms Go.Proofs.Ytfjancbmecfjgaa.fnExactMergeGathers.proved
