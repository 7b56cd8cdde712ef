/-
  The top of FnExactBestSpeed.
-/
import Derived.Test.YtfjancbmecfjgaaLGScan
import Derived.Test.YtfjancbmecfjgaaTq
namespace Go.Proofs.Ytfjancbmecfjgaa.fnExactBestSpeed
open Go Go.RowKit Go.ChangeShapes Go.WideShapes Go.ChangeAt Go.Proofs.Ytfjancbmecfjgaa.Ab
set_option linter.unusedVariables false
set_option linter.unusedSimpArgs false

theorem own : ownKnob Try.prog.godebug = none := by kernel_rfl
theorem laidOut : laidOutB Try.prog = true := by kernel_rfl
theorem good : goodTs Try.prog Try.f4.params.toList = true := by kernel_rfl

set_option maxRecDepth 100000 in
theorem contract (H : Type) (enc : TypeId × Value → H) (W : World) (base : Nat) (args : Array Value) (ds gs : List (DataW H)) (before : List MemPlace)
    (hval : ∀ (j : Nat) t v, Try.f4.params[j]? = some t → args[j]? = some v → Value.okWide Try.prog W .any base t v)
    (hW : DataW.Whole enc Try.prog Try.f4.params.toList Rows.fnExactBestSpeedSpec.vars false W args.toList ds gs before) :
    Calls Try.prog 4 args W fun e W' => ∃ v, e = .returned v ∧ Rows.fnExactBestSpeedSpec.post enc Try.prog Try.f4 false true false false W args v W' := by
  have hW' := hW
  obtain ⟨p, q, hA0, hV, rfl, hfz, hnd⟩ := hW
  have hA : DataW.TrodAll enc Try.prog W 0 (fun _ => true) true Try.f4.params.toList args.toList ds p := hA0
  rw [Try.params4] at hA hval
  obtain ⟨d0, d1, d2, d3, rfl⟩ := lst4 (trod_dlen _ _ _ _ hA)
  obtain ⟨v0, v1, v2, v3, rfl⟩ := arr4 (trod_len _ _ _ _ hA)
  obtain ⟨rfl, rfl⟩ := trodVars_none hV
  obtain ⟨m0, y0, h0⟩ := trod_at _ _ _ _ hA 0 _ _ rfl rfl
  obtain ⟨u0_0, u0_1, u0_2, z0_0, z0_1, z0_2, n0, rfl, _, _, g0_0, g0_1, g0_2⟩ := Joins.open_agg3 (d := y0.1) (p := y0.2) Try.underlying25 (by kernel_rfl) (by kernel_rfl) (hval 0 25 v0 rfl rfl) ⟨m0, h0⟩
  obtain ⟨w0, rfl, hw0, hW0⟩ := inv_int Try.underlying2 g0_0
  obtain ⟨ps0, aa0, ac0, rfl, hr0, hl0⟩ := inv_F Try.underlying22 Try.underlying37 (by kernel_rfl) g0_1
  obtain ⟨xss0, ba0, bc0, rfl, hd0, hk0, hxl0⟩ := inv_D Try.underlying23 Try.underlying22 Try.underlying37 (by kernel_rfl) (by kernel_rfl) g0_2
  obtain ⟨aa1, al1, ac1, rfl⟩ := okWide_slice Try.underlying22 (hval 1 22 v1 rfl rfl)
  obtain ⟨m1, y1, h1⟩ := trod_at _ _ _ _ hA 1 _ _ rfl rfl
  obtain ⟨xs1, a1, c1, hv1, hr1, hl1⟩ := inv_F Try.underlying22 Try.underlying37 (by kernel_rfl) h1
  cases hv1
  obtain ⟨k2, rfl⟩ := okWide_int Try.underlying2 (hval 2 2 v2 rfl rfl)
  obtain ⟨m2, y2, h2⟩ := trod_at _ _ _ _ hA 2 _ _ rfl rfl
  obtain ⟨kk2, hkk2, hk2, hK2⟩ := inv_int Try.underlying2 h2
  cases hkk2
  obtain ⟨k3, rfl⟩ := okWide_int Try.underlying2 (hval 3 2 v3 rfl rfl)
  obtain ⟨m3, y3, h3⟩ := trod_at _ _ _ _ hA 3 _ _ rfl rfl
  obtain ⟨kk3, hkk3, hk3, hK3⟩ := inv_int Try.underlying2 h3
  cases hkk3
  have hmx : maxLen ≤ 9223372036854775807 := by unfold maxLen; omega
  refine (calls_fits (c_lawBestSpeed w0 aa0 ba0 aa1 _ _ _ ac0 bc0 ac1 ps0 xss0 xs1 k2 k3 (MA W) hr0 hd0 hr1 ⟨(Nat.le_trans hl0 hmx), Nat.le_trans hk0 hmx, (Nat.le_trans hl1 hmx)⟩ (fun i hi => Nat.le_trans (hxl0 i hi) hmx)) (w0 := W) (B := W.heap.size) (vals := #[.agg #[.int .i64 w0, .slice aa0 ps0.length ac0, .slice ba0 xss0.length bc0], .slice aa1 xs1.length ac1, .int .i64 k2, .int .i64 k3]) (by simp [nf, nfA, nfS]) (sat_MA W)).mono ?_
  rintro e W' ⟨u, M', rfl, hs, hu, _⟩
  obtain rfl := nf_bool hu
  exact ⟨_, rfl, post_true laidOut good rfl Try.underlying4 rfl hW' hs.below rfl⟩

set_option maxRecDepth 100000 in
theorem lifted (os : Os) (started : os.Started) (H : Type) (enc : TypeId × Value → H) :
    ReturnsInHanded {} Try.checked os 4 .any (Rows.fnExactBestSpeedSpec.pre6 enc Try.prog Try.f4 Rows.fnExactBestSpeedRow.domain false) (Rows.fnExactBestSpeedSpec.post enc Try.prog Try.f4 false true false false) := by
  refine returnsInHanded_of_change (C := Try.checked) own started (by kernel_rfl) Try.func4
    (ChangeSpec.witness6 (enc := enc) (C := Try.checked) false ⟨#[], #[.agg #[.int .i64 0, .slice none 0 0, .slice none 0 0], .slice none 0 0, .int .i64 0, .int .i64 0], []⟩ 8 (by kernel_rfl) (by kernel_rfl) (by kernel_rfl) (by kernel_rfl)) ?_
  intro W base args ds gs before hval hW _ _
  exact contract H enc W base args ds gs before hval hW

theorem proved : Rows.FnExactBestSpeedSaid :=
  OpenClaim.holds_of_wide 4 Try.f4 rfl rfl rfl rfl rfl rfl rfl ⟨rfl, rfl, rfl, rfl, rfl⟩ rfl rfl rfl rfl rfl (by kernel_rfl) Try.func4 (by kernel_rfl)
    (of_decide_eq_true (by kernel_rfl)) (by unfold Func.isWrapper; first | (rw [if_pos (by decide +kernel)]; kernel_rfl) | (rw [if_neg (by decide +kernel)]; exact ⟨rfl, rfl⟩))
    (fun os started H enc _ => lifted os started H enc)
end Go.Proofs.Ytfjancbmecfjgaa.fnExactBestSpeed
#print axioms Go.Proofs.Ytfjancbmecfjgaa.fnExactBestSpeed.proved
