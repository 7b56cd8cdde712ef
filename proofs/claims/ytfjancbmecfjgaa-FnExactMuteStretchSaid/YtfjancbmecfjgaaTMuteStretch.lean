/-
  The top of FnExactMuteStretch.
-/
import Derived.Test.YtfjancbmecfjgaaLGStretch
import Derived.Test.YtfjancbmecfjgaaTq
namespace Go.Proofs.Ytfjancbmecfjgaa.fnExactMuteStretch
open Go Go.RowKit Go.ChangeShapes Go.WideShapes Go.ChangeAt Go.Proofs.Ytfjancbmecfjgaa.Ab
set_option linter.unusedVariables false
set_option linter.unusedSimpArgs false

theorem own : ownKnob Try.prog.godebug = none := by kernel_rfl
theorem laidOut : laidOutB Try.prog = true := by kernel_rfl
theorem good : goodTs Try.prog Try.f5.params.toList = true := by kernel_rfl

set_option maxRecDepth 100000 in
theorem contract (H : Type) (enc : TypeId × Value → H) (W : World) (base : Nat) (args : Array Value) (ds gs : List (DataW H)) (before : List MemPlace)
    (hval : ∀ (j : Nat) t v, Try.f5.params[j]? = some t → args[j]? = some v → Value.okWide Try.prog W .any base t v)
    (hW : DataW.Whole enc Try.prog Try.f5.params.toList Rows.fnExactMuteStretchSpec.vars false W args.toList ds gs before) :
    Calls Try.prog 5 args W fun e W' => ∃ v, e = .returned v ∧ Rows.fnExactMuteStretchSpec.post enc Try.prog Try.f5 false true false false W args v W' := by
  have hW' := hW
  obtain ⟨p, q, hA0, hV, rfl, hfz, hnd⟩ := hW
  have hA : DataW.TrodAll enc Try.prog W 0 (fun _ => true) true Try.f5.params.toList args.toList ds p := hA0
  rw [Try.params5] at hA hval
  obtain ⟨d0, d1, d2, rfl⟩ := lst3 (trod_dlen _ _ _ _ hA)
  obtain ⟨v0, v1, v2, rfl⟩ := arr3 (trod_len _ _ _ _ hA)
  obtain ⟨rfl, rfl⟩ := trodVars_none hV
  obtain ⟨m0, y0, h0⟩ := trod_at _ _ _ _ hA 0 _ _ rfl rfl
  obtain ⟨u0_0, u0_1, u0_2, z0_0, z0_1, z0_2, n0, rfl, _, _, g0_0, g0_1, g0_2⟩ := Joins.open_agg3 (d := y0.1) (p := y0.2) Try.underlying25 (by kernel_rfl) (by kernel_rfl) (hval 0 25 v0 rfl rfl) ⟨m0, h0⟩
  obtain ⟨w0, rfl, hw0, hW0⟩ := inv_int Try.underlying2 g0_0
  obtain ⟨ps0, aa0, ac0, rfl, hr0, hl0⟩ := inv_F Try.underlying22 Try.underlying37 (by kernel_rfl) g0_1
  obtain ⟨xss0, ba0, bc0, rfl, hd0, hk0, hxl0⟩ := inv_D Try.underlying23 Try.underlying22 Try.underlying37 (by kernel_rfl) (by kernel_rfl) g0_2
  obtain ⟨b1, rfl⟩ := Ab.okWide_float Try.underlying37 (hval 1 37 v1 rfl rfl)
  obtain ⟨b2, rfl⟩ := Ab.okWide_float Try.underlying37 (hval 2 37 v2 rfl rfl)
  have hmx : maxLen ≤ 9223372036854775807 := by unfold maxLen; omega
  refine (calls_fits (c_lawMuteStretch w0 aa0 ba0 _ _ ac0 bc0 ps0 xss0 (cb .f32 b1) (cb .f32 b2) (MA W) hr0 hd0 ⟨(Nat.le_trans hl0 hmx), Nat.le_trans hk0 hmx⟩ (fun i hi => Nat.le_trans (hxl0 i hi) hmx)) (w0 := W) (B := W.heap.size) (vals := #[.agg #[.int .i64 w0, .slice aa0 ps0.length ac0, .slice ba0 xss0.length bc0], .float .f32 b1, .float .f32 b2]) (by simp [nf, nfA, nfS]) (sat_MA W)).mono ?_
  rintro e W' ⟨u, M', rfl, hs, hu, _⟩
  obtain rfl := nf_bool hu
  exact ⟨_, rfl, post_true laidOut good rfl Try.underlying4 rfl hW' hs.below rfl⟩

set_option maxRecDepth 100000 in
theorem lifted (os : Os) (started : os.Started) (H : Type) (enc : TypeId × Value → H) :
    ReturnsInHanded {} Try.checked os 5 .any (Rows.fnExactMuteStretchSpec.pre6 enc Try.prog Try.f5 Rows.fnExactMuteStretchRow.domain false) (Rows.fnExactMuteStretchSpec.post enc Try.prog Try.f5 false true false false) := by
  refine returnsInHanded_of_change (C := Try.checked) own started (by kernel_rfl) Try.func5
    (ChangeSpec.witness6 (enc := enc) (C := Try.checked) false ⟨#[], #[.agg #[.int .i64 0, .slice none 0 0, .slice none 0 0], .float .f32 0, .float .f32 0], []⟩ 8 (by kernel_rfl) (by kernel_rfl) (by kernel_rfl) (by kernel_rfl)) ?_
  intro W base args ds gs before hval hW _ _
  exact contract H enc W base args ds gs before hval hW

theorem proved : Rows.FnExactMuteStretchSaid :=
  OpenClaim.holds_of_wide 5 Try.f5 rfl rfl rfl rfl rfl rfl rfl ⟨rfl, rfl, rfl, rfl, rfl⟩ rfl rfl rfl rfl rfl (by kernel_rfl) Try.func5 (by kernel_rfl)
    (of_decide_eq_true (by kernel_rfl)) (by unfold Func.isWrapper; first | (rw [if_pos (by decide +kernel)]; kernel_rfl) | (rw [if_neg (by decide +kernel)]; exact ⟨rfl, rfl⟩))
    (fun os started H enc _ => lifted os started H enc)
end Go.Proofs.Ytfjancbmecfjgaa.fnExactMuteStretch
#print axioms Go.Proofs.Ytfjancbmecfjgaa.fnExactMuteStretch.proved
