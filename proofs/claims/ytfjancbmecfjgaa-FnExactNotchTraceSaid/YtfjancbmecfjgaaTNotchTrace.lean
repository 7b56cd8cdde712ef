/-
  The top of FnExactNotchTrace.
-/
import Derived.Test.YtfjancbmecfjgaaNf
import Derived.Test.YtfjancbmecfjgaaTp
namespace Go.Proofs.Ytfjancbmecfjgaa.fnExactNotchTrace
open Go Go.RowKit Go.ChangeShapes Go.WideShapes Go.ChangeAt Go.Proofs.Ytfjancbmecfjgaa.Ab
set_option linter.unusedVariables false
set_option linter.unusedSimpArgs false

theorem own : ownKnob Try.prog.godebug = none := by kernel_rfl
theorem laidOut : laidOutB Try.prog = true := by kernel_rfl
theorem good : goodTs Try.prog Try.f7.params.toList = true := by kernel_rfl

set_option maxRecDepth 100000 in
theorem contract (H : Type) (enc : TypeId × Value → H) (W : World) (base : Nat) (args : Array Value) (ds gs : List (DataW H)) (before : List MemPlace)
    (hval : ∀ (j : Nat) t v, Try.f7.params[j]? = some t → args[j]? = some v → Value.okWide Try.prog W .any base t v)
    (hW : DataW.Whole enc Try.prog Try.f7.params.toList Rows.fnExactNotchTraceSpec.vars false W args.toList ds gs before) :
    Calls Try.prog 7 args W fun e W' => ∃ v, e = .returned v ∧ Rows.fnExactNotchTraceSpec.post enc Try.prog Try.f7 false true false false W args v W' := by
  have hW' := hW
  obtain ⟨p, q, hA0, hV, rfl, hfz, hnd⟩ := hW
  have hA : DataW.TrodAll enc Try.prog W 0 (fun _ => true) true Try.f7.params.toList args.toList ds p := hA0
  rw [Try.params7] at hA hval
  obtain ⟨d0, d1, rfl⟩ := lst2 (trod_dlen _ _ _ _ hA)
  obtain ⟨v0, v1, rfl⟩ := arr2 (trod_len _ _ _ _ hA)
  obtain ⟨rfl, rfl⟩ := trodVars_none hV
  obtain ⟨aa0, al0, ac0, rfl⟩ := okWide_slice Try.underlying22 (hval 0 22 v0 rfl rfl)
  obtain ⟨m0, y0, h0⟩ := trod_at _ _ _ _ hA 0 _ _ rfl rfl
  obtain ⟨xs0, a0, c0, hv0, hr0, hl0⟩ := inv_F Try.underlying22 Try.underlying37 (by kernel_rfl) h0
  cases hv0
  obtain ⟨b1, rfl⟩ := Ab.okWide_float Try.underlying37 (hval 1 37 v1 rfl rfl)
  have hmx : maxLen ≤ 9223372036854775807 := by unfold maxLen; omega
  refine (calls_fits (c_lawNotchTrace aa0 _ ac0 (cb .f32 b1) xs0 (MA W) hr0 (Nat.le_trans hl0 hmx)) (w0 := W) (B := W.heap.size) (vals := #[.slice aa0 xs0.length ac0, .float .f32 b1]) (by simp [nf, nfA, nfS]) (sat_MA W)).mono ?_
  rintro e W' ⟨u, M', rfl, hs, hu, _⟩
  obtain rfl := nf_bool hu
  exact ⟨_, rfl, post_true laidOut good rfl Try.underlying4 rfl hW' hs.below rfl⟩

set_option maxRecDepth 100000 in
theorem lifted (os : Os) (started : os.Started) (H : Type) (enc : TypeId × Value → H) :
    ReturnsInHanded {} Try.checked os 7 .any (Rows.fnExactNotchTraceSpec.pre6 enc Try.prog Try.f7 Rows.fnExactNotchTraceRow.domain false) (Rows.fnExactNotchTraceSpec.post enc Try.prog Try.f7 false true false false) := by
  refine returnsInHanded_of_change (C := Try.checked) own started (by kernel_rfl) Try.func7
    (ChangeSpec.witness6 (enc := enc) (C := Try.checked) false ⟨#[], #[.slice none 0 0, .float .f32 0], []⟩ 8 (by kernel_rfl) (by kernel_rfl) (by kernel_rfl) (by kernel_rfl)) ?_
  intro W base args ds gs before hval hW _ _
  exact contract H enc W base args ds gs before hval hW

theorem proved : Rows.FnExactNotchTraceSaid :=
  OpenClaim.holds_of_wide 7 Try.f7 rfl rfl rfl rfl rfl rfl rfl ⟨rfl, rfl, rfl, rfl, rfl⟩ rfl rfl rfl rfl rfl (by kernel_rfl) Try.func7 (by kernel_rfl)
    (of_decide_eq_true (by kernel_rfl)) (by unfold Func.isWrapper; first | (rw [if_pos (by decide +kernel)]; kernel_rfl) | (rw [if_neg (by decide +kernel)]; exact ⟨rfl, rfl⟩))
    (fun os started H enc _ => lifted os started H enc)
end Go.Proofs.Ytfjancbmecfjgaa.fnExactNotchTrace
#print axioms Go.Proofs.Ytfjancbmecfjgaa.fnExactNotchTrace.proved
