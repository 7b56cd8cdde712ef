/-
  The law FnExactBestShift returns true for all lists and bounds: the program and the reference find the same best shift, with the same sum.
-/
import Derived.Test.YtjpbgldnnfcmaaaLBe
import Derived.Test.YtjpbgldnnfcmaaaTp
namespace Go.Proofs.Ytjpbgldnnfcmaaa.fnExactBestShift
open Go Go.RowKit Go.ChangeShapes Go.WideShapes Go.ChangeAt Go.Proofs.Ytjpbgldnnfcmaaa.Ab
set_option linter.unusedVariables false
set_option linter.unusedSimpArgs false

theorem own : ownKnob Try.prog.godebug = none := by kernel_rfl
theorem laidOut : laidOutB Try.prog = true := by kernel_rfl
theorem good : goodTs Try.prog Try.f6.params.toList = true := by kernel_rfl

theorem contract (H : Type) (enc : TypeId × Value → H) (W : World) (base : Nat) (args : Array Value) (ds gs : List (DataW H)) (before : List MemPlace)
    (hval : ∀ (j : Nat) t v, Try.f6.params[j]? = some t → args[j]? = some v → Value.okWide Try.prog W .any base t v)
    (hW : DataW.Whole enc Try.prog Try.f6.params.toList Rows.fnExactBestShiftSpec.vars false W args.toList ds gs before) :
    Calls Try.prog 6 args W fun e W' => ∃ v, e = .returned v ∧ Rows.fnExactBestShiftSpec.post enc Try.prog Try.f6 false true false false W args v W' := by
  have hW' := hW
  obtain ⟨p, q, hA0, hV, rfl, hfz, hnd⟩ := hW
  have hA : DataW.TrodAll enc Try.prog W 0 (fun _ => true) true Try.f6.params.toList args.toList ds p := hA0
  rw [Try.params6] at hA hval
  obtain ⟨d0, d1, d2, rfl⟩ := lst3 (trod_dlen _ _ _ _ hA)
  obtain ⟨v0, v1, v2, rfl⟩ := arr3 (trod_len _ _ _ _ hA)
  obtain ⟨rfl, rfl⟩ := trodVars_none hV
  obtain ⟨aa0, al0, ac0, rfl⟩ := okWide_slice Try.underlying22 (hval 0 22 v0 rfl rfl)
  obtain ⟨m0, y0, h0⟩ := trod_at _ _ _ _ hA 0 _ _ rfl rfl
  obtain ⟨xs0, a0, c0, hv0, hr0, hl0⟩ := inv_F Try.underlying22 Try.underlying31 (by kernel_rfl) h0
  cases hv0
  obtain ⟨aa1, al1, ac1, rfl⟩ := okWide_slice Try.underlying22 (hval 1 22 v1 rfl rfl)
  obtain ⟨m1, y1, h1⟩ := trod_at _ _ _ _ hA 1 _ _ rfl rfl
  obtain ⟨xs1, a1, c1, hv1, hr1, hl1⟩ := inv_F Try.underlying22 Try.underlying31 (by kernel_rfl) h1
  cases hv1
  obtain ⟨k2, rfl⟩ := okWide_int Try.underlying2 (hval 2 2 v2 rfl rfl)
  obtain ⟨m2, y2, h2⟩ := trod_at _ _ _ _ hA 2 _ _ rfl rfl
  obtain ⟨kk2, hkk2, hk2, hK2⟩ := inv_int Try.underlying2 h2
  cases hkk2
  refine (calls_fits (c_lawBestShift aa0 aa1 _ _ ac0 ac1 k2 xs0 xs1 (MA W) hr0 hr1) (w0 := W) (B := W.heap.size) (vals := #[.slice aa0 xs0.length ac0, .slice aa1 xs1.length ac1, .int .i64 k2]) (by simp [nf, nfA, nfS]) (sat_MA W)).mono ?_
  rintro e W' ⟨u, M', rfl, hs, hu, _⟩
  obtain rfl := nf_bool hu
  exact ⟨_, rfl, post_true laidOut good rfl Try.underlying4 rfl hW' hs.below rfl⟩

set_option maxRecDepth 100000 in
theorem lifted (os : Os) (started : os.Started) (H : Type) (enc : TypeId × Value → H) :
    ReturnsInHanded {} Try.checked os 6 .any (Rows.fnExactBestShiftSpec.pre6 enc Try.prog Try.f6 Rows.fnExactBestShiftRow.domain false) (Rows.fnExactBestShiftSpec.post enc Try.prog Try.f6 false true false false) := by
  refine returnsInHanded_of_change (C := Try.checked) own started (by kernel_rfl) Try.func6
    (ChangeSpec.witness6 (enc := enc) (C := Try.checked) false ⟨#[], #[.slice none 0 0, .slice none 0 0, .int .i64 0], []⟩ 8 (by kernel_rfl) (by kernel_rfl) (by kernel_rfl) (by kernel_rfl)) ?_
  intro W base args ds gs before hval hW _ _
  exact contract H enc W base args ds gs before hval hW

theorem proved : Rows.FnExactBestShiftSaid :=
  OpenClaim.holds_of_wide 6 Try.f6 rfl rfl rfl rfl rfl rfl rfl ⟨rfl, rfl, rfl, rfl, rfl⟩ rfl rfl rfl rfl rfl (by kernel_rfl) Try.func6 (by kernel_rfl)
    (of_decide_eq_true (by kernel_rfl)) (by unfold Func.isWrapper; first | (rw [if_pos (by decide +kernel)]; kernel_rfl) | (rw [if_neg (by decide +kernel)]; exact ⟨rfl, rfl⟩))
    (fun os started H enc _ => lifted os started H enc)
end Go.Proofs.Ytjpbgldnnfcmaaa.fnExactBestShift
#print axioms Go.Proofs.Ytjpbgldnnfcmaaa.fnExactBestShift.proved
