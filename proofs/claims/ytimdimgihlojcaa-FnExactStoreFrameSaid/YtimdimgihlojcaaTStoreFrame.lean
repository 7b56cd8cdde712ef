/-
  The top of FnExactStoreFrame.
-/
import Derived.Test.YtimdimgihlojcaaSf
import Derived.Test.YtimdimgihlojcaaTp
namespace Go.Proofs.Ytimdimgihlojcaa.fnExactStoreFrame
open Go Go.RowKit Go.ChangeShapes Go.WideShapes Go.ChangeAt Go.Proofs.Ytimdimgihlojcaa.Ab
set_option linter.unusedVariables false
set_option linter.unusedSimpArgs false

theorem own : ownKnob Try.prog.godebug = none := by kernel_rfl
theorem laidOut : laidOutB Try.prog = true := by kernel_rfl
theorem good : goodTs Try.prog Try.f10.params.toList = true := by kernel_rfl

set_option maxRecDepth 100000 in
theorem contract (H : Type) (enc : TypeId × Value → H) (W : World) (base : Nat) (args : Array Value) (ds gs : List (DataW H)) (before : List MemPlace)
    (hval : ∀ (j : Nat) t v, Try.f10.params[j]? = some t → args[j]? = some v → Value.okWide Try.prog W .any base t v)
    (hW : DataW.Whole enc Try.prog Try.f10.params.toList Rows.fnExactStoreFrameSpec.vars false W args.toList ds gs before) :
    Calls Try.prog 10 args W fun e W' => ∃ v, e = .returned v ∧ Rows.fnExactStoreFrameSpec.post enc Try.prog Try.f10 false true false false W args v W' := by
  have hW' := hW
  obtain ⟨p, q, hA0, hV, rfl, hfz, hnd⟩ := hW
  have hA : DataW.TrodAll enc Try.prog W 0 (fun _ => true) true Try.f10.params.toList args.toList ds p := hA0
  rw [Try.params10] at hA hval
  obtain ⟨d0, rfl⟩ := lst1 (trod_dlen _ _ _ _ hA)
  obtain ⟨v0, rfl⟩ := arr1 (trod_len _ _ _ _ hA)
  obtain ⟨rfl, rfl⟩ := trodVars_none hV
  obtain ⟨m0, y0, h0⟩ := trod_at _ _ _ _ hA 0 _ _ rfl rfl
  obtain ⟨u0_0, u0_1, u0_2, z0_0, z0_1, z0_2, n0, rfl, _, _, g0_0, g0_1, g0_2⟩ := Joins.open_agg3 (d := y0.1) (p := y0.2) Try.underlying41 (by kernel_rfl) (by kernel_rfl) (hval 0 41 v0 rfl rfl) ⟨m0, h0⟩
  obtain ⟨w0, rfl, hw0, hW0⟩ := inv_int Try.underlying2 g0_0
  obtain ⟨d0, rfl, hd0, hD0⟩ := inv_int Try.underlying2 g0_1
  obtain ⟨xs0, aa0, ac0, rfl, hr0, hl0⟩ := inv_F Try.underlying22 Try.underlying35 (by kernel_rfl) g0_2
  have hmx : maxLen ≤ 9223372036854775807 := by unfold maxLen; omega
  refine (calls_fits (c_lawStoreFrame w0 d0 aa0 _ ac0 xs0 (MA W) hr0 (Nat.le_trans hl0 hmx)) (w0 := W) (B := W.heap.size) (vals := #[.agg #[.int .i64 w0, .int .i64 d0, .slice aa0 xs0.length ac0]]) (by simp [nf, nfA, nfS]) (sat_MA W)).mono ?_
  rintro e W' ⟨u, M', rfl, hs, hu, _⟩
  obtain rfl := nf_bool hu
  exact ⟨_, rfl, post_true laidOut good rfl Try.underlying4 rfl hW' hs.below rfl⟩

set_option maxRecDepth 100000 in
theorem lifted (os : Os) (started : os.Started) (H : Type) (enc : TypeId × Value → H) :
    ReturnsInHanded {} Try.checked os 10 .any (Rows.fnExactStoreFrameSpec.pre6 enc Try.prog Try.f10 Rows.fnExactStoreFrameRow.domain false) (Rows.fnExactStoreFrameSpec.post enc Try.prog Try.f10 false true false false) := by
  refine returnsInHanded_of_change (C := Try.checked) own started (by kernel_rfl) Try.func10
    (ChangeSpec.witness6 (enc := enc) (C := Try.checked) false ⟨#[], #[.agg #[.int .i64 0, .int .i64 0, .slice none 0 0]], []⟩ 8 (by kernel_rfl) (by kernel_rfl) (by kernel_rfl) (by kernel_rfl)) ?_
  intro W base args ds gs before hval hW _ _
  exact contract H enc W base args ds gs before hval hW

theorem proved : Rows.FnExactStoreFrameSaid :=
  OpenClaim.holds_of_wide 10 Try.f10 rfl rfl rfl rfl rfl rfl rfl ⟨rfl, rfl, rfl, rfl, rfl⟩ rfl rfl rfl rfl rfl (by kernel_rfl) Try.func10 (by kernel_rfl)
    (of_decide_eq_true (by kernel_rfl)) (by unfold Func.isWrapper; first | (rw [if_pos (by decide +kernel)]; kernel_rfl) | (rw [if_neg (by decide +kernel)]; exact ⟨rfl, rfl⟩))
    (fun os started H enc _ => lifted os started H enc)
end Go.Proofs.Ytimdimgihlojcaa.fnExactStoreFrame
#print axioms Go.Proofs.Ytimdimgihlojcaa.fnExactStoreFrame.proved
