/-
  The top of FnExactPullPath.
-/
import Derived.Test.YtndpiknekdjaeaaPc
import Derived.Test.YtndpiknekdjaeaaTp
namespace Go.Proofs.Ytndpiknekdjaeaa.fnExactPullPath
open Go Go.RowKit Go.ChangeShapes Go.WideShapes Go.ChangeAt Go.Proofs.Ytndpiknekdjaeaa.Ab
set_option linter.unusedVariables false
set_option linter.unusedSimpArgs false

theorem own : ownKnob Try.prog.godebug = none := by kernel_rfl
theorem laidOut : laidOutB Try.prog = true := by kernel_rfl
theorem good : goodTs Try.prog Try.f11.params.toList = true := by kernel_rfl

set_option maxRecDepth 100000 in
theorem contract (H : Type) (enc : TypeId × Value → H) (W : World) (base : Nat) (args : Array Value) (ds gs : List (DataW H)) (before : List MemPlace)
    (hval : ∀ (j : Nat) t v, Try.f11.params[j]? = some t → args[j]? = some v → Value.okWide Try.prog W .any base t v)
    (hW : DataW.Whole enc Try.prog Try.f11.params.toList Rows.fnExactPullPathSpec.vars false W args.toList ds gs before) :
    Calls Try.prog 11 args W fun e W' => ∃ v, e = .returned v ∧ Rows.fnExactPullPathSpec.post enc Try.prog Try.f11 false true false false W args v W' := by
  have hW' := hW
  obtain ⟨p, q, hA0, hV, rfl, hfz, hnd⟩ := hW
  have hA : DataW.TrodAll enc Try.prog W 0 (fun _ => true) true Try.f11.params.toList args.toList ds p := hA0
  rw [Try.params11] at hA hval
  obtain ⟨d0, d1, d2, d3, d4, rfl⟩ := lst5 (trod_dlen _ _ _ _ hA)
  obtain ⟨v0, v1, v2, v3, v4, rfl⟩ := arr5 (trod_len _ _ _ _ hA)
  obtain ⟨rfl, rfl⟩ := trodVars_none hV
  obtain ⟨m0, y0, h0⟩ := trod_at _ _ _ _ hA 0 _ _ rfl rfl
  obtain ⟨u0_0, u0_1, u0_2, z0_0, z0_1, z0_2, n0, rfl, _, _, g0_0, g0_1, g0_2⟩ := Joins.open_agg3 (d := y0.1) (p := y0.2) Try.underlying24 (by kernel_rfl) (by kernel_rfl) (hval 0 24 v0 rfl rfl) ⟨m0, h0⟩
  obtain ⟨w0, rfl, hw0, hW0⟩ := inv_int Try.underlying2 g0_0
  obtain ⟨d0, rfl, hd0, hD0⟩ := inv_int Try.underlying2 g0_1
  obtain ⟨xs0, aa0, ac0, rfl, hr0, hl0⟩ := inv_F Try.underlying22 Try.underlying35 (by kernel_rfl) g0_2
  obtain ⟨m1, y1, h1⟩ := trod_at _ _ _ _ hA 1 _ _ rfl rfl
  obtain ⟨u1_0, u1_1, u1_2, u1_3, z1_0, z1_1, z1_2, z1_3, n1, rfl, _, _, g1_0, g1_1, g1_2, g1_3⟩ := Joins.open_agg4 (d := y1.1) (p := y1.2) Try.underlying39 (by kernel_rfl) (by kernel_rfl) (hval 1 39 v1 rfl rfl) ⟨m1, h1⟩
  obtain ⟨b1_0, rfl⟩ := inv_float Try.underlying35 g1_0
  obtain ⟨b1_1, rfl⟩ := inv_float Try.underlying35 g1_1
  obtain ⟨b1_2, rfl⟩ := inv_float Try.underlying35 g1_2
  obtain ⟨b1_3, rfl⟩ := inv_float Try.underlying35 g1_3
  obtain ⟨b2, rfl⟩ := Ab.okWide_float Try.underlying35 (hval 2 35 v2 rfl rfl)
  obtain ⟨k3, rfl⟩ := okWide_int Try.underlying2 (hval 3 2 v3 rfl rfl)
  obtain ⟨m3, y3, h3⟩ := trod_at _ _ _ _ hA 3 _ _ rfl rfl
  obtain ⟨kk3, hkk3, hk3, hK3⟩ := inv_int Try.underlying2 h3
  cases hkk3
  obtain ⟨b4, rfl⟩ := Ab.okWide_float Try.underlying35 (hval 4 35 v4 rfl rfl)
  have hmx : maxLen ≤ 9223372036854775807 := by unfold maxLen; omega
  refine (calls_fits (c_lawPullPath w0 d0 aa0 _ ac0 xs0 ⟨cb .f32 b1_0, cb .f32 b1_1, cb .f32 b1_2, cb .f32 b1_3⟩ (cb .f32 b2) k3 (cb .f32 b4) (MA W) hr0 (Nat.le_trans hl0 hmx)) (w0 := W) (B := W.heap.size) (vals := #[.agg #[.int .i64 w0, .int .i64 d0, .slice aa0 xs0.length ac0], .agg #[.float .f32 b1_0, .float .f32 b1_1, .float .f32 b1_2, .float .f32 b1_3], .float .f32 b2, .int .i64 k3, .float .f32 b4]) (by simp [nf, nfA, nfS]) (sat_MA W)).mono ?_
  rintro e W' ⟨u, M', rfl, hs, hu, _⟩
  obtain rfl := nf_bool hu
  exact ⟨_, rfl, post_true laidOut good rfl Try.underlying4 rfl hW' hs.below rfl⟩

set_option maxRecDepth 100000 in
theorem lifted (os : Os) (started : os.Started) (H : Type) (enc : TypeId × Value → H) :
    ReturnsInHanded {} Try.checked os 11 .any (Rows.fnExactPullPathSpec.pre6 enc Try.prog Try.f11 Rows.fnExactPullPathRow.domain false) (Rows.fnExactPullPathSpec.post enc Try.prog Try.f11 false true false false) := by
  refine returnsInHanded_of_change (C := Try.checked) own started (by kernel_rfl) Try.func11
    (ChangeSpec.witness6 (enc := enc) (C := Try.checked) false ⟨#[], #[.agg #[.int .i64 0, .int .i64 0, .slice none 0 0], .agg #[.float .f32 0, .float .f32 0, .float .f32 0, .float .f32 0], .float .f32 0, .int .i64 0, .float .f32 0], []⟩ 8 (by kernel_rfl) (by kernel_rfl) (by kernel_rfl) (by kernel_rfl)) ?_
  intro W base args ds gs before hval hW _ _
  exact contract H enc W base args ds gs before hval hW

theorem proved : Rows.FnExactPullPathSaid :=
  OpenClaim.holds_of_wide 11 Try.f11 rfl rfl rfl rfl rfl rfl rfl ⟨rfl, rfl, rfl, rfl, rfl⟩ rfl rfl rfl rfl rfl (by kernel_rfl) Try.func11 (by kernel_rfl)
    (of_decide_eq_true (by kernel_rfl)) (by unfold Func.isWrapper; first | (rw [if_pos (by decide +kernel)]; kernel_rfl) | (rw [if_neg (by decide +kernel)]; exact ⟨rfl, rfl⟩))
    (fun os started H enc _ => lifted os started H enc)
end Go.Proofs.Ytndpiknekdjaeaa.fnExactPullPath
#print axioms Go.Proofs.Ytndpiknekdjaeaa.fnExactPullPath.proved
