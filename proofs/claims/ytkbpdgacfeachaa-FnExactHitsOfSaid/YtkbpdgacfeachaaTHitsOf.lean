/-
  The top of FnExactHitsOf.
-/
import Derived.Test.YtkbpdgacfeachaaLHits
import Derived.Test.YtkbpdgacfeachaaTp
namespace Go.Proofs.Ytkbpdgacfeachaa.fnExactHitsOf
open Go Go.RowKit Go.ChangeShapes Go.WideShapes Go.ChangeAt Go.Proofs.Ytkbpdgacfeachaa.Ab
set_option linter.unusedVariables false
set_option linter.unusedSimpArgs false

theorem own : ownKnob Try.prog.godebug = none := by kernel_rfl
theorem laidOut : laidOutB Try.prog = true := by kernel_rfl
theorem good : goodTs Try.prog Try.f4.params.toList = true := by kernel_rfl

set_option maxRecDepth 100000 in
theorem contract (H : Type) (enc : TypeId × Value → H) (W : World) (base : Nat) (args : Array Value) (ds gs : List (DataW H)) (before : List MemPlace)
    (hval : ∀ (j : Nat) t v, Try.f4.params[j]? = some t → args[j]? = some v → Value.okWide Try.prog W .any base t v)
    (hW : DataW.Whole enc Try.prog Try.f4.params.toList Rows.fnExactHitsOfSpec.vars false W args.toList ds gs before) :
    Calls Try.prog 4 args W fun e W' => ∃ v, e = .returned v ∧ Rows.fnExactHitsOfSpec.post enc Try.prog Try.f4 false true false false W args v W' := by
  have hW' := hW
  obtain ⟨p, q, hA0, hV, rfl, hfz, hnd⟩ := hW
  have hA : DataW.TrodAll enc Try.prog W 0 (fun _ => true) true Try.f4.params.toList args.toList ds p := hA0
  rw [Try.params4] at hA hval
  obtain ⟨d0, d1, d2, d3, rfl⟩ := lst4 (trod_dlen _ _ _ _ hA)
  obtain ⟨v0, v1, v2, v3, rfl⟩ := arr4 (trod_len _ _ _ _ hA)
  obtain ⟨rfl, rfl⟩ := trodVars_none hV
  obtain ⟨k0, rfl⟩ := okWide_int Try.underlying2 (hval 0 2 v0 rfl rfl)
  obtain ⟨m0, y0, h0⟩ := trod_at _ _ _ _ hA 0 _ _ rfl rfl
  obtain ⟨kk0, hkk0, hk0, hK0⟩ := inv_int Try.underlying2 h0
  cases hkk0
  obtain ⟨k1, rfl⟩ := okWide_int Try.underlying2 (hval 1 2 v1 rfl rfl)
  obtain ⟨m1, y1, h1⟩ := trod_at _ _ _ _ hA 1 _ _ rfl rfl
  obtain ⟨kk1, hkk1, hk1, hK1⟩ := inv_int Try.underlying2 h1
  cases hkk1
  obtain ⟨m2, y2, h2⟩ := trod_at _ _ _ _ hA 2 _ _ rfl rfl
  obtain ⟨aa2, al2, ac2, rfl⟩ := okWide_slice Try.underlying25 (hval 2 25 v2 rfl rfl)
  obtain ⟨ps2, a2, c2, hv2, hr2, hl2⟩ := inv_P Try.underlying25 Try.underlying59 (by kernel_rfl) (by kernel_rfl) ⟨rfl, rfl, rfl, rfl⟩ Try.underlying51 h2
  cases hv2
  obtain ⟨k3, rfl⟩ := okWide_int Try.underlying2 (hval 3 2 v3 rfl rfl)
  obtain ⟨m3, y3, h3⟩ := trod_at _ _ _ _ hA 3 _ _ rfl rfl
  obtain ⟨kk3, hkk3, hk3, hK3⟩ := inv_int Try.underlying2 h3
  cases hkk3
  have hmx : maxLen ≤ 9223372036854775807 := by unfold maxLen; omega
  refine (calls_fits (c_lawHitsOf k0 k1 aa2 _ ac2 ps2 k3 (MA W) hr2 (Nat.le_trans hl2 hmx)) (w0 := W) (B := W.heap.size) (vals := #[.int .i64 k0, .int .i64 k1, .slice aa2 ps2.length ac2, .int .i64 k3]) (by simp [nf, nfA, nfS]) (sat_MA W)).mono ?_
  rintro e W' ⟨u, M', rfl, hs, hu, _⟩
  obtain rfl := nf_bool hu
  exact ⟨_, rfl, post_true laidOut good rfl Try.underlying4 rfl hW' hs.below rfl⟩

set_option maxRecDepth 100000 in
theorem lifted (os : Os) (started : os.Started) (H : Type) (enc : TypeId × Value → H) :
    ReturnsInHanded {} Try.checked os 4 .any (Rows.fnExactHitsOfSpec.pre6 enc Try.prog Try.f4 Rows.fnExactHitsOfRow.domain false) (Rows.fnExactHitsOfSpec.post enc Try.prog Try.f4 false true false false) := by
  refine returnsInHanded_of_change (C := Try.checked) own started (by kernel_rfl) Try.func4
    (ChangeSpec.witness6 (enc := enc) (C := Try.checked) false ⟨#[], #[.int .i64 0, .int .i64 0, .slice none 0 0, .int .i64 0], []⟩ 8 (by kernel_rfl) (by kernel_rfl) (by kernel_rfl) (by kernel_rfl)) ?_
  intro W base args ds gs before hval hW _ _
  exact contract H enc W base args ds gs before hval hW

theorem proved : Rows.FnExactHitsOfSaid :=
  OpenClaim.holds_of_wide 4 Try.f4 rfl rfl rfl rfl rfl rfl rfl ⟨rfl, rfl, rfl, rfl, rfl⟩ rfl rfl rfl rfl rfl (by kernel_rfl) Try.func4 (by kernel_rfl)
    (of_decide_eq_true (by kernel_rfl)) (by unfold Func.isWrapper; first | (rw [if_pos (by decide +kernel)]; kernel_rfl) | (rw [if_neg (by decide +kernel)]; exact ⟨rfl, rfl⟩))
    (fun os started H enc _ => lifted os started H enc)
end Go.Proofs.Ytkbpdgacfeachaa.fnExactHitsOf
#print axioms Go.Proofs.Ytkbpdgacfeachaa.fnExactHitsOf.proved
