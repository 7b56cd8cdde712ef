/-
  The law FnExactWhiteAuto returns true for every list and number.
-/
import Derived.Test.YtjpbgldnnfcmaaaLWhite
import Derived.Test.YtjpbgldnnfcmaaaTop
namespace Go.Proofs.Ytjpbgldnnfcmaaa.fnExactWhiteAuto
open Go Go.RowKit Go.ChangeShapes Go.WideShapes Go.ChangeAt Go.Proofs.Ytjpbgldnnfcmaaa.Ab
set_option linter.unusedVariables false

theorem own : ownKnob Try.prog.godebug = none := by kernel_rfl
theorem laidOut : laidOutB Try.prog = true := by kernel_rfl
theorem good : goodTs Try.prog Try.f4.params.toList = true := by kernel_rfl

theorem okWide_float {P : Program} {w : World} {r : Reach} {base : Nat} {t : TypeId} {k : FloatKind} {v : Value} (ht : P.underlying t = some (.float k)) (h : Value.okWide P w r base t v) : ∃ b, v = .float k b := by
  simp only [Value.okWide, ht, Cell.okWide] at h
  cases v <;> simp_all [Cell.ok]
theorem contract (H : Type) (enc : TypeId × Value → H) (W : World) (base : Nat) (args : Array Value) (ds gs : List (DataW H)) (before : List MemPlace)
    (hval : ∀ (j : Nat) t v, Try.f4.params[j]? = some t → args[j]? = some v → Value.okWide Try.prog W .any base t v)
    (hW : DataW.Whole enc Try.prog Try.f4.params.toList Rows.fnExactWhiteAutoSpec.vars false W args.toList ds gs before) :
    Calls Try.prog 4 args W fun e W' => ∃ v, e = .returned v ∧ Rows.fnExactWhiteAutoSpec.post enc Try.prog Try.f4 false true false false W args v W' := by
  have hW' := hW
  obtain ⟨p, q, hA0, hV, rfl, hfz, hnd⟩ := hW
  have hA : DataW.TrodAll enc Try.prog W 0 (fun _ => true) true Try.f4.params.toList args.toList ds p := hA0
  rw [Try.params4] at hA hval
  obtain ⟨v0, v1, d0, d1, p0, p1, rfl, rfl, hp, h0, h1⟩ := trodAll_two hA
  obtain ⟨rfl, rfl⟩ := trodVars_none hV
  obtain ⟨aa, al, ac, rfl⟩ := okWide_slice Try.underlying22 (hval 0 22 v0 rfl rfl)
  obtain ⟨bb, rfl⟩ := okWide_float Try.underlying31 (hval 1 31 v1 rfl rfl)
  obtain ⟨f0, h0⟩ := h0
  obtain ⟨xs, hr, hlen, _⟩ := inv_floats Try.underlying22 Try.underlying31 (by kernel_rfl) h0
  obtain ⟨a, c, hv, _⟩ := hr.open
  obtain rfl := (Value.slice.inj hv).1
  obtain rfl := (Value.slice.inj hv).2.1
  refine (calls_fits (c_lawWhiteAuto _ xs (cb .f32 bb) (MA W) hr) (w0 := W) (B := W.heap.size) (vals := #[.slice aa xs.length ac, .float .f32 bb]) (by simp [nf, nfA, nfS]) (sat_MA W)).mono ?_
  rintro e W' ⟨u, M', rfl, hs, hu, _⟩
  obtain rfl := nf_bool hu
  exact ⟨_, rfl, post_true laidOut good rfl Try.underlying4 rfl hW' hs.below rfl⟩

set_option maxRecDepth 100000 in
theorem lifted (os : Os) (started : os.Started) (H : Type) (enc : TypeId × Value → H) :
    ReturnsInHanded {} Try.checked os 4 .any (Rows.fnExactWhiteAutoSpec.pre6 enc Try.prog Try.f4 Rows.fnExactWhiteAutoRow.domain false) (Rows.fnExactWhiteAutoSpec.post enc Try.prog Try.f4 false true false false) := by
  refine returnsInHanded_of_change (C := Try.checked) own started (by kernel_rfl) Try.func4
    (ChangeSpec.witness6 (enc := enc) (C := Try.checked) false ⟨#[], #[.slice none 0 0, .float .f32 0], []⟩ 8 (by kernel_rfl) (by kernel_rfl) (by kernel_rfl) (by kernel_rfl)) ?_
  intro W base args ds gs before hval hW _ _
  exact contract H enc W base args ds gs before hval hW

theorem proved : Rows.FnExactWhiteAutoSaid :=
  OpenClaim.holds_of_wide 4 Try.f4 rfl rfl rfl rfl rfl rfl rfl ⟨rfl, rfl, rfl, rfl, rfl⟩ rfl rfl rfl rfl rfl (by kernel_rfl) Try.func4 (by kernel_rfl)
    (of_decide_eq_true (by kernel_rfl)) (by unfold Func.isWrapper; first | (rw [if_pos (by decide +kernel)]; kernel_rfl) | (rw [if_neg (by decide +kernel)]; exact ⟨rfl, rfl⟩))
    (fun os started H enc _ => lifted os started H enc)
end Go.Proofs.Ytjpbgldnnfcmaaa.fnExactWhiteAuto
#print axioms Go.Proofs.Ytjpbgldnnfcmaaa.fnExactWhiteAuto.proved
