/-
  The abstract layer: regions with two orders; literals and appends that may stand beside a variable made at any time.
-/
import Derived.Test.YtkbpdgacfeachaaOc
namespace Go.Proofs.Ytkbpdgacfeachaa.Ab
open Go Go.RowKit
set_option linter.unusedVariables false
set_option linter.unusedSimpArgs false

def setL : List Nat → Array Bool → Array Bool
  | [], listed => listed
  | i :: l, listed => setL l (listed.setIfInBounds i true)
def chkPre (ops : Array Oper) (ks : List Nat) : List Nat → Array Bool → Bool
  | [], _ => true
  | j :: l, listed => (match ops[j]? with
      | some o => (Region.ready .any ops listed).contains j && Region.free .any ops listed j && (guardChk ops ks j || regOp o.op)
      | none => false) && chkPre ops ks l (listed.setIfInBounds j true)
section
variable {P : Program} {n : Nat} {ops : Array Oper} {ks : List Nat} {Q : Tm → Mem → Prop}
theorem pre_sound (hQ : QAgree Q) (hsel : Region.noSelect ops = true) {K : Tm → Mem → Prop} {fu : Nat} :
    ∀ (l : List Nat) (listed : Array Bool) (T : Tm) (M : Mem), Closed ops listed → chkPre ops ks l listed = true → (∀ T M, Closed ops (setL l listed) → K T M → AnyA P n ops ks Q fu (setL l listed) T M) →
      Run P n ops (some ks) K (pick ops (pur l)) T M → AnyA P n ops ks Q (l.length + fu) listed T M := by
  intro l
  induction l with
  | nil => intro listed T M hc _ hK hr; rw [List.length_nil, Nat.zero_add]; exact hK T M hc hr
  | cons j l ih =>
    intro listed T M hc h hK hr
    unfold chkPre at h
    rw [Bool.and_eq_true] at h
    obtain ⟨h1, h2⟩ := h
    cases ho : ops[j]? with
    | none => rw [ho] at h1; simp at h1
    | some o =>
      rw [ho] at h1
      simp only [Bool.and_eq_true] at h1
      obtain ⟨⟨g1, g2⟩, g3⟩ := h1
      have hp : pick ops (pur (j :: l)) = (o, true) :: pick ops (pur l) := by simp only [pur, List.map_cons, pick, ho]
      rw [hp] at hr
      obtain ⟨v, hreg, hv, hr⟩ := hr
      have hready : j ∈ Region.ready .any ops listed := by simpa using g1
      have hgu : Guarded ops ks j (Closed ops) ∨ ∀ M', HoistOk P ops o T M' v := by
        rcases Bool.or_eq_true_iff.1 g3 with g3 | g3
        · exact .inl (guarded_of g3)
        · exact .inr (hreg g3)
      rw [show (j :: l).length + fu = (l.length + fu) + 1 from by simp only [List.length_cons]; omega]
      exact any_hoist hQ ho hsel (Closed ops) (fun l j hl hj => hl.set hj) (l.length + fu) listed T M hc (Region.free_spec ho g2) hready hgu hv
        (ih _ _ _ (hc.set hready) h2 hK hr)
/-- a region with two orders behind its beginning -/
theorem cBr {Q : Exit → Tm → Mem → Prop} {T : Tm} {M : Mem} [hm : Mixed P] {id : Nat} (ks pre : List Nat) (i j : Nat) (o1 o2 : List (Nat × Bool)) (hf : Fine Q) {oi oj : Oper} (hi : ops[i]? = some oi) (hj : ops[j]? = some oj)
    (hc : (Region.noSelect ops && (pre.length + (o1.length + 1) == ops.size) && (o2.length == o1.length) && chkPre ops ks pre (Array.replicate ops.size false) && (Region.ready .any ops (setL pre (Array.replicate ops.size false)) == [i, j]) && chkOrd ops ks o1 ((setL pre (Array.replicate ops.size false)).setIfInBounds i true) && chkOrd ops ks o2 ((setL pre (Array.replicate ops.size false)).setIfInBounds j true)) = true)
    (h : Run P n ops (some ks) (fun T M => Run P n ops (some ks) (fun T M => Q .normal T M) ((oi, false) :: pick ops o1) T M ∧ Run P n ops (some ks) (fun T M => Q .normal T M) ((oj, false) :: pick ops o2) T M) (pick ops (pur pre)) T M) :
    AWp P n (.region id ops true) Q T M := by
  simp only [Bool.and_eq_true, beq_iff_eq] at hc
  obtain ⟨⟨⟨⟨⟨⟨h1, h2⟩, h3⟩, h4⟩, h5⟩, h6⟩, h7⟩ := hc
  refine awp_region_any (ks := ks) hm.out ?_
  have hcl : Closed ops (Array.replicate ops.size false) := fun j hj => by
    exfalso
    by_cases hlt : j < ops.size <;> simp [hlt] at hj
  have := pre_sound (P := P) (n := n) (ks := ks) (Q := fun T M => Q .normal T M) (fu := o1.length + 1) hf h1 pre (Array.replicate ops.size false) T M hcl h4 (fun T M hcl2 hK => by
    refine ⟨fun h0 => (by rw [h0] at h5; cases h5), fun k hk => ?_⟩
    rw [h5] at hk
    have hri : i ∈ Region.ready .any ops (setL pre (Array.replicate ops.size false)) := by rw [h5]; simp
    have hrj : j ∈ Region.ready .any ops (setL pre (Array.replicate ops.size false)) := by rw [h5]; simp
    simp only [List.mem_cons, List.not_mem_nil, or_false] at hk
    rcases hk with rfl | rfl
    · exact ⟨oi, hi, OpA.mono hK.1 fun T' M' hk => ⟨hk.1 ks rfl, any_of_run hf h1 o1 0 _ _ _ (hcl2.set hri) h6 hk.2⟩⟩
    · refine ⟨oj, hj, OpA.mono hK.2 fun T' M' hk => ⟨hk.1 ks rfl, ?_⟩⟩
      have := any_of_run (P := P) (n := n) (ks := ks) (Q := fun T M => Q .normal T M) hf h1 o2 0 _ _ _ (hcl2.set hrj) h7 hk.2
      rw [h3] at this
      exact this) h
  rw [h2] at this
  exact this
/-- an empty literal, framed -/
theorem fsB {tx e bytes : Nat} {z : Value} [hu : UnderT P tx (.slice e)] [hi : InfoT P e 1 bytes z] {T : Tm} {M : Mem} {K : Tm → Mem → Prop} {d : Option Nat} {ty : Nat} {pos : String} {after : Array Edge} (hfz : flatV z = true)
    (hk : ∀ b, K (putT n d (.slice (some ⟨b, 0, none⟩) 0 0) T) ((b, ⟨[], true⟩) :: M)) : FSt P n ⟨d, .buildSlice tx 0 #[], ty, pos, after, none⟩ T M K :=
  ⟨rfl, fun v L => ∃ b, v = .slice (some ⟨b, 0, none⟩) 0 0 ∧ L = [(b, ⟨[], true⟩)], fun X => step_buildSlice (ps := []) (vs := []) rfl rfl rfl hfz rfl fun b => ⟨_, ⟨b, rfl, rfl⟩, rfl⟩, fun v L h => by
    obtain ⟨b, rfl, rfl⟩ := h; exact hk b⟩
/-- an append to an empty literal, framed -/
theorem fsE {t e bytes : Nat} {z : Value} [hu : UnderT P t (.slice e)] [hi : InfoT P e 1 bytes z] {x y : Operand} {ys : List Nat} {a : Option Addr} {b0 m c : Nat} {T : Tm} {M : Mem} {K : Tm → Mem → Prop} {d : Option Nat} {ty : Nat} {pos : String} {after : Array Edge}
    (ex : ev T x = some (.slice (some ⟨b0, 0, none⟩) 0 0)) (ey : ev T y = some (.slice a m c)) (hr : RdF M a m ys) (hb : m * bytes ≤ 140737488355328) (h63 : m ≤ 4611686018427387904)
    (hk : ∀ v L, OwF L v ys → K (putT n d v T) (L ++ M)) : FSt P n ⟨d, .call { callee := .builtin .append, args := #[x, y], argTypes := #[t, t] }, ty, pos, after, none⟩ T M K := by
  refine ⟨rfl, fun v L => OwF L v ys, fun X => ?_, hk⟩
  have hr' : RdF (X ++ M) a m ys := hr.mono (ext_append X M)
  have hl := hr.len
  have hfl : ∀ v ∈ ys.map Ab.fl, flatV v = true := by
    intro v hv; rw [List.mem_map] at hv; obtain ⟨w, _, rfl⟩ := hv; rfl
  by_cases h0 : 0 < m
  · refine step_appendE (t := t) ex ey hr'.toRd (by simpa using hl) h0 hfl hb (by simpa using h63) fun b' cap' rest' h => ?_
    exact ⟨[(b', FB ys rest')], .inr ⟨b', cap', rest', by rw [hl], by rw [hl]; exact h, rfl⟩, rfl⟩
  · have hm : m = 0 := by omega
    subst hm
    have hy0 : ys = [] := by cases ys with | nil => rfl | cons a b => simp at hl
    subst hy0
    exact step_append0 (t := t) ex ey (Nat.le_refl _) ⟨[], OwF.nil, rfl⟩
end
end Go.Proofs.Ytkbpdgacfeachaa.Ab
