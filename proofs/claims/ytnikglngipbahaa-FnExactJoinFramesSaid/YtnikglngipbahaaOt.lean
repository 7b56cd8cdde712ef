/-
  The abstract layer: a region with a tree of orders.
-/
import Derived.Test.YtnikglngipbahaaDb
namespace Go.Proofs.Ytnikglngipbahaa.Ab
open Go Go.RowKit
set_option linter.unusedVariables false
set_option linter.unusedSimpArgs false

/-- a tree of orders: a line; or the operations that are ready, each with what follows -/
inductive OT where
  | leaf (l : List (Nat × Bool))
  | last (i : Nat) (t : OT)
  | alt (i : Nat) (t r : OT)
def OT.heads : OT → List Nat
  | .leaf _ => []
  | .last i _ => [i]
  | .alt i _ r => i :: r.heads
def OT.dep : OT → Nat
  | .leaf l => l.length
  | .last _ t => t.dep + 1
  | .alt _ t r => max (t.dep + 1) r.dep
def chkT (ops : Array Oper) (ks : List Nat) : Bool → OT → Array Bool → Bool
  | _, .leaf l, li => chkOrd ops ks l li
  | b, .last i t, li => (!b || Region.ready .any ops li == [i]) && chkT ops ks true t (li.setIfInBounds i true)
  | b, .alt i t r, li => (!b || Region.ready .any ops li == i :: r.heads) && chkT ops ks true t (li.setIfInBounds i true) && chkT ops ks false r li
section
variable {P : Program} {n : Nat} {ops : Array Oper} {ks : List Nat} {Q : Tm → Mem → Prop}
def RunT (P : Program) (n : Nat) (ops : Array Oper) (ks : List Nat) (Q : Tm → Mem → Prop) : OT → Tm → Mem → Prop
  | .leaf l => fun T M => Run P n ops (some ks) Q (pick ops l) T M
  | .last i t => fun T M => Run P n ops (some ks) (RunT P n ops ks Q t) (pick ops [(i, false)]) T M
  | .alt i t r => fun T M => Run P n ops (some ks) (RunT P n ops ks Q t) (pick ops [(i, false)]) T M ∧ RunT P n ops ks Q r T M
theorem otF {l : List (Nat × Bool)} {T : Tm} {M : Mem} (h : Run P n ops (some ks) Q (pick ops l) T M) : RunT P n ops ks Q (.leaf l) T M := h
theorem otL {i : Nat} {t : OT} {T : Tm} {M : Mem} (h : Run P n ops (some ks) (RunT P n ops ks Q t) (pick ops [(i, false)]) T M) : RunT P n ops ks Q (.last i t) T M := h
theorem otA {i : Nat} {t r : OT} {T : Tm} {M : Mem} (h : Run P n ops (some ks) (RunT P n ops ks Q t) (pick ops [(i, false)]) T M) (h2 : RunT P n ops ks Q r T M) : RunT P n ops ks Q (.alt i t r) T M := ⟨h, h2⟩
theorem ot_one {t : OT} {F i : Nat} {listed : Array Bool} {T : Tm} {M : Mem} (ih : ∀ F listed T M, Closed ops listed → chkT ops ks true t listed = true → t.dep ≤ F → RunT P n ops ks Q t T M → AnyA P n ops ks Q F listed T M)
    (hc : Closed ops listed) (hk : chkT ops ks true t (listed.setIfInBounds i true) = true) (hd : t.dep ≤ F) (hr : Run P n ops (some ks) (RunT P n ops ks Q t) (pick ops [(i, false)]) T M) (hi : i ∈ Region.ready .any ops listed) :
    ∃ o, ops[i]? = some o ∧ OpA P n ops o T M fun T' M' => (keeps ks o = true → Ext M M') ∧ AnyA P n ops ks Q F (listed.setIfInBounds i true) T' M' := by
  obtain ⟨_, o, ho, _⟩ := mem_ready.1 hi
  refine ⟨o, ho, ?_⟩
  have hp : pick ops [(i, false)] = [(o, false)] := by unfold pick; simp only [ho]; rfl
  rw [hp] at hr
  exact OpA.mono hr fun T' M' hk' => ⟨hk'.1 ks rfl, ih F _ T' M' (hc.set hi) hk hd hk'.2⟩
theorem ot_sound (hQ : QAgree Q) (hsel : Region.noSelect ops = true) : ∀ (t : OT),
    (∀ F listed T M, Closed ops listed → chkT ops ks true t listed = true → t.dep ≤ F → RunT P n ops ks Q t T M → AnyA P n ops ks Q F listed T M) ∧
    (∀ F listed T M, Closed ops listed → chkT ops ks false t listed = true → t.dep ≤ F + 1 → RunT P n ops ks Q t T M → ∀ i ∈ t.heads, i ∈ Region.ready .any ops listed →
      ∃ o, ops[i]? = some o ∧ OpA P n ops o T M fun T' M' => (keeps ks o = true → Ext M M') ∧ AnyA P n ops ks Q F (listed.setIfInBounds i true) T' M') := by
  intro t
  induction t with
  | leaf l =>
    refine ⟨fun F listed T M hc hk hd hr => ?_, fun F listed T M hc hk hd hr i hi => by cases hi⟩
    have := any_of_run (P := P) (n := n) (ks := ks) hQ hsel l (F - l.length) listed T M hc hk hr
    rw [show l.length + (F - l.length) = F from by have : l.length ≤ F := hd; omega] at this
    exact this
  | last i t ih =>
    have two : ∀ b F listed T M, Closed ops listed → chkT ops ks b (.last i t) listed = true → (OT.last i t).dep ≤ F + 1 → RunT P n ops ks Q (.last i t) T M → i ∈ Region.ready .any ops listed →
        ∃ o, ops[i]? = some o ∧ OpA P n ops o T M fun T' M' => (keeps ks o = true → Ext M M') ∧ AnyA P n ops ks Q F (listed.setIfInBounds i true) T' M' := by
      intro b F listed T M hc hk hd hr hi
      unfold chkT at hk
      rw [Bool.and_eq_true] at hk
      exact ot_one ih.1 hc hk.2 (by have : t.dep + 1 ≤ F + 1 := hd; omega) hr hi
    refine ⟨fun F listed T M hc hk hd hr => ?_, fun F listed T M hc hk hd hr j hj hi => ?_⟩
    · obtain ⟨F, rfl⟩ : ∃ F', F = F' + 1 := ⟨F - 1, by have : t.dep + 1 ≤ F := hd; omega⟩
      have hrd : Region.ready .any ops listed = [i] := by
        have hk2 := hk
        unfold chkT at hk2
        rw [Bool.and_eq_true] at hk2
        simpa using hk2.1
      refine ⟨fun h0 => (by rw [hrd] at h0; cases h0), fun j hj => ?_⟩
      have hj' := hj
      rw [hrd] at hj'
      obtain rfl := List.mem_singleton.1 hj'
      exact two true F listed T M hc hk hd hr hj
    · obtain rfl := List.mem_singleton.1 hj
      exact two false F listed T M hc hk hd hr hi
  | alt i t r iht ihr =>
    have two : ∀ b F listed T M, Closed ops listed → chkT ops ks b (.alt i t r) listed = true → (OT.alt i t r).dep ≤ F + 1 → RunT P n ops ks Q (.alt i t r) T M → ∀ j ∈ (OT.alt i t r).heads, j ∈ Region.ready .any ops listed →
        ∃ o, ops[j]? = some o ∧ OpA P n ops o T M fun T' M' => (keeps ks o = true → Ext M M') ∧ AnyA P n ops ks Q F (listed.setIfInBounds j true) T' M' := by
      intro b F listed T M hc hk hd hr j hj hi
      unfold chkT at hk
      rw [Bool.and_eq_true, Bool.and_eq_true] at hk
      have hd' : max (t.dep + 1) r.dep ≤ F + 1 := hd
      rcases List.mem_cons.1 (show j ∈ i :: r.heads from hj) with rfl | hj
      · exact ot_one iht.1 hc hk.1.2 (by omega) hr.1 hi
      · exact ihr.2 F listed T M hc hk.2 (by omega) hr.2 j hj hi
    refine ⟨fun F listed T M hc hk hd hr => ?_, two false⟩
    obtain ⟨F, rfl⟩ : ∃ F', F = F' + 1 := ⟨F - 1, by have : max (t.dep + 1) r.dep ≤ F := hd; omega⟩
    have hrd : Region.ready .any ops listed = i :: r.heads := by
      have hk2 := hk
      unfold chkT at hk2
      rw [Bool.and_eq_true, Bool.and_eq_true] at hk2
      simpa using hk2.1.1
    refine ⟨fun h0 => (by rw [hrd] at h0; cases h0), fun j hj => ?_⟩
    exact two true F listed T M hc hk hd hr j (by rw [hrd] at hj; exact hj) hj
/-- a literal, framed -/
theorem fsL {tx e bytes len : Nat} {z : Value} [hu : UnderT P tx (.slice e)] [hi : InfoT P e 1 bytes z] {T : Tm} {M : Mem} {K : Tm → Mem → Prop} {d : Option Nat} {ty : Nat} {pos : String} {after : Array Edge} {ps : List (Nat × Operand)} {vs : List Value}
    (hr : ps.map (·.1) = List.range len) (ex : evs T (ps.map (·.2)) = some vs) (hf : vs.all flatV = true) (hfz : flatV z = true) (hl : Nat.ble len 1000 = true)
    (hk : ∀ b, K (putT n d (.slice (some ⟨b, 0, none⟩) len len) T) ((b, ⟨vs, true⟩) :: M)) : FSt P n ⟨d, .buildSlice tx len ps.toArray, ty, pos, after, none⟩ T M K :=
  ⟨rfl, fun v L => ∃ b, v = .slice (some ⟨b, 0, none⟩) len len ∧ L = [(b, ⟨vs, true⟩)], fun X => step_buildSlice hr ex hf hfz hl fun b => ⟨_, ⟨b, rfl, rfl⟩, rfl⟩, fun v L h => by
    obtain ⟨b, rfl, rfl⟩ := h; exact hk b⟩
/-- a region with a tree of orders behind its beginning -/
theorem cOT {Q : Exit → Tm → Mem → Prop} {T : Tm} {M : Mem} [hm : Mixed P] {id : Nat} (ks pre : List Nat) (t : OT) (hf : Fine Q)
    (hc : (Region.noSelect ops && (pre.length + t.dep == ops.size) && chkPre ops ks pre (Array.replicate ops.size false) && chkT ops ks true t (setL pre (Array.replicate ops.size false))) = true)
    (h : Run P n ops (some ks) (RunT P n ops ks (fun T M => Q .normal T M) t) (pick ops (pur pre)) T M) : AWp P n (.region id ops true) Q T M := by
  simp only [Bool.and_eq_true, beq_iff_eq] at hc
  obtain ⟨⟨⟨h1, h2⟩, h3⟩, h4⟩ := hc
  refine awp_region_any (ks := ks) hm.out ?_
  have hcl : Closed ops (Array.replicate ops.size false) := fun j hj => by
    exfalso
    by_cases hlt : j < ops.size <;> simp [hlt] at hj
  have := pre_sound (P := P) (n := n) (ks := ks) (Q := fun T M => Q .normal T M) (fu := t.dep) hf h1 pre (Array.replicate ops.size false) T M hcl h3 (fun T M hcl2 hK => (ot_sound hf h1 t).1 t.dep _ T M hcl2 h4 (Nat.le_refl _) hK) h
  rw [h2] at this
  exact this
end
end Go.Proofs.Ytnikglngipbahaa.Ab
