/-
  The abstract layer: a region with a tree of orders.
-/
import Derived.Test.YtkbpdgacfeachaaDb
import Derived.Test.YtkbpdgacfeachaaCp
namespace Go.Proofs.Ytkbpdgacfeachaa.Ab
open Go Go.RowKit
set_option linter.unusedVariables false
set_option linter.unusedSimpArgs false

/-- a tree of orders: a line; or the operations that are ready, each with what follows -/
inductive OT where
  | leaf (l : List (Nat × Bool))
  | last (i : Nat) (t : OT)
  | alt (i : Nat) (t r : OT)
def OT.heads : OT → List Nat
  | .leaf _ => []
  | .last i _ => [i]
  | .alt i _ r => i :: r.heads
def OT.dep : OT → Nat
  | .leaf l => l.length
  | .last _ t => t.dep + 1
  | .alt _ t r => max (t.dep + 1) r.dep
def chkT (ops : Array Oper) (ks : List Nat) : Bool → OT → Array Bool → Bool
  | _, .leaf l, li => chkOrd ops ks l li
  | b, .last i t, li => (!b || Region.ready .any ops li == [i]) && chkT ops ks true t (li.setIfInBounds i true)
  | b, .alt i t r, li => (!b || Region.ready .any ops li == i :: r.heads) && chkT ops ks true t (li.setIfInBounds i true) && chkT ops ks false r li
section
variable {P : Program} {n : Nat} {ops : Array Oper} {ks : List Nat} {Q : Tm → Mem → Prop}
def RunT (P : Program) (n : Nat) (ops : Array Oper) (ks : List Nat) (Q : Tm → Mem → Prop) : OT → Tm → Mem → Prop
  | .leaf l => fun T M => Run P n ops (some ks) Q (pick ops l) T M
  | .last i t => fun T M => Run P n ops (some ks) (RunT P n ops ks Q t) (pick ops [(i, false)]) T M
  | .alt i t r => fun T M => Run P n ops (some ks) (RunT P n ops ks Q t) (pick ops [(i, false)]) T M ∧ RunT P n ops ks Q r T M
theorem otF {l : List (Nat × Bool)} {T : Tm} {M : Mem} (h : Run P n ops (some ks) Q (pick ops l) T M) : RunT P n ops ks Q (.leaf l) T M := h
theorem otL {i : Nat} {t : OT} {T : Tm} {M : Mem} (h : Run P n ops (some ks) (RunT P n ops ks Q t) (pick ops [(i, false)]) T M) : RunT P n ops ks Q (.last i t) T M := h
theorem otA {i : Nat} {t r : OT} {T : Tm} {M : Mem} (h : Run P n ops (some ks) (RunT P n ops ks Q t) (pick ops [(i, false)]) T M) (h2 : RunT P n ops ks Q r T M) : RunT P n ops ks Q (.alt i t r) T M := ⟨h, h2⟩
theorem ot_one {t : OT} {F i : Nat} {listed : Array Bool} {T : Tm} {M : Mem} (ih : ∀ F listed T M, Closed ops listed → chkT ops ks true t listed = true → t.dep ≤ F → RunT P n ops ks Q t T M → AnyA P n ops ks Q F listed T M)
    (hc : Closed ops listed) (hk : chkT ops ks true t (listed.setIfInBounds i true) = true) (hd : t.dep ≤ F) (hr : Run P n ops (some ks) (RunT P n ops ks Q t) (pick ops [(i, false)]) T M) (hi : i ∈ Region.ready .any ops listed) :
    ∃ o, ops[i]? = some o ∧ OpA P n ops o T M fun T' M' => (keeps ks o = true → Ext M M') ∧ AnyA P n ops ks Q F (listed.setIfInBounds i true) T' M' := by
  obtain ⟨_, o, ho, _⟩ := mem_ready.1 hi
  refine ⟨o, ho, ?_⟩
  have hp : pick ops [(i, false)] = [(o, false)] := by unfold pick; simp only [ho]; rfl
  rw [hp] at hr
  exact OpA.mono hr fun T' M' hk' => ⟨hk'.1 ks rfl, ih F _ T' M' (hc.set hi) hk hd hk'.2⟩
theorem ot_sound (hQ : QAgree Q) (hsel : Region.noSelect ops = true) : ∀ (t : OT),
    (∀ F listed T M, Closed ops listed → chkT ops ks true t listed = true → t.dep ≤ F → RunT P n ops ks Q t T M → AnyA P n ops ks Q F listed T M) ∧
    (∀ F listed T M, Closed ops listed → chkT ops ks false t listed = true → t.dep ≤ F + 1 → RunT P n ops ks Q t T M → ∀ i ∈ t.heads, i ∈ Region.ready .any ops listed →
      ∃ o, ops[i]? = some o ∧ OpA P n ops o T M fun T' M' => (keeps ks o = true → Ext M M') ∧ AnyA P n ops ks Q F (listed.setIfInBounds i true) T' M') := by
  intro t
  induction t with
  | leaf l =>
    refine ⟨fun F listed T M hc hk hd hr => ?_, fun F listed T M hc hk hd hr i hi => by cases hi⟩
    have := any_of_run (P := P) (n := n) (ks := ks) hQ hsel l (F - l.length) listed T M hc hk hr
    rw [show l.length + (F - l.length) = F from by have : l.length ≤ F := hd; omega] at this
    exact this
  | last i t ih =>
    have two : ∀ b F listed T M, Closed ops listed → chkT ops ks b (.last i t) listed = true → (OT.last i t).dep ≤ F + 1 → RunT P n ops ks Q (.last i t) T M → i ∈ Region.ready .any ops listed →
        ∃ o, ops[i]? = some o ∧ OpA P n ops o T M fun T' M' => (keeps ks o = true → Ext M M') ∧ AnyA P n ops ks Q F (listed.setIfInBounds i true) T' M' := by
      intro b F listed T M hc hk hd hr hi
      unfold chkT at hk
      rw [Bool.and_eq_true] at hk
      exact ot_one ih.1 hc hk.2 (by have : t.dep + 1 ≤ F + 1 := hd; omega) hr hi
    refine ⟨fun F listed T M hc hk hd hr => ?_, fun F listed T M hc hk hd hr j hj hi => ?_⟩
    · obtain ⟨F, rfl⟩ : ∃ F', F = F' + 1 := ⟨F - 1, by have : t.dep + 1 ≤ F := hd; omega⟩
      have hrd : Region.ready .any ops listed = [i] := by
        have hk2 := hk
        unfold chkT at hk2
        rw [Bool.and_eq_true] at hk2
        simpa using hk2.1
      refine ⟨fun h0 => (by rw [hrd] at h0; cases h0), fun j hj => ?_⟩
      have hj' := hj
      rw [hrd] at hj'
      obtain rfl := List.mem_singleton.1 hj'
      exact two true F listed T M hc hk hd hr hj
    · obtain rfl := List.mem_singleton.1 hj
      exact two false F listed T M hc hk hd hr hi
  | alt i t r iht ihr =>
    have two : ∀ b F listed T M, Closed ops listed → chkT ops ks b (.alt i t r) listed = true → (OT.alt i t r).dep ≤ F + 1 → RunT P n ops ks Q (.alt i t r) T M → ∀ j ∈ (OT.alt i t r).heads, j ∈ Region.ready .any ops listed →
        ∃ o, ops[j]? = some o ∧ OpA P n ops o T M fun T' M' => (keeps ks o = true → Ext M M') ∧ AnyA P n ops ks Q F (listed.setIfInBounds j true) T' M' := by
      intro b F listed T M hc hk hd hr j hj hi
      unfold chkT at hk
      rw [Bool.and_eq_true, Bool.and_eq_true] at hk
      have hd' : max (t.dep + 1) r.dep ≤ F + 1 := hd
      rcases List.mem_cons.1 (show j ∈ i :: r.heads from hj) with rfl | hj
      · exact ot_one iht.1 hc hk.1.2 (by omega) hr.1 hi
      · exact ihr.2 F listed T M hc hk.2 (by omega) hr.2 j hj hi
    refine ⟨fun F listed T M hc hk hd hr => ?_, two false⟩
    obtain ⟨F, rfl⟩ : ∃ F', F = F' + 1 := ⟨F - 1, by have : max (t.dep + 1) r.dep ≤ F := hd; omega⟩
    have hrd : Region.ready .any ops listed = i :: r.heads := by
      have hk2 := hk
      unfold chkT at hk2
      rw [Bool.and_eq_true, Bool.and_eq_true] at hk2
      simpa using hk2.1.1
    refine ⟨fun h0 => (by rw [hrd] at h0; cases h0), fun j hj => ?_⟩
    exact two true F listed T M hc hk hd hr j (by rw [hrd] at hj; exact hj) hj
/-- a literal, framed -/
theorem fsL {tx e bytes len : Nat} {z : Value} [hu : UnderT P tx (.slice e)] [hi : InfoT P e 1 bytes z] {T : Tm} {M : Mem} {K : Tm → Mem → Prop} {d : Option Nat} {ty : Nat} {pos : String} {after : Array Edge} {ps : List (Nat × Operand)} {vs : List Value}
    (hr : ps.map (·.1) = List.range len) (ex : evs T (ps.map (·.2)) = some vs) (hf : vs.all flatV = true) (hfz : flatV z = true) (hl : Nat.ble len 1000 = true)
    (hk : ∀ b, K (putT n d (.slice (some ⟨b, 0, none⟩) len len) T) ((b, ⟨vs, true⟩) :: M)) : FSt P n ⟨d, .buildSlice tx len ps.toArray, ty, pos, after, none⟩ T M K :=
  ⟨rfl, fun v L => ∃ b, v = .slice (some ⟨b, 0, none⟩) len len ∧ L = [(b, ⟨vs, true⟩)], fun X => step_buildSlice hr ex hf hfz hl fun b => ⟨_, ⟨b, rfl, rfl⟩, rfl⟩, fun v L h => by
    obtain ⟨b, rfl, rfl⟩ := h; exact hk b⟩
/-- a region with a tree of orders behind its beginning -/
theorem cOT {Q : Exit → Tm → Mem → Prop} {T : Tm} {M : Mem} [hm : Mixed P] {id : Nat} (ks pre : List Nat) (t : OT) (hf : Fine Q)
    (hc : (Region.noSelect ops && (pre.length + t.dep == ops.size) && chkPre ops ks pre (Array.replicate ops.size false) && chkT ops ks true t (setL pre (Array.replicate ops.size false))) = true)
    (h : Run P n ops (some ks) (RunT P n ops ks (fun T M => Q .normal T M) t) (pick ops (pur pre)) T M) : AWp P n (.region id ops true) Q T M := by
  simp only [Bool.and_eq_true, beq_iff_eq] at hc
  obtain ⟨⟨⟨h1, h2⟩, h3⟩, h4⟩ := hc
  refine awp_region_any (ks := ks) hm.out ?_
  have hcl : Closed ops (Array.replicate ops.size false) := fun j hj => by
    exfalso
    by_cases hlt : j < ops.size <;> simp [hlt] at hj
  have := pre_sound (P := P) (n := n) (ks := ks) (Q := fun T M => Q .normal T M) (fu := t.dep) hf h1 pre (Array.replicate ops.size false) T M hcl h3 (fun T M hcl2 hK => (ot_sound hf h1 t).1 t.dep _ T M hcl2 h4 (Nat.le_refl _) hK) h
  rw [h2] at this
  exact this
end
def AnyK (P : Program) (n : Nat) (ops : Array Oper) (K : Mem) (Q : Tm → Mem → Prop) : Nat → Array Bool → Tm → Mem → Prop
  | 0, listed, T, M => Region.ready .any ops listed = [] ∧ Q T M
  | f + 1, listed, T, M => (Region.ready .any ops listed = [] → Q T M) ∧
    ∀ i ∈ Region.ready .any ops listed, ∃ o, ops[i]? = some o ∧
      OpA P n ops o T M fun T' M' => Ext K M' ∧ AnyK P n ops K Q f (listed.setIfInBounds i true) T' M'
theorem any_soundK {P : Program} {n : Nat} {ops : Array Oper} {K : Mem} {Q : Exit → Tm → Mem → Prop} {w0 : World} {B : Nat} :
    ∀ (f : Nat) (listed : Array Bool) (T : Tm) (M : Mem), AnyK P n ops K (fun T M => Q .normal T M) f listed T M → ∀ (a : Act) (w : World), a.defers = [] → TRel n a.tmps T → SatF w0 B w M →
      wpAny P .any ops (Lift w0 B n Q) f listed a w := by
  intro f
  induction f with
  | zero => intro listed T M h a w hd ht hs; exact ⟨h.1, hd, T, M, ht, hs, h.2⟩
  | succ f ih =>
    intro listed T M h a w hd ht hs
    refine ⟨fun h0 => ⟨hd, T, M, ht, hs, h.1 h0⟩, fun i hi => ?_⟩
    obtain ⟨o, ho, hop⟩ := h.2 i hi
    unfold wpOp
    simp only [ho]
    rcases hop with ⟨hw, hst⟩ | ⟨hw, hk⟩
    · rw [wanted_of ht hw, if_pos rfl]
      exact .inl (hst.wp ht hs fun u w' M' hs' hk => ih _ _ _ hk.2 _ _ (by rw [put_defers]; exact hd) (ht.put _ _) hs')
    · rw [wanted_of ht hw, if_neg (by simp)]
      exact ih _ _ _ hk.2 _ _ (by rw [put_defers]; exact hd) (ht.put _ _) hs
section
variable {P : Program} {n : Nat} {ops : Array Oper} {K : Mem} {Q : Tm → Mem → Prop}
theorem any_agreeK (hQ : QAgree Q) : ∀ (f : Nat) (listed : Array Bool) (T T' : Tm) (M : Mem), Agree T T' → AnyK P n ops K Q f listed T M → AnyK P n ops K Q f listed T' M := by
  intro f
  induction f with
  | zero => intro listed T T' M g h; exact ⟨h.1, hQ _ _ _ g h.2⟩
  | succ f ih =>
    intro listed T T' M g h
    refine ⟨fun h0 => hQ _ _ _ g (h.1 h0), fun i hi => ?_⟩
    obtain ⟨o, ho, hop⟩ := h.2 i hi
    refine ⟨o, ho, ?_⟩
    rcases hop with ⟨hw, hst⟩ | ⟨hw, hk⟩
    · exact .inl ⟨by rw [wantedA_agree g]; exact hw, (hst.agree g).mono fun v M' hk => ⟨hk.1, ih _ _ _ _ (g.put n o.dst v) hk.2⟩⟩
    · exact .inr ⟨by rw [wantedA_agree g]; exact hw, hk.1, ih _ _ _ _ (g.put n o.dst _) hk.2⟩
theorem HoistOk.ext {o : Oper} {T : Tm} {M M' : Mem} {v : Value} (h : HoistOk P ops o T M v) (e : Ext M M') : HoistOk P ops o T M' v :=
  h.imp (fun h => ⟨h.1, fun T' M'' h1 h2 => h.2 T' M'' h1 (e.trans h2)⟩) id
theorem any_hoistK (hQ : QAgree Q) {i : Nat} {oi : Oper} {v : Value} (hi : ops[i]? = some oi) (hsel : Region.noSelect ops = true) :
    ∀ (f : Nat) (listed : Array Bool) (T : Tm) (M : Mem), Ext K M →
      (∀ j oj, ops[j]? = some oj → j ≠ i → listed.getD j true = false → (∀ e ∈ oj.after, Region.binds .any e = true → e.on ≠ i) → oi.apart ops oj = true) →
      i ∈ Region.ready .any ops listed → HoistOk P ops oi T K v →
      AnyK P n ops K Q f (listed.setIfInBounds i true) (putT n oi.dst v T) M → AnyK P n ops K Q (f + 1) listed T M := by
  intro f
  have hself : ∀ (f : Nat) (listed : Array Bool) (T : Tm) (M : Mem), Ext K M → HoistOk P ops oi T K v → AnyK P n ops K Q f (listed.setIfInBounds i true) (putT n oi.dst v T) M →
      ∃ o, ops[i]? = some o ∧ OpA P n ops o T M fun T' M' => Ext K M' ∧ AnyK P n ops K Q f (listed.setIfInBounds i true) T' M' := by
    intro f listed T M he hy H
    exact ⟨oi, hi, (hy.ext he).op ⟨he, H⟩⟩
  induction f with
  | zero =>
    intro listed T M he hfree hr hy H
    refine ⟨fun h => (by rw [h] at hr; cases hr), fun j hj => ?_⟩
    by_cases hji : j = i
    · subst hji; exact hself 0 listed T M he hy H
    · have := ready_mono hj hji
      rw [H.1] at this
      cases this
  | succ f ih =>
    intro listed T M he hfree hr hy H
    refine ⟨fun h => (by rw [h] at hr; cases hr), fun j hj => ?_⟩
    by_cases hji : j = i
    · subst hji; exact hself (f + 1) listed T M he hy H
    · obtain ⟨o, ho, hop⟩ := H.2 j (ready_mono hj hji)
      obtain ⟨hjun, oj, hoj, hall⟩ := mem_ready.1 hj
      obtain rfl : o = oj := by rw [ho] at hoj; exact Option.some.inj hoj
      have hnot : ∀ e ∈ o.after, Region.binds .any e = true → e.on ≠ i := fun e he hb heq => by
        have h1 := hall e he hb
        have h0 := (mem_ready.1 hr).1
        rw [heq] at h1
        rcases Nat.lt_or_ge i listed.size with h' | h'
        · simp [h'] at h0 h1; rw [h0] at h1; cases h1
        · simp [Array.getElem?_eq_none h'] at h1
      have hap := Oper.apart_spec (hfree j o ho hji hjun hnot)
      have hfree' : ∀ k ok, ops[k]? = some ok → k ≠ i → (listed.setIfInBounds j true).getD k true = false →
          (∀ e ∈ ok.after, Region.binds .any e = true → e.on ≠ i) → oi.apart ops ok = true := fun k ok hk hki hun hno => by
        refine hfree k ok hk hki ?_ hno
        by_cases hjk : j = k
        · subst hjk; exact hjun
        · rw [getD_set_ne true hjk] at hun; exact hun
      have hcomm : ∀ x, o.dst = some x → oi.dst ≠ some x := fun x hx hxi => hap.2.1 x hxi hx
      have step : ∀ (M' : Mem), Ext K M' → ∀ u, AnyK P n ops K Q f ((listed.setIfInBounds i true).setIfInBounds j true) (putT n o.dst u (putT n oi.dst v T)) M' →
          AnyK P n ops K Q (f + 1) (listed.setIfInBounds j true) (putT n o.dst u T) M' := by
        intro M' hx u h3
        refine ih (listed.setIfInBounds j true) _ M' hx hfree' (ready_mono hr (Ne.symm hji)) (hy.keep hap.2.2 (Ext.refl K)) ?_
        rw [Array.setIfInBounds_comm _ _ hji]
        exact any_agreeK hQ _ _ _ _ _ (Agree.comm hcomm _ _ _) h3
      refine ⟨o, ho, ?_⟩
      rcases hop with ⟨hw, hst⟩ | ⟨hw, hk⟩
      · rw [wantedA_put hap.1] at hw
        refine .inl ⟨hw, ((hst.frame (hy.ext he).some (fun cs b => Region.noSelect_spec hsel j o cs b ho) hap.1).mono fun u M' hk => ⟨hk.1, step M' hk.1 u hk.2⟩)⟩
      · rw [wantedA_put hap.1] at hw
        exact .inr ⟨hw, he, step M he _ hk.2⟩
/-- a tree of orders in which each operation keeps K -/
def RunK (P : Program) (n : Nat) (ops : Array Oper) (K : Mem) (Q : Tm → Mem → Prop) : OT → Tm → Mem → Prop
  | .leaf _ => Q
  | .last i t => fun T M => Run P n ops none (fun T M => Ext K M ∧ RunK P n ops K Q t T M) (pick ops [(i, false)]) T M
  | .alt i t r => fun T M => Run P n ops none (fun T M => Ext K M ∧ RunK P n ops K Q t T M) (pick ops [(i, false)]) T M ∧ RunK P n ops K Q r T M
def chkK (ops : Array Oper) : Bool → OT → Array Bool → Bool
  | _, .leaf l, li => l.isEmpty && (Region.ready .any ops li).isEmpty
  | b, .last i t, li => (!b || Region.ready .any ops li == [i]) && chkK ops true t (li.setIfInBounds i true)
  | b, .alt i t r, li => (!b || Region.ready .any ops li == i :: r.heads) && chkK ops true t (li.setIfInBounds i true) && chkK ops false r li
def chkPreK (ops : Array Oper) : List Nat → Array Bool → Bool
  | [], _ => true
  | j :: l, listed => (Region.ready .any ops listed).contains j && Region.free .any ops listed j && chkPreK ops l (listed.setIfInBounds j true)
section
variable {P : Program} {n : Nat} {ops : Array Oper} {K : Mem} {Q : Tm → Mem → Prop}
theorem okF {T : Tm} {M : Mem} {l : List (Nat × Bool)} (h : Q T M) : RunK P n ops K Q (.leaf l) T M := h
theorem okL {i : Nat} {t : OT} {T : Tm} {M : Mem} (h : Run P n ops none (fun T M => Ext K M ∧ RunK P n ops K Q t T M) (pick ops [(i, false)]) T M) : RunK P n ops K Q (.last i t) T M := h
theorem okA {i : Nat} {t r : OT} {T : Tm} {M : Mem} (h : Run P n ops none (fun T M => Ext K M ∧ RunK P n ops K Q t T M) (pick ops [(i, false)]) T M) (h2 : RunK P n ops K Q r T M) : RunK P n ops K Q (.alt i t r) T M := ⟨h, h2⟩
theorem ok_one {t : OT} {F i : Nat} {listed : Array Bool} {T : Tm} {M : Mem} (ih : ∀ F listed T M, chkK ops true t listed = true → t.dep ≤ F → RunK P n ops K Q t T M → AnyK P n ops K Q F listed T M)
    (hk : chkK ops true t (listed.setIfInBounds i true) = true) (hd : t.dep ≤ F) (hr : Run P n ops none (fun T M => Ext K M ∧ RunK P n ops K Q t T M) (pick ops [(i, false)]) T M) (hi : i ∈ Region.ready .any ops listed) :
    ∃ o, ops[i]? = some o ∧ OpA P n ops o T M fun T' M' => Ext K M' ∧ AnyK P n ops K Q F (listed.setIfInBounds i true) T' M' := by
  obtain ⟨_, o, ho, _⟩ := mem_ready.1 hi
  refine ⟨o, ho, ?_⟩
  have hp : pick ops [(i, false)] = [(o, false)] := by unfold pick; simp only [ho]; rfl
  rw [hp] at hr
  exact OpA.mono hr fun T' M' hk' => ⟨hk'.2.1, ih F _ T' M' hk hd hk'.2.2⟩
theorem ok_sound : ∀ (t : OT),
    (∀ F listed T M, chkK ops true t listed = true → t.dep ≤ F → RunK P n ops K Q t T M → AnyK P n ops K Q F listed T M) ∧
    (∀ F listed T M, chkK ops false t listed = true → t.dep ≤ F + 1 → RunK P n ops K Q t T M → ∀ i ∈ t.heads, i ∈ Region.ready .any ops listed →
      ∃ o, ops[i]? = some o ∧ OpA P n ops o T M fun T' M' => Ext K M' ∧ AnyK P n ops K Q F (listed.setIfInBounds i true) T' M') := by
  intro t
  induction t with
  | leaf l =>
    refine ⟨fun F listed T M hk hd hr => ?_, fun F listed T M hk hd hr i hi => by cases hi⟩
    unfold chkK at hk
    rw [Bool.and_eq_true] at hk
    have h0 : Region.ready .any ops listed = [] := by simpa using hk.2
    cases F with
    | zero => exact ⟨h0, hr⟩
    | succ F => exact ⟨fun _ => hr, fun i hi => by rw [h0] at hi; cases hi⟩
  | last i t ih =>
    have two : ∀ b F listed T M, chkK ops b (.last i t) listed = true → (OT.last i t).dep ≤ F + 1 → RunK P n ops K Q (.last i t) T M → i ∈ Region.ready .any ops listed →
        ∃ o, ops[i]? = some o ∧ OpA P n ops o T M fun T' M' => Ext K M' ∧ AnyK P n ops K Q F (listed.setIfInBounds i true) T' M' := by
      intro b F listed T M hk hd hr hi
      unfold chkK at hk
      rw [Bool.and_eq_true] at hk
      exact ok_one ih.1 hk.2 (by have : t.dep + 1 ≤ F + 1 := hd; omega) hr hi
    refine ⟨fun F listed T M hk hd hr => ?_, fun F listed T M hk hd hr j hj hi => ?_⟩
    · obtain ⟨F, rfl⟩ : ∃ F', F = F' + 1 := ⟨F - 1, by have : t.dep + 1 ≤ F := hd; omega⟩
      have hrd : Region.ready .any ops listed = [i] := by
        have hk2 := hk
        unfold chkK at hk2
        rw [Bool.and_eq_true] at hk2
        simpa using hk2.1
      refine ⟨fun h0 => (by rw [hrd] at h0; cases h0), fun j hj => ?_⟩
      have hj' := hj
      rw [hrd] at hj'
      obtain rfl := List.mem_singleton.1 hj'
      exact two true F listed T M hk hd hr hj
    · obtain rfl := List.mem_singleton.1 hj
      exact two false F listed T M hk hd hr hi
  | alt i t r iht ihr =>
    have two : ∀ b F listed T M, chkK ops b (.alt i t r) listed = true → (OT.alt i t r).dep ≤ F + 1 → RunK P n ops K Q (.alt i t r) T M → ∀ j ∈ (OT.alt i t r).heads, j ∈ Region.ready .any ops listed →
        ∃ o, ops[j]? = some o ∧ OpA P n ops o T M fun T' M' => Ext K M' ∧ AnyK P n ops K Q F (listed.setIfInBounds j true) T' M' := by
      intro b F listed T M hk hd hr j hj hi
      unfold chkK at hk
      rw [Bool.and_eq_true, Bool.and_eq_true] at hk
      have hd' : max (t.dep + 1) r.dep ≤ F + 1 := hd
      rcases List.mem_cons.1 (show j ∈ i :: r.heads from hj) with rfl | hj
      · exact ok_one iht.1 hk.1.2 (by omega) hr.1 hi
      · exact ihr.2 F listed T M hk.2 (by omega) hr.2 j hj hi
    refine ⟨fun F listed T M hk hd hr => ?_, two false⟩
    obtain ⟨F, rfl⟩ : ∃ F', F = F' + 1 := ⟨F - 1, by have : max (t.dep + 1) r.dep ≤ F := hd; omega⟩
    have hrd : Region.ready .any ops listed = i :: r.heads := by
      have hk2 := hk
      unfold chkK at hk2
      rw [Bool.and_eq_true, Bool.and_eq_true] at hk2
      simpa using hk2.1.1
    refine ⟨fun h0 => (by rw [hrd] at h0; cases h0), fun j hj => ?_⟩
    exact two true F listed T M hk hd hr j (by rw [hrd] at hj; exact hj) hj
theorem preK_sound (hQ : QAgree Q) (hsel : Region.noSelect ops = true) {G : Tm → Mem → Prop} {fu : Nat} :
    ∀ (l : List Nat) (listed : Array Bool) (T : Tm), chkPreK ops l listed = true → (∀ T M, G T M → AnyK P n ops K Q fu (setL l listed) T M) →
      Run P n ops none G (pick ops (pur l)) T K → AnyK P n ops K Q (l.length + fu) listed T K := by
  intro l
  induction l with
  | nil => intro listed T _ hK hr; rw [List.length_nil, Nat.zero_add]; exact hK T K hr
  | cons j l ih =>
    intro listed T h hK hr
    unfold chkPreK at h
    rw [Bool.and_eq_true, Bool.and_eq_true] at h
    obtain ⟨⟨g1, g2⟩, h2⟩ := h
    have hready : j ∈ Region.ready .any ops listed := by simpa using g1
    obtain ⟨_, o, ho, _⟩ := mem_ready.1 hready
    have hp : pick ops (pur (j :: l)) = (o, true) :: pick ops (pur l) := by simp only [pur, List.map_cons, pick, ho]
    rw [hp] at hr
    obtain ⟨v, hreg, hv, hr⟩ := hr
    rw [show (j :: l).length + fu = (l.length + fu) + 1 from by simp only [List.length_cons]; omega]
    exact any_hoistK hQ ho hsel (l.length + fu) listed T K (Ext.refl K) (Region.free_spec ho g2) hready hv (ih _ _ h2 hK hr)
/-- a region with a tree of orders that keeps the memory that was there -/
theorem cOK {Q : Exit → Tm → Mem → Prop} {T : Tm} {M : Mem} [hm : Mixed P] {id : Nat} (pre : List Nat) (t : OT) (hf : Fine Q)
    (hc : (Region.noSelect ops && (pre.length + t.dep == ops.size) && chkPreK ops pre (Array.replicate ops.size false) && chkK ops true t (setL pre (Array.replicate ops.size false))) = true)
    (h : Run P n ops none (RunK P n ops M (fun T M => Q .normal T M) t) (pick ops (pur pre)) T M) : AWp P n (.region id ops true) Q T M := by
  simp only [Bool.and_eq_true, beq_iff_eq] at hc
  obtain ⟨⟨⟨h1, h2⟩, h3⟩, h4⟩ := hc
  intro w0 B a w hd ht hs
  refine wp_region_any hm.out (any_soundK (K := M) _ _ T M ?_ a _ hd ht (hs.quiet ⟨rfl, rfl, rfl, rfl⟩))
  have := preK_sound (P := P) (n := n) (K := M) (Q := fun T M => Q .normal T M) (fu := t.dep) hf h1 pre (Array.replicate ops.size false) T h3 (fun T M hK => (ok_sound t).1 t.dep _ T M h4 (Nat.le_refl _) hK) h
  rw [h2] at this
  exact this
end
theorem pmS {p : Nat × Blk} {M : Mem} : List.Perm ([p] ++ M) (p :: M) := List.Perm.refl _
theorem apSp {P : Program} {n : Nat} {T : Tm} {M : Mem} {ops : Array Oper} {st : Option (List Nat)} {Q : Tm → Mem → Prop} {l : List (Oper × Bool)} {d : Option Nat} {ty : Nat} {pos : String} {after : Array Edge}
    {t e bytes : Nat} {z : Value} [hu : UnderT P t (.slice e)] [hi : InfoT P e 1 bytes z] {x y : Operand} {xs ys : List Nat} {a : Option Addr} {m c : Nat} {sl : Value} {L M1 : Mem}
    (hw : ∀ ks, st = some ks → keptD ks d = false) (ex : ev T x = some sl) (ey : ev T y = some (.slice a m c)) (ho : OwF L sl xs) (hM : List.Perm (L ++ M1) M) (hr : RdF (L ++ M1) a m ys) (hb : (xs.length + m) * bytes ≤ 140737488355328) (h63 : xs.length + m ≤ 4611686018427387904)
    (hk : ∀ sl' L', OwF L' sl' (xs ++ ys) → Run P n ops st Q l (putT n d sl' T) (L' ++ M1)) :
    Run P n ops st Q ((⟨d, .call { callee := .builtin .append, args := #[x, y], argTypes := #[t, t] }, ty, pos, after, none⟩, false) :: l) T M :=
  Run.ofPerm rfl hM (apS hw ex ey ho rfl hr hb h63 hk)
end
section
variable {P : Program} {n : Nat} {Q : Exit → Tm → Mem → Prop} {T : Tm} {M : Mem} {x y : Code}
/-- two pieces of code, with what holds between them -/
theorem cM1 {α : Type} (C : α → Tm) (T0 : Tm) (Mm : α → Mem) (I : α → Prop) (hs : Sub T0 T) (hx : AWp P n x (LQ1 C T0 Mm (fun _ => 0) I 1 Q) T M)
    (hy : ∀ a, I a → AWp P n y Q (C a ++ T0) (Mm a)) : AWp P n (.seq x y) Q T M :=
  awp_seq (hx.mono fun e T' M' hq => by
    cases e with
    | normal => obtain ⟨a, h1, _, h3, h4⟩ := hq; exact (hy a h1).less h3 h4
    | _ => exact hq)
theorem cM2 {α : Type} {β : Type} (C : α → β → Tm) (T0 : Tm) (Mm : α → β → Mem) (I : α → β → Prop) (hs : Sub T0 T) (hx : AWp P n x (LQ2 C T0 Mm (fun _ _ => 0) I 1 Q) T M)
    (hy : ∀ a b, I a b → AWp P n y Q (C a b ++ T0) (Mm a b)) : AWp P n (.seq x y) Q T M :=
  awp_seq (hx.mono fun e T' M' hq => by
    cases e with
    | normal => obtain ⟨a, b, h1, _, h3, h4⟩ := hq; exact (hy a b h1).less h3 h4
    | _ => exact hq)
theorem cM3 {α : Type} {β : Type} {γ : Type} (C : α → β → γ → Tm) (T0 : Tm) (Mm : α → β → γ → Mem) (I : α → β → γ → Prop) (hs : Sub T0 T) (hx : AWp P n x (LQ3 C T0 Mm (fun _ _ _ => 0) I 1 Q) T M)
    (hy : ∀ a b g, I a b g → AWp P n y Q (C a b g ++ T0) (Mm a b g)) : AWp P n (.seq x y) Q T M :=
  awp_seq (hx.mono fun e T' M' hq => by
    cases e with
    | normal => obtain ⟨a, b, g, h1, _, h3, h4⟩ := hq; exact (hy a b g h1).less h3 h4
    | _ => exact hq)
theorem cM4 {α : Type} {β : Type} {γ : Type} {δ : Type} (C : α → β → γ → δ → Tm) (T0 : Tm) (Mm : α → β → γ → δ → Mem) (I : α → β → γ → δ → Prop) (hs : Sub T0 T) (hx : AWp P n x (LQ4 C T0 Mm (fun _ _ _ _ => 0) I 1 Q) T M)
    (hy : ∀ a b g d, I a b g d → AWp P n y Q (C a b g d ++ T0) (Mm a b g d)) : AWp P n (.seq x y) Q T M :=
  awp_seq (hx.mono fun e T' M' hq => by
    cases e with
    | normal => obtain ⟨a, b, g, d, h1, _, h3, h4⟩ := hq; exact (hy a b g d h1).less h3 h4
    | _ => exact hq)
theorem cM5 {α : Type} {β : Type} {γ : Type} {δ : Type} {ε : Type} (C : α → β → γ → δ → ε → Tm) (T0 : Tm) (Mm : α → β → γ → δ → ε → Mem) (I : α → β → γ → δ → ε → Prop) (hs : Sub T0 T) (hx : AWp P n x (LQ5 C T0 Mm (fun _ _ _ _ _ => 0) I 1 Q) T M)
    (hy : ∀ a b g d e, I a b g d e → AWp P n y Q (C a b g d e ++ T0) (Mm a b g d e)) : AWp P n (.seq x y) Q T M :=
  awp_seq (hx.mono fun e T' M' hq => by
    cases e with
    | normal => obtain ⟨a, b, g, d, e, h1, _, h3, h4⟩ := hq; exact (hy a b g d e h1).less h3 h4
    | _ => exact hq)
end
end Go.Proofs.Ytkbpdgacfeachaa.Ab
