/-
  The abstract layer: a region that draws its order, with a place for a variable that may be made at any time.
-/
import Derived.Test.YtkbpdgacfeachaaCp
namespace Go.Proofs.Ytkbpdgacfeachaa.Ab
open Go Go.RowKit
set_option linter.unusedVariables false
set_option linter.unusedSimpArgs false

/-- a step that leaves what was there, and adds memory of its own, whatever else there is -/
def FSt (P : Program) (n : Nat) (o : Oper) (T : Tm) (M : Mem) (K : Tm → Mem → Prop) : Prop :=
  o.guard = none ∧ ∃ R : Value → Mem → Prop, (∀ X, Step P n o T (X ++ M) fun v M' => ∃ L, R v L ∧ M' = L ++ (X ++ M)) ∧ ∀ v L, R v L → K (putT n o.dst v T) (L ++ M)

def RunS (P : Program) (n : Nat) (ops : Array Oper) (Kend : Tm → Mem → Prop) : List (List (Oper × Bool) × Oper) → List (Oper × Bool) → Tm → Mem → Prop
  | [], l, T, M => Run P n ops none Kend l T M
  | (l0, o) :: rest, l, T, M => Run P n ops none (fun T M => FSt P n o T M (RunS P n ops Kend rest l)) l0 T M

def pur (l : List Nat) : List (Nat × Bool) := l.map fun j => (j, true)
def pickS (ops : Array Oper) : List (List Nat × Nat) → List (List (Oper × Bool) × Oper)
  | [] => []
  | (l, i) :: r => match ops[i]? with
    | some o => (pick ops (pur l), o) :: pickS ops r
    | none => []

/-- the operation does not touch the slot -/
def offD (ops : Array Oper) (d0 : Nat) (o : Oper) : Bool := o.dst != some d0 && !(o.looksAt ops).contains d0

def chkSeg (ops : Array Oper) (ks : List Nat) (d0 : Nat) (k : Array Bool → Bool) : List Nat → Array Bool → Bool
  | [], listed => k listed
  | j :: l, listed => (match ops[j]? with
      | some o => (Region.ready .any ops listed).contains j && Region.free .any ops listed j && (guardChk ops ks j || regOp o.op) && offD ops d0 o
      | none => false) && chkSeg ops ks d0 k l (listed.setIfInBounds j true)

def chkS (ops : Array Oper) (ks : List Nat) (d0 i0 : Nat) (last : List Nat) (ord2 : List (Nat × Bool)) : List (List Nat × Nat) → Array Bool → Bool
  | [], listed => chkSeg ops ks d0 (fun listed => Region.ready .any ops listed == [i0] && chkOrd ops ks ord2 (listed.setIfInBounds i0 true)) last listed
  | (l, i) :: r, listed => chkSeg ops ks d0 (fun listed => (match ops[i]? with
      | some o => (Region.ready .any ops listed).all (fun j => j == i || j == i0) && Region.ready .any ops (listed.setIfInBounds i0 true) == [i] && offD ops d0 o && i != i0 && (Region.ready .any ops listed).contains i0 && (Region.ready .any ops listed).contains i
      | none => false) && chkS ops ks d0 i0 last ord2 r (listed.setIfInBounds i true)) l listed

section
variable {P : Program} {n : Nat} {ops : Array Oper} {ks : List Nat} {Q : Tm → Mem → Prop} {d0 i0 : Nat} {Z : List Value}

/-- the state, with the variable made or not -/
def zT (n d0 : Nat) : Option Nat → Tm → Tm
  | none, T => T
  | some b, T => putT n (some d0) (.pointer (some ⟨b, 0, none⟩)) T
def zM (Z : List Value) : Option Nat → Mem → Mem
  | none, M => M
  | some b, M => (b, ⟨Z, true⟩) :: M
def zL (i0 : Nat) : Option Nat → Array Bool → Array Bool
  | none, l => l
  | some _, l => l.setIfInBounds i0 true

theorem zM_ext (eb : Option Nat) (M : Mem) : Ext M (zM Z eb M) := by
  cases eb with
  | none => exact Ext.refl _
  | some b => exact Ext.cons _ _
theorem getD_up {listed : Array Bool} {i j : Nat} (h : (listed.setIfInBounds i true).getD j true = false) : listed.getD j true = false := by
  by_cases hij : i = j
  · subst hij
    rcases Nat.lt_or_ge i listed.size with h' | h'
    · simp [h'] at h
    · rw [Array.setIfInBounds_eq_of_size_le h'] at h; exact h
  · rwa [getD_set_ne true hij] at h
theorem seg_sound (hQ : QAgree Q) (hsel : Region.noSelect ops = true) (eb : Option Nat) (hdst : ∃ o0, ops[i0]? = some o0 ∧ o0.dst = some d0) {k : Array Bool → Bool} {K : Tm → Mem → Prop} {fu : Nat}
    (hK : ∀ listed T M, Closed ops (zL i0 eb listed) → Closed ops listed → k listed = true → get T d0 = none → K T M → AnyA P n ops ks Q fu (zL i0 eb listed) (zT n d0 eb T) (zM Z eb M)) :
    ∀ (l : List Nat) (listed : Array Bool) (T : Tm) (M : Mem), i0 ∉ l → Closed ops (zL i0 eb listed) → Closed ops listed → chkSeg ops ks d0 k l listed = true → get T d0 = none → Run P n ops none K (pick ops (pur l)) T M →
      AnyA P n ops ks Q (l.length + fu) (zL i0 eb listed) (zT n d0 eb T) (zM Z eb M) := by
  intro l
  induction l with
  | nil => intro listed T M _ hc hc2 h hd hr; rw [List.length_nil, Nat.zero_add]; exact hK listed T M hc hc2 h hd hr
  | cons j l ih =>
    intro listed T M hni hc hc2 h hd hr
    unfold chkSeg at h
    rw [Bool.and_eq_true] at h
    obtain ⟨h1, h2⟩ := h
    cases ho : ops[j]? with
    | none => rw [ho] at h1; simp at h1
    | some o =>
      rw [ho] at h1
      simp only [Bool.and_eq_true] at h1
      obtain ⟨⟨⟨g1, g2⟩, g3⟩, g4⟩ := h1
      have hp : pick ops (pur (j :: l)) = (o, true) :: pick ops (pur l) := by simp only [pur, List.map_cons, pick, ho]
      rw [hp] at hr
      obtain ⟨v, hreg, hv, hr⟩ := hr
      have hji : j ≠ i0 := fun e => hni (by rw [e]; exact List.mem_cons_self)
      have hready : j ∈ Region.ready .any ops listed := by simpa using g1
      have hready2 : j ∈ Region.ready .any ops (zL i0 eb listed) := by
        cases eb with
        | none => exact hready
        | some b => exact ready_mono hready hji
      unfold offD at g4
      rw [Bool.and_eq_true] at g4
      have hod : o.dst ≠ some d0 := by simpa using g4.1
      have hol : d0 ∉ o.looksAt ops := by simpa using g4.2
      have hv2 : HoistOk P ops o (zT n d0 eb T) (zM Z eb M) v := by
        cases eb with
        | none => exact hv
        | some b => exact hv.keep (d := some d0) (fun e he => by rw [← Option.some.inj he]; exact hol) (Ext.cons _ _)
      have hgu : Guarded ops ks j (Closed ops) ∨ ∀ M', HoistOk P ops o (zT n d0 eb T) M' v := by
        rcases Bool.or_eq_true_iff.1 g3 with g3 | g3
        · exact .inl (guarded_of g3)
        · refine .inr fun M' => ?_
          cases eb with
          | none => exact hreg g3 M'
          | some b => exact (hreg g3 M').keep (d := some d0) (fun e he => by rw [← Option.some.inj he]; exact hol) (Ext.refl _)
      have hset : (zL i0 eb listed).setIfInBounds j true = zL i0 eb (listed.setIfInBounds j true) := by
        cases eb with
        | none => rfl
        | some b => exact Array.setIfInBounds_comm _ _ (Ne.symm hji)
      have hag : Agree (putT n o.dst v (zT n d0 eb T)) (zT n d0 eb (putT n o.dst v T)) := by
        cases eb with
        | none => exact fun _ => rfl
        | some b => exact Agree.comm (d := o.dst) (e := some d0) (fun x hx hxx => hod (by rw [hx, hxx])) _ _ _
      rw [show (j :: l).length + fu = (l.length + fu) + 1 from by simp only [List.length_cons]; omega]
      refine any_hoist hQ ho hsel (Closed ops) (fun l j hl hj => hl.set hj) (l.length + fu) _ _ _ hc ?_ hready2 hgu hv2 ?_
      · intro j' oj' hj' hne hun hno
        refine Region.free_spec ho g2 j' oj' hj' hne ?_ hno
        cases eb with
        | none => exact hun
        | some b => exact getD_up hun
      · rw [hset]
        refine any_agree hQ _ _ _ _ _ hag.symm ?_
        refine ih _ _ _ (fun hm => hni (List.mem_cons_of_mem _ hm)) (by rw [← hset]; exact hc.set hready2) (hc2.set hready) h2 ?_ hr
        rw [get_put_ne (fun e he => by rintro rfl; exact hod he)]; exact hd

theorem Step.subT {o : Oper} {T T' : Tm} {M : Mem} {K : Value → Mem → Prop} (h : Step P n o T M K) (s : Sub T T') : Step P n o T' M K :=
  fun w0 B a w ht hs => h w0 B a w (ht.sub s) hs
theorem sub_put {T : Tm} {v : Value} (h : get T d0 = none) : Sub T (putT n (some d0) v T) := by
  intro i u hu
  rw [get_put_ne]
  · exact hu
  · intro e he; cases he; rintro rfl; rw [h] at hu; cases hu
def cnt : List (List Nat × Nat) → Nat
  | [] => 0
  | (l, _) :: r => l.length + 1 + cnt r
def noI (i0 : Nat) : List (List Nat × Nat) → Bool
  | [] => true
  | (l, i) :: r => !l.contains i0 && i != i0 && noI i0 r

theorem runS_sound (hQ : QAgree Q) (hsel : Region.noSelect ops = true) {o0 : Oper} (ho0 : ops[i0]? = some o0) (hd0 : o0.dst = some d0) (hg0 : o0.guard = none)
    (hal : ∀ (T : Tm) (M : Mem) (K : Value → Mem → Prop), (∀ b, K (.pointer (some ⟨b, 0, none⟩)) ((b, ⟨Z, true⟩) :: M)) → Step P n o0 T M K) (last : List Nat) (ord2 : List (Nat × Bool)) (hnl : i0 ∉ last) (k : Nat) :
    ∀ (segs : List (List Nat × Nat)) (eb : Option Nat) (listed : Array Bool) (T : Tm) (M : Mem), noI i0 segs = true → Closed ops (zL i0 eb listed) → Closed ops listed → chkS ops ks d0 i0 last ord2 segs listed = true → get T d0 = none →
      RunS P n ops (fun T M => ∀ b, Run P n ops (some ks) Q (pick ops ord2) (putT n (some d0) (.pointer (some ⟨b, 0, none⟩)) T) ((b, ⟨Z, true⟩) :: M)) (pickS ops segs) (pick ops (pur last)) T M →
      AnyA P n ops ks Q (cnt segs + (last.length + ((if eb.isNone then 1 else 0) + (ord2.length + k)))) (zL i0 eb listed) (zT n d0 eb T) (zM Z eb M) := by
  intro segs
  induction segs with
  | nil =>
    intro eb listed T M _ hc hc2 hchk hd hr
    simp only [cnt, Nat.zero_add]
    unfold chkS at hchk
    refine seg_sound hQ hsel eb ⟨o0, ho0, hd0⟩ ?_ last listed T M hnl hc hc2 hchk hd hr
    intro listed T M hc hc2 hk hd hK
    rw [Bool.and_eq_true] at hk
    obtain ⟨hk1, hk2⟩ := hk
    have hrd : Region.ready .any ops listed = [i0] := by simpa using hk1
    have hi0 : i0 ∈ Region.ready .any ops listed := by rw [hrd]; simp
    cases eb with
    | some b =>
      simp only [Option.isNone_some, Bool.false_eq_true, if_false, Nat.zero_add]
      exact any_of_run hQ hsel ord2 k _ _ _ hc hk2 (hK b)
    | none =>
      simp only [Option.isNone_none, if_true]
      rw [Nat.add_comm 1]
      refine ⟨fun h0 => (by have h0' : Region.ready .any ops listed = [] := h0; rw [hrd] at h0'; cases h0'), fun j hj => ?_⟩
      have hj' : j ∈ Region.ready .any ops listed := hj
      rw [hrd] at hj'
      obtain rfl : j = i0 := by simpa using hj'
      refine ⟨o0, ho0, .inl ⟨by simp [wantedA, hg0], hal _ _ _ fun b => ⟨fun _ => Ext.cons _ _, ?_⟩⟩⟩
      rw [hd0]
      exact any_of_run hQ hsel ord2 k _ _ _ (hc.set hi0) hk2 (hK b)
  | cons s r ih =>
    obtain ⟨l, i⟩ := s
    intro eb listed T M hno hc hc2 hchk hd hr
    unfold chkS at hchk
    simp only [noI, Bool.and_eq_true] at hno
    obtain ⟨⟨hn1, hn2⟩, hn3⟩ := hno
    have hnl2 : i0 ∉ l := by simpa using hn1
    have hii : i ≠ i0 := by simpa using hn2
    cases ho : ops[i]? with
    | none =>
      exfalso
      simp only [ho, Bool.false_and] at hchk
      have : ∀ l listed, chkSeg ops ks d0 (fun _ => false) l listed = false := by
        intro l
        induction l with
        | nil => intro _; rfl
        | cons j l ih => intro listed; unfold chkSeg; rw [ih]; simp
      rw [this] at hchk; cases hchk
    | some o =>
      have hp : pickS ops ((l, i) :: r) = (pick ops (pur l), o) :: pickS ops r := by simp only [pickS, ho]
      rw [hp] at hr
      simp only [ho] at hchk
      unfold RunS at hr
      rw [show cnt ((l, i) :: r) + (last.length + ((if eb.isNone then 1 else 0) + (ord2.length + k))) = l.length + ((cnt r + (last.length + ((if eb.isNone then 1 else 0) + (ord2.length + k)))) + 1) from by simp only [cnt]; omega]
      refine seg_sound hQ hsel eb ⟨o0, ho0, hd0⟩ ?_ l listed T M hnl2 hc hc2 hchk hd hr
      clear hr hchk hc hc2 hd T M listed
      intro listed T M hc hc2 hk hd hK
      rw [Bool.and_eq_true] at hk
      obtain ⟨hk1, hk2⟩ := hk
      simp only [Bool.and_eq_true] at hk1
      obtain ⟨⟨⟨⟨⟨a1, a2⟩, a3⟩, a4⟩, a5⟩, a6⟩ := hk1
      have hi : i ∈ Region.ready .any ops listed := by simpa using a6
      unfold offD at a3
      rw [Bool.and_eq_true] at a3
      have hod : o.dst ≠ some d0 := by simpa using a3.1
      have hol : d0 ∉ o.looksAt ops := by simpa using a3.2
      have hrd2 : Region.ready .any ops (listed.setIfInBounds i0 true) = [i] := by simpa using a2
      have hi0 : i0 ∈ Region.ready .any ops listed := by simpa using a5
      obtain ⟨hg, R, hst, hnext⟩ := hK
      have hget : ∀ v, get (putT n o.dst v T) d0 = none := by
        intro v
        rw [get_put_ne (fun e he => by rintro rfl; exact hod he)]; exact hd
      -- the step of o, with the variable made
      have early : ∀ (b : Nat) (hcc : Closed ops (listed.setIfInBounds i0 true)) (fu : Nat), (∀ v L, R v L → AnyA P n ops ks Q fu ((listed.setIfInBounds i true).setIfInBounds i0 true) (zT n d0 (some b) (putT n o.dst v T)) (zM Z (some b) (L ++ M))) →
          AnyA P n ops ks Q (fu + 1) (listed.setIfInBounds i0 true) (zT n d0 (some b) T) (zM Z (some b) M) := by
        intro b hcc fu hrest
        refine ⟨fun h0 => (by rw [hrd2] at h0; cases h0), fun j hj => ?_⟩
        rw [hrd2] at hj
        obtain rfl : j = i := by simpa using hj
        have hs := (hst [(b, ⟨Z, true⟩)]).subT (sub_put (d0 := d0) (n := n) (v := .pointer (some ⟨b, 0, none⟩)) hd)
        refine ⟨o, ho, .inl ⟨by simp [wantedA, hg], Step.lessM (hs.mono fun v M' hM' => ?_)⟩⟩
        obtain ⟨L, hL, rfl⟩ := hM'
        refine ⟨(b, ⟨Z, true⟩) :: (L ++ M), ?_, fun _ => eK (ext_append L M), ?_⟩
        · refine Ext.of_perm ?_
          exact List.perm_middle.symm
        · rw [Array.setIfInBounds_comm _ _ (Ne.symm hii)]
          exact any_agree hQ _ _ _ _ _ (Agree.comm (d := some d0) (e := o.dst) (fun x hx hxx => hod (by rw [hxx, ← hx])) _ _ _) (hrest v L hL)
      cases eb with
      | some b =>
        exact early b hc _ fun v L hL => ih (some b) _ _ _ hn3 (by
          show Closed ops ((listed.setIfInBounds i true).setIfInBounds i0 true)
          rw [Array.setIfInBounds_comm _ _ hii]
          exact Closed.set (listed := listed.setIfInBounds i0 true) hc (by rw [hrd2]; simp)) (hc2.set hi) hk2 (hget v) (hnext v L hL)
      | none =>
        refine ⟨fun h0 => (by have := hi; rw [show Region.ready .any ops listed = [] from h0] at this; cases this), fun j hj => ?_⟩
        have hj' : j ∈ Region.ready .any ops listed := hj
        have hj2 := List.all_eq_true.1 a1 j hj'
        simp only [Bool.or_eq_true, beq_iff_eq] at hj2
        by_cases hji : j = i
        · subst hji
          refine ⟨o, ho, .inl ⟨by simp [wantedA, hg], (hst []).mono fun v M' hM' => ?_⟩⟩
          obtain ⟨L, hL, rfl⟩ := hM'
          exact ⟨fun _ => ext_append L M, ih none _ _ _ hn3 (hc2.set hi) (hc2.set hi) hk2 (hget v) (hnext v L hL)⟩
        · obtain rfl : j = i0 := hj2.resolve_left hji
          refine ⟨o0, ho0, .inl ⟨by simp [wantedA, hg0], hal _ _ _ fun b => ⟨fun _ => Ext.cons _ _, ?_⟩⟩⟩
          rw [hd0]
          have hcc : Closed ops (listed.setIfInBounds j true) := hc2.set hi0
          have := early b hcc (cnt r + (last.length + (0 + (ord2.length + k)))) fun v L hL => by
            have hx := ih (some b) _ _ _ hn3 (by
              show Closed ops ((listed.setIfInBounds i true).setIfInBounds j true)
              rw [Array.setIfInBounds_comm _ _ hii]
              exact Closed.set hcc (by rw [hrd2]; simp)) (hc2.set hi) hk2 (hget v) (hnext v L hL)
            exact hx
          simp only [Option.isNone_none, if_true]
          rw [show cnt r + (last.length + (1 + (ord2.length + k))) = cnt r + (last.length + (0 + (ord2.length + k))) + 1 from by omega]
          exact this

/-- a region that draws, with a variable that may be made at any time -/
theorem cDa {Q : Exit → Tm → Mem → Prop} {T : Tm} {M : Mem} [hm : Mixed P] {id : Nat} (ks : List Nat) (segs : List (List Nat × Nat)) (last : List Nat) (i0 : Nat) (ord2 : List (Nat × Bool)) (d0 : Nat) (hf : Fine Q)
    {e size bytes : Nat} {z : Value} [hi : InfoT P e size bytes z] {ty : Nat} {pos : String} {after : Array Edge} (ho : ops[i0]? = some ⟨some d0, .alloc e, ty, pos, after, none⟩)
    (hc : (Region.noSelect ops && Nat.ble (cnt segs + last.length + 1 + ord2.length) ops.size && noI i0 segs && !last.contains i0 && chkS ops ks d0 i0 last ord2 segs (Array.replicate ops.size false)) = true)
    (hd : get T d0 = none)
    (h : RunS P n ops (fun T M => ∀ b, Run P n ops (some ks) (fun T M => Q .normal T M) (pick ops ord2) (putT n (some d0) (.pointer (some ⟨b, 0, none⟩)) T) ((b, ⟨z.cells.toList, true⟩) :: M)) (pickS ops segs) (pick ops (pur last)) T M) :
    AWp P n (.region id ops true) Q T M := by
  simp only [Bool.and_eq_true] at hc
  obtain ⟨⟨⟨⟨h1, h2⟩, h3⟩, h4⟩, h5⟩ := hc
  have hle : cnt segs + last.length + 1 + ord2.length ≤ ops.size := by simpa using h2
  refine awp_region_any (ks := ks) hm.out ?_
  have hcl : Closed ops (Array.replicate ops.size false) := fun j hj => by
    exfalso
    by_cases hlt : j < ops.size <;> simp [hlt] at hj
  have := runS_sound (P := P) (n := n) (ks := ks) (Q := fun T M => Q .normal T M) (Z := z.cells.toList) hf h1 ho rfl rfl (fun T M K hk => step_alloc hk) last ord2 (by simpa using h4) (ops.size - (cnt segs + last.length + 1 + ord2.length)) segs none (Array.replicate ops.size false) T M h3 hcl hcl h5 hd h
  simp only [Option.isNone_none, if_true] at this
  rw [show cnt segs + (last.length + (1 + (ord2.length + (ops.size - (cnt segs + last.length + 1 + ord2.length))))) = ops.size from by omega] at this
  exact this
/-- a framed call -/
theorem fsC {f : Nat} {xs : List Operand} {ats : Array TypeId} {vs : List Value} {R : Value → Mem → Prop} {T : Tm} {M : Mem} {K : Tm → Mem → Prop} {d : Option Nat} {ty : Nat} {pos : String} {after : Array Edge} [FuncT P f] (ea : evs T xs = some vs)
    (hc : ∀ X, ACall P f vs (X ++ M) fun v M' => ∃ L, R v L ∧ M' = L ++ (X ++ M)) (hk : ∀ v L, R v L → K (putT n d v T) (L ++ M)) :
    FSt P n ⟨d, .call { callee := .value (.func f), args := xs.toArray, argTypes := ats }, ty, pos, after, none⟩ T M K :=
  ⟨rfl, R, fun X => step_call ea (hc X) fun v M' h => h, hk⟩
/-- a framed call that leaves the memory alone -/
theorem fsQ {f : Nat} {xs : List Operand} {ats : Array TypeId} {vs : List Value} {r : Value} {T : Tm} {M : Mem} {K : Tm → Mem → Prop} {d : Option Nat} {ty : Nat} {pos : String} {after : Array Edge} [FuncT P f] (ea : evs T xs = some vs)
    (hc : ∀ X, ACall P f vs (X ++ M) fun v M' => v = r ∧ M' = X ++ M) (hk : K (putT n d r T) M) :
    FSt P n ⟨d, .call { callee := .value (.func f), args := xs.toArray, argTypes := ats }, ty, pos, after, none⟩ T M K :=
  ⟨rfl, fun v L => v = r ∧ L = [], fun X => step_call ea (hc X) fun v M' h => ⟨[], ⟨h.1, rfl⟩, h.2⟩, fun v L h => by obtain ⟨rfl, rfl⟩ := h; exact hk⟩
end
end Go.Proofs.Ytkbpdgacfeachaa.Ab
