/-
  The abstract layer: regions in which several things may be made at any time.
-/
import Derived.Test.YtnikglngipbahaaDb
namespace Go.Proofs.Ytnikglngipbahaa.Ab
open Go Go.RowKit
set_option linter.unusedVariables false
set_option linter.unusedSimpArgs false

/-- something that may be made at any time: operation i, slot d, the value, and the block -/
structure Mk where
  i : Nat
  d : Nat
  mv : Nat → Value
  Z : List Value
def Maker (P : Program) (n : Nat) (ops : Array Oper) (k : Mk) : Prop :=
  ∃ o, ops[k.i]? = some o ∧ o.dst = some k.d ∧ o.guard = none ∧ ∀ (T : Tm) (M : Mem) (K : Value → Mem → Prop), (∀ b, K (k.mv b) ((b, ⟨k.Z, true⟩) :: M)) → Step P n o T M K
inductive Ce where
  | f (i : Nat)
  | m (k : Mk)
def Ce.idx : Ce → Nat
  | .f i => i
  | .m k => k.i
abbrev Sk := List (List Nat × Ce)
abbrev St := List (List Nat × Ce × Option Nat)
def skel (c : St) : Sk := c.map fun x => (x.1, x.2.1)
def mks : Sk → List Mk
  | [] => []
  | (_, .f _) :: r => mks r
  | (_, .m k) :: r => k :: mks r
def dones : St → List (Mk × Nat)
  | [] => []
  | (_, .m k, some b) :: r => (k, b) :: dones r
  | _ :: r => dones r
def frem : St → Nat
  | [] => 0
  | (l, .m k, some b) :: r => l.length + frem r
  | (l, _, _) :: r => l.length + 1 + frem r
def setAll (l : List Mk) (listed : Array Bool) : Array Bool := l.foldl (fun a k => a.setIfInBounds k.i true) listed
def zLd (D : List (Mk × Nat)) (listed : Array Bool) : Array Bool := D.foldl (fun a e => a.setIfInBounds e.1.i true) listed
def zTd (n : Nat) (D : List (Mk × Nat)) (T : Tm) : Tm := D.foldl (fun T e => putT n (some e.1.d) (e.1.mv e.2) T) T
def zMd (D : List (Mk × Nat)) (M : Mem) : Mem := D.foldl (fun M e => (e.2, ⟨e.1.Z, true⟩) :: M) M
def AllMk (P : Program) (n : Nat) (ops : Array Oper) : Sk → Prop
  | [] => True
  | (_, .f _) :: r => AllMk P n ops r
  | (_, .m k) :: r => Maker P n ops k ∧ AllMk P n ops r

def RunC (P : Program) (n : Nat) (ops : Array Oper) (last : List Nat) (Kend : Tm → Mem → Prop) : Sk → Tm → Mem → Prop
  | [], T, M => Run P n ops none Kend (pick ops (pur last)) T M
  | (l, .f i) :: r, T, M => match ops[i]? with
    | some o => Run P n ops none (fun T M => FSt P n o T M (RunC P n ops last Kend r)) (pick ops (pur l)) T M
    | none => False
  | (l, .m k) :: r, T, M => Run P n ops none (fun T M => ∀ b, RunC P n ops last Kend r (putT n (some k.d) (k.mv b) T) ((b, ⟨k.Z, true⟩) :: M)) (pick ops (pur l)) T M

def chkH (ops : Array Oper) (ks : List Nat) (ds : List Mk) (k : Array Bool → Bool) : List Nat → Array Bool → Bool
  | [], listed => k listed
  | j :: l, listed => (match ops[j]? with
      | some o => (Region.ready .any ops listed).contains j && Region.free .any ops listed j && (guardChk ops ks j || regOp o.op) && ds.all (fun m => offD ops m.d o && m.i != j)
      | none => false) && chkH ops ks ds k l (listed.setIfInBounds j true)
def headOk (ops : Array Oper) (ds : List Mk) : Ce → Bool
  | .f i => match ops[i]? with
    | some o => ds.all fun m => offD ops m.d o && m.i != i
    | none => false
  | .m k => ds.all fun m => m.d != k.d && m.i != k.i
def chkC (ops : Array Oper) (ks : List Nat) (last : List Nat) (ord2 : List (Nat × Bool)) : Sk → Array Bool → Bool
  | [], listed => chkH ops ks [] (fun listed => chkOrd ops ks ord2 listed) last listed
  | (l, ce) :: r, listed => chkH ops ks (mks ((l, ce) :: r)) (fun listed => Region.ready .any ops (setAll (mks r) listed) == [ce.idx] && (Region.ready .any ops listed).contains ce.idx && headOk ops (mks r) ce && chkC ops ks last ord2 r (listed.setIfInBounds ce.idx true)) l listed

section
variable {P : Program} {n : Nat} {ops : Array Oper} {ks : List Nat} {Q : Tm → Mem → Prop}

theorem set_comm (i j : Nat) (l : Array Bool) : (l.setIfInBounds i true).setIfInBounds j true = (l.setIfInBounds j true).setIfInBounds i true := by
  by_cases h : i = j
  · subst h; rfl
  · exact Array.setIfInBounds_comm _ _ h
theorem zLd_comm (j : Nat) : ∀ (D : List (Mk × Nat)) (l : Array Bool), zLd D (l.setIfInBounds j true) = (zLd D l).setIfInBounds j true := by
  intro D
  induction D with
  | nil => intro l; rfl
  | cons e D ih => intro l; show zLd D ((l.setIfInBounds j true).setIfInBounds e.1.i true) = _; rw [set_comm, ih]; rfl
theorem zLd_mid (A B : List (Mk × Nat)) (x : Mk × Nat) (l : Array Bool) : zLd (A ++ x :: B) l = (zLd (A ++ B) l).setIfInBounds x.1.i true := by
  unfold zLd
  rw [List.foldl_append, List.foldl_append, List.foldl_cons]
  exact zLd_comm _ B _
theorem zMd_eq : ∀ (D : List (Mk × Nat)) (M : Mem), zMd D M = zMd D [] ++ M := by
  intro D
  induction D with
  | nil => intro M; rfl
  | cons e D ih =>
    intro M
    show zMd D ((e.2, ⟨e.1.Z, true⟩) :: M) = zMd D [(e.2, ⟨e.1.Z, true⟩)] ++ M
    rw [ih, ih [(e.2, ⟨e.1.Z, true⟩)], List.append_assoc]; rfl
theorem zMd_mid (A B : List (Mk × Nat)) (x : Mk × Nat) (M : Mem) : (zMd (A ++ x :: B) M).Perm ((x.2, ⟨x.1.Z, true⟩) :: zMd (A ++ B) M) := by
  have e1 : zMd (A ++ x :: B) M = zMd B ((x.2, ⟨x.1.Z, true⟩) :: zMd A M) := by unfold zMd; rw [List.foldl_append]; rfl
  have e2 : zMd (A ++ B) M = zMd B (zMd A M) := by unfold zMd; rw [List.foldl_append]
  rw [e1, e2, zMd_eq B, zMd_eq B (zMd A M)]
  exact List.perm_middle
theorem zTd_agree : ∀ (D : List (Mk × Nat)) {T T' : Tm}, Agree T T' → Agree (zTd n D T) (zTd n D T') := by
  intro D
  induction D with
  | nil => intro T T' h; exact h
  | cons e D ih => intro T T' h; exact ih (h.put _ _ _)
theorem agree_trans {A B C : Tm} (h : Agree A B) (k : Agree B C) : Agree A C := fun i => (h i).trans (k i)
theorem zTd_comm {d : Option Nat} {v : Value} : ∀ (D : List (Mk × Nat)) (T : Tm), (∀ e ∈ D, d ≠ some e.1.d) → Agree (zTd n D (putT n d v T)) (putT n d v (zTd n D T)) := by
  intro D
  induction D with
  | nil => intro T _; exact fun _ => rfl
  | cons e D ih =>
    intro T h
    have h1 := h e List.mem_cons_self
    refine agree_trans (zTd_agree D (T' := putT n d v (putT n (some e.1.d) (e.1.mv e.2) T)) ?_) (ih _ fun x hx => h x (List.mem_cons_of_mem _ hx))
    exact Agree.comm (d := some e.1.d) (e := d) (fun x hx hxx => h1 (by rw [hxx, hx])) _ _ _
theorem zTd_mid (A B : List (Mk × Nat)) (x : Mk × Nat) (T : Tm) (h : ∀ e ∈ B, x.1.d ≠ e.1.d) : Agree (zTd n (A ++ x :: B) T) (putT n (some x.1.d) (x.1.mv x.2) (zTd n (A ++ B) T)) := by
  have e1 : zTd n (A ++ x :: B) T = zTd n B (putT n (some x.1.d) (x.1.mv x.2) (zTd n A T)) := by unfold zTd; rw [List.foldl_append]; rfl
  have e2 : zTd n (A ++ B) T = zTd n B (zTd n A T) := by unfold zTd; rw [List.foldl_append]
  rw [e1, e2]
  exact zTd_comm B _ fun e he hx => h e he (Option.some.inj hx)
theorem zTd_get : ∀ (D : List (Mk × Nat)) (T : Tm) (i : Nat), (∀ e ∈ D, i ≠ e.1.d) → get (zTd n D T) i = get T i := by
  intro D
  induction D with
  | nil => intro T i _; rfl
  | cons e D ih =>
    intro T i h
    show get (zTd n D (putT n (some e.1.d) (e.1.mv e.2) T)) i = _
    rw [ih _ _ fun x hx => h x (List.mem_cons_of_mem _ hx), get_put_ne]
    intro d hd; cases hd; exact h e List.mem_cons_self
theorem zTd_sub (D : List (Mk × Nat)) (T : Tm) (h : ∀ e ∈ D, get T e.1.d = none) : Sub T (zTd n D T) := by
  intro i v hv
  rw [zTd_get]
  · exact hv
  · intro e he hi; subst hi; rw [h e he] at hv; cases hv
theorem hoist_zd {o : Oper} {v : Value} : ∀ (D : List (Mk × Nat)) (T : Tm) (M : Mem), HoistOk P ops o T M v → (∀ e ∈ D, e.1.d ∉ o.looksAt ops) → HoistOk P ops o (zTd n D T) (zMd D M) v := by
  intro D
  induction D with
  | nil => intro T M h _; exact h
  | cons e D ih =>
    intro T M h hd
    refine ih _ _ (h.keep (d := some e.1.d) (fun x hx => ?_) (Ext.cons _ _)) fun x hx => hd x (List.mem_cons_of_mem _ hx)
    cases hx; exact hd e List.mem_cons_self
theorem hoist_zt {o : Oper} {v : Value} {M : Mem} : ∀ (D : List (Mk × Nat)) (T : Tm), HoistOk P ops o T M v → (∀ e ∈ D, e.1.d ∉ o.looksAt ops) → HoistOk P ops o (zTd n D T) M v := by
  intro D
  induction D with
  | nil => intro T h _; exact h
  | cons e D ih =>
    intro T h hd
    refine ih _ (h.keep (d := some e.1.d) (fun x hx => ?_) (Ext.refl _)) fun x hx => hd x (List.mem_cons_of_mem _ hx)
    cases hx; exact hd e List.mem_cons_self
theorem ready_zd {j : Nat} : ∀ (D : List (Mk × Nat)) (l : Array Bool), j ∈ Region.ready .any ops l → (∀ e ∈ D, e.1.i ≠ j) → j ∈ Region.ready .any ops (zLd D l) := by
  intro D
  induction D with
  | nil => intro l h _; exact h
  | cons e D ih => intro l h hd; exact ih _ (ready_mono h (Ne.symm (hd e List.mem_cons_self))) fun x hx => hd x (List.mem_cons_of_mem _ hx)
theorem getD_zd {j : Nat} : ∀ (D : List (Mk × Nat)) (l : Array Bool), (zLd D l).getD j true = false → l.getD j true = false := by
  intro D
  induction D with
  | nil => intro l h; exact h
  | cons e D ih => intro l h; exact getD_up (ih _ h)
theorem dones_mks : ∀ (c : St) (e : Mk × Nat), e ∈ dones c → e.1 ∈ mks (skel c) := by
  intro c
  induction c with
  | nil => intro e h; cases h
  | cons x c ih =>
    obtain ⟨l, ce, eb⟩ := x
    intro e h
    cases ce with
    | f i => exact ih e h
    | m k =>
      cases eb with
      | none => exact List.mem_cons_of_mem _ (ih e h)
      | some b =>
        rcases List.mem_cons.1 h with rfl | h
        · exact List.mem_cons_self
        · exact List.mem_cons_of_mem _ (ih e h)
theorem ready_all {j : Nat} : ∀ (c : St) (l : Array Bool), j ∈ Region.ready .any ops (zLd (dones c) l) → (∀ k ∈ mks (skel c), k.i ≠ j) → j ∈ Region.ready .any ops (setAll (mks (skel c)) l) := by
  intro c
  induction c with
  | nil => intro l h _; exact h
  | cons x c ih =>
    obtain ⟨ls, ce, eb⟩ := x
    intro l h hk
    cases ce with
    | f i => exact ih l h hk
    | m k =>
      have hk2 : ∀ k ∈ mks (skel c), k.i ≠ j := fun x hx => hk x (List.mem_cons_of_mem _ hx)
      have hkj : k.i ≠ j := hk k List.mem_cons_self
      show j ∈ Region.ready .any ops (setAll (mks (skel c)) (l.setIfInBounds k.i true))
      cases eb with
      | some b => exact ih _ h hk2
      | none =>
        refine ih _ ?_ hk2
        have h' : j ∈ Region.ready .any ops (zLd (dones c) l) := h
        rw [zLd_comm]
        exact ready_mono h' (Ne.symm hkj)
/-- an early maker is one that is not made yet -/
theorem find_mk {j : Nat} : ∀ (c : St) (l : Array Bool), j ∈ Region.ready .any ops (zLd (dones c) l) → (∃ k ∈ mks (skel c), k.i = j) → AllMk P n ops (skel c) →
    ∃ A ls k B, c = A ++ (ls, .m k, none) :: B ∧ k.i = j ∧ Maker P n ops k := by
  intro c
  induction c with
  | nil => intro l _ ⟨k, hk, _⟩; cases hk
  | cons x c ih =>
    obtain ⟨ls, ce, eb⟩ := x
    intro l h ⟨k, hk, hkj⟩ hm
    cases ce with
    | f i =>
      obtain ⟨A, ls', k', B, h1, h2, h3⟩ := ih l h ⟨k, hk, hkj⟩ hm
      exact ⟨(ls, .f i, eb) :: A, ls', k', B, by rw [h1]; rfl, h2, h3⟩
    | m k0 =>
      have hm2 : Maker P n ops k0 ∧ AllMk P n ops (skel c) := hm
      by_cases h0 : k0.i = j
      · cases eb with
        | none => exact ⟨[], ls, k0, c, rfl, h0, hm2.1⟩
        | some b =>
          exfalso
          have h' : j ∈ Region.ready .any ops (zLd (dones c) (l.setIfInBounds k0.i true)) := h
          rw [zLd_comm, h0] at h'
          obtain ⟨h1, _⟩ := mem_ready.1 h'
          by_cases hlt : j < (zLd (dones c) l).size <;> simp [hlt] at h1
      · have hk' : ∃ k ∈ mks (skel c), k.i = j := by
          rcases List.mem_cons.1 hk with rfl | hk
          · exact absurd hkj h0
          · exact ⟨k, hk, hkj⟩
        cases eb with
        | none =>
          obtain ⟨A, ls', k', B, h1, h2, h3⟩ := ih l h hk' hm2.2
          exact ⟨(ls, .m k0, none) :: A, ls', k', B, by rw [h1]; rfl, h2, h3⟩
        | some b =>
          obtain ⟨A, ls', k', B, h1, h2, h3⟩ := ih (l.setIfInBounds k0.i true) h hk' hm2.2
          exact ⟨(ls, .m k0, some b) :: A, ls', k', B, by rw [h1]; rfl, h2, h3⟩
theorem dones_app : ∀ (A B : St), dones (A ++ B) = dones A ++ dones B := by
  intro A
  induction A with
  | nil => intro B; rfl
  | cons x A ih =>
    obtain ⟨ls, ce, eb⟩ := x
    intro B
    cases ce with
    | f i => exact ih B
    | m k =>
      cases eb with
      | none => exact ih B
      | some b => show (k, b) :: dones (A ++ B) = _; rw [ih]; rfl
theorem frem_app : ∀ (A B : St), frem (A ++ B) = frem A + frem B := by
  intro A
  induction A with
  | nil => intro B; simp [frem]
  | cons x A ih =>
    obtain ⟨ls, ce, eb⟩ := x
    intro B
    cases ce with
    | f i => show ls.length + 1 + frem (A ++ B) = ls.length + 1 + frem A + frem B; rw [ih]; omega
    | m k =>
      cases eb with
      | none => show ls.length + 1 + frem (A ++ B) = ls.length + 1 + frem A + frem B; rw [ih]; omega
      | some b => show ls.length + frem (A ++ B) = ls.length + frem A + frem B; rw [ih]; omega
/-- hoists, whatever has been made -/
theorem hoistD (hQ : QAgree Q) (hsel : Region.noSelect ops = true) (D : List (Mk × Nat)) (ds : List Mk) (hD : ∀ e ∈ D, e.1 ∈ ds) {k : Array Bool → Bool} {K : Tm → Mem → Prop} {fu : Nat}
    (hK : ∀ listed T M, Closed ops (zLd D listed) → Closed ops listed → k listed = true → (∀ m ∈ ds, get T m.d = none) → K T M → AnyA P n ops ks Q fu (zLd D listed) (zTd n D T) (zMd D M)) :
    ∀ (l : List Nat) (listed : Array Bool) (T : Tm) (M : Mem), Closed ops (zLd D listed) → Closed ops listed → chkH ops ks ds k l listed = true → (∀ m ∈ ds, get T m.d = none) → Run P n ops none K (pick ops (pur l)) T M →
      AnyA P n ops ks Q (l.length + fu) (zLd D listed) (zTd n D T) (zMd D M) := by
  intro l
  induction l with
  | nil => intro listed T M hc hc2 h hd hr; rw [List.length_nil, Nat.zero_add]; exact hK listed T M hc hc2 h hd hr
  | cons j l ih =>
    intro listed T M hc hc2 h hd hr
    unfold chkH at h
    rw [Bool.and_eq_true] at h
    obtain ⟨h1, h2⟩ := h
    cases ho : ops[j]? with
    | none => rw [ho] at h1; simp at h1
    | some o =>
      rw [ho] at h1
      simp only [Bool.and_eq_true] at h1
      obtain ⟨⟨⟨g1, g2⟩, g3⟩, g4⟩ := h1
      have hp : pick ops (pur (j :: l)) = (o, true) :: pick ops (pur l) := by simp only [pur, List.map_cons, pick, ho]
      rw [hp] at hr
      obtain ⟨v, hreg, hv, hr⟩ := hr
      have hoff : ∀ m ∈ ds, o.dst ≠ some m.d ∧ m.d ∉ o.looksAt ops ∧ m.i ≠ j := by
        intro m hm
        have := List.all_eq_true.1 g4 m hm
        unfold offD at this
        simp only [Bool.and_eq_true] at this
        exact ⟨by simpa using this.1.1, by simpa using this.1.2, by simpa using this.2⟩
      have hready : j ∈ Region.ready .any ops listed := by simpa using g1
      have hready2 : j ∈ Region.ready .any ops (zLd D listed) := ready_zd D _ hready fun e he => (hoff _ (hD e he)).2.2
      have hv2 : HoistOk P ops o (zTd n D T) (zMd D M) v := hoist_zd D T M hv fun e he => (hoff _ (hD e he)).2.1
      have hgu : Guarded ops ks j (Closed ops) ∨ ∀ M', HoistOk P ops o (zTd n D T) M' v := by
        rcases Bool.or_eq_true_iff.1 g3 with g3 | g3
        · exact .inl (guarded_of g3)
        · exact .inr fun M' => hoist_zt D T (hreg g3 M') fun e he => (hoff _ (hD e he)).2.1
      rw [show (j :: l).length + fu = (l.length + fu) + 1 from by simp only [List.length_cons]; omega]
      refine any_hoist hQ ho hsel (Closed ops) (fun l j hl hj => hl.set hj) (l.length + fu) _ _ _ hc ?_ hready2 hgu hv2 ?_
      · intro j' oj' hj' hne hun hno
        exact Region.free_spec ho g2 j' oj' hj' hne (getD_zd D _ hun) hno
      · rw [← zLd_comm]
        refine any_agree hQ _ _ _ _ _ (zTd_comm (n := n) (v := v) D T fun e he => (hoff _ (hD e he)).1) ?_
        refine ih _ _ _ (by rw [zLd_comm]; exact hc.set hready2) (hc2.set hready) h2 (fun m hm => ?_) hr
        rw [get_put_ne (fun e he => by rintro rfl; exact (hoff m hm).1 he)]; exact hd m hm

def apartMk : List Mk → Bool
  | [] => true
  | k :: r => r.all (fun m => m.d != k.d) && apartMk r
theorem apart_mid : ∀ (A B : St) (ls : List Nat) (k : Mk) (eb : Option Nat), apartMk (mks (skel (A ++ (ls, .m k, eb) :: B))) = true → ∀ m ∈ mks (skel B), m.d ≠ k.d := by
  intro A
  induction A with
  | nil =>
    intro B ls k eb h m hm
    have h' : ((mks (skel B)).all (fun m => m.d != k.d) && apartMk (mks (skel B))) = true := h
    rw [Bool.and_eq_true] at h'
    simpa using List.all_eq_true.1 h'.1 m hm
  | cons x A ih =>
    obtain ⟨l, ce, e⟩ := x
    intro B ls k eb h
    cases ce with
    | f i => exact ih B ls k eb h
    | m k0 =>
      have h' : ((mks (skel (A ++ (ls, .m k, eb) :: B))).all (fun m => m.d != k0.d) && apartMk (mks (skel (A ++ (ls, .m k, eb) :: B)))) = true := h
      rw [Bool.and_eq_true] at h'
      exact ih B ls k eb h'.2
theorem skel_mid (A B : St) (ls : List Nat) (k : Mk) (e e' : Option Nat) : skel (A ++ (ls, .m k, e) :: B) = skel (A ++ (ls, .m k, e') :: B) := by
  unfold skel; rw [List.map_append, List.map_append, List.map_cons, List.map_cons]
theorem headOk_f {ds : List Mk} {i : Nat} (h : headOk ops ds (.f i) = true) : ∃ o, ops[i]? = some o ∧ (ds.all fun m => offD ops m.d o && m.i != i) = true := by
  have h' : (match ops[i]? with
    | some o => ds.all fun m => offD ops m.d o && m.i != i
    | none => false) = true := h
  cases ho : ops[i]? with
  | none => rw [ho] at h'; cases h'
  | some o => rw [ho] at h'; exact ⟨o, rfl, h'⟩
theorem runC_sound (hQ : QAgree Q) (hsel : Region.noSelect ops = true) (last : List Nat) (ord2 : List (Nat × Bool)) (k : Nat) :
    ∀ (N : Nat) (c : St), c.length = N → ∀ (listed : Array Bool) (T : Tm) (M : Mem), apartMk (mks (skel c)) = true → AllMk P n ops (skel c) → Closed ops (zLd (dones c) listed) → Closed ops listed → chkC ops ks last ord2 (skel c) listed = true → (∀ m ∈ mks (skel c), get T m.d = none) →
      RunC P n ops last (fun T M => Run P n ops (some ks) Q (pick ops ord2) T M) (skel c) T M →
      AnyA P n ops ks Q (frem c + (last.length + (ord2.length + k))) (zLd (dones c) listed) (zTd n (dones c) T) (zMd (dones c) M) := by
  intro N
  induction N with
  | zero =>
    intro c hN listed T M hap hmk hc hc2 hchk hd hr
    obtain rfl : c = [] := List.eq_nil_of_length_eq_zero hN
    rw [show frem [] + (last.length + (ord2.length + k)) = last.length + (ord2.length + k) from by simp [frem]]
    exact hoistD hQ hsel (dones []) [] (fun e he => by cases he) (fun listed T M hc hc2 hk hd hK => any_of_run hQ hsel ord2 k _ _ _ hc2 hk hK) last listed T M hc hc2 hchk hd hr
  | succ N ihN =>
    have virt : ∀ (km : Mk) (b : Nat) (r : St), r.length = N → ∀ (listed : Array Bool) (T : Tm) (M : Mem), apartMk (km :: mks (skel r)) = true → (Maker P n ops km ∧ AllMk P n ops (skel r)) → Closed ops (zLd (dones r) (listed.setIfInBounds km.i true)) → Closed ops listed →
        km.i ∈ Region.ready .any ops listed → chkC ops ks last ord2 (skel r) (listed.setIfInBounds km.i true) = true → (∀ m ∈ km :: mks (skel r), get T m.d = none) →
        (∀ b, RunC P n ops last (fun T M => Run P n ops (some ks) Q (pick ops ord2) T M) (skel r) (putT n (some km.d) (km.mv b) T) ((b, ⟨km.Z, true⟩) :: M)) →
        AnyA P n ops ks Q (frem r + (last.length + (ord2.length + k))) (zLd (dones r) (listed.setIfInBounds km.i true)) (zTd n (dones r) (putT n (some km.d) (km.mv b) T)) (zMd (dones r) ((b, ⟨km.Z, true⟩) :: M)) := by
      intro km b r hN listed T M hap hmk hc hc2 hhead a4 hd hr
      have hap' : ((mks (skel r)).all (fun m => m.d != km.d) && apartMk (mks (skel r))) = true := hap
      rw [Bool.and_eq_true] at hap'
      have hkd : ∀ m ∈ mks (skel r), m.d ≠ km.d := fun m hm => by simpa using List.all_eq_true.1 hap'.1 m hm
      exact ihN r hN _ _ _ hap'.2 hmk.2 hc (hc2.set hhead) a4 (fun m hm => by
        rw [get_put_ne (fun e he => by cases he; exact hkd m hm)]; exact hd m (List.mem_cons_of_mem _ hm)) (hr b)
    -- the head has no hoists left and is not made
    have inner : ∀ (F : Nat) (ce : Ce) (r : St), r.length = N → frem r = F → ∀ (listed : Array Bool) (T : Tm) (M : Mem), apartMk (mks (skel (([], ce, none) :: r))) = true → AllMk P n ops (skel (([], ce, none) :: r)) → Closed ops (zLd (dones r) listed) → Closed ops listed →
        (Region.ready .any ops (setAll (mks (skel r)) listed) == [ce.idx] && (Region.ready .any ops listed).contains ce.idx && headOk ops (mks (skel r)) ce && chkC ops ks last ord2 (skel r) (listed.setIfInBounds ce.idx true)) = true → (∀ m ∈ mks (skel (([], ce, none) :: r)), get T m.d = none) →
        RunC P n ops last (fun T M => Run P n ops (some ks) Q (pick ops ord2) T M) (skel (([], ce, none) :: r)) T M →
        AnyA P n ops ks Q (F + (last.length + (ord2.length + k)) + 1) (zLd (dones r) listed) (zTd n (dones r) T) (zMd (dones r) M) := by
      intro F
      induction F using Nat.strongRecOn with
      | _ F ihF =>
      intro ce r hN hF listed T M hap hmk hc hc2 hchk hd hr
      have hchk0 := hchk
      simp only [Bool.and_eq_true] at hchk
      obtain ⟨⟨⟨a1, a2⟩, a3⟩, a4⟩ := hchk
      have hhead : ce.idx ∈ Region.ready .any ops listed := by simpa using a2
      have hall : Region.ready .any ops (setAll (mks (skel r)) listed) = [ce.idx] := by simpa using a1
      have hni : ∀ m ∈ mks (skel r), m.i ≠ ce.idx := by
        intro m hm
        cases ce with
        | f i =>
          obtain ⟨o, ho, a3'⟩ := headOk_f a3
          have := List.all_eq_true.1 a3' m hm
          simp only [Bool.and_eq_true] at this
          show ¬ (m.i = i)
          simpa using this.2
        | m km =>
          have := List.all_eq_true.1 a3 m hm
          simp only [Bool.and_eq_true] at this
          show ¬ (m.i = km.i)
          simpa using this.2
      have hhead2 : ce.idx ∈ Region.ready .any ops (zLd (dones r) listed) := ready_zd _ _ hhead fun e he => hni _ (dones_mks _ _ he)
      have hdr : ∀ m ∈ mks (skel r), get T m.d = none := by
        intro m hm
        cases ce with
        | f i => exact hd m hm
        | m km => exact hd m (List.mem_cons_of_mem _ hm)
      have hmkr : AllMk P n ops (skel r) := by
        cases ce with
        | f i => exact hmk
        | m km => exact hmk.2
      have hapr : apartMk (mks (skel r)) = true := by
        cases ce with
        | f i => exact hap
        | m km =>
          have h' : ((mks (skel r)).all (fun m => m.d != km.d) && apartMk (mks (skel r))) = true := hap
          exact (Bool.and_eq_true_iff.1 h').2
      refine ⟨fun h0 => (by have h0' : Region.ready .any ops (zLd (dones r) listed) = [] := h0; rw [h0'] at hhead2; cases hhead2), fun j hj => ?_⟩
      have hj' : j ∈ Region.ready .any ops (zLd (dones r) listed) := hj
      by_cases hjh : j = ce.idx
      · cases ce with
        | f i =>
          obtain rfl : j = i := hjh
          cases ho : ops[j]? with
          | none => obtain ⟨o, ho', _⟩ := headOk_f a3; rw [ho] at ho'; cases ho'
          | some o =>
            have hr' : FSt P n o T M (RunC P n ops last (fun T M => Run P n ops (some ks) Q (pick ops ord2) T M) (skel r)) := by
              have h2 : RunC P n ops last (fun T M => Run P n ops (some ks) Q (pick ops ord2) T M) (([], .f j) :: skel r) T M := hr
              unfold RunC at h2
              rw [ho] at h2
              exact h2
            obtain ⟨hg, R, hst, hnext⟩ := hr'
            have hoff : ∀ m ∈ mks (skel r), o.dst ≠ some m.d := by
              intro m hm
              obtain ⟨o', ho', a3'⟩ := headOk_f a3
              rw [ho] at ho'
              cases ho'
              have := List.all_eq_true.1 a3' m hm
              unfold offD at this
              simp only [Bool.and_eq_true] at this
              simpa using this.1.1
            have hs := (hst (zMd (dones r) [])).subT (zTd_sub (n := n) (dones r) T fun e he => hdr _ (dones_mks _ _ he))
            refine ⟨o, rfl, .inl ⟨by simp [wantedA, hg], ?_⟩⟩
            rw [zMd_eq (dones r) M]
            refine Step.lessM (hs.mono fun v M' hM' => ?_)
            obtain ⟨L, hL, rfl⟩ := hM'
            refine ⟨zMd (dones r) (L ++ M), ?_, fun _ => ?_, ?_⟩
            · rw [zMd_eq]
              refine Ext.of_perm ?_
              rw [← List.append_assoc, ← List.append_assoc]
              exact List.Perm.append_right M List.perm_append_comm
            · rw [zMd_eq (dones r) (L ++ M)]
              exact eLK (ext_append L M)
            · rw [← zLd_comm]
              refine any_agree hQ _ _ _ _ _ (zTd_comm (n := n) (v := v) (dones r) T fun e he => hoff _ (dones_mks _ _ he)) ?_
              have := ihN r hN (listed.setIfInBounds j true) (putT n o.dst v T) (L ++ M) hapr hmkr (by rw [zLd_comm]; exact hc.set hhead2) (hc2.set hhead) a4 (fun m hm => by
                rw [get_put_ne (fun e he => by rintro rfl; exact hoff m hm he)]; exact hdr m hm) (hnext v L hL)
              rw [hF] at this
              exact this
        | m km =>
          obtain rfl : j = km.i := hjh
          obtain ⟨o, ho, hdst, hg, hst⟩ := hmk.1
          have hkd : ∀ m ∈ mks (skel r), m.d ≠ km.d := by
            have h' : ((mks (skel r)).all (fun m => m.d != km.d) && apartMk (mks (skel r))) = true := hap
            intro m hm
            simpa using List.all_eq_true.1 (Bool.and_eq_true_iff.1 h').1 m hm
          refine ⟨o, ho, .inl ⟨by simp [wantedA, hg], Step.lessM (hst _ _ _ fun b => ?_)⟩⟩
          refine ⟨zMd (dones r) ((b, ⟨km.Z, true⟩) :: M), ?_, fun _ => ?_, ?_⟩
          · rw [zMd_eq, zMd_eq (dones r) M]
            exact Ext.of_perm List.perm_middle
          · rw [zMd_eq, zMd_eq (dones r) ((b, ⟨km.Z, true⟩) :: M)]
            exact eLK (Ext.cons _ _)
          · rw [← zLd_comm, hdst]
            refine any_agree hQ _ _ _ _ _ (zTd_comm (n := n) (v := km.mv b) (d := some km.d) (dones r) T fun e he h => hkd _ (dones_mks _ _ he) (Option.some.inj h).symm) ?_
            have := virt km b r hN listed T M hap hmk (by rw [zLd_comm]; exact hc.set hhead2) hc2 hhead a4 hd hr
            rw [hF] at this
            exact this
      · have hex : ∃ k ∈ mks (skel r), k.i = j := by
          apply Classical.byContradiction
          intro hno
          have := ready_all r listed hj' (fun k hk hkj => hno ⟨k, hk, hkj⟩)
          rw [hall] at this
          exact hjh (by simpa using this)
        obtain ⟨A, ls, km, B, rfl, rfl, o, ho, hdst, hg, hst⟩ := find_mk r listed hj' hex hmkr
        have hda : dones (A ++ (ls, .m km, none) :: B) = dones A ++ dones B := by rw [dones_app]; rfl
        have hdb : ∀ b, dones (A ++ (ls, .m km, some b) :: B) = dones A ++ (km, b) :: dones B := fun b => by rw [dones_app]; rfl
        have hfr : ∀ b, frem (A ++ (ls, .m km, some b) :: B) + 1 = F := fun b => by
          rw [← hF, frem_app, frem_app]
          show frem A + (ls.length + frem B) + 1 = frem A + (ls.length + 1 + frem B)
          omega
        have hkB : ∀ m ∈ mks (skel B), m.d ≠ km.d := apart_mid A B ls km none hapr
        obtain ⟨F', rfl⟩ : ∃ F', F = F' + 1 := ⟨frem (A ++ (ls, .m km, some 0) :: B), (hfr 0).symm⟩
        refine ⟨o, ho, .inl ⟨by simp [wantedA, hg], Step.lessM (hst _ _ _ fun b => ?_)⟩⟩
        refine ⟨zMd (dones (A ++ (ls, .m km, some b) :: B)) M, ?_, fun _ => ?_, ?_⟩
        · rw [hdb, hda]; exact Ext.of_perm (zMd_mid _ _ (km, b) M)
        · rw [hdb, hda]; exact Ext.trans (Ext.cons _ _) (Ext.of_perm (zMd_mid _ _ (km, b) M).symm)
        · have hag : Agree (zTd n (dones (A ++ (ls, .m km, some b) :: B)) T) (putT n o.dst (km.mv b) (zTd n (dones (A ++ (ls, .m km, none) :: B)) T)) := by
            rw [hdb, hda, hdst]
            exact zTd_mid _ _ (km, b) T fun e he h => hkB _ (dones_mks _ _ he) h.symm
          have hzl : (zLd (dones (A ++ (ls, .m km, none) :: B)) listed).setIfInBounds km.i true = zLd (dones (A ++ (ls, .m km, some b) :: B)) listed := by
            rw [hdb, hda]; exact (zLd_mid _ _ (km, b) listed).symm
          rw [hzl]
          refine any_agree hQ _ _ _ _ _ hag ?_
          have hsk : skel (A ++ (ls, .m km, some b) :: B) = skel (A ++ (ls, .m km, none) :: B) := skel_mid A B ls km _ _
          have hskc : skel (([], ce, none) :: (A ++ (ls, .m km, some b) :: B)) = skel (([], ce, none) :: (A ++ (ls, .m km, none) :: B)) := by
            show ([], ce) :: skel (A ++ (ls, .m km, some b) :: B) = ([], ce) :: skel (A ++ (ls, .m km, none) :: B)
            rw [hsk]
          have := ihF F' (by omega) ce (A ++ (ls, .m km, some b) :: B) (by rw [← hN, List.length_append, List.length_append]; rfl) (Nat.succ.inj (hfr b)) listed T M (by rw [hskc]; exact hap) (by rw [hskc]; exact hmk)
            (by rw [← hzl]; exact hc.set hj') hc2 (by rw [hsk]; exact hchk0) (by rw [hskc]; exact hd) (by rw [hskc]; exact hr)
          rw [show F' + 1 + (last.length + (ord2.length + k)) = F' + (last.length + (ord2.length + k)) + 1 from by omega]
          exact this
    intro c hN listed T M hap hmk hc hc2 hchk hd hr
    match c, hN, hap, hmk, hc, hchk, hd, hr with
    | (l, ce, eb) :: r, hN, hap, hmk, hc, hchk, hd, hr =>
      have hN' : r.length = N := by simpa using hN
      have hhd := hoistD (P := P) (n := n) (k := fun listed => Region.ready .any ops (setAll (mks (skel r)) listed) == [ce.idx] && (Region.ready .any ops listed).contains ce.idx && headOk ops (mks (skel r)) ce && chkC ops ks last ord2 (skel r) (listed.setIfInBounds ce.idx true))
        (K := RunC P n ops last (fun T M => Run P n ops (some ks) Q (pick ops ord2) T M) (([], ce) :: skel r)) (fu := frem (([], ce, eb) :: r) + (last.length + (ord2.length + k))) hQ hsel (dones ((l, ce, eb) :: r)) (mks (skel ((l, ce, eb) :: r))) (fun e he => dones_mks _ _ he) ?_ l listed T M hc hc2 hchk hd ?_
      · have e : frem ((l, ce, eb) :: r) = l.length + frem (([], ce, eb) :: r) := by
          cases ce with
          | f i => simp [frem]; omega
          | m k => cases eb <;> simp [frem] <;> omega
        rw [e, Nat.add_assoc]
        exact hhd
      · intro listed T M hc hc2 hk hd hK
        cases ce with
        | f i =>
          have h2 := inner (frem r) (.f i) r hN' rfl listed T M hap hmk hc hc2 hk hd hK
          rw [show frem (([], Ce.f i, eb) :: r) + (last.length + (ord2.length + k)) = frem r + (last.length + (ord2.length + k)) + 1 from by simp [frem]; omega]
          exact h2
        | m km =>
          cases eb with
          | none =>
            have h2 := inner (frem r) (.m km) r hN' rfl listed T M hap hmk hc hc2 hk hd hK
            rw [show frem (([], Ce.m km, none) :: r) + (last.length + (ord2.length + k)) = frem r + (last.length + (ord2.length + k)) + 1 from by simp [frem]; omega]
            exact h2
          | some b =>
            simp only [Bool.and_eq_true] at hk
            obtain ⟨⟨⟨a1, a2⟩, a3⟩, a4⟩ := hk
            have hhead : (Ce.m km).idx ∈ Region.ready .any ops listed := by simpa using a2
            have h2 := virt km b r hN' listed T M hap hmk hc hc2 hhead a4 hd hK
            rw [show frem (([], Ce.m km, some b) :: r) + (last.length + (ord2.length + k)) = frem r + (last.length + (ord2.length + k)) from by simp [frem]]
            exact h2
      · cases ce with
        | f i =>
          have h1 : (match ops[i]? with
            | some o => Run P n ops none (fun T M => FSt P n o T M (RunC P n ops last (fun T M => Run P n ops (some ks) Q (pick ops ord2) T M) (skel r))) (pick ops (pur l)) T M
            | none => False) := hr
          cases ho : ops[i]? with
          | none => rw [ho] at h1; exact h1.elim
          | some o =>
            rw [ho] at h1
            have e : RunC P n ops last (fun T M => Run P n ops (some ks) Q (pick ops ord2) T M) (([], Ce.f i) :: skel r) = fun T M => FSt P n o T M (RunC P n ops last (fun T M => Run P n ops (some ks) Q (pick ops ord2) T M) (skel r)) := by
              funext T M
              show (match ops[i]? with
                | some o => Run P n ops none (fun T M => FSt P n o T M (RunC P n ops last (fun T M => Run P n ops (some ks) Q (pick ops ord2) T M) (skel r))) (pick ops (pur [])) T M
                | none => False) = _
              rw [ho]; rfl
            rw [e]
            exact h1
        | m km => exact hr
/-- a region that draws, with several things that may be made at any time -/
theorem cDm {Q : Exit → Tm → Mem → Prop} {T : Tm} {M : Mem} [hm : Mixed P] {id : Nat} (ks : List Nat) (c : Sk) (last : List Nat) (ord2 : List (Nat × Bool)) (hf : Fine Q) (hmk : AllMk P n ops c)
    (hc : (Region.noSelect ops && Nat.ble (frem (c.map fun x => (x.1, x.2, none)) + last.length + ord2.length) ops.size && apartMk (mks c) && chkC ops ks last ord2 c (Array.replicate ops.size false)) = true)
    (hd : ((mks c).all fun m => (get T m.d).isNone) = true)
    (h : RunC P n ops last (fun T M => Run P n ops (some ks) (fun T M => Q .normal T M) (pick ops ord2) T M) c T M) :
    AWp P n (.region id ops true) Q T M := by
  simp only [Bool.and_eq_true] at hc
  obtain ⟨⟨⟨h1, h2⟩, h3⟩, h4⟩ := hc
  refine awp_region_any (ks := ks) hm.out ?_
  have hcl : Closed ops (Array.replicate ops.size false) := fun j hj => by
    exfalso
    by_cases hlt : j < ops.size <;> simp [hlt] at hj
  have hle : frem (c.map fun x => (x.1, x.2, none)) + last.length + ord2.length ≤ ops.size := by simpa using h2
  have hsk : skel (c.map fun x => (x.1, x.2, none)) = c := by
    unfold skel; rw [List.map_map]
    have : ((fun x : List Nat × Ce × Option Nat => (x.1, x.2.1)) ∘ fun x : List Nat × Ce => (x.1, x.2, (none : Option Nat))) = _root_.id := by funext x; rfl
    rw [this, List.map_id]
  have hdn : dones (c.map fun x => (x.1, x.2, none)) = [] := by
    clear h h4 h3 hd hmk hsk hle h2
    induction c with
    | nil => rfl
    | cons x c ih =>
      obtain ⟨l, ce⟩ := x
      cases ce with
      | f i => exact ih
      | m k => exact ih
  have := runC_sound (P := P) (n := n) (ks := ks) (Q := fun T M => Q .normal T M) hf h1 last ord2 (ops.size - (frem (c.map fun x => (x.1, x.2, none)) + last.length + ord2.length)) _ (c.map fun x => (x.1, x.2, none)) rfl (Array.replicate ops.size false) T M (by rw [hsk]; exact h3) (by rw [hsk]; exact hmk) (by rw [hdn]; exact hcl) hcl (by rw [hsk]; exact h4)
    (by rw [hsk]; intro m hm; simpa using List.all_eq_true.1 hd m hm) (by rw [hsk]; exact h)
  rw [hdn] at this
  rw [show frem (c.map fun x => (x.1, x.2, none)) + (last.length + (ord2.length + (ops.size - (frem (c.map fun x => (x.1, x.2, none)) + last.length + ord2.length)))) = ops.size from by omega] at this
  exact this
/-- a new variable -/
theorem mkA {i d e size bytes : Nat} {z : Value} [hi : InfoT P e size bytes z] {ty : Nat} {pos : String} {after : Array Edge} (h : ops[i]? = some ⟨some d, .alloc e, ty, pos, after, none⟩) :
    Maker P n ops ⟨i, d, fun b => .pointer (some ⟨b, 0, none⟩), z.cells.toList⟩ := ⟨_, h, rfl, rfl, fun T M K hk => step_alloc hk⟩
/-- an empty literal -/
theorem mkB {i d tx e bytes : Nat} {z : Value} [hu : UnderT P tx (.slice e)] [hi : InfoT P e 1 bytes z] {ty : Nat} {pos : String} {after : Array Edge} (h : ops[i]? = some ⟨some d, .buildSlice tx 0 #[], ty, pos, after, none⟩) (hz : flatV z = true) :
    Maker P n ops ⟨i, d, fun b => .slice (some ⟨b, 0, none⟩) 0 0, []⟩ := ⟨_, h, rfl, rfl, fun T M K hk => step_buildSlice (ps := []) (vs := []) rfl rfl rfl hz rfl hk⟩
end
end Go.Proofs.Ytnikglngipbahaa.Ab
