/-
  The abstract layer: a Go call seen up to the bits of NaNs, up to draws of the tape and up to memory that nobody looks at. Core definitions and the rules for code.
-/
import Derived.WalkKit
import Derived.LoopN
import Derived.WalkSpells
import Derived.WalkLawsBesides
namespace Go.Proofs.Ytkbpdgacfeachaa.Ab
open Go Go.RowKit
set_option linter.unusedVariables false
set_option linter.unusedSimpArgs false

/-! ## Values up to NaN bits -/
def nanB (k : FloatKind) (b : Nat) : Bool := (k.decode b).isNaN
def qn : FloatKind → Nat
  | .f32 => 2143289344
  | .f64 => 9221120237041090560
def cb (k : FloatKind) (b : Nat) : Nat := if nanB k b then qn k else b
def nfS : Value → Value
  | .float k b => .float k (cb k b)
  | v => v
def nfA : Value → Value
  | .agg cs => .agg (cs.map nfS)
  | v => nfS v
def nf : Value → Value
  | .tuple vs => .tuple (vs.map nfA)
  | v => nfA v

def plainC : Value → Bool
  | .float k b => !nanB k b
  | .agg cs => cs.size == 0
  | .tuple vs => vs.size == 0
  | _ => true

theorem nf_plainC {v : Value} (h : plainC v = true) : nf v = v := by
  cases v <;> simp_all [plainC, nf, nfA, nfS, cb]

/-! ## Memory: a view of the blocks that matter -/
structure Blk where
  cells : List Value
  wr : Bool

abbrev Mem := List (Nat × Blk)

def blkOk (w : World) (B : Nat) (b : Nat) (k : Blk) : Prop :=
  ∃ c E fr, w.heap[b]? = some (.cells c E fr) ∧ c.toList.map nfS = k.cells ∧ (k.wr = true → fr = (0, 0) ∧ B ≤ b)

def apartIf (p q : Nat × Blk) : Prop := p.2.wr = true ∨ q.2.wr = true → p.1 ≠ q.1

structure SatF (w0 : World) (B : Nat) (w : World) (M : Mem) : Prop where
  below : Below B w0 w
  room : B ≤ w.heap.size
  ok : ∀ p ∈ M, blkOk w B p.1 p.2
  apart : M.Pairwise apartIf

def Ext (M M' : Mem) : Prop := ∃ R, M'.Perm (M ++ R)

theorem Ext.refl (M : Mem) : Ext M M := ⟨[], by rw [List.append_nil]⟩
theorem Ext.trans {A B C : Mem} (h : Ext A B) (k : Ext B C) : Ext A C := by
  obtain ⟨R, h⟩ := h
  obtain ⟨S, k⟩ := k
  exact ⟨R ++ S, k.trans (by rw [← List.append_assoc]; exact h.append_right S)⟩
theorem Ext.cons (p : Nat × Blk) (M : Mem) : Ext M (p :: M) := ⟨[p], List.perm_append_comm (l₁ := [p])⟩
theorem Ext.mem {M M' : Mem} (h : Ext M M') {p : Nat × Blk} (hp : p ∈ M) : p ∈ M' := by
  obtain ⟨R, h⟩ := h
  exact h.mem_iff.2 (List.mem_append_left R hp)
theorem Ext.of_sublist {M M' : Mem} (h : M.Sublist M') : Ext M M' := by
  obtain ⟨R, h⟩ := h.exists_perm_append
  exact ⟨R, h⟩
theorem Ext.of_perm {M M' : Mem} (h : M.Perm M') : Ext M M' := ⟨[], by rw [List.append_nil]; exact h.symm⟩
theorem apartIf_symm {p q : Nat × Blk} (h : apartIf p q) : apartIf q p := fun e he => h (e.symm) he.symm
theorem Ext.apart {M M' : Mem} (h : Ext M M') (a : M'.Pairwise apartIf) : M.Pairwise apartIf := by
  obtain ⟨R, h⟩ := h
  exact ((h.pairwise_iff apartIf_symm).1 a).sublist (List.sublist_append_left M R)

theorem SatF.weaken {w0 : World} {B : Nat} {w : World} {M M' : Mem} (h : SatF w0 B w M') (e : Ext M M') : SatF w0 B w M :=
  ⟨h.below, h.room, fun p hp => h.ok p (e.mem hp), e.apart h.apart⟩

/-- the heap and the streams are as they were: only draws -/
structure Quiet (w w' : World) : Prop where
  heap : w'.heap = w.heap
  os : w'.os = w.os
  tape : w'.tape = w.tape
  output : w'.output = w.output

theorem Quiet.refl (w : World) : Quiet w w := ⟨rfl, rfl, rfl, rfl⟩
theorem Quiet.trans {a b c : World} (h : Quiet a b) (k : Quiet b c) : Quiet a c :=
  ⟨k.heap.trans h.heap, k.os.trans h.os, k.tape.trans h.tape, k.output.trans h.output⟩

theorem SatF.quiet {w0 : World} {B : Nat} {w w' : World} {M : Mem} (h : SatF w0 B w M) (q : Quiet w w') : SatF w0 B w' M := by
  obtain ⟨b, r, o, a⟩ := h
  refine ⟨⟨q.os.trans b.os, q.tape.trans b.tape, q.output.trans b.output, by rw [q.heap]; exact b.size, fun k hk => by rw [q.heap]; exact b.block k hk⟩, by rw [q.heap]; exact r, fun p hp => ?_, a⟩
  obtain ⟨c, E, fr, hc, h1, h3⟩ := o p hp
  exact ⟨c, E, fr, by rw [q.heap]; exact hc, h1, h3⟩

/-! ## Slots -/
abbrev Tm := List (Nat × Value)

def get : Tm → Nat → Option Value
  | [], _ => none
  | (j, v) :: l, i => bif Nat.beq i j then some v else get l i

def putT (n : Nat) (d : Option Nat) (v : Value) (T : Tm) : Tm :=
  match d with
  | some d => bif Nat.blt d n then (d, v) :: T else T
  | none => T

structure TRel (n : Nat) (tmps : Array Value) (T : Tm) : Prop where
  size : tmps.size = n
  val : ∀ i v, get T i = some v → nf (tmps.getD i undef) = v

theorem get_cons (j : Nat) (v : Value) (l : Tm) (i : Nat) : get ((j, v) :: l) i = if i = j then some v else get l i := by
  show (bif Nat.beq i j then some v else get l i) = _
  by_cases h : i = j
  · subst h; simp
  · have : Nat.beq i j = false := by
      cases hb : Nat.beq i j
      · rfl
      · exact absurd (Nat.eq_of_beq_eq_true hb) h
    simp [this, h]

theorem TRel.put {n : Nat} {a : Act} {T : Tm} (h : TRel n a.tmps T) (d : Option Nat) (u : Value) : TRel n (a.put d u).tmps (putT n d (nf u) T) := by
  cases d with
  | none => exact h
  | some d =>
    refine ⟨by simp [Act.put, h.size], fun i v hv => ?_⟩
    show nf ((a.tmps.setIfInBounds d u).getD i undef) = v
    unfold putT at hv
    by_cases hd : d < n
    · have hb : Nat.blt d n = true := by simp [Nat.blt_eq, hd]
      simp only [hb, cond_true] at hv
      rw [get_cons] at hv
      by_cases hi : i = d
      · subst hi
        simp only [if_true] at hv
        cases hv
        simp [Array.getD_eq_getD_getElem?, Array.getElem?_setIfInBounds, h.size, hd]
      · rw [if_neg hi] at hv
        have := h.val i v hv
        simpa [Array.getD_eq_getD_getElem?, Array.getElem?_setIfInBounds, Ne.symm hi] using this
    · have hb : Nat.blt d n = false := by
        cases hx : Nat.blt d n
        · rfl
        · exact absurd (by simpa [Nat.blt_eq] using hx) hd
      simp only [hb, cond_false] at hv
      have := h.val i v hv
      have hs : a.tmps.setIfInBounds d u = a.tmps := by
        apply Array.setIfInBounds_eq_of_size_le; rw [h.size]; omega
      rw [hs]; exact this

/-- what an operand reads as -/
def ev (T : Tm) : Operand → Option Value
  | .tmp t => get T t
  | .const c => bif plainC c then some c else none
  | .global g => some (.pointer (some ⟨g, 0, none⟩))
  | .func f => some (.func (.func f) #[] #[])

theorem ev_sound {n : Nat} {a : Act} {T : Tm} (h : TRel n a.tmps T) {x : Operand} {v : Value} (e : ev T x = some v) : nf (a.eval x) = v := by
  cases x with
  | tmp t => exact h.val t v e
  | const c =>
    unfold ev at e
    cases hc : plainC c
    · simp [hc] at e
    · simp [hc] at e; subst e; exact nf_plainC hc
  | «global» g => cases e; rfl
  | func f => cases e; rfl

/-! ## Calls -/
def ACall (P : Program) (f : Nat) (args : List Value) (M : Mem) (R : Value → Mem → Prop) : Prop :=
  ∀ (w0 : World) (B : Nat) (as : Array Value) (w : World), as.toList.map nf = args → SatF w0 B w M →
    Calls P f as w fun e w' => ∃ u M', e = .returned u ∧ SatF w0 B w' M' ∧ R (nf u) M'

theorem ACall.mono {P : Program} {f : Nat} {args : List Value} {M : Mem} {R R' : Value → Mem → Prop} (h : ACall P f args M R) (k : ∀ v M', R v M' → R' v M') : ACall P f args M R' := by
  intro w0 B as w ha hs
  refine (h w0 B as w ha hs).mono ?_
  rintro e w' ⟨u, M', he, hs', hr⟩
  exact ⟨u, M', he, hs', k _ _ hr⟩

/-- a contract over less memory serves over more -/
theorem ACall.ofLess {P : Program} {f : Nat} {args : List Value} {M M' : Mem} {R : Value → Mem → Prop} (h : ACall P f args M R) (e : Ext M M') : ACall P f args M' R :=
  fun w0 B as w ha hs => h w0 B as w ha (hs.weaken e)

/-! ## One operation -/
/-- the operation goes by itself to a value, whatever the draws -/
def Pure1 (P : Program) (o : Oper) (T : Tm) (M : Mem) (v : Value) : Prop :=
  ∀ (n : Nat) (w0 : World) (B : Nat) (a : Act) (w : World), TRel n a.tmps T → SatF w0 B w M →
    ∃ u w', (execOp a.eval o).run P w = .ok (.value u) w' ∧ Quiet w w' ∧ nf u = v

/-- what an operation's run leaves is one of the worlds and values of K -/
def StepRes (P : Program) (w0 : World) (B : Nat) (K : Value → Mem → Prop) : Result Next → Prop
  | .ok (.value u) w' => ∃ M', SatF w0 B w' M' ∧ K (nf u) M'
  | .ok .skip w' => ∃ M', SatF w0 B w' M' ∧ K (nf undef) M'
  | .ok (.enter f args) w' => Calls P f args w' fun e w'' => ∃ u M', e = .returned u ∧ SatF w0 B w'' M' ∧ K (nf u) M'
  | _ => False

def Step (P : Program) (n : Nat) (o : Oper) (T : Tm) (M : Mem) (K : Value → Mem → Prop) : Prop :=
  ∀ (w0 : World) (B : Nat) (a : Act) (w : World), TRel n a.tmps T → SatF w0 B w M → StepRes P w0 B K ((execOp a.eval o).run P w)

theorem StepRes.mono {P : Program} {w0 : World} {B : Nat} {K K' : Value → Mem → Prop} {r : Result Next} (h : StepRes P w0 B K r) (k : ∀ v M', K v M' → K' v M') : StepRes P w0 B K' r := by
  cases r with
  | halt x w => exact h
  | ok x w =>
    cases x <;> try exact h
    · obtain ⟨M', hs, hk⟩ := h; exact ⟨M', hs, k _ _ hk⟩
    · obtain ⟨M', hs, hk⟩ := h; exact ⟨M', hs, k _ _ hk⟩
    · refine Calls.mono h ?_
      rintro e w'' ⟨u, M', he, hs, hk⟩
      exact ⟨u, M', he, hs, k _ _ hk⟩

theorem Step.mono {P : Program} {n : Nat} {o : Oper} {T : Tm} {M : Mem} {K K' : Value → Mem → Prop} (h : Step P n o T M K) (k : ∀ v M', K v M' → K' v M') : Step P n o T M K' :=
  fun w0 B a w ht hs => (h w0 B a w ht hs).mono k

/-- from the abstract step to the model's operation -/
theorem Step.wp {P : Program} {n : Nat} {o : Oper} {T : Tm} {M : Mem} {K : Value → Mem → Prop} (h : Step P n o T M K) {w0 : World} {B : Nat} {a : Act} {w : World} {next : Act → World → Prop} {Q : Exit → Act → World → Prop}
    (ht : TRel n a.tmps T) (hs : SatF w0 B w M) (hn : ∀ u w' M', SatF w0 B w' M' → K (nf u) M' → next (a.put o.dst u) w') : o.wp P a w next Q := by
  have hr := h w0 B a w ht hs
  unfold Oper.wp
  generalize (execOp a.eval o).run P w = r at hr
  cases r with
  | halt x w => exact hr.elim
  | ok x w' =>
    cases x <;> try exact hr.elim
    · obtain ⟨M', hs', hk⟩ := hr; exact hn _ _ _ hs' hk
    · obtain ⟨M', hs', hk⟩ := hr; exact hn _ _ _ hs' hk
    · refine Calls.mono hr ?_
      rintro e w'' ⟨u, M', rfl, hs', hk⟩
      exact hn _ _ _ hs' hk

theorem Pure1.step {P : Program} {n : Nat} {o : Oper} {T : Tm} {M : Mem} {v : Value} {K : Value → Mem → Prop} (h : Pure1 P o T M v) (k : K v M) : Step P n o T M K := by
  intro w0 B a w ht hs
  obtain ⟨u, w', hr, hq, hv⟩ := h n w0 B a w ht hs
  rw [hr]
  exact ⟨M, hs.quiet hq, hv ▸ k⟩

/-- the value of a slot as a truth -/
def asB : Option Value → Option Bool
  | some (.bool b) => some b
  | _ => none

/-- the slot's operation was passed over -/
def isUndef : Option Value → Bool
  | some (.tuple vs) => vs.size == 0
  | _ => false

/-- shall the operation be done? -/
def wantedA (ops : Array Oper) (T : Tm) (o : Oper) : Option Bool :=
  match o.guard with
  | none => some true
  | some (j, want) =>
    match ((ops[j]?).bind (·.dst)) with
    | some d => match asB (get T d) with
      | some b => some (b == want)
      | none => bif isUndef (get T d) then some false else none
    | none => none

def undefV : Value := nf undef

def OpA (P : Program) (n : Nat) (ops : Array Oper) (o : Oper) (T : Tm) (M : Mem) (K : Tm → Mem → Prop) : Prop :=
  (wantedA ops T o = some true ∧ Step P n o T M fun v M' => K (putT n o.dst v T) M') ∨
  (wantedA ops T o = some false ∧ K (putT n o.dst undefV T) M)

def Seq (P : Program) (n : Nat) (ops : Array Oper) (Q : Tm → Mem → Prop) : List Oper → Tm → Mem → Prop
  | [], T, M => Q T M
  | o :: l, T, M => OpA P n ops o T M (Seq P n ops Q l)

/-! ## From the abstract steps to the model's -/
theorem nf_bool {v : Value} {b : Bool} (h : nf v = .bool b) : v = .bool b := by
  cases v <;> simp_all [nf, nfA, nfS]

theorem nf_undef {v : Value} {vs : Array Value} (h : nf v = .tuple vs) (hs : (vs.size == 0) = true) : v = .tuple #[] := by
  cases v <;> simp [nf, nfA, nfS] at h
  rename_i us
  have hs' : vs.size = 0 := eq_of_beq hs
  have : us.size = 0 := by
    have h2 := congrArg Array.size h
    rw [Array.size_map] at h2
    omega
  simp at this
  rw [this]

theorem wanted_of {n : Nat} {a : Act} {T : Tm} {ops : Array Oper} {o : Oper} {b : Bool} (ht : TRel n a.tmps T) (h : wantedA ops T o = some b) : Region.wanted o (yielded ops a.tmps) = b := by
  unfold wantedA at h
  unfold Region.wanted
  split at h
  · rename_i hg; rw [hg]; simpa using h
  · rename_i j want hg
    rw [hg]
    split at h
    · rename_i d hd
      split at h
      · rename_i x hx
        have hx' : get T d = some (.bool x) := by
          unfold asB at hx; split at hx <;> simp_all
        have hv := nf_bool (ht.val d _ hx')
        have hy : yielded ops a.tmps j = some x := by
          unfold yielded
          rw [hd]
          have : a.tmps[d]? = some (.bool x) := by
            rw [Array.getD_eq_getD_getElem?] at hv
            cases hq : a.tmps[d]? with
            | none => rw [hq] at hv; simp [undef] at hv
            | some y => rw [hq] at hv; simp at hv; rw [hv]
          simp [this]
        simp only [hy]
        cases h
        cases x <;> cases want <;> rfl
      · cases hu : isUndef (get T d)
        · rw [hu] at h; cases h
        · rw [hu] at h
          cases h
          have hy : yielded ops a.tmps j = none := by
            unfold isUndef at hu
            split at hu
            · rename_i vs hvs
              have hv := nf_undef (ht.val d _ hvs) hu
              unfold yielded
              rw [hd]
              rw [Array.getD_eq_getD_getElem?] at hv
              cases hq : a.tmps[d]? with
              | none => simp [hq]
              | some y => rw [hq] at hv; simp at hv; simp [hq, hv]
            · cases hu
          simp only [hy]
          rfl
    · cases h

/-- what a piece of code leaves, said of the model -/
def Lift (w0 : World) (B n : Nat) (Q : Exit → Tm → Mem → Prop) : Exit → Act → World → Prop :=
  fun e a w => a.defers = [] ∧ ∃ T M, TRel n a.tmps T ∧ SatF w0 B w M ∧ Q e T M

theorem put_defers (a : Act) (d : Option Nat) (u : Value) : (a.put d u).defers = a.defers := by cases d <;> rfl

theorem seq_sound {P : Program} {n : Nat} {ops : Array Oper} {Q : Exit → Tm → Mem → Prop} {w0 : World} {B : Nat} :
    ∀ (l : List Oper) (T : Tm) (M : Mem), Seq P n ops (fun T M => Q .normal T M) l T M → ∀ (a : Act) (w : World), a.defers = [] → TRel n a.tmps T → SatF w0 B w M →
      wpList P ops (Lift w0 B n Q) l a w := by
  intro l
  induction l with
  | nil => intro T M h a w hd ht hs; exact ⟨hd, T, M, ht, hs, h⟩
  | cons o l ih =>
    intro T M h a w hd ht hs
    unfold wpList
    rcases h with ⟨hw, hst⟩ | ⟨hw, hk⟩
    · rw [wanted_of ht hw, if_pos rfl]
      refine .inl (hst.wp ht hs fun u w' M' hs' hk => ?_)
      exact ih _ _ hk _ _ (by rw [put_defers]; exact hd) (ht.put _ _) hs'
    · rw [wanted_of ht hw, if_neg (by simp)]
      exact ih _ _ hk _ _ (by rw [put_defers]; exact hd) (ht.put _ _) hs

/-! ## Code -/
def AWp (P : Program) (n : Nat) (c : Code) (Q : Exit → Tm → Mem → Prop) (T : Tm) (M : Mem) : Prop :=
  ∀ (w0 : World) (B : Nat) (a : Act) (w : World), a.defers = [] → TRel n a.tmps T → SatF w0 B w M → c.wp P (Lift w0 B n Q) a w

theorem Lift.mono {w0 : World} {B n : Nat} {Q Q' : Exit → Tm → Mem → Prop} (h : ∀ e T M, Q e T M → Q' e T M) {e : Exit} {a : Act} {w : World} (hl : Lift w0 B n Q e a w) : Lift w0 B n Q' e a w := by
  obtain ⟨hd, T, M, ht, hs, hq⟩ := hl
  exact ⟨hd, T, M, ht, hs, h _ _ _ hq⟩

theorem AWp.mono {P : Program} {n : Nat} {c : Code} {Q Q' : Exit → Tm → Mem → Prop} {T : Tm} {M : Mem} (h : AWp P n c Q T M) (k : ∀ e T M, Q e T M → Q' e T M) : AWp P n c Q' T M :=
  fun w0 B a w hd ht hs => wp_mono (h w0 B a w hd ht hs) fun _ _ _ hl => hl.mono k

/-- T says no more than T' -/
def Sub (T T' : Tm) : Prop := ∀ i v, get T i = some v → get T' i = some v

theorem Sub.nil (T' : Tm) : Sub [] T' := fun i v h => by cases h
theorem Sub.cons {j : Nat} {v : Value} {T T' : Tm} (hv : get T' j = some v) (h : Sub T T') : Sub ((j, v) :: T) T' := by
  intro i u hu
  rw [get_cons] at hu
  by_cases e : i = j
  · subst e; simp only [if_true] at hu; cases hu; exact hv
  · rw [if_neg e] at hu; exact h i u hu
theorem Sub.refl (T : Tm) : Sub T T := fun _ _ h => h

theorem TRel.sub {n : Nat} {tmps : Array Value} {T T' : Tm} (h : TRel n tmps T') (s : Sub T T') : TRel n tmps T :=
  ⟨h.size, fun i v hv => h.val i v (s i v hv)⟩

/-- less may be said of the slots and of the memory -/
theorem AWp.less {P : Program} {n : Nat} {c : Code} {Q : Exit → Tm → Mem → Prop} {T T' : Tm} {M M' : Mem} (h : AWp P n c Q T M) (s : Sub T T') (e : Ext M M') : AWp P n c Q T' M' :=
  fun w0 B a w hd ht hs => h w0 B a w hd (ht.sub s) (hs.weaken e)

theorem Seq.less {P : Program} {n : Nat} {ops : Array Oper} {Q : Tm → Mem → Prop} (hq : ∀ T M T' M', Q T M → Sub T T' → Ext M M' → Q T' M') : ∀ {l : List Oper} {T T' : Tm} {M M' : Mem}, l = [] → Seq P n ops Q l T M → Sub T T' → Ext M M' → Seq P n ops Q l T' M' := by
  intro l T T' M M' hl h s e
  subst hl
  exact hq _ _ _ _ h s e

section rules
variable {P : Program} {n : Nat} {Q : Exit → Tm → Mem → Prop} {T : Tm} {M : Mem}

theorem awp_skip (h : Q .normal T M) : AWp P n .skip Q T M :=
  fun w0 B a w hd ht hs => wp_skip ⟨hd, T, M, ht, hs, h⟩

theorem awp_exit {id : Nat} (h : Q (.exit id) T M) : AWp P n (.exit id) Q T M :=
  fun w0 B a w hd ht hs => wp_exit ⟨hd, T, M, ht, hs, h⟩

theorem awp_ret (h : Q .ret T M) : AWp P n .ret Q T M :=
  fun w0 B a w hd ht hs => wp_ret ⟨hd, T, M, ht, hs, h⟩

/-- behind a piece of code: the next one, or what leaves -/
def Then (K : Tm → Mem → Prop) (Q : Exit → Tm → Mem → Prop) : Exit → Tm → Mem → Prop
  | .normal => K
  | e => Q e

theorem awp_seq {x y : Code} (h : AWp P n x (Then (AWp P n y Q) Q) T M) : AWp P n (.seq x y) Q T M := by
  intro w0 B a w hd ht hs
  refine wp_seq (wp_mono (h w0 B a w hd ht hs) ?_)
  rintro e a' w' ⟨hd', T', M', ht', hs', hq⟩
  cases e with
  | normal => exact hq w0 B a' w' hd' ht' hs'
  | exit id => exact ⟨hd', T', M', ht', hs', hq⟩
  | goto l => exact ⟨hd', T', M', ht', hs', hq⟩
  | ret => exact ⟨hd', T', M', ht', hs', hq⟩
  | panic c => exact ⟨hd', T', M', ht', hs', hq⟩
  | outgrown => exact ⟨hd', T', M', ht', hs', hq⟩

/-- the same, the rest behind a name -/
theorem awp_seq_k {x y : Code} (h : ∀ K : Tm → Mem → Prop, (∀ T M, AWp P n y Q T M → K T M) → AWp P n x (Then K Q) T M) : AWp P n (.seq x y) Q T M :=
  awp_seq (h _ fun _ _ k => k)

theorem awp_cond {c : Operand} {x y : Code} {t : Bool} (hc : ev T c = some (.bool t)) (h1 : t = true → AWp P n x Q T M) (h2 : t = false → AWp P n y Q T M) : AWp P n (.cond c x y) Q T M := by
  intro w0 B a w hd ht hs
  have e := nf_bool (ev_sound ht hc)
  cases t with
  | true => exact wp_cond_true e (h1 rfl w0 B a w hd ht hs)
  | false => exact wp_cond_false e (h2 rfl w0 B a w hd ht hs)

theorem awp_cond_true {c : Operand} {x y : Code} (hc : ev T c = some (.bool true)) (h1 : AWp P n x Q T M) : AWp P n (.cond c x y) Q T M :=
  awp_cond hc (fun _ => h1) (fun h => by cases h)
theorem awp_cond_false {c : Operand} {x y : Code} (hc : ev T c = some (.bool false)) (h1 : AWp P n y Q T M) : AWp P n (.cond c x y) Q T M :=
  awp_cond hc (fun h => by cases h) (fun _ => h1)

def InBlock (id : Nat) (Q : Exit → Tm → Mem → Prop) : Exit → Tm → Mem → Prop
  | .exit j => if j = id then Q .normal else Q (.exit j)
  | e => Q e

theorem awp_block {id : Nat} {c : Code} (h : AWp P n c (InBlock id Q) T M) : AWp P n (.block id c) Q T M := by
  intro w0 B a w hd ht hs
  refine wp_block (wp_mono (h w0 B a w hd ht hs) ?_)
  rintro e a' w' ⟨hd', T', M', ht', hs', hq⟩
  cases e with
  | exit j =>
    by_cases hj : j = id
    · have hq' : Q .normal T' M' := by simpa [InBlock, hj] using hq
      show if j = id then Lift w0 B n Q .normal a' w' else Lift w0 B n Q (.exit j) a' w'
      rw [if_pos hj]; exact ⟨hd', T', M', ht', hs', hq'⟩
    · have hq' : Q (.exit j) T' M' := by simpa [InBlock, hj] using hq
      show if j = id then Lift w0 B n Q .normal a' w' else Lift w0 B n Q (.exit j) a' w'
      rw [if_neg hj]; exact ⟨hd', T', M', ht', hs', hq'⟩
  | normal => exact ⟨hd', T', M', ht', hs', hq⟩
  | goto l => exact ⟨hd', T', M', ht', hs', hq⟩
  | ret => exact ⟨hd', T', M', ht', hs', hq⟩
  | panic c => exact ⟨hd', T', M', ht', hs', hq⟩
  | outgrown => exact ⟨hd', T', M', ht', hs', hq⟩

/-- a loop: a relation with a measure; a round that ends goes on with a smaller one -/
theorem awp_loop {c : Code} (I : Nat → Tm → Mem → Prop) (m0 : Nat) (h0 : I m0 T M)
    (h : ∀ m T M, I m T M → AWp P n c (fun e T' M' => match e with
      | .normal => ∃ m' T'' M'', m' < m ∧ I m' T'' M'' ∧ Sub T'' T' ∧ Ext M'' M'
      | e => Q e T' M') T M) : AWp P n (.loop c) Q T M := by
  intro w0 B a w hd ht hs
  refine wp_loop_rounds (m0 + 1) ?_
  have key : ∀ k m, m < k → ∀ T M, I m T M → ∀ a w, a.defers = [] → TRel n a.tmps T → SatF w0 B w M → Code.rounds P c (Lift w0 B n Q) k a w := by
    intro k
    induction k with
    | zero => intro m hm; omega
    | succ k ih =>
      intro m hm T M hi a w hd ht hs
      rw [rounds_succ]
      refine wp_mono (h m T M hi w0 B a w hd ht hs) ?_
      rintro e a' w' ⟨hd', T', M', ht', hs', hq⟩
      cases e with
      | normal =>
        obtain ⟨m', T'', M'', hlt, hi', s, x⟩ := hq
        exact ih m' (by omega) T'' M'' hi' a' w' hd' (ht'.sub s) (hs'.weaken x)
      | exit j => exact ⟨hd', T', M', ht', hs', hq⟩
      | goto l => exact ⟨hd', T', M', ht', hs', hq⟩
      | ret => exact ⟨hd', T', M', ht', hs', hq⟩
      | panic c => exact ⟨hd', T', M', ht', hs', hq⟩
      | outgrown => exact ⟨hd', T', M', ht', hs', hq⟩
  exact key (m0 + 1) m0 (by omega) T M h0 a w hd ht hs

theorem awp_region {id : Nat} {l : List Oper} (h : Seq P n l.toArray (fun T M => Q .normal T M) l T M) : AWp P n (.region id l.toArray false) Q T M :=
  fun w0 B a w hd ht hs => wp_region_lit (seq_sound l T M h a w hd ht hs)
end rules

/-! ## A region that draws its order -/
/-- may the operation change what was there? -/
def writer : Op → Bool
  | .store .. | .mapUpdate .. | .insert .. | .mapEntry .. | .entryStore .. => true
  | .call { callee := .builtin .append, .. } | .call { callee := .builtin .copy, .. } | .call { callee := .builtin .clear, .. } | .call { callee := .builtin .delete, .. } => true
  | _ => false

/-- the slot is one of those whose operation is promised to keep what is there -/
def keptD (ks : List Nat) : Option Nat → Bool
  | some d => ks.contains d
  | none => false
def unkD (ks : List Nat) : Option Nat → Bool
  | some d => ks.contains (d + 1000000)
  | none => false
/-- does the operation keep what is there? (a call may be marked as one that does not) -/
def keeps (ks : List Nat) (o : Oper) : Bool := (!writer o.op && !unkD ks o.dst) || keptD ks o.dst

def AnyA (P : Program) (n : Nat) (ops : Array Oper) (ks : List Nat) (Q : Tm → Mem → Prop) : Nat → Array Bool → Tm → Mem → Prop
  | 0, listed, T, M => Region.ready .any ops listed = [] ∧ Q T M
  | f + 1, listed, T, M => (Region.ready .any ops listed = [] → Q T M) ∧
    ∀ i ∈ Region.ready .any ops listed, ∃ o, ops[i]? = some o ∧
      OpA P n ops o T M fun T' M' => (keeps ks o = true → Ext M M') ∧ AnyA P n ops ks Q f (listed.setIfInBounds i true) T' M'

theorem OpA.mono {P : Program} {n : Nat} {ops : Array Oper} {o : Oper} {T : Tm} {M : Mem} {K K' : Tm → Mem → Prop} (h : OpA P n ops o T M K) (k : ∀ T' M', K T' M' → K' T' M') : OpA P n ops o T M K' := by
  rcases h with ⟨h1, h2⟩ | ⟨h1, h2⟩
  · exact .inl ⟨h1, h2.mono fun _ _ h => k _ _ h⟩
  · exact .inr ⟨h1, k _ _ h2⟩

theorem any_sound {P : Program} {n : Nat} {ops : Array Oper} {ks : List Nat} {Q : Exit → Tm → Mem → Prop} {w0 : World} {B : Nat} :
    ∀ (f : Nat) (listed : Array Bool) (T : Tm) (M : Mem), AnyA P n ops ks (fun T M => Q .normal T M) f listed T M → ∀ (a : Act) (w : World), a.defers = [] → TRel n a.tmps T → SatF w0 B w M →
      wpAny P .any ops (Lift w0 B n Q) f listed a w := by
  intro f
  induction f with
  | zero => intro listed T M h a w hd ht hs; exact ⟨h.1, hd, T, M, ht, hs, h.2⟩
  | succ f ih =>
    intro listed T M h a w hd ht hs
    refine ⟨fun h0 => ⟨hd, T, M, ht, hs, h.1 h0⟩, fun i hi => ?_⟩
    obtain ⟨o, ho, hop⟩ := h.2 i hi
    unfold wpOp
    simp only [ho]
    rcases hop with ⟨hw, hst⟩ | ⟨hw, hk⟩
    · rw [wanted_of ht hw, if_pos rfl]
      exact .inl (hst.wp ht hs fun u w' M' hs' hk => ih _ _ _ hk.2 _ _ (by rw [put_defers]; exact hd) (ht.put _ _) hs')
    · rw [wanted_of ht hw, if_neg (by simp)]
      exact ih _ _ _ hk.2 _ _ (by rw [put_defers]; exact hd) (ht.put _ _) hs

theorem awp_region_any {P : Program} {n : Nat} {ks : List Nat} {Q : Exit → Tm → Mem → Prop} {T : Tm} {M : Mem} {id : Nat} {ops : Array Oper} (hm : P.follows .mixedOrders = true)
    (h : AnyA P n ops ks (fun T M => Q .normal T M) ops.size (Array.replicate ops.size false) T M) : AWp P n (.region id ops true) Q T M := by
  intro w0 B a w hd ht hs
  refine wp_region_any hm (any_sound _ _ T M h a _ hd ht (hs.quiet ⟨rfl, rfl, rfl, rfl⟩))

/-- an operation that goes by itself to a value, whatever is done besides -/
def Tame (P : Program) (o : Oper) (T : Tm) (M : Mem) (v : Value) : Prop :=
  ∀ T' M', (∀ t, (Operand.tmp t) ∈ o.op.operands → get T' t = get T t) → Ext M M' → Pure1 P o T' M' v

theorem get_put_ne {n : Nat} {d : Option Nat} {v : Value} {T : Tm} {i : Nat} (h : ∀ e, d = some e → i ≠ e) : get (putT n d v T) i = get T i := by
  cases d with
  | none => rfl
  | some d =>
    unfold putT
    cases hb : Nat.blt d n
    · simp only [hb, cond_false]
    · simp only [hb, cond_true]; rw [get_cons, if_neg (h d rfl)]

theorem Tame.keep {P : Program} {o : Oper} {T : Tm} {M : Mem} {v : Value} (h : Tame P o T M v) {n : Nat} {d : Option Nat} {u : Value} {M' : Mem} {ops : Array Oper} (hd : ∀ e, d = some e → e ∉ o.looksAt ops) (he : Ext M M') : Tame P o (putT n d u T) M' v := by
  intro T' M'' h1 h2
  refine h T' M'' (fun t ht => ?_) (he.trans h2)
  rw [h1 t ht, get_put_ne]
  intro e hde hte
  subst hte
  exact hd t hde (by simp only [Oper.looksAt, List.mem_append]; left; rw [List.mem_filterMap]; exact ⟨_, by simpa using ht, rfl⟩)

/-- a step does not ask for a slot that it does not look at -/
theorem Step.frame {P : Program} {n : Nat} {o : Oper} {T : Tm} {M : Mem} {K : Value → Mem → Prop} {d : Option Nat} {v : Value} {ops : Array Oper} (h : Step P n o (putT n d v T) M K)
    (hc : ∀ (n : Nat) (w0 : World) (B : Nat) (a : Act) (w : World), TRel n a.tmps T → SatF w0 B w M → ∃ c, nf c = v) (hsel : ∀ cs b, o.op ≠ .select cs b) (hd : ∀ e, d = some e → e ∉ o.looksAt ops) : Step P n o T M K := by
  intro w0 B a w ht hs
  obtain ⟨c, hcv⟩ := hc n w0 B a w ht hs
  have h1 := h w0 B (a.put d c) w (by rw [← hcv]; exact ht.put d c) hs
  rwa [execOp_put (ops := ops) o hsel a d c hd] at h1

/-- two states of the slots that agree -/
def Agree (T T' : Tm) : Prop := ∀ i, get T i = get T' i

theorem TRel.agree {n : Nat} {tmps : Array Value} {T T' : Tm} (h : TRel n tmps T) (g : Agree T T') : TRel n tmps T' :=
  ⟨h.size, fun i v hv => h.val i v (by rw [g i]; exact hv)⟩

theorem Agree.symm {T T' : Tm} (h : Agree T T') : Agree T' T := fun i => (h i).symm

theorem Step.agree {P : Program} {n : Nat} {o : Oper} {T T' : Tm} {M : Mem} {K : Value → Mem → Prop} (h : Step P n o T M K) (g : Agree T T') : Step P n o T' M K :=
  fun w0 B a w ht hs => h w0 B a w (ht.agree g.symm) hs

theorem Agree.put {T T' : Tm} (g : Agree T T') (n : Nat) (d : Option Nat) (v : Value) : Agree (putT n d v T) (putT n d v T') := by
  intro i
  cases d with
  | none => exact g i
  | some d =>
    unfold putT
    cases hb : Nat.blt d n
    · simp only [hb, cond_false]; exact g i
    · simp only [hb, cond_true]; rw [get_cons, get_cons, g i]

theorem Agree.comm {n : Nat} {d e : Option Nat} (h : ∀ x, d = some x → e ≠ some x) (u v : Value) (T : Tm) : Agree (putT n d u (putT n e v T)) (putT n e v (putT n d u T)) := by
  intro i
  cases d with
  | none => rfl
  | some d =>
    cases e with
    | none => rfl
    | some e =>
      have hne : d ≠ e := fun x => h d rfl (by rw [x])
      unfold putT
      cases hb : Nat.blt d n <;> cases hb' : Nat.blt e n <;> simp only [hb, hb', cond_true, cond_false]
      rw [get_cons, get_cons, get_cons, get_cons]
      by_cases h1 : i = d
      · subst h1; simp [hne]
      · simp [h1]

theorem wantedA_agree {ops : Array Oper} {o : Oper} {T T' : Tm} (g : Agree T T') : wantedA ops T' o = wantedA ops T o := by
  unfold wantedA
  split
  · rfl
  · split
    · rw [g]
    · rfl

theorem wantedA_put {ops : Array Oper} {o : Oper} {T : Tm} {n : Nat} {d : Option Nat} {v : Value} (hd : ∀ e, d = some e → e ∉ o.looksAt ops) : wantedA ops (putT n d v T) o = wantedA ops T o := by
  unfold wantedA
  split
  · rfl
  · rename_i j want hg
    split
    · rename_i e he
      rw [get_put_ne]
      intro x hx hex
      subst hex
      exact hd e hx (by simp [Oper.looksAt, hg, he])
    · rfl

def QAgree (Q : Tm → Mem → Prop) : Prop := ∀ T T' M, Agree T T' → Q T M → Q T' M

theorem any_agree {P : Program} {n : Nat} {ops : Array Oper} {ks : List Nat} {Q : Tm → Mem → Prop} (hQ : QAgree Q) : ∀ (f : Nat) (listed : Array Bool) (T T' : Tm) (M : Mem), Agree T T' → AnyA P n ops ks Q f listed T M → AnyA P n ops ks Q f listed T' M := by
  intro f
  induction f with
  | zero => intro listed T T' M g h; exact ⟨h.1, hQ _ _ _ g h.2⟩
  | succ f ih =>
    intro listed T T' M g h
    refine ⟨fun h0 => hQ _ _ _ g (h.1 h0), fun i hi => ?_⟩
    obtain ⟨o, ho, hop⟩ := h.2 i hi
    refine ⟨o, ho, ?_⟩
    rcases hop with ⟨hw, hst⟩ | ⟨hw, hk⟩
    · exact .inl ⟨by rw [wantedA_agree g]; exact hw, (hst.agree g).mono fun v M' hk => ⟨hk.1, ih _ _ _ _ (g.put n o.dst v) hk.2⟩⟩
    · exact .inr ⟨by rw [wantedA_agree g]; exact hw, hk.1, ih _ _ _ _ (g.put n o.dst _) hk.2⟩

/-- the operation, drawn ahead, gives v: it is to be done and goes by itself, or it is to be passed over -/
def HoistOk (P : Program) (ops : Array Oper) (o : Oper) (T : Tm) (M : Mem) (v : Value) : Prop :=
  (wantedA ops T o = some true ∧ Tame P o T M v) ∨ (wantedA ops T o = some false ∧ v = undefV)

theorem HoistOk.keep {P : Program} {ops : Array Oper} {o : Oper} {T : Tm} {M : Mem} {v : Value} (h : HoistOk P ops o T M v) {n : Nat} {d : Option Nat} {u : Value} {M' : Mem} (hd : ∀ e, d = some e → e ∉ o.looksAt ops) (he : Ext M M') : HoistOk P ops o (putT n d u T) M' v := by
  rcases h with ⟨h1, h2⟩ | ⟨h1, h2⟩
  · exact .inl ⟨by rw [wantedA_put hd]; exact h1, h2.keep hd he⟩
  · exact .inr ⟨by rw [wantedA_put hd]; exact h1, h2⟩

/-- there is a value of that kind -/
theorem HoistOk.some {P : Program} {ops : Array Oper} {o : Oper} {T : Tm} {M : Mem} {v : Value} (h : HoistOk P ops o T M v) : ∀ (n : Nat) (w0 : World) (B : Nat) (a : Act) (w : World), TRel n a.tmps T → SatF w0 B w M → ∃ c, nf c = v := by
  intro n w0 B a w ht hs
  rcases h with ⟨h1, h2⟩ | ⟨h1, h2⟩
  · obtain ⟨u, _, _, _, hu⟩ := h2 T M (fun _ _ => rfl) (Ext.refl M) n w0 B a w ht hs
    exact ⟨u, hu⟩
  · exact ⟨undef, h2.symm⟩

theorem HoistOk.op {P : Program} {n : Nat} {ops : Array Oper} {o : Oper} {T : Tm} {M : Mem} {v : Value} {K : Tm → Mem → Prop} (h : HoistOk P ops o T M v) (k : K (putT n o.dst v T) M) : OpA P n ops o T M K := by
  rcases h with ⟨h1, h2⟩ | ⟨h1, h2⟩
  · exact .inl ⟨h1, (h2 T M (fun _ _ => rfl) (Ext.refl M)).step k⟩
  · subst h2; exact .inr ⟨h1, k⟩

/-- no operation that may write is ready before i is done -/
def Guarded (ops : Array Oper) (ks : List Nat) (i : Nat) (good : Array Bool → Prop) : Prop :=
  ∀ listed j o, good listed → listed.getD i true = false → j ∈ Region.ready .any ops listed → ops[j]? = some o → j ≠ i → keeps ks o = true

theorem any_hoist {P : Program} {n : Nat} {ops : Array Oper} {ks : List Nat} {Q : Tm → Mem → Prop} (hQ : QAgree Q) {i : Nat} {oi : Oper} {v : Value} (hi : ops[i]? = some oi)
    (hsel : Region.noSelect ops = true) (good : Array Bool → Prop) (hgood : ∀ listed j, good listed → j ∈ Region.ready .any ops listed → good (listed.setIfInBounds j true)) :
    ∀ (f : Nat) (listed : Array Bool) (T : Tm) (M : Mem), good listed →
      (∀ j oj, ops[j]? = some oj → j ≠ i → listed.getD j true = false → (∀ e ∈ oj.after, Region.binds .any e = true → e.on ≠ i) → oi.apart ops oj = true) →
      i ∈ Region.ready .any ops listed → (Guarded ops ks i good ∨ ∀ M', HoistOk P ops oi T M' v) → HoistOk P ops oi T M v →
      AnyA P n ops ks Q f (listed.setIfInBounds i true) (putT n oi.dst v T) M → AnyA P n ops ks Q (f + 1) listed T M := by
  intro f
  have hself : ∀ (f : Nat) (listed : Array Bool) (T : Tm) (M : Mem), HoistOk P ops oi T M v → AnyA P n ops ks Q f (listed.setIfInBounds i true) (putT n oi.dst v T) M →
      ∃ o, ops[i]? = some o ∧ OpA P n ops o T M fun T' M' => (keeps ks o = true → Ext M M') ∧ AnyA P n ops ks Q f (listed.setIfInBounds i true) T' M' := by
    intro f listed T M hy H
    exact ⟨oi, hi, hy.op ⟨fun _ => Ext.refl M, H⟩⟩
  induction f with
  | zero =>
    intro listed T M hgd hfree hr hwr hy H
    refine ⟨fun h => (by rw [h] at hr; cases hr), fun j hj => ?_⟩
    by_cases hji : j = i
    · subst hji; exact hself 0 listed T M hy H
    · have := ready_mono hj hji
      rw [H.1] at this
      cases this
  | succ f ih =>
    intro listed T M hgd hfree hr hwr hy H
    refine ⟨fun h => (by rw [h] at hr; cases hr), fun j hj => ?_⟩
    by_cases hji : j = i
    · subst hji; exact hself (f + 1) listed T M hy H
    · obtain ⟨o, ho, hop⟩ := H.2 j (ready_mono hj hji)
      obtain ⟨hjun, oj, hoj, hall⟩ := mem_ready.1 hj
      obtain rfl : o = oj := by rw [ho] at hoj; exact Option.some.inj hoj
      have hnot : ∀ e ∈ o.after, Region.binds .any e = true → e.on ≠ i := fun e he hb heq => by
        have h1 := hall e he hb
        have h0 := (mem_ready.1 hr).1
        rw [heq] at h1
        rcases Nat.lt_or_ge i listed.size with h' | h'
        · simp [h'] at h0 h1; rw [h0] at h1; cases h1
        · simp [Array.getElem?_eq_none h'] at h1
      have hap := Oper.apart_spec (hfree j o ho hji hjun hnot)
      have hfree' : ∀ k ok, ops[k]? = some ok → k ≠ i → (listed.setIfInBounds j true).getD k true = false →
          (∀ e ∈ ok.after, Region.binds .any e = true → e.on ≠ i) → oi.apart ops ok = true := fun k ok hk hki hun hno => by
        refine hfree k ok hk hki ?_ hno
        by_cases hjk : j = k
        · subst hjk; exact hjun
        · rw [getD_set_ne true hjk] at hun; exact hun
      have hcomm : ∀ x, o.dst = some x → oi.dst ≠ some x := fun x hx hxi => hap.2.1 x hxi hx
      have step : ∀ (M' : Mem), (keeps ks o = true → Ext M M') → ∀ u, AnyA P n ops ks Q f ((listed.setIfInBounds i true).setIfInBounds j true) (putT n o.dst u (putT n oi.dst v T)) M' →
          AnyA P n ops ks Q (f + 1) (listed.setIfInBounds j true) (putT n o.dst u T) M' := by
        intro M' hx u h3
        have hh : (Guarded ops ks i good ∨ ∀ M'', HoistOk P ops oi (putT n o.dst u T) M'' v) ∧ HoistOk P ops oi (putT n o.dst u T) M' v := by
          rcases hwr with hwr | hwr
          · exact ⟨.inl hwr, hy.keep hap.2.2 (hx (hwr listed j o hgd (mem_ready.1 hr).1 hj ho hji))⟩
          · exact ⟨.inr fun M'' => (hwr M'').keep hap.2.2 (Ext.refl M''), (hwr M').keep hap.2.2 (Ext.refl M')⟩
        refine ih (listed.setIfInBounds j true) _ M' (hgood _ _ hgd hj) hfree' (ready_mono hr (Ne.symm hji)) hh.1 hh.2 ?_
        rw [Array.setIfInBounds_comm _ _ hji]
        exact any_agree hQ _ _ _ _ _ (Agree.comm hcomm _ _ _) h3
      refine ⟨o, ho, ?_⟩
      rcases hop with ⟨hw, hst⟩ | ⟨hw, hk⟩
      · rw [wantedA_put hap.1] at hw
        refine .inl ⟨hw, ((hst.frame hy.some (fun cs b => Region.noSelect_spec hsel j o cs b ho) hap.1).mono fun u M' hk => ⟨hk.1, step M' hk.1 u hk.2⟩)⟩
      · rw [wantedA_put hap.1] at hw
        exact .inr ⟨hw, fun _ => Ext.refl M, step M (fun _ => Ext.refl M) _ hk.2⟩

/-! ## Regions run in an order of ours -/
def preds (ops : Array Oper) (j : Nat) : List Nat :=
  match ops[j]? with
  | some o => (o.after.toList.filter fun e => Region.binds .any e).map (·.on)
  | none => []

def growS (ops : Array Oper) (s : List Nat) : List Nat := s ++ (s.flatMap (preds ops)).filter fun x => !s.contains x

def closeS (ops : Array Oper) : Nat → List Nat → List Nat
  | 0, s => s
  | f + 1, s => closeS ops f (growS ops s).eraseDups

/-- the list of what is done holds, with each, all that stands before it -/
def Closed (ops : Array Oper) (listed : Array Bool) : Prop := ∀ j, listed.getD j false = true → ∀ i ∈ preds ops j, listed.getD i false = true

theorem mem_preds {ops : Array Oper} {j i : Nat} : i ∈ preds ops j ↔ ∃ o, ops[j]? = some o ∧ ∃ e ∈ o.after, Region.binds .any e = true ∧ e.on = i := by
  unfold preds
  cases h : ops[j]? with
  | none => simp
  | some o => simp [List.mem_map, List.mem_filter, and_assoc]

theorem Closed.close {ops : Array Oper} {listed : Array Bool} (hc : Closed ops listed) : ∀ (f : Nat) (s : List Nat), (∀ x ∈ s, listed.getD x false = true) → ∀ x ∈ closeS ops f s, listed.getD x false = true := by
  intro f
  induction f with
  | zero => intro s h; exact h
  | succ f ih =>
    intro s h
    refine ih _ fun x hx => ?_
    rw [List.mem_eraseDups] at hx
    simp only [growS, List.mem_append, List.mem_filter, List.mem_flatMap] at hx
    rcases hx with hx | ⟨⟨y, hy, hxy⟩, _⟩
    · exact h x hx
    · exact hc y (h y hy) x hxy

theorem Closed.set {ops : Array Oper} {listed : Array Bool} (hc : Closed ops listed) {j : Nat} (hj : j ∈ Region.ready .any ops listed) : Closed ops (listed.setIfInBounds j true) := by
  intro k hk i hi
  refine getD_set_true ?_
  by_cases hjk : j = k
  · subst hjk
    obtain ⟨_, o, ho, hall⟩ := mem_ready.1 hj
    obtain ⟨o', ho', e, he, hb, hei⟩ := mem_preds.1 hi
    rw [ho] at ho'; cases ho'
    rw [← hei]; exact hall e he hb
  · rw [getD_set_ne false hjk] at hk; exact hc k hk i hi

/-- each operation that may write stands behind i -/
def guardChk (ops : Array Oper) (ks : List Nat) (i : Nat) : Bool :=
  (List.range ops.size).all fun j => j == i || match ops[j]? with
    | some o => keeps ks o || (closeS ops 12 (preds ops j)).contains i
    | none => true

theorem guarded_of {ops : Array Oper} {ks : List Nat} {i : Nat} (h : guardChk ops ks i = true) : Guarded ops ks i (Closed ops) := by
  intro listed j o hc hun hj ho hji
  cases hw : keeps ks o
  · exfalso
    simp only [guardChk, List.all_eq_true, List.mem_range] at h
    have h1 := h j (Array.getElem?_eq_some_iff.1 ho).1
    simp only [ho, Bool.or_eq_true, beq_iff_eq, hji, false_or, hw, Bool.false_eq_true, List.contains_eq_mem, decide_eq_true_eq] at h1
    have h2 := hc.close 12 (preds ops j) (fun x hx => by
      obtain ⟨_, o', ho', hall⟩ := mem_ready.1 hj
      obtain ⟨o2, ho2, e, he, hb, hex⟩ := mem_preds.1 hx
      rw [ho'] at ho2; cases ho2
      rw [← hex]; exact hall e he hb) i h1
    rcases Nat.lt_or_ge i listed.size with h' | h'
    · simp [h'] at hun h2; rw [hun] at h2; cases h2
    · simp [Array.getElem?_eq_none h'] at h2
  · rfl

/-- the same, or the operation that may write is done already -/
def guardChkL (ops : Array Oper) (ks : List Nat) (i : Nat) (listed : Array Bool) : Bool :=
  (List.range ops.size).all fun j => j == i || listed.getD j false || match ops[j]? with
    | some o => keeps ks o || (closeS ops 12 (preds ops j)).contains i
    | none => true

theorem guarded_ofL {ops : Array Oper} {ks : List Nat} {i : Nat} {L : Array Bool} (h : guardChkL ops ks i L = true) : Guarded ops ks i (fun l => Closed ops l ∧ ∀ j, L.getD j false = true → l.getD j false = true) := by
  intro listed j o hc hun hj ho hji
  obtain ⟨hc, hL⟩ := hc
  cases hw : keeps ks o
  · exfalso
    cases hLj : L.getD j false
    · simp only [guardChkL, List.all_eq_true, List.mem_range] at h
      have h1 := h j (Array.getElem?_eq_some_iff.1 ho).1
      simp only [ho, hLj, Bool.or_eq_true, beq_iff_eq, hji, false_or, hw, Bool.false_eq_true, List.contains_eq_mem, decide_eq_true_eq] at h1
      have h2 := hc.close 12 (preds ops j) (fun x hx => by
        obtain ⟨_, o', ho', hall⟩ := mem_ready.1 hj
        obtain ⟨o2, ho2, e, he, hb, hex⟩ := mem_preds.1 hx
        rw [ho'] at ho2; cases ho2
        rw [← hex]; exact hall e he hb) i h1
      rcases Nat.lt_or_ge i listed.size with h' | h'
      · simp [h'] at hun h2; rw [hun] at h2; cases h2
      · simp [Array.getElem?_eq_none h'] at h2
    · have h1 := hL j hLj
      have h0 := (mem_ready.1 hj).1
      rcases Nat.lt_or_ge j listed.size with h' | h'
      · simp [h'] at h0 h1; rw [h0] at h1; cases h1
      · simp [Array.getElem?_eq_none h'] at h1
  · rfl

/-- operations that look at slots alone -/
def regOp : Op → Bool
  | .move _ | .assign _ | .extract .. | .binOp .. | .fieldAddr .. => true
  | _ => false
/-- may the operations be done in this order? 'true' beside one: it goes by itself, and is drawn ahead; 'false': it is the only one that is ready -/
def chkOrd (ops : Array Oper) (ks : List Nat) : List (Nat × Bool) → Array Bool → Bool
  | [], listed => (Region.ready .any ops listed).isEmpty
  | (i, fl) :: rest, listed =>
    (match ops[i]? with
      | some o => if fl then (Region.ready .any ops listed).contains i && Region.free .any ops listed i && (guardChkL ops ks i listed || regOp o.op) else Region.ready .any ops listed == [i]
      | none => false) && chkOrd ops ks rest (listed.setIfInBounds i true)

def pick (ops : Array Oper) : List (Nat × Bool) → List (Oper × Bool)
  | [] => []
  | (i, fl) :: l => match ops[i]? with
    | some o => (o, fl) :: pick ops l
    | none => pick ops l

/-- the operations, one behind the other -/
def Run (P : Program) (n : Nat) (ops : Array Oper) (st : Option (List Nat)) (Q : Tm → Mem → Prop) : List (Oper × Bool) → Tm → Mem → Prop
  | [], T, M => Q T M
  | (o, true) :: l, T, M => ∃ v, (regOp o.op = true → ∀ M', HoistOk P ops o T M' v) ∧ HoistOk P ops o T M v ∧ Run P n ops st Q l (putT n o.dst v T) M
  | (o, false) :: l, T, M => OpA P n ops o T M fun T' M' => (∀ ks, st = some ks → keeps ks o = true → Ext M M') ∧ Run P n ops st Q l T' M'

theorem any_of_run {P : Program} {n : Nat} {ops : Array Oper} {ks : List Nat} {Q : Tm → Mem → Prop} (hQ : QAgree Q) (hsel : Region.noSelect ops = true) :
    ∀ (ord : List (Nat × Bool)) (k : Nat) (listed : Array Bool) (T : Tm) (M : Mem), Closed ops listed → chkOrd ops ks ord listed = true → Run P n ops (some ks) Q (pick ops ord) T M → AnyA P n ops ks Q (ord.length + k) listed T M := by
  intro ord
  induction ord with
  | nil =>
    intro k listed T M _ hc h
    have hr : Region.ready .any ops listed = [] := by simpa [chkOrd] using hc
    simp only [List.length_nil, Nat.zero_add]
    cases k with
    | zero => exact ⟨hr, h⟩
    | succ k => exact ⟨fun _ => h, by rw [hr]; simp⟩
  | cons x ord ih =>
    obtain ⟨i, fl⟩ := x
    intro k listed T M hcl hc h
    unfold chkOrd at hc
    rw [Bool.and_eq_true] at hc
    obtain ⟨hc1, hc2⟩ := hc
    cases ho : ops[i]? with
    | none => rw [ho] at hc1; simp at hc1
    | some o =>
      rw [ho] at hc1
      have hp : pick ops ((i, fl) :: ord) = (o, fl) :: pick ops ord := by simp only [pick, ho]
      rw [hp] at h
      rw [show ((i, fl) :: ord).length + k = (ord.length + k) + 1 from by simp only [List.length_cons]; omega]
      cases fl with
      | true =>
        simp only [if_true, Bool.and_eq_true] at hc1
        obtain ⟨⟨h1, h2⟩, h4⟩ := hc1
        obtain ⟨v, hreg, hv, hr⟩ := h
        have hguard : Guarded ops ks i (fun l => Closed ops l ∧ ∀ j, listed.getD j false = true → l.getD j false = true) ∨ ∀ M', HoistOk P ops o T M' v := by
          rcases Bool.or_eq_true_iff.1 h4 with h4 | h4
          · exact .inl (guarded_ofL h4)
          · exact .inr (hreg h4)
        have hready : i ∈ Region.ready .any ops listed := by simpa using h1
        exact any_hoist hQ ho hsel (fun l => Closed ops l ∧ ∀ j, listed.getD j false = true → l.getD j false = true) (fun l j hl hj => ⟨hl.1.set hj, fun j' h => getD_set_true (hl.2 j' h)⟩) (ord.length + k) listed T M ⟨hcl, fun _ h => h⟩ (Region.free_spec ho h2) hready hguard hv
          (ih k _ _ _ (hcl.set hready) hc2 hr)
      | false =>
        have h1 : Region.ready .any ops listed = [i] := by simpa using hc1
        have hready : i ∈ Region.ready .any ops listed := by rw [h1]; simp
        refine ⟨fun h0 => (by rw [h0] at h1; cases h1), fun j hj => ?_⟩
        rw [h1] at hj
        obtain rfl : j = i := by simpa using hj
        exact ⟨o, ho, OpA.mono h fun T' M' hk => ⟨hk.1 ks rfl, ih k _ _ _ (hcl.set hready) hc2 hk.2⟩⟩

theorem seq_of_run {P : Program} {n : Nat} {ops : Array Oper} {Q : Tm → Mem → Prop} : ∀ (l : List Oper) (T : Tm) (M : Mem), Run P n ops none Q (l.map fun o => (o, false)) T M → Seq P n ops Q l T M := by
  intro l
  induction l with
  | nil => intro T M h; exact h
  | cons o l ih => intro T M h; exact OpA.mono h fun T' M' hk => ih _ _ hk.2

section rules2
variable {P : Program} {n : Nat} {Q : Exit → Tm → Mem → Prop} {T : Tm} {M : Mem}

/-- what may stand behind a region: it does not ask how the slots are listed -/
def Fine (Q : Exit → Tm → Mem → Prop) : Prop := ∀ T T' M, Agree T T' → Q .normal T M → Q .normal T' M

theorem awp_region_text {id : Nat} {l : List Oper} (h : Run P n l.toArray none (fun T M => Q .normal T M) (l.map fun o => (o, false)) T M) : AWp P n (.region id l.toArray false) Q T M :=
  awp_region (seq_of_run l T M h)

theorem awp_region_draw {id : Nat} {ops : Array Oper} (ks : List Nat) (ord : List (Nat × Bool)) (hm : P.follows .mixedOrders = true) (hf : Fine Q)
    (hc : (Region.noSelect ops && Nat.ble ord.length ops.size && chkOrd ops ks ord (Array.replicate ops.size false)) = true)
    (h : Run P n ops (some ks) (fun T M => Q .normal T M) (pick ops ord) T M) : AWp P n (.region id ops true) Q T M := by
  rw [Bool.and_eq_true, Bool.and_eq_true] at hc
  obtain ⟨⟨h1, h2⟩, h3⟩ := hc
  have hle : ord.length ≤ ops.size := by simpa using h2
  refine awp_region_any (ks := ks) hm ?_
  have := any_of_run (P := P) (n := n) (ks := ks) (Q := fun T M => Q .normal T M) hf h1 ord (ops.size - ord.length) (Array.replicate ops.size false) T M (fun j hj => by
    exfalso
    by_cases hlt : j < ops.size <;> simp [hlt] at hj) h3 h
  rwa [show ord.length + (ops.size - ord.length) = ops.size from by omega] at this

theorem AWp.agree {c : Code} {T T' : Tm} (h : AWp P n c Q T M) (g : Agree T T') : AWp P n c Q T' M :=
  h.less (fun i v hv => by rw [← g i]; exact hv) (Ext.refl M)

theorem fine_then {y : Code} {Q : Exit → Tm → Mem → Prop} : Fine (Then (AWp P n y Q) Q) := fun _ _ _ g h => AWp.agree h g

theorem run_hoist {ops : Array Oper} {st : Option (List Nat)} {Q : Tm → Mem → Prop} {fl : Bool} {o : Oper} {l : List (Oper × Bool)} {v : Value} (ht : HoistOk P ops o T M v) (h : Run P n ops st Q l (putT n o.dst v T) M) (hr : regOp o.op = true → ∀ M', HoistOk P ops o T M' v) : Run P n ops st Q ((o, fl) :: l) T M := by
  cases fl with
  | true => exact ⟨v, hr, ht, h⟩
  | false => exact ht.op ⟨fun _ _ _ => Ext.refl M, h⟩

theorem run_tame {ops : Array Oper} {st : Option (List Nat)} {Q : Tm → Mem → Prop} {fl : Bool} {o : Oper} {l : List (Oper × Bool)} {v : Value} (hg : o.guard = none) (ht : Tame P o T M v) (h : Run P n ops st Q l (putT n o.dst v T) M) (hr : regOp o.op = true → ∀ M', Tame P o T M' v := by intro h; cases h) : Run P n ops st Q ((o, fl) :: l) T M :=
  run_hoist (.inl ⟨by simp [wantedA, hg], ht⟩) h fun hx M' => .inl ⟨by simp [wantedA, hg], hr hx M'⟩
/-- the same for an operation that looks at slots alone -/
theorem run_tameR {ops : Array Oper} {st : Option (List Nat)} {Q : Tm → Mem → Prop} {fl : Bool} {o : Oper} {l : List (Oper × Bool)} {v : Value} (hg : o.guard = none) (ht : ∀ M', Tame P o T M' v) (h : Run P n ops st Q l (putT n o.dst v T) M) : Run P n ops st Q ((o, fl) :: l) T M :=
  run_tame hg (ht M) h fun _ => ht

theorem run_step {ops : Array Oper} {st : Option (List Nat)} {Q : Tm → Mem → Prop} {o : Oper} {l : List (Oper × Bool)} (hg : o.guard = none)
    (h : Step P n o T M fun v M' => (∀ ks, st = some ks → keeps ks o = true → Ext M M') ∧ Run P n ops st Q l (putT n o.dst v T) M') : Run P n ops st Q ((o, false) :: l) T M :=
  .inl ⟨by simp [wantedA, hg], h⟩

theorem run_skip {ops : Array Oper} {st : Option (List Nat)} {Q : Tm → Mem → Prop} {fl : Bool} {o : Oper} {l : List (Oper × Bool)} (hw : wantedA ops T o = some false)
    (h : Run P n ops st Q l (putT n o.dst undefV T) M) : Run P n ops st Q ((o, fl) :: l) T M :=
  run_hoist (.inr ⟨hw, rfl⟩) h fun _ _ => .inr ⟨hw, rfl⟩

theorem run_want {ops : Array Oper} {st : Option (List Nat)} {Q : Tm → Mem → Prop} {o : Oper} {l : List (Oper × Bool)} (hw : wantedA ops T o = some true)
    (h : Step P n o T M fun v M' => (∀ ks, st = some ks → keeps ks o = true → Ext M M') ∧ Run P n ops st Q l (putT n o.dst v T) M') : Run P n ops st Q ((o, false) :: l) T M :=
  .inl ⟨hw, h⟩

theorem run_nil {ops : Array Oper} {st : Option (List Nat)} {Q : Tm → Mem → Prop} (h : Q T M) : Run P n ops st Q [] T M := h
end rules2
end Go.Proofs.Ytkbpdgacfeachaa.Ab
