/-
  From the abstract layer to a law's statement: the arguments as data; the memory that they lie in; what is behind the call.
-/
import Derived.Test.YtkbpdgacfeachaaOpsb
import Derived.ProofKit
import Derived.OpenShut
import Derived.Lib.SmallJoins
import Derived.Deep.Slices
namespace Go.Proofs.Ytkbpdgacfeachaa.Ab
open Go Go.RowKit Go.ChangeShapes Go.WideShapes Go.ChangeAt Go.Deep
set_option linter.unusedVariables false

/-! ## All the memory there is, to be read -/
def blkAt (W : World) (b : Nat) : Option (Nat × Blk) :=
  match W.heap[b]? with
  | some (.cells c _ _) => some (b, ⟨c.toList.map nfS, false⟩)
  | _ => none
def MA (W : World) : Mem := (List.range W.heap.size).filterMap (blkAt W)

theorem mem_MA {W : World} {b : Nat} {c : Array Value} {E : TypeId} {fr : Nat × Nat} (h : W.heap[b]? = some (.cells c E fr)) : (b, (⟨c.toList.map nfS, false⟩ : Blk)) ∈ MA W := by
  unfold MA
  rw [List.mem_filterMap]
  refine ⟨b, ?_, by rw [blkAt, h]⟩
  rw [List.mem_range]
  rcases Nat.lt_or_ge b W.heap.size with hl | hl
  · exact hl
  · rw [Array.getElem?_eq_none hl] at h; cases h

theorem of_mem_MA {W : World} {p : Nat × Blk} (h : p ∈ MA W) : blkOk W W.heap.size p.1 p.2 ∧ p.2.wr = false := by
  unfold MA at h
  rw [List.mem_filterMap] at h
  obtain ⟨b, _, hb⟩ := h
  unfold blkAt at hb
  split at hb
  · rename_i c E fr hc
    cases hb
    exact ⟨⟨c, E, fr, hc, rfl, fun h => by cases h⟩, rfl⟩
  · cases hb

theorem sat_MA (W : World) : SatF W W.heap.size W (MA W) :=
  ⟨Below.refl _ _, Nat.le_refl _, fun p hp => (of_mem_MA hp).1, by
    rw [List.pairwise_iff_forall_sublist]
    intro p q hpq h
    have h1 := (of_mem_MA (hpq.subset (by simp : p ∈ [p, q]))).2
    have h2 := (of_mem_MA (hpq.subset (by simp : q ∈ [p, q]))).2
    rcases h with h | h
    · rw [h1] at h; cases h
    · rw [h2] at h; cases h⟩

theorem cell_MA {W : World} {a : Addr} {v : Value} (h : W.cell? a = some v) : a.spot = none ∧ ∃ k, (a.block, k) ∈ MA W ∧ k.cells[a.off]? = some (nfS v) := by
  unfold World.cell? at h
  split at h
  · rename_i c E fr hc
    split at h
    · cases h
    · rename_i hs
      refine ⟨by simpa using hs, _, mem_MA hc, ?_⟩
      simp [h]
  · cases h

section
variable {H : Type} {enc : TypeId × Value → H} {P : Program} {W : World} {base : Nat} {spare : Nat → Bool} {held : Bool}

/-! ## Readings, undone -/
theorem inv_float {t n : Nat} {k : FloatKind} {v : Value} {x : DataW H × List MemPlace} (ht : P.underlying t = some (.float k)) (h : DataW.trod enc P W base spare held n t [v] = some x) : ∃ b, v = .float k b := by
  cases n with
  | zero => simp [DataW.trod] at h
  | succ n =>
    cases v <;> simp [DataW.trod, ht] at h
    rename_i k' b
    exact ⟨b, by rw [h.1.1]⟩
theorem inv_int {t n : Nat} {k : IntKind} {v : Value} {x : DataW H × List MemPlace} (ht : P.underlying t = some (.int k)) (h : DataW.trod enc P W base spare held n t [v] = some x) : ∃ i, v = .int k i ∧ k.min ≤ i ∧ i ≤ k.max := by
  cases n with
  | zero => simp [DataW.trod] at h
  | succ n =>
    cases v <;> simp [DataW.trod, ht] at h
    rename_i k' i
    obtain ⟨⟨rfl, hw⟩, _⟩ := h
    simp [Lit.wf] at hw
    exact ⟨i, rfl, hw.1, hw.2⟩

/-- a slice of elements of one cell each -/
theorem inv_slice {t e n : Nat} {v : Value} {x : DataW H × List MemPlace} (ht : P.underlying t = some (.slice e)) (hc : P.cellsOf e = 1) (hx : DataW.trod enc P W base spare held n t [v] = some x) :
    ∃ vs : List Value, Rd (MA W) v (vs.map nfS) ∧ vs.length ≤ maxLen ∧ ∀ u ∈ vs, ∃ m y, DataW.trod enc P W base spare held m e [u] = some y := by
  rcases open_slice1 ht hc hx with ⟨h0, _⟩ | ⟨a, len, cap, m, n', V, D, Pl, hcs, hb, hl, hm, hmm, _, hcell⟩
  · cases h0
    exact ⟨[], ⟨none, 0, rfl, .inl rfl⟩, by simp, by simp⟩
  · cases hcs
    have hlm : len ≤ m := by rw [hmm]; split <;> omega
    refine ⟨(List.range len).map V, ?_, by simp; omega, ?_⟩
    · refine ⟨some a, cap, by simp, ?_⟩
      by_cases hlen : len = 0
      · left; subst hlen; simp
      · right
        obtain ⟨h1, _⟩ := hcell 0 (by omega)
        have ha0 : a.add 0 = a := Addr.add_zero' a
        rw [ha0] at h1
        obtain ⟨hs, k, hk, _⟩ := cell_MA h1
        obtain ⟨b, o, s⟩ := a
        simp only at hs hk
        subst hs
        refine ⟨b, o, k, rfl, hk, fun i hi => ?_⟩
        simp only [List.length_map, List.length_range] at hi
        obtain ⟨h2, _⟩ := hcell i (by omega)
        rw [Addr.add_lit] at h2
        obtain ⟨_, k', hk', hv'⟩ := cell_MA h2
        simp only at hk' hv'
        have : k' = k := by
          obtain ⟨⟨c, E, fr, hc1, hc2, _⟩, hw⟩ := of_mem_MA hk
          obtain ⟨⟨c', E', fr', hc1', hc2', _⟩, hw'⟩ := of_mem_MA hk'
          simp only at hc1 hc1' hc2 hc2' hw hw'
          rw [hc1] at hc1'
          cases hc1'
          cases k; cases k'
          simp_all
        rw [this] at hv'
        rw [hv']
        simp [hi]
    · intro u hu
      rw [List.mem_map] at hu
      obtain ⟨i, hi, rfl⟩ := hu
      rw [List.mem_range] at hi
      obtain ⟨_, h2⟩ := hcell i (by omega)
      exact ⟨n', _, h2⟩

/-- a slice of 32-bit floats -/
theorem inv_floats {t e n : Nat} {v : Value} {x : DataW H × List MemPlace} (ht : P.underlying t = some (.slice e)) (he : P.underlying e = some (.float .f32)) (hc : P.cellsOf e = 1) (hx : DataW.trod enc P W base spare held n t [v] = some x) :
    ∃ xs : List Nat, Rd (MA W) v (xs.map fl) ∧ xs.length ≤ maxLen ∧ ∀ x ∈ xs, cb .f32 x = x := by
  obtain ⟨vs, h1, h2, h3⟩ := inv_slice ht hc hx
  have : ∀ vs : List Value, (∀ u ∈ vs, ∃ m y, DataW.trod enc P W base spare held m e [u] = some y) → ∃ xs : List Nat, vs.map nfS = xs.map fl ∧ ∀ x ∈ xs, cb .f32 x = x := by
    intro vs
    induction vs with
    | nil => intro _; exact ⟨[], rfl, by simp⟩
    | cons u us ih =>
      intro h
      obtain ⟨xs, hx1, hx2⟩ := ih fun w hw => h w (by simp [hw])
      obtain ⟨m, y, hy⟩ := h u (by simp)
      obtain ⟨b, rfl⟩ := inv_float he hy
      refine ⟨cb .f32 b :: xs, by simp [hx1, nfS], fun z hz => ?_⟩
      rcases List.mem_cons.1 hz with rfl | hz
      · exact cb_idem _ _
      · exact hx2 z hz
  obtain ⟨xs, e1, e2⟩ := this vs h3
  refine ⟨xs, e1 ▸ h1, ?_, e2⟩
  have := congrArg List.length e1
  simp at this
  omega

/-! ## What is behind the call -/
def goodTs (P : Program) (ts : List TypeId) : Bool := ts.all fun t => P.readableRec t && Nat.blt t P.types.size

theorem trodAll_below (hl : laidOutB P = true) {W' : World} (hb : Below W.heap.size W W') : ∀ (ts : List TypeId) (vs : List Value) (ds : List (DataW H)) (ps : List MemPlace), goodTs P ts = true →
    DataW.TrodAll enc P W 0 (fun _ => true) true ts vs ds ps → (∀ x ∈ ps, x.block < W.heap.size) →
    DataW.TrodAll enc P W' 0 (fun b => decide (b < W.heap.size)) true ts vs ds ps := by
  intro ts
  induction ts with
  | nil =>
    intro vs ds ps _ h _
    obtain ⟨rfl, rfl, rfl⟩ := trodAll_nil h
    exact trodAll_mk0
  | cons t ts ih =>
    intro vs ds ps hg h hlt
    obtain ⟨v0, vs0, d0, ds0, p0, q0, rfl, rfl, rfl, h0, r0⟩ := trodAll_cons h
    simp only [goodTs, List.all_cons, Bool.and_eq_true] at hg
    exact trodAll_cons_mk (Below.trod hl hg.1.1 (by simpa using hg.1.2) h0 hb fun x hx => hlt x (by simp [hx])) (ih vs0 ds0 q0 hg.2 r0 fun x hx => hlt x (by simp [hx]))

/-- a law's end: true, and all that was there is as it was -/
theorem post_true {fn : Func} {s : ChangeSpec} {W' : World} {args : Array Value} {ds gs : List (DataW H)} {before : List MemPlace} {tb : TypeId} (hl : laidOutB P = true) (hg : goodTs P fn.params.toList = true) (hrt : fn.resultTypes = #[tb]) (htb : P.underlying tb = some .bool)
    (hv : s.vars = []) (hW : DataW.Whole enc P fn.params.toList s.vars false W args.toList ds gs before) (hb : Below W.heap.size W W')
    (hs : s.fn H (ds ++ gs) = { results := [.lit (.bool true)], args := ds }) : s.post enc P fn false true false false W args (.bool true) W' := by
  have hW' := hW
  obtain ⟨p, q, hA, hV, rfl, hfz, hnd⟩ := hW
  rw [hv] at hV
  obtain ⟨rfl, rfl⟩ := trodVars_none hV
  have hlt : ∀ x ∈ p, x.block < W.heap.size := fun x hx => hW'.lt x (by simp [hx])
  refine ⟨ds, [], p ++ [], [], p, [], hW', ?_, ?_, ?_, hb.frame _, fun h => by cases h⟩
  · rw [hs, hrt]
    exact trodAll_mk1 (shut_bool htb _)
  · rw [hs]
    exact trodAll_below hl hb _ _ _ _ hg hA hlt
  · rw [hv, hs]
    rfl
end
end Go.Proofs.Ytkbpdgacfeachaa.Ab
