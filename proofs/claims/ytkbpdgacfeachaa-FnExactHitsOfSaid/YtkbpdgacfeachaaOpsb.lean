/-
  The abstract layer: composite values, closures, slices of slices, append.
-/
import Derived.Test.YtkbpdgacfeachaaRules
namespace Go.Proofs.Ytkbpdgacfeachaa.Ab
open Go Go.RowKit
set_option linter.unusedVariables false
set_option linter.unusedSimpArgs false

section
variable {P : Program} {T : Tm} {M : Mem} {d : Option Nat} {ty : Nat} {pos : String} {after : Array Edge} {g : Option (Nat × Bool)}

theorem cells_flat {u : Value} (h : flatV u = true) : u.cells = #[u] := by
  cases u <;> first | rfl | simp [flatV] at h

/-- parts of one cell each, one behind the other -/
theorem fill_flat : ∀ (us : List Value) (k : Nat) (cells : List Value), (∀ u ∈ us, flatV u = true) → k + us.length ≤ cells.length →
    Instr.fill (fun i => some (i * 1, 1)) cells.toArray (us.zipIdx k |>.map fun p => (p.2, p.1)) = some (cells.take k ++ us ++ cells.drop (k + us.length)).toArray := by
  intro us
  induction us with
  | nil => intro k cells _ _; simp [Instr.fill]
  | cons u us ih =>
    intro k cells hf hl
    simp only [List.length_cons] at hl
    have hu := hf u (by simp)
    have hset : (u.cells.zipIdx.foldl (fun cs (p : Value × Nat) => cs.setIfInBounds (k * 1 + p.2) p.1) cells.toArray) = (cells.set k u).toArray := by
      rw [cells_flat hu]; simp
    have := ih (k + 1) (cells.set k u) (fun v hv => hf v (by simp [hv])) (by simp; omega)
    simp only [List.zipIdx_cons, List.map_cons, Instr.fill, cells_flat hu]
    rw [if_neg (by simp; omega)]
    rw [cells_flat hu] at hset
    rw [hset, this]
    congr 2
    have h1 : (cells.set k u).take (k + 1) = cells.take k ++ [u] := by
      rw [List.take_succ_eq_append_getElem (by simp; omega)]
      simp [List.take_set_of_le]
    have h2 : (cells.set k u).drop (k + 1 + us.length) = cells.drop (k + (us.length + 1)) := by
      rw [List.drop_set_of_lt (by omega)]
      congr 1; omega
    rw [h1, h2]; simp

theorem run_buildSlice1 (w : World) {t e len : Nat} {i : TypeInfo} {z : Value} {parts : Array (Nat × Value)} {cells : Array Value} (ht : P.underlying t = some (.slice e)) (hi : P.info? e = some i) (h1 : i.size = 1) (hz : i.zero = some z) (hzc : z.cells = #[z]) (hl : len ≤ 1000)
    (hf : ∀ zz : Array Value, (len = 0 ∨ zz = #[z]) → Instr.fill (fun i => some (i * 1, 1)) ((Array.range (len * 1)).map (zz[· % zz.size]!)) parts.toList = some cells) :
    (Instr.buildSlice t len parts).run P w = .ok (.slice (some ⟨w.heap.size, 0, none⟩) len len) (w.alloc (.cells cells e)) := by
  have hsm : ¬ (len * 1 > 2 ^ 24) := by omega
  unfold Instr.buildSlice
  simp only [Sem.run_bind, run_underlying ht, Result.andThen_ok, sizeOf, typeInfo, run_program, hi, Sem.run_pure, h1, hsm, if_false, zeroValue, hz, hzc]
  by_cases h0 : len * 1 = 0
  · have := hf #[] (.inl (by omega))
    rw [h0] at this
    simp only [h0, if_true, pure_bind, this]
    simp [newRow]
  · have := hf #[z] (.inr rfl)
    simp only [h0, if_false, Sem.run_bind, Sem.run_pure, Result.andThen_ok, run_program, hi, hz, hzc, this]
    simp [newRow]

theorem step_buildSlice {n : Nat} {K : Value → Mem → Prop} {tx e bytes len : Nat} {z : Value} [hu : UnderT P tx (.slice e)] [hi : InfoT P e 1 bytes z] {ps : List (Nat × Operand)} {vs : List Value}
    (hr : ps.map (·.1) = List.range len) (ex : evs T (ps.map (·.2)) = some vs) (hf : vs.all flatV = true) (hfz : flatV z = true) (hl : Nat.ble len 1000 = true)
    (hk : ∀ b, K (.slice (some ⟨b, 0, none⟩) len len) ((b, ⟨vs, true⟩) :: M)) : Step P n ⟨d, .buildSlice tx len ps.toArray, ty, pos, after, g⟩ T M K := by
  intro w0 B a w ht hs
  obtain ⟨i, hi1, hi2, hi3, hi4⟩ := hi.out
  have hus := evs_sound ht _ _ ex
  have hlen : ps.length = len := by have := congrArg List.length hr; simpa using this
  have hflat : ∀ u ∈ (ps.map (·.2)).map a.eval, flatV u = true := by
    intro u hu'
    have : nf u ∈ vs := by rw [← hus]; exact List.mem_map_of_mem hu'
    exact flat_of_nf rfl (List.all_eq_true.1 hf _ this)
  have hle : len ≤ 1000 := Nat.le_of_ble_eq_true hl
  have hps : (ps.toArray.map fun (p : Nat × Operand) => (p.1, a.eval p.2)).toList = ((((ps.map (·.2)).map a.eval).zipIdx 0).map fun p => (p.2, p.1)) := by
    apply List.ext_getElem
    · simp
    · intro j h1 h2
      have hj : j < ps.length := by simpa using h1
      have : (ps.map (·.1))[j]'(by simpa using hj) = (List.range len)[j]'(by simp; omega) := by simp only [hr]
      simp at this
      simp [this]
  have hfill := fill_flat ((ps.map (·.2)).map a.eval) 0 (List.replicate len z) hflat (by simp [hlen])
  have hmk : ∀ zz : Array Value, (len = 0 ∨ zz = #[z]) → (Array.range (len * 1)).map (zz[· % zz.size]!) = (List.replicate len z).toArray := by
    intro zz hzz
    rcases hzz with h0 | h0
    · subst h0; simp
    · subst h0
      apply Array.ext
      · simp
      · intro j h1 h2; simp [Nat.mod_one]
  have hrun : (execOp a.eval ⟨d, .buildSlice tx len ps.toArray, ty, pos, after, g⟩).run P w = .ok (.value (.slice (some ⟨w.heap.size, 0, none⟩) len len)) (w.alloc (.cells ((ps.map (·.2)).map a.eval).toArray e)) := by
    have hb := run_buildSlice1 (P := P) w (parts := ps.toArray.map fun (p : Nat × Operand) => (p.1, a.eval p.2)) (cells := ((ps.map (·.2)).map a.eval).toArray) hu.out hi1 hi2 hi4 (cells_flat hfz) hle (fun zz hzz => by
      rw [hmk zz hzz, hps, hfill]
      simp [hlen])
    simp only [execOp, Sem.run_bind, hb, Result.andThen_ok, Sem.run_pure]
  rw [hrun]
  refine ⟨_, hs.alloc _ _, ?_⟩
  have he : ((ps.map (·.2)).map a.eval).map nfS = vs := by
    rw [← hus]
    apply List.map_congr_left
    intro u hu'
    exact (nf_flat (hflat u hu')).symm
  rw [show ((ps.map (·.2)).map a.eval).toArray.toList = (ps.map (·.2)).map a.eval from rfl, he]
  exact hk _

theorem rBS {n : Nat} {ops : Array Oper} {st : Option (List Nat)} {Q : Tm → Mem → Prop} {l : List (Oper × Bool)} {tx e bytes len : Nat} {z : Value} [hu : UnderT P tx (.slice e)] [hi : InfoT P e 1 bytes z] {ps : List (Nat × Operand)} {vs : List Value}
    (hr : ps.map (·.1) = List.range len) (ex : evs T (ps.map (·.2)) = some vs) (hf : vs.all flatV = true) (hfz : flatV z = true) (hl : Nat.ble len 1000 = true)
    (hk : ∀ b, Run P n ops st Q l (putT n d (.slice (some ⟨b, 0, none⟩) len len) T) ((b, ⟨vs, true⟩) :: M)) : Run P n ops st Q ((⟨d, .buildSlice tx len ps.toArray, ty, pos, after, none⟩, false) :: l) T M :=
  run_step rfl (step_buildSlice hr ex hf hfz hl fun b => ⟨fun _ _ _ => Ext.cons _ _, hk b⟩)

/-- values that are what they are to the bit -/
def exactV : Value → Bool
  | .float .. | .agg _ | .tuple _ => false
  | _ => true
theorem exact_of_nf {u v : Value} (h : nf u = v) (hv : exactV v = true) : u = v := by
  cases u <;> simp_all [nf, nfA, nfS] <;> (subst h; simp [exactV] at hv)
theorem nf_exact {v : Value} (hv : exactV v = true) : nf v = v := by
  cases v <;> simp_all [nf, nfA, nfS, exactV]

theorem evs_exact {n : Nat} {a : Act} {T : Tm} (ht : TRel n a.tmps T) : ∀ (l : List Operand) (vs : List Value), evs T l = some vs → vs.all exactV = true → l.map a.eval = vs := by
  intro l
  induction l with
  | nil => intro vs h _; cases h; rfl
  | cons x l ih =>
    intro vs h hv
    unfold evs at h
    cases hx : ev T x with
    | none => rw [hx] at h; cases h
    | some v =>
      rw [hx] at h
      cases hl : evs T l with
      | none => rw [hl] at h; cases h
      | some us =>
        rw [hl] at h
        cases h
        simp only [List.all_cons, Bool.and_eq_true] at hv
        rw [List.map_cons, exact_of_nf (ev_sound ht hx) hv.1, ih us hl hv.2]

theorem evs_agree {o : Oper} {T' : Tm} (h : ∀ x v, x ∈ o.op.operands → ev T x = some v → ev T' x = some v) : ∀ (l : List Operand) (vs : List Value), (∀ x ∈ l, x ∈ o.op.operands) → evs T l = some vs → evs T' l = some vs := by
  intro l
  induction l with
  | nil => intro vs _ h; exact h
  | cons x l ih =>
    intro vs hm hv
    unfold evs at hv
    cases hx : ev T x with
    | none => rw [hx] at hv; cases hv
    | some v =>
      rw [hx] at hv
      cases hl : evs T l with
      | none => rw [hl] at hv; cases hv
      | some us =>
        rw [hl] at hv
        cases hv
        unfold evs
        rw [h x v (hm x (by simp)) hx, ih us (fun y hy => hm y (by simp [hy])) hl]

theorem tame_makeFunc {fn : Fn} {xs ys : List Operand} {us vs : List Value} (ex : evs T xs = some us) (ey : evs T ys = some vs) (h1 : us.all exactV = true) (h2 : vs.all exactV = true) :
    Tame P ⟨d, .makeFunc fn xs.toArray ys.toArray, ty, pos, after, g⟩ T M (.func fn us.toArray vs.toArray) :=
  tame_of fun T' M' he _ n w0 B a w ht hs => by
    have e1 := evs_exact ht xs us (evs_agree he xs us (fun x hx => by simp [Op.operands, hx]) ex) h1
    have e2 := evs_exact ht ys vs (evs_agree he ys vs (fun x hx => by simp [Op.operands, hx]) ey) h2
    refine ⟨.func fn us.toArray vs.toArray, w, ?_, .refl w, rfl⟩
    simp [execOp, Instr.makeFunc, e1, e2]

theorem rF {n : Nat} {ops : Array Oper} {st : Option (List Nat)} {Q : Tm → Mem → Prop} {fl : Bool} {l : List (Oper × Bool)} {fn : Fn} {xs ys : List Operand} {us vs : List Value} (ex : evs T xs = some us) (ey : evs T ys = some vs) (h1 : us.all exactV = true) (h2 : vs.all exactV = true)
    (k : Run P n ops st Q l (putT n d (.func fn us.toArray vs.toArray) T) M) : Run P n ops st Q ((⟨d, .makeFunc fn xs.toArray ys.toArray, ty, pos, after, none⟩, fl) :: l) T M :=
  run_tame rfl (tame_makeFunc ex ey h1 h2) k

/-- a call of a function value -/
theorem rV {n : Nat} {ops : Array Oper} {st : Option (List Nat)} {Q : Tm → Mem → Prop} {l : List (Oper × Bool)} {f : Nat} {c : Operand} {fi ca : List Value} {xs : List Operand} {ats : Array TypeId} {vs : List Value} {R : Value → Mem → Prop} [FuncT P f]
    (ec : ev T c = some (.func (.func f) fi.toArray ca.toArray)) (h1 : fi.all exactV = true) (h2 : ca.all exactV = true) (ea : evs T xs = some vs) (hc : ACall P f (fi ++ vs ++ ca) M R)
    (hk : ∀ v M', R v M' → (st.isSome = true → Ext M M') ∧ Run P n ops st Q l (putT n d v T) M') : Run P n ops st Q ((⟨d, .call { callee := .value c, args := xs.toArray, argTypes := ats }, ty, pos, after, none⟩, false) :: l) T M := by
  have e1 : fi.map nf = fi := by
    conv => rhs; rw [← List.map_id fi]
    exact List.map_congr_left fun v hv => nf_exact (List.all_eq_true.1 h1 v hv)
  have e2 : ca.map nf = ca := by
    conv => rhs; rw [← List.map_id ca]
    exact List.map_congr_left fun v hv => nf_exact (List.all_eq_true.1 h2 v hv)
  exact run_step rfl (step_callV ec e1 e2 ea hc fun v M' h => ⟨fun ks hs _ => (hk v M' h).1 (by rw [hs]; rfl), (hk v M' h).2⟩)

/-- a call of a function value that may change what was there -/
theorem rVw {n : Nat} {ops : Array Oper} {st : Option (List Nat)} {Q : Tm → Mem → Prop} {l : List (Oper × Bool)} {f : Nat} {c : Operand} {fi ca : List Value} {xs : List Operand} {ats : Array TypeId} {vs : List Value} {R : Value → Mem → Prop} [FuncT P f]
    (hw : ∀ ks, st = some ks → keeps ks ⟨d, .call { callee := .value c, args := xs.toArray, argTypes := ats }, ty, pos, after, none⟩ = false) (ec : ev T c = some (.func (.func f) fi.toArray ca.toArray)) (h1 : fi.all exactV = true) (h2 : ca.all exactV = true) (ea : evs T xs = some vs) (hc : ACall P f (fi ++ vs ++ ca) M R)
    (hk : ∀ v M', R v M' → Run P n ops st Q l (putT n d v T) M') : Run P n ops st Q ((⟨d, .call { callee := .value c, args := xs.toArray, argTypes := ats }, ty, pos, after, none⟩, false) :: l) T M := by
  have e1 : fi.map nf = fi := by
    conv => rhs; rw [← List.map_id fi]
    exact List.map_congr_left fun v hv => nf_exact (List.all_eq_true.1 h1 v hv)
  have e2 : ca.map nf = ca := by
    conv => rhs; rw [← List.map_id ca]
    exact List.map_congr_left fun v hv => nf_exact (List.all_eq_true.1 h2 v hv)
  exact run_step rfl (step_callV ec e1 e2 ea hc fun v M' h => ⟨fun ks hs hk' => (by rw [hw ks hs] at hk'; cases hk'), hk v M' h⟩)

/-! ## Structs in memory -/
theorem run_storeCells_sat {w0 : World} {B : Nat} {b o : Nat} : ∀ (us : List Value) (i : Nat) (w : World) (M : Mem) (p : Nat) (k : Blk), SatF w0 B w M → M[p]? = some (b, k) → k.wr = true → (∀ u ∈ us, flatV u = true) → o + i + us.length ≤ k.cells.length →
    ∃ w', (storeCells ⟨b, o, none⟩ us i).run P w = .ok () w' ∧ SatF w0 B w' (M.set p (b, ⟨k.cells.take (o + i) ++ us.map nfS ++ k.cells.drop (o + i + us.length), true⟩)) := by
  intro us
  induction us with
  | nil =>
    intro i w M p k hs hp hw _ hl
    refine ⟨w, by simp [storeCells], ?_⟩
    have hk : k = ⟨k.cells, true⟩ := by cases k; simp_all
    simp only [List.map_nil, List.append_nil, List.length_nil, Nat.add_zero, List.take_append_drop]
    rw [← hk]
    have : M.set p (b, k) = M := by
      apply List.ext_getElem?
      intro j
      rw [List.getElem?_set]
      split
      · rename_i hj; subst hj
        rw [hp, if_pos (List.getElem?_eq_some_iff.1 hp).1]
      · rfl
    rw [this]; exact hs
  | cons u us ih =>
    intro i w M p k hs hp hw hf hl
    simp only [List.length_cons] at hl
    have hu := hf u (by simp)
    have hlt : o + i < k.cells.length := by omega
    obtain ⟨u0, hu0, hn⟩ := cell_of hs (List.mem_of_getElem? hp) (List.getElem?_eq_getElem hlt)
    have hfz : w.frozen? ⟨b, o + i, none⟩ = false := by
      obtain ⟨c, E, fr, hc, h1, h2⟩ := hs.ok (b, k) (List.mem_of_getElem? hp)
      obtain ⟨hfr, hB⟩ := h2 hw
      subst hfr
      simp only at hc
      simp [World.frozen?, hc]
    have hst := run_store P w ⟨b, o + i, none⟩ u .plain (oneCell_flat hu)
    have hs1 := hs.setCell (o := o + i) hp hw u
    have hp1 : (M.set p (b, ⟨k.cells.set (o + i) (nfS u), true⟩))[p]? = some (b, ⟨k.cells.set (o + i) (nfS u), true⟩) := by
      rw [List.getElem?_set, if_pos rfl, if_pos (List.getElem?_eq_some_iff.1 hp).1]
    obtain ⟨w', hr, hs'⟩ := ih (i + 1) _ _ p _ hs1 hp1 rfl (fun v hv => hf v (by simp [hv])) (by simp; omega)
    refine ⟨w', ?_, ?_⟩
    · simp only [storeCells, Sem.run_bind, Addr.add_lit, hst]
      simp [hu0, hfz, hr]
    · rw [List.set_set] at hs'
      have h1 : (k.cells.set (o + i) (nfS u)).take (o + (i + 1)) = k.cells.take (o + i) ++ [nfS u] := by
        rw [show o + (i + 1) = (o + i) + 1 from by omega, List.take_succ_eq_append_getElem (by simp; omega)]
        simp [List.take_set_of_le]
      have h2 : (k.cells.set (o + i) (nfS u)).drop (o + (i + 1) + us.length) = k.cells.drop (o + i + (us.length + 1)) := by
        rw [List.drop_set_of_lt (by omega)]
        congr 1; omega
      simp only [h1, h2] at hs'
      simpa using hs'

/-- a store of a struct -/
theorem step_storeAgg {n : Nat} {K : Value → Mem → Prop} {tl size bytes : Nat} {z : Value} [hi : InfoT P tl size bytes z] {x y : Operand} {b o : Nat} {k : Blk} {vs cs : List Value} (p : Nat)
    (ex : ev T x = some (.pointer (some ⟨b, o, none⟩))) (ey : ev T y = some (.agg vs.toArray)) (hf : vs.all flatV = true) (hsz : vs.length = size) (hp : M[p]? = some (b, k)) (hw : k.wr = true) (ho : Nat.ble (o + size) k.cells.length = true)
    (hcs : k.cells.take o ++ vs ++ k.cells.drop (o + size) = cs) (hk : K undefV (M.set p (b, ⟨cs, true⟩))) : Step P n ⟨none, .store tl x y, ty, pos, after, g⟩ T M K := by
  intro w0 B a w ht hs
  obtain ⟨i, hi1, hi2, hi3, hi4⟩ := hi.out
  have hx := nf_pointer (ev_sound ht ex)
  obtain ⟨ds, hd, hm⟩ := nf_agg (ev_sound ht ey)
  have hml : ds.toList.map nfS = vs := by have := congrArg Array.toList hm; simpa using this
  have hfl : ∀ u ∈ ds.toList, flatV u = true := by
    intro u hu
    have h1 : nfS u ∈ vs := by rw [← hml]; exact List.mem_map_of_mem hu
    have h2 := List.all_eq_true.1 hf _ h1
    cases u <;> simp_all [nfS, flatV]
  have hlen : ds.toList.length = size := by rw [← hsz, ← hml]; simp
  have hle := Nat.le_of_ble_eq_true ho
  obtain ⟨w', hr, hs'⟩ := run_storeCells_sat (P := P) (b := b) (o := o) ds.toList 0 w M p k hs hp hw hfl (by omega)
  have hrun : (execOp a.eval ⟨none, .store tl x y, ty, pos, after, g⟩).run P w = .ok .skip w' := by
    have hds : ds.size = size := by simpa using hlen
    simp [execOp, hx, hd, Instr.storeAt, Instr.sureAddr, storeVar, Value.cells, sizeOf, typeInfo, hi1, hi2, hds, hr]
  rw [hrun]
  refine ⟨_, hs', ?_⟩
  rw [hml, hlen] at *
  simp only [Nat.add_zero, hlen, hml, hcs]
  exact hk

theorem rSA {n : Nat} {ops : Array Oper} {st : Option (List Nat)} {Q : Tm → Mem → Prop} {l : List (Oper × Bool)} {t size bytes : Nat} {z : Value} [InfoT P t size bytes z] {x y : Operand} {b o : Nat} {k : Blk} {vs cs : List Value} (p : Nat)
    (ex : ev T x = some (.pointer (some ⟨b, o, none⟩))) (ey : ev T y = some (.agg vs.toArray)) (hf : vs.all flatV = true) (hsz : vs.length = size) (hp : M[p]? = some (b, k)) (hw : k.wr = true) (ho : Nat.ble (o + size) k.cells.length = true)
    (hcs : k.cells.take o ++ vs ++ k.cells.drop (o + size) = cs) (kk : Run P n ops st Q l T (M.set p (b, ⟨cs, true⟩))) : Run P n ops st Q ((⟨none, .store t x y, ty, pos, after, none⟩, false) :: l) T M :=
  run_step rfl (step_storeAgg p ex ey hf hsz hp hw ho hcs ⟨fun _ _ h => by simp [keeps, writer, keptD] at h, kk⟩)

/-! ## Results that lie in memory -/
def resSem (tmps : Array Value) : ResultVar → Sem Value
  | .tmp t => pure (tmps.getD t undef)
  | .cell a t => do loadVar t (← asAddr (tmps.getD a undef))

def ResOne (P : Program) (T : Tm) (M : Mem) (r : ResultVar) (v : Value) : Prop :=
  ∀ (n : Nat) (tmps : Array Value) (w0 : World) (B : Nat) (w : World), TRel n tmps T → SatF w0 B w M → ∃ u, (resSem tmps r).run P w = .ok u w ∧ nf u = v

theorem resOne_tmp {t : Nat} {v : Value} (h : get T t = some v) : ResOne P T M (.tmp t) v :=
  fun n tmps w0 B w ht hs => ⟨tmps.getD t undef, rfl, ht.val t v h⟩

theorem resOne_cell {a t size bytes b : Nat} {z : Value} [hp : AggT P t] [hi : InfoT P t size bytes z] {k : Blk} (h : get T a = some (.pointer (some ⟨b, 0, none⟩))) (hm : (b, k) ∈ M) (hl' : Nat.beq k.cells.length size = true) : ResOne P T M (.cell a t) (.agg k.cells.toArray) := by
  have hl : k.cells.length = size := Nat.eq_of_beq_eq_true hl'
  intro n tmps w0 B w ht hs
  obtain ⟨i, hi1, hi2, hi3, hi4⟩ := hi.out
  have hx := nf_pointer (ht.val a _ h)
  obtain ⟨us, hr, hu⟩ := run_loadCells_sat (P := P) hs hm size 0 #[] (o := 0) (by omega)
  refine ⟨.agg us.toArray, ?_, ?_⟩
  · simp at hr
    simp [resSem, hx, asAddr, loadVar, run_isAgg_agg, sizeOf, typeInfo, hi1, hi2, loadCells, hr]
  · simp only [nf, nfA, List.map_toArray]
    rw [hu]; simp [← hl]

theorem results_eq (fn : Func) (tmps : Array Value) : results fn tmps = (do let vs ← fn.results.mapM (resSem tmps); pure (if h : vs.size = 1 then vs[0] else .tuple vs)) := by
  unfold results
  congr 1

theorem resv_one {fn : Func} {r : ResultVar} {v : Value} (hr : fn.results = #[r]) (h : ResOne P T M r v) : ResV P fn T M v := by
  intro n tmps w0 B w ht hs
  obtain ⟨u, h1, h2⟩ := h n tmps w0 B w ht hs
  refine ⟨u, ?_, h2⟩
  rw [results_eq, hr]
  simp [h1]

theorem resv_two {fn : Func} {r1 r2 : ResultVar} {v1 v2 : Value} (hr : fn.results = #[r1, r2]) (h1 : ResOne P T M r1 v1) (h2 : ResOne P T M r2 v2) (n1 : notTup v1 = true) (n2 : notTup v2 = true) : ResV P fn T M (.tuple #[v1, v2]) := by
  intro n tmps w0 B w ht hs
  obtain ⟨u1, h1, e1⟩ := h1 n tmps w0 B w ht hs
  obtain ⟨u2, h2, e2⟩ := h2 n tmps w0 B w ht hs
  refine ⟨.tuple #[u1, u2], ?_, ?_⟩
  · rw [results_eq, hr]
    simp [h1, h2]
  · simp only [nf, List.map_toArray, List.map_cons, List.map_nil]
    rw [nfA_of_nf e1 n1, nfA_of_nf e2 n2]

theorem resv_three {fn : Func} {r1 r2 r3 : ResultVar} {v1 v2 v3 : Value} (hr : fn.results = #[r1, r2, r3]) (h1 : ResOne P T M r1 v1) (h2 : ResOne P T M r2 v2) (h3 : ResOne P T M r3 v3) (n1 : notTup v1 = true) (n2 : notTup v2 = true) (n3 : notTup v3 = true) :
    ResV P fn T M (.tuple #[v1, v2, v3]) := by
  intro n tmps w0 B w ht hs
  obtain ⟨u1, h1, e1⟩ := h1 n tmps w0 B w ht hs
  obtain ⟨u2, h2, e2⟩ := h2 n tmps w0 B w ht hs
  obtain ⟨u3, h3, e3⟩ := h3 n tmps w0 B w ht hs
  refine ⟨.tuple #[u1, u2, u3], ?_, ?_⟩
  · rw [results_eq, hr]
    simp [h1, h2, h3]
  · simp only [nf, List.map_toArray, List.map_cons, List.map_nil]
    rw [nfA_of_nf e1 n1, nfA_of_nf e2 n2, nfA_of_nf e3 n3]

theorem fC {fn : Func} {R : Value → Mem → Prop} {r : ResultVar} {v : Value} {M0 : Mem} (hr : fn.results = #[r]) (h : ResOne P T M r v) (hx : Ext M0 M) (k : R v M0) : Ret P fn R .ret T M := ⟨v, M0, hx, resv_one hr h, k⟩
theorem fC2 {fn : Func} {R : Value → Mem → Prop} {r1 r2 : ResultVar} {v1 v2 : Value} {M0 : Mem} (hr : fn.results = #[r1, r2]) (h1 : ResOne P T M r1 v1) (h2 : ResOne P T M r2 v2) (n1 : notTup v1 = true) (n2 : notTup v2 = true) (hx : Ext M0 M) (k : R (.tuple #[v1, v2]) M0) : Ret P fn R .ret T M := ⟨_, M0, hx, resv_two hr h1 h2 n1 n2, k⟩
theorem fC3 {fn : Func} {R : Value → Mem → Prop} {r1 r2 r3 : ResultVar} {v1 v2 v3 : Value} {M0 : Mem} (hr : fn.results = #[r1, r2, r3]) (h1 : ResOne P T M r1 v1) (h2 : ResOne P T M r2 v2) (h3 : ResOne P T M r3 v3) (n1 : notTup v1 = true) (n2 : notTup v2 = true) (n3 : notTup v3 = true) (hx : Ext M0 M) (k : R (.tuple #[v1, v2, v3]) M0) : Ret P fn R .ret T M := ⟨_, M0, hx, resv_three hr h1 h2 h3 n1 n2 n3, k⟩

/-! ## Slices that are read -/
/-- the slice v reads as these values, one cell each -/
def Rd (M : Mem) (v : Value) (vs : List Value) : Prop :=
  ∃ a c, v = .slice a vs.length c ∧ (vs = [] ∨ ∃ b o k, a = some ⟨b, o, none⟩ ∧ (b, k) ∈ M ∧ ∀ i, i < vs.length → k.cells[o + i]? = vs[i]?)

theorem Rd.mono {M M' : Mem} {v : Value} {vs : List Value} (h : Rd M v vs) (e : Ext M M') : Rd M' v vs := by
  obtain ⟨a, c, hv, h⟩ := h
  refine ⟨a, c, hv, h.imp id ?_⟩
  rintro ⟨b, o, k, h1, h2, h3⟩
  exact ⟨b, o, k, h1, e.mem h2, h3⟩

theorem Rd.head {M : Mem} {b : Nat} {vs : List Value} {wr : Bool} {c : Nat} : Rd ((b, ⟨vs, wr⟩) :: M) (.slice (some ⟨b, 0, none⟩) vs.length c) vs :=
  ⟨_, c, rfl, .inr ⟨b, 0, _, rfl, List.Mem.head _, fun i _ => by simp⟩⟩

abbrev fl (x : Nat) : Value := .float .f32 x
end
end Go.Proofs.Ytkbpdgacfeachaa.Ab
