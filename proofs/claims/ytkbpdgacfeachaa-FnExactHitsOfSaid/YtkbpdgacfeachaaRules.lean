/-
  The abstract layer: the rules under short names, as the walks use them.
-/
import Derived.Test.YtkbpdgacfeachaaPev
namespace Go.Proofs.Ytkbpdgacfeachaa.Ab
open Go Go.RowKit
set_option linter.unusedVariables false

section code
variable {P : Program} {n : Nat} {Q : Exit → Tm → Mem → Prop} {K : Tm → Mem → Prop} {T : Tm} {M : Mem}

theorem cS {x y : Code} (h : AWp P n x (Then (AWp P n y Q) Q) T M) : AWp P n (.seq x y) Q T M := awp_seq h
theorem cR {id : Nat} {l : List Oper} (h : Run P n l.toArray none (fun T M => Q .normal T M) (l.map fun o => (o, false)) T M) : AWp P n (.region id l.toArray false) Q T M := awp_region_text h
theorem cT {c : Operand} {x y : Code} (hc : ev T c = some (.bool true)) (h : AWp P n x Q T M) : AWp P n (.cond c x y) Q T M := awp_cond_true hc h
theorem cF {c : Operand} {x y : Code} (hc : ev T c = some (.bool false)) (h : AWp P n y Q T M) : AWp P n (.cond c x y) Q T M := awp_cond_false hc h
theorem cTa {c : Operand} {x y : Code} {t : Bool} (hc : ev T c = some (.bool t)) (ht : t = true) (h : AWp P n x Q T M) : AWp P n (.cond c x y) Q T M := awp_cond hc (fun _ => h) (fun e => by rw [ht] at e; cases e)
theorem cFa {c : Operand} {x y : Code} {t : Bool} (hc : ev T c = some (.bool t)) (ht : t = false) (h : AWp P n y Q T M) : AWp P n (.cond c x y) Q T M := awp_cond hc (fun e => by rw [ht] at e; cases e) (fun _ => h)
theorem cC {c : Operand} {x y : Code} {t : Bool} (hc : ev T c = some (.bool t)) (h1 : t = true → AWp P n x Q T M) (h2 : t = false → AWp P n y Q T M) : AWp P n (.cond c x y) Q T M := awp_cond hc h1 h2
theorem cB {id : Nat} {c : Code} (h : AWp P n c (InBlock id Q) T M) : AWp P n (.block id c) Q T M := awp_block h
theorem cX {id : Nat} (h : Q (.exit id) T M) : AWp P n (.exit id) Q T M := awp_exit h
theorem cE (h : Q .ret T M) : AWp P n .ret Q T M := awp_ret h
theorem cK (h : Q .normal T M) : AWp P n .skip Q T M := awp_skip h

theorem qN (h : K T M) : Then K Q .normal T M := h
theorem qX {j : Nat} (h : Q (.exit j) T M) : Then K Q (.exit j) T M := h
theorem qE (h : Q .ret T M) : Then K Q .ret T M := h
theorem qBN {id : Nat} (h : Q .normal T M) : InBlock id Q .normal T M := h
theorem qBE {id : Nat} (h : Q .ret T M) : InBlock id Q .ret T M := h
theorem qBX {id : Nat} (h : Q .normal T M) : InBlock id Q (.exit id) T M := by simpa [InBlock] using h
theorem qBY {id j : Nat} (hj : Nat.beq j id = false) (h : Q (.exit j) T M) : InBlock id Q (.exit j) T M := by
  have : j ≠ id := fun e => by subst e; simp at hj
  simpa [InBlock, this] using h

/-- what stands behind a round of a loop -/
def LoopQ (I : Nat → Tm → Mem → Prop) (m : Nat) (Q : Exit → Tm → Mem → Prop) : Exit → Tm → Mem → Prop
  | .normal, T', M' => ∃ m' T'' M'', m' < m ∧ I m' T'' M'' ∧ Sub T'' T' ∧ Ext M'' M'
  | e, T', M' => Q e T' M'

theorem cL {c : Code} (I : Nat → Tm → Mem → Prop) (m0 : Nat) (T0 : Tm) (M0 : Mem) (h0 : I m0 T0 M0) (hs : Sub T0 T) (hx : Ext M0 M)
    (h : ∀ m T M, I m T M → AWp P n c (LoopQ I m Q) T M) : AWp P n (.loop c) Q T M :=
  (awp_loop I m0 h0 fun m T M hi => (h m T M hi).mono fun e T' M' hq => by cases e <;> exact hq).less hs hx

theorem qLX {I : Nat → Tm → Mem → Prop} {m j : Nat} (h : Q (.exit j) T M) : LoopQ I m Q (.exit j) T M := h
theorem qLE {I : Nat → Tm → Mem → Prop} {m : Nat} (h : Q .ret T M) : LoopQ I m Q .ret T M := h
theorem qLN {I : Nat → Tm → Mem → Prop} {m m' : Nat} {T'' : Tm} {M'' : Mem} (hlt : m' < m) (hi : I m' T'' M'') (hs : Sub T'' T) (hx : Ext M'' M) : LoopQ I m Q .normal T M := ⟨m', T'', M'', hlt, hi, hs, hx⟩

/-- the end of a function of one result in a slot -/
theorem fE {fn : Func} {R : Value → Mem → Prop} {t : Nat} {v : Value} {M0 : Mem} (hr : fn.results = #[.tmp t]) (h : get T t = some v) (hx : Ext M0 M) (k : R v M0) : Ret P fn R .ret T M := ⟨v, M0, hx, resv_1 hr h, k⟩
theorem fE0 {fn : Func} {R : Value → Mem → Prop} {M0 : Mem} (hr : fn.results = #[]) (hx : Ext M0 M) (k : R (.tuple #[]) M0) : Ret P fn R .ret T M := ⟨_, M0, hx, resv_0 hr, k⟩
theorem fE2 {fn : Func} {R : Value → Mem → Prop} {t1 t2 : Nat} {v1 v2 : Value} {M0 : Mem} (hr : fn.results = #[.tmp t1, .tmp t2]) (h1 : get T t1 = some v1) (h2 : get T t2 = some v2) (n1 : notTup v1 = true) (n2 : notTup v2 = true) (hx : Ext M0 M) (k : R (.tuple #[v1, v2]) M0) : Ret P fn R .ret T M := ⟨_, M0, hx, resv_2 hr h1 h2 n1 n2, k⟩
theorem fE3 {fn : Func} {R : Value → Mem → Prop} {t1 t2 t3 : Nat} {v1 v2 v3 : Value} {M0 : Mem} (hr : fn.results = #[.tmp t1, .tmp t2, .tmp t3]) (h1 : get T t1 = some v1) (h2 : get T t2 = some v2) (h3 : get T t3 = some v3) (n1 : notTup v1 = true) (n2 : notTup v2 = true) (n3 : notTup v3 = true) (hx : Ext M0 M) (k : R (.tuple #[v1, v2, v3]) M0) : Ret P fn R .ret T M := ⟨_, M0, hx, resv_3 hr h1 h2 h3 n1 n2 n3, k⟩
/-- the same where the body runs out -/
theorem fN {fn : Func} {R : Value → Mem → Prop} (h : Ret P fn R .ret T M) : Ret P fn R .normal T M := h
theorem eR {M : Mem} : Ext M M := Ext.refl M
theorem eS {A M : Mem} {p : Nat × Blk} (h : Ext A M) : Ext A (p :: M) := Ext.trans h (Ext.cons p M)
theorem eK {A M : Mem} {p : Nat × Blk} (h : Ext A M) : Ext (p :: A) (p :: M) := by
  obtain ⟨R, h⟩ := h
  exact ⟨R, h.cons p⟩
end code

section run
variable {P : Program} {n : Nat} {T : Tm} {M : Mem} {ops : Array Oper} {st : Option (List Nat)} {Q : Tm → Mem → Prop} {fl : Bool} {l : List (Oper × Bool)} {d : Option Nat} {ty : Nat} {pos : String} {after : Array Edge}

theorem rN (h : Q T M) : Run P n ops st Q [] T M := h

theorem wanted_some {j dj : Nat} {w b : Bool} {o : Oper} (hg : o.guard = some (j, w)) (hd : ((ops[j]?).bind (·.dst)) = some dj) (hb : get T dj = some (.bool b)) : wantedA ops T o = some (b == w) := by
  unfold wantedA
  rw [hg]
  simp only [hd, hb, asB]

/-- a guarded operation: its guard is not known: two ways -/
theorem gC {j dj : Nat} {w b : Bool} {op : Op} (hd : ((ops[j]?).bind (·.dst)) = some dj) (hb : get T dj = some (.bool b))
    (h1 : b = true → Run P n ops st Q ((⟨d, op, ty, pos, after, some (j, w)⟩, fl) :: l) T M) (h2 : b = false → Run P n ops st Q ((⟨d, op, ty, pos, after, some (j, w)⟩, fl) :: l) T M) :
    Run P n ops st Q ((⟨d, op, ty, pos, after, some (j, w)⟩, fl) :: l) T M := by
  cases b
  · exact h2 rfl
  · exact h1 rfl

/-- it is passed over -/
theorem gS {j dj : Nat} {b : Bool} {op : Op} (hd : ((ops[j]?).bind (·.dst)) = some dj) (hb : get T dj = some (.bool b)) (he : b = false)
    (h : Run P n ops st Q l (putT n d undefV T) M) : Run P n ops st Q ((⟨d, op, ty, pos, after, some (j, true)⟩, fl) :: l) T M :=
  run_skip (by rw [wanted_some (o := ⟨d, op, ty, pos, after, some (j, true)⟩) rfl hd hb, he]; rfl) h
theorem gU {j dj : Nat} {b : Bool} {op : Op} (hd : ((ops[j]?).bind (·.dst)) = some dj) (hb : get T dj = some (.bool b)) (he : b = true)
    (h : Run P n ops st Q l (putT n d undefV T) M) : Run P n ops st Q ((⟨d, op, ty, pos, after, some (j, false)⟩, fl) :: l) T M :=
  run_skip (by rw [wanted_some (o := ⟨d, op, ty, pos, after, some (j, false)⟩) rfl hd hb, he]; rfl) h

/-- what should tell was passed over itself -/
theorem gN {j dj : Nat} {w : Bool} {op : Op} (hd : ((ops[j]?).bind (·.dst)) = some dj) (hb : get T dj = some undefV)
    (h : Run P n ops st Q l (putT n d undefV T) M) : Run P n ops st Q ((⟨d, op, ty, pos, after, some (j, w)⟩, fl) :: l) T M :=
  run_skip (by unfold wantedA; simp only [hd, hb]; simp [undefV, undef, nf, asB, isUndef]) h

/-- it is done: the guard is struck -/
theorem gG {j dj : Nat} {w b : Bool} {op : Op} (hd : ((ops[j]?).bind (·.dst)) = some dj) (hb : get T dj = some (.bool b)) (he : b = w)
    (h : Run P n ops st Q ((⟨d, op, ty, pos, after, none⟩, fl) :: l) T M) : Run P n ops st Q ((⟨d, op, ty, pos, after, some (j, w)⟩, fl) :: l) T M := by
  have hw : wantedA ops T ⟨d, op, ty, pos, after, some (j, w)⟩ = some true := by rw [wanted_some (o := ⟨d, op, ty, pos, after, some (j, w)⟩) rfl hd hb, he]; simp
  have h0 : wantedA ops T ⟨d, op, ty, pos, after, none⟩ = some true := rfl
  cases fl with
  | true =>
    obtain ⟨v, hreg, hv, k⟩ := h
    have strike : ∀ M', HoistOk P ops ⟨d, op, ty, pos, after, none⟩ T M' v → HoistOk P ops ⟨d, op, ty, pos, after, some (j, w)⟩ T M' v := by
      intro M' hv
      refine .inl ⟨hw, ?_⟩
      rcases hv with ⟨_, hv⟩ | ⟨hv, _⟩
      · exact hv
      · rw [h0] at hv; cases hv
    exact ⟨v, fun hx M' => strike M' (hreg hx M'), strike M hv, k⟩
  | false =>
    rcases h with ⟨_, hv⟩ | ⟨hv, _⟩
    · exact .inl ⟨hw, hv⟩
    · rw [h0] at hv; cases hv

theorem tame_pick {g : Option (Nat × Bool)} {c x y : Operand} {b : Bool} {v : Value} (hc : ev T c = some (.bool b)) (h1 : b = true → ev T x = some v) (h2 : b = false → ev T y = some v) : Tame P ⟨d, .pick c x y, ty, pos, after, g⟩ T M v :=
  tame_of fun T' M' he _ n w0 B a w ht hs => by
    have h0 := nf_bool (ev_sound ht (he c _ (by simp [Op.operands]) hc))
    cases b
    · exact ⟨a.eval y, w, by simp [execOp, h0, asBool], .refl w, ev_sound ht (he y v (by simp [Op.operands]) (h2 rfl))⟩
    · exact ⟨a.eval x, w, by simp [execOp, h0, asBool], .refl w, ev_sound ht (he x v (by simp [Op.operands]) (h1 rfl))⟩

theorem kT {c x y : Operand} {b : Bool} {v : Value} (hc : ev T c = some (.bool b)) (hb : b = true) (h1 : ev T x = some v) (k : Run P n ops st Q l (putT n d v T) M) : Run P n ops st Q ((⟨d, .pick c x y, ty, pos, after, none⟩, fl) :: l) T M :=
  run_tame rfl (tame_pick hc (fun _ => h1) (fun e => by rw [hb] at e; cases e)) k
theorem kF {c x y : Operand} {b : Bool} {v : Value} (hc : ev T c = some (.bool b)) (hb : b = false) (h1 : ev T y = some v) (k : Run P n ops st Q l (putT n d v T) M) : Run P n ops st Q ((⟨d, .pick c x y, ty, pos, after, none⟩, fl) :: l) T M :=
  run_tame rfl (tame_pick hc (fun e => by rw [hb] at e; cases e) (fun _ => h1)) k

theorem wrap_i64_in {z : Int} (h1 : -9223372036854775808 ≤ z) (h2 : z ≤ 9223372036854775807) : IntKind.i64.wrap z = z := by
  rw [IntKind.wrap_i64]; omega

/-- sums and differences that fit -/
theorem rA {x y : Operand} {t u : Nat} {a b : Int} (ex : ev T x = some (.int .i64 a)) (ey : ev T y = some (.int .i64 b)) (h1 : -9223372036854775808 ≤ a + b) (h2 : a + b ≤ 9223372036854775807)
    (k : Run P n ops st Q l (putT n d (.int .i64 (a + b)) T) M) : Run P n ops st Q ((⟨d, .binOp .add t x y u, ty, pos, after, none⟩, fl) :: l) T M :=
  run_tameR rfl (fun M' => by have := tame_add (P := P) (T := T) (M := M') (d := d) (ty := ty) (pos := pos) (after := after) (g := none) (tx := t) (tz := u) ex ey; rwa [wrap_i64_in h1 h2] at this) k
theorem rB {x y : Operand} {t u : Nat} {a b : Int} (ex : ev T x = some (.int .i64 a)) (ey : ev T y = some (.int .i64 b)) (h1 : -9223372036854775808 ≤ a - b) (h2 : a - b ≤ 9223372036854775807)
    (k : Run P n ops st Q l (putT n d (.int .i64 (a - b)) T) M) : Run P n ops st Q ((⟨d, .binOp .sub t x y u, ty, pos, after, none⟩, fl) :: l) T M :=
  run_tameR rfl (fun M' => by have := tame_sub (P := P) (T := T) (M := M') (d := d) (ty := ty) (pos := pos) (after := after) (g := none) (tx := t) (tz := u) ex ey; rwa [wrap_i64_in h1 h2] at this) k

theorem rI {t e bytes : Nat} {z : Value} [UnderT P t (.slice e)] [InfoT P e 1 bytes z] {x y : Operand} {b o m c : Nat} {ik : IntKind} {i : Int}
    (ex : ev T x = some (.slice (some ⟨b, o, none⟩) m c)) (ey : ev T y = some (.int ik i)) (h0 : 0 ≤ i) (h1 : i < m)
    (k : Run P n ops st Q l (putT n d (.pointer (some ⟨b, o + i.toNat, none⟩)) T) M) : Run P n ops st Q ((⟨d, .indexAddr t x y, ty, pos, after, none⟩, fl) :: l) T M :=
  run_tame rfl (tame_indexAddr1 ex ey h0 h1) k

theorem rL {t : Nat} [PlainT P t] {x : Operand} {b o : Nat} {k : Blk} {v : Value} (ex : ev T x = some (.pointer (some ⟨b, o, none⟩))) (hm : (b, k) ∈ M) (hv : k.cells[o]? = some v) (hf : flatV v = true)
    (kk : Run P n ops st Q l (putT n d v T) M) : Run P n ops st Q ((⟨d, .load t x, ty, pos, after, none⟩, fl) :: l) T M :=
  run_tame rfl (tame_load ex hm hv hf) kk

theorem rLA {t size bytes : Nat} {z : Value} [AggT P t] [InfoT P t size bytes z] {x : Operand} {b o : Nat} {k : Blk} {vs : List Value} (ex : ev T x = some (.pointer (some ⟨b, o, none⟩))) (hm : (b, k) ∈ M)
    (hv : (k.cells.drop o).take size = vs) (hl : Nat.ble (o + size) k.cells.length = true) (kk : Run P n ops st Q l (putT n d (.agg vs.toArray) T) M) : Run P n ops st Q ((⟨d, .load t x, ty, pos, after, none⟩, fl) :: l) T M :=
  run_tame rfl (tame_loadAgg ex hm hv (Nat.le_of_ble_eq_true hl)) kk

theorem rS {t bytes : Nat} {z : Value} [InfoT P t 1 bytes z] {x y : Operand} {b o : Nat} {k : Blk} {v : Value} (p : Nat)
    (ex : ev T x = some (.pointer (some ⟨b, o, none⟩))) (ey : ev T y = some v) (hf : flatV v = true) (hp : M[p]? = some (b, k)) (hw : k.wr = true) (ho : Nat.ble (o + 1) k.cells.length = true)
    (kk : Run P n ops st Q l T (M.set p (b, ⟨k.cells.set o v, true⟩))) : Run P n ops st Q ((⟨none, .store t x y, ty, pos, after, none⟩, false) :: l) T M :=
  run_step rfl (step_store p ex ey hf hp hw (Nat.le_of_ble_eq_true ho) ⟨fun _ _ h => by simp [keeps, writer, keptD] at h, kk⟩)

theorem rX {e : Nat} {x : Operand} {v : Value} (ex : ev T x = some v) (hn : notTup v = true) (kk : ∀ b, Run P n ops st Q l (putT n d (.pointer (some ⟨b, 0, none⟩)) T) ((b, ⟨v.cells.toList, true⟩) :: M)) :
    Run P n ops st Q ((⟨d, .box e x, ty, pos, after, none⟩, false) :: l) T M :=
  run_step rfl (step_box ex hn fun b => ⟨fun _ _ _ => Ext.cons _ _, kk b⟩)

theorem rO {e size bytes : Nat} {z : Value} [InfoT P e size bytes z] (kk : ∀ b, Run P n ops st Q l (putT n d (.pointer (some ⟨b, 0, none⟩)) T) ((b, ⟨z.cells.toList, true⟩) :: M)) :
    Run P n ops st Q ((⟨d, .alloc e, ty, pos, after, none⟩, false) :: l) T M :=
  run_step rfl (step_alloc fun b => ⟨fun _ _ _ => Ext.cons _ _, kk b⟩)

theorem rM {t e bytes : Nat} {z : Value} [UnderT P t (.slice e)] [InfoT P e 1 bytes z] {x y : Operand} {kx ky : IntKind} {m c : Int} (ex : ev T x = some (.int kx m)) (ey : ev T y = some (.int ky c)) (hfz : flatV z = true) (h0 : 0 ≤ m) (hmc : m ≤ c)
    (hc : c * bytes ≤ 281474976710656) (hc2 : c ≤ 4611686018427387904) (kk : ∀ b, Run P n ops st Q l (putT n d (.slice (some ⟨b, 0, none⟩) m.toNat c.toNat) T) ((b, ⟨List.replicate c.toNat z, true⟩) :: M)) :
    Run P n ops st Q ((⟨d, .makeSlice t x y, ty, pos, after, none⟩, false) :: l) T M :=
  run_step rfl (step_makeSlice ex ey hfz h0 hmc hc hc2 fun b => ⟨fun _ _ _ => Ext.cons _ _, kk b⟩)

/-- a call -/
theorem rC {f : Nat} {xs : List Operand} {ats : Array TypeId} {vs : List Value} {R : Value → Mem → Prop} [FuncT P f] (ea : evs T xs = some vs) (hc : ACall P f vs M R)
    (hk : ∀ v M', R v M' → (st.isSome = true → Ext M M') ∧ Run P n ops st Q l (putT n d v T) M') : Run P n ops st Q ((⟨d, .call { callee := .value (.func f), args := xs.toArray, argTypes := ats }, ty, pos, after, none⟩, false) :: l) T M :=
  run_step rfl (step_call ea hc fun v M' h => ⟨fun ks hs _ => (hk v M' h).1 (by rw [hs]; rfl), (hk v M' h).2⟩)

/-- a call that may change what was there -/
theorem rCw {f : Nat} {xs : List Operand} {ats : Array TypeId} {vs : List Value} {R : Value → Mem → Prop} [FuncT P f] (hw : ∀ ks, st = some ks → keeps ks ⟨d, .call { callee := .value (.func f), args := xs.toArray, argTypes := ats }, ty, pos, after, none⟩ = false) (ea : evs T xs = some vs) (hc : ACall P f vs M R)
    (hk : ∀ v M', R v M' → Run P n ops st Q l (putT n d v T) M') : Run P n ops st Q ((⟨d, .call { callee := .value (.func f), args := xs.toArray, argTypes := ats }, ty, pos, after, none⟩, false) :: l) T M :=
  run_step rfl (step_call ea hc fun v M' h => ⟨fun ks hs hk' => (by rw [hw ks hs] at hk'; cases hk'), hk v M' h⟩)

/-- a call that leaves the memory alone -/
theorem rCq {f : Nat} {xs : List Operand} {ats : Array TypeId} {vs : List Value} {r : Value} [FuncT P f] (ea : evs T xs = some vs) (hc : ACall P f vs M fun v M' => v = r ∧ M' = M)
    (hk : Run P n ops st Q l (putT n d r T) M) : Run P n ops st Q ((⟨d, .call { callee := .value (.func f), args := xs.toArray, argTypes := ats }, ty, pos, after, none⟩, false) :: l) T M :=
  rC ea hc fun v M' h => by obtain ⟨rfl, rfl⟩ := h; exact ⟨fun _ => Ext.refl _, hk⟩
end run

end Go.Proofs.Ytkbpdgacfeachaa.Ab
