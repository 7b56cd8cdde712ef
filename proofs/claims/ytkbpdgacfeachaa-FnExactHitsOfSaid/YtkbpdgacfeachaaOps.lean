/-
  The abstract layer's rules for operations: what each operation gives, up to NaN bits.
-/
import Derived.Test.YtkbpdgacfeachaaAb
namespace Go.Proofs.Ytkbpdgacfeachaa.Ab
open Go Go.RowKit
set_option linter.unusedVariables false
set_option linter.unusedSimpArgs false

/-! ## Facts on types, by instance -/
class UnderT (P : Program) (t : Nat) (d : outParam TypeDesc) : Prop where
  out : P.underlying t = some d
class InfoT (P : Program) (t : Nat) (size bytes : outParam Nat) (z : outParam Value) : Prop where
  out : ∃ i, P.info? t = some i ∧ i.size = size ∧ i.bytes = bytes ∧ i.zero = some z
  norm : z.cells.toList.map nfS = z.cells.toList
  cells_size : z.cells.size = size
def plainT (P : Program) (t : Nat) : Bool :=
  match P.underlying t with
  | some (.struct _) | some (.array _ _) | none => false
  | some _ => true
class PlainT (P : Program) (t : Nat) : Prop where
  out : plainT P t = true
def aggT (P : Program) (t : Nat) : Bool :=
  match P.underlying t with
  | some (.struct _) | some (.array _ _) => true
  | _ => false
class AggT (P : Program) (t : Nat) : Prop where
  out : aggT P t = true
class FuncT (P : Program) (f : Nat) : Prop where
  out : ∃ fn, P.funcs[f]? = some fn ∧ (fn.name == "runtime.NumGoroutine") = false ∧ fn.body.isNone = false
/-- field f of the struct t lies at this place and has this size (not nought) -/
class FieldT (P : Program) (t f : Nat) (off : outParam Nat) : Prop where
  out : ∃ fs fd, P.underlying t = some (.struct fs) ∧ fs[f]? = some fd ∧ fd.offset = off ∧ (∃ i, P.info? fd.type = some i ∧ (i.size == 0) = false)

theorem run_isAgg_plain {P : Program} {t : Nat} [h : PlainT P t] (w : World) : (isAgg t).run P w = .ok false w := by
  have := h.out
  unfold plainT at this
  cases hd : P.underlying t with
  | none => rw [hd] at this; simp at this
  | some d =>
    rw [hd] at this
    cases d <;> simp_all [isAgg, run_underlying hd]

theorem run_isAgg_agg {P : Program} {t : Nat} [h : AggT P t] (w : World) : (isAgg t).run P w = .ok true w := by
  have := h.out
  unfold aggT at this
  cases hd : P.underlying t with
  | none => rw [hd] at this; simp at this
  | some d =>
    rw [hd] at this
    cases d <;> simp_all [isAgg, run_underlying hd]

/-! ## Values and their shapes -/
/-- no struct, no array, no tuple -/
def flatV : Value → Bool
  | .agg _ | .tuple _ => false
  | _ => true
def notTup : Value → Bool
  | .tuple _ => false
  | _ => true

theorem nf_of_nfS {u v : Value} (h : nfS u = v) (hf : flatV v = true) : nf u = v := by
  cases u <;> simp_all [nfS, nf, nfA] <;> (subst h; simp [flatV] at hf)
theorem nfS_of_nf {u v : Value} (h : nf u = v) (hf : flatV v = true) : nfS u = v := by
  cases u <;> simp_all [nfS, nf, nfA] <;> (subst h; simp [flatV] at hf)
theorem flat_of_nf {u v : Value} (h : nf u = v) (hf : flatV v = true) : flatV u = true := by
  subst h; cases u <;> simp_all [nfS, nf, nfA, flatV]
theorem nf_of_nfA {u v : Value} (h : nfA u = v) (hf : notTup v = true) : nf u = v := by
  cases u <;> simp_all [nfS, nf, nfA] <;> (subst h; simp [notTup] at hf)
theorem nfA_of_nf {u v : Value} (h : nf u = v) (hf : notTup v = true) : nfA u = v := by
  cases u <;> simp_all [nfS, nf, nfA] <;> (subst h; simp [notTup] at hf)
theorem nf_flat {u : Value} (h : flatV u = true) : nf u = nfS u := by
  cases u <;> simp_all [nfS, nf, nfA, flatV]
theorem oneCell_flat {u : Value} (h : flatV u = true) : u.oneCell' = true := by
  cases u <;> simp_all [flatV, Value.oneCell']

theorem nf_int {v : Value} {k : IntKind} {n : Int} (h : nf v = .int k n) : v = .int k n := by
  cases v <;> simp_all [nf, nfA, nfS]
theorem nf_string {v : Value} {s : ByteArray} (h : nf v = .string s) : v = .string s := by
  cases v <;> simp_all [nf, nfA, nfS]
theorem nf_slice {v : Value} {a : Option Addr} {n c : Nat} (h : nf v = .slice a n c) : v = .slice a n c := by
  cases v <;> simp_all [nf, nfA, nfS]
theorem nf_pointer {v : Value} {a : Option Addr} (h : nf v = .pointer a) : v = .pointer a := by
  cases v <;> simp_all [nf, nfA, nfS]
theorem nf_func {v : Value} {f : Fn} {x y : Array Value} (h : nf v = .func f x y) : v = .func f x y := by
  cases v <;> simp_all [nf, nfA, nfS]
theorem nf_float {v : Value} {k : FloatKind} {b : Nat} (h : nf v = .float k b) : ∃ c, v = .float k c ∧ cb k c = b := by
  cases v <;> simp_all [nf, nfA, nfS]
  obtain ⟨rfl, h⟩ := h
  exact h
theorem nf_agg {v : Value} {cs : Array Value} (h : nf v = .agg cs) : ∃ ds, v = .agg ds ∧ ds.map nfS = cs := by
  cases v <;> simp_all [nf, nfA, nfS]
theorem nf_tuple {v : Value} {cs : Array Value} (h : nf v = .tuple cs) : ∃ ds, v = .tuple ds ∧ ds.map nfA = cs := by
  cases v <;> simp_all [nf, nfA, nfS]

/-! ## Operands of a tame operation -/
theorem ev_of {o : Oper} {T T' : Tm} (h : ∀ t, (Operand.tmp t) ∈ o.op.operands → get T' t = get T t) {x : Operand} {v : Value} (hx : x ∈ o.op.operands) (e : ev T x = some v) : ev T' x = some v := by
  cases x with
  | tmp t => show get T' t = some v; rw [h t hx]; exact e
  | const c => exact e
  | «global» g => exact e
  | func f => exact e

section
variable {P : Program} {T : Tm} {M : Mem} {d : Option Nat} {ty : Nat} {pos : String} {after : Array Edge} {g : Option (Nat × Bool)}

theorem tame_of {o : Oper} {v : Value} (h : ∀ T' M', (∀ x v, x ∈ o.op.operands → ev T x = some v → ev T' x = some v) → Ext M M' → Pure1 P o T' M' v) : Tame P o T M v :=
  fun T' M' h1 h2 => h T' M' (fun x v hx e => ev_of h1 hx e) h2

theorem tame_move {x : Operand} {v : Value} (h : ev T x = some v) : Tame P ⟨d, .move x, ty, pos, after, g⟩ T M v :=
  tame_of fun T' M' he _ n w0 B a w ht hs => ⟨a.eval x, w, rfl, .refl w, ev_sound ht (he x v (by simp [Op.operands]) h)⟩

theorem tame_assign {x : Operand} {v : Value} (h : ev T x = some v) : Tame P ⟨d, .assign x, ty, pos, after, g⟩ T M v :=
  tame_of fun T' M' he _ n w0 B a w ht hs => ⟨a.eval x, w, rfl, .refl w, ev_sound ht (he x v (by simp [Op.operands]) h)⟩

/-- an operation on two operands whose values are known to the bit -/
theorem tame_two {o : Oper} {x y : Operand} {u v r : Value} (hx : x ∈ o.op.operands) (hy : y ∈ o.op.operands) (ex : ev T x = some u) (ey : ev T y = some v)
    (h : ∀ (ρ : Operand → Value) (w : World), nf (ρ x) = u → nf (ρ y) = v → ∃ q w', (execOp ρ o).run P w = .ok (.value q) w' ∧ Quiet w w' ∧ nf q = r) : Tame P o T M r :=
  tame_of fun T' M' he _ n w0 B a w ht hs => h a.eval w (ev_sound ht (he x u hx ex)) (ev_sound ht (he y v hy ey))

theorem tame_one {o : Oper} {x : Operand} {u r : Value} (hx : x ∈ o.op.operands) (ex : ev T x = some u)
    (h : ∀ (ρ : Operand → Value) (w : World), nf (ρ x) = u → ∃ q w', (execOp ρ o).run P w = .ok (.value q) w' ∧ Quiet w w' ∧ nf q = r) : Tame P o T M r :=
  tame_of fun T' M' he _ n w0 B a w ht hs => h a.eval w (ev_sound ht (he x u hx ex))

section ints
variable {x y : Operand} {tx tz : Nat} {k : IntKind} {a b : Int}

theorem tame_add (ex : ev T x = some (.int k a)) (ey : ev T y = some (.int k b)) : Tame P ⟨d, .binOp .add tx x y tz, ty, pos, after, g⟩ T M (.int k (k.wrap (a + b))) :=
  tame_two (x := x) (y := y) (by simp [Op.operands]) (by simp [Op.operands]) ex ey fun ρ w hx hy => by
    refine ⟨.int k (k.wrap (a + b)), w, ?_, .refl w, rfl⟩
    simp [execOp, nf_int hx, nf_int hy, eqGuard, binOp, Op.intArith]
theorem tame_sub (ex : ev T x = some (.int k a)) (ey : ev T y = some (.int k b)) : Tame P ⟨d, .binOp .sub tx x y tz, ty, pos, after, g⟩ T M (.int k (k.wrap (a - b))) :=
  tame_two (x := x) (y := y) (by simp [Op.operands]) (by simp [Op.operands]) ex ey fun ρ w hx hy => by
    refine ⟨.int k (k.wrap (a - b)), w, ?_, .refl w, rfl⟩
    simp [execOp, nf_int hx, nf_int hy, eqGuard, binOp, Op.intArith]
theorem tame_mul (ex : ev T x = some (.int k a)) (ey : ev T y = some (.int k b)) : Tame P ⟨d, .binOp .mul tx x y tz, ty, pos, after, g⟩ T M (.int k (k.wrap (a * b))) :=
  tame_two (x := x) (y := y) (by simp [Op.operands]) (by simp [Op.operands]) ex ey fun ρ w hx hy => by
    refine ⟨.int k (k.wrap (a * b)), w, ?_, .refl w, rfl⟩
    simp [execOp, nf_int hx, nf_int hy, eqGuard, binOp, Op.intArith]
theorem tame_quo (ex : ev T x = some (.int k a)) (ey : ev T y = some (.int k b)) (hb : b ≠ 0) : Tame P ⟨d, .binOp .quo tx x y tz, ty, pos, after, g⟩ T M (.int k (k.wrap (a.tdiv b))) :=
  tame_two (x := x) (y := y) (by simp [Op.operands]) (by simp [Op.operands]) ex ey fun ρ w hx hy => by
    refine ⟨.int k (k.wrap (a.tdiv b)), w, ?_, .refl w, rfl⟩
    simp [execOp, nf_int hx, nf_int hy, eqGuard, binOp, Op.intDiv, hb]
theorem tame_rem (ex : ev T x = some (.int k a)) (ey : ev T y = some (.int k b)) (hb : b ≠ 0) : Tame P ⟨d, .binOp .rem tx x y tz, ty, pos, after, g⟩ T M (.int k (a.tmod b)) :=
  tame_two (x := x) (y := y) (by simp [Op.operands]) (by simp [Op.operands]) ex ey fun ρ w hx hy => by
    refine ⟨.int k (a.tmod b), w, ?_, .refl w, rfl⟩
    simp [execOp, nf_int hx, nf_int hy, eqGuard, binOp, Op.intDiv, hb]
theorem tame_lss (ex : ev T x = some (.int k a)) (ey : ev T y = some (.int k b)) : Tame P ⟨d, .binOp .lss tx x y tz, ty, pos, after, g⟩ T M (.bool (decide (a < b))) :=
  tame_two (x := x) (y := y) (by simp [Op.operands]) (by simp [Op.operands]) ex ey fun ρ w hx hy => by
    refine ⟨.bool (decide (a < b)), w, ?_, .refl w, rfl⟩
    simp [execOp, nf_int hx, nf_int hy, eqGuard, binOp, Op.intCmp]
theorem tame_leq (ex : ev T x = some (.int k a)) (ey : ev T y = some (.int k b)) : Tame P ⟨d, .binOp .leq tx x y tz, ty, pos, after, g⟩ T M (.bool (decide (a ≤ b))) :=
  tame_two (x := x) (y := y) (by simp [Op.operands]) (by simp [Op.operands]) ex ey fun ρ w hx hy => by
    refine ⟨.bool (decide (a ≤ b)), w, ?_, .refl w, rfl⟩
    simp [execOp, nf_int hx, nf_int hy, eqGuard, binOp, Op.intCmp]
theorem tame_gtr (ex : ev T x = some (.int k a)) (ey : ev T y = some (.int k b)) : Tame P ⟨d, .binOp .gtr tx x y tz, ty, pos, after, g⟩ T M (.bool (decide (b < a))) :=
  tame_two (x := x) (y := y) (by simp [Op.operands]) (by simp [Op.operands]) ex ey fun ρ w hx hy => by
    refine ⟨.bool (decide (b < a)), w, ?_, .refl w, rfl⟩
    simp [execOp, nf_int hx, nf_int hy, eqGuard, binOp, Op.intCmp]
theorem tame_geq (ex : ev T x = some (.int k a)) (ey : ev T y = some (.int k b)) : Tame P ⟨d, .binOp .geq tx x y tz, ty, pos, after, g⟩ T M (.bool (decide (b ≤ a))) :=
  tame_two (x := x) (y := y) (by simp [Op.operands]) (by simp [Op.operands]) ex ey fun ρ w hx hy => by
    refine ⟨.bool (decide (b ≤ a)), w, ?_, .refl w, rfl⟩
    simp [execOp, nf_int hx, nf_int hy, eqGuard, binOp, Op.intCmp]
theorem tame_eql (ex : ev T x = some (.int k a)) (ey : ev T y = some (.int k b)) : Tame P ⟨d, .binOp .eql tx x y tz, ty, pos, after, g⟩ T M (.bool (a == b)) :=
  tame_two (x := x) (y := y) (by simp [Op.operands]) (by simp [Op.operands]) ex ey fun ρ w hx hy => by
    refine ⟨.bool (a == b), w, ?_, .refl w, rfl⟩
    simp [execOp, nf_int hx, nf_int hy, binOp_eql, eqGuard_at_int]
theorem tame_neq (ex : ev T x = some (.int k a)) (ey : ev T y = some (.int k b)) : Tame P ⟨d, .binOp .neq tx x y tz, ty, pos, after, g⟩ T M (.bool (a != b)) :=
  tame_two (x := x) (y := y) (by simp [Op.operands]) (by simp [Op.operands]) ex ey fun ρ w hx hy => by
    refine ⟨.bool (a != b), w, ?_, .refl w, rfl⟩
    simp [execOp, nf_int hx, nf_int hy, binOp_neq, eqGuard_at_int]
theorem tame_neg (ex : ev T x = some (.int k a)) : Tame P ⟨d, .unOp .neg tx x, ty, pos, after, g⟩ T M (.int k (k.wrap (0 - a))) :=
  tame_one (x := x) (by simp [Op.operands]) ex fun ρ w hx => by
    refine ⟨.int k (k.wrap (0 - a)), w, ?_, .refl w, rfl⟩
    simp [execOp, nf_int hx, Op.unary, Op.intArith]
theorem tame_not {t : Bool} (ex : ev T x = some (.bool t)) : Tame P ⟨d, .unOp .not tx x, ty, pos, after, g⟩ T M (.bool (!t)) :=
  tame_one (x := x) (by simp [Op.operands]) ex fun ρ w hx => by
    refine ⟨.bool (!t), w, ?_, .refl w, rfl⟩
    simp [execOp, nf_bool hx, Op.unary]
theorem tame_neqB {s t : Bool} [hu : UnderT P tx .bool] (ex : ev T x = some (.bool s)) (ey : ev T y = some (.bool t)) : Tame P ⟨d, .binOp .neq tx x y tz, ty, pos, after, g⟩ T M (.bool (s != t)) :=
  tame_two (x := x) (y := y) (by simp [Op.operands]) (by simp [Op.operands]) ex ey fun ρ w hx hy => by
    refine ⟨.bool (s != t), w, ?_, .refl w, rfl⟩
    simp [execOp, nf_bool hx, nf_bool hy, eqGuard_at_bool, run_neq_bool w tx s t hu.out, bne]
theorem tame_eqlB {s t : Bool} [hu : UnderT P tx .bool] (ex : ev T x = some (.bool s)) (ey : ev T y = some (.bool t)) : Tame P ⟨d, .binOp .eql tx x y tz, ty, pos, after, g⟩ T M (.bool (s == t)) :=
  tame_two (x := x) (y := y) (by simp [Op.operands]) (by simp [Op.operands]) ex ey fun ρ w hx hy => by
    refine ⟨.bool (s == t), w, ?_, .refl w, rfl⟩
    simp [execOp, nf_bool hx, nf_bool hy, eqGuard_at_bool, run_eql_bool w tx s t hu.out]
end ints

/-! ## Floats -/
theorem nanB_qn (k : FloatKind) : nanB k (qn k) = true := by cases k <;> decide
theorem cb_idem (k : FloatKind) (b : Nat) : cb k (cb k b) = cb k b := by
  unfold cb
  split
  · rw [nanB_qn]; rfl
  · rfl
theorem nanB_cb (k : FloatKind) (b : Nat) : nanB k (cb k b) = nanB k b := by
  unfold cb
  split
  · rename_i h; rw [h, nanB_qn]
  · rfl
theorem cb_cases (k : FloatKind) (b : Nat) : (nanB k b = true ∧ cb k b = qn k) ∨ (nanB k b = false ∧ cb k b = b) := by
  unfold cb
  cases h : nanB k b
  · right; simp
  · left; simp

theorem nan_read {k : FloatKind} {b : Nat} (h : nanB k b = true) : ∃ s f, k.format.read b = .nan s f := by
  unfold nanB FloatKind.decode at h
  cases hr : k.format.read b <;> rw [hr] at h <;> simp [Ieee.Datum.isNaN] at h
  exact ⟨_, _, rfl⟩

def fop (op : BinOp) (k : FloatKind) (a b : Nat) : Nat :=
  match floatBits op k a b with
  | some r => cb k r
  | none => qn k
abbrev fadd (k : FloatKind) (a b : Nat) : Nat := fop .add k a b
abbrev fsub (k : FloatKind) (a b : Nat) : Nat := fop .sub k a b
abbrev fmul (k : FloatKind) (a b : Nat) : Nat := fop .mul k a b
abbrev fdiv (k : FloatKind) (a b : Nat) : Nat := fop .quo k a b

theorem sum_nan_right (x : Ieee.Datum) (s : Bool) (f : Nat) : x.sum (.nan s f) = none := by cases x <;> rfl
theorem product_nan_right (x : Ieee.Datum) (s : Bool) (f : Nat) : x.product (.nan s f) = none := by cases x <;> rfl
theorem quotient_nan_right (d : Nat) (x : Ieee.Datum) (s : Bool) (f : Nat) : x.quotient d (.nan s f) = none := by cases x <;> rfl
theorem order_nan_right (x : Ieee.Datum) (s : Bool) (f : Nat) : x.order (.nan s f) = none := by cases x <;> rfl

def arith : BinOp → Bool
  | .add | .sub | .mul | .quo => true
  | _ => false

theorem floatBits_nan_left {op : BinOp} {k : FloatKind} {x y : Nat} (h : nanB k x = true) : floatBits op k x y = none := by
  obtain ⟨s, f, hr⟩ := nan_read h
  cases op <;> simp [floatBits, Ieee.Format.add, Ieee.Format.sub, Ieee.Format.mul, Ieee.Format.div, hr, Ieee.Datum.sum, Ieee.Datum.product, Ieee.Datum.quotient]
theorem floatBits_nan_right {op : BinOp} {k : FloatKind} {x y : Nat} (h : nanB k y = true) : floatBits op k x y = none := by
  obtain ⟨s, f, hr⟩ := nan_read h
  cases op <;> simp [floatBits, Ieee.Format.add, Ieee.Format.sub, Ieee.Format.mul, Ieee.Format.div, hr, sum_nan_right, product_nan_right, quotient_nan_right, Ieee.Datum.opposite]
theorem order_nan_l {k : FloatKind} {x y : Nat} (h : nanB k x = true) : k.format.order x y = none := by
  obtain ⟨s, f, hr⟩ := nan_read h
  simp [Ieee.Format.order, hr, Ieee.Datum.order]
theorem order_nan_r {k : FloatKind} {x y : Nat} (h : nanB k y = true) : k.format.order x y = none := by
  obtain ⟨s, f, hr⟩ := nan_read h
  simp [Ieee.Format.order, hr, order_nan_right]

theorem floatBits_cb (op : BinOp) (k : FloatKind) (x y : Nat) : floatBits op k (cb k x) (cb k y) = floatBits op k x y := by
  rcases cb_cases k x with ⟨h1, e1⟩ | ⟨h1, e1⟩
  · rw [floatBits_nan_left h1, floatBits_nan_left (by rw [nanB_cb]; exact h1)]
  · rcases cb_cases k y with ⟨h2, e2⟩ | ⟨h2, e2⟩
    · rw [floatBits_nan_right h2, floatBits_nan_right (by rw [nanB_cb]; exact h2)]
    · rw [e1, e2]
theorem order_cb (k : FloatKind) (x y : Nat) : k.format.order (cb k x) (cb k y) = k.format.order x y := by
  rcases cb_cases k x with ⟨h1, e1⟩ | ⟨h1, e1⟩
  · rw [order_nan_l h1, order_nan_l (by rw [nanB_cb]; exact h1)]
  · rcases cb_cases k y with ⟨h2, e2⟩ | ⟨h2, e2⟩
    · rw [order_nan_r h2, order_nan_r (by rw [nanB_cb]; exact h2)]
    · rw [e1, e2]

/-- bits drawn for a NaN are those of a NaN -/
theorem nan_cut32 (t : Nat) : nanB .f32 (t % 2 * 2147483648 + 2139095040 + 1 + t / 2 % 8388607) = true := by
  have h1 : t % 2 < 2 := Nat.mod_lt _ (by decide)
  have h2 : t / 2 % 8388607 < 8388607 := Nat.mod_lt _ (by decide)
  generalize t % 2 = a at *
  generalize t / 2 % 8388607 = c at *
  have hr : (a * 2147483648 + 2139095040 + 1 + c) % 2147483648 = 2139095041 + c := by omega
  unfold nanB FloatKind.decode FloatKind.format Ieee.Format.read
  have e1 : Ieee.single.signWeight = 2147483648 := by decide
  have e2 : Ieee.single.binade = 8388608 := by decide
  have e3 : Ieee.single.infRung = 2139095040 := by decide
  simp only [e1, e2, e3, hr]
  rw [if_neg (by omega), if_neg (by omega), if_neg (by omega)]
  rfl
theorem nan_cut64 (t : Nat) : nanB .f64 (t % 2 * 9223372036854775808 + 9218868437227405312 + 1 + t / 2 % 4503599627370495) = true := by
  have h1 : t % 2 < 2 := Nat.mod_lt _ (by decide)
  have h2 : t / 2 % 4503599627370495 < 4503599627370495 := Nat.mod_lt _ (by decide)
  generalize t % 2 = a at *
  generalize t / 2 % 4503599627370495 = c at *
  have hr : (a * 9223372036854775808 + 9218868437227405312 + 1 + c) % 9223372036854775808 = 9218868437227405313 + c := by omega
  unfold nanB FloatKind.decode FloatKind.format Ieee.Format.read
  have e1 : Ieee.double.signWeight = 9223372036854775808 := by decide
  have e2 : Ieee.double.binade = 4503599627370496 := by decide
  have e3 : Ieee.double.infRung = 9218868437227405312 := by decide
  simp only [e1, e2, e3, hr]
  rw [if_neg (by omega), if_neg (by omega), if_neg (by omega)]
  rfl

theorem quiet_drew (w : World) : Quiet w { w with drawn := w.drawn + 1 } := ⟨rfl, rfl, rfl, rfl⟩

theorem run_nanBits {α : Type} (w : World) (k : FloatKind) (x y : Nat) (f : Nat → Sem α) : ∃ c, nanB k c = true ∧ (choose (.nanBits k x y) >>= f).run P w = (f c).run P { w with drawn := w.drawn + 1 } := by
  cases k
  · refine ⟨_, nan_cut32 (w.tape w.drawn (.nanBits .f32 x y)), ?_⟩
    simp [Question.forced, Question.cut]
  · refine ⟨_, nan_cut64 (w.tape w.drawn (.nanBits .f64 x y)), ?_⟩
    simp [Question.forced, Question.cut]

section floats
variable {x y : Operand} {tx tz : Nat} {k : FloatKind} {a b : Nat}

theorem run_floatArith {op : BinOp} (hop : arith op = true) (w : World) (c e : Nat) : ∃ q w', (Op.floatArith op k c e).run P w = .ok q w' ∧ Quiet w w' ∧ nf q = .float k (fop op k (cb k c) (cb k e)) := by
  unfold fop
  rw [floatBits_cb]
  have hw := quiet_drew w
  cases hfb : floatBits op k c e with
  | some r =>
    refine ⟨.float k r, w, ?_, .refl w, rfl⟩
    cases op <;> simp [arith] at hop <;> (unfold floatBits at hfb; simp only at hfb; simp [Op.floatArith, hfb])
  | none =>
    obtain ⟨v, hv, hrun⟩ := run_nanBits (P := P) w k c e (fun r => (Pure.pure (Value.float k r) : Sem Value))
    refine ⟨.float k v, _, ?_, hw, by simp [nf, nfA, nfS, cb, hv]⟩
    cases op <;> simp [arith] at hop <;> (unfold floatBits at hfb; simp only at hfb; simp only [Op.floatArith, hfb, pure_bind]; exact hrun)

theorem tame_fop {op : BinOp} (hop : arith op = true) (ex : ev T x = some (.float k a)) (ey : ev T y = some (.float k b)) : Tame P ⟨d, .binOp op tx x y tz, ty, pos, after, g⟩ T M (.float k (fop op k a b)) :=
  tame_two (x := x) (y := y) (by simp [Op.operands]) (by simp [Op.operands]) ex ey fun ρ w hx hy => by
    obtain ⟨c, hc, hc'⟩ := nf_float hx
    obtain ⟨e, he, he'⟩ := nf_float hy
    obtain ⟨q, w', hr, hq, hn⟩ := run_floatArith (P := P) (k := k) hop w c e
    rw [hc', he'] at hn
    refine ⟨q, w', ?_, hq, hn⟩
    cases op <;> simp [arith] at hop <;> simp [execOp, hc, he, eqGuard, binOp, hr]

/-- comparing -/
def fcmp (op : BinOp) (k : FloatKind) (a b : Nat) : Bool :=
  match op with
  | .eql => k.format.order a b == some .eq
  | .neq => k.format.order a b != some .eq
  | .lss => k.format.order a b == some .lt
  | .leq => k.format.order a b == some .lt || k.format.order a b == some .eq
  | .gtr => k.format.order a b == some .gt
  | .geq => k.format.order a b == some .gt || k.format.order a b == some .eq
  | _ => false
def compares : BinOp → Bool
  | .eql | .neq | .lss | .leq | .gtr | .geq => true
  | _ => false

theorem tame_fcmp {op : BinOp} (hop : compares op = true) (ex : ev T x = some (.float k a)) (ey : ev T y = some (.float k b)) : Tame P ⟨d, .binOp op tx x y tz, ty, pos, after, g⟩ T M (.bool (fcmp op k a b)) :=
  tame_two (x := x) (y := y) (by simp [Op.operands]) (by simp [Op.operands]) ex ey fun ρ w hx hy => by
    obtain ⟨c, hc, rfl⟩ := nf_float hx
    obtain ⟨e, he, rfl⟩ := nf_float hy
    refine ⟨.bool (fcmp op k (cb k c) (cb k e)), w, ?_, .refl w, rfl⟩
    cases op <;> simp [compares] at hop <;> simp [execOp, hc, he, eqGuard_at_float, binOp, Op.floatCmp, fcmp, order_cb]

def fneg (k : FloatKind) (a : Nat) : Nat := cb k (Op.negFloat k a)
end floats

/-! ## Memory: reading -/
theorem cell_of {w0 : World} {B : Nat} {w : World} {M : Mem} (hs : SatF w0 B w M) {b o : Nat} {k : Blk} {v : Value} (hm : (b, k) ∈ M) (hv : k.cells[o]? = some v) :
    ∃ u, w.cell? ⟨b, o, none⟩ = some u ∧ nfS u = v := by
  obtain ⟨c, E, fr, hc, h1, h2⟩ := hs.ok _ hm
  simp only at hc h1
  rw [← h1, List.getElem?_map] at hv
  cases hq : c.toList[o]? with
  | none => rw [hq] at hv; cases hv
  | some u =>
    rw [hq] at hv
    refine ⟨u, ?_, by simpa using hv⟩
    simp [World.cell?, hc]
    simpa using hq

theorem tame_load {tl : Nat} [hp : PlainT P tl] {x : Operand} {b o : Nat} {k : Blk} {v : Value} (ex : ev T x = some (.pointer (some ⟨b, o, none⟩))) (hm : (b, k) ∈ M) (hv : k.cells[o]? = some v) (hf : flatV v = true) :
    Tame P ⟨d, .load tl x, ty, pos, after, g⟩ T M v :=
  tame_of fun T' M' he hx n w0 B a w ht hs => by
    obtain ⟨u, hu, hn⟩ := cell_of hs (hx.mem hm) hv
    refine ⟨u, w, ?_, .refl w, nf_of_nfS hn hf⟩
    have hp1 := nf_pointer (ev_sound ht (he x _ (by simp [Op.operands]) ex))
    simp [execOp, hp1, Instr.loadAt, Instr.sureAddr, loadVar, run_isAgg_plain, run_load, hu]

theorem run_loadCells_sat {w0 : World} {B : Nat} {w : World} {M : Mem} (hs : SatF w0 B w M) {b o : Nat} {k : Blk} (hm : (b, k) ∈ M) : ∀ (m i : Nat) (acc : Array Value), o + i + m ≤ k.cells.length →
    ∃ us : List Value, (loadCellsFrom ⟨b, o, none⟩ i m acc).run P w = .ok (acc ++ us.toArray) w ∧ us.map nfS = (k.cells.drop (o + i)).take m := by
  intro m
  induction m with
  | zero => intro i acc _; exact ⟨[], by simp [loadCellsFrom], by simp⟩
  | succ m ih =>
    intro i acc hl
    have hlt : o + i < k.cells.length := by omega
    obtain ⟨u, hu, hn⟩ := cell_of hs hm (List.getElem?_eq_getElem hlt)
    obtain ⟨us, hr, he⟩ := ih (i + 1) (acc.push u) (by omega)
    refine ⟨u :: us, ?_, ?_⟩
    · simp only [loadCellsFrom, Sem.run_bind, run_load, Addr.add_lit, hu]
      simpa [Nat.add_assoc] using hr
    · rw [List.map_cons, he, hn, List.drop_eq_getElem_cons hlt, List.take_succ_cons, Nat.add_assoc]

theorem tame_loadAgg {tl size bytes : Nat} {z : Value} [hp : AggT P tl] [hi : InfoT P tl size bytes z] {x : Operand} {b o : Nat} {k : Blk} {vs : List Value} (ex : ev T x = some (.pointer (some ⟨b, o, none⟩))) (hm : (b, k) ∈ M)
    (hv : (k.cells.drop o).take size = vs) (hl : o + size ≤ k.cells.length) : Tame P ⟨d, .load tl x, ty, pos, after, g⟩ T M (.agg vs.toArray) :=
  tame_of fun T' M' he hx n w0 B a w ht hs => by
    obtain ⟨i, hi1, hi2, hi3, hi4⟩ := hi.out
    obtain ⟨us, hr, hu⟩ := run_loadCells_sat (P := P) hs (hx.mem hm) size 0 #[] (o := o) (by omega)
    refine ⟨.agg us.toArray, w, ?_, .refl w, ?_⟩
    · have hp1 := nf_pointer (ev_sound ht (he x _ (by simp [Op.operands]) ex))
      simp at hr
      simp [execOp, hp1, Instr.loadAt, Instr.sureAddr, loadVar, run_isAgg_agg, sizeOf, typeInfo, hi1, hi2, loadCells, hr]
    · rw [← hv]
      simp only [nf, nfA, List.map_toArray]
      rw [hu]; rfl

theorem tame_indexAddr {tx e size bytes : Nat} {z : Value} [hu : UnderT P tx (.slice e)] [hi : InfoT P e size bytes z] {x y : Operand} {b o m c : Nat} {ik : IntKind} {i : Int}
    (ex : ev T x = some (.slice (some ⟨b, o, none⟩) m c)) (ey : ev T y = some (.int ik i)) (h0 : 0 ≤ i) (h1 : i < m) :
    Tame P ⟨d, .indexAddr tx x y, ty, pos, after, g⟩ T M (.pointer (some ⟨b, o + i.toNat * size, none⟩)) :=
  tame_two (x := x) (y := y) (by simp [Op.operands]) (by simp [Op.operands]) ex ey fun ρ w hx hy => by
    obtain ⟨inf, hi1, hi2, hi3, hi4⟩ := hi.out
    refine ⟨.pointer (some ⟨b, o + i.toNat * size, none⟩), w, ?_, .refl w, rfl⟩
    simp [execOp, nf_slice hx, nf_int hy, Instr.indexAt, asIntOf, run_underlying hu.out, h0, h1, sizeOf, typeInfo, hi1, hi2, Addr.add_lit]

/-- elements of one cell -/
theorem tame_indexAddr1 {tx e bytes : Nat} {z : Value} [hu : UnderT P tx (.slice e)] [hi : InfoT P e 1 bytes z] {x y : Operand} {b o m c : Nat} {ik : IntKind} {i : Int}
    (ex : ev T x = some (.slice (some ⟨b, o, none⟩) m c)) (ey : ev T y = some (.int ik i)) (h0 : 0 ≤ i) (h1 : i < m) :
    Tame P ⟨d, .indexAddr tx x y, ty, pos, after, g⟩ T M (.pointer (some ⟨b, o + i.toNat, none⟩)) := by
  have := tame_indexAddr (P := P) (T := T) (M := M) (d := d) (ty := ty) (pos := pos) (after := after) (g := g) (tx := tx) ex ey h0 h1
  rwa [Nat.mul_one] at this

theorem tame_fieldAddr {tx f off : Nat} [hf : FieldT P tx f off] {x : Operand} {b o : Nat} (ex : ev T x = some (.pointer (some ⟨b, o, none⟩))) :
    Tame P ⟨d, .fieldAddr tx x f, ty, pos, after, g⟩ T M (.pointer (some ⟨b, o + off, none⟩)) :=
  tame_one (x := x) (by simp [Op.operands]) ex fun ρ w hx => by
    obtain ⟨fs, fd, h1, h2, h3, i, h4, h5⟩ := hf.out
    refine ⟨.pointer (some ⟨b, o + off, none⟩), w, ?_, .refl w, rfl⟩
    simp [execOp, nf_pointer hx, Instr.fieldAt, run_underlying h1, h2, Instr.sureAddr, fieldPlace, sizeOf, typeInfo, h4, Addr.add_lit, h3]
    intro h0
    rw [h0] at h5; simp at h5

theorem tame_nilCheck {x : Operand} {a : Addr} (ex : ev T x = some (.pointer (some a))) : Tame P ⟨d, .nilCheck x, ty, pos, after, g⟩ T M (.pointer (some a)) :=
  tame_one (x := x) (by simp [Op.operands]) ex fun ρ w hx => by
    refine ⟨.pointer (some a), w, ?_, .refl w, rfl⟩
    simp [execOp, nf_pointer hx]

theorem tame_extract {x : Operand} {i : Nat} {vs : Array Value} {v : Value} (ex : ev T x = some (.tuple vs)) (hv : vs[i]? = some v) (hn : notTup v = true) : Tame P ⟨d, .extract x i, ty, pos, after, g⟩ T M v :=
  tame_one (x := x) (by simp [Op.operands]) ex fun ρ w hx => by
    obtain ⟨ds, hd, hm⟩ := nf_tuple hx
    rw [← hm, Array.getElem?_map] at hv
    cases hq : ds[i]? with
    | none => rw [hq] at hv; cases hv
    | some u =>
      rw [hq] at hv
      refine ⟨u, w, ?_, .refl w, nf_of_nfA (by simpa using hv) hn⟩
      simp [execOp, hd, Instr.extract, hq]

theorem tame_len {tx e : Nat} [hu : UnderT P tx (.slice e)] {x : Operand} {a : Option Addr} {m c : Nat} (ex : ev T x = some (.slice a m c)) :
    Tame P ⟨d, .call { callee := .builtin .len, args := #[x], argTypes := #[tx] }, ty, pos, after, g⟩ T M (.int .i64 m) :=
  tame_one (x := x) (by simp [Op.operands, Call.operands]) ex fun ρ w hx => by
    refine ⟨.int .i64 m, w, ?_, .refl w, rfl⟩
    simp [execOp, resolve, nf_slice hx, invoke, builtin, Builtin.len_, run_underlying hu.out, goInt]

theorem tame_lenS {tx : Nat} [hu : UnderT P tx .string] {x : Operand} {s : ByteArray} (ex : ev T x = some (.string s)) :
    Tame P ⟨d, .call { callee := .builtin .len, args := #[x], argTypes := #[tx] }, ty, pos, after, g⟩ T M (.int .i64 s.size) :=
  tame_one (x := x) (by simp [Op.operands, Call.operands]) ex fun ρ w hx => by
    refine ⟨.int .i64 s.size, w, ?_, .refl w, rfl⟩
    simp [execOp, resolve, nf_string hx, invoke, builtin, Builtin.len_, run_underlying hu.out, goInt]

/-! ## Memory: making and writing -/
theorem SatF.alloc {w0 : World} {B : Nat} {w : World} {M : Mem} (hs : SatF w0 B w M) (c : Array Value) (E : TypeId) : SatF w0 B (w.alloc (.cells c E)) ((w.heap.size, ⟨c.toList.map nfS, true⟩) :: M) := by
  refine ⟨hs.below.alloc hs.room _, by simp; have := hs.room; omega, fun p hp => ?_, ?_⟩
  · rcases List.mem_cons.1 hp with rfl | hp
    · refine ⟨c, E, (0, 0), ?_, rfl, fun _ => ⟨rfl, hs.room⟩⟩
      show (w.heap.push _)[w.heap.size]? = _
      simp
    · obtain ⟨c', E', fr, hc, h1, h2⟩ := hs.ok p hp
      have hlt : p.1 < w.heap.size := by
        rcases Nat.lt_or_ge p.1 w.heap.size with h | h
        · exact h
        · rw [Array.getElem?_eq_none h] at hc; cases hc
      exact ⟨c', E', fr, by rw [Below.heap_alloc w _ _ hlt]; exact hc, h1, h2⟩
  · refine List.Pairwise.cons (fun q hq _ => ?_) hs.apart
    obtain ⟨c', E', fr, hc, h1, h2⟩ := hs.ok q hq
    intro he
    simp only at he
    rw [← he, Array.getElem?_eq_none (Nat.le_refl _)] at hc
    cases hc

theorem apart_ne {M : Mem} (h : M.Pairwise apartIf) {p j : Nat} {b : Nat} {k : Blk} {q : Nat × Blk} (hp : M[p]? = some (b, k)) (hw : k.wr = true) (hj : M[j]? = some q) (hne : j ≠ p) : q.1 ≠ b := by
  rw [List.pairwise_iff_getElem] at h
  obtain ⟨hp1, hp2⟩ := List.getElem?_eq_some_iff.1 hp
  obtain ⟨hj1, hj2⟩ := List.getElem?_eq_some_iff.1 hj
  rcases Nat.lt_or_gt_of_ne hne with hlt | hlt
  · have := h j p hj1 hp1 hlt
    rw [hp2, hj2] at this
    exact this (.inr hw)
  · have := h p j hp1 hj1 hlt
    rw [hp2, hj2] at this
    exact fun e => this (.inl hw) e.symm

theorem apart_set {M : Mem} (h : M.Pairwise apartIf) {p : Nat} {b : Nat} {k k' : Blk} (hp : M[p]? = some (b, k)) (hw : k.wr = true) : (M.set p (b, k')).Pairwise apartIf := by
  have h0 := h
  rw [List.pairwise_iff_getElem] at h ⊢
  intro i j hi hj hlt
  simp only [List.length_set] at hi hj
  rw [List.getElem_set, List.getElem_set]
  split
  · rename_i hpi
    rw [if_neg (by omega)]
    intro _ he
    exact apart_ne h0 hp hw (List.getElem?_eq_getElem hj) (by omega) he.symm
  · split
    · intro _ he
      exact apart_ne h0 hp hw (List.getElem?_eq_getElem hi) (by omega) he
    · exact h i j hi hj hlt

theorem SatF.setCell {w0 : World} {B : Nat} {w : World} {M : Mem} (hs : SatF w0 B w M) {p : Nat} {b o : Nat} {k : Blk} (hp : M[p]? = some (b, k)) (hw : k.wr = true) (u : Value) :
    SatF w0 B (w.setCell ⟨b, o, none⟩ u) (M.set p (b, ⟨k.cells.set o (nfS u), true⟩)) := by
  obtain ⟨c, E, fr, hc, h1, h2⟩ := hs.ok (b, k) (List.mem_of_getElem? hp)
  obtain ⟨hfr, hB⟩ := h2 hw
  simp only at hc h1 hB
  have hother : ∀ j, j ≠ b → (w.setCell ⟨b, o, none⟩ u).heap[j]? = w.heap[j]? := fun j hj => Below.heap_setCell w ⟨b, o, none⟩ u j hj
  have hself : (w.setCell ⟨b, o, none⟩ u).heap[b]? = some (.cells (c.setIfInBounds o u) E fr) := by
    simp [World.setCell, Array.getElem?_modify, hc]
  refine ⟨hs.below.setCell hB u, by simp [World.setCell]; exact hs.room, fun q hq => ?_, apart_set hs.apart hp hw⟩
  obtain ⟨j, hj⟩ := List.mem_iff_getElem?.1 hq
  rw [List.getElem?_set] at hj
  split at hj
  · split at hj
    · cases hj
      exact ⟨_, E, fr, hself, by simp [← h1, List.map_set], fun _ => ⟨hfr, hB⟩⟩
    · cases hj
  · rename_i hpj
    have hqb := apart_ne hs.apart hp hw hj (fun e => hpj e.symm)
    obtain ⟨c', E', fr', hc', h1', h2'⟩ := hs.ok q (List.mem_of_getElem? hj)
    exact ⟨c', E', fr', by rw [hother _ hqb]; exact hc', h1', h2'⟩

/-- a store of a value of one cell -/
theorem step_store {n : Nat} {K : Value → Mem → Prop} {tl bytes : Nat} {z : Value} [hi : InfoT P tl 1 bytes z] {x y : Operand} {b o : Nat} {k : Blk} {v : Value} (p : Nat)
    (ex : ev T x = some (.pointer (some ⟨b, o, none⟩))) (ey : ev T y = some v) (hf : flatV v = true) (hp : M[p]? = some (b, k)) (hw : k.wr = true) (ho : o < k.cells.length)
    (hk : K undefV (M.set p (b, ⟨k.cells.set o v, true⟩))) : Step P n ⟨none, .store tl x y, ty, pos, after, g⟩ T M K := by
  intro w0 B a w ht hs
  obtain ⟨i, hi1, hi2, hi3, hi4⟩ := hi.out
  obtain ⟨u, hu, hn⟩ := cell_of hs (List.mem_of_getElem? hp) (List.getElem?_eq_getElem ho)
  have hx := nf_pointer (ev_sound ht ex)
  have hy := ev_sound ht ey
  have hfl := flat_of_nf hy hf
  have hcells : (a.eval y).cells = #[a.eval y] := by
    generalize a.eval y = q at hfl
    cases q <;> first | rfl | simp [flatV] at hfl
  have hfz : w.frozen? ⟨b, o, none⟩ = false := by
    obtain ⟨c, E, fr, hc, h1, h2⟩ := hs.ok (b, k) (List.mem_of_getElem? hp)
    obtain ⟨hfr, hB⟩ := h2 hw
    subst hfr
    simp only at hc
    simp [World.frozen?, hc]
  have hst := run_store P w ⟨b, o, none⟩ (a.eval y) .plain (oneCell_flat hfl)
  have hrun : (execOp a.eval ⟨none, .store tl x y, ty, pos, after, g⟩).run P w = .ok .skip (w.setCell ⟨b, o, none⟩ (a.eval y)) := by
    simp [execOp, hx, Instr.storeAt, Instr.sureAddr, storeVar, hcells, sizeOf, typeInfo, hi1, hi2, storeCells, Addr.add_zero', hst, hu, hfz]
  rw [hrun]
  refine ⟨_, hs.setCell hp hw (a.eval y), ?_⟩
  rw [nfS_of_nf hy hf]
  exact hk

/-- a new variable -/
theorem step_box {n : Nat} {K : Value → Mem → Prop} {e : Nat} {x : Operand} {v : Value} (ex : ev T x = some v) (hn : notTup v = true)
    (hk : ∀ b, K (.pointer (some ⟨b, 0, none⟩)) ((b, ⟨v.cells.toList, true⟩) :: M)) : Step P n ⟨d, .box e x, ty, pos, after, g⟩ T M K := by
  intro w0 B a w ht hs
  have hx := ev_sound ht ex
  have hrun : (execOp a.eval ⟨d, .box e x, ty, pos, after, g⟩).run P w = .ok (.value (.pointer (some ⟨w.heap.size, 0, none⟩))) (w.alloc (.cells (a.eval x).cells e)) := by
    simp [execOp, Instr.box, newVar, newRow]
  rw [hrun]
  refine ⟨_, hs.alloc _ _, ?_⟩
  have he : (a.eval x).cells.toList.map nfS = v.cells.toList := by
    rw [← hx] at hn ⊢
    clear hk hrun hx
    generalize a.eval x = q at hn ⊢
    cases q <;> simp [nf, nfA, Value.cells, nfS, notTup] at hn ⊢
  rw [he]
  exact hk _

theorem step_alloc {n : Nat} {K : Value → Mem → Prop} {e size bytes : Nat} {z : Value} [hi : InfoT P e size bytes z]
    (hk : ∀ b, K (.pointer (some ⟨b, 0, none⟩)) ((b, ⟨z.cells.toList, true⟩) :: M)) : Step P n ⟨d, .alloc e, ty, pos, after, g⟩ T M K := by
  intro w0 B a w ht hs
  obtain ⟨i, hi1, hi2, hi3, hi4⟩ := hi.out
  have hrun : (execOp a.eval ⟨d, .alloc e, ty, pos, after, g⟩).run P w = .ok (.value (.pointer (some ⟨w.heap.size, 0, none⟩))) (w.alloc (.cells z.cells e)) := by
    simp [execOp, Instr.alloc, zeroValue, typeInfo, hi1, hi4, newVar, newRow]
  rw [hrun]
  refine ⟨_, hs.alloc _ _, ?_⟩
  rw [hi.norm]
  exact hk _

theorem step_makeSlice {n : Nat} {K : Value → Mem → Prop} {tx e bytes : Nat} {z : Value} [hu : UnderT P tx (.slice e)] [hi : InfoT P e 1 bytes z] {x y : Operand} {kx ky : IntKind}
    {m c : Int} (ex : ev T x = some (.int kx m)) (ey : ev T y = some (.int ky c)) (hfz : flatV z = true) (h0 : 0 ≤ m) (hmc : m ≤ c) (hc : c * bytes ≤ 281474976710656) (hc2 : c ≤ 4611686018427387904)
    (hk : ∀ b, K (.slice (some ⟨b, 0, none⟩) m.toNat c.toNat) ((b, ⟨List.replicate c.toNat z, true⟩) :: M)) : Step P n ⟨d, .makeSlice tx x y, ty, pos, after, g⟩ T M K := by
  intro w0 B a w ht hs
  obtain ⟨i, hi1, hi2, hi3, hi4⟩ := hi.out
  have hx := nf_int (ev_sound ht ex)
  have hy := nf_int (ev_sound ht ey)
  have hrun := run_make (P := P) w tx e i z hu.out hi1 hi4 kx ky m c h0 hmc (by rw [hi3, Int.mul_comm]; exact hc) (by omega)
  have hrun' : (execOp a.eval ⟨d, .makeSlice tx x y, ty, pos, after, g⟩).run P w = .ok (.value (.slice (some ⟨w.heap.size, 0, none⟩) m.toNat c.toNat)) (w.alloc (.cells (madeCells z.cells (c.toNat * i.size)) e)) := by
    simp [execOp, hx, hy, hrun]
  rw [hrun']
  refine ⟨_, hs.alloc _ _, ?_⟩
  have hz : z.cells = #[z] := by cases z <;> first | rfl | simp [flatV] at hfz
  have he : (madeCells z.cells (c.toNat * i.size)).toList.map nfS = List.replicate c.toNat z := by
    have hnz : nfS z = z := by have := hi.norm; rw [hz] at this; simpa using this
    rw [hi2, Nat.mul_one, hz]
    apply List.ext_getElem
    · simp [madeCells]
    · intro j h1 h2
      simp [madeCells, hnz, Nat.mod_one]
  rw [he]
  exact hk _

/-! ## Calls -/
theorem run_callFunc {f : Nat} [hf : FuncT P f] (args : Array Value) (w : World) : (callFunc f args).run P w = .ok (.enter f args) w := by
  obtain ⟨fn, h1, h2, h3⟩ := hf.out
  have h2' : ¬ fn.name = "runtime.NumGoroutine" := by simpa using h2
  simp [callFunc, h1, h2']
  intro h; rw [h] at h3; simp at h3

theorem calls_fits {P : Program} {f : Nat} {args : List Value} {M : Mem} {R : Value → Mem → Prop} (h : ACall P f args M R) {w0 : World} {B : Nat} {vals : Array Value} {w : World} (ha : vals.toList.map nf = args) (hs : SatF w0 B w M) :
    Calls P f vals w fun e w' => ∃ u M', e = .returned u ∧ SatF w0 B w' M' ∧ R (nf u) M' := h w0 B vals w ha hs

def evs (T : Tm) : List Operand → Option (List Value)
  | [] => some []
  | x :: l => match ev T x with
    | some v => match evs T l with
      | some vs => some (v :: vs)
      | none => none
    | none => none

theorem evs_sound {n : Nat} {a : Act} {T : Tm} (ht : TRel n a.tmps T) : ∀ (l : List Operand) (vs : List Value), evs T l = some vs → (l.map a.eval).map nf = vs := by
  intro l
  induction l with
  | nil => intro vs h; cases h; rfl
  | cons x l ih =>
    intro vs h
    unfold evs at h
    cases hx : ev T x with
    | none => rw [hx] at h; cases h
    | some v =>
      rw [hx] at h
      cases hl : evs T l with
      | none => rw [hl] at h; cases h
      | some us =>
        rw [hl] at h
        cases h
        simp only [List.map_cons, ev_sound ht hx, ih us hl]

/-- a call of a function by its name -/
theorem step_call {n : Nat} {K : Value → Mem → Prop} {f : Nat} {xs : List Operand} {ats : Array TypeId} {vs : List Value} {R : Value → Mem → Prop} [hf : FuncT P f]
    (ea : evs T xs = some vs) (hc : ACall P f vs M R) (hk : ∀ v M', R v M' → K v M') : Step P n ⟨d, .call { callee := .value (.func f), args := xs.toArray, argTypes := ats }, ty, pos, after, g⟩ T M K := by
  intro w0 B a w ht hs
  obtain ⟨fn, h1, h2, h3⟩ := hf.out
  have hrun : (execOp a.eval ⟨d, .call { callee := .value (.func f), args := xs.toArray, argTypes := ats }, ty, pos, after, g⟩).run P w = .ok (.enter f (xs.map a.eval).toArray) w := by
    simp [execOp, resolve, Act.eval, Deferred.ofValue, invoke, run_callFunc]
  rw [hrun]
  refine (calls_fits hc (vals := (xs.map a.eval).toArray) (by simpa using evs_sound ht xs vs ea) hs).mono ?_
  rintro e w' ⟨u, M', he, hs', hr⟩
  exact ⟨u, M', he, hs', hk _ _ hr⟩

/-- a call of a function value: a closure with what it has captured -/
theorem step_callV {n : Nat} {K : Value → Mem → Prop} {f : Nat} {c : Operand} {first captured : List Value} {xs : List Operand} {ats : Array TypeId} {vs : List Value} {R : Value → Mem → Prop} [hf : FuncT P f]
    (ec : ev T c = some (.func (.func f) first.toArray captured.toArray)) (hn1 : first.map nf = first) (hn2 : captured.map nf = captured) (ea : evs T xs = some vs) (hc : ACall P f (first ++ vs ++ captured) M R) (hk : ∀ v M', R v M' → K v M') :
    Step P n ⟨d, .call { callee := .value c, args := xs.toArray, argTypes := ats }, ty, pos, after, g⟩ T M K := by
  intro w0 B a w ht hs
  obtain ⟨fn, h1, h2, h3⟩ := hf.out
  have hcv := nf_func (ev_sound ht ec)
  have hrun : (execOp a.eval ⟨d, .call { callee := .value c, args := xs.toArray, argTypes := ats }, ty, pos, after, g⟩).run P w = .ok (.enter f (first ++ xs.map a.eval ++ captured).toArray) w := by
    simp [execOp, resolve, hcv, Deferred.ofValue, invoke, run_callFunc]
  rw [hrun]
  refine (calls_fits hc (vals := (first ++ xs.map a.eval ++ captured).toArray) (by simp only [List.map_append, hn1, hn2, evs_sound ht xs vs ea]) hs).mono ?_
  rintro e w' ⟨u, M', he, hs', hr⟩
  exact ⟨u, M', he, hs', hk _ _ hr⟩
end

/-! ## A function's body -/
def argsT : List Value → Nat → Tm
  | [], _ => []
  | v :: l, i => (i, v) :: argsT l (i + 1)

theorem get_argsT : ∀ (l : List Value) (k i : Nat) (v : Value), get (argsT l k) i = some v → k ≤ i ∧ l[i - k]? = some v := by
  intro l
  induction l with
  | nil => intro k i v h; cases h
  | cons x l ih =>
    intro k i v h
    unfold argsT at h
    rw [get_cons] at h
    split at h
    · rename_i hik; subst hik; cases h; simp
    · rename_i hik
      obtain ⟨h1, h2⟩ := ih (k + 1) i v h
      refine ⟨by omega, ?_⟩
      rw [show i - k = (i - (k + 1)) + 1 from by omega]
      simpa using h2

/-- what the function hands back, seen from the slots -/
def ResV (P : Program) (fn : Func) (T : Tm) (M : Mem) (v : Value) : Prop :=
  ∀ (n : Nat) (tmps : Array Value) (w0 : World) (B : Nat) (w : World), TRel n tmps T → SatF w0 B w M → ∃ u, (results fn tmps).run P w = .ok u w ∧ nf u = v

def Ret (P : Program) (fn : Func) (R : Value → Mem → Prop) : Exit → Tm → Mem → Prop
  | .normal, T, M | .ret, T, M => ∃ v M0, Ext M0 M ∧ ResV P fn T M v ∧ R v M0
  | _, _, _ => False

theorem acall_of_awp {P : Program} {f : Nat} {fn : Func} {c : Code} {n : Nat} {args : List Value} {M : Mem} {R : Value → Mem → Prop} (hf : P.funcs[f]? = some fn) (hb : fn.body = some c) (hn : fn.ntmps = n) (hl' : Nat.ble args.length n = true)
    (h : AWp P n c (Ret P fn R) (argsT args 0) M) : ACall P f args M R := by
  have hl : args.length ≤ n := Nat.le_of_ble_eq_true hl'
  intro w0 B as w ha hs
  refine calls_of_wp hf hb ?_
  subst hn
  have hsz : as.size = args.length := by rw [← ha]; simp
  have ht : TRel fn.ntmps (as ++ Array.replicate (fn.ntmps - as.size) undef) (argsT args 0) := by
    refine ⟨by simp; omega, fun i v hv => ?_⟩
    obtain ⟨_, h2⟩ := get_argsT args 0 i v hv
    simp only [Nat.sub_zero] at h2
    rw [← ha, List.getElem?_map] at h2
    cases hq : as.toList[i]? with
    | none => rw [hq] at h2; cases h2
    | some u =>
      rw [hq] at h2
      have hi : i < as.size := by
        have := (List.getElem?_eq_some_iff.1 hq).1; simpa using this
      have : as[i]? = some u := by simpa using hq
      rw [Array.getD_eq_getD_getElem?, Array.getElem?_append_left hi, this]
      simpa using h2
  refine wp_mono (h w0 B _ w rfl ht hs) ?_
  rintro e a' w' ⟨hd, T', M', ht', hs', hq⟩
  cases e with
  | normal =>
    obtain ⟨v, M0, hx, hv, hr⟩ := hq
    obtain ⟨u, hu, hn⟩ := hv _ _ _ _ _ ht' hs'
    exact ⟨hd, u, hu, u, M0, rfl, hs'.weaken hx, hn ▸ hr⟩
  | ret =>
    obtain ⟨v, M0, hx, hv, hr⟩ := hq
    obtain ⟨u, hu, hn⟩ := hv _ _ _ _ _ ht' hs'
    exact ⟨hd, u, hu, u, M0, rfl, hs'.weaken hx, hn ▸ hr⟩
  | exit j => exact hq.elim
  | goto l => exact hq.elim
  | panic c => exact hq.elim
  | outgrown => exact hq.elim

theorem resv_1 {P : Program} {fn : Func} {T : Tm} {M : Mem} {t : Nat} {v : Value} (hr : fn.results = #[.tmp t]) (h : get T t = some v) : ResV P fn T M v := by
  intro n tmps w0 B w ht hs
  exact ⟨tmps.getD t undef, results_tmp hr tmps P w, ht.val t v h⟩

theorem resv_0 {P : Program} {fn : Func} {T : Tm} {M : Mem} (hr : fn.results = #[]) : ResV P fn T M (.tuple #[]) := by
  intro n tmps w0 B w ht hs
  exact ⟨.tuple #[], results_none hr tmps P w, by simp [nf]⟩

theorem resv_2 {P : Program} {fn : Func} {T : Tm} {M : Mem} {t1 t2 : Nat} {v1 v2 : Value} (hr : fn.results = #[.tmp t1, .tmp t2]) (h1 : get T t1 = some v1) (h2 : get T t2 = some v2) (n1 : notTup v1 = true) (n2 : notTup v2 = true) : ResV P fn T M (.tuple #[v1, v2]) := by
  intro n tmps w0 B w ht hs
  refine ⟨.tuple #[tmps.getD t1 undef, tmps.getD t2 undef], results_tmp2 hr tmps P w, ?_⟩
  simp only [nf, List.map_toArray, List.map_cons, List.map_nil]
  rw [nfA_of_nf (ht.val t1 v1 h1) n1, nfA_of_nf (ht.val t2 v2 h2) n2]

theorem resv_3 {P : Program} {fn : Func} {T : Tm} {M : Mem} {t1 t2 t3 : Nat} {v1 v2 v3 : Value} (hr : fn.results = #[.tmp t1, .tmp t2, .tmp t3]) (h1 : get T t1 = some v1) (h2 : get T t2 = some v2) (h3 : get T t3 = some v3) (n1 : notTup v1 = true) (n2 : notTup v2 = true) (n3 : notTup v3 = true) :
    ResV P fn T M (.tuple #[v1, v2, v3]) := by
  intro n tmps w0 B w ht hs
  refine ⟨.tuple #[tmps.getD t1 undef, tmps.getD t2 undef, tmps.getD t3 undef], by simp [results, hr], ?_⟩
  simp only [nf, List.map_toArray, List.map_cons, List.map_nil]
  rw [nfA_of_nf (ht.val t1 v1 h1) n1, nfA_of_nf (ht.val t2 v2 h2) n2, nfA_of_nf (ht.val t3 v3 h3) n3]

end Go.Proofs.Ytkbpdgacfeachaa.Ab
