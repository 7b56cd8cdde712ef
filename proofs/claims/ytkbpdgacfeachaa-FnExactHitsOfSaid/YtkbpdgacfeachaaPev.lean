/-
  The abstract layer: one rule for all operations that ask for nothing.
-/
import Derived.Test.YtkbpdgacfeachaaOps
namespace Go.Proofs.Ytkbpdgacfeachaa.Ab
open Go Go.RowKit
set_option linter.unusedVariables false
set_option linter.unusedSimpArgs false

/-! ## One rule for the operations that ask for nothing -/
inductive Inf where
  | no | boolT | strT | slc | off (n : Nat) | ii (k : IntKind) | ifl (k : FloatKind) | same (k : FloatKind)

class OpTy (P : Program) (op : Op) (i : outParam Inf) : Prop where
  out : match op, i with
    | .binOp _ tx _ _ _, .boolT => P.underlying tx = some .bool
    | .fieldAddr tx _ f, .off n => FieldT P tx f n
    | .call c, .slc => ∃ e, P.underlying (c.argTypes.getD 0 0) = some (.slice e)
    | .call c, .strT => P.underlying (c.argTypes.getD 0 0) = some .string
    | .convert s d _, .ii k => (P.underlying s).isSome = true ∧ P.underlying d = some (.int k)
    | .convert s d _, .ifl k => (P.underlying s).isSome = true ∧ P.underlying d = some (.float k)
    | .convert s d _, .same k => (P.underlying s).isSome = true ∧ P.underlying d = some (.float k)
    | _, _ => True

def fofint (k : FloatKind) (n : Int) : Nat := cb k (k.nearest n)

def ibin (op : BinOp) (k : IntKind) (a b : Int) : Option Value :=
  match op with
  | .add => some (.int k (k.wrap (a + b)))
  | .sub => some (.int k (k.wrap (a - b)))
  | .mul => some (.int k (k.wrap (a * b)))
  | .lss => some (.bool (decide (a < b)))
  | .leq => some (.bool (decide (a ≤ b)))
  | .gtr => some (.bool (decide (b < a)))
  | .geq => some (.bool (decide (b ≤ a)))
  | .eql => some (.bool (a == b))
  | .neq => some (.bool (a != b))
  | _ => none

def fbin (op : BinOp) (k : FloatKind) (a b : Nat) : Option Value :=
  match op with
  | .add => some (.float k (fadd k a b))
  | .sub => some (.float k (fsub k a b))
  | .mul => some (.float k (fmul k a b))
  | .quo => some (.float k (fdiv k a b))
  | .lss => some (.bool (fcmp .lss k a b))
  | .leq => some (.bool (fcmp .leq k a b))
  | .gtr => some (.bool (fcmp .gtr k a b))
  | .geq => some (.bool (fcmp .geq k a b))
  | .eql => some (.bool (fcmp .eql k a b))
  | .neq => some (.bool (fcmp .neq k a b))
  | _ => none

def ikEq : IntKind → IntKind → Bool
  | .i8, .i8 | .i16, .i16 | .i32, .i32 | .i64, .i64 | .u8, .u8 | .u16, .u16 | .u32, .u32 | .u64, .u64 => true
  | _, _ => false
def fkEq : FloatKind → FloatKind → Bool
  | .f32, .f32 | .f64, .f64 => true
  | _, _ => false
theorem ikEq_spec {a b : IntKind} (h : ikEq a b = true) : a = b := by cases a <;> cases b <;> simp_all [ikEq]
theorem fkEq_spec {a b : FloatKind} (h : fkEq a b = true) : a = b := by cases a <;> cases b <;> simp_all [fkEq]

def bin2 (op : BinOp) (i : Inf) (u v : Value) : Option Value :=
  match u, v with
  | .int k a, .int l b => bif ikEq k l then ibin op k a b else none
  | .float k a, .float l b => bif fkEq k l then fbin op k a b else none
  | .bool a, .bool b =>
    match i, op with
    | .boolT, .eql => some (.bool (a == b))
    | .boolT, .neq => some (.bool (a != b))
    | _, _ => none
  | _, _ => none

def un1 (op : UnOp) (u : Value) : Option Value :=
  match op, u with
  | .not, .bool b => some (.bool (!b))
  | .neg, .int k n => some (.int k (k.wrap (0 - n)))
  | .neg, .float k b => some (.float k (fneg k b))
  | _, _ => none

def pev (op : Op) (i : Inf) (T : Tm) : Option Value :=
  match op with
  | .move x => ev T x
  | .assign x => ev T x
  | .binOp op _ x y _ => match ev T x with
    | some u => match ev T y with
      | some v => bin2 op i u v
      | none => none
    | none => none
  | .unOp op _ x => match ev T x with
    | some u => un1 op u
    | none => none
  | .extract x j => match ev T x with
    | some (.tuple vs) => match vs[j]? with
      | some v => bif notTup v then some v else none
      | none => none
    | _ => none
  | .nilCheck x => match ev T x with
    | some (.pointer (some a)) => some (.pointer (some a))
    | _ => none
  | .fieldAddr _ x _ => match i, ev T x with
    | .off n, some (.pointer (some ⟨b, o, none⟩)) => some (.pointer (some ⟨b, o + n, none⟩))
    | _, _ => none
  | .call { callee := .builtin .len, args := ⟨[x]⟩, argTypes := ⟨[_]⟩ } => match i, ev T x with
    | .slc, some (.slice _ m _) => some (.int .i64 m)
    | .strT, some (.string s) => some (.int .i64 s.size)
    | _, _ => none
  | .convert _ _ x => match i, ev T x with
    | .ii k, some (.int _ n) => some (.int k (k.wrap n))
    | .ifl k, some (.int _ n) => some (.float k (fofint k n))
    | .same k, some (.float l b) => bif fkEq l k then some (.float l b) else none
    | _, _ => none
  | _ => none

theorem nanB_low (k : FloatKind) (a b : Nat) (h : a % k.format.signWeight = b % k.format.signWeight) : nanB k a = nanB k b := by
  unfold nanB FloatKind.decode Ieee.Format.read
  simp only [h]
  split
  · rfl
  · split
    · rfl
    · split <;> rfl

theorem negFloat_nan (k : FloatKind) (b : Nat) : nanB k (Op.negFloat k b) = nanB k b := by
  apply nanB_low
  unfold Op.negFloat Ieee.Format.signWeight
  rw [Nat.xor_mod_two_pow, Nat.mod_self, Nat.xor_zero]

theorem cb_nan {k : FloatKind} {b : Nat} (h : nanB k b = true) : cb k b = qn k := by
  unfold cb; rw [if_pos h]

section
variable {P : Program} {T : Tm} {M : Mem} {d : Option Nat} {ty : Nat} {pos : String} {after : Array Edge} {g : Option (Nat × Bool)}

theorem tame_fneg {k : FloatKind} {b tx : Nat} {x : Operand} (ex : ev T x = some (.float k b)) : Tame P ⟨d, .unOp .neg tx x, ty, pos, after, g⟩ T M (.float k (fneg k b)) :=
  tame_one (x := x) (by simp [Op.operands]) ex fun ρ w hx => by
    obtain ⟨c, hc, rfl⟩ := nf_float hx
    refine ⟨.float k (Op.negFloat k c), w, ?_, .refl w, ?_⟩
    · simp [execOp, hc, Op.unary]
    · simp only [nf, nfA, nfS, fneg, Value.float.injEq, true_and]
      rcases cb_cases k c with ⟨h1, h2⟩ | ⟨h1, h2⟩
      · have e1 : nanB k (Op.negFloat k c) = true := by rw [negFloat_nan, h1]
        have e2 : nanB k (Op.negFloat k (cb k c)) = true := by rw [negFloat_nan, nanB_cb, h1]
        rw [cb_nan e1, cb_nan e2]
      · rw [h2]

theorem tame_conv_ii {s t : Nat} {k l : IntKind} {n : Int} {x : Operand} (h1 : (P.underlying s).isSome = true) (h2 : P.underlying t = some (.int k)) (ex : ev T x = some (.int l n)) : Tame P ⟨d, .convert s t x, ty, pos, after, g⟩ T M (.int k (k.wrap n)) :=
  tame_one (x := x) (by simp [Op.operands]) ex fun ρ w hx => by
    refine ⟨.int k (k.wrap n), w, ?_, .refl w, rfl⟩
    obtain ⟨u, hu⟩ := Option.isSome_iff_exists.1 h1
    cases u <;> simp [execOp, nf_int hx, convert, run_underlying hu, run_underlying h2, Conv.intToInt]

theorem tame_conv_if {s t : Nat} {k : FloatKind} {l : IntKind} {n : Int} {x : Operand} (h1 : (P.underlying s).isSome = true) (h2 : P.underlying t = some (.float k)) (ex : ev T x = some (.int l n)) : Tame P ⟨d, .convert s t x, ty, pos, after, g⟩ T M (.float k (fofint k n)) :=
  tame_one (x := x) (by simp [Op.operands]) ex fun ρ w hx => by
    refine ⟨.float k (k.nearest n), w, ?_, .refl w, rfl⟩
    obtain ⟨u, hu⟩ := Option.isSome_iff_exists.1 h1
    cases u <;> simp [execOp, nf_int hx, convert, run_underlying hu, run_underlying h2, Conv.intToFloat]

theorem tame_conv_same {s t : Nat} {k : FloatKind} {b : Nat} {x : Operand} (h1 : (P.underlying s).isSome = true) (h2 : P.underlying t = some (.float k)) (ex : ev T x = some (.float k b)) : Tame P ⟨d, .convert s t x, ty, pos, after, g⟩ T M (.float k b) :=
  tame_one (x := x) (by simp [Op.operands]) ex fun ρ w hx => by
    obtain ⟨c, hc, rfl⟩ := nf_float hx
    refine ⟨.float k c, w, ?_, .refl w, rfl⟩
    obtain ⟨u, hu⟩ := Option.isSome_iff_exists.1 h1
    cases u <;> simp [execOp, hc, convert, run_underlying hu, run_underlying h2, Conv.floatToFloat]

theorem tame_bin {i : Inf} {op : BinOp} {tx tz : Nat} {x y : Operand} {u v r : Value} (hi : OpTy P (.binOp op tx x y tz) i) (ex : ev T x = some u) (ey : ev T y = some v) (h : bin2 op i u v = some r) : Tame P ⟨d, .binOp op tx x y tz, ty, pos, after, g⟩ T M r := by
  unfold bin2 at h
  split at h
  · rename_i k a l b
    cases hk : ikEq k l
    · rw [hk] at h; cases h
    · rw [hk] at h
      obtain rfl := ikEq_spec hk
      simp only [cond_true] at h
      unfold ibin at h
      split at h <;> cases h
      · exact tame_add ex ey
      · exact tame_sub ex ey
      · exact tame_mul ex ey
      · exact tame_lss ex ey
      · exact tame_leq ex ey
      · exact tame_gtr ex ey
      · exact tame_geq ex ey
      · exact tame_eql ex ey
      · exact tame_neq ex ey
  · rename_i k a l b
    cases hk : fkEq k l
    · rw [hk] at h; cases h
    · rw [hk] at h
      obtain rfl := fkEq_spec hk
      simp only [cond_true] at h
      unfold fbin at h
      split at h <;> cases h
      · exact tame_fop rfl ex ey
      · exact tame_fop rfl ex ey
      · exact tame_fop rfl ex ey
      · exact tame_fop rfl ex ey
      · exact tame_fcmp rfl ex ey
      · exact tame_fcmp rfl ex ey
      · exact tame_fcmp rfl ex ey
      · exact tame_fcmp rfl ex ey
      · exact tame_fcmp rfl ex ey
      · exact tame_fcmp rfl ex ey
  · split at h
    · cases h
      haveI : UnderT P tx .bool := ⟨hi.out⟩
      exact tame_eqlB ex ey
    · cases h
      haveI : UnderT P tx .bool := ⟨hi.out⟩
      exact tame_neqB ex ey
    · cases h
  · cases h

theorem tame_pev {i : Inf} {op : Op} {v : Value} [hi : OpTy P op i] (h : pev op i T = some v) : Tame P ⟨d, op, ty, pos, after, g⟩ T M v := by
  unfold pev at h
  split at h
  · exact tame_move h
  · exact tame_assign h
  · split at h
    · rename_i u hu
      split at h
      · rename_i w hw; exact tame_bin hi hu hw h
      · cases h
    · cases h
  · split at h
    · rename_i u hu
      unfold un1 at h
      split at h <;> cases h
      · exact tame_not hu
      · exact tame_neg hu
      · exact tame_fneg hu
    · cases h
  · split at h
    · rename_i vs hu
      split at h
      · rename_i w hw
        cases hn : notTup w
        · rw [hn] at h; cases h
        · rw [hn] at h; cases h; exact tame_extract hu hw hn
      · cases h
    · cases h
  · split at h
    · rename_i a hu; cases h; exact tame_nilCheck hu
    · cases h
  · split at h
    · rename_i b o hu
      cases h
      haveI : FieldT P _ _ _ := hi.out
      exact tame_fieldAddr hu
    · cases h
  · split at h
    · rename_i a m c hu
      cases h
      obtain ⟨e, he⟩ := hi.out
      exact tame_len (hu := ⟨he⟩) hu
    · rename_i s hu
      cases h
      exact tame_lenS (hu := ⟨hi.out⟩) hu
    · cases h
  · split at h
    · rename_i hu; cases h; exact tame_conv_ii hi.out.1 hi.out.2 hu
    · rename_i hu; cases h; exact tame_conv_if hi.out.1 hi.out.2 hu
    · rename_i k l b hu
      cases hk : fkEq l k
      · rw [hk] at h; cases h
      · rw [hk] at h; obtain rfl := fkEq_spec hk; cases h; exact tame_conv_same hi.out.1 hi.out.2 hu
    · cases h
  · cases h
end

instance {P : Program} {x : Operand} : OpTy P (.move x) .no := ⟨trivial⟩
instance {P : Program} {x : Operand} : OpTy P (.assign x) .no := ⟨trivial⟩
instance {P : Program} {x : Operand} : OpTy P (.nilCheck x) .no := ⟨trivial⟩
instance {P : Program} {x : Operand} {j : Nat} : OpTy P (.extract x j) .no := ⟨trivial⟩
instance {P : Program} {op : UnOp} {x : Operand} {t : Nat} : OpTy P (.unOp op t x) .no := ⟨trivial⟩
instance (priority := low) {P : Program} {op : BinOp} {x y : Operand} {t u : Nat} : OpTy P (.binOp op t x y u) .no := ⟨trivial⟩
instance {P : Program} {op : BinOp} {x y : Operand} {t u : Nat} [h : UnderT P t .bool] : OpTy P (.binOp op t x y u) .boolT := ⟨h.out⟩
instance {P : Program} {x : Operand} {t f n : Nat} [h : FieldT P t f n] : OpTy P (.fieldAddr t x f) (.off n) := ⟨h⟩
instance {P : Program} {x : Operand} {t e : Nat} [h : UnderT P t (.slice e)] : OpTy P (.call { callee := .builtin .len, args := #[x], argTypes := #[t] }) .slc := ⟨⟨e, h.out⟩⟩
instance {P : Program} {x : Operand} {t : Nat} [h : UnderT P t .string] : OpTy P (.call { callee := .builtin .len, args := #[x], argTypes := #[t] }) .strT := ⟨h.out⟩
instance {P : Program} {x : Operand} {s t : Nat} {k l : IntKind} [h1 : UnderT P s (.int l)] [h2 : UnderT P t (.int k)] : OpTy P (.convert s t x) (.ii k) := ⟨by rw [h1.out]; rfl, h2.out⟩
instance {P : Program} {x : Operand} {s t : Nat} {k : FloatKind} {l : IntKind} [h1 : UnderT P s (.int l)] [h2 : UnderT P t (.float k)] : OpTy P (.convert s t x) (.ifl k) := ⟨by rw [h1.out]; rfl, h2.out⟩
instance {P : Program} {x : Operand} {s t : Nat} [h1 : UnderT P s (.float .f32)] [h2 : UnderT P t (.float .f32)] : OpTy P (.convert s t x) (.same .f32) := ⟨by rw [h1.out]; rfl, h2.out⟩
instance {P : Program} {x : Operand} {s t : Nat} [h1 : UnderT P s (.float .f64)] [h2 : UnderT P t (.float .f64)] : OpTy P (.convert s t x) (.same .f64) := ⟨by rw [h1.out]; rfl, h2.out⟩

section
variable {P : Program} {n : Nat} {T : Tm} {M : Mem} {ops : Array Oper} {st : Option (List Nat)} {Q : Tm → Mem → Prop} {fl : Bool} {l : List (Oper × Bool)} {d : Option Nat} {ty : Nat} {pos : String} {after : Array Edge}

/-- an operation that asks for nothing -/
theorem rp {i : Inf} {op : Op} {v : Value} [hi : OpTy P op i] (h : pev op i T = some v) (k : Run P n ops st Q l (putT n d v T) M) : Run P n ops st Q ((⟨d, op, ty, pos, after, none⟩, fl) :: l) T M :=
  run_tameR rfl (fun _ => tame_pev h) k
end
end Go.Proofs.Ytkbpdgacfeachaa.Ab
