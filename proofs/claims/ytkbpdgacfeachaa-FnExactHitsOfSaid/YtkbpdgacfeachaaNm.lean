/-
  Walks of small tests on numbers and lengths, of the program and of the reference.
-/
import Derived.Test.YtkbpdgacfeachaaLw
namespace Go.Proofs.Ytkbpdgacfeachaa.Ab
open Go Go.RowKit
attribute [local irreducible] Run Then InBlock LoopQ AWp Ret ACall
set_option linter.unusedVariables false

/-- a finite 32-bit number -/
def finB (x : Nat) : Bool := fcmp .eql .f32 (fsub .f32 x x) 0

def isNum : Ieee.Datum → Bool
  | .number .. => true
  | _ => false
theorem sub_self_cases (k : FloatKind) (x : Nat) : fcmp .eql k (fsub k x x) 0 = isNum (k.format.read x) := by
  unfold fcmp fsub fop floatBits
  simp only [Ieee.Format.sub]
  have h0 : k.format.read 0 = .number false 0 k.format.leastPlace := by cases k <;> decide
  cases hr : k.format.read x with
  | nan s f =>
    simp only [Ieee.Datum.sum, Option.map_none]
    rw [order_nan_l (nanB_qn k)]; rfl
  | infinity s =>
    have : (Ieee.Datum.infinity s).sum (Ieee.Datum.infinity s).opposite = none := by cases s <;> rfl
    rw [this, Option.map_none]
    simp only
    rw [order_nan_l (nanB_qn k)]; rfl
  | number s m e =>
    have hsum : (Ieee.Datum.number s m e).sum (Ieee.Datum.number s m e).opposite = some (.number false 0 e) := by
      cases s <;> simp [Ieee.Datum.sum, Ieee.Datum.opposite, Ieee.signed, Int.add_right_neg, Int.add_left_neg]
    rw [hsum, Option.map_some]
    have hw : k.format.write (.number false 0 e) = 0 := by
      unfold Ieee.Format.write Ieee.Format.nearest
      simp [Ieee.Format.word]
    simp only [hw]
    have hc : cb k 0 = 0 := by cases k <;> decide
    rw [hc, order_self (by cases k <;> decide)]
    rfl

theorem read_inf64 (s : Bool) : isNum (FloatKind.f64.format.read (cb .f64 (FloatKind.f64.encode (.infinity s)))) = false := by
  have e1 : Ieee.double.signWeight = 9223372036854775808 := by decide
  have e2 : Ieee.double.binade = 4503599627370496 := by decide
  have e3 : Ieee.double.infRung = 9218868437227405312 := by decide
  have h : ∀ r, r % 9223372036854775808 = 9218868437227405312 → isNum (FloatKind.f64.format.read r) = false ∧ nanB .f64 r = false := by
    intro r hr
    unfold nanB FloatKind.decode FloatKind.format Ieee.Format.read
    simp only [e1, e2, e3, hr]
    rw [if_neg (by decide), if_neg (by decide), if_pos (by decide)]
    exact ⟨rfl, rfl⟩
  have hw : FloatKind.f64.encode (.infinity s) % 9223372036854775808 = 9218868437227405312 := by
    show (if s then Ieee.double.signWeight + Ieee.double.infRung else Ieee.double.infRung) % _ = _
    rw [e1, e3]
    cases s <;> rfl
  obtain ⟨h1, h2⟩ := h _ hw
  unfold cb
  rw [h2]
  exact h1

theorem f2f_inf {x : Nat} {s : Bool} (h : FloatKind.f32.decode x = .infinity s) : floatToFloatBits .f32 x .f64 = some (FloatKind.f64.encode (.infinity s)) := by
  unfold floatToFloatBits
  rw [if_neg (by decide), h]
theorem f2f_num {x : Nat} {s : Bool} {m : Nat} {e : Int} (h : FloatKind.f32.decode x = .number s m e) : floatToFloatBits .f32 x .f64 = some (FloatKind.f64.encode (.number s m e)) := by
  obtain ⟨h1, h2, h3⟩ := read32_bounds h
  unfold floatToFloatBits
  rw [if_neg (by decide), h]
  simp only [wide_fits s m e h1 h2 h3]
  rfl
theorem encode_number (s : Bool) (m : Nat) (e : Int) : FloatKind.f64.encode (.number s m e) = FloatKind.f64.format.nearest s m e := rfl
theorem isNum_of {d : Ieee.Datum} (h1 : d.isNaN = false) (h2 : d.isInfinity = false) : isNum d = true := by
  cases d with
  | nan a b => simp [Ieee.Datum.isNaN] at h1
  | infinity a => simp [Ieee.Datum.isInfinity] at h2
  | number a b c => rfl
theorem nan_num {s : Bool} {m : Nat} {e : Int} : nanB .f64 (FloatKind.f64.encode (.number s m e)) = false := nearest_notnan .f64 s m e
theorem cb_notnan {k : FloatKind} {r : Nat} (hn : nanB k r = false) : cb k r = r := by
  unfold cb; rw [if_neg (by rw [hn]; decide)]
theorem isNum_r {r : Nat} (hf : (FloatKind.f64.decode r).isInfinity = false) (hn : nanB .f64 r = false) : isNum (FloatKind.f64.format.read (cb .f64 r)) = true := by
  rw [cb_notnan hn]; exact isNum_of hn hf

theorem isNum_wide_num {s : Bool} {m : Nat} {e : Int} (h1 : m < 16777216) (h2 : -149 ≤ e) (h3 : e ≤ 104) : isNum (FloatKind.f64.format.read (cb .f64 (FloatKind.f64.encode (.number s m e)))) = true :=
  isNum_r (wide_fits s m e h1 h2 h3) nan_num

theorem fwid_some {x r : Nat} (h : floatToFloatBits .f32 x .f64 = some r) : fwid x = cb .f64 r := by unfold fwid; rw [h]
theorem fwid_none {x : Nat} (h : floatToFloatBits .f32 x .f64 = none) : fwid x = qn .f64 := by unfold fwid; rw [h]

theorem read_wide (x : Nat) : isNum (FloatKind.f64.format.read (fwid x)) = isNum (FloatKind.f32.format.read x) := by
  cases hr : FloatKind.f32.format.read x with
  | nan s f =>
    have hn : nanB .f32 x = true := by unfold nanB FloatKind.decode; rw [hr]; rfl
    rw [fwid_none (nan_widen hn)]
    obtain ⟨s', f', h⟩ := nan_read (nanB_qn .f64)
    rw [h]; rfl
  | infinity s =>
    rw [fwid_some (f2f_inf hr), read_inf64 s]; rfl
  | number s m e =>
    obtain ⟨h1, h2, h3⟩ := read32_bounds (b := x) hr
    rw [fwid_some (f2f_num hr), isNum_wide_num h1 h2 h3]; rfl

theorem fin_wide (x : Nat) : fcmp .eql .f64 (fsub .f64 (fwid x) (fwid x)) 0 = finB x := by
  unfold finB
  rw [sub_self_cases, sub_self_cases, read_wide]

-- @reg impl.within : c_within _ _ _ _
theorem c_within (n low high : Int) (M : Mem) : ACall Try.prog 48 [.int .i64 n, .int .i64 low, .int .i64 high] M fun v M' => v = .bool (inB n low high) ∧ M' = M := by
  unfold inB
  refine acall_of_awp Try.func48 rfl Try.ntmps48 rfl ?_
  refine cS (cR ?_)
  refine asg rfl ?_
  refine rN ?_
  refine qN ?_
  refine cS (cR ?_)
  refine mv rfl ?_
  refine mv rfl ?_
  refine bLeq rfl rfl ?_
  refine mv rfl ?_
  refine gC rfl rfl (fun c1 => ?_) (fun c1 => ?_)
  · have c1' := c1; try simp only [inB_iff, Bool.and_eq_true, decide_eq_true_eq, decide_eq_false_iff_not, beq_iff_eq, beq_eq_false_iff_ne, bne_iff_ne, bne_eq_false_iff_eq, ne_eq] at c1'
    refine gG rfl rfl c1 ?_
    refine mv rfl ?_
    refine gG rfl rfl c1 ?_
    refine mv rfl ?_
    refine gG rfl rfl c1 ?_
    refine bLeq rfl rfl ?_
    refine kT rfl c1 rfl ?_
    refine asg rfl ?_
    refine rN ?_
    refine qN ?_
    refine cE ?_
    refine kE rfl rfl  ?_
    first | (exfalso; contradiction) | exact ⟨_, ⟨rfl, rfl⟩, (by (try simp only [List.cons_append, List.nil_append, List.append_assoc]); repeat' first | with_reducible apply eR | with_reducible apply eA | ((with_reducible apply xA); · repeat first | with_reducible apply lH | with_reducible apply lT | with_reducible apply lL) | ((with_reducible apply xC); · repeat first | apply pH | with_reducible apply pT | with_reducible apply pL) | with_reducible assumption | with_reducible apply eS | with_reducible apply eL | exact eR)⟩ | exact ⟨_, ⟨by first | (simp_all; done) | (simp_all; intros; omega), rfl⟩, (by (try simp only [List.cons_append, List.nil_append, List.append_assoc]); repeat' first | with_reducible apply eR | with_reducible apply eA | ((with_reducible apply xA); · repeat first | with_reducible apply lH | with_reducible apply lT | with_reducible apply lL) | ((with_reducible apply xC); · repeat first | apply pH | with_reducible apply pT | with_reducible apply pL) | with_reducible assumption | with_reducible apply eS | with_reducible apply eL | exact eR)⟩ | (exfalso; first | contradiction | omega | (simp_all; done) | (simp_all; omega))
  · have c1' := c1; try simp only [inB_iff, Bool.and_eq_true, decide_eq_true_eq, decide_eq_false_iff_not, beq_iff_eq, beq_eq_false_iff_ne, bne_iff_ne, bne_eq_false_iff_eq, ne_eq] at c1'
    refine gS rfl rfl c1 ?_
    refine gS rfl rfl c1 ?_
    refine gS rfl rfl c1 ?_
    refine kF rfl c1 rfl ?_
    refine asg rfl ?_
    refine rN ?_
    refine qN ?_
    refine cE ?_
    refine kE rfl rfl  ?_
    first | (exfalso; contradiction) | exact ⟨_, ⟨rfl, rfl⟩, (by (try simp only [List.cons_append, List.nil_append, List.append_assoc]); repeat' first | with_reducible apply eR | with_reducible apply eA | ((with_reducible apply xA); · repeat first | with_reducible apply lH | with_reducible apply lT | with_reducible apply lL) | ((with_reducible apply xC); · repeat first | apply pH | with_reducible apply pT | with_reducible apply pL) | with_reducible assumption | with_reducible apply eS | with_reducible apply eL | exact eR)⟩ | exact ⟨_, ⟨by first | (simp_all; done) | (simp_all; intros; omega), rfl⟩, (by (try simp only [List.cons_append, List.nil_append, List.append_assoc]); repeat' first | with_reducible apply eR | with_reducible apply eA | ((with_reducible apply xA); · repeat first | with_reducible apply lH | with_reducible apply lT | with_reducible apply lL) | ((with_reducible apply xC); · repeat first | apply pH | with_reducible apply pT | with_reducible apply pL) | with_reducible assumption | with_reducible apply eS | with_reducible apply eL | exact eR)⟩ | (exfalso; first | contradiction | omega | (simp_all; done) | (simp_all; omega))
-- @reg spec.l00In : c_l00In _ _ _ _
theorem c_l00In (n low high : Int) (M : Mem) : ACall Try.prog 45 [.int .i64 n, .int .i64 low, .int .i64 high] M fun v M' => v = .bool (inB n low high) ∧ M' = M := by
  unfold inB
  refine acall_of_awp Try.func45 rfl Try.ntmps45 rfl ?_
  refine cS (cR ?_)
  refine asg rfl ?_
  refine rN ?_
  refine qN ?_
  refine cS (cR ?_)
  refine mv rfl ?_
  refine mv rfl ?_
  refine bGeq rfl rfl ?_
  refine mv rfl ?_
  refine gC rfl rfl (fun c1 => ?_) (fun c1 => ?_)
  · have c1' := c1; try simp only [inB_iff, Bool.and_eq_true, decide_eq_true_eq, decide_eq_false_iff_not, beq_iff_eq, beq_eq_false_iff_ne, bne_iff_ne, bne_eq_false_iff_eq, ne_eq] at c1'
    refine gG rfl rfl c1 ?_
    refine mv rfl ?_
    refine gG rfl rfl c1 ?_
    refine mv rfl ?_
    refine gG rfl rfl c1 ?_
    refine bLeq rfl rfl ?_
    refine kT rfl c1 rfl ?_
    refine asg rfl ?_
    refine rN ?_
    refine qN ?_
    refine cE ?_
    refine kE rfl rfl  ?_
    first | (exfalso; contradiction) | exact ⟨_, ⟨rfl, rfl⟩, (by (try simp only [List.cons_append, List.nil_append, List.append_assoc]); repeat' first | with_reducible apply eR | with_reducible apply eA | ((with_reducible apply xA); · repeat first | with_reducible apply lH | with_reducible apply lT | with_reducible apply lL) | ((with_reducible apply xC); · repeat first | apply pH | with_reducible apply pT | with_reducible apply pL) | with_reducible assumption | with_reducible apply eS | with_reducible apply eL | exact eR)⟩ | exact ⟨_, ⟨by first | (simp_all; done) | (simp_all; intros; omega), rfl⟩, (by (try simp only [List.cons_append, List.nil_append, List.append_assoc]); repeat' first | with_reducible apply eR | with_reducible apply eA | ((with_reducible apply xA); · repeat first | with_reducible apply lH | with_reducible apply lT | with_reducible apply lL) | ((with_reducible apply xC); · repeat first | apply pH | with_reducible apply pT | with_reducible apply pL) | with_reducible assumption | with_reducible apply eS | with_reducible apply eL | exact eR)⟩ | (exfalso; first | contradiction | omega | (simp_all; done) | (simp_all; omega))
  · have c1' := c1; try simp only [inB_iff, Bool.and_eq_true, decide_eq_true_eq, decide_eq_false_iff_not, beq_iff_eq, beq_eq_false_iff_ne, bne_iff_ne, bne_eq_false_iff_eq, ne_eq] at c1'
    refine gS rfl rfl c1 ?_
    refine gS rfl rfl c1 ?_
    refine gS rfl rfl c1 ?_
    refine kF rfl c1 rfl ?_
    refine asg rfl ?_
    refine rN ?_
    refine qN ?_
    refine cE ?_
    refine kE rfl rfl  ?_
    first | (exfalso; contradiction) | exact ⟨_, ⟨rfl, rfl⟩, (by (try simp only [List.cons_append, List.nil_append, List.append_assoc]); repeat' first | with_reducible apply eR | with_reducible apply eA | ((with_reducible apply xA); · repeat first | with_reducible apply lH | with_reducible apply lT | with_reducible apply lL) | ((with_reducible apply xC); · repeat first | apply pH | with_reducible apply pT | with_reducible apply pL) | with_reducible assumption | with_reducible apply eS | with_reducible apply eL | exact eR)⟩ | exact ⟨_, ⟨by first | (simp_all; done) | (simp_all; intros; omega), rfl⟩, (by (try simp only [List.cons_append, List.nil_append, List.append_assoc]); repeat' first | with_reducible apply eR | with_reducible apply eA | ((with_reducible apply xA); · repeat first | with_reducible apply lH | with_reducible apply lT | with_reducible apply lL) | ((with_reducible apply xC); · repeat first | apply pH | with_reducible apply pT | with_reducible apply pL) | with_reducible assumption | with_reducible apply eS | with_reducible apply eL | exact eR)⟩ | (exfalso; first | contradiction | omega | (simp_all; done) | (simp_all; omega))
-- @reg impl.length[float32] : c_length _ _ _ _
theorem c_length (a : Option Addr) (n c : Nat) (M : Mem) : ACall Try.prog 47 [.slice a n c] M fun v M' => v = .int .i64 (n : Nat) ∧ M' = M := by
  refine acall_of_awp Try.func47 rfl Try.ntmps47 rfl ?_
  refine cS (cR ?_)
  refine asg rfl ?_
  refine rN ?_
  refine qN ?_
  refine cS (cR ?_)
  refine mv rfl ?_
  refine ln rfl ?_
  refine asg rfl ?_
  refine rN ?_
  refine qN ?_
  refine cE ?_
  refine kE rfl rfl  ?_
  first | (exfalso; contradiction) | exact ⟨_, ⟨rfl, rfl⟩, (by (try simp only [List.cons_append, List.nil_append, List.append_assoc]); repeat' first | with_reducible apply eR | with_reducible apply eA | ((with_reducible apply xA); · repeat first | with_reducible apply lH | with_reducible apply lT | with_reducible apply lL) | ((with_reducible apply xC); · repeat first | apply pH | with_reducible apply pT | with_reducible apply pL) | with_reducible assumption | with_reducible apply eS | with_reducible apply eL | exact eR)⟩ | exact ⟨_, ⟨by first | (simp_all; done) | (simp_all; intros; omega), rfl⟩, (by (try simp only [List.cons_append, List.nil_append, List.append_assoc]); repeat' first | with_reducible apply eR | with_reducible apply eA | ((with_reducible apply xA); · repeat first | with_reducible apply lH | with_reducible apply lT | with_reducible apply lL) | ((with_reducible apply xC); · repeat first | apply pH | with_reducible apply pT | with_reducible apply pL) | with_reducible assumption | with_reducible apply eS | with_reducible apply eL | exact eR)⟩ | (exfalso; first | contradiction | omega | (simp_all; done) | (simp_all; omega))
-- @reg impl.isFilter : c_isFilter _ _
-- @reg impl.isCount : c_isCount _ _
-- @reg impl.IsTrace : c_IsTrace _ _ _ _
-- @reg spec.l03Is : c_l03Is _ _ _ _
-- @reg spec.l05Filter : c_l05Filter _ _ _ _
-- @reg spec.l01Finite : c_l01Finite _ _
-- @reg impl.isFinite : c_isFinite _ _
-- @reg impl.IsFinite : c_IsFinite _ _
/-- finite, and at least 0 -/
def nnB (x : Nat) : Bool := finB x && fcmp .geq .f32 x 0
-- @reg impl.isNonNegative : c_isNonNegative _ _
-- @reg spec.l05Near : c_l05Near _ _
end Go.Proofs.Ytkbpdgacfeachaa.Ab
