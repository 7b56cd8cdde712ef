/-
  Walks: paths: their parts, the cells of these, and how long a path is in each cell.
-/
import Derived.Test.YtkbpdgacfeachaaIx
import Derived.Test.YtkbpdgacfeachaaNu
import Derived.Test.YtkbpdgacfeachaaSe
namespace Go.Proofs.Ytkbpdgacfeachaa.Ab
open Go Go.RowKit
attribute [local irreducible] Run Then InBlock LoopQ LQ1 LQ2 LQ3 LQ4 LQ5 LQ6 AWp Ret ACall
set_option linter.unusedVariables false
set_option linter.unusedSimpArgs false

/-! ## roots and whole parts -/
abbrev sqF (x : Nat) : Nat := fnar (fsqr (fwid x))
-- @reg math.Sqrt : c_mathSqrt _ _
theorem c_mathSqrt (x : Nat) (M : Mem) : ACall Try.prog 60 [.float .f64 x] M fun v M' => v = .float .f64 (fsqr x) ∧ M' = M := by
  refine acall_of_awp Try.func60 rfl Try.ntmps60 rfl ?_
  refine cS (cR ?_)
  refine asg rfl ?_
  refine rN ?_
  refine qN ?_
  refine cS (cR ?_)
  refine mv rfl ?_
  refine xSqrt rfl ?_
  refine asg rfl ?_
  refine rN ?_
  refine qN ?_
  refine cE ?_
  refine kE rfl rfl  ?_
  first | (exfalso; contradiction) | exact ⟨_, ⟨rfl, rfl⟩, (by (try simp only [List.cons_append, List.nil_append, List.append_assoc]); repeat' first | with_reducible apply eR | with_reducible apply eA | ((with_reducible apply xA); · repeat first | with_reducible apply lH | with_reducible apply lT | with_reducible apply lL) | ((with_reducible apply xC); · repeat first | apply pH | with_reducible apply pT | with_reducible apply pL) | with_reducible assumption | with_reducible apply eS | with_reducible apply eL | exact eR)⟩ | exact ⟨_, ⟨by first | (simp_all; done) | (simp_all; intros; omega), rfl⟩, (by (try simp only [List.cons_append, List.nil_append, List.append_assoc]); repeat' first | with_reducible apply eR | with_reducible apply eA | ((with_reducible apply xA); · repeat first | with_reducible apply lH | with_reducible apply lT | with_reducible apply lL) | ((with_reducible apply xC); · repeat first | apply pH | with_reducible apply pT | with_reducible apply pL) | with_reducible assumption | with_reducible apply eS | with_reducible apply eL | exact eR)⟩ | (exfalso; first | contradiction | omega | (simp_all; done) | (simp_all; omega))
-- @reg math.Floor : c_Floor _ _
theorem c_Floor (x : Nat) (M : Mem) : ACall Try.prog 53 [.float .f64 x] M fun v M' => v = .float .f64 (fint .down x) ∧ M' = M := by
  refine acall_of_awp Try.func53 rfl Try.ntmps53 rfl ?_
  refine cS (cR ?_)
  refine asg rfl ?_
  refine rN ?_
  refine qN ?_
  refine cS ?_
  refine cT rfl ?_
  refine cS (cR ?_)
  refine mv rfl ?_
  refine xInt rfl ?_
  refine asg rfl ?_
  refine rN ?_
  refine qN ?_
  refine cE ?_
  refine qE ?_
  refine kE rfl rfl  ?_
  first | (exfalso; contradiction) | exact ⟨_, ⟨rfl, rfl⟩, (by (try simp only [List.cons_append, List.nil_append, List.append_assoc]); repeat' first | with_reducible apply eR | with_reducible apply eA | ((with_reducible apply xA); · repeat first | with_reducible apply lH | with_reducible apply lT | with_reducible apply lL) | ((with_reducible apply xC); · repeat first | apply pH | with_reducible apply pT | with_reducible apply pL) | with_reducible assumption | with_reducible apply eS | with_reducible apply eL | exact eR)⟩ | exact ⟨_, ⟨by first | (simp_all; done) | (simp_all; intros; omega), rfl⟩, (by (try simp only [List.cons_append, List.nil_append, List.append_assoc]); repeat' first | with_reducible apply eR | with_reducible apply eA | ((with_reducible apply xA); · repeat first | with_reducible apply lH | with_reducible apply lT | with_reducible apply lL) | ((with_reducible apply xC); · repeat first | apply pH | with_reducible apply pT | with_reducible apply pL) | with_reducible assumption | with_reducible apply eS | with_reducible apply eL | exact eR)⟩ | (exfalso; first | contradiction | omega | (simp_all; done) | (simp_all; omega))
-- @reg impl.RootNumber : c_RootNumber _ _
theorem c_RootNumber (x : Nat) (M : Mem) : ACall Try.prog 54 [.float .f32 x] M fun v M' => v = .float .f32 (sqF x) ∧ M' = M := by
  have hn := (sqr_cases x).1
  refine acall_of_awp Try.func54 rfl Try.ntmps54 rfl ?_
  refine cS (cR ?_)
  refine asg rfl ?_
  refine rN ?_
  refine qN ?_
  refine cS (cR ?_)
  refine mv rfl ?_
  refine rW rfl ?_
  refine rCq rfl (c_mathSqrt _ _) ?_
  refine rNw rfl (by first | assumption | simp [*]) ?_
  refine asg rfl ?_
  refine rN ?_
  refine qN ?_
  refine cE ?_
  refine kE rfl rfl  ?_
  first | (exfalso; contradiction) | exact ⟨_, ⟨rfl, rfl⟩, (by (try simp only [List.cons_append, List.nil_append, List.append_assoc]); repeat' first | with_reducible apply eR | with_reducible apply eA | ((with_reducible apply xA); · repeat first | with_reducible apply lH | with_reducible apply lT | with_reducible apply lL) | ((with_reducible apply xC); · repeat first | apply pH | with_reducible apply pT | with_reducible apply pL) | with_reducible assumption | with_reducible apply eS | with_reducible apply eL | exact eR)⟩ | exact ⟨_, ⟨by first | (simp_all; done) | (simp_all; intros; omega), rfl⟩, (by (try simp only [List.cons_append, List.nil_append, List.append_assoc]); repeat' first | with_reducible apply eR | with_reducible apply eA | ((with_reducible apply xA); · repeat first | with_reducible apply lH | with_reducible apply lT | with_reducible apply lL) | ((with_reducible apply xC); · repeat first | apply pH | with_reducible apply pT | with_reducible apply pL) | with_reducible assumption | with_reducible apply eS | with_reducible apply eL | exact eR)⟩ | (exfalso; first | contradiction | omega | (simp_all; done) | (simp_all; omega))
-- @reg spec.l01Narrow : c_l01Narrow _ _ (by with_reducible assumption)
theorem c_l01Narrow (x : Nat) (M : Mem) (hn : narOk x = true) : ACall Try.prog 59 [.float .f64 x] M fun v M' => v = .float .f32 (fnar x) ∧ M' = M := by
  refine acall_of_awp Try.func59 rfl Try.ntmps59 rfl ?_
  refine cS (cR ?_)
  refine asg rfl ?_
  refine rN ?_
  refine qN ?_
  refine cS (cR ?_)
  refine mv rfl ?_
  refine rNw rfl (by first | assumption | simp [*]) ?_
  refine asg rfl ?_
  refine rN ?_
  refine qN ?_
  refine cE ?_
  refine kE rfl rfl  ?_
  first | (exfalso; contradiction) | exact ⟨_, ⟨rfl, rfl⟩, (by (try simp only [List.cons_append, List.nil_append, List.append_assoc]); repeat' first | with_reducible apply eR | with_reducible apply eA | ((with_reducible apply xA); · repeat first | with_reducible apply lH | with_reducible apply lT | with_reducible apply lL) | ((with_reducible apply xC); · repeat first | apply pH | with_reducible apply pT | with_reducible apply pL) | with_reducible assumption | with_reducible apply eS | with_reducible apply eL | exact eR)⟩ | exact ⟨_, ⟨by first | (simp_all; done) | (simp_all; intros; omega), rfl⟩, (by (try simp only [List.cons_append, List.nil_append, List.append_assoc]); repeat' first | with_reducible apply eR | with_reducible apply eA | ((with_reducible apply xA); · repeat first | with_reducible apply lH | with_reducible apply lT | with_reducible apply lL) | ((with_reducible apply xC); · repeat first | apply pH | with_reducible apply pT | with_reducible apply pL) | with_reducible assumption | with_reducible apply eS | with_reducible apply eL | exact eR)⟩ | (exfalso; first | contradiction | omega | (simp_all; done) | (simp_all; omega))
-- @reg spec.l01Sqrt : c_l01Sqrt _ _
theorem c_l01Sqrt (x : Nat) (M : Mem) : ACall Try.prog 46 [.float .f32 x] M fun v M' => v = .float .f32 (sqF x) ∧ M' = M := by
  have hn := (sqr_cases x).1
  refine acall_of_awp Try.func46 rfl Try.ntmps46 rfl ?_
  refine cS (cR ?_)
  refine asg rfl ?_
  refine rN ?_
  refine qN ?_
  refine cS (cR ?_)
  refine mv rfl ?_
  refine rW rfl ?_
  refine rCq rfl (c_mathSqrt _ _) ?_
  refine rCq rfl (c_l01Narrow _ _ (by with_reducible assumption)) ?_
  refine asg rfl ?_
  refine rN ?_
  refine qN ?_
  refine cE ?_
  refine kE rfl rfl  ?_
  first | (exfalso; contradiction) | exact ⟨_, ⟨rfl, rfl⟩, (by (try simp only [List.cons_append, List.nil_append, List.append_assoc]); repeat' first | with_reducible apply eR | with_reducible apply eA | ((with_reducible apply xA); · repeat first | with_reducible apply lH | with_reducible apply lT | with_reducible apply lL) | ((with_reducible apply xC); · repeat first | apply pH | with_reducible apply pT | with_reducible apply pL) | with_reducible assumption | with_reducible apply eS | with_reducible apply eL | exact eR)⟩ | exact ⟨_, ⟨by first | (simp_all; done) | (simp_all; intros; omega), rfl⟩, (by (try simp only [List.cons_append, List.nil_append, List.append_assoc]); repeat' first | with_reducible apply eR | with_reducible apply eA | ((with_reducible apply xA); · repeat first | with_reducible apply lH | with_reducible apply lT | with_reducible apply lL) | ((with_reducible apply xC); · repeat first | apply pH | with_reducible apply pT | with_reducible apply pL) | with_reducible assumption | with_reducible apply eS | with_reducible apply eL | exact eR)⟩ | (exfalso; first | contradiction | omega | (simp_all; done) | (simp_all; omega))

/-! ## places -/
def plB (x : Nat) : Bool := fcmp .geq .f32 x 3296329728 && fcmp .leq .f32 x 1148846080
theorem abs_int (n : Int) : (n * (PU : Nat)).natAbs = n.natAbs * PU := by rw [Int.natAbs_mul, Int.natAbs_natCast]
theorem place_sv {x : Nat} (h : plB x = true) : ∃ a, sv .f32 x = some a ∧ a.natAbs ≤ 1000 * PU := by
  unfold plB at h
  rw [Bool.and_eq_true] at h
  have e1 : fofint .f32 (-1000) = 3296329728 := by decide
  have e2 : fofint .f32 1000 = 1148846080 := by decide
  have h1 := sv_fofint (k := .f32) (n := -1000) (by decide)
  have h2 := sv_fofint (k := .f32) (n := 1000) (by decide)
  rw [e1] at h1; rw [e2] at h2
  obtain ⟨a, ha, b1, b2⟩ := between h1 h2 h.1 h.2
  refine ⟨a, ha, ?_⟩
  generalize PU = U at *
  omega
theorem half_sv : ∃ a, sv .f32 1056964608 = some a ∧ 0 ≤ a ∧ a ≤ 1 * (PU : Nat) := by
  have h1 := sv_fofint (k := .f32) (n := 0) (by decide)
  have h2 := sv_fofint (k := .f32) (n := 1) (by decide)
  have e1 : fofint .f32 0 = 0 := by decide
  have e2 : fofint .f32 1 = 1065353216 := by decide
  rw [e1] at h1; rw [e2] at h2
  obtain ⟨a, ha, b1, b2⟩ := between h1 h2 (show fcmp .geq .f32 1056964608 0 = true by decide) (show fcmp .leq .f32 1056964608 1065353216 = true by decide)
  exact ⟨a, ha, by rw [Int.zero_mul] at b1; exact b1, b2⟩
/-- the middle of a part -/
abbrev qF (i parts : Nat) : Nat := fdiv .f32 (fadd .f32 (fofint .f32 (i : Nat)) 1056964608) (fofint .f32 (parts : Nat))
theorem qF_sv {i parts : Nat} (hi : i < parts) (hp : parts ≤ 256) : ∃ a, sv .f32 (qF i parts) = some a ∧ a.natAbs ≤ 257 * PU := by
  have h1 := sv_fofint (k := .f32) (n := (i : Nat)) (by omega)
  have h2 := sv_fofint (k := .f32) (n := (parts : Nat)) (by omega)
  obtain ⟨c, h3, b1, b2⟩ := half_sv
  have hPU := PU_pos
  obtain ⟨a, h4, h5⟩ := sv_add h1 h3 (rep_int (k := .f32) (n := 257) (by decide)) (by
    have e : ((i : Nat) : Int) * (PU : Nat) = ((i * PU : Nat) : Int) := (Int.natCast_mul _ _).symm
    have : i * PU ≤ 255 * PU := Nat.mul_le_mul_right _ (by omega)
    rw [e]
    generalize PU = U at *
    generalize i * U = V at *
    omega)
  refine sv_div h4 h2 ?_ (by decide) ?_
  · intro h0
    rcases Int.mul_eq_zero.1 h0 with h0 | h0 <;> omega
  · rw [abs_int, Int.natAbs_natCast]
    refine Nat.le_trans h5 (Nat.mul_le_mul_left _ ?_)
    exact Nat.le_mul_of_pos_left _ (by omega)
/-- where the middle of a part lies, the whole part -/
abbrev pxF (f t i parts : Nat) : Nat := fint .down (fwid (fadd .f32 f (fmul .f32 (fsub .f32 t f) (qF i parts))))
def wI (w : Nat) : Int := ((FloatKind.f64.decode w).toInt .zero).getD 0
theorem wI_sv {w : Nat} {n : Int} (h : sv .f64 w = some (n * PU)) : wI w = n := by unfold wI; rw [toInt_sv h]; rfl
def pX (f t i parts : Nat) : Int := wI (pxF f t i parts)
theorem pX_sv {f t i parts : Nat} (hf : plB f = true) (ht : plB t = true) (hi : i < parts) (hp : parts ≤ 256) : sv .f64 (pxF f t i parts) = some (pX f t i parts * PU) ∧ (pX f t i parts).natAbs ≤ 600000 := by
  obtain ⟨a, a1, a2⟩ := place_sv hf
  obtain ⟨b, b1, b2⟩ := place_sv ht
  obtain ⟨q, q1, q2⟩ := qF_sv hi hp
  obtain ⟨e, e1, e2⟩ := sv_sub b1 a1 (rep_int (k := .f32) (n := 2000) (by decide)) (by generalize PU = U at *; omega)
  obtain ⟨m, m1, m2⟩ := sv_mul e1 q1 (rep_int (k := .f32) (n := 514000) (by decide)) (by
    refine Nat.le_trans (Nat.mul_le_mul e2 q2) (Nat.le_of_eq ?_)
    generalize PU = U at *
    rw [show 514000 = 2000 * 257 from rfl]; ac_rfl)
  obtain ⟨s, s1, s2⟩ := sv_add a1 m1 (rep_int (k := .f32) (n := 515000) (by decide)) (by generalize PU = U at *; omega)
  obtain ⟨n, n1, n2, n3, n4, n5⟩ := sv_floor (sv_fwid s1) (Q := 515000) (by decide) s2
  have hw : pX f t i parts = n := wI_sv n1
  rw [hw]
  exact ⟨n1, by omega⟩
theorem whole_geq {w : Nat} {n : Int} (h : sv .f64 w = some (n * PU)) : fcmp .geq .f64 w 0 = decide (0 ≤ n) := by
  rw [geq_sv h (sv_zero .f64)]
  have hp : (0 : Int) < (PU : Nat) := by exact_mod_cast PU_pos
  refine decide_eq_decide.2 ⟨fun h => Int.nonneg_of_mul_nonneg_left h hp, fun h => Int.mul_nonneg h (Int.le_of_lt hp)⟩
theorem whole_lss {w : Nat} {n d : Int} (h : sv .f64 w = some (n * PU)) (hd : d.natAbs < 2 ^ 24) : fcmp .lss .f64 w (fofint .f64 d) = decide (n < d) := by
  rw [lss_sv h (sv_fofint hd)]
  have hp : (0 : Int) < (PU : Nat) := by exact_mod_cast PU_pos
  exact decide_eq_decide.2 ⟨fun h => Int.lt_of_mul_lt_mul_right h (Int.le_of_lt hp), fun h => Int.mul_lt_mul_of_pos_right h hp⟩

/-! ## paths -/
structure Pth where
  fx : Nat
  fz : Nat
  tx : Nat
  tz : Nat
def ptB (p : Pth) : Bool := plB p.fx && plB p.fz && plB p.tx && plB p.tz
theorem ptB_iff {p : Pth} : ptB p = true ↔ plB p.fx = true ∧ plB p.fz = true ∧ plB p.tx = true ∧ plB p.tz = true := by
  simp [ptB, and_assoc]
/-- the numbers of a path lie here -/
def PAt (M : Mem) (b o : Nat) (p : Pth) : Prop := ∃ k : Blk, (b, k) ∈ M ∧ k.cells[o + 0]? = some (.float .f32 p.fx) ∧ k.cells[o + 1]? = some (.float .f32 p.fz) ∧ k.cells[o + 2]? = some (.float .f32 p.tx) ∧ k.cells[o + 3]? = some (.float .f32 p.tz)
theorem PAt.mono {M M' : Mem} {b o : Nat} {p : Pth} (h : PAt M b o p) (e : Ext M M') : PAt M' b o p := by
  obtain ⟨k, h1, h2⟩ := h; exact ⟨k, e.mem h1, h2⟩
theorem PAt.blk {M : Mem} {b : Nat} {wr : Bool} {p : Pth} (hm : (b, (⟨[.float .f32 p.fx, .float .f32 p.fz, .float .f32 p.tx, .float .f32 p.tz], wr⟩ : Blk)) ∈ M) : PAt M b 0 p := ⟨_, hm, rfl, rfl, rfl, rfl⟩
-- @reg spec.l06Place : c_l06Place _ _
theorem c_l06Place (x : Nat) (M : Mem) : ACall Try.prog 58 [.float .f32 x] M fun v M' => v = .bool (plB x) ∧ M' = M := by
  unfold plB
  refine acall_of_awp Try.func58 rfl Try.ntmps58 rfl ?_
  refine cS (cR ?_)
  refine asg rfl ?_
  refine rN ?_
  refine qN ?_
  refine cS (cR ?_)
  refine mv rfl ?_
  refine fCm rfl rfl rfl ?_
  refine mv rfl ?_
  refine gC rfl rfl (fun c1 => ?_) (fun c1 => ?_)
  · have c1' := c1; try simp only [inB_iff, Bool.and_eq_true, decide_eq_true_eq, decide_eq_false_iff_not, beq_iff_eq, beq_eq_false_iff_ne, bne_iff_ne, bne_eq_false_iff_eq, ne_eq] at c1'
    refine gG rfl rfl c1 ?_
    refine mv rfl ?_
    refine gG rfl rfl c1 ?_
    refine fCm rfl rfl rfl ?_
    refine kT rfl c1 rfl ?_
    refine asg rfl ?_
    refine rN ?_
    refine qN ?_
    refine cE ?_
    refine kE rfl rfl  ?_
    first | (exfalso; contradiction) | exact ⟨_, ⟨rfl, rfl⟩, (by (try simp only [List.cons_append, List.nil_append, List.append_assoc]); repeat' first | with_reducible apply eR | with_reducible apply eA | ((with_reducible apply xA); · repeat first | with_reducible apply lH | with_reducible apply lT | with_reducible apply lL) | ((with_reducible apply xC); · repeat first | apply pH | with_reducible apply pT | with_reducible apply pL) | with_reducible assumption | with_reducible apply eS | with_reducible apply eL | exact eR)⟩ | exact ⟨_, ⟨by first | (simp_all; done) | (simp_all; intros; omega), rfl⟩, (by (try simp only [List.cons_append, List.nil_append, List.append_assoc]); repeat' first | with_reducible apply eR | with_reducible apply eA | ((with_reducible apply xA); · repeat first | with_reducible apply lH | with_reducible apply lT | with_reducible apply lL) | ((with_reducible apply xC); · repeat first | apply pH | with_reducible apply pT | with_reducible apply pL) | with_reducible assumption | with_reducible apply eS | with_reducible apply eL | exact eR)⟩ | (exfalso; first | contradiction | omega | (simp_all; done) | (simp_all; omega))
  · have c1' := c1; try simp only [inB_iff, Bool.and_eq_true, decide_eq_true_eq, decide_eq_false_iff_not, beq_iff_eq, beq_eq_false_iff_ne, bne_iff_ne, bne_eq_false_iff_eq, ne_eq] at c1'
    refine gS rfl rfl c1 ?_
    refine gS rfl rfl c1 ?_
    refine kF rfl c1 rfl ?_
    refine asg rfl ?_
    refine rN ?_
    refine qN ?_
    refine cE ?_
    refine kE rfl rfl  ?_
    first | (exfalso; contradiction) | exact ⟨_, ⟨rfl, rfl⟩, (by (try simp only [List.cons_append, List.nil_append, List.append_assoc]); repeat' first | with_reducible apply eR | with_reducible apply eA | ((with_reducible apply xA); · repeat first | with_reducible apply lH | with_reducible apply lT | with_reducible apply lL) | ((with_reducible apply xC); · repeat first | apply pH | with_reducible apply pT | with_reducible apply pL) | with_reducible assumption | with_reducible apply eS | with_reducible apply eL | exact eR)⟩ | exact ⟨_, ⟨by first | (simp_all; done) | (simp_all; intros; omega), rfl⟩, (by (try simp only [List.cons_append, List.nil_append, List.append_assoc]); repeat' first | with_reducible apply eR | with_reducible apply eA | ((with_reducible apply xA); · repeat first | with_reducible apply lH | with_reducible apply lT | with_reducible apply lL) | ((with_reducible apply xC); · repeat first | apply pH | with_reducible apply pT | with_reducible apply pL) | with_reducible assumption | with_reducible apply eS | with_reducible apply eL | exact eR)⟩ | (exfalso; first | contradiction | omega | (simp_all; done) | (simp_all; omega))
-- @reg spec.l06Path : c_l06Path _ _ _ _ @PAT@
theorem c_l06Path (b o : Nat) (p : Pth) (M : Mem) (hpa : PAt M b o p) : ACall Try.prog 44 [.pointer (some ⟨b, o, none⟩)] M fun v M' => v = .bool (ptB p) ∧ M' = M := by
  obtain ⟨kb, hm, e0, e1, e2, e3⟩ := id hpa
  refine acall_of_awp Try.func44 rfl Try.ntmps44 rfl ?_
  refine cS (cR ?_)
  refine asg rfl ?_
  refine rN ?_
  refine qN ?_
  refine cS (cR ?_)
  refine mv rfl ?_
  refine nk rfl ?_
  refine fA rfl ?_
  first | refine rL rfl (by repeat first | with_reducible assumption | with_reducible apply List.mem_cons_self | with_reducible apply List.mem_cons_of_mem | with_reducible apply List.mem_append_right | exact List.Mem.head _) rfl rfl ?_ | refine rL rfl (by repeat first | with_reducible assumption | with_reducible apply List.mem_cons_self | with_reducible apply List.mem_cons_of_mem | with_reducible apply List.mem_append_right | exact List.Mem.head _) (by with_reducible assumption) rfl ?_
  refine rCq rfl (c_l06Place _ _) ?_
  refine mv rfl ?_
  refine gC rfl rfl (fun c1 => ?_) (fun c1 => ?_)
  · have c1' := c1; try simp only [inB_iff, Bool.and_eq_true, decide_eq_true_eq, decide_eq_false_iff_not, beq_iff_eq, beq_eq_false_iff_ne, bne_iff_ne, bne_eq_false_iff_eq, ne_eq] at c1'
    refine gG rfl rfl c1 ?_
    refine mv rfl ?_
    refine gG rfl rfl c1 ?_
    refine nk rfl ?_
    refine gG rfl rfl c1 ?_
    refine fA rfl ?_
    refine gG rfl rfl c1 ?_
    first | refine rL rfl (by repeat first | with_reducible assumption | with_reducible apply List.mem_cons_self | with_reducible apply List.mem_cons_of_mem | with_reducible apply List.mem_append_right | exact List.Mem.head _) rfl rfl ?_ | refine rL rfl (by repeat first | with_reducible assumption | with_reducible apply List.mem_cons_self | with_reducible apply List.mem_cons_of_mem | with_reducible apply List.mem_append_right | exact List.Mem.head _) (by with_reducible assumption) rfl ?_
    refine gG rfl rfl c1 ?_
    refine rCq rfl (c_l06Place _ _) ?_
    refine kT rfl c1 rfl ?_
    refine mv rfl ?_
    refine gC rfl rfl (fun c2 => ?_) (fun c2 => ?_)
    · have c2' := c2; try simp only [inB_iff, Bool.and_eq_true, decide_eq_true_eq, decide_eq_false_iff_not, beq_iff_eq, beq_eq_false_iff_ne, bne_iff_ne, bne_eq_false_iff_eq, ne_eq] at c2'
      refine gG rfl rfl c2 ?_
      refine mv rfl ?_
      refine gG rfl rfl c2 ?_
      refine nk rfl ?_
      refine gG rfl rfl c2 ?_
      refine fA rfl ?_
      refine gG rfl rfl c2 ?_
      first | refine rL rfl (by repeat first | with_reducible assumption | with_reducible apply List.mem_cons_self | with_reducible apply List.mem_cons_of_mem | with_reducible apply List.mem_append_right | exact List.Mem.head _) rfl rfl ?_ | refine rL rfl (by repeat first | with_reducible assumption | with_reducible apply List.mem_cons_self | with_reducible apply List.mem_cons_of_mem | with_reducible apply List.mem_append_right | exact List.Mem.head _) (by with_reducible assumption) rfl ?_
      refine gG rfl rfl c2 ?_
      refine rCq rfl (c_l06Place _ _) ?_
      refine kT rfl c2 rfl ?_
      refine mv rfl ?_
      refine gC rfl rfl (fun c3 => ?_) (fun c3 => ?_)
      · have c3' := c3; try simp only [inB_iff, Bool.and_eq_true, decide_eq_true_eq, decide_eq_false_iff_not, beq_iff_eq, beq_eq_false_iff_ne, bne_iff_ne, bne_eq_false_iff_eq, ne_eq] at c3'
        refine gG rfl rfl c3 ?_
        refine mv rfl ?_
        refine gG rfl rfl c3 ?_
        refine nk rfl ?_
        refine gG rfl rfl c3 ?_
        refine fA rfl ?_
        refine gG rfl rfl c3 ?_
        first | refine rL rfl (by repeat first | with_reducible assumption | with_reducible apply List.mem_cons_self | with_reducible apply List.mem_cons_of_mem | with_reducible apply List.mem_append_right | exact List.Mem.head _) rfl rfl ?_ | refine rL rfl (by repeat first | with_reducible assumption | with_reducible apply List.mem_cons_self | with_reducible apply List.mem_cons_of_mem | with_reducible apply List.mem_append_right | exact List.Mem.head _) (by with_reducible assumption) rfl ?_
        refine gG rfl rfl c3 ?_
        refine rCq rfl (c_l06Place _ _) ?_
        refine kT rfl c3 rfl ?_
        refine asg rfl ?_
        refine rN ?_
        refine qN ?_
        refine cE ?_
        refine kE rfl rfl  ?_
        first | (exfalso; contradiction) | exact ⟨_, ⟨by (simp only [ptB, *, Bool.true_and, Bool.and_true, Bool.false_and, Bool.and_false, Bool.or_false, Bool.false_or, Bool.or_true, Bool.true_or, Bool.not_true, Bool.not_false, if_true, if_false, Bool.false_eq_true, decide_true, decide_false, cond_true, cond_false]; done), rfl⟩, (by (try simp only [List.cons_append, List.nil_append, List.append_assoc]); repeat' first | with_reducible apply eR | with_reducible apply eA | ((with_reducible apply xA); · repeat first | with_reducible apply lH | with_reducible apply lT | with_reducible apply lL) | ((with_reducible apply xC); · repeat first | apply pH | with_reducible apply pT | with_reducible apply pL) | with_reducible assumption | with_reducible apply eS | with_reducible apply eL | exact eR)⟩ | (exfalso; first | contradiction | omega | (simp_all; done) | (simp_all; omega))
      · have c3' := c3; try simp only [inB_iff, Bool.and_eq_true, decide_eq_true_eq, decide_eq_false_iff_not, beq_iff_eq, beq_eq_false_iff_ne, bne_iff_ne, bne_eq_false_iff_eq, ne_eq] at c3'
        refine gS rfl rfl c3 ?_
        refine gS rfl rfl c3 ?_
        refine gS rfl rfl c3 ?_
        refine gS rfl rfl c3 ?_
        refine gS rfl rfl c3 ?_
        refine kF rfl c3 rfl ?_
        refine asg rfl ?_
        refine rN ?_
        refine qN ?_
        refine cE ?_
        refine kE rfl rfl  ?_
        first | (exfalso; contradiction) | exact ⟨_, ⟨by (simp only [ptB, *, Bool.true_and, Bool.and_true, Bool.false_and, Bool.and_false, Bool.or_false, Bool.false_or, Bool.or_true, Bool.true_or, Bool.not_true, Bool.not_false, if_true, if_false, Bool.false_eq_true, decide_true, decide_false, cond_true, cond_false]; done), rfl⟩, (by (try simp only [List.cons_append, List.nil_append, List.append_assoc]); repeat' first | with_reducible apply eR | with_reducible apply eA | ((with_reducible apply xA); · repeat first | with_reducible apply lH | with_reducible apply lT | with_reducible apply lL) | ((with_reducible apply xC); · repeat first | apply pH | with_reducible apply pT | with_reducible apply pL) | with_reducible assumption | with_reducible apply eS | with_reducible apply eL | exact eR)⟩ | (exfalso; first | contradiction | omega | (simp_all; done) | (simp_all; omega))
    · have c2' := c2; try simp only [inB_iff, Bool.and_eq_true, decide_eq_true_eq, decide_eq_false_iff_not, beq_iff_eq, beq_eq_false_iff_ne, bne_iff_ne, bne_eq_false_iff_eq, ne_eq] at c2'
      refine gS rfl rfl c2 ?_
      refine gS rfl rfl c2 ?_
      refine gS rfl rfl c2 ?_
      refine gS rfl rfl c2 ?_
      refine gS rfl rfl c2 ?_
      refine kF rfl c2 rfl ?_
      refine mv rfl ?_
      refine gS rfl rfl rfl ?_
      refine gS rfl rfl rfl ?_
      refine gS rfl rfl rfl ?_
      refine gS rfl rfl rfl ?_
      refine gS rfl rfl rfl ?_
      refine kF rfl rfl rfl ?_
      refine asg rfl ?_
      refine rN ?_
      refine qN ?_
      refine cE ?_
      refine kE rfl rfl  ?_
      first | (exfalso; contradiction) | exact ⟨_, ⟨by (simp only [ptB, *, Bool.true_and, Bool.and_true, Bool.false_and, Bool.and_false, Bool.or_false, Bool.false_or, Bool.or_true, Bool.true_or, Bool.not_true, Bool.not_false, if_true, if_false, Bool.false_eq_true, decide_true, decide_false, cond_true, cond_false]; done), rfl⟩, (by (try simp only [List.cons_append, List.nil_append, List.append_assoc]); repeat' first | with_reducible apply eR | with_reducible apply eA | ((with_reducible apply xA); · repeat first | with_reducible apply lH | with_reducible apply lT | with_reducible apply lL) | ((with_reducible apply xC); · repeat first | apply pH | with_reducible apply pT | with_reducible apply pL) | with_reducible assumption | with_reducible apply eS | with_reducible apply eL | exact eR)⟩ | (exfalso; first | contradiction | omega | (simp_all; done) | (simp_all; omega))
  · have c1' := c1; try simp only [inB_iff, Bool.and_eq_true, decide_eq_true_eq, decide_eq_false_iff_not, beq_iff_eq, beq_eq_false_iff_ne, bne_iff_ne, bne_eq_false_iff_eq, ne_eq] at c1'
    refine gS rfl rfl c1 ?_
    refine gS rfl rfl c1 ?_
    refine gS rfl rfl c1 ?_
    refine gS rfl rfl c1 ?_
    refine gS rfl rfl c1 ?_
    refine kF rfl c1 rfl ?_
    refine mv rfl ?_
    refine gS rfl rfl rfl ?_
    refine gS rfl rfl rfl ?_
    refine gS rfl rfl rfl ?_
    refine gS rfl rfl rfl ?_
    refine gS rfl rfl rfl ?_
    refine kF rfl rfl rfl ?_
    refine mv rfl ?_
    refine gS rfl rfl rfl ?_
    refine gS rfl rfl rfl ?_
    refine gS rfl rfl rfl ?_
    refine gS rfl rfl rfl ?_
    refine gS rfl rfl rfl ?_
    refine kF rfl rfl rfl ?_
    refine asg rfl ?_
    refine rN ?_
    refine qN ?_
    refine cE ?_
    refine kE rfl rfl  ?_
    first | (exfalso; contradiction) | exact ⟨_, ⟨by (simp only [ptB, *, Bool.true_and, Bool.and_true, Bool.false_and, Bool.and_false, Bool.or_false, Bool.false_or, Bool.or_true, Bool.true_or, Bool.not_true, Bool.not_false, if_true, if_false, Bool.false_eq_true, decide_true, decide_false, cond_true, cond_false]; done), rfl⟩, (by (try simp only [List.cons_append, List.nil_append, List.append_assoc]); repeat' first | with_reducible apply eR | with_reducible apply eA | ((with_reducible apply xA); · repeat first | with_reducible apply lH | with_reducible apply lT | with_reducible apply lL) | ((with_reducible apply xC); · repeat first | apply pH | with_reducible apply pT | with_reducible apply pL) | with_reducible assumption | with_reducible apply eS | with_reducible apply eL | exact eR)⟩ | (exfalso; first | contradiction | omega | (simp_all; done) | (simp_all; omega))
theorem c_IsPath1 (x : Nat) (M : Mem) : ACall Try.prog 63 [.float .f32 x] M fun v M' => v = .bool (!plB x) ∧ M' = M := by
  unfold plB
  refine acall_of_awp Try.func63 rfl Try.ntmps63 rfl ?_
  refine cS (cR ?_)
  refine asg rfl ?_
  refine rN ?_
  refine qN ?_
  refine cS (cR ?_)
  refine mv rfl ?_
  refine fCm rfl rfl rfl ?_
  refine mv rfl ?_
  refine gC rfl rfl (fun c1 => ?_) (fun c1 => ?_)
  · have c1' := c1; try simp only [inB_iff, Bool.and_eq_true, decide_eq_true_eq, decide_eq_false_iff_not, beq_iff_eq, beq_eq_false_iff_ne, bne_iff_ne, bne_eq_false_iff_eq, ne_eq] at c1'
    refine gG rfl rfl c1 ?_
    refine mv rfl ?_
    refine gG rfl rfl c1 ?_
    refine fCm rfl rfl rfl ?_
    refine kT rfl c1 rfl ?_
    refine uNot rfl ?_
    refine asg rfl ?_
    refine rN ?_
    refine qN ?_
    refine cE ?_
    refine kE rfl rfl  ?_
    first | (exfalso; contradiction) | exact ⟨_, ⟨by (simp only [*, Bool.true_and, Bool.and_true, Bool.false_and, Bool.and_false, Bool.or_false, Bool.false_or, Bool.or_true, Bool.true_or, Bool.not_true, Bool.not_false, if_true, if_false, Bool.false_eq_true, decide_true, decide_false, cond_true, cond_false]; done), rfl⟩, (by (try simp only [List.cons_append, List.nil_append, List.append_assoc]); repeat' first | with_reducible apply eR | with_reducible apply eA | ((with_reducible apply xA); · repeat first | with_reducible apply lH | with_reducible apply lT | with_reducible apply lL) | ((with_reducible apply xC); · repeat first | apply pH | with_reducible apply pT | with_reducible apply pL) | with_reducible assumption | with_reducible apply eS | with_reducible apply eL | exact eR)⟩ | (exfalso; first | contradiction | omega | (simp_all; done) | (simp_all; omega))
  · have c1' := c1; try simp only [inB_iff, Bool.and_eq_true, decide_eq_true_eq, decide_eq_false_iff_not, beq_iff_eq, beq_eq_false_iff_ne, bne_iff_ne, bne_eq_false_iff_eq, ne_eq] at c1'
    refine gS rfl rfl c1 ?_
    refine gS rfl rfl c1 ?_
    refine kF rfl c1 rfl ?_
    refine uNot rfl ?_
    refine asg rfl ?_
    refine rN ?_
    refine qN ?_
    refine cE ?_
    refine kE rfl rfl  ?_
    first | (exfalso; contradiction) | exact ⟨_, ⟨by (simp only [*, Bool.true_and, Bool.and_true, Bool.false_and, Bool.and_false, Bool.or_false, Bool.false_or, Bool.or_true, Bool.true_or, Bool.not_true, Bool.not_false, if_true, if_false, Bool.false_eq_true, decide_true, decide_false, cond_true, cond_false]; done), rfl⟩, (by (try simp only [List.cons_append, List.nil_append, List.append_assoc]); repeat' first | with_reducible apply eR | with_reducible apply eA | ((with_reducible apply xA); · repeat first | with_reducible apply lH | with_reducible apply lT | with_reducible apply lL) | ((with_reducible apply xC); · repeat first | apply pH | with_reducible apply pT | with_reducible apply pL) | with_reducible assumption | with_reducible apply eS | with_reducible apply eL | exact eR)⟩ | (exfalso; first | contradiction | omega | (simp_all; done) | (simp_all; omega))
-- @reg impl.IsPath : c_IsPath _ _
theorem c_IsPath (p : Pth) (M : Mem) : ACall Try.prog 52 [.agg #[.float .f32 p.fx, .float .f32 p.fz, .float .f32 p.tx, .float .f32 p.tz]] M fun v M' => v = .bool (ptB p) ∧ M' = M := by
  skip
  refine acall_of_awp Try.func52 rfl Try.ntmps52 rfl ?_
  refine cS (cR ?_)
  first | (refine rXa rfl ?_; intro bk1) | (refine rX rfl rfl ?_; intro bk1)
  refine asg rfl ?_
  refine rN ?_
  refine qN ?_
  refine cS (cR ?_)
  refine fA rfl ?_
  first | refine rL rfl (by repeat first | with_reducible assumption | with_reducible apply List.mem_cons_self | with_reducible apply List.mem_cons_of_mem | with_reducible apply List.mem_append_right | exact List.Mem.head _) rfl rfl ?_ | refine rL rfl (by repeat first | with_reducible assumption | with_reducible apply List.mem_cons_self | with_reducible apply List.mem_cons_of_mem | with_reducible apply List.mem_append_right | exact List.Mem.head _) (by with_reducible assumption) rfl ?_
  refine fA rfl ?_
  first | refine rL rfl (by repeat first | with_reducible assumption | with_reducible apply List.mem_cons_self | with_reducible apply List.mem_cons_of_mem | with_reducible apply List.mem_append_right | exact List.Mem.head _) rfl rfl ?_ | refine rL rfl (by repeat first | with_reducible assumption | with_reducible apply List.mem_cons_self | with_reducible apply List.mem_cons_of_mem | with_reducible apply List.mem_append_right | exact List.Mem.head _) (by with_reducible assumption) rfl ?_
  refine fA rfl ?_
  first | refine rL rfl (by repeat first | with_reducible assumption | with_reducible apply List.mem_cons_self | with_reducible apply List.mem_cons_of_mem | with_reducible apply List.mem_append_right | exact List.Mem.head _) rfl rfl ?_ | refine rL rfl (by repeat first | with_reducible assumption | with_reducible apply List.mem_cons_self | with_reducible apply List.mem_cons_of_mem | with_reducible apply List.mem_append_right | exact List.Mem.head _) (by with_reducible assumption) rfl ?_
  refine fA rfl ?_
  first | refine rL rfl (by repeat first | with_reducible assumption | with_reducible apply List.mem_cons_self | with_reducible apply List.mem_cons_of_mem | with_reducible apply List.mem_append_right | exact List.Mem.head _) rfl rfl ?_ | refine rL rfl (by repeat first | with_reducible assumption | with_reducible apply List.mem_cons_self | with_reducible apply List.mem_cons_of_mem | with_reducible apply List.mem_append_right | exact List.Mem.head _) (by with_reducible assumption) rfl ?_
  refine rBS rfl rfl rfl rfl rfl ?_; intro bk2
  skip
  refine rCq rfl (c_containsFunc _ (fun x => !plB x) c_IsPath1 _ _ _ [p.fx, p.fz, p.tx, p.tz] _ (RdF.ownm (xs := [p.fx, p.fz, p.tx, p.tz]) (rest := []) (List.Mem.head _) rfl) (by decide)) ?_
  refine uNot rfl ?_
  refine asg rfl ?_
  refine rN ?_
  refine qN ?_
  refine cE ?_
  refine kE rfl rfl  ?_
  first | (exfalso; contradiction) | exact ⟨_, ⟨by unfold ptB; simp only [List.any]; cases plB p.fx <;> cases plB p.fz <;> cases plB p.tx <;> cases plB p.tz <;> rfl, rfl⟩, (by (try simp only [List.cons_append, List.nil_append, List.append_assoc]); repeat' first | with_reducible apply eR | with_reducible apply eA | ((with_reducible apply xA); · repeat first | with_reducible apply lH | with_reducible apply lT | with_reducible apply lL) | ((with_reducible apply xC); · repeat first | apply pH | with_reducible apply pT | with_reducible apply pL) | with_reducible assumption | with_reducible apply eS | with_reducible apply eL | exact eR)⟩ | (exfalso; first | contradiction | omega | (simp_all; done) | (simp_all; omega))
-- @reg spec.l06Parts : c_l06Parts _ _
theorem c_l06Parts (n : Int) (M : Mem) : ACall Try.prog 26 [.int .i64 n] M fun v M' => v = .bool (inB n 1 256) ∧ M' = M := by
  refine acall_of_awp Try.func26 rfl Try.ntmps26 rfl ?_
  refine cS (cR ?_)
  refine asg rfl ?_
  refine rN ?_
  refine qN ?_
  refine cS (cR ?_)
  refine mv rfl ?_
  refine rCq rfl (c_l00In _ _ _ _) ?_
  refine asg rfl ?_
  refine rN ?_
  refine qN ?_
  refine cE ?_
  refine kE rfl rfl  ?_
  first | (exfalso; contradiction) | exact ⟨_, ⟨rfl, rfl⟩, (by (try simp only [List.cons_append, List.nil_append, List.append_assoc]); repeat' first | with_reducible apply eR | with_reducible apply eA | ((with_reducible apply xA); · repeat first | with_reducible apply lH | with_reducible apply lT | with_reducible apply lL) | ((with_reducible apply xC); · repeat first | apply pH | with_reducible apply pT | with_reducible apply pL) | with_reducible assumption | with_reducible apply eS | with_reducible apply eL | exact eR)⟩ | exact ⟨_, ⟨by first | (simp_all; done) | (simp_all; intros; omega), rfl⟩, (by (try simp only [List.cons_append, List.nil_append, List.append_assoc]); repeat' first | with_reducible apply eR | with_reducible apply eA | ((with_reducible apply xA); · repeat first | with_reducible apply lH | with_reducible apply lT | with_reducible apply lL) | ((with_reducible apply xC); · repeat first | apply pH | with_reducible apply pT | with_reducible apply pL) | with_reducible assumption | with_reducible apply eS | with_reducible apply eL | exact eR)⟩ | (exfalso; first | contradiction | omega | (simp_all; done) | (simp_all; omega))
def cuB (w d : Int) (p : Pth) (parts : Int) : Bool := szB w d && ptB p && inB parts 1 256
theorem cuB_iff {w d : Int} {p : Pth} {parts : Int} : cuB w d p parts = true ↔ szB w d = true ∧ ptB p = true ∧ 1 ≤ parts ∧ parts ≤ 256 := by
  simp [cuB, inB_iff, and_assoc]
-- @reg impl.isCut : c_isCut _ _ _ _ _

/-! ## cells -/
def ceP (w d : Int) (p : Pth) (parts i : Nat) : Bool := inB (pX p.fx p.tx i parts) 0 (w - 1) && inB (pX p.fz p.tz i parts) 0 (d - 1)
def ceV (w : Int) (p : Pth) (parts i : Nat) : Int := pX p.fx p.tx i parts + w * pX p.fz p.tz i parts
theorem ceP_in {w d : Int} {p : Pth} {parts i : Nat} (hs : (1 ≤ w ∧ w ≤ 16) ∧ 1 ≤ d ∧ d ≤ 16) (h : ceP w d p parts i = true) : 0 ≤ ceV w p parts i ∧ ceV w p parts i < w * d := by
  unfold ceP at h
  rw [Bool.and_eq_true, inB_iff, inB_iff] at h
  unfold ceV
  generalize pX p.fx p.tx i parts = x at *
  generalize pX p.fz p.tz i parts = z at *
  obtain ⟨⟨a, b⟩, c, e⟩ := h
  have p0 : 0 ≤ w * z := Int.mul_nonneg (by omega) (by omega)
  have p1 : w * z ≤ w * (d - 1) := Int.mul_le_mul_of_nonneg_left (by omega) (by omega)
  have p2 : w * (d - 1) = w * d - w := by rw [Int.mul_sub, Int.mul_one]
  omega
/-- the cell of a part, -1 if there is none -/
def ceI (w d : Int) (p : Pth) (parts i : Nat) : Int := if ceP w d p parts i = true then ceV w p parts i else -1
/-- the cells of the first parts -/
def ceL (w d : Int) (p : Pth) (parts : Nat) : Nat → List Int
  | 0 => []
  | k + 1 => ceL w d p parts k ++ (if ceP w d p parts k = true then [ceV w p parts k] else [])
theorem ceL_len {w d : Int} {p : Pth} {parts : Nat} : ∀ k, (ceL w d p parts k).length ≤ k := by
  intro k
  induction k with
  | zero => exact Nat.le_refl _
  | succ k ih => unfold ceL; split <;> simp <;> omega
theorem ceL_in {w d : Int} {p : Pth} {parts : Nat} (hs : (1 ≤ w ∧ w ≤ 16) ∧ 1 ≤ d ∧ d ≤ 16) : ∀ k, ∀ c ∈ ceL w d p parts k, 0 ≤ c ∧ c < w * d := by
  intro k
  induction k with
  | zero => intro c hc; cases hc
  | succ k ih =>
    intro c hc
    unfold ceL at hc
    rcases List.mem_append.1 hc with hc | hc
    · exact ih c hc
    · split at hc
      · rename_i h
        obtain rfl := List.mem_singleton.1 hc
        exact ceP_in hs h
      · cases hc
/-- a length added in each of some cells -/
def addL (long : Nat) (out : List Nat) (cs : List Int) : List Nat := cs.foldl (fun o c => o.set c.toNat (fadd .f32 (o.getD c.toNat 0) long)) out
theorem addL_snoc (long : Nat) (out : List Nat) (cs : List Int) (c : Int) : addL long out (cs ++ [c]) = (addL long out cs).set c.toNat (fadd .f32 ((addL long out cs).getD c.toNat 0) long) := by
  unfold addL; rw [List.foldl_append]; rfl
theorem addL_len (long : Nat) (cs : List Int) : ∀ out, (addL long out cs).length = out.length := by
  induction cs with
  | nil => intro out; rfl
  | cons c cs ih => intro out; exact (ih _).trans (by rw [List.length_set])
abbrev loF (p : Pth) (parts : Nat) : Nat := fdiv .f32 (sqF (fadd .f32 (fmul .f32 (fsub .f32 p.tx p.fx) (fsub .f32 p.tx p.fx)) (fmul .f32 (fsub .f32 p.tz p.fz) (fsub .f32 p.tz p.fz)))) (fofint .f32 (parts : Nat))
def lnF (w d : Int) (p : Pth) (parts : Nat) : List Nat := addL (loF p parts) (List.replicate (w * d).toNat 0) (ceL w d p parts parts)
theorem lnF_len (w d : Int) (p : Pth) (parts : Nat) : (lnF w d p parts).length = (w * d).toNat := by unfold lnF; rw [addL_len, List.length_replicate]
-- @reg spec.l06Cell : c_l06Cell _ _ _ _ _ _ _ _ @PAT@ (by assumption) (by assumption) (by first | assumption | omega) (by first | assumption | omega)
theorem c_l06Cell (b o : Nat) (w d : Int) (p : Pth) (parts i : Nat) (M : Mem) (hpa : PAt M b o p) (hs : (1 ≤ w ∧ w ≤ 16) ∧ 1 ≤ d ∧ d ≤ 16) (hp : ptB p = true) (hi : i < parts) (hn : parts ≤ 256) :
    ACall Try.prog 38 [.int .i64 w, .int .i64 d, .pointer (some ⟨b, o, none⟩), .int .i64 (parts : Nat), .int .i64 (i : Nat)] M fun v M' => v = .int .i64 (ceI w d p parts i) ∧ M' = M := by
  obtain ⟨kb, hm, e0, e1, e2, e3⟩ := id hpa
  obtain ⟨p1, p2, p3, p4⟩ := ptB_iff.1 hp
  obtain ⟨x1, x2⟩ := pX_sv p1 p3 hi hn
  obtain ⟨z1, z2⟩ := pX_sv p2 p4 hi hn
  have hin := ceP_in (p := p) (parts := parts) (i := i) hs
  have hmb := mul_bd hs
  have hce : ceI w d p parts i = if (inB (pX p.fx p.tx i parts) 0 (w - 1) && inB (pX p.fz p.tz i parts) 0 (d - 1)) = true then pX p.fx p.tx i parts + w * pX p.fz p.tz i parts else -1 := rfl
  have hcp : ceP w d p parts i = (inB (pX p.fx p.tx i parts) 0 (w - 1) && inB (pX p.fz p.tz i parts) 0 (d - 1)) := rfl
  have hcv : ceV w p parts i = pX p.fx p.tx i parts + w * pX p.fz p.tz i parts := rfl
  rw [hcv, hcp] at hin
  rw [hce]
  generalize pX p.fx p.tx i parts = nx at *
  generalize pX p.fz p.tz i parts = nz at *
  have q1 : -9223372036854775808 ≤ w * nz ∧ w * nz ≤ 9223372036854775807 := by
    have a1 : (w * nz).natAbs ≤ 16 * 600000 := by rw [Int.natAbs_mul]; exact Nat.mul_le_mul (by omega) z2
    omega
  obtain ⟨q1, q2⟩ := q1
  have q3 : (w * nz).natAbs ≤ 16 * 600000 := by rw [Int.natAbs_mul]; exact Nat.mul_le_mul (by omega) z2
  refine acall_of_awp Try.func38 rfl Try.ntmps38 rfl ?_
  refine cS (cR ?_)
  refine asg rfl ?_
  refine rN ?_
  refine qN ?_
  refine cS (cR ?_)
  refine mv rfl ?_
  refine rp rfl ?_
  refine fAd rfl rfl ?_
  refine mv rfl ?_
  refine rp rfl ?_
  refine fDv rfl rfl ?_
  refine asg rfl ?_
  refine rN ?_
  refine qN ?_
  refine cS ?_
  refine cD [] [(0, true), (1, true), (2, true), (3, true), (4, true), (5, true), (6, true), (7, true), (8, true), (9, true), (10, true), (11, true), (12, true), (13, false), (14, false), (15, false), (16, false), (17, false), (18, false), (19, false)] (by repeat first | exact fineT | exact fineL | exact fineLQ1 | exact fineLQ2 | exact fineLQ3 | exact fineLQ4 | exact fineLQ5 | exact fineLQ6 | exact fineR | refine fineB ?_) (by kernel_rfl) ?_
  simp only [pick, List.getElem?_toArray, List.getElem?_cons_zero, List.getElem?_cons_succ]
  refine mv rfl ?_
  refine nk rfl ?_
  refine fA rfl ?_
  first | refine rL rfl (by repeat first | with_reducible assumption | with_reducible apply List.mem_cons_self | with_reducible apply List.mem_cons_of_mem | with_reducible apply List.mem_append_right | exact List.Mem.head _) rfl rfl ?_ | refine rL rfl (by repeat first | with_reducible assumption | with_reducible apply List.mem_cons_self | with_reducible apply List.mem_cons_of_mem | with_reducible apply List.mem_append_right | exact List.Mem.head _) (by with_reducible assumption) rfl ?_
  refine mv rfl ?_
  refine nk rfl ?_
  refine fA rfl ?_
  first | refine rL rfl (by repeat first | with_reducible assumption | with_reducible apply List.mem_cons_self | with_reducible apply List.mem_cons_of_mem | with_reducible apply List.mem_append_right | exact List.Mem.head _) rfl rfl ?_ | refine rL rfl (by repeat first | with_reducible assumption | with_reducible apply List.mem_cons_self | with_reducible apply List.mem_cons_of_mem | with_reducible apply List.mem_append_right | exact List.Mem.head _) (by with_reducible assumption) rfl ?_
  refine mv rfl ?_
  refine nk rfl ?_
  refine fA rfl ?_
  first | refine rL rfl (by repeat first | with_reducible assumption | with_reducible apply List.mem_cons_self | with_reducible apply List.mem_cons_of_mem | with_reducible apply List.mem_append_right | exact List.Mem.head _) rfl rfl ?_ | refine rL rfl (by repeat first | with_reducible assumption | with_reducible apply List.mem_cons_self | with_reducible apply List.mem_cons_of_mem | with_reducible apply List.mem_append_right | exact List.Mem.head _) (by with_reducible assumption) rfl ?_
  refine fSb rfl rfl ?_
  refine mv rfl ?_
  refine fMl rfl rfl ?_
  refine fAd rfl rfl ?_
  refine rW rfl ?_
  refine rCq rfl (c_Floor _ _) ?_
  refine rFI rfl (by with_reducible assumption) (by omega) ?_
  refine asg rfl ?_
  refine rN ?_
  refine qN ?_
  refine cS ?_
  refine cD [] [(0, true), (1, true), (2, true), (3, true), (4, true), (5, true), (6, true), (7, true), (8, true), (9, true), (10, true), (11, true), (12, true), (13, false), (14, false), (15, false), (16, false), (17, false), (18, false), (19, false)] (by repeat first | exact fineT | exact fineL | exact fineLQ1 | exact fineLQ2 | exact fineLQ3 | exact fineLQ4 | exact fineLQ5 | exact fineLQ6 | exact fineR | refine fineB ?_) (by kernel_rfl) ?_
  simp only [pick, List.getElem?_toArray, List.getElem?_cons_zero, List.getElem?_cons_succ]
  refine mv rfl ?_
  refine nk rfl ?_
  refine fA rfl ?_
  first | refine rL rfl (by repeat first | with_reducible assumption | with_reducible apply List.mem_cons_self | with_reducible apply List.mem_cons_of_mem | with_reducible apply List.mem_append_right | exact List.Mem.head _) rfl rfl ?_ | refine rL rfl (by repeat first | with_reducible assumption | with_reducible apply List.mem_cons_self | with_reducible apply List.mem_cons_of_mem | with_reducible apply List.mem_append_right | exact List.Mem.head _) (by with_reducible assumption) rfl ?_
  refine mv rfl ?_
  refine nk rfl ?_
  refine fA rfl ?_
  first | refine rL rfl (by repeat first | with_reducible assumption | with_reducible apply List.mem_cons_self | with_reducible apply List.mem_cons_of_mem | with_reducible apply List.mem_append_right | exact List.Mem.head _) rfl rfl ?_ | refine rL rfl (by repeat first | with_reducible assumption | with_reducible apply List.mem_cons_self | with_reducible apply List.mem_cons_of_mem | with_reducible apply List.mem_append_right | exact List.Mem.head _) (by with_reducible assumption) rfl ?_
  refine mv rfl ?_
  refine nk rfl ?_
  refine fA rfl ?_
  first | refine rL rfl (by repeat first | with_reducible assumption | with_reducible apply List.mem_cons_self | with_reducible apply List.mem_cons_of_mem | with_reducible apply List.mem_append_right | exact List.Mem.head _) rfl rfl ?_ | refine rL rfl (by repeat first | with_reducible assumption | with_reducible apply List.mem_cons_self | with_reducible apply List.mem_cons_of_mem | with_reducible apply List.mem_append_right | exact List.Mem.head _) (by with_reducible assumption) rfl ?_
  refine fSb rfl rfl ?_
  refine mv rfl ?_
  refine fMl rfl rfl ?_
  refine fAd rfl rfl ?_
  refine rW rfl ?_
  refine rCq rfl (c_Floor _ _) ?_
  refine rFI rfl (by with_reducible assumption) (by omega) ?_
  refine asg rfl ?_
  refine rN ?_
  refine qN ?_
  refine cS ?_
  refine cS (cR ?_)
  refine mv rfl ?_
  refine mv rfl ?_
  first | refine rB rfl rfl (by omega) (by omega) ?_ | refine bSub rfl rfl ?_
  refine rCq rfl (c_l00In _ _ _ _) ?_
  refine uNot rfl ?_
  refine mv rfl ?_
  refine gC rfl rfl (fun c1 => ?_) (fun c1 => ?_)
  · replace c1 := not_t c1
    have c1' := c1; try simp only [inB_iff, Bool.and_eq_true, decide_eq_true_eq, decide_eq_false_iff_not, beq_iff_eq, beq_eq_false_iff_ne, bne_iff_ne, bne_eq_false_iff_eq, ne_eq] at c1'
    refine gU rfl rfl (bnot_f c1) ?_
    refine gU rfl rfl (bnot_f c1) ?_
    refine gU rfl rfl (bnot_f c1) ?_
    refine gU rfl rfl (bnot_f c1) ?_
    refine gU rfl rfl (bnot_f c1) ?_
    refine kT rfl (bnot_f c1) rfl ?_
    refine rN ?_
    refine qN ?_
    refine cT rfl ?_
    refine cS (cR ?_)
    refine asg rfl ?_
    refine rN ?_
    refine qN ?_
    refine cE ?_
    refine qE ?_
    refine kE rfl rfl  ?_
    first | (exfalso; contradiction) | exact ⟨_, ⟨by first | (rw [if_neg (by simp [*]; done)]; done) | (rw [if_pos (by simp [*]; done)]; done), rfl⟩, (by (try simp only [List.cons_append, List.nil_append, List.append_assoc]); repeat' first | with_reducible apply eR | with_reducible apply eA | ((with_reducible apply xA); · repeat first | with_reducible apply lH | with_reducible apply lT | with_reducible apply lL) | ((with_reducible apply xC); · repeat first | apply pH | with_reducible apply pT | with_reducible apply pL) | with_reducible assumption | with_reducible apply eS | with_reducible apply eL | exact eR)⟩ | (exfalso; first | contradiction | omega | (simp_all; done) | (simp_all; omega))
  · replace c1 := not_f c1
    have c1' := c1; try simp only [inB_iff, Bool.and_eq_true, decide_eq_true_eq, decide_eq_false_iff_not, beq_iff_eq, beq_eq_false_iff_ne, bne_iff_ne, bne_eq_false_iff_eq, ne_eq] at c1'
    refine gG rfl rfl (bnot_t c1) ?_
    refine mv rfl ?_
    refine gG rfl rfl (bnot_t c1) ?_
    refine mv rfl ?_
    refine gG rfl rfl (bnot_t c1) ?_
    first | refine rB rfl rfl (by omega) (by omega) ?_ | refine bSub rfl rfl ?_
    refine gG rfl rfl (bnot_t c1) ?_
    refine rCq rfl (c_l00In _ _ _ _) ?_
    refine gG rfl rfl (bnot_t c1) ?_
    refine uNot rfl ?_
    refine kF rfl (bnot_t c1) rfl ?_
    refine rN ?_
    refine qN ?_
    refine cC rfl (fun c2 => ?_) (fun c2 => ?_)
    · replace c2 := not_t c2
      have c2' := c2; try simp only [inB_iff, Bool.and_eq_true, decide_eq_true_eq, decide_eq_false_iff_not, beq_iff_eq, beq_eq_false_iff_ne, bne_iff_ne, bne_eq_false_iff_eq, ne_eq] at c2'
      refine cS (cR ?_)
      refine asg rfl ?_
      refine rN ?_
      refine qN ?_
      refine cE ?_
      refine qE ?_
      refine kE rfl rfl  ?_
      first | (exfalso; contradiction) | exact ⟨_, ⟨by first | (rw [if_neg (by simp [*]; done)]; done) | (rw [if_pos (by simp [*]; done)]; done), rfl⟩, (by (try simp only [List.cons_append, List.nil_append, List.append_assoc]); repeat' first | with_reducible apply eR | with_reducible apply eA | ((with_reducible apply xA); · repeat first | with_reducible apply lH | with_reducible apply lT | with_reducible apply lL) | ((with_reducible apply xC); · repeat first | apply pH | with_reducible apply pT | with_reducible apply pL) | with_reducible assumption | with_reducible apply eS | with_reducible apply eL | exact eR)⟩ | (exfalso; first | contradiction | omega | (simp_all; done) | (simp_all; omega))
    · replace c2 := not_f c2
      have c2' := c2; try simp only [inB_iff, Bool.and_eq_true, decide_eq_true_eq, decide_eq_false_iff_not, beq_iff_eq, beq_eq_false_iff_ne, bne_iff_ne, bne_eq_false_iff_eq, ne_eq] at c2'
      refine cK ?_
      refine qN ?_
      refine cS (cR ?_)
      refine mv rfl ?_
      refine mv rfl ?_
      refine mv rfl ?_
      first | refine rMlk rfl rfl (by with_reducible assumption) (by omega) ?_ | refine rMl rfl rfl (by first | omega | assumption) (by first | omega | assumption) ?_ | refine bMul rfl rfl ?_
      first | refine rAn rfl rfl (by omega) ?_ | refine rA rfl rfl (by omega) (by omega) ?_ | refine bAdd rfl rfl ?_
      refine asg rfl ?_
      refine rN ?_
      refine qN ?_
      refine cE ?_
      refine kE rfl rfl  ?_
      first | (exfalso; contradiction) | exact ⟨_, ⟨by first | (rw [if_neg (by simp [*]; done)]; done) | (rw [if_pos (by simp [*]; done)]; done), rfl⟩, (by (try simp only [List.cons_append, List.nil_append, List.append_assoc]); repeat' first | with_reducible apply eR | with_reducible apply eA | ((with_reducible apply xA); · repeat first | with_reducible apply lH | with_reducible apply lT | with_reducible apply lL) | ((with_reducible apply xC); · repeat first | apply pH | with_reducible apply pT | with_reducible apply pL) | with_reducible assumption | with_reducible apply eS | with_reducible apply eL | exact eR)⟩ | (exfalso; first | contradiction | omega | (simp_all; done) | (simp_all; omega))
end Go.Proofs.Ytkbpdgacfeachaa.Ab
