/-
  Walks: the trace and the frame as bytes, checks.
-/
import Derived.Test.YtimdimgihlojcaaPp
import Derived.Test.YtimdimgihlojcaaUt
import Derived.Test.YtimdimgihlojcaaSp
namespace Go.Proofs.Ytimdimgihlojcaa.Ab
open Go Go.RowKit
attribute [local irreducible] Run Then InBlock LoopQ LQ1 LQ2 LQ3 LQ4 LQ5 LQ6 AWp Ret ACall
set_option linter.unusedVariables false
set_option linter.unusedSimpArgs false

/-! ## checks -/
/-- the check after some bytes -/
def ckN (s : ByteArray) : Nat → Int
  | 0 => 0
  | k + 1 => (733 * ckN s k + sAt s k + 61) % 65003
theorem ckN_rng (s : ByteArray) (k : Nat) : 0 ≤ ckN s k ∧ ckN s k < 65003 := by
  cases k with
  | zero => exact ⟨Int.le_refl 0, by show (0 : Int) < 65003; decide⟩
  | succ k => unfold ckN; omega
abbrev ckL (s : ByteArray) : List Int := [ckN s s.size % 256, ckN s s.size / 256 % 256]
def ckS (s : ByteArray) : ByteArray := bsS (ckL s)
theorem ckS_size (s : ByteArray) : (ckS s).size = 2 := by unfold ckS; rw [bsS_size]; rfl
theorem bit_shr64 {n : Int} (h : 0 ≤ n) : ibit .shr .i64 n 8 = n / 256 := by
  show n.fdiv (2 ^ min ((8 : Int)).toNat 64) = _
  rw [show (2 : Int) ^ min ((8 : Int)).toNat 64 = 256 from by decide, Int.fdiv_eq_ediv_of_nonneg _ (by decide)]
theorem c_l01Check (s : ByteArray) (M : Mem) (hs : s.size ≤ 9223372036854775807) :
    ACall Try.prog 91 [.int .i64 0, .string s] M fun v M' => v = .int .i64 (ckN s s.size) ∧ M' = M := by
  skip
  refine acall_of_awp Try.func91 rfl Try.ntmps91 rfl ?_
  refine cS (cR ?_)
  refine asg rfl ?_
  refine rN ?_
  refine qN ?_
  refine cS ?_
  refine cS (cR ?_)
  refine asg rfl ?_
  refine rN ?_
  refine qN ?_
  refine cB ?_
  refine cL2 (fun (i : Nat) (n : Int) => [(5, .int .i64 (i : Nat)), (0, .int .i64 n)]) [(1, _)] (fun (i : Nat) (n : Int) => M) (fun (i : Nat) (n : Int) => s.size - i) (fun (i : Nat) (n : Int) => i ≤ s.size ∧ n = ckN s i) (0) (0) (by repeat first | exact Sub.nil _ | refine Sub.cons rfl ?_) (by (try simp only [List.cons_append, List.nil_append, List.append_assoc]); repeat' first | with_reducible apply eR | with_reducible apply eA | ((with_reducible apply xA); · repeat first | with_reducible apply lH | with_reducible apply lT | with_reducible apply lL) | ((with_reducible apply xC); · repeat first | apply pH | with_reducible apply pT | with_reducible apply pL) | with_reducible assumption | with_reducible apply eS | with_reducible apply eL | exact eR) (by exact ⟨Nat.zero_le _, rfl⟩) ?_
  rintro i n ⟨hi, rfl⟩
  refine wT (T' := [(5, _), (0, _), (1, _)]) rfl ?_
  refine cS ?_
  refine cS (cR ?_)
  refine mv rfl ?_
  refine mv rfl ?_
  refine lnS rfl ?_
  refine bLss rfl rfl ?_
  refine rN ?_
  refine qN ?_
  have hr := ckN_rng s i
  have ha := sAt_rng s i
  refine cC rfl (fun c1 => ?_) (fun c1 => ?_)
  · have c1' := c1; try simp only [inB_iff, Bool.and_eq_true, decide_eq_true_eq, decide_eq_false_iff_not, beq_iff_eq, beq_eq_false_iff_ne, bne_iff_ne, bne_eq_false_iff_eq, ne_eq] at c1'
    refine cK ?_
    refine qN ?_
    refine cS ?_
    refine cB ?_
    refine cR ?_
    refine mv rfl ?_
    first | refine rMlk rfl rfl (by with_reducible assumption) (by omega) ?_ | refine rMl rfl rfl (by first | omega | assumption) (by first | omega | assumption) ?_ | refine bMul rfl rfl ?_
    refine mv rfl ?_
    refine mv rfl ?_
    refine sIx rfl rfl (by first | with_reducible assumption | omega | (simp only [Bool.and_eq_true, inB_iff] at *; omega)) ?_
    first | refine cvI rfl (by omega) (by omega) ?_ | refine rp rfl ?_
    first | refine rAn rfl rfl (by omega) ?_ | refine rA rfl rfl (by omega) (by omega) ?_ | refine bAdd rfl rfl ?_
    first | refine rAn (b := 61) rfl rfl (by omega) ?_ | refine rA rfl rfl (by omega) (by omega) ?_ | refine bAdd rfl rfl ?_
    first | refine rRn rfl rfl (by omega) (by omega) ?_ | refine bRem rfl rfl (by omega) ?_
    refine asg rfl ?_
    refine rN ?_
    refine qBN ?_
    refine qN ?_
    refine cR ?_
    refine mv rfl ?_
    first | refine rAn (b := 1) rfl rfl (by omega) ?_ | refine rA rfl rfl (by omega) (by omega) ?_ | refine bAdd rfl rfl ?_
    refine asg rfl ?_
    refine rN ?_
    refine qL2 (i + 1) (_) ?_ (by omega) (by repeat first | exact Sub.nil _ | refine Sub.cons rfl ?_) (by (try simp only [List.cons_append, List.nil_append, List.append_assoc]); repeat' first | with_reducible apply eR | with_reducible apply eA | ((with_reducible apply xA); · repeat first | with_reducible apply lH | with_reducible apply lT | with_reducible apply lL) | ((with_reducible apply xC); · repeat first | apply pH | with_reducible apply pT | with_reducible apply pL) | with_reducible assumption | with_reducible apply eS | with_reducible apply eL | exact eR)
    exact ⟨by omega, rfl⟩
  · have c1' := c1; try simp only [inB_iff, Bool.and_eq_true, decide_eq_true_eq, decide_eq_false_iff_not, beq_iff_eq, beq_eq_false_iff_ne, bne_iff_ne, bne_eq_false_iff_eq, ne_eq] at c1'
    have : i = s.size := by omega
    subst this
    refine cX ?_
    refine qX ?_
    refine qL2X ?_
    refine qBX ?_
    refine qN ?_
    refine cS (cR ?_)
    refine mv rfl ?_
    refine asg rfl ?_
    refine rN ?_
    refine qN ?_
    refine cE ?_
    refine kE rfl rfl  ?_
    first | (exfalso; contradiction) | exact ⟨_, ⟨rfl, rfl⟩, (by (try simp only [List.cons_append, List.nil_append, List.append_assoc]); repeat' first | with_reducible apply eR | with_reducible apply eA | ((with_reducible apply xA); · repeat first | with_reducible apply lH | with_reducible apply lT | with_reducible apply lL) | ((with_reducible apply xC); · repeat first | apply pH | with_reducible apply pT | with_reducible apply pL) | with_reducible assumption | with_reducible apply eS | with_reducible apply eL | exact eR)⟩ | (exfalso; first | contradiction | omega | (simp_all; done) | (simp_all; omega))
theorem c_CheckOf (s : ByteArray) (M : Mem) (hs : s.size ≤ 9223372036854775807) :
    ACall Try.prog 111 [.int .i64 0, .string s] M fun v M' => v = .tuple #[.int .i64 (ckN s s.size), .bool true] ∧ M' = M := by
  skip
  refine acall_of_awp Try.func111 rfl Try.ntmps111 rfl ?_
  refine cS (cR ?_)
  refine asg rfl ?_
  refine asg rfl ?_
  refine rN ?_
  refine qN ?_
  refine cS ?_
  refine cS (cR ?_)
  refine mv rfl ?_
  refine rCq rfl (c_within _ _ _ _) ?_
  refine uNot rfl ?_
  refine rN ?_
  refine qN ?_
  refine cFa rfl (show (!inB 0 0 65002) = false from by decide) ?_
  refine cK ?_
  refine qN ?_
  refine cS ?_
  refine cS (cR ?_)
  refine mv rfl ?_
  refine lnS rfl ?_
  refine mv rfl ?_
  refine rN ?_
  refine qN ?_
  refine cB ?_
  refine cL2 (fun (i : Nat) (n : Int) => [(12, .int .i64 (i : Nat)), (0, .int .i64 n)]) [(1, _), (11, _)] (fun (i : Nat) (n : Int) => M) (fun (i : Nat) (n : Int) => s.size - i) (fun (i : Nat) (n : Int) => i ≤ s.size ∧ n = ckN s i) (0) (0) (by repeat first | exact Sub.nil _ | refine Sub.cons rfl ?_) (by (try simp only [List.cons_append, List.nil_append, List.append_assoc]); repeat' first | with_reducible apply eR | with_reducible apply eA | ((with_reducible apply xA); · repeat first | with_reducible apply lH | with_reducible apply lT | with_reducible apply lL) | ((with_reducible apply xC); · repeat first | apply pH | with_reducible apply pT | with_reducible apply pL) | with_reducible assumption | with_reducible apply eS | with_reducible apply eL | exact eR) (by exact ⟨Nat.zero_le _, rfl⟩) ?_
  rintro i n ⟨hi, rfl⟩
  refine wT (T' := [(12, _), (0, _), (1, _), (11, _)]) rfl ?_
  refine cS (cR ?_)
  refine bLss rfl rfl ?_
  refine rN ?_
  refine qN ?_
  refine cS ?_
  have hr := ckN_rng s i
  have ha := sAt_rng s i
  refine cC rfl (fun c1 => ?_) (fun c1 => ?_)
  · have c1' := c1; try simp only [inB_iff, Bool.and_eq_true, decide_eq_true_eq, decide_eq_false_iff_not, beq_iff_eq, beq_eq_false_iff_ne, bne_iff_ne, bne_eq_false_iff_eq, ne_eq] at c1'
    refine cK ?_
    refine qN ?_
    refine cS ?_
    refine cB ?_
    refine cS (cR ?_)
    refine mv rfl ?_
    refine asg rfl ?_
    refine rN ?_
    refine qN ?_
    refine cR ?_
    refine mv rfl ?_
    first | refine rMlk rfl rfl (by with_reducible assumption) (by omega) ?_ | refine rMl rfl rfl (by first | omega | assumption) (by first | omega | assumption) ?_ | refine bMul rfl rfl ?_
    refine mv rfl ?_
    refine mv rfl ?_
    refine sIx rfl rfl (by first | with_reducible assumption | omega | (simp only [Bool.and_eq_true, inB_iff] at *; omega)) ?_
    first | refine cvI rfl (by omega) (by omega) ?_ | refine rp rfl ?_
    first | refine rAn rfl rfl (by omega) ?_ | refine rA rfl rfl (by omega) (by omega) ?_ | refine bAdd rfl rfl ?_
    first | refine rAn (b := 61) rfl rfl (by omega) ?_ | refine rA rfl rfl (by omega) (by omega) ?_ | refine bAdd rfl rfl ?_
    first | refine rRn rfl rfl (by omega) (by omega) ?_ | refine bRem rfl rfl (by omega) ?_
    refine asg rfl ?_
    refine rN ?_
    refine qBN ?_
    refine qN ?_
    refine cR ?_
    first | refine rAn (b := 1) rfl rfl (by omega) ?_ | refine rA rfl rfl (by omega) (by omega) ?_ | refine bAdd rfl rfl ?_
    refine mv rfl ?_
    refine rN ?_
    refine qL2 (i + 1) (_) ?_ (by omega) (by repeat first | exact Sub.nil _ | refine Sub.cons rfl ?_) (by (try simp only [List.cons_append, List.nil_append, List.append_assoc]); repeat' first | with_reducible apply eR | with_reducible apply eA | ((with_reducible apply xA); · repeat first | with_reducible apply lH | with_reducible apply lT | with_reducible apply lL) | ((with_reducible apply xC); · repeat first | apply pH | with_reducible apply pT | with_reducible apply pL) | with_reducible assumption | with_reducible apply eS | with_reducible apply eL | exact eR)
    exact ⟨by omega, rfl⟩
  · have c1' := c1; try simp only [inB_iff, Bool.and_eq_true, decide_eq_true_eq, decide_eq_false_iff_not, beq_iff_eq, beq_eq_false_iff_ne, bne_iff_ne, bne_eq_false_iff_eq, ne_eq] at c1'
    have : i = s.size := by omega
    subst this
    refine cX ?_
    refine qX ?_
    refine qL2X ?_
    refine qBX ?_
    refine qN ?_
    refine cS (cR ?_)
    refine mv rfl ?_
    refine asg rfl ?_
    refine asg rfl ?_
    refine rN ?_
    refine qN ?_
    refine cE ?_
    refine kE2 rfl rfl rfl rfl rfl  ?_
    first | (exfalso; contradiction) | exact ⟨_, ⟨rfl, rfl⟩, (by (try simp only [List.cons_append, List.nil_append, List.append_assoc]); repeat' first | with_reducible apply eR | with_reducible apply eA | ((with_reducible apply xA); · repeat first | with_reducible apply lH | with_reducible apply lT | with_reducible apply lL) | ((with_reducible apply xC); · repeat first | apply pH | with_reducible apply pT | with_reducible apply pL) | with_reducible assumption | with_reducible apply eS | with_reducible apply eL | exact eR)⟩ | (exfalso; first | contradiction | omega | (simp_all; done) | (simp_all; omega))
theorem c_checkBytes (s : ByteArray) (M : Mem) (hs : s.size ≤ 9223372036854775807) :
    ACall Try.prog 93 [.string s] M fun v M' => v = .string (ckS s) ∧ M' = M := by
  have hr := ckN_rng s s.size
  skip
  skip
  skip
  refine acall_of_awp Try.func93 rfl Try.ntmps93 rfl ?_
  refine cS (cR ?_)
  refine asg rfl ?_
  refine rN ?_
  refine qN ?_
  refine cS (cR ?_)
  refine mv rfl ?_
  refine rCq rfl (c_CheckOf s _ hs) ?_
  refine mv rfl ?_
  refine xt rfl rfl rfl ?_
  refine xt rfl rfl rfl ?_
  refine asg rfl ?_
  refine asg rfl ?_
  refine rN ?_
  refine qN ?_
  refine cS (cR ?_)
  refine mv rfl ?_
  refine rp rfl ?_
  refine mv rfl ?_
  refine rSh rfl rfl rfl (by omega) ?_
  rw [bit_shr64 hr.1]
  refine rp rfl ?_
  refine rBS rfl rfl rfl rfl rfl ?_; intro bk1
  refine sBy rfl (bl_rd (ns := ckL s) (by simp)) ?_
  refine asg rfl ?_
  refine rN ?_
  refine qN ?_
  refine cE ?_
  rw [wrap_u8, wrap_u8]
  refine kE rfl rfl  ?_
  first | (exfalso; contradiction) | exact ⟨_, ⟨rfl, rfl⟩, (by (try simp only [List.cons_append, List.nil_append, List.append_assoc]); repeat' first | with_reducible apply eR | with_reducible apply eA | ((with_reducible apply xA); · repeat first | with_reducible apply lH | with_reducible apply lT | with_reducible apply lL) | ((with_reducible apply xC); · repeat first | apply pH | with_reducible apply pT | with_reducible apply pL) | with_reducible assumption | with_reducible apply eS | with_reducible apply eL | exact eR)⟩ | (exfalso; first | contradiction | omega | (simp_all; done) | (simp_all; omega))
/-! ## beginnings -/
def hpB (s t : ByteArray) : Bool := decide (t.size ≤ s.size) && decide (s.extract 0 t.size = t)
-- @reg internal/stringslite.HasPrefix : c_slHasPrefix _ _ _
theorem c_slHasPrefix (s t : ByteArray) (M : Mem) :
    ACall Try.prog 113 [.string s, .string t] M fun v M' => v = .bool (hpB s t) ∧ M' = M := by
  skip
  skip
  refine acall_of_awp Try.func113 rfl Try.ntmps113 rfl ?_
  refine cS (cR ?_)
  refine asg rfl ?_
  refine rN ?_
  refine qN ?_
  refine cS (cR ?_)
  refine mv rfl ?_
  refine lnS rfl ?_
  refine mv rfl ?_
  refine lnS rfl ?_
  refine bGeq rfl rfl ?_
  refine mv rfl ?_
  refine gC rfl rfl (fun hq => ?_) (fun hq => ?_)
  · have hq' := hq; try simp only [inB_iff, Bool.and_eq_true, decide_eq_true_eq, decide_eq_false_iff_not, beq_iff_eq, beq_eq_false_iff_ne, bne_iff_ne, bne_eq_false_iff_eq, ne_eq] at hq'
    refine gG rfl rfl hq ?_
    refine mv rfl ?_
    refine gG rfl rfl hq ?_
    refine mv rfl ?_
    refine gG rfl rfl hq ?_
    refine lnS rfl ?_
    refine gG rfl rfl hq ?_
    refine sSlH rfl rfl (by omega) ?_
    refine gG rfl rfl hq ?_
    refine mv rfl ?_
    refine gG rfl rfl hq ?_
    refine sEql rfl rfl ?_
    refine kT rfl hq rfl ?_
    refine asg rfl ?_
    refine rN ?_
    refine qN ?_
    refine cE ?_
    refine kE rfl rfl  ?_
    first | (exfalso; contradiction) | exact ⟨_, ⟨by rw [hpB, decide_eq_true (show t.size ≤ s.size by omega)]; rfl, rfl⟩, (by (try simp only [List.cons_append, List.nil_append, List.append_assoc]); repeat' first | with_reducible apply eR | with_reducible apply eA | ((with_reducible apply xA); · repeat first | with_reducible apply lH | with_reducible apply lT | with_reducible apply lL) | ((with_reducible apply xC); · repeat first | apply pH | with_reducible apply pT | with_reducible apply pL) | with_reducible assumption | with_reducible apply eS | with_reducible apply eL | exact eR)⟩ | (exfalso; first | contradiction | omega | (simp_all; done) | (simp_all; omega))
  · have hq' := hq; try simp only [inB_iff, Bool.and_eq_true, decide_eq_true_eq, decide_eq_false_iff_not, beq_iff_eq, beq_eq_false_iff_ne, bne_iff_ne, bne_eq_false_iff_eq, ne_eq] at hq'
    refine gS rfl rfl hq ?_
    refine gS rfl rfl hq ?_
    refine gS rfl rfl hq ?_
    refine gS rfl rfl hq ?_
    refine gS rfl rfl hq ?_
    refine gS rfl rfl hq ?_
    refine kF rfl hq rfl ?_
    refine asg rfl ?_
    refine rN ?_
    refine qN ?_
    refine cE ?_
    refine kE rfl rfl  ?_
    first | (exfalso; contradiction) | exact ⟨_, ⟨by rw [hpB, decide_eq_false (show ¬ t.size ≤ s.size by omega)]; rfl, rfl⟩, (by (try simp only [List.cons_append, List.nil_append, List.append_assoc]); repeat' first | with_reducible apply eR | with_reducible apply eA | ((with_reducible apply xA); · repeat first | with_reducible apply lH | with_reducible apply lT | with_reducible apply lL) | ((with_reducible apply xC); · repeat first | apply pH | with_reducible apply pT | with_reducible apply pL) | with_reducible assumption | with_reducible apply eS | with_reducible apply eL | exact eR)⟩ | (exfalso; first | contradiction | omega | (simp_all; done) | (simp_all; omega))
-- @reg strings.HasPrefix : c_HasPrefix _ _ _
theorem c_HasPrefix (s t : ByteArray) (M : Mem) :
    ACall Try.prog 97 [.string s, .string t] M fun v M' => v = .bool (hpB s t) ∧ M' = M := by
  skip
  refine acall_of_awp Try.func97 rfl Try.ntmps97 rfl ?_
  refine cS (cR ?_)
  refine asg rfl ?_
  refine rN ?_
  refine qN ?_
  refine cS (cR ?_)
  refine mv rfl ?_
  refine mv rfl ?_
  refine rCq rfl (c_slHasPrefix _ _ _) ?_
  refine asg rfl ?_
  refine rN ?_
  refine qN ?_
  refine cE ?_
  refine kE rfl rfl  ?_
  first | (exfalso; contradiction) | exact ⟨_, ⟨rfl, rfl⟩, (by (try simp only [List.cons_append, List.nil_append, List.append_assoc]); repeat' first | with_reducible apply eR | with_reducible apply eA | ((with_reducible apply xA); · repeat first | with_reducible apply lH | with_reducible apply lT | with_reducible apply lL) | ((with_reducible apply xC); · repeat first | apply pH | with_reducible apply pT | with_reducible apply pL) | with_reducible assumption | with_reducible apply eS | with_reducible apply eL | exact eR)⟩ | (exfalso; first | contradiction | omega | (simp_all; done) | (simp_all; omega))
/-! ## the bytes of a trace -/
noncomputable def trK (xs : List Nat) : Nat → ByteArray
  | 0 => bsS [(xs.length : Int) % 256]
  | k + 1 => trK xs k ++ pkS ((xs.drop (8 * k)).take 8)
noncomputable def trS (xs : List Nat) : ByteArray := trK xs (utK xs.length)
theorem pkS_size (xs : List Nat) : (pkS xs).size = 1 + 2 * xs.length := by unfold pkS; rw [bsS_size, pkK_len]
theorem trK_size (xs : List Nat) : ∀ k, k ≤ utK xs.length → (trK xs k).size = utA xs.length k
  | 0, _ => by unfold trK utA; rw [bsS_size]; simp
  | k + 1, hk => by
    unfold trK
    rw [ByteArray.size_append, trK_size xs k (by omega), pkS_size]
    unfold utA utK at *
    simp
    omega
theorem ch_bl {xs : List Nat} {j : Nat} (h : fnA xs = true) (hj : j < utK xs.length) : blB ((xs.drop (8 * j)).take 8) = true := by
  unfold blB
  rw [fnA_sub h (fun x hx => List.mem_of_mem_drop (List.mem_of_mem_take hx)), inB_true (by unfold utK at hj; simp; omega)]
  rfl
theorem ch_rd {M : Mem} {a : Option Addr} {c i j : Nat} {xs : List Nat} (h : RdF M a xs.length xs) (hc : xs.length ≤ c) (hij : i = 8 * j) (hi : i ≤ xs.length) :
    min xs.length (i + 8) - i = ((xs.drop (8 * j)).take 8).length ∧ RdF M (cut1 a c i 1) (min xs.length (i + 8) - i) ((xs.drop (8 * j)).take 8) := by
  subst hij
  have hl : min xs.length (8 * j + 8) - 8 * j = ((xs.drop (8 * j)).take 8).length := by simp; omega
  refine ⟨hl, ?_⟩
  have := RdF.sub (c := c) (l := 8 * j) (h := min xs.length (8 * j + 8)) h (by omega) (by omega) (by omega)
  rw [show (xs.drop (8 * j)).take 8 = (xs.drop (8 * j)).take (min xs.length (8 * j + 8) - 8 * j) from by rw [List.take_eq_take_iff]; simp; omega]
  exact this
theorem c_l07Trace (a : Option Addr) (n c : Nat) (xs : List Nat) (M : Mem) (h : RdF M a n xs) (hn : n ≤ 1000000) (hc : n ≤ c) (hf : fnA xs = true) :
    ACall Try.prog 57 [.slice a n c] M fun v M' => v = .string (trS xs) ∧ M' = M := by
  obtain ⟨rfl, _⟩ := id h
  have hK : utK xs.length = (xs.length + 7) / 8 := rfl
  skip
  skip
  skip
  refine acall_of_awp Try.func57 rfl Try.ntmps57 rfl ?_
  refine cS (cR ?_)
  refine asg rfl ?_
  refine rN ?_
  refine qN ?_
  refine cS (cR ?_)
  refine mv rfl ?_
  refine ln rfl ?_
  refine rp rfl ?_
  refine rBS rfl rfl rfl rfl rfl ?_; intro bk1
  refine sBy rfl (bl_rd (ns := [(xs.length : Int) % 256]) (by simp)) ?_
  refine asg rfl ?_
  refine rN ?_
  refine qN ?_
  refine cS ?_
  refine cS (cR ?_)
  refine asg rfl ?_
  refine rN ?_
  refine qN ?_
  refine cB ?_
  rw [wrap_u8]
  refine cL2 (fun (i : Nat) (j : Nat) => [(4, .int .i64 (i : Nat)), (3, .string (trK xs j))]) [(0, _)] (fun (i : Nat) (j : Nat) => M) (fun (i : Nat) (j : Nat) => utK xs.length - j) (fun (i : Nat) (j : Nat) => j ≤ utK xs.length ∧ i = 8 * j) (0) (0) (by repeat first | exact Sub.nil _ | refine Sub.cons rfl ?_) (by (try simp only [List.cons_append, List.nil_append, List.append_assoc]); repeat' first | with_reducible apply eR | with_reducible apply eA | ((with_reducible apply xA); · repeat first | with_reducible apply lH | with_reducible apply lT | with_reducible apply lL) | ((with_reducible apply xC); · repeat first | apply pH | with_reducible apply pT | with_reducible apply pL) | with_reducible assumption | with_reducible apply eS | with_reducible apply eL | exact eR) (by exact ⟨Nat.zero_le _, rfl⟩) ?_
  rintro i j ⟨hj, hij⟩
  refine wT (T' := [(4, _), (3, _), (0, _)]) rfl ?_
  refine cS ?_
  refine cS (cR ?_)
  refine mv rfl ?_
  refine mv rfl ?_
  refine ln rfl ?_
  refine bLss rfl rfl ?_
  refine rN ?_
  refine qN ?_
  have hsz := trK_size xs j hj
  have hA : utA xs.length j = 1 + 2 * min xs.length (8 * j) + j := rfl
  refine cC rfl (fun c1 => ?_) (fun c1 => ?_)
  · have c1' := c1; try simp only [inB_iff, Bool.and_eq_true, decide_eq_true_eq, decide_eq_false_iff_not, beq_iff_eq, beq_eq_false_iff_ne, bne_iff_ne, bne_eq_false_iff_eq, ne_eq] at c1'
    have hj2 : j < utK xs.length := by omega
    obtain ⟨hlen, hsub⟩ := ch_rd (c := c) h hc hij (by omega : i ≤ xs.length)
    have hps := pkS_size ((xs.drop (8 * j)).take 8)
    refine cK ?_
    refine qN ?_
    refine cS ?_
    refine cB ?_
    refine cR ?_
    refine mv rfl ?_
    refine mv rfl ?_
    refine mv rfl ?_
    refine mv rfl ?_
    refine ln rfl ?_
    refine mv rfl ?_
    first | refine rAn (b := 8) rfl rfl (by omega) ?_ | refine rA rfl rfl (by omega) (by omega) ?_ | refine bAdd rfl rfl ?_
    refine rCq rfl (c_l00Min _ _ _) ?_
    refine slLH (l := i) (h := min xs.length (i + 8)) rfl rfl ((show _ = some (Value.int .i64 (min (xs.length : Int) ((i : Int) + 8))) from rfl).trans (by congr 2; omega)) (by omega) (by omega) ?_
    refine rCq rfl (c_l07Pack _ _ _ ((xs.drop (8 * j)).take 8) _ hsub (ch_bl hf hj2)) ?_
    refine sAdd rfl rfl (by first | with_reducible assumption | omega | (simp only [Bool.and_eq_true, inB_iff] at *; omega)) ?_
    refine asg rfl ?_
    refine rN ?_
    refine qBN ?_
    refine qN ?_
    refine cR ?_
    refine mv rfl ?_
    first | refine rAn (b := 8) rfl rfl (by omega) ?_ | refine rA rfl rfl (by omega) (by omega) ?_ | refine bAdd rfl rfl ?_
    refine asg rfl ?_
    refine rN ?_
    refine qL2 (i + 8) (j + 1) ?_ (by omega) (by repeat first | exact Sub.nil _ | refine Sub.cons rfl ?_) (by (try simp only [List.cons_append, List.nil_append, List.append_assoc]); repeat' first | with_reducible apply eR | with_reducible apply eA | ((with_reducible apply xA); · repeat first | with_reducible apply lH | with_reducible apply lT | with_reducible apply lL) | ((with_reducible apply xC); · repeat first | apply pH | with_reducible apply pT | with_reducible apply pL) | with_reducible assumption | with_reducible apply eS | with_reducible apply eL | exact eR)
    exact ⟨by omega, by omega⟩
  · have c1' := c1; try simp only [inB_iff, Bool.and_eq_true, decide_eq_true_eq, decide_eq_false_iff_not, beq_iff_eq, beq_eq_false_iff_ne, bne_iff_ne, bne_eq_false_iff_eq, ne_eq] at c1'
    have : j = utK xs.length := by omega
    subst this
    refine cX ?_
    refine qX ?_
    refine qL2X ?_
    refine qBX ?_
    refine qN ?_
    refine cS (cR ?_)
    refine mv rfl ?_
    refine asg rfl ?_
    refine rN ?_
    refine qN ?_
    refine cE ?_
    refine kE rfl rfl  ?_
    first | (exfalso; contradiction) | exact ⟨_, ⟨rfl, rfl⟩, (by (try simp only [List.cons_append, List.nil_append, List.append_assoc]); repeat' first | with_reducible apply eR | with_reducible apply eA | ((with_reducible apply xA); · repeat first | with_reducible apply lH | with_reducible apply lT | with_reducible apply lL) | ((with_reducible apply xC); · repeat first | apply pH | with_reducible apply pT | with_reducible apply pL) | with_reducible assumption | with_reducible apply eS | with_reducible apply eL | exact eR)⟩ | (exfalso; first | contradiction | omega | (simp_all; done) | (simp_all; omega))
end Go.Proofs.Ytimdimgihlojcaa.Ab
