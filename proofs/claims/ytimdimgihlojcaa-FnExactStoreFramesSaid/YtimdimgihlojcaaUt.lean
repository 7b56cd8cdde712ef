/-
  Walks: the trace with some bytes.
-/
import Derived.Test.YtimdimgihlojcaaUc
import Derived.Test.YtimdimgihlojcaaEs
namespace Go.Proofs.Ytimdimgihlojcaa.Ab
open Go Go.RowKit
attribute [local irreducible] Run Then InBlock LoopQ LQ1 LQ2 LQ3 LQ4 LQ5 LQ6 AWp Ret ACall
set_option linter.unusedVariables false
set_option linter.unusedSimpArgs false

/-- how many numbers the trace at the beginning of the bytes has -/
def utN (s : ByteArray) : Nat := (sAt s 0).toNat
theorem utN_eq (s : ByteArray) : (utN s : Int) = sAt s 0 := by have := sAt_rng s 0; unfold utN; omega
/-- where block j begins -/
def utA (n j : Nat) : Nat := 1 + 2 * min n (8 * j) + j
def utK (n : Nat) : Nat := (n + 7) / 8
def utT (n : Nat) : Nat := 1 + 2 * n + (n + 7) / 8
theorem utA_end (n : Nat) : utA n (utK n) = utT n := by unfold utA utK utT; omega
theorem utA_mono {n j : Nat} (h : j < utK n) : utA n (j + 1) ≤ utT n := by unfold utA utK utT at *; omega
theorem utA_step {n j : Nat} (h : j < utK n) : (utA n (j + 1) : Int) = utA n j + (2 * min ((n : Int) - 8 * j) 8 + 1) := by unfold utA utK at *; omega
noncomputable def utS (s : ByteArray) (j : Nat) : ByteArray := s.extract (utA (utN s) j) (utA (utN s) (j + 1))
noncomputable def utL (s : ByteArray) : Nat → List Nat
  | 0 => []
  | k + 1 => utL s k ++ ubL (utS s k)
noncomputable def utO (s : ByteArray) : Nat → Bool
  | 0 => true
  | k + 1 => utO s k && ubB (utS s k)
theorem utO_no {s : ByteArray} {j : Nat} (h : ubB (utS s j) = false) : ∀ k, j < k → utO s k = false := by
  intro k
  induction k with
  | zero => intro h; omega
  | succ k ih =>
    intro hk
    unfold utO
    by_cases e : j = k
    · subst e; rw [h]; simp
    · rw [ih (by omega)]; rfl
theorem utS_size {s : ByteArray} {j : Nat} (hj : j < utK (utN s)) (h : utT (utN s) ≤ s.size) : (utS s j).size = 2 * min (utN s - 8 * j) 8 + 1 := by
  have := utA_mono hj
  unfold utS
  rw [ext_size (by unfold utA; omega) (by omega)]
  unfold utA utK at *
  omega
theorem utL_len {s : ByteArray} (h : utT (utN s) ≤ s.size) : ∀ k, k ≤ utK (utN s) → (utL s k).length = min (utN s) (8 * k)
  | 0, _ => by simp [utL]
  | k + 1, hk => by
    show (utL s k ++ ubL (utS s k)).length = _
    rw [List.length_append, utL_len h k (by omega)]
    unfold ubL
    rw [tab_len]
    unfold ubC
    rw [utS_size (by omega) h]
    unfold utK at hk
    omega
/-- the beginning of the bytes is a trace -/
noncomputable def utP (s : ByteArray) : Bool := decide (1 ≤ s.size) && inB (sAt s 0) 1 128 && decide (utT (utN s) ≤ s.size) && utO s (utK (utN s))
noncomputable def utB (s : ByteArray) : Bool := utP s && decide (utT (utN s) = s.size)
noncomputable abbrev utX (s : ByteArray) : List Nat := utL s (utK (utN s))
theorem utP_n1 {s : ByteArray} (h : ¬ 1 ≤ s.size) : utP s = false := by unfold utP; rw [decide_eq_false h]; simp
theorem utP_n2 {s : ByteArray} (h : inB (sAt s 0) 1 128 = false) : utP s = false := by unfold utP; rw [h]; simp
theorem utP_n3 {s : ByteArray} (h : ¬ utT (utN s) ≤ s.size) : utP s = false := by unfold utP; rw [decide_eq_false h]; simp
theorem utP_n4 {s : ByteArray} (h : utO s (utK (utN s)) = false) : utP s = false := by unfold utP; rw [h]; simp
theorem utP_y {s : ByteArray} (h1 : 1 ≤ s.size) (h2 : inB (sAt s 0) 1 128 = true) (h3 : utT (utN s) ≤ s.size) (h4 : utO s (utK (utN s)) = true) : utP s = true := by
  unfold utP; rw [decide_eq_true h1, h2, decide_eq_true h3, h4]; rfl
/-- a list, a length and a bool -/
def ResT (B : Bool) (xs : List Nat) (t : Nat) (r : Value) (L : Mem) : Prop := ∃ v, r = .tuple #[v, .int .i64 (bif B then (t : Int) else 0), .bool B] ∧ OwF L v (bif B then xs else [])
theorem ResT.no {B : Bool} {xs : List Nat} {t : Nat} (h : B = false) : ResT B xs t (.tuple #[.slice none 0 0, .int .i64 0, .bool false]) [] := by subst h; exact ⟨_, rfl, OwF.nil⟩
theorem ResT.yes {B : Bool} {v : Value} {xs : List Nat} {t : Nat} {L : Mem} (h : B = true) (ho : OwF L v xs) : ResT B xs t (.tuple #[v, .int .i64 (t : Int), .bool true]) L := by subst h; exact ⟨_, rfl, ho⟩
theorem size_emp {s : ByteArray} (h : s = ⟨#[]⟩) : ¬ 1 ≤ s.size := by subst h; decide
theorem size_pos {s : ByteArray} (h : ¬ s = ⟨#[]⟩) : 1 ≤ s.size := by
  rcases Nat.eq_zero_or_pos s.size with h0 | h0
  · exfalso; apply h
    cases s with
    | mk d => congr 1; exact Array.eq_empty_of_size_eq_zero h0
  · exact h0
theorem c_unpackTrace (s : ByteArray) (M : Mem) (hs : s.size ≤ 9223372036854775807) :
    ACall Try.prog 61 [.string s] M fun v M' => ∃ L, ResT (utP s) (utX s) (utT (utN s)) v L ∧ M' = L ++ M := by
  have hn := utN_eq s
  have hr0 := sAt_rng s 0
  skip
  skip
  skip
  skip
  skip
  skip
  refine acall_of_awp Try.func61 rfl Try.ntmps61 rfl ?_
  refine cS (cR ?_)
  refine asg rfl ?_
  refine asg rfl ?_
  refine asg rfl ?_
  refine rN ?_
  refine qN ?_
  refine cS ?_
  refine cS (cR ?_)
  refine mv rfl ?_
  refine sEql rfl rfl ?_
  refine mv rfl ?_
  refine gC rfl rfl (fun c1 => ?_) (fun c1 => ?_)
  · have c1' := c1; try simp only [inB_iff, Bool.and_eq_true, decide_eq_true_eq, decide_eq_false_iff_not, beq_iff_eq, beq_eq_false_iff_ne, bne_iff_ne, bne_eq_false_iff_eq, ne_eq] at c1'
    refine gU rfl rfl c1 ?_
    refine gU rfl rfl c1 ?_
    refine gU rfl rfl c1 ?_
    refine gU rfl rfl c1 ?_
    refine gU rfl rfl c1 ?_
    refine kT rfl c1 rfl ?_
    refine rN ?_
    refine qN ?_
    refine cT rfl ?_
    refine cS (cR ?_)
    refine asg rfl ?_
    refine asg rfl ?_
    refine asg rfl ?_
    refine rN ?_
    refine qN ?_
    refine cE ?_
    refine qE ?_
    refine kE3 rfl rfl rfl rfl rfl rfl rfl  ?_
    first | (exfalso; contradiction) | exact ⟨_, ⟨_, ResT.no (by first | exact utP_n1 (size_emp (by simpa using c1)) | exact utP_n2 c2), rfl⟩, (by (try simp only [List.cons_append, List.nil_append, List.append_assoc]); repeat' first | with_reducible apply eR | with_reducible apply eA | ((with_reducible apply xA); · repeat first | with_reducible apply lH | with_reducible apply lT | with_reducible apply lL) | ((with_reducible apply xC); · repeat first | apply pH | with_reducible apply pT | with_reducible apply pL) | with_reducible assumption | with_reducible apply eS | with_reducible apply eL | exact eR)⟩ | (exfalso; first | contradiction | omega | (simp_all; done) | (simp_all; omega))
  have c1' := c1; try simp only [inB_iff, Bool.and_eq_true, decide_eq_true_eq, decide_eq_false_iff_not, beq_iff_eq, beq_eq_false_iff_ne, bne_iff_ne, bne_eq_false_iff_eq, ne_eq] at c1'
  refine gG rfl rfl c1 ?_
  refine mv rfl ?_
  refine gG rfl rfl c1 ?_
  refine sIx (i := 0) rfl rfl (size_pos c1') ?_
  refine gG rfl rfl c1 ?_
  first | refine cvI rfl (by omega) (by omega) ?_ | refine rp rfl ?_
  refine gG rfl rfl c1 ?_
  refine rCq rfl (c_isCount _ _) ?_
  refine gG rfl rfl c1 ?_
  refine uNot rfl ?_
  refine kF rfl c1 rfl ?_
  refine rN ?_
  refine qN ?_
  refine cC rfl (fun c2 => ?_) (fun c2 => ?_)
  · replace c2 := not_t c2
    have c2' := c2; try simp only [inB_iff, Bool.and_eq_true, decide_eq_true_eq, decide_eq_false_iff_not, beq_iff_eq, beq_eq_false_iff_ne, bne_iff_ne, bne_eq_false_iff_eq, ne_eq] at c2'
    refine cS (cR ?_)
    refine asg rfl ?_
    refine asg rfl ?_
    refine asg rfl ?_
    refine rN ?_
    refine qN ?_
    refine cE ?_
    refine qE ?_
    refine kE3 rfl rfl rfl rfl rfl rfl rfl  ?_
    first | (exfalso; contradiction) | exact ⟨_, ⟨_, ResT.no (by first | exact utP_n1 (size_emp (by simpa using c1)) | exact utP_n2 c2), rfl⟩, (by (try simp only [List.cons_append, List.nil_append, List.append_assoc]); repeat' first | with_reducible apply eR | with_reducible apply eA | ((with_reducible apply xA); · repeat first | with_reducible apply lH | with_reducible apply lT | with_reducible apply lL) | ((with_reducible apply xC); · repeat first | apply pH | with_reducible apply pT | with_reducible apply pL) | with_reducible assumption | with_reducible apply eS | with_reducible apply eL | exact eR)⟩ | (exfalso; first | contradiction | omega | (simp_all; done) | (simp_all; omega))
  replace c2 := not_f c2
  have c2' := c2; try simp only [inB_iff, Bool.and_eq_true, decide_eq_true_eq, decide_eq_false_iff_not, beq_iff_eq, beq_eq_false_iff_ne, bne_iff_ne, bne_eq_false_iff_eq, ne_eq] at c2'
  refine cK ?_
  refine qN ?_
  refine cS (cR ?_)
  refine asg rfl ?_
  refine rN ?_
  refine qN ?_
  refine cS (cR ?_)
  refine asg rfl ?_
  refine rN ?_
  refine qN ?_
  refine cS ?_
  refine cS (cR ?_)
  refine mv rfl ?_
  refine sIx (i := 0) rfl rfl (size_pos c1') ?_
  first | refine cvI rfl (by omega) (by omega) ?_ | refine rp rfl ?_
  refine asg rfl ?_
  refine rN ?_
  refine qN ?_
  refine cB ?_
  have h1 : 1 ≤ s.size := size_pos (by simpa using c1)
  have hin := inB_iff.1 c2
  refine cL5 (fun (j : Nat) (sl : Value) (L : Mem) (pt : Int) (le : Int) => [(5, sl), (6, .int .i64 pt), (7, .int .i64 le)]) [(0, _)] (fun (j : Nat) (sl : Value) (L : Mem) (pt : Int) (le : Int) => L ++ M) (fun (j : Nat) (sl : Value) (L : Mem) (pt : Int) (le : Int) => utK (utN s) - j) (fun (j : Nat) (sl : Value) (L : Mem) (pt : Int) (le : Int) => j ≤ utK (utN s) ∧ OwF L sl (utL s j) ∧ utO s j = true ∧ utA (utN s) j ≤ s.size ∧ (utL s j).length ≤ 8 * j ∧ pt = ((utA (utN s) j : Nat) : Int) ∧ le = (utN s : Int) - 8 * j) (0) (_) ([]) (1) (sAt s 0) (by repeat first | exact Sub.nil _ | refine Sub.cons rfl ?_) (by (try simp only [List.cons_append, List.nil_append, List.append_assoc]); repeat' first | with_reducible apply eR | with_reducible apply eA | ((with_reducible apply xA); · repeat first | with_reducible apply lH | with_reducible apply lT | with_reducible apply lL) | ((with_reducible apply xC); · repeat first | apply pH | with_reducible apply pT | with_reducible apply pL) | with_reducible assumption | with_reducible apply eS | with_reducible apply eL | exact eR) (by exact ⟨Nat.zero_le _, OwF.nil, rfl, by unfold utA; omega, Nat.zero_le _, by unfold utA; omega, by omega⟩) ?_
  rintro j sl L pt le ⟨hj, hz, ho, hsz, hll, rfl, rfl⟩
  refine wT (T' := [(5, _), (6, _), (7, _), (0, _)]) rfl ?_
  refine cS ?_
  refine cS (cR ?_)
  refine mv rfl ?_
  refine bGtr rfl rfl ?_
  refine rN ?_
  refine qN ?_
  obtain ⟨ad8, cn8, rfl, hrd8⟩ := hz.rd
  have hK : utK (utN s) = (utN s + 7) / 8 := rfl
  have hA : utA (utN s) j = 1 + 2 * min (utN s) (8 * j) + j := rfl
  refine cC rfl (fun c3 => ?_) (fun c3 => ?_)
  · have c3' := c3; try simp only [inB_iff, Bool.and_eq_true, decide_eq_true_eq, decide_eq_false_iff_not, beq_iff_eq, beq_eq_false_iff_ne, bne_iff_ne, bne_eq_false_iff_eq, ne_eq] at c3'
    have hj2 : j < utK (utN s) := by omega
    have hmn := utA_mono hj2
    have hst := utA_step hj2
    refine cK ?_
    refine qN ?_
    refine cS ?_
    refine cB ?_
    refine cS (cR ?_)
    refine mv rfl ?_
    refine mnI rfl rfl ?_
    first | refine rMlk rfl rfl (by with_reducible assumption) (by omega) ?_ | refine rMl rfl rfl (by first | omega | assumption) (by first | omega | assumption) ?_ | refine bMul rfl rfl ?_
    first | refine rAn (b := 1) rfl rfl (by omega) ?_ | refine rA rfl rfl (by omega) (by omega) ?_ | refine bAdd rfl rfl ?_
    refine asg rfl ?_
    refine rN ?_
    refine qN ?_
    refine cS ?_
    refine cS (cR ?_)
    refine mv rfl ?_
    refine lnS rfl ?_
    refine mv rfl ?_
    first | refine rBn rfl rfl (by omega) (by omega) ?_ | refine rB rfl rfl (by omega) (by omega) ?_ | refine bSub rfl rfl ?_
    refine mv rfl ?_
    refine bLss rfl rfl ?_
    refine rN ?_
    refine qN ?_
    refine cC rfl (fun hq => ?_) (fun hq => ?_)
    · have hq' := hq; try simp only [inB_iff, Bool.and_eq_true, decide_eq_true_eq, decide_eq_false_iff_not, beq_iff_eq, beq_eq_false_iff_ne, bne_iff_ne, bne_eq_false_iff_eq, ne_eq] at hq'
      refine cS (cR ?_)
      refine asg rfl ?_
      refine asg rfl ?_
      refine asg rfl ?_
      refine rN ?_
      refine qN ?_
      refine cE ?_
      refine qE ?_
      refine qBE ?_
      refine qE ?_
      refine qL5E ?_
      refine qBE ?_
      refine qE ?_
      refine kE3 rfl rfl rfl rfl rfl rfl rfl  ?_
      first | (exfalso; contradiction) | exact ⟨_, ⟨_, ResT.no (utP_n3 (by omega)), rfl⟩, (by (try simp only [List.cons_append, List.nil_append, List.append_assoc]); repeat' first | with_reducible apply eR | with_reducible apply eA | ((with_reducible apply xA); · repeat first | with_reducible apply lH | with_reducible apply lT | with_reducible apply lL) | ((with_reducible apply xC); · repeat first | apply pH | with_reducible apply pT | with_reducible apply pL) | with_reducible assumption | with_reducible apply eS | with_reducible apply eL | exact eR)⟩ | (exfalso; first | contradiction | omega | (simp_all; done) | (simp_all; omega))
    · have hq' := hq; try simp only [inB_iff, Bool.and_eq_true, decide_eq_true_eq, decide_eq_false_iff_not, beq_iff_eq, beq_eq_false_iff_ne, bne_iff_ne, bne_eq_false_iff_eq, ne_eq] at hq'
      have hle : utA (utN s) (j + 1) ≤ s.size := by omega
      refine cK ?_
      refine qN ?_
      refine cS (cR ?_)
      refine mv rfl ?_
      refine mv rfl ?_
      refine mv rfl ?_
      refine mv rfl ?_
      refine rA rfl rfl (by omega) (by omega) ?_
      rw [← utA_step hj2]
      refine sSl rfl rfl rfl (by first | with_reducible assumption | omega | (simp only [Bool.and_eq_true, inB_iff] at *; omega)) (by first | with_reducible assumption | omega | (simp only [Bool.and_eq_true, inB_iff] at *; omega)) ?_
      refine rC rfl (c_implUnpackBlock (utS s j) _ (by rw [utS, ext_size (by omega) hle]; omega)) ?_
      rintro _ _ ⟨lk9, ⟨sv9, rfl, how9⟩, rfl⟩
      refine ⟨fun _ => (by (try simp only [List.cons_append, List.nil_append, List.append_assoc]); repeat' first | with_reducible apply eR | with_reducible apply eA | ((with_reducible apply xA); · repeat first | with_reducible apply lH | with_reducible apply lT | with_reducible apply lL) | ((with_reducible apply xC); · repeat first | apply pH | with_reducible apply pT | with_reducible apply pL) | with_reducible assumption | with_reducible apply eS | with_reducible apply eL | exact eR), ?_⟩
      obtain ⟨ad9, cn9, rfl, hrd9⟩ := how9.rd
      have hcn9 := how9.capl
      refine mv rfl ?_
      refine xt rfl rfl rfl ?_
      refine xt rfl rfl rfl ?_
      refine asg rfl ?_
      refine asg rfl ?_
      refine rN ?_
      refine qN ?_
      refine cS ?_
      refine cS (cR ?_)
      refine mv rfl ?_
      refine uNot rfl ?_
      refine rN ?_
      refine qN ?_
      refine cC rfl (fun ho2 => ?_) (fun ho2 => ?_)
      · replace ho2 := not_t ho2
        have ho2' := ho2; try simp only [inB_iff, Bool.and_eq_true, decide_eq_true_eq, decide_eq_false_iff_not, beq_iff_eq, beq_eq_false_iff_ne, bne_iff_ne, bne_eq_false_iff_eq, ne_eq] at ho2'
        refine cS (cR ?_)
        refine asg rfl ?_
        refine asg rfl ?_
        refine asg rfl ?_
        refine rN ?_
        refine qN ?_
        refine cE ?_
        refine qE ?_
        refine qBE ?_
        refine qE ?_
        refine qL5E ?_
        refine qBE ?_
        refine qE ?_
        refine kE3 rfl rfl rfl rfl rfl rfl rfl  ?_
        first | (exfalso; contradiction) | exact ⟨_, ⟨_, ResT.no (utP_n4 (utO_no ho2 _ hj2)), rfl⟩, (by (try simp only [List.cons_append, List.nil_append, List.append_assoc]); repeat' first | with_reducible apply eR | with_reducible apply eA | ((with_reducible apply xA); · repeat first | with_reducible apply lH | with_reducible apply lT | with_reducible apply lL) | ((with_reducible apply xC); · repeat first | apply pH | with_reducible apply pT | with_reducible apply pL) | with_reducible assumption | with_reducible apply eS | with_reducible apply eL | exact eR)⟩ | (exfalso; first | contradiction | omega | (simp_all; done) | (simp_all; omega))
      · replace ho2 := not_f ho2
        have ho2' := ho2; try simp only [inB_iff, Bool.and_eq_true, decide_eq_true_eq, decide_eq_false_iff_not, beq_iff_eq, beq_eq_false_iff_ne, bne_iff_ne, bne_eq_false_iff_eq, ne_eq] at ho2'
        have hbl : (ubL (utS s j)).length ≤ 8 := by rw [ubL, tab_len, ubC, utS, ext_size (by omega) hle]; omega
        rw [ho2] at how9 hrd9 hcn9 ⊢
        simp only [cond_true] at how9 hrd9 hcn9 ⊢
        refine cK ?_
        refine qN ?_
        refine cS (cR ?_)
        refine mv rfl ?_
        refine mv rfl ?_
        refine Run.ofPerm (M1 := L ++ (lk9 ++ M)) rfl (by repeat first | with_reducible apply pmH | with_reducible apply pmT | with_reducible apply pmL) ?_
        refine apS (by intro _ h; cases h <;> rfl) rfl rfl hz rfl (by first | with_reducible assumption | ((try first | with_reducible apply RdF.sub | with_reducible apply RdF.sub0) <;> first | with_reducible assumption | (apply RdF.mono; (· (with_reducible assumption)); · (try simp only [List.cons_append, List.nil_append, List.append_assoc]); repeat' first | with_reducible apply eR | with_reducible apply eA | ((with_reducible apply xA); · repeat first | with_reducible apply lH | with_reducible apply lT | with_reducible apply lL) | ((with_reducible apply xC); · repeat first | apply pH | with_reducible apply pT | with_reducible apply pL) | with_reducible assumption | with_reducible apply eS | with_reducible apply eL | exact eR) | (apply RdF.mono; (· (apply OwF.rdF; with_reducible assumption)); · (try simp only [List.cons_append, List.nil_append, List.append_assoc]); repeat' first | with_reducible apply eR | with_reducible apply eA | ((with_reducible apply xA); · repeat first | with_reducible apply lH | with_reducible apply lT | with_reducible apply lL) | ((with_reducible apply xC); · repeat first | apply pH | with_reducible apply pT | with_reducible apply pL) | with_reducible assumption | with_reducible apply eS | with_reducible apply eL | exact eR) | (apply RdF.ownm; (· repeat first | with_reducible assumption | with_reducible apply List.mem_cons_self | with_reducible apply List.mem_cons_of_mem | with_reducible apply List.mem_append_right | exact List.Mem.head _); · first | rfl | with_reducible assumption | omega | simp [*]) | with_reducible assumption | omega | (simp; done) | (simp; omega) | (simp only [Bool.and_eq_true, inB_iff] at *; omega))) (by first | omega | (simp only [tab_len, List.length_append, List.length_map, List.length_range, List.length_replicate, List.length_cons, List.length_nil]; omega) | (simp; omega)) (by first | omega | (simp only [tab_len, List.length_append, List.length_map, List.length_range, List.length_replicate, List.length_cons, List.length_nil]; omega) | (simp; omega)) ?_; intro sv7 lk7 how7
        refine asg rfl ?_
        refine rN ?_
        refine qN ?_
        refine cR ?_
        refine mv rfl ?_
        refine mv rfl ?_
        refine rA rfl rfl (by omega) (by omega) ?_
        rw [← utA_step hj2]
        refine asg rfl ?_
        refine rN ?_
        refine qBN ?_
        refine qN ?_
        refine cR ?_
        refine mv rfl ?_
        first | refine rB rfl rfl (by omega) (by omega) ?_ | refine bSub rfl rfl ?_
        refine asg rfl ?_
        refine rN ?_
        refine qL5 (j + 1) (_) (_) (_) (_) ?_ (by omega) (by repeat first | exact Sub.nil _ | refine Sub.cons rfl ?_) (by (try simp only [List.cons_append, List.nil_append, List.append_assoc]); repeat' first | with_reducible apply eR | with_reducible apply eA | ((with_reducible apply xA); · repeat first | with_reducible apply lH | with_reducible apply lT | with_reducible apply lL) | ((with_reducible apply xC); · repeat first | apply pH | with_reducible apply pT | with_reducible apply pL) | with_reducible assumption | with_reducible apply eS | with_reducible apply eL | exact eR)
        refine ⟨by omega, by assumption, by unfold utO; rw [ho, ho2]; rfl, hle, ?_, rfl, by omega⟩
        show (utL s j ++ ubL (utS s j)).length ≤ _
        rw [List.length_append]; omega
  · have c3' := c3; try simp only [inB_iff, Bool.and_eq_true, decide_eq_true_eq, decide_eq_false_iff_not, beq_iff_eq, beq_eq_false_iff_ne, bne_iff_ne, bne_eq_false_iff_eq, ne_eq] at c3'
    have hjc : j = utK (utN s) := by omega
    subst hjc
    refine cX ?_
    refine qX ?_
    refine qL5X ?_
    refine qBX ?_
    refine qN ?_
    refine cS (cR ?_)
    refine mv rfl ?_
    refine mv rfl ?_
    refine asg rfl ?_
    refine asg rfl ?_
    refine asg rfl ?_
    refine rN ?_
    refine qN ?_
    refine cE ?_
    rw [utA_end] at hsz
    rw [utA_end]
    refine kE3 rfl rfl rfl rfl rfl rfl rfl  ?_
    first | (exfalso; contradiction) | exact ⟨_, ⟨_, ResT.yes (utP_y h1 c2 hsz ho) hz, rfl⟩, (by (try simp only [List.cons_append, List.nil_append, List.append_assoc]); repeat' first | with_reducible apply eR | with_reducible apply eA | ((with_reducible apply xA); · repeat first | with_reducible apply lH | with_reducible apply lT | with_reducible apply lL) | ((with_reducible apply xC); · repeat first | apply pH | with_reducible apply pT | with_reducible apply pL) | with_reducible assumption | with_reducible apply eS | with_reducible apply eL | exact eR)⟩ | (exfalso; first | contradiction | omega | (simp_all; done) | (simp_all; omega))
-- @reg spec.l07Length : c_l07Length _ _ (by omega)
theorem c_l07Length (n : Nat) (M : Mem) (hn : (n : Int) ≤ 1000) : ACall Try.prog 88 [.int .i64 (n : Nat)] M fun v M' => v = .int .i64 ((utT n : Nat) : Int) ∧ M' = M := by
  refine acall_of_awp Try.func88 rfl Try.ntmps88 rfl ?_
  refine cS (cR ?_)
  refine asg rfl ?_
  refine rN ?_
  refine qN ?_
  refine cS (cR ?_)
  refine mv rfl ?_
  first | refine rMlk rfl rfl (by with_reducible assumption) (by omega) ?_ | refine rMl rfl rfl (by first | omega | assumption) (by first | omega | assumption) ?_ | refine bMul rfl rfl ?_
  first | refine rAn (a := 1) rfl rfl (by omega) ?_ | refine rA rfl rfl (by omega) (by omega) ?_ | refine bAdd rfl rfl ?_
  refine mv rfl ?_
  first | refine rAn (b := 8) rfl rfl (by omega) ?_ | refine rA rfl rfl (by omega) (by omega) ?_ | refine bAdd rfl rfl ?_
  first | refine rB rfl rfl (by omega) (by omega) ?_ | refine bSub rfl rfl ?_
  first | refine rQn rfl rfl (by omega) (by omega) ?_ | refine bQuo rfl rfl (by omega) ?_
  first | refine rAn rfl rfl (by omega) ?_ | refine rA rfl rfl (by omega) (by omega) ?_ | refine bAdd rfl rfl ?_
  refine asg rfl ?_
  refine rN ?_
  refine qN ?_
  refine cE ?_
  refine kE rfl rfl  ?_
  first | (exfalso; contradiction) | exact ⟨_, ⟨by congr 1; unfold utT; omega, rfl⟩, (by (try simp only [List.cons_append, List.nil_append, List.append_assoc]); repeat' first | with_reducible apply eR | with_reducible apply eA | ((with_reducible apply xA); · repeat first | with_reducible apply lH | with_reducible apply lT | with_reducible apply lL) | ((with_reducible apply xC); · repeat first | apply pH | with_reducible apply pT | with_reducible apply pL) | with_reducible assumption | with_reducible apply eS | with_reducible apply eL | exact eR)⟩ | (exfalso; first | contradiction | omega | (simp_all; done) | (simp_all; omega))
end Go.Proofs.Ytimdimgihlojcaa.Ab
