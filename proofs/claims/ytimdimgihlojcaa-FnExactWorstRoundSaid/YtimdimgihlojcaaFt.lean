/-
  Walks: the frame with some bytes, both sides; the law FnExactLoadFrame.
-/
import Derived.Test.YtimdimgihlojcaaFs
import Derived.Test.YtimdimgihlojcaaUr
namespace Go.Proofs.Ytimdimgihlojcaa.Ab
open Go Go.RowKit
attribute [local irreducible] Run Then InBlock LoopQ LQ1 LQ2 LQ3 LQ4 LQ5 LQ6 AWp Ret ACall
set_option linter.unusedVariables false
set_option linter.unusedSimpArgs false

def hdS : ByteArray := ⟨#[71, 82, 68, 49]⟩
noncomputable abbrev lfR (s : ByteArray) : ByteArray := s.extract 9 s.size
def lfD (s : ByteArray) : Int := sAt s 5 + 256 * sAt s 6 + 65536 * sAt s 7 + 16777216 * sAt s 8
noncomputable abbrev lfX (s : ByteArray) : List Nat := utX (lfR s)
noncomputable def lfE (s : ByteArray) : Nat := 9 + utT (utN (lfR s))
/-- the beginning of the bytes is a frame -/
noncomputable def lfP (s : ByteArray) : Bool := decide (9 ≤ s.size) && (hpB s hdS && (utP (lfR s) && (vfB (sAt s 4) (lfD s) (lfX s) && hpB (s.extract (lfE s) s.size) (ckS (s.extract 0 (lfE s))))))
/-- a frame, a length and a bool -/
def ResU (B : Bool) (w d : Int) (xs : List Nat) (t : Nat) (r : Value) (L : Mem) : Prop := ∃ v, r = .tuple #[.agg #[.int .i64 (bif B then w else 0), .int .i64 (bif B then d else 0), v], .int .i64 (bif B then (t : Int) else 0), .bool B] ∧ OwF L v (bif B then xs else [])
theorem ResU.no {B : Bool} {w d : Int} {xs : List Nat} {t : Nat} (h : B = false) : ResU B w d xs t (.tuple #[.agg #[.int .i64 0, .int .i64 0, .slice none 0 0], .int .i64 0, .bool false]) [] := by subst h; exact ⟨_, rfl, OwF.nil⟩
theorem ResU.yes {B : Bool} {w d : Int} {v : Value} {xs : List Nat} {t : Nat} {L : Mem} (h : B = true) (ho : OwF L v xs) : ResU B w d xs t (.tuple #[.agg #[.int .i64 w, .int .i64 d, v], .int .i64 (t : Int), .bool true]) L := by subst h; exact ⟨_, rfl, ho⟩
theorem lfP_n1 {s : ByteArray} (h : ¬ 9 ≤ s.size) : lfP s = false := by unfold lfP; rw [decide_eq_false h]; rfl
theorem lfP_n2 {s : ByteArray} (h : hpB s hdS = false) : lfP s = false := by unfold lfP; rw [h]; simp
theorem lfP_n3 {s : ByteArray} (h : utP (lfR s) = false) : lfP s = false := by unfold lfP; rw [h]; simp
theorem lfP_n4 {s : ByteArray} (h : vfB (sAt s 4) (lfD s) (lfX s) = false) : lfP s = false := by unfold lfP; rw [h]; simp
theorem lfP_n5 {s : ByteArray} (h : hpB (s.extract (lfE s) s.size) (ckS (s.extract 0 (lfE s))) = false) : lfP s = false := by unfold lfP; rw [h]; simp
theorem lfP_y {s : ByteArray} (h1 : 9 ≤ s.size) (h2 : hpB s hdS = true) (h3 : utP (lfR s) = true) (h4 : vfB (sAt s 4) (lfD s) (lfX s) = true) (h5 : hpB (s.extract (lfE s) s.size) (ckS (s.extract 0 (lfE s))) = true) : lfP s = true := by
  unfold lfP; rw [decide_eq_true h1, h2, h3, h4, h5]; rfl
theorem utP_y3 {s : ByteArray} (h : utP s = true) : utT (utN s) ≤ s.size := by
  unfold utP at h; simp at h; exact h.1.2
theorem utP_in {s : ByteArray} (h : utP s = true) : 1 ≤ utN s ∧ utN s ≤ 128 := by
  have hn := utN_eq s
  unfold utP at h; simp at h
  have := inB_iff.1 h.1.1.2
  omega
theorem lfD_eq (s : ByteArray) : lfD s = sAt s 5 + 256 * sAt s 6 + 65536 * sAt s 7 + 16777216 * sAt s 8 := rfl
theorem lfE_eq (s : ByteArray) : lfE s = 9 + utT (utN (lfR s)) := rfl
theorem lf_room {s t : ByteArray} {e : Nat} (h : hpB (s.extract e s.size) (ckS t) = true) : e + 2 ≤ s.size := by
  unfold hpB at h
  rw [ckS_size, ByteArray.size_extract] at h
  simp at h
  omega
section
attribute [local irreducible] hpB ckS lfE lfD utP lfP utL sAt utN
theorem c_loadFrame (s : ByteArray) (M : Mem) (hs : s.size ≤ 9223372036854775807) :
    ACall Try.prog 72 [.string s] M fun v M' => ∃ L, ResU (lfP s) (sAt s 4) (lfD s) (lfX s) (lfE s + 2) v L ∧ M' = L ++ M := by
  have h4 := sAt_rng s 4
  have h5 := sAt_rng s 5
  have h6 := sAt_rng s 6
  have h7 := sAt_rng s 7
  have h8 := sAt_rng s 8
  have hD : lfD s = sAt s 5 + 256 * sAt s 6 + 65536 * sAt s 7 + 16777216 * sAt s 8 := lfD_eq s
  skip
  skip
  skip
  skip
  skip
  skip
  skip
  refine acall_of_awp Try.func72 rfl Try.ntmps72 rfl ?_
  refine cS (cR ?_)
  refine rO ?_; intro bk1
  refine asg rfl ?_
  refine asg rfl ?_
  refine rN ?_
  refine qN ?_
  refine cS ?_
  refine cS (cR ?_)
  refine mv rfl ?_
  refine lnS rfl ?_
  refine bLss rfl rfl ?_
  refine mv rfl ?_
  refine gC rfl rfl (fun c1 => ?_) (fun c1 => ?_)
  · have c1' := c1; try simp only [inB_iff, Bool.and_eq_true, decide_eq_true_eq, decide_eq_false_iff_not, beq_iff_eq, beq_eq_false_iff_ne, bne_iff_ne, bne_eq_false_iff_eq, ne_eq] at c1'
    refine gU rfl rfl c1 ?_
    refine gU rfl rfl c1 ?_
    refine gU rfl rfl c1 ?_
    refine kT rfl c1 rfl ?_
    refine rN ?_
    refine qN ?_
    refine cT rfl ?_
    refine cS (cR ?_)
    refine bd0 ?_
    refine tA rfl rfl rfl (by repeat first | apply pH | with_reducible apply pT | with_reducible apply pL) (by rfl) (by rfl) ?_
    refine asg rfl ?_
    refine asg rfl ?_
    refine rN ?_
    refine qN ?_
    refine cE ?_
    refine qE ?_
    refine kC3 rfl (resOne_cell rfl (by repeat first | with_reducible assumption | with_reducible apply List.mem_cons_self | with_reducible apply List.mem_cons_of_mem | with_reducible apply List.mem_append_right | exact List.Mem.head _) rfl) (resOne_tmp rfl) (resOne_tmp rfl) rfl rfl rfl ?_
    first | (exfalso; contradiction) | exact ⟨_, ⟨_, ResU.no (by first | exact lfP_n1 (by omega) | exact lfP_n2 c2), rfl⟩, (by (try simp only [List.cons_append, List.nil_append, List.append_assoc]); repeat' first | with_reducible apply eR | with_reducible apply eA | ((with_reducible apply xA); · repeat first | with_reducible apply lH | with_reducible apply lT | with_reducible apply lL) | ((with_reducible apply xC); · repeat first | apply pH | with_reducible apply pT | with_reducible apply pL) | with_reducible assumption | with_reducible apply eS | with_reducible apply eL | exact eR)⟩ | (exfalso; first | contradiction | omega | (simp_all; done) | (simp_all; omega))
  have c1' := c1; try simp only [inB_iff, Bool.and_eq_true, decide_eq_true_eq, decide_eq_false_iff_not, beq_iff_eq, beq_eq_false_iff_ne, bne_iff_ne, bne_eq_false_iff_eq, ne_eq] at c1'
  refine gG rfl rfl c1 ?_
  refine mv rfl ?_
  refine gG rfl rfl c1 ?_
  refine rCq rfl (c_HasPrefix _ _ _) ?_
  refine gG rfl rfl c1 ?_
  refine uNot rfl ?_
  refine kF rfl c1 rfl ?_
  refine rN ?_
  refine qN ?_
  refine cC rfl (fun c2 => ?_) (fun c2 => ?_)
  · replace c2 := not_t c2
    have c2' := c2; try simp only [inB_iff, Bool.and_eq_true, decide_eq_true_eq, decide_eq_false_iff_not, beq_iff_eq, beq_eq_false_iff_ne, bne_iff_ne, bne_eq_false_iff_eq, ne_eq] at c2'
    refine cS (cR ?_)
    refine bd0 ?_
    refine tA rfl rfl rfl (by repeat first | apply pH | with_reducible apply pT | with_reducible apply pL) (by rfl) (by rfl) ?_
    refine asg rfl ?_
    refine asg rfl ?_
    refine rN ?_
    refine qN ?_
    refine cE ?_
    refine qE ?_
    refine kC3 rfl (resOne_cell rfl (by repeat first | with_reducible assumption | with_reducible apply List.mem_cons_self | with_reducible apply List.mem_cons_of_mem | with_reducible apply List.mem_append_right | exact List.Mem.head _) rfl) (resOne_tmp rfl) (resOne_tmp rfl) rfl rfl rfl ?_
    first | (exfalso; contradiction) | exact ⟨_, ⟨_, ResU.no (by first | exact lfP_n1 (by omega) | exact lfP_n2 c2), rfl⟩, (by (try simp only [List.cons_append, List.nil_append, List.append_assoc]); repeat' first | with_reducible apply eR | with_reducible apply eA | ((with_reducible apply xA); · repeat first | with_reducible apply lH | with_reducible apply lT | with_reducible apply lL) | ((with_reducible apply xC); · repeat first | apply pH | with_reducible apply pT | with_reducible apply pL) | with_reducible assumption | with_reducible apply eS | with_reducible apply eL | exact eR)⟩ | (exfalso; first | contradiction | omega | (simp_all; done) | (simp_all; omega))
  replace c2 := not_f c2
  have c2' := c2; try simp only [inB_iff, Bool.and_eq_true, decide_eq_true_eq, decide_eq_false_iff_not, beq_iff_eq, beq_eq_false_iff_ne, bne_iff_ne, bne_eq_false_iff_eq, ne_eq] at c2'
  refine cK ?_
  refine qN ?_
  refine cS (cR ?_)
  refine mv rfl ?_
  refine sSlL (i := 9) rfl rfl (by omega) ?_
  have h9 : 9 ≤ s.size := by omega
  have hrs : (lfR s).size = s.size - 9 := ext_size h9 (Nat.le_refl _)
  have hE := lfE_eq s
  cases hP : utP (lfR s) with
  | false =>
    skip
    refine rC rfl ((c_unpackTrace (lfR s) _ (by omega)).mono (fun v M' hv => by rw [hP] at hv; exact hv)) ?_
    rintro _ _ ⟨lk9, ⟨sv9, rfl, how9⟩, rfl⟩
    refine ⟨fun _ => (by (try simp only [List.cons_append, List.nil_append, List.append_assoc]); repeat' first | with_reducible apply eR | with_reducible apply eA | ((with_reducible apply xA); · repeat first | with_reducible apply lH | with_reducible apply lT | with_reducible apply lL) | ((with_reducible apply xC); · repeat first | apply pH | with_reducible apply pT | with_reducible apply pL) | with_reducible assumption | with_reducible apply eS | with_reducible apply eL | exact eR), ?_⟩
    obtain ⟨ad9, cn9, rfl, hrd9⟩ := how9.rd; simp only [cond_false, List.length_nil] at how9 hrd9 ⊢
    refine mv rfl ?_
    refine xt rfl rfl rfl ?_
    refine xt rfl rfl rfl ?_
    refine xt rfl rfl rfl ?_
    refine asg rfl ?_
    refine asg rfl ?_
    refine asg rfl ?_
    refine rN ?_
    refine qN ?_
    refine cS ?_
    refine cDa [] [([0, 1, 2, 3, 4, 5, 9], 6), ([], 7)] [8, 10] 11 [(12, false)] 8 (by repeat first | exact fineT | exact fineL | exact fineLQ1 | exact fineLQ2 | exact fineLQ3 | exact fineLQ4 | exact fineLQ5 | exact fineLQ6 | exact fineR | refine fineB ?_) rfl (by kernel_rfl) rfl ?_
    simp only [RunS, pickS, pur, List.map_cons, List.map_nil, pick, List.getElem?_toArray, List.getElem?_cons_zero, List.getElem?_cons_succ]
    refine mv rfl ?_
    refine sIx (i := 4) rfl rfl (by omega) ?_
    first | refine cvI rfl (by omega) (by omega) ?_ | refine rp rfl ?_
    refine ldZ rfl ?_
    refine mv rfl ?_
    refine sSl (i := 5) (j := 9) rfl rfl rfl (by omega) (by omega) ?_
    refine mv rfl ?_
    refine rN ?_
    refine fsT rfl ?_; intro bk2 cp1 rs1
    refine rN ?_
    refine fsQ rfl (fun X => c_Uint32 _ _ _ _ (sAt s 5) (sAt s 6) (sAt s 7) (sAt s 8) _ (rd_to.mono (ext_append X _)) (by rw [ext_size (by omega) (by omega)]; omega) (sAt_ext (i := 5) (k := 0) (by omega)) (sAt_ext (i := 5) (k := 1) (by omega)) (sAt_ext (i := 5) (k := 2) (by omega)) (sAt_ext (i := 5) (k := 3) (by omega)) h5 h6 h7 h8) ?_
    rw [← hD]
    first | refine cvI rfl (by omega) (by omega) ?_ | refine rp rfl ?_
    refine bd3 rfl rfl rfl rfl rfl rfl ?_
    refine rN ?_
    intro bk3
    refine tA rfl rfl rfl (by repeat first | apply pH | with_reducible apply pT | with_reducible apply pL) (by rfl) (by rfl) ?_
    refine rN ?_
    refine qN ?_
    refine cS (cR ?_)
    refine mv rfl ?_
    first | (refine rAn (a := 9) rfl rfl (by omega) ?_; rw [← hE]) | refine rA rfl rfl (by omega) (by omega) ?_
    refine asg rfl ?_
    refine rN ?_
    refine qN ?_
    refine cS ?_
    refine cS ?_
    refine cD [] [(0, false), (1, false), (2, false), (3, false), (4, false), (5, false), (6, false), (7, false), (8, true), (9, true), (10, true), (11, true), (12, false), (13, false), (14, false), (15, false), (16, false), (17, false)] (by repeat first | exact fineT | exact fineL | exact fineLQ1 | exact fineLQ2 | exact fineLQ3 | exact fineLQ4 | exact fineLQ5 | exact fineLQ6 | exact fineR | refine fineB ?_) (by kernel_rfl) ?_
    simp only [pick, List.getElem?_toArray, List.getElem?_cons_zero, List.getElem?_cons_succ]
    refine mv rfl ?_
    refine uNot rfl ?_
    refine mv rfl ?_
    refine gC rfl rfl (fun hb => ?_) (fun hb => ?_)
    · replace hb := not_t hb
      have hb' := hb; try simp only [inB_iff, Bool.and_eq_true, decide_eq_true_eq, decide_eq_false_iff_not, beq_iff_eq, beq_eq_false_iff_ne, bne_iff_ne, bne_eq_false_iff_eq, ne_eq] at hb'
      refine gU rfl rfl (bnot_f hb) ?_
      refine gU rfl rfl (bnot_f hb) ?_
      refine gU rfl rfl (bnot_f hb) ?_
      refine kT rfl (bnot_f hb) rfl ?_
      refine mv rfl ?_
      refine gU rfl rfl rfl ?_
      refine gU rfl rfl rfl ?_
      refine gU rfl rfl rfl ?_
      refine gU rfl rfl rfl ?_
      refine gU rfl rfl rfl ?_
      refine gU rfl rfl rfl ?_
      refine gU rfl rfl rfl ?_
      refine gU rfl rfl rfl ?_
      refine gU rfl rfl rfl ?_
      refine kT rfl rfl rfl ?_
      refine rN ?_
      refine qN ?_
      refine cT rfl ?_
      refine cS (cR ?_)
      refine bd0 ?_
      refine tA rfl rfl rfl (by repeat first | apply pH | with_reducible apply pT | with_reducible apply pL) (by rfl) (by rfl) ?_
      refine asg rfl ?_
      refine asg rfl ?_
      refine rN ?_
      refine qN ?_
      refine cE ?_
      refine qE ?_
      refine kC3 rfl (resOne_cell rfl (by repeat first | with_reducible assumption | with_reducible apply List.mem_cons_self | with_reducible apply List.mem_cons_of_mem | with_reducible apply List.mem_append_right | exact List.Mem.head _) rfl) (resOne_tmp rfl) (resOne_tmp rfl) rfl rfl rfl ?_
      first | (exfalso; contradiction) | exact ⟨_, ⟨_, ResU.no (lfP_n3 hP), rfl⟩, (by (try simp only [List.cons_append, List.nil_append, List.append_assoc]); repeat' first | with_reducible apply eR | with_reducible apply eA | ((with_reducible apply xA); · repeat first | with_reducible apply lH | with_reducible apply lT | with_reducible apply lL) | ((with_reducible apply xC); · repeat first | apply pH | with_reducible apply pT | with_reducible apply pL) | with_reducible assumption | with_reducible apply eS | with_reducible apply eL | exact eR)⟩ | (exfalso; first | contradiction | omega | (simp_all; done) | (simp_all; omega))
    · replace hb := not_f hb
      have hb' := hb; try simp only [inB_iff, Bool.and_eq_true, decide_eq_true_eq, decide_eq_false_iff_not, beq_iff_eq, beq_eq_false_iff_ne, bne_iff_ne, bne_eq_false_iff_eq, ne_eq] at hb'
      refine gG rfl rfl (bnot_t hb) ?_
      refine rLA rfl (by repeat first | with_reducible assumption | with_reducible apply List.mem_cons_self | with_reducible apply List.mem_cons_of_mem | with_reducible apply List.mem_append_right | exact List.Mem.head _) rfl rfl ?_
      refine gG rfl rfl (bnot_t hb) ?_
      refine rCq rfl (c_implValidFrame _ _ _ _ _ _ _ (by first | with_reducible assumption | ((try first | with_reducible apply RdF.sub | with_reducible apply RdF.sub0) <;> first | with_reducible assumption | (apply RdF.mono; (· (with_reducible assumption)); · (try simp only [List.cons_append, List.nil_append, List.append_assoc]); repeat' first | with_reducible apply eR | with_reducible apply eA | ((with_reducible apply xA); · repeat first | with_reducible apply lH | with_reducible apply lT | with_reducible apply lL) | ((with_reducible apply xC); · repeat first | apply pH | with_reducible apply pT | with_reducible apply pL) | with_reducible assumption | with_reducible apply eS | with_reducible apply eL | exact eR) | (apply RdF.mono; (· (apply OwF.rdF; with_reducible assumption)); · (try simp only [List.cons_append, List.nil_append, List.append_assoc]); repeat' first | with_reducible apply eR | with_reducible apply eA | ((with_reducible apply xA); · repeat first | with_reducible apply lH | with_reducible apply lT | with_reducible apply lL) | ((with_reducible apply xC); · repeat first | apply pH | with_reducible apply pT | with_reducible apply pL) | with_reducible assumption | with_reducible apply eS | with_reducible apply eL | exact eR) | (apply RdF.ownm; (· repeat first | with_reducible assumption | with_reducible apply List.mem_cons_self | with_reducible apply List.mem_cons_of_mem | with_reducible apply List.mem_append_right | exact List.Mem.head _); · first | rfl | with_reducible assumption | omega | simp [*]) | with_reducible assumption | omega | (simp; done) | (simp; omega) | (simp only [Bool.and_eq_true, inB_iff] at *; omega))) (by first | with_reducible assumption | omega | (simp only [Bool.and_eq_true, inB_iff] at *; omega))) ?_
      refine gG rfl rfl (bnot_t hb) ?_
      refine uNot rfl ?_
      refine kF rfl (bnot_t hb) rfl ?_
      refine mv rfl ?_
      cases hb
  | true =>
    skip
    have hle := utP_y3 hP
    have hin := utP_in hP
    have hxl : (utX (lfR s)).length = utN (lfR s) := by rw [utX, utL_len hle _ (Nat.le_refl _)]; unfold utK; omega
    refine rC rfl ((c_unpackTrace (lfR s) _ (by omega)).mono (fun v M' hv => by rw [hP] at hv; exact hv)) ?_
    rintro _ _ ⟨lk9, ⟨sv9, rfl, how9⟩, rfl⟩
    refine ⟨fun _ => (by (try simp only [List.cons_append, List.nil_append, List.append_assoc]); repeat' first | with_reducible apply eR | with_reducible apply eA | ((with_reducible apply xA); · repeat first | with_reducible apply lH | with_reducible apply lT | with_reducible apply lL) | ((with_reducible apply xC); · repeat first | apply pH | with_reducible apply pT | with_reducible apply pL) | with_reducible assumption | with_reducible apply eS | with_reducible apply eL | exact eR), ?_⟩
    obtain ⟨ad9, cn9, rfl, hrd9⟩ := how9.rd; simp only [cond_true] at how9 hrd9 ⊢
    refine mv rfl ?_
    refine xt rfl rfl rfl ?_
    refine xt rfl rfl rfl ?_
    refine xt rfl rfl rfl ?_
    refine asg rfl ?_
    refine asg rfl ?_
    refine asg rfl ?_
    refine rN ?_
    refine qN ?_
    refine cS ?_
    refine cDa [] [([0, 1, 2, 3, 4, 5, 9], 6), ([], 7)] [8, 10] 11 [(12, false)] 8 (by repeat first | exact fineT | exact fineL | exact fineLQ1 | exact fineLQ2 | exact fineLQ3 | exact fineLQ4 | exact fineLQ5 | exact fineLQ6 | exact fineR | refine fineB ?_) rfl (by kernel_rfl) rfl ?_
    simp only [RunS, pickS, pur, List.map_cons, List.map_nil, pick, List.getElem?_toArray, List.getElem?_cons_zero, List.getElem?_cons_succ]
    refine mv rfl ?_
    refine sIx (i := 4) rfl rfl (by omega) ?_
    first | refine cvI rfl (by omega) (by omega) ?_ | refine rp rfl ?_
    refine ldZ rfl ?_
    refine mv rfl ?_
    refine sSl (i := 5) (j := 9) rfl rfl rfl (by omega) (by omega) ?_
    refine mv rfl ?_
    refine rN ?_
    refine fsT rfl ?_; intro bk2 cp1 rs1
    refine rN ?_
    refine fsQ rfl (fun X => c_Uint32 _ _ _ _ (sAt s 5) (sAt s 6) (sAt s 7) (sAt s 8) _ (rd_to.mono (ext_append X _)) (by rw [ext_size (by omega) (by omega)]; omega) (sAt_ext (i := 5) (k := 0) (by omega)) (sAt_ext (i := 5) (k := 1) (by omega)) (sAt_ext (i := 5) (k := 2) (by omega)) (sAt_ext (i := 5) (k := 3) (by omega)) h5 h6 h7 h8) ?_
    rw [← hD]
    first | refine cvI rfl (by omega) (by omega) ?_ | refine rp rfl ?_
    refine bd3 rfl rfl rfl rfl rfl rfl ?_
    refine rN ?_
    intro bk3
    refine tA rfl rfl rfl (by repeat first | apply pH | with_reducible apply pT | with_reducible apply pL) (by rfl) (by rfl) ?_
    refine rN ?_
    refine qN ?_
    refine cS (cR ?_)
    refine mv rfl ?_
    first | (refine rAn (a := 9) rfl rfl (by omega) ?_; rw [← hE]) | refine rA rfl rfl (by omega) (by omega) ?_
    refine asg rfl ?_
    refine rN ?_
    refine qN ?_
    refine cS ?_
    refine cS ?_
    refine cD [] [(0, false), (1, false), (2, false), (3, false), (4, false), (5, false), (6, false), (7, false), (8, true), (9, true), (10, true), (11, true), (12, false), (13, false), (14, false), (15, false), (16, false), (17, false)] (by repeat first | exact fineT | exact fineL | exact fineLQ1 | exact fineLQ2 | exact fineLQ3 | exact fineLQ4 | exact fineLQ5 | exact fineLQ6 | exact fineR | refine fineB ?_) (by kernel_rfl) ?_
    simp only [pick, List.getElem?_toArray, List.getElem?_cons_zero, List.getElem?_cons_succ]
    refine mv rfl ?_
    refine uNot rfl ?_
    refine mv rfl ?_
    refine gC rfl rfl (fun hb => ?_) (fun hb => ?_)
    · replace hb := not_t hb
      have hb' := hb; try simp only [inB_iff, Bool.and_eq_true, decide_eq_true_eq, decide_eq_false_iff_not, beq_iff_eq, beq_eq_false_iff_ne, bne_iff_ne, bne_eq_false_iff_eq, ne_eq] at hb'
      refine gU rfl rfl (bnot_f hb) ?_
      refine gU rfl rfl (bnot_f hb) ?_
      refine gU rfl rfl (bnot_f hb) ?_
      refine kT rfl (bnot_f hb) rfl ?_
      refine mv rfl ?_
      refine gU rfl rfl rfl ?_
      refine gU rfl rfl rfl ?_
      refine gU rfl rfl rfl ?_
      refine gU rfl rfl rfl ?_
      refine gU rfl rfl rfl ?_
      refine gU rfl rfl rfl ?_
      refine gU rfl rfl rfl ?_
      refine gU rfl rfl rfl ?_
      refine gU rfl rfl rfl ?_
      refine kT rfl rfl rfl ?_
      refine rN ?_
      refine qN ?_
      refine cT rfl ?_
      refine cS (cR ?_)
      refine bd0 ?_
      refine tA rfl rfl rfl (by repeat first | apply pH | with_reducible apply pT | with_reducible apply pL) (by rfl) (by rfl) ?_
      refine asg rfl ?_
      refine asg rfl ?_
      refine rN ?_
      refine qN ?_
      refine cE ?_
      refine qE ?_
      cases hb
    · replace hb := not_f hb
      have hb' := hb; try simp only [inB_iff, Bool.and_eq_true, decide_eq_true_eq, decide_eq_false_iff_not, beq_iff_eq, beq_eq_false_iff_ne, bne_iff_ne, bne_eq_false_iff_eq, ne_eq] at hb'
      refine gG rfl rfl (bnot_t hb) ?_
      refine rLA rfl (by repeat first | with_reducible assumption | with_reducible apply List.mem_cons_self | with_reducible apply List.mem_cons_of_mem | with_reducible apply List.mem_append_right | exact List.Mem.head _) rfl rfl ?_
      refine gG rfl rfl (bnot_t hb) ?_
      refine rCq rfl (c_implValidFrame _ _ _ _ _ _ _ (by first | with_reducible assumption | ((try first | with_reducible apply RdF.sub | with_reducible apply RdF.sub0) <;> first | with_reducible assumption | (apply RdF.mono; (· (with_reducible assumption)); · (try simp only [List.cons_append, List.nil_append, List.append_assoc]); repeat' first | with_reducible apply eR | with_reducible apply eA | ((with_reducible apply xA); · repeat first | with_reducible apply lH | with_reducible apply lT | with_reducible apply lL) | ((with_reducible apply xC); · repeat first | apply pH | with_reducible apply pT | with_reducible apply pL) | with_reducible assumption | with_reducible apply eS | with_reducible apply eL | exact eR) | (apply RdF.mono; (· (apply OwF.rdF; with_reducible assumption)); · (try simp only [List.cons_append, List.nil_append, List.append_assoc]); repeat' first | with_reducible apply eR | with_reducible apply eA | ((with_reducible apply xA); · repeat first | with_reducible apply lH | with_reducible apply lT | with_reducible apply lL) | ((with_reducible apply xC); · repeat first | apply pH | with_reducible apply pT | with_reducible apply pL) | with_reducible assumption | with_reducible apply eS | with_reducible apply eL | exact eR) | (apply RdF.ownm; (· repeat first | with_reducible assumption | with_reducible apply List.mem_cons_self | with_reducible apply List.mem_cons_of_mem | with_reducible apply List.mem_append_right | exact List.Mem.head _); · first | rfl | with_reducible assumption | omega | simp [*]) | with_reducible assumption | omega | (simp; done) | (simp; omega) | (simp only [Bool.and_eq_true, inB_iff] at *; omega))) (by first | with_reducible assumption | omega | (simp only [Bool.and_eq_true, inB_iff] at *; omega))) ?_
      refine gG rfl rfl (bnot_t hb) ?_
      refine uNot rfl ?_
      refine kF rfl (bnot_t hb) rfl ?_
      refine mv rfl ?_
      refine gC rfl rfl (fun hv => ?_) (fun hv => ?_)
      · replace hv := not_t hv
        have hv' := hv; try simp only [inB_iff, Bool.and_eq_true, decide_eq_true_eq, decide_eq_false_iff_not, beq_iff_eq, beq_eq_false_iff_ne, bne_iff_ne, bne_eq_false_iff_eq, ne_eq] at hv'
        refine gU rfl rfl (bnot_f hv) ?_
        refine gU rfl rfl (bnot_f hv) ?_
        refine gU rfl rfl (bnot_f hv) ?_
        refine gU rfl rfl (bnot_f hv) ?_
        refine gU rfl rfl (bnot_f hv) ?_
        refine gU rfl rfl (bnot_f hv) ?_
        refine gU rfl rfl (bnot_f hv) ?_
        refine gU rfl rfl (bnot_f hv) ?_
        refine gU rfl rfl (bnot_f hv) ?_
        refine kT rfl (bnot_f hv) rfl ?_
        refine rN ?_
        refine qN ?_
        refine cT rfl ?_
        refine cS (cR ?_)
        refine bd0 ?_
        refine tA rfl rfl rfl (by repeat first | apply pH | with_reducible apply pT | with_reducible apply pL) (by rfl) (by rfl) ?_
        refine asg rfl ?_
        refine asg rfl ?_
        refine rN ?_
        refine qN ?_
        refine cE ?_
        refine qE ?_
        refine kC3 rfl (resOne_cell rfl (by repeat first | with_reducible assumption | with_reducible apply List.mem_cons_self | with_reducible apply List.mem_cons_of_mem | with_reducible apply List.mem_append_right | exact List.Mem.head _) rfl) (resOne_tmp rfl) (resOne_tmp rfl) rfl rfl rfl ?_
        first | (exfalso; contradiction) | exact ⟨_, ⟨_, ResU.no (lfP_n4 hv), rfl⟩, (by (try simp only [List.cons_append, List.nil_append, List.append_assoc]); repeat' first | with_reducible apply eR | with_reducible apply eA | ((with_reducible apply xA); · repeat first | with_reducible apply lH | with_reducible apply lT | with_reducible apply lL) | ((with_reducible apply xC); · repeat first | apply pH | with_reducible apply pT | with_reducible apply pL) | with_reducible assumption | with_reducible apply eS | with_reducible apply eL | exact eR)⟩ | (exfalso; first | contradiction | omega | (simp_all; done) | (simp_all; omega))
      · replace hv := not_f hv
        have hv' := hv; try simp only [inB_iff, Bool.and_eq_true, decide_eq_true_eq, decide_eq_false_iff_not, beq_iff_eq, beq_eq_false_iff_ne, bne_iff_ne, bne_eq_false_iff_eq, ne_eq] at hv'
        refine gG rfl rfl (bnot_t hv) ?_
        refine mv rfl ?_
        refine gG rfl rfl (bnot_t hv) ?_
        refine mv rfl ?_
        refine gG rfl rfl (bnot_t hv) ?_
        refine sSlL (i := lfE s) rfl rfl (by omega) ?_
        refine gG rfl rfl (bnot_t hv) ?_
        refine mv rfl ?_
        refine gG rfl rfl (bnot_t hv) ?_
        refine mv rfl ?_
        refine gG rfl rfl (bnot_t hv) ?_
        refine sSlH (i := lfE s) rfl rfl (by omega) ?_
        refine gG rfl rfl (bnot_t hv) ?_
        refine rCq rfl (c_checkBytes (s.extract 0 (lfE s)) _ (by rw [ext_size (Nat.zero_le _) (by omega)]; omega)) ?_
        refine gG rfl rfl (bnot_t hv) ?_
        refine rCq rfl (c_HasPrefix _ _ _) ?_
        refine gG rfl rfl (bnot_t hv) ?_
        refine uNot rfl ?_
        refine kF rfl (bnot_t hv) rfl ?_
        refine rN ?_
        refine qN ?_
        refine cC rfl (fun hk => ?_) (fun hk => ?_)
        · replace hk := not_t hk
          have hk' := hk; try simp only [inB_iff, Bool.and_eq_true, decide_eq_true_eq, decide_eq_false_iff_not, beq_iff_eq, beq_eq_false_iff_ne, bne_iff_ne, bne_eq_false_iff_eq, ne_eq] at hk'
          refine cS (cR ?_)
          refine bd0 ?_
          refine tA rfl rfl rfl (by repeat first | apply pH | with_reducible apply pT | with_reducible apply pL) (by rfl) (by rfl) ?_
          refine asg rfl ?_
          refine asg rfl ?_
          refine rN ?_
          refine qN ?_
          refine cE ?_
          refine qE ?_
          refine kC3 rfl (resOne_cell rfl (by repeat first | with_reducible assumption | with_reducible apply List.mem_cons_self | with_reducible apply List.mem_cons_of_mem | with_reducible apply List.mem_append_right | exact List.Mem.head _) rfl) (resOne_tmp rfl) (resOne_tmp rfl) rfl rfl rfl ?_
          first | (exfalso; contradiction) | exact ⟨_, ⟨_, ResU.no (lfP_n5 hk), rfl⟩, (by (try simp only [List.cons_append, List.nil_append, List.append_assoc]); repeat' first | with_reducible apply eR | with_reducible apply eA | ((with_reducible apply xA); · repeat first | with_reducible apply lH | with_reducible apply lT | with_reducible apply lL) | ((with_reducible apply xC); · repeat first | apply pH | with_reducible apply pT | with_reducible apply pL) | with_reducible assumption | with_reducible apply eS | with_reducible apply eL | exact eR)⟩ | (exfalso; first | contradiction | omega | (simp_all; done) | (simp_all; omega))
        · replace hk := not_f hk
          have hk' := hk; try simp only [inB_iff, Bool.and_eq_true, decide_eq_true_eq, decide_eq_false_iff_not, beq_iff_eq, beq_eq_false_iff_ne, bne_iff_ne, bne_eq_false_iff_eq, ne_eq] at hk'
          have hroom : lfE s + 2 ≤ s.size := lf_room hk
          refine cK ?_
          refine qN ?_
          refine cS (cR ?_)
          refine rLA rfl (by repeat first | with_reducible assumption | with_reducible apply List.mem_cons_self | with_reducible apply List.mem_cons_of_mem | with_reducible apply List.mem_append_right | exact List.Mem.head _) rfl rfl ?_
          refine mv rfl ?_
          first | refine rAn (b := 2) rfl rfl (by omega) ?_ | refine rA rfl rfl (by omega) (by omega) ?_ | refine bAdd rfl rfl ?_
          refine tA rfl rfl rfl (by repeat first | apply pH | with_reducible apply pT | with_reducible apply pL) (by rfl) (by rfl) ?_
          refine asg rfl ?_
          refine asg rfl ?_
          refine rN ?_
          refine qN ?_
          refine cE ?_
          refine kC3 rfl (resOne_cell rfl (by repeat first | with_reducible assumption | with_reducible apply List.mem_cons_self | with_reducible apply List.mem_cons_of_mem | with_reducible apply List.mem_append_right | exact List.Mem.head _) rfl) (resOne_tmp rfl) (resOne_tmp rfl) rfl rfl rfl ?_
          first | (exfalso; contradiction) | exact ⟨_, ⟨_, ResU.yes (lfP_y h9 c2 hP hv hk) how9, rfl⟩, (by (try simp only [List.cons_append, List.nil_append, List.append_assoc]); repeat' first | with_reducible apply eR | with_reducible apply eA | ((with_reducible apply xA); · repeat first | with_reducible apply lH | with_reducible apply lT | with_reducible apply lL) | ((with_reducible apply xC); · repeat first | apply pH | with_reducible apply pT | with_reducible apply pL) | with_reducible assumption | with_reducible apply eS | with_reducible apply eL | exact eR)⟩ | (exfalso; first | contradiction | omega | (simp_all; done) | (simp_all; omega))
end
end Go.Proofs.Ytimdimgihlojcaa.Ab
