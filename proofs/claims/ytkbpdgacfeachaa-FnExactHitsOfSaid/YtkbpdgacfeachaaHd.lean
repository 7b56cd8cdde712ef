/-
  Hits of cells: the implementation's walk.
-/
import Derived.Test.YtkbpdgacfeachaaHc
import Derived.Test.YtkbpdgacfeachaaPb
namespace Go.Proofs.Ytkbpdgacfeachaa.Ab
open Go Go.RowKit
attribute [local irreducible] Run Then InBlock LoopQ LQ1 LQ2 LQ3 LQ4 LQ5 LQ6 AWp Ret ACall
set_option linter.unusedVariables false
set_option linter.unusedSimpArgs false

/-! ## plain laws -/
theorem getD_mono {ys : List Int} (h : ys.Pairwise fun x y => x ≤ y) {i j : Nat} (hij : i < j) (hj : j < ys.length) : ys.getD i 0 ≤ ys.getD j 0 := by
  have := List.pairwise_iff_getElem.1 h i j (by omega) hj hij
  simpa [List.getD, hj, show i < ys.length by omega] using this
theorem cmK_law {ys : List Int} (h : ys.Pairwise fun x y => x ≤ y) : ∀ j, j ≤ ys.length → (cmK ys j).Pairwise (fun x y => x < y) ∧ ∀ x, x ∈ cmK ys j ↔ x ∈ ys.take j
  | 0, _ => ⟨List.Pairwise.nil, fun x => by simp [cmK]⟩
  | j + 1, hj => by
    obtain ⟨h1, h2⟩ := cmK_law h j (by omega)
    rw [take_getD (by omega)]
    by_cases e : 1 ≤ j ∧ ys.getD j 0 = ys.getD (j - 1) 0
    · rw [cmK_dup e.1 e.2]
      refine ⟨h1, fun x => ?_⟩
      rw [h2 x, List.mem_append, List.mem_singleton]
      constructor
      · exact .inl
      · rintro (hx | rfl)
        · exact hx
        · rw [e.2]
          have hl : j - 1 < (ys.take j).length := by rw [List.length_take]; omega
          have : ys.getD (j - 1) 0 = (ys.take j)[j - 1] := by
            rw [List.getElem_take]; simp [List.getD, show j - 1 < ys.length by omega]
          rw [this]; exact List.getElem_mem _
    · have hc : cmK ys (j + 1) = cmK ys j ++ [ys.getD j 0] := by rw [cmK, if_neg e]
      rw [hc]
      refine ⟨List.pairwise_append.2 ⟨h1, List.pairwise_singleton _ _, fun x hx y hy => ?_⟩, fun x => by rw [List.mem_append, List.mem_append, h2 x]⟩
      obtain rfl := List.mem_singleton.1 hy
      obtain ⟨i, hi, rfl⟩ := List.getElem_of_mem ((h2 x).1 hx)
      rw [List.length_take] at hi
      have e1 : (ys.take j)[i]'(by rw [List.length_take]; exact hi) = ys.getD i 0 := by rw [List.getElem_take]; simp [List.getD, show i < ys.length by omega]
      rw [e1]
      have h3 := getD_mono h (i := j - 1) (j := j) (by omega) (by omega)
      have h4 : ys.getD i 0 ≤ ys.getD (j - 1) 0 := by
        rcases Nat.lt_or_ge i (j - 1) with hlt | hge
        · exact getD_mono h hlt (by omega)
        · rw [show i = j - 1 by omega]; exact Int.le_refl _
      have h5 : ¬ ys.getD j 0 = ys.getD (j - 1) 0 := fun e2 => e ⟨by omega, e2⟩
      omega
/-- sorted, each but once -/
def cmS (cs : List Int) : List Int := cmK (cs.mergeSort fun x y => decide (x ≤ y)) (cs.mergeSort fun x y => decide (x ≤ y)).length
theorem srt_pw (cs : List Int) : (cs.mergeSort fun x y => decide (x ≤ y)).Pairwise fun x y => x ≤ y := by
  have := List.pairwise_mergeSort (le := fun x y : Int => decide (x ≤ y)) (fun a b c h1 h2 => by simp at *; omega) (fun a b => by simp; omega) cs
  exact this.imp fun h => by simpa using h
theorem cmS_mem {cs : List Int} {x : Int} : x ∈ cmS cs ↔ x ∈ cs := by
  unfold cmS
  rw [(cmK_law (srt_pw cs) _ (Nat.le_refl _)).2 x, List.take_length]
  exact (List.mergeSort_perm cs _).mem_iff
theorem cmS_lt (cs : List Int) : (cmS cs).Pairwise fun x y => x < y := (cmK_law (srt_pw cs) _ (Nat.le_refl _)).1
theorem cmK_len {zs : List Int} : ∀ j, (cmK zs j).length ≤ j
  | 0 => by simp [cmK]
  | j + 1 => by
    have := cmK_len (zs := zs) j
    rw [cmK]; split
    · omega
    · simp; omega
theorem cmS_len (cs : List Int) : (cmS cs).length ≤ cs.length := by
  have := cmK_len (zs := cs.mergeSort fun x y => decide (x ≤ y)) (cs.mergeSort fun x y => decide (x ≤ y)).length
  rw [List.length_mergeSort] at this
  unfold cmS; rw [List.length_mergeSort]; exact this
theorem not_take {ds : List Int} (h : ds.Pairwise fun x y => x < y) {j : Nat} (hj : j < ds.length) : ¬ ds.getD j 0 ∈ ds.take j := by
  intro hx
  obtain ⟨i, hi, e⟩ := List.getElem_of_mem hx
  rw [List.length_take] at hi
  rw [List.getElem_take] at e
  have := List.pairwise_iff_getElem.1 h i j (by omega) hj (by omega)
  have e2 : ds.getD j 0 = ds[j] := by simp [List.getD, hj]
  rw [e2] at e
  omega
set_option maxHeartbeats 2000000 in
theorem c_implHitsOf (w d : Int) (a : Option Addr) (n c : Nat) (ps : List Pth) (parts : Int) (M : Mem) (h : RdP M a n ps) (hn : n ≤ 1073741824) :
    ACall Try.prog 19 [.int .i64 w, .int .i64 d, .slice a n c, .int .i64 parts] M fun v M' => ∃ L, ResI (htB w d ps parts) (hiF w d ps parts.toNat ps.length) v L ∧ M' = L ++ M := by
  obtain ⟨rfl, _⟩ := id h
  skip
  skip
  skip
  skip
  skip
  skip
  skip
  skip
  refine acall_of_awp Try.func19 rfl Try.ntmps19 rfl ?_
  refine cS (cR ?_)
  refine asg rfl ?_
  refine asg rfl ?_
  refine rN ?_
  refine qN ?_
  refine cS ?_
  refine cS (cR ?_)
  refine mv rfl ?_
  refine mv rfl ?_
  refine rCq rfl (c_isSize _ _ _) ?_
  refine uNot rfl ?_
  refine mv rfl ?_
  refine gC rfl rfl (fun c1 => ?_) (fun c1 => ?_)
  · replace c1 := not_t c1
    have c1' := c1; try simp only [inB_iff, Bool.and_eq_true, decide_eq_true_eq, decide_eq_false_iff_not, beq_iff_eq, beq_eq_false_iff_ne, bne_iff_ne, bne_eq_false_iff_eq, ne_eq] at c1'
    refine gU rfl rfl (bnot_f c1) ?_
    refine gU rfl rfl (bnot_f c1) ?_
    refine gU rfl rfl (bnot_f c1) ?_
    refine gU rfl rfl (bnot_f c1) ?_
    refine kT rfl (bnot_f c1) rfl ?_
    refine rN ?_
    refine qN ?_
    refine cT rfl ?_
    refine cS (cR ?_)
    refine asg rfl ?_
    refine asg rfl ?_
    refine rN ?_
    refine qN ?_
    refine cE ?_
    refine qE ?_
    refine kE2 rfl rfl rfl rfl rfl  ?_
    first | (exfalso; contradiction) | exact ⟨_, ⟨_, ResI.no (by first | (rw [htB, c1]; rfl) | (rw [htB, c1, c2]; rfl)), rfl⟩, (by (try simp only [List.cons_append, List.nil_append, List.append_assoc]); repeat' first | with_reducible apply eR | with_reducible apply eA | ((with_reducible apply xA); · repeat first | with_reducible apply lH | with_reducible apply lT | with_reducible apply lL) | ((with_reducible apply xC); · repeat first | apply pH | with_reducible apply pT | with_reducible apply pL) | with_reducible assumption | with_reducible apply eS | with_reducible apply eL | exact eR)⟩ | (exfalso; first | contradiction | omega | (simp_all; done) | (simp_all; omega))
  replace c1 := not_f c1
  have c1' := c1; try simp only [inB_iff, Bool.and_eq_true, decide_eq_true_eq, decide_eq_false_iff_not, beq_iff_eq, beq_eq_false_iff_ne, bne_iff_ne, bne_eq_false_iff_eq, ne_eq] at c1'
  refine gG rfl rfl (bnot_t c1) ?_
  refine mv rfl ?_
  refine gG rfl rfl (bnot_t c1) ?_
  refine mv rfl ?_
  refine gG rfl rfl (bnot_t c1) ?_
  refine rCq rfl (c_arePaths _ _ _ _ _ _ (by (first | with_reducible assumption | (apply RdP.mono; (· with_reducible assumption); · (try simp only [List.cons_append, List.nil_append, List.append_assoc]); repeat' first | with_reducible apply eR | with_reducible apply eA | ((with_reducible apply xA); · repeat first | with_reducible apply lH | with_reducible apply lT | with_reducible apply lL) | ((with_reducible apply xC); · repeat first | apply pH | with_reducible apply pT | with_reducible apply pL) | with_reducible assumption | with_reducible apply eS | with_reducible apply eL | exact eR) | (apply RdP.mono; (· (apply OwP.rdP; with_reducible assumption)); · (try simp only [List.cons_append, List.nil_append, List.append_assoc]); repeat' first | with_reducible apply eR | with_reducible apply eA | ((with_reducible apply xA); · repeat first | with_reducible apply lH | with_reducible apply lT | with_reducible apply lL) | ((with_reducible apply xC); · repeat first | apply pH | with_reducible apply pT | with_reducible apply pL) | with_reducible assumption | with_reducible apply eS | with_reducible apply eL | exact eR))) (by first | with_reducible assumption | omega | (simp only [Bool.and_eq_true, inB_iff] at *; omega))) ?_
  refine gG rfl rfl (bnot_t c1) ?_
  refine uNot rfl ?_
  refine kF rfl (bnot_t c1) rfl ?_
  refine rN ?_
  refine qN ?_
  refine cC rfl (fun c2 => ?_) (fun c2 => ?_)
  · replace c2 := not_t c2
    have c2' := c2; try simp only [inB_iff, Bool.and_eq_true, decide_eq_true_eq, decide_eq_false_iff_not, beq_iff_eq, beq_eq_false_iff_ne, bne_iff_ne, bne_eq_false_iff_eq, ne_eq] at c2'
    refine cS (cR ?_)
    refine asg rfl ?_
    refine asg rfl ?_
    refine rN ?_
    refine qN ?_
    refine cE ?_
    refine qE ?_
    refine kE2 rfl rfl rfl rfl rfl  ?_
    first | (exfalso; contradiction) | exact ⟨_, ⟨_, ResI.no (by first | (rw [htB, c1]; rfl) | (rw [htB, c1, c2]; rfl)), rfl⟩, (by (try simp only [List.cons_append, List.nil_append, List.append_assoc]); repeat' first | with_reducible apply eR | with_reducible apply eA | ((with_reducible apply xA); · repeat first | with_reducible apply lH | with_reducible apply lT | with_reducible apply lL) | ((with_reducible apply xC); · repeat first | apply pH | with_reducible apply pT | with_reducible apply pL) | with_reducible assumption | with_reducible apply eS | with_reducible apply eL | exact eR)⟩ | (exfalso; first | contradiction | omega | (simp_all; done) | (simp_all; omega))
  replace c2 := not_f c2
  have c2' := c2; try simp only [inB_iff, Bool.and_eq_true, decide_eq_true_eq, decide_eq_false_iff_not, beq_iff_eq, beq_eq_false_iff_ne, bne_iff_ne, bne_eq_false_iff_eq, ne_eq] at c2'
  refine cK ?_
  refine qN ?_
  refine cS (cR ?_)
  refine mv rfl ?_
  refine mv rfl ?_
  have hs := szB_iff.1 (show szB w d = true by assumption)
  have hmb := mul_bd hs
  obtain ⟨m, hk⟩ := Int.eq_ofNat_of_zero_le (show 0 ≤ w * d by omega)
  have hk2 : (w * d).toNat = m := by omega
  refine rMl rfl rfl (by omega) (by omega) ?_
  rw [hk]
  refine mkI0 rfl rfl (by omega) (by omega) ?_
  intro bkm lkm howm
  refine asg rfl ?_
  refine rN ?_
  refine qN ?_
  refine cS ?_
  refine cS (cR ?_)
  refine mv rfl ?_
  refine ln rfl ?_
  refine mv rfl ?_
  refine rN ?_
  refine qN ?_
  refine cB ?_
  obtain ⟨parts, rfl⟩ := Int.eq_ofNat_of_zero_le (show 0 ≤ parts by have := (inB_iff.1 (Bool.and_eq_true_iff.1 c2).2); omega)
  have hpa : parts ≤ 256 := by have := (inB_iff.1 (Bool.and_eq_true_iff.1 c2).2); omega
  have cq := (Bool.and_eq_true_iff.1 c2).1
  rw [Int.toNat_natCast]
  refine cL2 (fun (i : Nat) (L : Mem) => [(33, .int .i64 (i : Nat))]) [(0, _), (1, _), (3, _), (10, _), (31, _), (32, _)] (fun (i : Nat) (L : Mem) => L ++ M) (fun (i : Nat) (L : Mem) => ps.length - i) (fun (i : Nat) (L : Mem) => i ≤ ps.length ∧ OwI L (.slice (some ⟨bkm, 0, none⟩) m m) (hiF w d ps parts i)) (0) (lkm) (by repeat first | exact Sub.nil _ | refine Sub.cons rfl ?_) (by (try simp only [List.cons_append, List.nil_append, List.append_assoc]); repeat' first | with_reducible apply eR | with_reducible apply eA | ((with_reducible apply xA); · repeat first | with_reducible apply lH | with_reducible apply lT | with_reducible apply lL) | ((with_reducible apply xC); · repeat first | apply pH | with_reducible apply pT | with_reducible apply pL) | with_reducible assumption | with_reducible apply eS | with_reducible apply eL | exact eR) (by exact ⟨Nat.zero_le _, by rw [hiF, hk2]; exact howm⟩) ?_
  rintro i L ⟨hi, hz⟩
  refine wT (T' := [(33, _), (0, _), (1, _), (3, _), (10, _), (31, _), (32, _)]) rfl ?_
  refine cS (cR ?_)
  refine bLss rfl rfl ?_
  refine rN ?_
  refine qN ?_
  refine cS ?_
  have hpl := ppB_len cq
  refine cC rfl (fun c3 => ?_) (fun c3 => ?_)
  · have c3' := c3; try simp only [inB_iff, Bool.and_eq_true, decide_eq_true_eq, decide_eq_false_iff_not, beq_iff_eq, beq_eq_false_iff_ne, bne_iff_ne, bne_eq_false_iff_eq, ne_eq] at c3'
    have hi2 : i < ps.length := by omega
    have hpi := ppB_atH cq hi2
    have hle := hiF_le w d ps parts i
    have hhl := hiF_len w d ps parts i
    rw [hk2] at hhl
    have hcl := ceL_in (p := ps.getD i zP) (parts := parts) hs parts
    rw [hk] at hcl
    have hll := ceL_len (w := w) (d := d) (p := ps.getD i zP) (parts := parts) parts
    refine cK ?_
    refine qN ?_
    refine cS ?_
    refine cB ?_
    refine cS (cR ?_)
    first
      | refine ixP rfl rfl (by first | (apply RdP.aok; with_reducible assumption) | exact AOk.own) (by first | with_reducible assumption | omega) ?_
      | refine ixR rfl rfl (by first | (apply RdR.aok; with_reducible assumption) | exact AOk.own) (by first | with_reducible assumption | omega) ?_
    first | refine ldP rfl (by (first | with_reducible assumption | (apply RdP.mono; (· with_reducible assumption); · (try simp only [List.cons_append, List.nil_append, List.append_assoc]); repeat' first | with_reducible apply eR | with_reducible apply eA | ((with_reducible apply xA); · repeat first | with_reducible apply lH | with_reducible apply lT | with_reducible apply lL) | ((with_reducible apply xC); · repeat first | apply pH | with_reducible apply pT | with_reducible apply pL) | with_reducible assumption | with_reducible apply eS | with_reducible apply eL | exact eR) | (apply RdP.mono; (· (apply OwP.rdP; with_reducible assumption)); · (try simp only [List.cons_append, List.nil_append, List.append_assoc]); repeat' first | with_reducible apply eR | with_reducible apply eA | ((with_reducible apply xA); · repeat first | with_reducible apply lH | with_reducible apply lT | with_reducible apply lL) | ((with_reducible apply xC); · repeat first | apply pH | with_reducible apply pT | with_reducible apply pL) | with_reducible assumption | with_reducible apply eS | with_reducible apply eL | exact eR))) (by first | with_reducible assumption | omega) ?_ | (refine ldR rfl (by (first | with_reducible assumption | (apply RdR.mono; (· with_reducible assumption); · (try simp only [List.cons_append, List.nil_append, List.append_assoc]); repeat' first | with_reducible apply eR | with_reducible apply eA | ((with_reducible apply xA); · repeat first | with_reducible apply lH | with_reducible apply lT | with_reducible apply lL) | ((with_reducible apply xC); · repeat first | apply pH | with_reducible apply pT | with_reducible apply pL) | with_reducible assumption | with_reducible apply eS | with_reducible apply eL | exact eR) | (apply RdR.mono; (· (apply OwR.rdR; with_reducible assumption)); · (try simp only [List.cons_append, List.nil_append, List.append_assoc]); repeat' first | with_reducible apply eR | with_reducible apply eA | ((with_reducible apply xA); · repeat first | with_reducible apply lH | with_reducible apply lT | with_reducible apply lL) | ((with_reducible apply xC); · repeat first | apply pH | with_reducible apply pT | with_reducible apply pL) | with_reducible assumption | with_reducible apply eS | with_reducible apply eL | exact eR))) (by first | with_reducible assumption | omega) ?_; intro aRr cRr hRr)
    refine rO ?_; intro bk1
    refine tA rfl rfl rfl (by repeat first | apply pH | with_reducible apply pT | with_reducible apply pL) (by rfl) (by rfl) ?_
    refine rN ?_
    refine qN ?_
    refine cS (cR ?_)
    refine rLA rfl (by repeat first | with_reducible assumption | with_reducible apply List.mem_cons_self | with_reducible apply List.mem_cons_of_mem | with_reducible apply List.mem_append_right | exact List.Mem.head _) rfl rfl ?_
    refine mv rfl ?_
    refine mv rfl ?_
    refine mv rfl ?_
    refine rC rfl (c_cells _ _ (ps.getD i zP) _ _ hs hpi hpa) ?_
    rintro _ _ ⟨lk9, sl9, rfl, how9, rfl⟩
    obtain ⟨ad9, cn9, rfl, hrd9⟩ := how9.rd
    have hcn9 := how9.capl
    refine ⟨fun _ => eL eR, ?_⟩
    refine mv rfl ?_
    refine xt rfl rfl rfl ?_
    refine xt rfl rfl rfl ?_
    refine asg rfl ?_
    refine asg rfl ?_
    refine rN ?_
    refine qN ?_
    refine cS (cR ?_)
    refine mv rfl ?_
    refine rC rfl (c_values _ _ _ _) ?_
    rintro _ _ ⟨bkv, rfl, rfl⟩
    refine ⟨fun _ => eL eR, ?_⟩
    refine rC rfl (c_sortedI bkv _ _ _ (ceL w d (ps.getD i zP) parts parts) _ (List.Mem.head _) (hrd9.mono (by (try simp only [List.cons_append, List.nil_append, List.append_assoc]); repeat' first | with_reducible apply eR | with_reducible apply eA | ((with_reducible apply xA); · repeat first | with_reducible apply lH | with_reducible apply lT | with_reducible apply lL) | ((with_reducible apply xC); · repeat first | apply pH | with_reducible apply pT | with_reducible apply pL) | with_reducible assumption | with_reducible apply eS | with_reducible apply eL | exact eR)) (by omega)) ?_
    rintro _ _ ⟨lk8, how8, rfl⟩
    obtain ⟨ad8, cn8, rfl, hrd8⟩ := how8.rd
    have hcn8 := how8.capl
    refine ⟨fun _ => eL eR, ?_⟩
    refine rC rfl (c_compactI _ _ _ _ lk8 _ how8 (by rw [List.length_mergeSort]; omega)) ?_
    rintro _ _ ⟨lk7, how7, rfl⟩
    obtain ⟨ad7, cn7, rfl, hrd7⟩ := how7.rd
    have hcn7 := how7.capl
    refine ⟨nofun, ?_⟩
    obtain ⟨ds, hds⟩ : ∃ ds, ds = cmS (ceL w d (ps.getD i zP) parts parts) := ⟨_, rfl⟩
    have hdl := cmS_len (ceL w d (ps.getD i zP) parts parts)
    have hdp := cmS_lt (ceL w d (ps.getD i zP) parts parts)
    have hdm := fun x => cmS_mem (cs := ceL w d (ps.getD i zP) parts parts) (x := x)
    rw [← hds] at hdl hdp hdm
    have hds2 := hds.symm
    unfold cmS at hds2
    rw [hds2] at hrd7 how7 ⊢
    refine ln rfl ?_
    refine mv rfl ?_
    refine rN ?_
    refine qN ?_
    refine cB ?_
    refine cL2 (fun (j : Nat) (L2 : Mem) => [(50, .int .i64 (j : Nat))]) [(0, _), (1, _), (3, _), (10, _), (31, _), (32, _), (33, _), (48, _), (49, _)] (fun (j : Nat) (L2 : Mem) => lk7 ++ (L2 ++ M)) (fun (j : Nat) (L2 : Mem) => ds.length - j) (fun (j : Nat) (L2 : Mem) => j ≤ ds.length ∧ OwI L2 (.slice (some ⟨bkm, 0, none⟩) m m) (adS (hiF w d ps parts i) (ds.take j))) (0) (L) (by repeat first | exact Sub.nil _ | refine Sub.cons rfl ?_) (by (try simp only [List.cons_append, List.nil_append, List.append_assoc]); repeat' first | with_reducible apply eR | with_reducible apply eA | ((with_reducible apply xA); · repeat first | with_reducible apply lH | with_reducible apply lT | with_reducible apply lL) | ((with_reducible apply xC); · repeat first | apply pH | with_reducible apply pT | with_reducible apply pL) | with_reducible assumption | with_reducible apply eS | with_reducible apply eL | exact eR) (by exact ⟨Nat.zero_le _, by rw [List.take_zero, adS_nil]; exact hz⟩) ?_
    rintro j L2 ⟨hj, hO⟩
    refine wT (T' := [(50, _), (0, _), (1, _), (3, _), (10, _), (31, _), (32, _), (33, _), (48, _), (49, _)]) rfl ?_
    refine cS (cR ?_)
    refine bLss rfl rfl ?_
    refine rN ?_
    refine qN ?_
    refine cS ?_
    refine cC rfl (fun c4 => ?_) (fun c4 => ?_)
    · have c4' := c4; try simp only [inB_iff, Bool.and_eq_true, decide_eq_true_eq, decide_eq_false_iff_not, beq_iff_eq, beq_eq_false_iff_ne, bne_iff_ne, bne_eq_false_iff_eq, ne_eq] at c4'
      have hj2 : j < ds.length := by omega
      have hcj := hcl (ds.getD j 0) ((hdm _).1 (by simp [List.getD, hj2]))
      have hnt := not_take hdp hj2
      have hb := adS_le (cs := ds.take j) hle (ds.getD j 0).toNat (by omega)
      refine cK ?_
      refine qN ?_
      refine cS ?_
      refine cB ?_
      refine cS (cR ?_)
      refine ixN rfl rfl hrd7.aok (by omega) ?_
      refine ldI rfl (hrd7.mono (by (try simp only [List.cons_append, List.nil_append, List.append_assoc]); repeat' first | with_reducible apply eR | with_reducible apply eA | ((with_reducible apply xA); · repeat first | with_reducible apply lH | with_reducible apply lT | with_reducible apply lL) | ((with_reducible apply xC); · repeat first | apply pH | with_reducible apply pT | with_reducible apply pL) | with_reducible assumption | with_reducible apply eS | with_reducible apply eL | exact eR)) (by omega) ?_
      refine asg rfl ?_
      refine rN ?_
      refine qN ?_
      refine cR ?_
      refine mv rfl ?_
      refine mv rfl ?_
      refine ixI rfl rfl hO.rdI.aok (by omega) (by omega) ?_
      refine ldI rfl (hO.rdI.mono (by (try simp only [List.cons_append, List.nil_append, List.append_assoc]); repeat' first | with_reducible apply eR | with_reducible apply eA | ((with_reducible apply xA); · repeat first | with_reducible apply lH | with_reducible apply lT | with_reducible apply lL) | ((with_reducible apply xC); · repeat first | apply pH | with_reducible apply pT | with_reducible apply pL) | with_reducible assumption | with_reducible apply eS | with_reducible apply eL | exact eR)) (by omega) ?_
      first | refine rAn (b := 1) rfl rfl (by omega) ?_ | refine rA rfl rfl (by omega) (by omega) ?_ | refine bAdd rfl rfl ?_
      refine ixI rfl rfl hO.rdI.aok (by omega) (by omega) ?_
      (refine tI rfl rfl (by with_reducible assumption) (by repeat first | with_reducible apply lH | with_reducible apply lT | with_reducible apply lL) (by first | with_reducible assumption | omega) ?_; intro lk2 how2)
      refine rN ?_
      refine qBN ?_
      refine qN ?_
      refine cR ?_
      first | refine rAn (b := 1) rfl rfl (by omega) ?_ | refine rA rfl rfl (by omega) (by omega) ?_ | refine bAdd rfl rfl ?_
      refine mv rfl ?_
      refine rN ?_
      refine qL2 (j + 1) (_) ?_ (by omega) (by repeat first | exact Sub.nil _ | refine Sub.cons rfl ?_) (by (try simp only [List.cons_append, List.nil_append, List.append_assoc]); repeat' first | with_reducible apply eR | with_reducible apply eA | ((with_reducible apply xA); · repeat first | with_reducible apply lH | with_reducible apply lT | with_reducible apply lL) | ((with_reducible apply xC); · repeat first | apply pH | with_reducible apply pT | with_reducible apply pL) | with_reducible assumption | with_reducible apply eS | with_reducible apply eL | exact eR)
      exact ⟨by omega, by rw [take_getD hj2, ← adS_new hnt (by omega) (by omega)]; assumption⟩
    · have c4' := c4; try simp only [inB_iff, Bool.and_eq_true, decide_eq_true_eq, decide_eq_false_iff_not, beq_iff_eq, beq_eq_false_iff_ne, bne_iff_ne, bne_eq_false_iff_eq, ne_eq] at c4'
      have : j = ds.length := by omega
      subst this
      rw [List.take_length, adS_congr hdm] at hO
      refine cX ?_
      refine qX ?_
      refine qL2X ?_
      refine qBX ?_
      refine qBN ?_
      refine qN ?_
      refine cR ?_
      first | refine rAn (b := 1) rfl rfl (by omega) ?_ | refine rA rfl rfl (by omega) (by omega) ?_ | refine bAdd rfl rfl ?_
      refine mv rfl ?_
      refine rN ?_
      refine qL2 (i + 1) (L2) ?_ (by omega) (by repeat first | exact Sub.nil _ | refine Sub.cons rfl ?_) (by (try simp only [List.cons_append, List.nil_append, List.append_assoc]); repeat' first | with_reducible apply eR | with_reducible apply eA | ((with_reducible apply xA); · repeat first | with_reducible apply lH | with_reducible apply lT | with_reducible apply lL) | ((with_reducible apply xC); · repeat first | apply pH | with_reducible apply pT | with_reducible apply pL) | with_reducible assumption | with_reducible apply eS | with_reducible apply eL | exact eR)
      exact ⟨by omega, by rw [hiF]; exact hO⟩
  · have c3' := c3; try simp only [inB_iff, Bool.and_eq_true, decide_eq_true_eq, decide_eq_false_iff_not, beq_iff_eq, beq_eq_false_iff_ne, bne_iff_ne, bne_eq_false_iff_eq, ne_eq] at c3'
    have : i = ps.length := by omega
    subst this
    refine cX ?_
    refine qX ?_
    refine qL2X ?_
    refine qBX ?_
    refine qN ?_
    refine cS (cR ?_)
    refine mv rfl ?_
    refine asg rfl ?_
    refine asg rfl ?_
    refine rN ?_
    refine qN ?_
    refine cE ?_
    refine kE2 rfl rfl rfl rfl rfl  ?_
    first | (exfalso; contradiction) | exact ⟨_, ⟨_, ResI.yes (by rw [htB, c1, c2]; rfl) hz, rfl⟩, (by (try simp only [List.cons_append, List.nil_append, List.append_assoc]); repeat' first | with_reducible apply eR | with_reducible apply eA | ((with_reducible apply xA); · repeat first | with_reducible apply lH | with_reducible apply lT | with_reducible apply lL) | ((with_reducible apply xC); · repeat first | apply pH | with_reducible apply pT | with_reducible apply pL) | with_reducible assumption | with_reducible apply eS | with_reducible apply eL | exact eR)⟩ | (exfalso; first | contradiction | omega | (simp_all; done) | (simp_all; omega))
end Go.Proofs.Ytkbpdgacfeachaa.Ab
