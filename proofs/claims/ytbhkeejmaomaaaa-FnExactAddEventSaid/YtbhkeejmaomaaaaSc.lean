/-
  Walks: the strongest cell of a section, sections of one value.
-/
import Derived.Test.YtbhkeejmaomaaaaSo
import Derived.Test.YtbhkeejmaomaaaaBe
import Derived.Test.YtbhkeejmaomaaaaBi
namespace Go.Proofs.Ytbhkeejmaomaaaa.Ab
open Go Go.RowKit
attribute [local irreducible] Run Then InBlock LoopQ LQ1 LQ2 LQ3 LQ4 LQ5 LQ6 AWp Ret ACall
set_option linter.unusedVariables false
set_option linter.unusedSimpArgs false

-- @own impl.sizes : c_sizes _ _ _ _ _ @RD@ @BD@
theorem c_sizes (a : Option Addr) (n c : Nat) (xs : List Nat) (M : Mem) (h : RdF M a n xs) (hn : n ≤ 1073741824) :
    ACall Try.prog 73 [.slice a n c] M fun v M' => ∃ L, OwF L v (tab n fun i => absF (xs.getD i 0)) ∧ M' = L ++ M := by
  obtain ⟨rfl, _⟩ := id h
  refine acall_of_awp Try.func73 rfl Try.ntmps73 rfl ?_
  refine cS (cR ?_)
  refine asg rfl ?_
  refine rN ?_
  refine qN ?_
  refine cS (cR ?_)
  refine asg rfl ?_
  refine rN ?_
  refine qN ?_
  refine cS ?_
  refine cS (cR ?_)
  refine mv rfl ?_
  refine ln rfl ?_
  refine mv rfl ?_
  refine rN ?_
  refine qN ?_
  refine cB ?_
  refine cL3 (fun (k : Nat) (s : Value) (L : Mem) => [(8, .int .i64 (k : Nat)), (3, s)]) [(6, _), (7, _)] (fun (k : Nat) (s : Value) (L : Mem) => L ++ M) (fun (k : Nat) (s : Value) (L : Mem) => xs.length - k) (fun (k : Nat) (s : Value) (L : Mem) => k ≤ xs.length ∧ OwF L s (tab k fun i => absF (xs.getD i 0))) (0) (_) ([]) (by repeat first | exact Sub.nil _ | refine Sub.cons rfl ?_) (by (try simp only [List.cons_append, List.nil_append, List.append_assoc]); repeat' first | with_reducible apply eR | with_reducible apply eA | ((with_reducible apply xA); · repeat first | with_reducible apply lH | with_reducible apply lT | with_reducible apply lL) | ((with_reducible apply xC); · repeat first | apply pH | with_reducible apply pT | with_reducible apply pL) | with_reducible assumption | with_reducible apply eS | with_reducible apply eL | exact eR) (by exact ⟨Nat.zero_le _, OwF.nil⟩) ?_
  rintro k s L ⟨hk, hz⟩
  refine wT (T' := [(8, _), (3, _), (6, _), (7, _)]) rfl ?_
  refine cS (cR ?_)
  refine bLss rfl rfl ?_
  refine rN ?_
  refine qN ?_
  refine cS ?_
  have hzl := hz.rd
  refine cC rfl (fun c1 => ?_) (fun c1 => ?_)
  · have c1' := c1; try simp only [inB_iff, Bool.and_eq_true, decide_eq_true_eq, decide_eq_false_iff_not, beq_iff_eq, beq_eq_false_iff_ne, bne_iff_ne, bne_eq_false_iff_eq, ne_eq] at c1'
    refine cK ?_
    refine qN ?_
    refine cS ?_
    refine cB ?_
    refine cS (cR ?_)
    first
      | refine ixN rfl rfl (by first | exact AOk.own | (apply RdD.aok; with_reducible assumption) | (apply RdD.aok; apply OwD.rdD; with_reducible assumption) | (apply RdI.aok; with_reducible assumption) | (apply RdW.aok; with_reducible assumption) | (apply RdI.aok; apply OwI.rdI; with_reducible assumption) | with_reducible assumption | (apply RdF.aok; with_reducible assumption) | (apply RdF.aok; apply OwF.rdF; with_reducible assumption)) (by first | with_reducible assumption | omega) ?_
      | refine ixI rfl rfl (by first | exact AOk.own | (apply RdD.aok; with_reducible assumption) | (apply RdD.aok; apply OwD.rdD; with_reducible assumption) | (apply RdI.aok; with_reducible assumption) | (apply RdW.aok; with_reducible assumption) | (apply RdI.aok; apply OwI.rdI; with_reducible assumption) | with_reducible assumption | (apply RdF.aok; with_reducible assumption) | (apply RdF.aok; apply OwF.rdF; with_reducible assumption)) (by omega) (by omega) ?_
    refine ldF rfl (by first | with_reducible assumption | ((try first | with_reducible apply RdF.sub | with_reducible apply RdF.sub0) <;> first | with_reducible assumption | (apply RdF.mono; (· (with_reducible assumption)); · (try simp only [List.cons_append, List.nil_append, List.append_assoc]); repeat' first | with_reducible apply eR | with_reducible apply eA | ((with_reducible apply xA); · repeat first | with_reducible apply lH | with_reducible apply lT | with_reducible apply lL) | ((with_reducible apply xC); · repeat first | apply pH | with_reducible apply pT | with_reducible apply pL) | with_reducible assumption | with_reducible apply eS | with_reducible apply eL | exact eR) | (apply RdF.mono; (· (apply OwF.rdF; with_reducible assumption)); · (try simp only [List.cons_append, List.nil_append, List.append_assoc]); repeat' first | with_reducible apply eR | with_reducible apply eA | ((with_reducible apply xA); · repeat first | with_reducible apply lH | with_reducible apply lT | with_reducible apply lL) | ((with_reducible apply xC); · repeat first | apply pH | with_reducible apply pT | with_reducible apply pL) | with_reducible assumption | with_reducible apply eS | with_reducible apply eL | exact eR) | (apply RdF.ownm; (· repeat first | with_reducible assumption | with_reducible apply List.mem_cons_self | with_reducible apply List.mem_cons_of_mem | with_reducible apply List.mem_append_right | exact List.Mem.head _); · first | rfl | with_reducible assumption | omega | simp [*]) | with_reducible assumption | omega | (simp; done) | (simp; omega) | (simp only [Bool.and_eq_true, inB_iff] at *; omega))) (by first | with_reducible assumption | omega) ?_
    refine asg rfl ?_
    refine rN ?_
    refine qN ?_
    refine cR ?_
    refine mv rfl ?_
    refine mv rfl ?_
    refine rCq rfl (c_absolute _ _) ?_
    refine apFp (by intro _ h; cases h <;> rfl) rfl (fun _ => rfl) rfl (by with_reducible assumption) (by repeat first | with_reducible apply pmH | with_reducible apply pmT | with_reducible apply pmL) (by first | omega | (simp only [tab_len, List.length_append, List.length_map, List.length_range, List.length_replicate, List.length_cons, List.length_nil]; omega) | (simp; omega)) (by first | omega | (simp only [tab_len, List.length_append, List.length_map, List.length_range, List.length_replicate, List.length_cons, List.length_nil]; omega) | (simp; omega)) ?_
    intro bk1 sv1 lk1 how1; have hln1 := how1.len1; obtain ⟨ad1, cn1, rfl, hrd1⟩ := how1.rd
    have hcn1 := how1.capl
    refine asg rfl ?_
    refine rN ?_
    refine qBN ?_
    refine qN ?_
    refine cR ?_
    first | refine rAn (b := 1) rfl rfl (by omega) ?_ | refine rA rfl rfl (by omega) (by omega) ?_ | refine bAdd rfl rfl ?_
    refine mv rfl ?_
    refine rN ?_
    refine qL3 (k + 1) (_) (_) ?_ (by omega) (by repeat first | exact Sub.nil _ | refine Sub.cons rfl ?_) (by (try simp only [List.cons_append, List.nil_append, List.append_assoc]); repeat' first | with_reducible apply eR | with_reducible apply eA | ((with_reducible apply xA); · repeat first | with_reducible apply lH | with_reducible apply lT | with_reducible apply lL) | ((with_reducible apply xC); · repeat first | apply pH | with_reducible apply pT | with_reducible apply pL) | with_reducible assumption | with_reducible apply eS | with_reducible apply eL | exact eR)
    refine ⟨by omega, ?_⟩
    rw [tab_succ]
    exact how1
  · have c1' := c1; try simp only [inB_iff, Bool.and_eq_true, decide_eq_true_eq, decide_eq_false_iff_not, beq_iff_eq, beq_eq_false_iff_ne, bne_iff_ne, bne_eq_false_iff_eq, ne_eq] at c1'
    refine cX ?_
    refine qX ?_
    refine qL3X ?_
    refine qBX ?_
    refine qN ?_
    refine cS (cR ?_)
    refine mv rfl ?_
    refine asg rfl ?_
    refine rN ?_
    refine qN ?_
    refine cE ?_
    have : k = xs.length := by omega
    subst this
    refine kE rfl rfl  ?_
    first | (exfalso; contradiction) | exact ⟨_, ⟨_, hz, rfl⟩, (by (try simp only [List.cons_append, List.nil_append, List.append_assoc]); repeat' first | with_reducible apply eR | with_reducible apply eA | ((with_reducible apply xA); · repeat first | with_reducible apply lH | with_reducible apply lT | with_reducible apply lL) | ((with_reducible apply xC); · repeat first | apply pH | with_reducible apply pT | with_reducible apply pL) | with_reducible assumption | with_reducible apply eS | with_reducible apply eL | exact eR)⟩ | (exfalso; first | contradiction | omega | (simp_all; done) | (simp_all; omega))

/-- the best of sizes -/
def bsz (xs : List Nat) : Nat → Int := bst (tab xs.length fun i => absF (xs.getD i 0))
def scR (w d : Int) (xs : List Nat) : Value :=
  if vsB w d xs.length = true ∧ 0 ≤ bsz xs xs.length then .tuple #[.int .i64 (bsz xs xs.length % w), .int .i64 (bsz xs xs.length / w), .float .f32 (xs.getD (bsz xs xs.length).toNat 0), .bool true] else .tuple #[.int .i64 0, .int .i64 0, .float .f32 0, .bool false]
theorem eql_absF (x : Nat) : fcmp .eql .f32 (absF x) (absF x) = fcmp .eql .f32 x x := by
  rw [fcmp_eql_self, fcmp_eql_self]
  rcases word_cases .f32 x with h | ⟨s, h⟩ | ⟨a, h⟩
  · rw [h, (absF_nan h).1, nanB_qn]
  · have : nanB .f32 x = false := by unfold nanB; rw [h]; rfl
    rw [this, (absF_inf h).1]; decide
  · rw [sv_notnan h, sv_notnan (absF_num h).2.2]
theorem gtr_szF (x y : Nat) : fcmp .gtr .f32 (szF x) (szF y) = fcmp .gtr .f32 (absF x) (absF y) := fcmp_ordeq (szF_absF x) (szF_absF y)
theorem bsz_succ {xs : List Nat} {k : Nat} (hk : k < xs.length) : bsz xs (k + 1) = if fcmp .eql .f32 (xs.getD k 0) (xs.getD k 0) = true ∧ (bsz xs k < 0 ∨ fcmp .gtr .f32 (szF (xs.getD k 0)) (szF (xs.getD (bsz xs k).toNat 0)) = true) then (k : Int) else bsz xs k := by
  have hbd := bst_bd (tab xs.length fun i => absF (xs.getD i 0)) k
  show bst _ (k + 1) = _
  have e1 : (tab xs.length fun i => absF (xs.getD i 0)).getD k 0 = absF (xs.getD k 0) := tab_getD hk
  unfold bst
  rw [e1, eql_absF]
  have hb : bst (tab xs.length fun i => absF (xs.getD i 0)) k = bsz xs k := rfl
  rw [hb] at hbd ⊢
  cases he : fcmp .eql .f32 (xs.getD k 0) (xs.getD k 0) with
  | false =>
    have hg := gtr_nan (y := (tab xs.length fun i => absF (xs.getD i 0)).getD (bsz xs k).toNat 0) ((eql_absF (xs.getD k 0)).trans he)
    rw [hg]
    simp
  | true =>
    by_cases h0 : bsz xs k < 0
    · simp [h0]
    · have hp : 0 ≤ bsz xs k := by omega
      have e2 : (tab xs.length fun i => absF (xs.getD i 0)).getD (bsz xs k).toNat 0 = absF (xs.getD (bsz xs k).toNat 0) := tab_getD (by omega)
      rw [e2, gtr_szF]
      simp [h0, hp]

/-! ## sections of one value -/
theorem wrapU {z : Int} (h0 : 0 ≤ z) (h1 : z < 18446744073709551616) : IntKind.u64.wrap z = z := by
  unfold IntKind.wrap
  simp only [IntKind.signed, IntKind.bits, Bool.false_and, Bool.false_eq_true, if_false]
  omega
theorem rep_copy {v j k : Nat} (h1 : 1 ≤ j) (h2 : j ≤ k) : cpd (List.replicate j v ++ List.replicate (k - j) 0) ((List.replicate j v ++ List.replicate (k - j) 0).take j) j (min j (k - j)) = List.replicate (j + min j (k - j)) v ++ List.replicate (k - (j + min j (k - j))) 0 := by
  unfold cpd
  have e1 : (List.replicate j v ++ List.replicate (k - j) 0).take j = List.replicate j v := by
    rw [List.take_append_of_le_length (by simp), List.take_of_length_le (by simp)]
  have e2 : (List.replicate j v ++ List.replicate (k - j) 0).drop (j + min j (k - j)) = List.replicate (k - (j + min j (k - j))) 0 := by
    rw [List.drop_append, List.drop_replicate, List.drop_replicate, List.length_replicate]
    rw [show j - (j + min j (k - j)) = 0 from by omega, show k - j - (j + min j (k - j) - j) = k - (j + min j (k - j)) from by omega]
    rfl
  rw [e1, e2, List.take_replicate, List.replicate_append_replicate]
  rw [show min (min j (k - j)) j = min j (k - j) from by omega]
theorem RdF.head1 {b y : Nat} {M : Mem} : RdF ((b, ⟨[.float .f32 y], true⟩) :: M) (some ⟨b, 0, none⟩) 1 [y] := RdF.ownm (b := b) (xs := [y]) (rest := []) (List.Mem.head _) rfl
-- @own slices.Repeat[[]float32,float32] : c_repeat _ _ _ _ _ _ RdF.head1 (by first | rfl | assumption) (by omega)

-- @owns impl.flat : c_implflat _ _ _ _ (by assumption)
-- @owns spec.l06Flat : c_l06Flat _ _ _ (by assumption)
end Go.Proofs.Ytbhkeejmaomaaaa.Ab
