/-
  Walks: what sections send to traces, and gather from them.
-/
import Derived.Test.YtfjancbmecfjgaaPa
import Derived.Test.YtfjancbmecfjgaaSc
namespace Go.Proofs.Ytfjancbmecfjgaa.Ab
open Go Go.RowKit
/-- a region may be the last of a function -/
theorem fineR {P : Program} {fn : Func} {R : Value → Mem → Prop} : Fine (Ret P fn R) := by
  intro T T' M g h
  obtain ⟨v, M0, e, hr, k⟩ := h
  exact ⟨v, M0, e, fun n tmps w0 B w ht hs => hr n tmps w0 B w (ht.agree g.symm) hs, k⟩

attribute [local irreducible] Run Then InBlock LoopQ LQ1 LQ2 LQ3 LQ4 LQ5 LQ6 AWp Ret ACall
set_option linter.unusedVariables false
set_option linter.unusedSimpArgs false

/-! ## positive numbers -/
def poB (x : Nat) : Bool := finB x && fcmp .gtr .f32 x 0
theorem fin_leq {x : Nat} (h : finB x = true) : fcmp .leq .f32 x 0 = !fcmp .gtr .f32 x 0 := by
  have ho : ∃ o, FloatKind.f32.format.order x 0 = some o := by
    rcases word_cases .f32 x with h1 | ⟨s, h1⟩ | ⟨a, h1⟩
    · exfalso
      have e : fsub .f32 x x = qn .f32 := by
        show fop .sub .f32 x x = _
        unfold fop; rw [floatBits_nan_left h1]
      unfold finB at h
      rw [e] at h
      revert h; decide
    · exact ⟨_, order_inf_l h1 (sv_zero .f32)⟩
    · exact ⟨_, order_sv h1 (sv_zero .f32)⟩
  obtain ⟨o, ho⟩ := ho
  unfold fcmp
  simp only [ho]
  cases o <;> decide
-- @reg spec.l02Above : c_l02Above _ _
theorem c_l02Above (x : Nat) (M : Mem) : ACall Try.prog 45 [.float .f32 x] M fun v M' => v = .bool (poB x) ∧ M' = M := by
  unfold poB
  refine acall_of_awp Try.func45 rfl Try.ntmps45 rfl ?_
  refine cS (cR ?_)
  refine asg rfl ?_
  refine rN ?_
  refine qN ?_
  refine cS (cR ?_)
  refine mv rfl ?_
  refine rCq rfl (c_l01Finite _ _) ?_
  refine mv rfl ?_
  refine gC rfl rfl (fun c1 => ?_) (fun c1 => ?_)
  · have c1' := c1; try simp only [inB_iff, Bool.and_eq_true, decide_eq_true_eq, decide_eq_false_iff_not, beq_iff_eq, beq_eq_false_iff_ne, bne_iff_ne, bne_eq_false_iff_eq, ne_eq] at c1'
    refine gG rfl rfl c1 ?_
    refine mv rfl ?_
    refine gG rfl rfl c1 ?_
    refine fCm rfl rfl rfl ?_
    refine kT rfl c1 rfl ?_
    refine asg rfl ?_
    refine rN ?_
    refine qN ?_
    refine cE ?_
    refine kE rfl rfl  ?_
    first | (exfalso; contradiction) | exact ⟨_, ⟨rfl, rfl⟩, (by (try simp only [List.cons_append, List.nil_append, List.append_assoc]); repeat' first | with_reducible apply eR | with_reducible apply eA | ((with_reducible apply xA); · repeat first | with_reducible apply lH | with_reducible apply lT | with_reducible apply lL) | ((with_reducible apply xC); · repeat first | apply pH | with_reducible apply pT | with_reducible apply pL) | with_reducible assumption | with_reducible apply eS | with_reducible apply eL | exact eR)⟩ | exact ⟨_, ⟨by first | (simp_all; done) | (simp_all; intros; omega), rfl⟩, (by (try simp only [List.cons_append, List.nil_append, List.append_assoc]); repeat' first | with_reducible apply eR | with_reducible apply eA | ((with_reducible apply xA); · repeat first | with_reducible apply lH | with_reducible apply lT | with_reducible apply lL) | ((with_reducible apply xC); · repeat first | apply pH | with_reducible apply pT | with_reducible apply pL) | with_reducible assumption | with_reducible apply eS | with_reducible apply eL | exact eR)⟩ | (exfalso; first | contradiction | omega | (simp_all; done) | (simp_all; omega))
  · have c1' := c1; try simp only [inB_iff, Bool.and_eq_true, decide_eq_true_eq, decide_eq_false_iff_not, beq_iff_eq, beq_eq_false_iff_ne, bne_iff_ne, bne_eq_false_iff_eq, ne_eq] at c1'
    refine gS rfl rfl c1 ?_
    refine gS rfl rfl c1 ?_
    refine kF rfl c1 rfl ?_
    refine asg rfl ?_
    refine rN ?_
    refine qN ?_
    refine cE ?_
    refine kE rfl rfl  ?_
    first | (exfalso; contradiction) | exact ⟨_, ⟨rfl, rfl⟩, (by (try simp only [List.cons_append, List.nil_append, List.append_assoc]); repeat' first | with_reducible apply eR | with_reducible apply eA | ((with_reducible apply xA); · repeat first | with_reducible apply lH | with_reducible apply lT | with_reducible apply lL) | ((with_reducible apply xC); · repeat first | apply pH | with_reducible apply pT | with_reducible apply pL) | with_reducible assumption | with_reducible apply eS | with_reducible apply eL | exact eR)⟩ | exact ⟨_, ⟨by first | (simp_all; done) | (simp_all; intros; omega), rfl⟩, (by (try simp only [List.cons_append, List.nil_append, List.append_assoc]); repeat' first | with_reducible apply eR | with_reducible apply eA | ((with_reducible apply xA); · repeat first | with_reducible apply lH | with_reducible apply lT | with_reducible apply lL) | ((with_reducible apply xC); · repeat first | apply pH | with_reducible apply pT | with_reducible apply pL) | with_reducible assumption | with_reducible apply eS | with_reducible apply eL | exact eR)⟩ | (exfalso; first | contradiction | omega | (simp_all; done) | (simp_all; omega))
-- @reg impl.areFinite : c_areFinite _ _ _ _ _ @RD@ @BD@
theorem c_areFinite (a : Option Addr) (n c : Nat) (xs : List Nat) (M : Mem) (h : RdF M a n xs) (hn : n ≤ 1073741824) : ACall Try.prog 70 [.slice a n c] M fun v M' => v = .bool (!(xs.any fun x => !finB x)) ∧ M' = M := by
  obtain ⟨rfl, _⟩ := id h
  refine acall_of_awp Try.func70 rfl Try.ntmps70 rfl ?_
  refine cS (cR ?_)
  refine asg rfl ?_
  refine rN ?_
  refine qN ?_
  refine cS ?_
  refine cS (cR ?_)
  refine mv rfl ?_
  refine ln rfl ?_
  refine mv rfl ?_
  refine rN ?_
  refine qN ?_
  refine cB ?_
  refine cL1 (fun (k : Nat) => [(7, .int .i64 (k : Nat))]) [(5, _), (6, _)] (fun (k : Nat) => M) (fun (k : Nat) => xs.length - k) (fun (k : Nat) => k ≤ xs.length ∧ ∀ j, j < k → finB (xs.getD j 0) = true) (0) (by repeat first | exact Sub.nil _ | refine Sub.cons rfl ?_) (by (try simp only [List.cons_append, List.nil_append, List.append_assoc]); repeat' first | with_reducible apply eR | with_reducible apply eA | ((with_reducible apply xA); · repeat first | with_reducible apply lH | with_reducible apply lT | with_reducible apply lL) | ((with_reducible apply xC); · repeat first | apply pH | with_reducible apply pT | with_reducible apply pL) | with_reducible assumption | with_reducible apply eS | with_reducible apply eL | exact eR) (by exact ⟨Nat.zero_le _, fun j hj => by omega⟩) ?_
  rintro k ⟨hk, hj⟩
  refine wT (T' := [(7, _), (5, _), (6, _)]) rfl ?_
  refine cS (cR ?_)
  refine bLss rfl rfl ?_
  refine rN ?_
  refine qN ?_
  refine cS ?_
  refine cC rfl (fun c1 => ?_) (fun c1 => ?_)
  · have c1' := c1; try simp only [inB_iff, Bool.and_eq_true, decide_eq_true_eq, decide_eq_false_iff_not, beq_iff_eq, beq_eq_false_iff_ne, bne_iff_ne, bne_eq_false_iff_eq, ne_eq] at c1'
    refine cK ?_
    refine qN ?_
    refine cS ?_
    refine cB ?_
    refine cS (cR ?_)
    first
      | refine ixN rfl rfl (by first | (apply RdC.aok; with_reducible assumption) | exact AOk.own | (apply RdD.aok; with_reducible assumption) | (apply RdD.aok; apply OwD.rdD; with_reducible assumption) | (apply RdI.aok; with_reducible assumption) | (apply RdW.aok; with_reducible assumption) | (apply RdI.aok; apply OwI.rdI; with_reducible assumption) | with_reducible assumption | (apply RdF.aok; with_reducible assumption) | (apply RdF.aok; apply OwF.rdF; with_reducible assumption)) (by first | with_reducible assumption | omega) ?_
      | refine ixI rfl rfl (by first | (apply RdC.aok; with_reducible assumption) | exact AOk.own | (apply RdD.aok; with_reducible assumption) | (apply RdD.aok; apply OwD.rdD; with_reducible assumption) | (apply RdI.aok; with_reducible assumption) | (apply RdW.aok; with_reducible assumption) | (apply RdI.aok; apply OwI.rdI; with_reducible assumption) | with_reducible assumption | (apply RdF.aok; with_reducible assumption) | (apply RdF.aok; apply OwF.rdF; with_reducible assumption)) (by omega) (by omega) ?_
    refine ldF rfl (by first | with_reducible assumption | ((try first | with_reducible apply RdF.sub | with_reducible apply RdF.sub0) <;> first | with_reducible assumption | (apply RdF.mono; (· (with_reducible assumption)); · (try simp only [List.cons_append, List.nil_append, List.append_assoc]); repeat' first | with_reducible apply eR | with_reducible apply eA | ((with_reducible apply xA); · repeat first | with_reducible apply lH | with_reducible apply lT | with_reducible apply lL) | ((with_reducible apply xC); · repeat first | apply pH | with_reducible apply pT | with_reducible apply pL) | with_reducible assumption | with_reducible apply eS | with_reducible apply eL | exact eR) | (apply RdF.mono; (· (apply OwF.rdF; with_reducible assumption)); · (try simp only [List.cons_append, List.nil_append, List.append_assoc]); repeat' first | with_reducible apply eR | with_reducible apply eA | ((with_reducible apply xA); · repeat first | with_reducible apply lH | with_reducible apply lT | with_reducible apply lL) | ((with_reducible apply xC); · repeat first | apply pH | with_reducible apply pT | with_reducible apply pL) | with_reducible assumption | with_reducible apply eS | with_reducible apply eL | exact eR) | (apply RdF.ownm; (· repeat first | with_reducible assumption | with_reducible apply List.mem_cons_self | with_reducible apply List.mem_cons_of_mem | with_reducible apply List.mem_append_right | exact List.Mem.head _); · first | rfl | with_reducible assumption | omega | simp [*]) | with_reducible assumption | omega | (simp; done) | (simp; omega) | (simp only [Bool.and_eq_true, inB_iff] at *; omega))) (by first | with_reducible assumption | omega) ?_
    refine asg rfl ?_
    refine rN ?_
    refine qN ?_
    refine cS (cR ?_)
    refine mv rfl ?_
    refine rCq rfl (c_IsFinite _ _) ?_
    refine uNot rfl ?_
    refine rN ?_
    refine qN ?_
    refine cC rfl (fun c2 => ?_) (fun c2 => ?_)
    · replace c2 := not_t c2
      have c2' := c2; try simp only [inB_iff, Bool.and_eq_true, decide_eq_true_eq, decide_eq_false_iff_not, beq_iff_eq, beq_eq_false_iff_ne, bne_iff_ne, bne_eq_false_iff_eq, ne_eq] at c2'
      have hany : (xs.any fun x => !finB x) = true := List.any_eq_true.2 ⟨xs.getD k 0, by rw [List.getD_eq_getElem?_getD, List.getElem?_eq_getElem (by omega)]; exact List.getElem_mem _, by first | (rw [c2]; rfl) | (simpa using c2)⟩
      refine cS (cR ?_)
      refine asg rfl ?_
      refine rN ?_
      refine qN ?_
      refine cE ?_
      refine qBE ?_
      refine qE ?_
      refine qL1E ?_
      refine qBE ?_
      refine qE ?_
      refine kE rfl rfl  ?_
      first | (exfalso; contradiction) | exact ⟨_, ⟨by rw [hany]; rfl, rfl⟩, (by (try simp only [List.cons_append, List.nil_append, List.append_assoc]); repeat' first | with_reducible apply eR | with_reducible apply eA | ((with_reducible apply xA); · repeat first | with_reducible apply lH | with_reducible apply lT | with_reducible apply lL) | ((with_reducible apply xC); · repeat first | apply pH | with_reducible apply pT | with_reducible apply pL) | with_reducible assumption | with_reducible apply eS | with_reducible apply eL | exact eR)⟩ | (exfalso; first | contradiction | omega | (simp_all; done) | (simp_all; omega))
    · replace c2 := not_f c2
      have c2' := c2; try simp only [inB_iff, Bool.and_eq_true, decide_eq_true_eq, decide_eq_false_iff_not, beq_iff_eq, beq_eq_false_iff_ne, bne_iff_ne, bne_eq_false_iff_eq, ne_eq] at c2'
      refine cK ?_
      refine qBN ?_
      refine qN ?_
      refine cR ?_
      first | refine rAn (b := 1) rfl rfl (by omega) ?_ | refine rA rfl rfl (by omega) (by omega) ?_ | refine bAdd rfl rfl ?_
      refine mv rfl ?_
      refine rN ?_
      refine qL1 (k + 1) ?_ (by omega) (by repeat first | exact Sub.nil _ | refine Sub.cons rfl ?_) (by (try simp only [List.cons_append, List.nil_append, List.append_assoc]); repeat' first | with_reducible apply eR | with_reducible apply eA | ((with_reducible apply xA); · repeat first | with_reducible apply lH | with_reducible apply lT | with_reducible apply lL) | ((with_reducible apply xC); · repeat first | apply pH | with_reducible apply pT | with_reducible apply pL) | with_reducible assumption | with_reducible apply eS | with_reducible apply eL | exact eR)
      refine ⟨by omega, fun j hj2 => ?_⟩
      by_cases e : j = k
      · subst e; first | exact c2 | simpa using c2
      · exact hj j (by omega)
  · have c1' := c1; try simp only [inB_iff, Bool.and_eq_true, decide_eq_true_eq, decide_eq_false_iff_not, beq_iff_eq, beq_eq_false_iff_ne, bne_iff_ne, bne_eq_false_iff_eq, ne_eq] at c1'
    have hany : (xs.any fun x => !finB x) = false := List.any_eq_false.2 (fun x hx => by obtain ⟨j, hj2, rfl⟩ := List.getElem_of_mem hx; have := hj j (by omega); simp [hj2] at this; simp [this])
    refine cX ?_
    refine qX ?_
    refine qL1X ?_
    refine qBX ?_
    refine qN ?_
    refine cS (cR ?_)
    refine asg rfl ?_
    refine rN ?_
    refine qN ?_
    refine cE ?_
    refine kE rfl rfl  ?_
    first | (exfalso; contradiction) | exact ⟨_, ⟨by rw [hany]; rfl, rfl⟩, (by (try simp only [List.cons_append, List.nil_append, List.append_assoc]); repeat' first | with_reducible apply eR | with_reducible apply eA | ((with_reducible apply xA); · repeat first | with_reducible apply lH | with_reducible apply lT | with_reducible apply lL) | ((with_reducible apply xC); · repeat first | apply pH | with_reducible apply pT | with_reducible apply pL) | with_reducible assumption | with_reducible apply eS | with_reducible apply eL | exact eR)⟩ | (exfalso; first | contradiction | omega | (simp_all; done) | (simp_all; omega))
theorem c_arePositive1 (x : Nat) (M : Mem) : ACall Try.prog 74 [.float .f32 x] M fun v M' => v = .bool (fcmp .leq .f32 x 0) ∧ M' = M := by
  refine acall_of_awp Try.func74 rfl Try.ntmps74 rfl ?_
  refine cS (cR ?_)
  refine asg rfl ?_
  refine rN ?_
  refine qN ?_
  refine cS (cR ?_)
  refine mv rfl ?_
  refine fCm rfl rfl rfl ?_
  refine asg rfl ?_
  refine rN ?_
  refine qN ?_
  refine cE ?_
  refine kE rfl rfl  ?_
  first | (exfalso; contradiction) | exact ⟨_, ⟨rfl, rfl⟩, (by (try simp only [List.cons_append, List.nil_append, List.append_assoc]); repeat' first | with_reducible apply eR | with_reducible apply eA | ((with_reducible apply xA); · repeat first | with_reducible apply lH | with_reducible apply lT | with_reducible apply lL) | ((with_reducible apply xC); · repeat first | apply pH | with_reducible apply pT | with_reducible apply pL) | with_reducible assumption | with_reducible apply eS | with_reducible apply eL | exact eR)⟩ | exact ⟨_, ⟨by first | (simp_all; done) | (simp_all; intros; omega), rfl⟩, (by (try simp only [List.cons_append, List.nil_append, List.append_assoc]); repeat' first | with_reducible apply eR | with_reducible apply eA | ((with_reducible apply xA); · repeat first | with_reducible apply lH | with_reducible apply lT | with_reducible apply lL) | ((with_reducible apply xC); · repeat first | apply pH | with_reducible apply pT | with_reducible apply pL) | with_reducible assumption | with_reducible apply eS | with_reducible apply eL | exact eR)⟩ | (exfalso; first | contradiction | omega | (simp_all; done) | (simp_all; omega))
theorem c_arePositive (a : Option Addr) (n c : Nat) (xs : List Nat) (M : Mem) (h : RdF M a n xs) (hn : n ≤ 1073741824) : ACall Try.prog 38 [.slice a n c] M fun v M' => v = .bool (!(xs.any fun x => !poB x)) ∧ M' = M := by
  have key : (!(xs.any fun x => !poB x)) = ((!(xs.any fun x => !finB x)) && !(xs.any fun x => fcmp .leq .f32 x 0)) := by
    rw [← Bool.not_or]
    congr 1
    induction xs with
    | nil => rfl
    | cons x xs ih =>
      have hx : (!poB x) = (!finB x || fcmp .leq .f32 x 0) := by
        unfold poB
        cases hf : finB x with
        | false => rfl
        | true => rw [fin_leq hf]; cases fcmp .gtr .f32 x 0 <;> rfl
      have ih' : (xs.any fun x => !poB x) = ((xs.any fun x => !finB x) || xs.any fun x => fcmp .leq .f32 x 0) := by
        clear ih h
        induction xs with
        | nil => rfl
        | cons y ys ih2 =>
          have hy : (!poB y) = (!finB y || fcmp .leq .f32 y 0) := by
            unfold poB
            cases hf : finB y with
            | false => rfl
            | true => rw [fin_leq hf]; cases fcmp .gtr .f32 y 0 <;> rfl
          simp only [List.any_cons, hy, ih2]
          cases finB y <;> cases fcmp .leq .f32 y 0 <;> cases ys.any (fun x => !finB x) <;> simp
      simp only [List.any_cons, hx, ih']
      cases finB x <;> cases fcmp .leq .f32 x 0 <;> cases xs.any (fun x => !finB x) <;> simp
  rw [key]
  skip
  refine acall_of_awp Try.func38 rfl Try.ntmps38 rfl ?_
  refine cS (cR ?_)
  refine asg rfl ?_
  refine rN ?_
  refine qN ?_
  refine cS (cR ?_)
  refine mv rfl ?_
  refine rCq rfl (c_areFinite _ _ _ _ _ (by first | with_reducible assumption | ((try first | with_reducible apply RdF.sub | with_reducible apply RdF.sub0) <;> first | with_reducible assumption | (apply RdF.mono; (· (with_reducible assumption)); · (try simp only [List.cons_append, List.nil_append, List.append_assoc]); repeat' first | with_reducible apply eR | with_reducible apply eA | ((with_reducible apply xA); · repeat first | with_reducible apply lH | with_reducible apply lT | with_reducible apply lL) | ((with_reducible apply xC); · repeat first | apply pH | with_reducible apply pT | with_reducible apply pL) | with_reducible assumption | with_reducible apply eS | with_reducible apply eL | exact eR) | (apply RdF.mono; (· (apply OwF.rdF; with_reducible assumption)); · (try simp only [List.cons_append, List.nil_append, List.append_assoc]); repeat' first | with_reducible apply eR | with_reducible apply eA | ((with_reducible apply xA); · repeat first | with_reducible apply lH | with_reducible apply lT | with_reducible apply lL) | ((with_reducible apply xC); · repeat first | apply pH | with_reducible apply pT | with_reducible apply pL) | with_reducible assumption | with_reducible apply eS | with_reducible apply eL | exact eR) | (apply RdF.ownm; (· repeat first | with_reducible assumption | with_reducible apply List.mem_cons_self | with_reducible apply List.mem_cons_of_mem | with_reducible apply List.mem_append_right | exact List.Mem.head _); · first | rfl | with_reducible assumption | omega | simp [*]) | with_reducible assumption | omega | (simp; done) | (simp; omega) | (simp only [Bool.and_eq_true, inB_iff] at *; omega))) (by first | with_reducible assumption | omega | (simp only [Bool.and_eq_true, inB_iff] at *; omega))) ?_
  refine mv rfl ?_
  refine gC rfl rfl (fun c1 => ?_) (fun c1 => ?_)
  · have c1' := c1; try simp only [inB_iff, Bool.and_eq_true, decide_eq_true_eq, decide_eq_false_iff_not, beq_iff_eq, beq_eq_false_iff_ne, bne_iff_ne, bne_eq_false_iff_eq, ne_eq] at c1'
    refine gG rfl rfl c1 ?_
    refine mv rfl ?_
    refine gG rfl rfl c1 ?_
    refine rCq rfl (c_containsFunc _ (fun x => fcmp .leq .f32 x 0) c_arePositive1 _ _ _ _ _ (by first | with_reducible assumption | ((try first | with_reducible apply RdF.sub | with_reducible apply RdF.sub0) <;> first | with_reducible assumption | (apply RdF.mono; (· (with_reducible assumption)); · (try simp only [List.cons_append, List.nil_append, List.append_assoc]); repeat' first | with_reducible apply eR | with_reducible apply eA | ((with_reducible apply xA); · repeat first | with_reducible apply lH | with_reducible apply lT | with_reducible apply lL) | ((with_reducible apply xC); · repeat first | apply pH | with_reducible apply pT | with_reducible apply pL) | with_reducible assumption | with_reducible apply eS | with_reducible apply eL | exact eR) | (apply RdF.mono; (· (apply OwF.rdF; with_reducible assumption)); · (try simp only [List.cons_append, List.nil_append, List.append_assoc]); repeat' first | with_reducible apply eR | with_reducible apply eA | ((with_reducible apply xA); · repeat first | with_reducible apply lH | with_reducible apply lT | with_reducible apply lL) | ((with_reducible apply xC); · repeat first | apply pH | with_reducible apply pT | with_reducible apply pL) | with_reducible assumption | with_reducible apply eS | with_reducible apply eL | exact eR) | (apply RdF.ownm; (· repeat first | with_reducible assumption | with_reducible apply List.mem_cons_self | with_reducible apply List.mem_cons_of_mem | with_reducible apply List.mem_append_right | exact List.Mem.head _); · first | rfl | with_reducible assumption | omega | simp [*]) | with_reducible assumption | omega | (simp; done) | (simp; omega) | (simp only [Bool.and_eq_true, inB_iff] at *; omega))) (by first | with_reducible assumption | omega | (simp only [Bool.and_eq_true, inB_iff] at *; omega))) ?_
    refine gG rfl rfl c1 ?_
    refine uNot rfl ?_
    refine kT rfl c1 rfl ?_
    refine asg rfl ?_
    refine rN ?_
    refine qN ?_
    refine cE ?_
    refine kE rfl rfl  ?_
    first | (exfalso; contradiction) | exact ⟨_, ⟨by (simp only [*, Bool.true_and, Bool.and_true, Bool.false_and, Bool.and_false, Bool.or_false, Bool.false_or, Bool.or_true, Bool.true_or, Bool.not_true, Bool.not_false, if_true, if_false, Bool.false_eq_true, decide_true, decide_false, cond_true, cond_false]; done), rfl⟩, (by (try simp only [List.cons_append, List.nil_append, List.append_assoc]); repeat' first | with_reducible apply eR | with_reducible apply eA | ((with_reducible apply xA); · repeat first | with_reducible apply lH | with_reducible apply lT | with_reducible apply lL) | ((with_reducible apply xC); · repeat first | apply pH | with_reducible apply pT | with_reducible apply pL) | with_reducible assumption | with_reducible apply eS | with_reducible apply eL | exact eR)⟩ | (exfalso; first | contradiction | omega | (simp_all; done) | (simp_all; omega))
  · have c1' := c1; try simp only [inB_iff, Bool.and_eq_true, decide_eq_true_eq, decide_eq_false_iff_not, beq_iff_eq, beq_eq_false_iff_ne, bne_iff_ne, bne_eq_false_iff_eq, ne_eq] at c1'
    refine gS rfl rfl c1 ?_
    refine gS rfl rfl c1 ?_
    refine gS rfl rfl c1 ?_
    refine kF rfl c1 rfl ?_
    refine asg rfl ?_
    refine rN ?_
    refine qN ?_
    refine cE ?_
    refine kE rfl rfl  ?_
    first | (exfalso; contradiction) | exact ⟨_, ⟨by (simp only [*, Bool.true_and, Bool.and_true, Bool.false_and, Bool.and_false, Bool.or_false, Bool.false_or, Bool.or_true, Bool.true_or, Bool.not_true, Bool.not_false, if_true, if_false, Bool.false_eq_true, decide_true, decide_false, cond_true, cond_false]; done), rfl⟩, (by (try simp only [List.cons_append, List.nil_append, List.append_assoc]); repeat' first | with_reducible apply eR | with_reducible apply eA | ((with_reducible apply xA); · repeat first | with_reducible apply lH | with_reducible apply lT | with_reducible apply lL) | ((with_reducible apply xC); · repeat first | apply pH | with_reducible apply pT | with_reducible apply pL) | with_reducible assumption | with_reducible apply eS | with_reducible apply eL | exact eR)⟩ | (exfalso; first | contradiction | omega | (simp_all; done) | (simp_all; omega))
theorem c_arePos1 (b : Nat) (x : Nat) (M : Mem) : ACall Try.prog 38 [.slice (some ⟨b, 0, none⟩) 1 1] ((b, ⟨[.float .f32 x], true⟩) :: M) fun v M' => v = .bool (poB x) ∧ M' = (b, ⟨[.float .f32 x], true⟩) :: M := by
  have h := c_arePositive (some ⟨b, 0, none⟩) 1 1 [x] _ (RdF.head1 (b := b) (y := x) (M := M)) (by decide)
  have e : (!([x].any fun x => !poB x)) = poB x := by simp
  rw [e] at h
  exact h

/-! ## curves -/
theorem nan_lss {k : FloatKind} {x y : Nat} (h : nanB k x = true) : fcmp .lss k x y = false := by unfold fcmp; simp only [order_nan_l h]; decide
theorem inf_lss {x y : Nat} {a : Int} (h : FloatKind.f64.decode x = .infinity false) (hy : sv .f64 y = some a) : fcmp .lss .f64 x y = false := by
  unfold fcmp; simp only [order_inf_l h hy]; decide
theorem near_ge {m : Nat} {K : Nat} (hK : Rep .f64 K) (h : K ≤ m * PU) : (∃ c, sv .f64 (FloatKind.f64.format.nearest false m 0) = some c ∧ (K : Int) ≤ c) ∨ FloatKind.f64.decode (FloatKind.f64.format.nearest false m 0) = .infinity false := by
  obtain ⟨R, hR, rfl⟩ := hK.out
  have hr : R ≤ T.rung FloatKind.f64.format m 0 := T.le_rung FloatKind.f64.format (-1074) (by omega) (by decide) hR (by
    rw [show (FloatKind.f64.format.leastPlace - (-1074)).toNat = 0 from by decide, Nat.shiftLeft_zero, show (0 - (-1074 : Int)).toNat = 1074 from by decide, shl_PU]
    exact h)
  rcases Nat.lt_or_ge (T.rung FloatKind.f64.format m 0) FloatKind.f64.format.infRung with hi | hi
  · left
    refine ⟨_, sv_near hi, ?_⟩
    unfold Ieee.signed
    simp only [Bool.false_eq_true, if_false]
    exact_mod_cast T.rv_le FloatKind.f64.format hr
  · right
    have : T.rung FloatKind.f64.format m 0 = FloatKind.f64.format.infRung := Nat.le_antisymm (T.rung_le_inf _ _ _) hi
    rw [T.nearest_rung, this]
    decide
abbrev cvF (s wy sp : Nat) : Nat := sqF (fadd .f32 (fmul .f32 s s) (fmul .f32 (fdiv .f32 wy sp) (fdiv .f32 wy sp)))
abbrev tvF (sp : Nat) (z dx : Int) : Nat := cvF (fofint .f32 z) (fofint .f32 dx) sp
abbrev kvF (sp : Nat) (z dx : Int) : Nat := fint .down (fwid (tvF sp z dx))
abbrev fvF (sp : Nat) (z dx : Int) : Nat := fsub .f32 (tvF sp z dx) (fnar (kvF sp z dx))
def nvI (sp : Nat) (z dx : Int) : Int := wI (kvF sp z dx)
theorem share_ok (sp : Nat) (z dx : Int) : narOk (kvF sp z dx) = true := narOk_floor (sqr_cases _).2
theorem share_n {sp : Nat} {z dx d : Int} (hd : 1 ≤ d ∧ d ≤ 16) (h : fcmp .lss .f64 (kvF sp z dx) (fofint .f64 d) = true) : sv .f64 (kvF sp z dx) = some (nvI sp z dx * PU) ∧ 0 ≤ nvI sp z dx ∧ nvI sp z dx < d := by
  have hsd := sv_fofint (k := .f64) (n := d) (by omega)
  unfold nvI
  revert h
  rcases (sqr_cases (fadd .f32 (fmul .f32 (fofint .f32 z) (fofint .f32 z)) (fmul .f32 (fdiv .f32 (fofint .f32 dx) sp) (fdiv .f32 (fofint .f32 dx) sp)))).2 with hn | hi | ⟨c, hc, h0⟩
  · intro h
    exfalso
    have e : kvF sp z dx = qn .f64 := by
      show fint .down (fwid (tvF sp z dx)) = _
      rw [fwid_none (nan_widen hn)]; decide
    rw [e, nan_lss (by decide)] at h
    cases h
  · intro h
    exfalso
    have e : FloatKind.f64.decode (kvF sp z dx) = .infinity false := by
      show FloatKind.f64.decode (fint .down (fwid (tvF sp z dx))) = _
      rw [fwid_inf hi]; decide
    rw [inf_lss e hsd] at h
    cases h
  · intro h
    have hw := sv_fwid hc
    have hp : (0 : Int) < (PU : Nat) := by exact_mod_cast PU_pos
    by_cases hbig : c.natAbs ≤ 8388608 * PU
    · obtain ⟨n, n1, n2, n3, n4, n5⟩ := sv_floor hw (Q := 8388608) (by decide) hbig
      have n1' : sv .f64 (kvF sp z dx) = some (n * PU) := n1
      have hwn : wI (kvF sp z dx) = n := wI_sv n1'
      rw [whole_lss n1' (by omega)] at h
      have hn0 : 0 ≤ n := by
        have : 0 < (n + 1) * (PU : Nat) := Int.lt_of_le_of_lt h0 n3
        have := Int.pos_of_mul_pos_left this hp
        omega
      rw [hwn]
      exact ⟨n1', hn0, by simpa using h⟩
    · exfalso
      obtain ⟨s, m, n, f1, f2, f3, f4⟩ := floor_num hw
      have hgt : (8388608 : Int) * (PU : Nat) < (n + 1) * (PU : Nat) := by
        have e : ((8388608 * PU : Nat) : Int) = (8388608 : Int) * (PU : Nat) := Int.natCast_mul _ _
        omega
      have hn : 8388608 ≤ n := by have := Int.lt_of_mul_lt_mul_right hgt (Int.le_of_lt hp); omega
      cases s with
      | true => simp at f2; omega
      | false =>
        simp at f2
        have hm : 8388608 ≤ m := by omega
        have f1' : kvF sp z dx = cb .f64 (FloatKind.f64.format.nearest false m 0) := f1
        rcases near_ge (m := m) (rep_int (k := .f64) (n := 8388608) (by decide)) (Nat.mul_le_mul_right _ hm) with ⟨c', g1, g2⟩ | g
        · have f3' : sv .f64 (kvF sp z dx) = some c' := by rw [f1', sv_cb g1]; exact g1
          rw [lss_sv f3' hsd] at h
          have h' : c' < d * (PU : Nat) := by simpa using h
          have e : ((8388608 * PU : Nat) : Int) = (8388608 : Int) * (PU : Nat) := Int.natCast_mul _ _
          have : (8388608 : Int) * (PU : Nat) < d * (PU : Nat) := by omega
          have := Int.lt_of_mul_lt_mul_right this (Int.le_of_lt hp)
          omega
        · have f3' : FloatKind.f64.decode (kvF sp z dx) = .infinity false := by
            rw [f1', cb_notnan]
            · exact g
            · unfold nanB; rw [g]; rfl
          rw [inf_lss f3' hsd] at h
          cases h

theorem gridM {w : Int} (hw : 1 ≤ w) {z x : Nat} (hx : (x : Int) < w) : ((w.toNat * z + x : Nat) : Int) % w = x ∧ ((w.toNat * z + x : Nat) : Int) / w = z := by
  have e : ((w.toNat * z + x : Nat) : Int) = (x : Int) + w * (z : Int) := by
    rw [Int.natCast_add, Int.natCast_mul, Int.toNat_of_nonneg (by omega)]; omega
  rw [e]
  exact grid_eq (by omega) hx
/-! ## what is done for a cell and a trace -/
abbrev Stp := List Nat → Int → Int → Nat → List Nat
def visit (st : Stp) (w d : Int) (sp : Nat) (acc : List Nat) (x z u : Int) : List Nat :=
  if fcmp .lss .f64 (kvF sp z (u - x)) (fofint .f64 d) = true then
    if nvI sp z (u - x) + 1 < d then st (st acc (x + w * z) (u + w * nvI sp z (u - x)) (fsub .f32 1065353216 (fvF sp z (u - x)))) (x + w * z) (u + w * (nvI sp z (u - x) + 1)) (fvF sp z (u - x))
    else st acc (x + w * z) (u + w * nvI sp z (u - x)) (fsub .f32 1065353216 (fvF sp z (u - x)))
  else acc
theorem visit_no {st : Stp} {w d : Int} {sp : Nat} {acc : List Nat} {x z u : Int} (h : fcmp .lss .f64 (kvF sp z (u - x)) (fofint .f64 d) = false) : visit st w d sp acc x z u = acc := by
  unfold visit; rw [if_neg (by rw [h]; decide)]
theorem visit_one {st : Stp} {w d : Int} {sp : Nat} {acc : List Nat} {x z u : Int} (h : fcmp .lss .f64 (kvF sp z (u - x)) (fofint .f64 d) = true) (h2 : ¬ nvI sp z (u - x) + 1 < d) :
    visit st w d sp acc x z u = st acc (x + w * z) (u + w * nvI sp z (u - x)) (fsub .f32 1065353216 (fvF sp z (u - x))) := by
  unfold visit; rw [if_pos h, if_neg h2]
theorem visit_two {st : Stp} {w d : Int} {sp : Nat} {acc : List Nat} {x z u : Int} (h : fcmp .lss .f64 (kvF sp z (u - x)) (fofint .f64 d) = true) (h2 : nvI sp z (u - x) + 1 < d) :
    visit st w d sp acc x z u = st (st acc (x + w * z) (u + w * nvI sp z (u - x)) (fsub .f32 1065353216 (fvF sp z (u - x)))) (x + w * z) (u + w * (nvI sp z (u - x) + 1)) (fvF sp z (u - x)) := by
  unfold visit; rw [if_pos h, if_pos h2]
def roU (st : Stp) (w d : Int) (sp : Nat) (acc : List Nat) (x z : Int) : Nat → List Nat
  | 0 => acc
  | k + 1 => visit st w d sp (roU st w d sp acc x z k) x z (k : Nat)
def ceS (st : Stp) (w d : Int) (sp : Nat) (acc : List Nat) : Nat → List Nat
  | 0 => acc
  | i + 1 => roU st w d sp (ceS st w d sp acc i) ((i : Nat) % w) ((i : Nat) / w) w.toNat
def stS (xs : List Nat) : Stp := fun acc fr to sh => acc.set to.toNat (fadd .f32 (acc.getD to.toNat 0) (fmul .f32 (xs.getD fr.toNat 0) sh))
def stG (xs : List Nat) : Stp := fun acc fr to sh => acc.set fr.toNat (fadd .f32 (acc.getD fr.toNat 0) (fmul .f32 sh (xs.getD to.toNat 0)))

-- @reg impl.curve : c_curve _ _ _ _
theorem c_curve (s wy sp : Nat) (M : Mem) : ACall Try.prog 81 [.float .f32 s, .float .f32 wy, .float .f32 sp] M fun v M' => v = .float .f32 (cvF s wy sp) ∧ M' = M := by
  refine acall_of_awp Try.func81 rfl Try.ntmps81 rfl ?_
  refine cS (cR ?_)
  refine asg rfl ?_
  refine rN ?_
  refine qN ?_
  refine cS (cR ?_)
  refine mv rfl ?_
  refine mv rfl ?_
  refine fDv rfl rfl ?_
  refine asg rfl ?_
  refine rN ?_
  refine qN ?_
  refine cS (cR ?_)
  refine mv rfl ?_
  refine mv rfl ?_
  refine fMl rfl rfl ?_
  refine mv rfl ?_
  refine mv rfl ?_
  refine fMl rfl rfl ?_
  refine fAd rfl rfl ?_
  refine rCq rfl (c_RootNumber _ _) ?_
  refine asg rfl ?_
  refine rN ?_
  refine qN ?_
  refine cE ?_
  refine kE rfl rfl  ?_
  first | (exfalso; contradiction) | exact ⟨_, ⟨rfl, rfl⟩, (by (try simp only [List.cons_append, List.nil_append, List.append_assoc]); repeat' first | with_reducible apply eR | with_reducible apply eA | ((with_reducible apply xA); · repeat first | with_reducible apply lH | with_reducible apply lT | with_reducible apply lL) | ((with_reducible apply xC); · repeat first | apply pH | with_reducible apply pT | with_reducible apply pL) | with_reducible assumption | with_reducible apply eS | with_reducible apply eL | exact eR)⟩ | exact ⟨_, ⟨by first | (simp_all; done) | (simp_all; intros; omega), rfl⟩, (by (try simp only [List.cons_append, List.nil_append, List.append_assoc]); repeat' first | with_reducible apply eR | with_reducible apply eA | ((with_reducible apply xA); · repeat first | with_reducible apply lH | with_reducible apply lT | with_reducible apply lL) | ((with_reducible apply xC); · repeat first | apply pH | with_reducible apply pT | with_reducible apply pL) | with_reducible assumption | with_reducible apply eS | with_reducible apply eL | exact eR)⟩ | (exfalso; first | contradiction | omega | (simp_all; done) | (simp_all; omega))
-- @reg spec.l06Curve : c_l06Curve _ _ _ _ _ (by omega)
/-- the cells that a share goes between -/
theorem cells2 {w d x z u n : Int} {m : Nat} (hv : vsB w d m = true) (hx : 0 ≤ x ∧ x < w) (hz : 0 ≤ z ∧ z < d) (hu : 0 ≤ u ∧ u < w) (hn : 0 ≤ n ∧ n < d) :
    (0 ≤ w * z ∧ w * z ≤ 256) ∧ (0 ≤ w * n ∧ w * n ≤ 256) ∧ (0 ≤ x + w * z ∧ x + w * z < m) ∧ (0 ≤ u + w * n ∧ u + w * n < m) ∧ w * (n + 1) = w * n + w ∧ (n + 1 < d → u + w * (n + 1) < m) := by
  obtain ⟨a1, a2, a3, a4, a5, a6, a7⟩ := cell_in (x := x) (z := z) hv (by omega) (by omega)
  obtain ⟨b1, b2, b3, b4, b5, b6, b7⟩ := cell_in (x := u) (z := n) hv (by omega) (by omega)
  have e : w * (n + 1) = w * n + w := by rw [Int.mul_add, Int.mul_one]
  refine ⟨a2, b2, ⟨a3, a4⟩, ⟨b3, b4⟩, e, fun h => ?_⟩
  obtain ⟨c1, c2, c3, c4, c5, c6, c7⟩ := cell_in (x := u) (z := n + 1) hv (by omega) (by omega)
  exact c4
def spF (w d : Int) (sp : Nat) (xs : List Nat) : List Nat := ceS (stS xs) w d sp (List.replicate (w * d).toNat 0) (w * d).toNat
def gaF (w d : Int) (sp : Nat) (xs : List Nat) : List Nat := ceS (stG xs) w d sp (List.replicate (w * d).toNat 0) (w * d).toNat
-- @owns (impl.Section).spread : c_implspread _ _ _ _ _ _ _ _ @RD@ (by assumption)
-- @owns (impl.Section).gather : c_implgather _ _ _ _ _ _ _ _ @RD@ (by assumption)
theorem cell_i {w : Int} (i : Nat) : ((i : Int) % w + w * ((i : Int) / w)).toNat = i := by rw [Int.emod_add_mul_ediv, Int.toNat_natCast]
-- @owns spec.l06Spread : c_l06Spread _ _ _ _ _ _ _ _ _ _ @MEM@ @RD@ (by assumption)
/-! ## gathering: each cell's sum by itself -/
def visG (xs : List Nat) (w d : Int) (sp s : Nat) (x z u : Int) : Nat :=
  if fcmp .lss .f64 (kvF sp z (u - x)) (fofint .f64 d) = true then
    if nvI sp z (u - x) + 1 < d then fadd .f32 (fadd .f32 s (fmul .f32 (fsub .f32 1065353216 (fvF sp z (u - x))) (xs.getD (u + w * nvI sp z (u - x)).toNat 0))) (fmul .f32 (fvF sp z (u - x)) (xs.getD (u + w * (nvI sp z (u - x) + 1)).toNat 0))
    else fadd .f32 s (fmul .f32 (fsub .f32 1065353216 (fvF sp z (u - x))) (xs.getD (u + w * nvI sp z (u - x)).toNat 0))
  else s
def guS (xs : List Nat) (w d : Int) (sp : Nat) (x z : Int) : Nat → Nat
  | 0 => 0
  | k + 1 => visG xs w d sp (guS xs w d sp x z k) x z (k : Nat)
theorem set_get {A : List Nat} {i s : Nat} (h : i < A.length) : (A.set i s).getD i 0 = s := by simp [List.getD, h]
theorem set_same {A : List Nat} {i : Nat} (h : A.getD i 0 = 0) : A.set i 0 = A := by
  apply List.ext_getElem
  · simp
  · intro j h1 h2
    rw [List.getElem_set]
    split
    · rename_i e; subst e
      simp [List.getD, h2] at h
      exact h.symm
    · rfl
theorem roU_G {xs A : List Nat} {w d x z : Int} {sp i : Nat} (hi : (x + w * z).toNat = i) (hl : i < A.length) (h0 : A.getD i 0 = 0) : ∀ k, roU (stG xs) w d sp A x z k = A.set i (guS xs w d sp x z k) := by
  intro k
  induction k with
  | zero => exact (set_same h0).symm
  | succ k ih =>
    show visit (stG xs) w d sp (roU (stG xs) w d sp A x z k) x z (k : Nat) = A.set i (visG xs w d sp (guS xs w d sp x z k) x z (k : Nat))
    rw [ih]
    unfold visit visG
    split
    · split
      · simp only [stG, hi, set_get hl, List.set_set]
      · simp only [stG, hi, set_get hl, List.set_set]
    · rfl
abbrev gaT (w d : Int) (sp : Nat) (xs : List Nat) (n : Nat) : List Nat := tab n fun i => guS xs w d sp ((i : Int) % w) ((i : Int) / w) w.toNat
theorem ceS_G {xs zs : List Nat} {w d : Int} {sp : Nat} (hz : ∀ i, zs.getD i 0 = 0) : ∀ i, i ≤ zs.length → ceS (stG xs) w d sp zs i = cp (gaT w d sp xs zs.length) zs i := by
  intro i
  induction i with
  | zero => intro _; exact (cp_zero _ _).symm
  | succ i ih =>
    intro hi
    show roU (stG xs) w d sp (ceS (stG xs) w d sp zs i) ((i : Nat) % w) ((i : Nat) / w) w.toNat = _
    rw [ih (by omega), roU_G (cell_i (w := w) i) (by rw [cp_tab_len rfl]; omega) (by rw [cp_get]; exact hz i)]
    exact cp_step (f := fun i => guS xs w d sp ((i : Int) % w) ((i : Int) / w) w.toNat) (by omega) rfl
theorem gaF_eq {w d : Int} {sp : Nat} {xs : List Nat} {n : Nat} (hn : (w * d).toNat = n) : gaF w d sp xs = gaT w d sp xs n := by
  unfold gaF
  rw [hn]
  have hz : ∀ i, (List.replicate n 0).getD i 0 = 0 := by
    intro i; simp [List.getD, List.getElem?_replicate]; split <;> rfl
  rw [ceS_G hz n (by simp)]
  have hl : (List.replicate n 0).length = n := List.length_replicate
  rw [hl]
  have := cp_end (xs := List.replicate n 0) (f := fun i => guS xs w d sp ((i : Int) % w) ((i : Int) / w) w.toNat) (k := n) hl.symm
  rw [hl] at this
  exact this
-- @owns spec.l06Gather : c_l06Gather _ _ _ _ _ _ _ _ _ _ @MEM@ @RD@ (by assumption)
end Go.Proofs.Ytfjancbmecfjgaa.Ab
