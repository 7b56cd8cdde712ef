/-
  Walks: frames in order, by the reference.
-/
import Derived.Test.YtnikglngipbahaaRa
namespace Go.Proofs.Ytnikglngipbahaa.Ab
open Go Go.RowKit
attribute [local irreducible] Run Then InBlock LoopQ LQ1 LQ2 LQ3 LQ4 LQ5 LQ6 AWp Ret ACall
set_option linter.unusedVariables false
set_option linter.unusedSimpArgs false

theorem posN_at {q : Nat → Bool} {j : Nat} (h : (decide (0 < j) && q (j - 1)) = false) : posN q j = j := by
  rcases Nat.eq_zero_or_pos j with h0 | h0
  · subst h0; rfl
  · obtain ⟨k, rfl⟩ : ∃ k, j = k + 1 := ⟨j - 1, by omega⟩
    exact posN_n (by simpa using h)
theorem OwC.lit0 {b s : Nat} : OwC s [(b, ⟨[], true⟩)] (.slice (some ⟨b, 0, none⟩) 0 0) 0 [] := .inr ⟨b, 0, [], rfl, Nat.le_refl _, by simp, by simp, rfl⟩
theorem ins_map {es : List Efr} {l : List Frm} {x : Efr} {j : Nat} (h : es.map (·.1) = l) (hp : posN (fun k => gtR (l.getD k zR) x.1) l.length = j) : (es.take j ++ x :: es.drop j).map (·.1) = insG gtR zR l x.1 := by
  rw [insG_at hp, List.map_append, List.map_cons, List.map_take, List.map_drop, h]
theorem OwE.ins {L1 L : Mem} {x : Efr} {es : List Efr} {j : Nat} (h : OwF L1 x.2 x.1.xs) (k : OwE L es) : OwE (L1 ++ L) (es.take j ++ x :: es.drop j) := by
  refine (OwE.cons h k).perm (List.Perm.symm (List.perm_middle.trans (List.Perm.cons _ ?_)))
  rw [List.take_append_drop]
theorem eCs_ins {es : List Efr} {x : Efr} {j : Nat} : eCs (es.take j ++ [x]) ++ (eCs es).drop (j * 3) = eCs (es.take j ++ x :: es.drop j) := by
  rw [eCs_drop, ← eCs_app, List.append_assoc]; rfl
theorem one_flat {w d : Int} {a : Option Addr} {m c : Nat} : ∀ u ∈ [Value.int .i64 w, Value.int .i64 d, Value.slice a m c], flatV u = true := by
  intro u hu
  simp only [List.mem_cons, List.not_mem_nil, or_false] at hu
  rcases hu with rfl | rfl | rfl <;> rfl
set_option maxHeartbeats 1000000 in
theorem c_l07Sorted (a : Option Addr) (n c : Nat) (fs : List Frm) (M : Mem) (h : RdR M a n fs) (hn : n ≤ 1000) (hxs : ∀ i, i < n → (fs.getD i zR).xs.length ≤ 1048576) :
    ACall Try.prog 45 [.slice a n c] M fun v M' => ∃ L, OwR L v (sortR fs n) ∧ M' = L ++ M := by
  obtain ⟨rfl, _⟩ := id h
  skip
  skip
  skip
  skip
  skip
  skip
  skip
  skip
  skip
  skip
  skip
  refine acall_of_awp Try.func45 rfl Try.ntmps45 rfl ?_
  refine cS (cR ?_)
  refine asg rfl ?_
  refine rN ?_
  refine qN ?_
  refine cS (cR ?_)
  refine rB0 ?_; intro bk1
  refine asg rfl ?_
  refine rN ?_
  refine qN ?_
  refine cS ?_
  refine cS (cR ?_)
  refine mv rfl ?_
  refine ln rfl ?_
  refine mv rfl ?_
  refine rN ?_
  refine qN ?_
  refine cB ?_
  refine cL4 (fun (i : Nat) (sl : Value) (Lo : Mem) (Li : Mem) => [(11, .int .i64 (i : Nat)), (3, sl)]) [(0, _), (10, _)] (fun (i : Nat) (sl : Value) (Lo : Mem) (Li : Mem) => Lo ++ (Li ++ M)) (fun (i : Nat) (sl : Value) (Lo : Mem) (Li : Mem) => fs.length - i) (fun (i : Nat) (sl : Value) (Lo : Mem) (Li : Mem) => i ≤ fs.length ∧ ∃ es : List Efr, es.map (·.1) = sortR fs i ∧ OwC 3 Lo sl i (eCs es) ∧ OwE Li es) (0) (_) ([(bk1, ⟨[], true⟩)]) ([]) (by repeat first | exact Sub.nil _ | refine Sub.cons rfl ?_) (by (try simp only [List.cons_append, List.nil_append, List.append_assoc]); repeat' first | with_reducible apply eR | with_reducible apply eA | ((with_reducible apply xA); · repeat first | with_reducible apply lH | with_reducible apply lT | with_reducible apply lL) | ((with_reducible apply xC); · repeat first | apply pH | with_reducible apply pT | with_reducible apply pL) | with_reducible assumption | with_reducible apply eS | with_reducible apply eL | exact eR) (by exact ⟨Nat.zero_le _, [], rfl, OwC.lit0, OwE.nil⟩) ?_
  rintro i sl Lo Li ⟨hi, es, hes, ho, hE⟩
  refine wT (T' := [(11, _), (3, _), (0, _), (10, _)]) rfl ?_
  refine cS (cR ?_)
  refine bLss rfl rfl ?_
  refine rN ?_
  refine qN ?_
  refine cS ?_
  obtain ⟨a7, c7, rfl, hc7, hcl⟩ := ho.shape
  have hel : es.length = i := by rw [eCs_len] at hcl; omega
  have hsl : (sortR fs i).length = i := sortG_len _ _ _ _
  have hor := OwE.toR hel.symm ho hE
  rw [hes] at hor
  have hrr := hor.rdR
  refine cC rfl (fun c1 => ?_) (fun c1 => ?_)
  · have c1' := c1; try simp only [inB_iff, Bool.and_eq_true, decide_eq_true_eq, decide_eq_false_iff_not, beq_iff_eq, beq_eq_false_iff_ne, bne_iff_ne, bne_eq_false_iff_eq, ne_eq] at c1'
    have hi2 : i < fs.length := by omega
    have hxi := hxs i hi2
    refine cK ?_
    refine qN ?_
    refine cS ?_
    refine cB ?_
    refine cS (cR ?_)
    refine mv rfl ?_
    refine asg rfl ?_
    refine rN ?_
    refine qN ?_
    refine cS (cR ?_)
    refine mv rfl ?_
    refine mv rfl ?_
    first
      | refine ixP rfl rfl (by first | (apply RdP.aok; with_reducible assumption) | exact AOk.own) (by first | with_reducible assumption | omega) ?_
      | refine ixR rfl rfl (by first | (apply RdR.aok; with_reducible assumption) | exact AOk.own) (by first | with_reducible assumption | omega) ?_
    first | refine ldP rfl (by (first | with_reducible assumption | (apply RdP.mono; (· with_reducible assumption); · (try simp only [List.cons_append, List.nil_append, List.append_assoc]); repeat' first | with_reducible apply eR | with_reducible apply eA | ((with_reducible apply xA); · repeat first | with_reducible apply lH | with_reducible apply lT | with_reducible apply lL) | ((with_reducible apply xC); · repeat first | apply pH | with_reducible apply pT | with_reducible apply pL) | with_reducible assumption | with_reducible apply eS | with_reducible apply eL | exact eR) | (apply RdP.mono; (· (apply OwP.rdP; with_reducible assumption)); · (try simp only [List.cons_append, List.nil_append, List.append_assoc]); repeat' first | with_reducible apply eR | with_reducible apply eA | ((with_reducible apply xA); · repeat first | with_reducible apply lH | with_reducible apply lT | with_reducible apply lL) | ((with_reducible apply xC); · repeat first | apply pH | with_reducible apply pT | with_reducible apply pL) | with_reducible assumption | with_reducible apply eS | with_reducible apply eL | exact eR))) (by first | with_reducible assumption | omega) ?_ | (refine ldR rfl (by (first | with_reducible assumption | (apply RdR.mono; (· with_reducible assumption); · (try simp only [List.cons_append, List.nil_append, List.append_assoc]); repeat' first | with_reducible apply eR | with_reducible apply eA | ((with_reducible apply xA); · repeat first | with_reducible apply lH | with_reducible apply lT | with_reducible apply lL) | ((with_reducible apply xC); · repeat first | apply pH | with_reducible apply pT | with_reducible apply pL) | with_reducible assumption | with_reducible apply eS | with_reducible apply eL | exact eR) | (apply RdR.mono; (· (apply OwR.rdR; with_reducible assumption)); · (try simp only [List.cons_append, List.nil_append, List.append_assoc]); repeat' first | with_reducible apply eR | with_reducible apply eA | ((with_reducible apply xA); · repeat first | with_reducible apply lH | with_reducible apply lT | with_reducible apply lL) | ((with_reducible apply xC); · repeat first | apply pH | with_reducible apply pT | with_reducible apply pL) | with_reducible assumption | with_reducible apply eS | with_reducible apply eL | exact eR))) (by first | with_reducible assumption | omega) ?_; intro aRr cRr hRr)
    refine rO ?_; intro bk2
    refine tA rfl rfl rfl (by repeat first | apply pH | with_reducible apply pT | with_reducible apply pL) (by rfl) (by rfl) ?_
    refine rN ?_
    refine qN ?_
    refine cS (cR ?_)
    refine rBS rfl rfl rfl rfl rfl ?_; intro bk3
    have how2 : OwF [(bk3, FB [] [])] (.slice (some ⟨bk3, 0, none⟩) 0 0) [] := OwF.blk rfl
    refine fA rfl ?_
    first | refine rL rfl (by repeat first | with_reducible assumption | with_reducible apply List.mem_cons_self | with_reducible apply List.mem_cons_of_mem | with_reducible apply List.mem_append_right | exact List.Mem.head _) rfl rfl ?_ | refine rL rfl (by repeat first | with_reducible assumption | with_reducible apply List.mem_cons_self | with_reducible apply List.mem_cons_of_mem | with_reducible apply List.mem_append_right | exact List.Mem.head _) (by with_reducible assumption) rfl ?_
    refine apS (by intro _ h; cases h <;> rfl) rfl rfl (by with_reducible assumption) rfl (by first | with_reducible assumption | ((try first | with_reducible apply RdF.sub | with_reducible apply RdF.sub0) <;> first | with_reducible assumption | (apply RdF.mono; (· (with_reducible assumption)); · (try simp only [List.cons_append, List.nil_append, List.append_assoc]); repeat' first | with_reducible apply eR | with_reducible apply eA | ((with_reducible apply xA); · repeat first | with_reducible apply lH | with_reducible apply lT | with_reducible apply lL) | ((with_reducible apply xC); · repeat first | apply pH | with_reducible apply pT | with_reducible apply pL) | with_reducible assumption | with_reducible apply eS | with_reducible apply eL | exact eR) | (apply RdF.mono; (· (apply OwF.rdF; with_reducible assumption)); · (try simp only [List.cons_append, List.nil_append, List.append_assoc]); repeat' first | with_reducible apply eR | with_reducible apply eA | ((with_reducible apply xA); · repeat first | with_reducible apply lH | with_reducible apply lT | with_reducible apply lL) | ((with_reducible apply xC); · repeat first | apply pH | with_reducible apply pT | with_reducible apply pL) | with_reducible assumption | with_reducible apply eS | with_reducible apply eL | exact eR) | (apply RdF.ownm; (· repeat first | with_reducible assumption | with_reducible apply List.mem_cons_self | with_reducible apply List.mem_cons_of_mem | with_reducible apply List.mem_append_right | exact List.Mem.head _); · first | rfl | with_reducible assumption | omega | simp [*]) | with_reducible assumption | omega | (simp; done) | (simp; omega) | (simp only [Bool.and_eq_true, inB_iff] at *; omega))) (by first | omega | (simp only [tab_len, List.length_append, List.length_map, List.length_range, List.length_replicate, List.length_cons, List.length_nil]; omega) | (simp; omega)) (by first | omega | (simp only [tab_len, List.length_append, List.length_map, List.length_range, List.length_replicate, List.length_cons, List.length_nil]; omega) | (simp; omega)) ?_; intro sv3 lk3 how3; try simp only [List.nil_append] at how3
    obtain ⟨ad3, cn3, rfl, hrd3⟩ := how3.rd
    have hcn3 := how3.capl
    refine fA rfl ?_
    first | refine tS rfl rfl rfl (by repeat first | apply pH | with_reducible apply pT | with_reducible apply pL) (by rfl) (by rfl) ?_ | refine tS rfl rfl rfl (by repeat first | apply pH | with_reducible apply pT | with_reducible apply pL) (by apply Nat.ble_eq_true_of_le; (try simp only [List.length_set, Option.getD_some]); omega) (by rfl) ?_
    refine rN ?_
    refine qN ?_
    refine cS (cR ?_)
    refine mv rfl ?_
    refine ln rfl ?_
    refine asg rfl ?_
    refine rN ?_
    refine qN ?_
    refine cS ?_
    refine cB ?_
    refine cL1 (fun (j : Nat) => [(6, .int .i64 (j : Nat))]) [(0, _), (3, _), (5, _), (10, _), (11, _)] (fun (j : Nat) => (bk2, ⟨[.int .i64 (fs.getD i zR).w, .int .i64 (fs.getD i zR).d, .slice ad3 (fs.getD i zR).xs.length cn3], true⟩) :: (lk3 ++ (Lo ++ (Li ++ M)))) (fun (j : Nat) => j) (fun (j : Nat) => j ≤ i ∧ posN (fun k => gtR ((sortR fs i).getD k zR) (fs.getD i zR)) i = posN (fun k => gtR ((sortR fs i).getD k zR) (fs.getD i zR)) j) (i) (by repeat first | exact Sub.nil _ | refine Sub.cons rfl ?_) (by (try simp only [List.cons_append, List.nil_append, List.append_assoc]); repeat' first | with_reducible apply eR | with_reducible apply eA | ((with_reducible apply xA); · repeat first | with_reducible apply lH | with_reducible apply lT | with_reducible apply lL) | ((with_reducible apply xC); · repeat first | apply pH | with_reducible apply pT | with_reducible apply pL) | with_reducible assumption | with_reducible apply eS | with_reducible apply eL | exact eR) (by exact ⟨Nat.le_refl _, rfl⟩) ?_
    rintro j ⟨hj, hp⟩
    refine wT (T' := [(6, _), (0, _), (3, _), (5, _), (10, _), (11, _)]) rfl ?_
    refine cS ?_
    refine cM1 (fun (B : Bool) => [(59, .bool B)]) [(0, _), (3, _), (5, _), (6, _), (10, _), (11, _)] (fun (B : Bool) => (bk2, ⟨[.int .i64 (fs.getD i zR).w, .int .i64 (fs.getD i zR).d, .slice ad3 (fs.getD i zR).xs.length cn3], true⟩) :: (lk3 ++ (Lo ++ (Li ++ M)))) (fun (B : Bool) => B = (decide (0 < j) && gtR ((sortR fs i).getD (j - 1) zR) (fs.getD i zR))) (by repeat first | exact Sub.nil _ | refine Sub.cons rfl ?_) ?_ ?_
    · refine cD [] [(0, false), (1, false), (2, false), (3, true), (4, true), (5, true), (6, true), (7, true), (8, true), (9, false), (10, false), (11, false), (12, false), (13, true), (14, true), (15, true), (16, true), (17, true), (18, true), (19, false), (20, false), (21, false), (22, false), (23, true), (24, true), (25, true), (26, true), (27, true), (28, true), (29, false), (30, false), (31, false), (32, false), (33, false), (34, false)] (by repeat first | exact fineT | exact fineL | exact fineLQ1 | exact fineLQ2 | exact fineLQ3 | exact fineLQ4 | exact fineLQ5 | exact fineLQ6 | exact fineR | refine fineB ?_) (by kernel_rfl) ?_
      simp only [pick, List.getElem?_toArray, List.getElem?_cons_zero, List.getElem?_cons_succ]
      refine mv rfl ?_
      refine bGtr rfl rfl ?_
      refine mv rfl ?_
      refine gC rfl rfl (fun c2 => ?_) (fun c2 => ?_)
      · have c2' := c2; try simp only [inB_iff, Bool.and_eq_true, decide_eq_true_eq, decide_eq_false_iff_not, beq_iff_eq, beq_eq_false_iff_ne, bne_iff_ne, bne_eq_false_iff_eq, ne_eq] at c2'
        refine gG rfl rfl c2 ?_
        refine mv rfl ?_
        refine gG rfl rfl c2 ?_
        refine mv rfl ?_
        refine gG rfl rfl c2 ?_
        refine rBn (b := 1) rfl rfl (by omega) (by omega) ?_
        refine gG rfl rfl c2 ?_
        first
          | refine ixP rfl rfl (by first | (apply RdP.aok; with_reducible assumption) | exact AOk.own) (by first | with_reducible assumption | omega) ?_
          | refine ixR rfl rfl (by first | (apply RdR.aok; with_reducible assumption) | exact AOk.own) (by first | with_reducible assumption | omega) ?_
        refine gG rfl rfl c2 ?_
        refine fA rfl ?_
        refine gG rfl rfl c2 ?_
        refine ldRf0 rfl (by (first | with_reducible assumption | (apply RdR.mono; (· with_reducible assumption); · (try simp only [List.cons_append, List.nil_append, List.append_assoc]); repeat' first | with_reducible apply eR | with_reducible apply eA | ((with_reducible apply xA); · repeat first | with_reducible apply lH | with_reducible apply lT | with_reducible apply lL) | ((with_reducible apply xC); · repeat first | apply pH | with_reducible apply pT | with_reducible apply pL) | with_reducible assumption | with_reducible apply eS | with_reducible apply eL | exact eR) | (apply RdR.mono; (· (apply OwR.rdR; with_reducible assumption)); · (try simp only [List.cons_append, List.nil_append, List.append_assoc]); repeat' first | with_reducible apply eR | with_reducible apply eA | ((with_reducible apply xA); · repeat first | with_reducible apply lH | with_reducible apply lT | with_reducible apply lL) | ((with_reducible apply xC); · repeat first | apply pH | with_reducible apply pT | with_reducible apply pL) | with_reducible assumption | with_reducible apply eS | with_reducible apply eL | exact eR))) (by first | with_reducible assumption | omega) ?_
        refine gG rfl rfl c2 ?_
        refine fA rfl ?_
        refine gG rfl rfl c2 ?_
        first | refine rL rfl (by repeat first | with_reducible assumption | with_reducible apply List.mem_cons_self | with_reducible apply List.mem_cons_of_mem | with_reducible apply List.mem_append_right | exact List.Mem.head _) rfl rfl ?_ | refine rL rfl (by repeat first | with_reducible assumption | with_reducible apply List.mem_cons_self | with_reducible apply List.mem_cons_of_mem | with_reducible apply List.mem_append_right | exact List.Mem.head _) (by with_reducible assumption) rfl ?_
        refine gG rfl rfl c2 ?_
        refine bGtr rfl rfl ?_
        refine gG rfl rfl c2 ?_
        refine mv rfl ?_
        refine gC rfl rfl (fun c3 => ?_) (fun c3 => ?_)
        · have c3' := c3; try simp only [inB_iff, Bool.and_eq_true, decide_eq_true_eq, decide_eq_false_iff_not, beq_iff_eq, beq_eq_false_iff_ne, bne_iff_ne, bne_eq_false_iff_eq, ne_eq] at c3'
          refine gU rfl rfl c3 ?_
          refine gU rfl rfl c3 ?_
          refine gU rfl rfl c3 ?_
          refine gU rfl rfl c3 ?_
          refine gU rfl rfl c3 ?_
          refine gU rfl rfl c3 ?_
          refine gU rfl rfl c3 ?_
          refine gU rfl rfl c3 ?_
          refine gU rfl rfl c3 ?_
          refine gU rfl rfl c3 ?_
          refine gN rfl rfl ?_
          refine gN rfl rfl ?_
          refine gN rfl rfl ?_
          refine gN rfl rfl ?_
          refine gN rfl rfl ?_
          refine gN rfl rfl ?_
          refine gN rfl rfl ?_
          refine gN rfl rfl ?_
          refine gN rfl rfl ?_
          refine gU rfl rfl c3 ?_
          refine gG rfl rfl c2 ?_
          refine kT rfl c3 rfl ?_
          refine kT rfl c2 rfl ?_
          refine rN ?_
          refine qL1 (_) ?_ (by exact Nat.zero_lt_one) (by repeat first | exact Sub.nil _ | refine Sub.cons rfl ?_) (by (try simp only [List.cons_append, List.nil_append, List.append_assoc]); repeat' first | with_reducible apply eR | with_reducible apply eA | ((with_reducible apply xA); · repeat first | with_reducible apply lH | with_reducible apply lT | with_reducible apply lL) | ((with_reducible apply xC); · repeat first | apply pH | with_reducible apply pT | with_reducible apply pL) | with_reducible assumption | with_reducible apply eS | with_reducible apply eL | exact eR)
          first | (rw [decide_eq_false (show ¬ 0 < j by omega)]; rfl) | (rw [decide_eq_true (show 0 < j by omega)]; exact gtR_gt (by assumption)) | (rw [decide_eq_true (show 0 < j by omega)]; exact gtR_ne (by assumption) (by assumption)) | (rw [decide_eq_true (show 0 < j by omega)]; exact gtR_eq (by assumption) (by assumption))
        · have c3' := c3; try simp only [inB_iff, Bool.and_eq_true, decide_eq_true_eq, decide_eq_false_iff_not, beq_iff_eq, beq_eq_false_iff_ne, bne_iff_ne, bne_eq_false_iff_eq, ne_eq] at c3'
          refine gG rfl rfl c3 ?_
          refine mv rfl ?_
          refine gG rfl rfl c3 ?_
          refine mv rfl ?_
          refine gG rfl rfl c3 ?_
          refine rBn (b := 1) rfl rfl (by omega) (by omega) ?_
          refine gG rfl rfl c3 ?_
          first
            | refine ixP rfl rfl (by first | (apply RdP.aok; with_reducible assumption) | exact AOk.own) (by first | with_reducible assumption | omega) ?_
            | refine ixR rfl rfl (by first | (apply RdR.aok; with_reducible assumption) | exact AOk.own) (by first | with_reducible assumption | omega) ?_
          refine gG rfl rfl c3 ?_
          refine fA rfl ?_
          refine gG rfl rfl c3 ?_
          refine ldRf0 rfl (by (first | with_reducible assumption | (apply RdR.mono; (· with_reducible assumption); · (try simp only [List.cons_append, List.nil_append, List.append_assoc]); repeat' first | with_reducible apply eR | with_reducible apply eA | ((with_reducible apply xA); · repeat first | with_reducible apply lH | with_reducible apply lT | with_reducible apply lL) | ((with_reducible apply xC); · repeat first | apply pH | with_reducible apply pT | with_reducible apply pL) | with_reducible assumption | with_reducible apply eS | with_reducible apply eL | exact eR) | (apply RdR.mono; (· (apply OwR.rdR; with_reducible assumption)); · (try simp only [List.cons_append, List.nil_append, List.append_assoc]); repeat' first | with_reducible apply eR | with_reducible apply eA | ((with_reducible apply xA); · repeat first | with_reducible apply lH | with_reducible apply lT | with_reducible apply lL) | ((with_reducible apply xC); · repeat first | apply pH | with_reducible apply pT | with_reducible apply pL) | with_reducible assumption | with_reducible apply eS | with_reducible apply eL | exact eR))) (by first | with_reducible assumption | omega) ?_
          refine gG rfl rfl c3 ?_
          refine fA rfl ?_
          refine gG rfl rfl c3 ?_
          first | refine rL rfl (by repeat first | with_reducible assumption | with_reducible apply List.mem_cons_self | with_reducible apply List.mem_cons_of_mem | with_reducible apply List.mem_append_right | exact List.Mem.head _) rfl rfl ?_ | refine rL rfl (by repeat first | with_reducible assumption | with_reducible apply List.mem_cons_self | with_reducible apply List.mem_cons_of_mem | with_reducible apply List.mem_append_right | exact List.Mem.head _) (by with_reducible assumption) rfl ?_
          refine gG rfl rfl c3 ?_
          refine bEql rfl rfl ?_
          refine gG rfl rfl c3 ?_
          refine mv rfl ?_
          refine gC rfl rfl (fun c4 => ?_) (fun c4 => ?_)
          · have c4' := c4; try simp only [inB_iff, Bool.and_eq_true, decide_eq_true_eq, decide_eq_false_iff_not, beq_iff_eq, beq_eq_false_iff_ne, bne_iff_ne, bne_eq_false_iff_eq, ne_eq] at c4'
            refine gG rfl rfl c4 ?_
            refine mv rfl ?_
            refine gG rfl rfl c4 ?_
            refine mv rfl ?_
            refine gG rfl rfl c4 ?_
            refine rBn (b := 1) rfl rfl (by omega) (by omega) ?_
            refine gG rfl rfl c4 ?_
            first
              | refine ixP rfl rfl (by first | (apply RdP.aok; with_reducible assumption) | exact AOk.own) (by first | with_reducible assumption | omega) ?_
              | refine ixR rfl rfl (by first | (apply RdR.aok; with_reducible assumption) | exact AOk.own) (by first | with_reducible assumption | omega) ?_
            refine gG rfl rfl c4 ?_
            refine fA rfl ?_
            refine gG rfl rfl c4 ?_
            refine ldRf1 rfl (by (first | with_reducible assumption | (apply RdR.mono; (· with_reducible assumption); · (try simp only [List.cons_append, List.nil_append, List.append_assoc]); repeat' first | with_reducible apply eR | with_reducible apply eA | ((with_reducible apply xA); · repeat first | with_reducible apply lH | with_reducible apply lT | with_reducible apply lL) | ((with_reducible apply xC); · repeat first | apply pH | with_reducible apply pT | with_reducible apply pL) | with_reducible assumption | with_reducible apply eS | with_reducible apply eL | exact eR) | (apply RdR.mono; (· (apply OwR.rdR; with_reducible assumption)); · (try simp only [List.cons_append, List.nil_append, List.append_assoc]); repeat' first | with_reducible apply eR | with_reducible apply eA | ((with_reducible apply xA); · repeat first | with_reducible apply lH | with_reducible apply lT | with_reducible apply lL) | ((with_reducible apply xC); · repeat first | apply pH | with_reducible apply pT | with_reducible apply pL) | with_reducible assumption | with_reducible apply eS | with_reducible apply eL | exact eR))) (by first | with_reducible assumption | omega) ?_
            refine gG rfl rfl c4 ?_
            refine fA rfl ?_
            refine gG rfl rfl c4 ?_
            first | refine rL rfl (by repeat first | with_reducible assumption | with_reducible apply List.mem_cons_self | with_reducible apply List.mem_cons_of_mem | with_reducible apply List.mem_append_right | exact List.Mem.head _) rfl rfl ?_ | refine rL rfl (by repeat first | with_reducible assumption | with_reducible apply List.mem_cons_self | with_reducible apply List.mem_cons_of_mem | with_reducible apply List.mem_append_right | exact List.Mem.head _) (by with_reducible assumption) rfl ?_
            refine gG rfl rfl c4 ?_
            refine bGtr rfl rfl ?_
            refine gG rfl rfl c3 ?_
            refine kT rfl c4 rfl ?_
            refine gG rfl rfl c2 ?_
            refine kF rfl c3 rfl ?_
            refine kT rfl c2 rfl ?_
            refine rN ?_
            refine qL1 (_) ?_ (by exact Nat.zero_lt_one) (by repeat first | exact Sub.nil _ | refine Sub.cons rfl ?_) (by (try simp only [List.cons_append, List.nil_append, List.append_assoc]); repeat' first | with_reducible apply eR | with_reducible apply eA | ((with_reducible apply xA); · repeat first | with_reducible apply lH | with_reducible apply lT | with_reducible apply lL) | ((with_reducible apply xC); · repeat first | apply pH | with_reducible apply pT | with_reducible apply pL) | with_reducible assumption | with_reducible apply eS | with_reducible apply eL | exact eR)
            first | (rw [decide_eq_false (show ¬ 0 < j by omega)]; rfl) | (rw [decide_eq_true (show 0 < j by omega)]; exact gtR_gt (by assumption)) | (rw [decide_eq_true (show 0 < j by omega)]; exact gtR_ne (by assumption) (by assumption)) | (rw [decide_eq_true (show 0 < j by omega)]; exact gtR_eq (by assumption) (by assumption))
          · have c4' := c4; try simp only [inB_iff, Bool.and_eq_true, decide_eq_true_eq, decide_eq_false_iff_not, beq_iff_eq, beq_eq_false_iff_ne, bne_iff_ne, bne_eq_false_iff_eq, ne_eq] at c4'
            refine gS rfl rfl c4 ?_
            refine gS rfl rfl c4 ?_
            refine gS rfl rfl c4 ?_
            refine gS rfl rfl c4 ?_
            refine gS rfl rfl c4 ?_
            refine gS rfl rfl c4 ?_
            refine gS rfl rfl c4 ?_
            refine gS rfl rfl c4 ?_
            refine gS rfl rfl c4 ?_
            refine gG rfl rfl c3 ?_
            refine kF rfl c4 rfl ?_
            refine gG rfl rfl c2 ?_
            refine kF rfl c3 rfl ?_
            refine kT rfl c2 rfl ?_
            refine rN ?_
            refine qL1 (_) ?_ (by exact Nat.zero_lt_one) (by repeat first | exact Sub.nil _ | refine Sub.cons rfl ?_) (by (try simp only [List.cons_append, List.nil_append, List.append_assoc]); repeat' first | with_reducible apply eR | with_reducible apply eA | ((with_reducible apply xA); · repeat first | with_reducible apply lH | with_reducible apply lT | with_reducible apply lL) | ((with_reducible apply xC); · repeat first | apply pH | with_reducible apply pT | with_reducible apply pL) | with_reducible assumption | with_reducible apply eS | with_reducible apply eL | exact eR)
            first | (rw [decide_eq_false (show ¬ 0 < j by omega)]; rfl) | (rw [decide_eq_true (show 0 < j by omega)]; exact gtR_gt (by assumption)) | (rw [decide_eq_true (show 0 < j by omega)]; exact gtR_ne (by assumption) (by assumption)) | (rw [decide_eq_true (show 0 < j by omega)]; exact gtR_eq (by assumption) (by assumption))
      · have c2' := c2; try simp only [inB_iff, Bool.and_eq_true, decide_eq_true_eq, decide_eq_false_iff_not, beq_iff_eq, beq_eq_false_iff_ne, bne_iff_ne, bne_eq_false_iff_eq, ne_eq] at c2'
        refine gS rfl rfl c2 ?_
        refine gS rfl rfl c2 ?_
        refine gS rfl rfl c2 ?_
        refine gS rfl rfl c2 ?_
        refine gS rfl rfl c2 ?_
        refine gS rfl rfl c2 ?_
        refine gS rfl rfl c2 ?_
        refine gS rfl rfl c2 ?_
        refine gS rfl rfl c2 ?_
        refine gS rfl rfl c2 ?_
        refine gN rfl rfl ?_
        refine gN rfl rfl ?_
        refine gN rfl rfl ?_
        refine gN rfl rfl ?_
        refine gN rfl rfl ?_
        refine gN rfl rfl ?_
        refine gN rfl rfl ?_
        refine gN rfl rfl ?_
        refine gN rfl rfl ?_
        refine gN rfl rfl ?_
        refine gN rfl rfl ?_
        refine gN rfl rfl ?_
        refine gN rfl rfl ?_
        refine gN rfl rfl ?_
        refine gN rfl rfl ?_
        refine gN rfl rfl ?_
        refine gN rfl rfl ?_
        refine gN rfl rfl ?_
        refine gN rfl rfl ?_
        refine gN rfl rfl ?_
        refine gS rfl rfl c2 ?_
        refine kF rfl c2 rfl ?_
        refine rN ?_
        refine qL1 (_) ?_ (by exact Nat.zero_lt_one) (by repeat first | exact Sub.nil _ | refine Sub.cons rfl ?_) (by (try simp only [List.cons_append, List.nil_append, List.append_assoc]); repeat' first | with_reducible apply eR | with_reducible apply eA | ((with_reducible apply xA); · repeat first | with_reducible apply lH | with_reducible apply lT | with_reducible apply lL) | ((with_reducible apply xC); · repeat first | apply pH | with_reducible apply pT | with_reducible apply pL) | with_reducible assumption | with_reducible apply eS | with_reducible apply eL | exact eR)
        first | (rw [decide_eq_false (show ¬ 0 < j by omega)]; rfl) | (rw [decide_eq_true (show 0 < j by omega)]; exact gtR_gt (by assumption)) | (rw [decide_eq_true (show 0 < j by omega)]; exact gtR_ne (by assumption) (by assumption)) | (rw [decide_eq_true (show 0 < j by omega)]; exact gtR_eq (by assumption) (by assumption))
    · rintro B rfl
      refine wT (T' := [(59, _), (0, _), (3, _), (5, _), (6, _), (10, _), (11, _)]) rfl ?_
      refine cC rfl (fun hB => ?_) (fun hB => ?_)
      · have hB' := hB; try simp only [inB_iff, Bool.and_eq_true, decide_eq_true_eq, decide_eq_false_iff_not, beq_iff_eq, beq_eq_false_iff_ne, bne_iff_ne, bne_eq_false_iff_eq, ne_eq] at hB'
        rw [Bool.and_eq_true, decide_eq_true_eq] at hB
        obtain ⟨hB1, hB2⟩ := hB
        refine cK ?_
        refine qN ?_
        refine cB ?_
        refine cR ?_
        refine mv rfl ?_
        refine rBn (b := 1) rfl rfl (by omega) (by omega) ?_
        refine asg rfl ?_
        refine rN ?_
        refine qBN ?_
        refine qL1 (j - 1) ?_ (by omega) (by repeat first | exact Sub.nil _ | refine Sub.cons rfl ?_) (by (try simp only [List.cons_append, List.nil_append, List.append_assoc]); repeat' first | with_reducible apply eR | with_reducible apply eA | ((with_reducible apply xA); · repeat first | with_reducible apply lH | with_reducible apply lT | with_reducible apply lL) | ((with_reducible apply xC); · repeat first | apply pH | with_reducible apply pT | with_reducible apply pL) | with_reducible assumption | with_reducible apply eS | with_reducible apply eL | exact eR)
        obtain ⟨k, rfl⟩ : ∃ k, j = k + 1 := ⟨j - 1, by omega⟩
        exact ⟨by omega, by rw [hp]; exact posN_y hB2⟩
      · have hB' := hB; try simp only [inB_iff, Bool.and_eq_true, decide_eq_true_eq, decide_eq_false_iff_not, beq_iff_eq, beq_eq_false_iff_ne, bne_iff_ne, bne_eq_false_iff_eq, ne_eq] at hB'
        have hpj : posN (fun k => gtR ((sortR fs i).getD k zR) (fs.getD i zR)) (sortR fs i).length = j := by rw [hsl, hp]; exact posN_at hB
        refine cX ?_
        refine qX ?_
        refine qL1X ?_
        refine qBX ?_
        refine qN ?_
        refine cM2 (fun (s2 : Value) (L2 : Mem) => [(7, s2)]) [(0, _), (3, _), (6, _), (10, _), (11, _)] (fun (s2 : Value) (L2 : Mem) => L2 ++ ((bk2, ⟨[.int .i64 (fs.getD i zR).w, .int .i64 (fs.getD i zR).d, .slice ad3 (fs.getD i zR).xs.length cn3], true⟩) :: (lk3 ++ (Lo ++ (Li ++ M))))) (fun (s2 : Value) (L2 : Mem) => OwC 3 L2 s2 (j + 1) (eCs (es.take j ++ [(fs.getD i zR, .slice ad3 (fs.getD i zR).xs.length cn3)]))) (by repeat first | exact Sub.nil _ | refine Sub.cons rfl ?_) ?_ ?_
        · refine cOK [1, 2, 3, 5] (.alt 0 (.alt 4 (.last 6 (.last 7 (.last 8 (.leaf [])))) (.last 6 (.last 4 (.last 7 (.last 8 (.leaf [])))))) (.last 6 (.last 0 (.last 4 (.last 7 (.last 8 (.leaf []))))))) (by repeat first | exact fineT | exact fineL | exact fineLQ1 | exact fineLQ2 | exact fineLQ3 | exact fineLQ4 | exact fineLQ5 | exact fineLQ6 | exact fineR | refine fineB ?_) (by kernel_rfl) ?_
          simp only [pur, List.map_cons, List.map_nil, pick, List.getElem?_toArray, List.getElem?_cons_zero, List.getElem?_cons_succ]
          refine mv rfl ?_
          refine mv rfl ?_
          first | refine slH rfl rfl (by first | with_reducible assumption | omega | (simp only [Bool.and_eq_true, inB_iff] at *; omega)) ?_ | refine slHi rfl rfl (by first | with_reducible assumption | omega | (simp only [Bool.and_eq_true, inB_iff] at *; omega)) (by first | with_reducible assumption | omega | (simp only [Bool.and_eq_true, inB_iff] at *; omega)) ?_
          refine rLA rfl (by repeat first | with_reducible assumption | with_reducible apply List.mem_cons_self | with_reducible apply List.mem_cons_of_mem | with_reducible apply List.mem_append_right | exact List.Mem.head _) rfl rfl ?_
          refine rN ?_
          refine okA ?_ ?_
          · simp only [pur, List.map_cons, List.map_nil, pick, List.getElem?_toArray, List.getElem?_cons_zero, List.getElem?_cons_succ]
            refine rB0 ?_; intro bk4
            refine rN ⟨(by (try simp only [List.cons_append, List.nil_append, List.append_assoc]); repeat' first | with_reducible apply eR | with_reducible apply eA | ((with_reducible apply xA); · repeat first | with_reducible apply lH | with_reducible apply lT | with_reducible apply lL) | ((with_reducible apply xC); · repeat first | apply pH | with_reducible apply pT | with_reducible apply pL) | with_reducible assumption | with_reducible apply eS | with_reducible apply eL | exact eR), ?_⟩
            refine okA ?_ ?_
            · simp only [pur, List.map_cons, List.map_nil, pick, List.getElem?_toArray, List.getElem?_cons_zero, List.getElem?_cons_succ]
              refine apC (by decide) (by intro _ h; cases h <;> rfl) rfl rfl OwC.lit0 (by repeat first | with_reducible apply pmH | apply pmS | with_reducible apply pmT | with_reducible apply pmL) ((ho.cutH (by decide) hj).mono (by (try simp only [List.cons_append, List.nil_append, List.append_assoc]); repeat' first | with_reducible apply eR | with_reducible apply eA | ((with_reducible apply xA); · repeat first | with_reducible apply lH | with_reducible apply lT | with_reducible apply lL) | ((with_reducible apply xC); · repeat first | apply pH | with_reducible apply pT | with_reducible apply pL) | with_reducible assumption | with_reducible apply eS | with_reducible apply eL | exact eR)) (hE.flatT _) (by omega) (by omega) ?_
              intro sv66 lk66 how66
              simp only [Nat.zero_add, List.nil_append] at how66
              refine rN ⟨(by (try simp only [List.cons_append, List.nil_append, List.append_assoc]); repeat' first | with_reducible apply eR | with_reducible apply eA | ((with_reducible apply xA); · repeat first | with_reducible apply lH | with_reducible apply lT | with_reducible apply lL) | ((with_reducible apply xC); · repeat first | apply pH | with_reducible apply pT | with_reducible apply pL) | with_reducible assumption | with_reducible apply eS | with_reducible apply eL | exact eR), ?_⟩
              refine okL ?_
              simp only [pur, List.map_cons, List.map_nil, pick, List.getElem?_toArray, List.getElem?_cons_zero, List.getElem?_cons_succ]
              refine rB3 rfl ?_
              intro bk68
              refine rN ⟨(by (try simp only [List.cons_append, List.nil_append, List.append_assoc]); repeat' first | with_reducible apply eR | with_reducible apply eA | ((with_reducible apply xA); · repeat first | with_reducible apply lH | with_reducible apply lT | with_reducible apply lL) | ((with_reducible apply xC); · repeat first | apply pH | with_reducible apply pT | with_reducible apply pL) | with_reducible assumption | with_reducible apply eS | with_reducible apply eL | exact eR), ?_⟩
              refine okL ?_
              simp only [pur, List.map_cons, List.map_nil, pick, List.getElem?_toArray, List.getElem?_cons_zero, List.getElem?_cons_succ]
              refine apC (by decide) (by intro _ h; cases h <;> rfl) rfl rfl how66 (by repeat first | with_reducible apply pmH | apply pmS | with_reducible apply pmT | with_reducible apply pmL) (rdC_head (by repeat first | with_reducible assumption | with_reducible apply List.mem_cons_self | with_reducible apply List.mem_cons_of_mem | with_reducible apply List.mem_append_right | exact List.Mem.head _)) one_flat (by omega) (by omega) ?_
              intro sv69 lk69 how69
              refine rN ⟨(by (try simp only [List.cons_append, List.nil_append, List.append_assoc]); repeat' first | with_reducible apply eR | with_reducible apply eA | ((with_reducible apply xA); · repeat first | with_reducible apply lH | with_reducible apply lT | with_reducible apply lL) | ((with_reducible apply xC); · repeat first | apply pH | with_reducible apply pT | with_reducible apply pL) | with_reducible assumption | with_reducible apply eS | with_reducible apply eL | exact eR), ?_⟩
              refine okL ?_
              simp only [pur, List.map_cons, List.map_nil, pick, List.getElem?_toArray, List.getElem?_cons_zero, List.getElem?_cons_succ]
              refine asg rfl ?_
              refine rN ⟨(by (try simp only [List.cons_append, List.nil_append, List.append_assoc]); repeat' first | with_reducible apply eR | with_reducible apply eA | ((with_reducible apply xA); · repeat first | with_reducible apply lH | with_reducible apply lT | with_reducible apply lL) | ((with_reducible apply xC); · repeat first | apply pH | with_reducible apply pT | with_reducible apply pL) | with_reducible assumption | with_reducible apply eS | with_reducible apply eL | exact eR), ?_⟩
              refine okF ?_
              refine qL2 (_) (lk69) ?_ (by exact Nat.zero_lt_one) (by repeat first | exact Sub.nil _ | refine Sub.cons rfl ?_) (by (try simp only [List.cons_append, List.nil_append, List.append_assoc]); repeat' first | with_reducible apply eR | with_reducible apply eA | ((with_reducible apply xA); · repeat first | with_reducible apply lH | with_reducible apply lT | with_reducible apply lL) | ((with_reducible apply xC); · repeat first | apply pH | with_reducible apply pT | with_reducible apply pL) | with_reducible assumption | with_reducible apply eS | with_reducible apply eL | exact eR)
              first | (rw [eCs_app, ← eCs_take]; exact how69)
            · refine okL ?_
              simp only [pur, List.map_cons, List.map_nil, pick, List.getElem?_toArray, List.getElem?_cons_zero, List.getElem?_cons_succ]
              refine rB3 rfl ?_
              intro bk68
              refine rN ⟨(by (try simp only [List.cons_append, List.nil_append, List.append_assoc]); repeat' first | with_reducible apply eR | with_reducible apply eA | ((with_reducible apply xA); · repeat first | with_reducible apply lH | with_reducible apply lT | with_reducible apply lL) | ((with_reducible apply xC); · repeat first | apply pH | with_reducible apply pT | with_reducible apply pL) | with_reducible assumption | with_reducible apply eS | with_reducible apply eL | exact eR), ?_⟩
              refine okL ?_
              simp only [pur, List.map_cons, List.map_nil, pick, List.getElem?_toArray, List.getElem?_cons_zero, List.getElem?_cons_succ]
              refine apC (by decide) (by intro _ h; cases h <;> rfl) rfl rfl OwC.lit0 (by repeat first | with_reducible apply pmH | apply pmS | with_reducible apply pmT | with_reducible apply pmL) ((ho.cutH (by decide) hj).mono (by (try simp only [List.cons_append, List.nil_append, List.append_assoc]); repeat' first | with_reducible apply eR | with_reducible apply eA | ((with_reducible apply xA); · repeat first | with_reducible apply lH | with_reducible apply lT | with_reducible apply lL) | ((with_reducible apply xC); · repeat first | apply pH | with_reducible apply pT | with_reducible apply pL) | with_reducible assumption | with_reducible apply eS | with_reducible apply eL | exact eR)) (hE.flatT _) (by omega) (by omega) ?_
              intro sv66 lk66 how66
              simp only [Nat.zero_add, List.nil_append] at how66
              refine rN ⟨(by (try simp only [List.cons_append, List.nil_append, List.append_assoc]); repeat' first | with_reducible apply eR | with_reducible apply eA | ((with_reducible apply xA); · repeat first | with_reducible apply lH | with_reducible apply lT | with_reducible apply lL) | ((with_reducible apply xC); · repeat first | apply pH | with_reducible apply pT | with_reducible apply pL) | with_reducible assumption | with_reducible apply eS | with_reducible apply eL | exact eR), ?_⟩
              refine okL ?_
              simp only [pur, List.map_cons, List.map_nil, pick, List.getElem?_toArray, List.getElem?_cons_zero, List.getElem?_cons_succ]
              refine apC (by decide) (by intro _ h; cases h <;> rfl) rfl rfl how66 (by repeat first | with_reducible apply pmH | apply pmS | with_reducible apply pmT | with_reducible apply pmL) (rdC_head (by repeat first | with_reducible assumption | with_reducible apply List.mem_cons_self | with_reducible apply List.mem_cons_of_mem | with_reducible apply List.mem_append_right | exact List.Mem.head _)) one_flat (by omega) (by omega) ?_
              intro sv69 lk69 how69
              refine rN ⟨(by (try simp only [List.cons_append, List.nil_append, List.append_assoc]); repeat' first | with_reducible apply eR | with_reducible apply eA | ((with_reducible apply xA); · repeat first | with_reducible apply lH | with_reducible apply lT | with_reducible apply lL) | ((with_reducible apply xC); · repeat first | apply pH | with_reducible apply pT | with_reducible apply pL) | with_reducible assumption | with_reducible apply eS | with_reducible apply eL | exact eR), ?_⟩
              refine okL ?_
              simp only [pur, List.map_cons, List.map_nil, pick, List.getElem?_toArray, List.getElem?_cons_zero, List.getElem?_cons_succ]
              refine asg rfl ?_
              refine rN ⟨(by (try simp only [List.cons_append, List.nil_append, List.append_assoc]); repeat' first | with_reducible apply eR | with_reducible apply eA | ((with_reducible apply xA); · repeat first | with_reducible apply lH | with_reducible apply lT | with_reducible apply lL) | ((with_reducible apply xC); · repeat first | apply pH | with_reducible apply pT | with_reducible apply pL) | with_reducible assumption | with_reducible apply eS | with_reducible apply eL | exact eR), ?_⟩
              refine okF ?_
              refine qL2 (_) (lk69) ?_ (by exact Nat.zero_lt_one) (by repeat first | exact Sub.nil _ | refine Sub.cons rfl ?_) (by (try simp only [List.cons_append, List.nil_append, List.append_assoc]); repeat' first | with_reducible apply eR | with_reducible apply eA | ((with_reducible apply xA); · repeat first | with_reducible apply lH | with_reducible apply lT | with_reducible apply lL) | ((with_reducible apply xC); · repeat first | apply pH | with_reducible apply pT | with_reducible apply pL) | with_reducible assumption | with_reducible apply eS | with_reducible apply eL | exact eR)
              first | (rw [eCs_app, ← eCs_take]; exact how69)
          · refine okL ?_
            simp only [pur, List.map_cons, List.map_nil, pick, List.getElem?_toArray, List.getElem?_cons_zero, List.getElem?_cons_succ]
            refine rB3 rfl ?_
            intro bk68
            refine rN ⟨(by (try simp only [List.cons_append, List.nil_append, List.append_assoc]); repeat' first | with_reducible apply eR | with_reducible apply eA | ((with_reducible apply xA); · repeat first | with_reducible apply lH | with_reducible apply lT | with_reducible apply lL) | ((with_reducible apply xC); · repeat first | apply pH | with_reducible apply pT | with_reducible apply pL) | with_reducible assumption | with_reducible apply eS | with_reducible apply eL | exact eR), ?_⟩
            refine okL ?_
            simp only [pur, List.map_cons, List.map_nil, pick, List.getElem?_toArray, List.getElem?_cons_zero, List.getElem?_cons_succ]
            refine rB0 ?_; intro bk5
            refine rN ⟨(by (try simp only [List.cons_append, List.nil_append, List.append_assoc]); repeat' first | with_reducible apply eR | with_reducible apply eA | ((with_reducible apply xA); · repeat first | with_reducible apply lH | with_reducible apply lT | with_reducible apply lL) | ((with_reducible apply xC); · repeat first | apply pH | with_reducible apply pT | with_reducible apply pL) | with_reducible assumption | with_reducible apply eS | with_reducible apply eL | exact eR), ?_⟩
            refine okL ?_
            simp only [pur, List.map_cons, List.map_nil, pick, List.getElem?_toArray, List.getElem?_cons_zero, List.getElem?_cons_succ]
            refine apC (by decide) (by intro _ h; cases h <;> rfl) rfl rfl OwC.lit0 (by repeat first | with_reducible apply pmH | apply pmS | with_reducible apply pmT | with_reducible apply pmL) ((ho.cutH (by decide) hj).mono (by (try simp only [List.cons_append, List.nil_append, List.append_assoc]); repeat' first | with_reducible apply eR | with_reducible apply eA | ((with_reducible apply xA); · repeat first | with_reducible apply lH | with_reducible apply lT | with_reducible apply lL) | ((with_reducible apply xC); · repeat first | apply pH | with_reducible apply pT | with_reducible apply pL) | with_reducible assumption | with_reducible apply eS | with_reducible apply eL | exact eR)) (hE.flatT _) (by omega) (by omega) ?_
            intro sv66 lk66 how66
            simp only [Nat.zero_add, List.nil_append] at how66
            refine rN ⟨(by (try simp only [List.cons_append, List.nil_append, List.append_assoc]); repeat' first | with_reducible apply eR | with_reducible apply eA | ((with_reducible apply xA); · repeat first | with_reducible apply lH | with_reducible apply lT | with_reducible apply lL) | ((with_reducible apply xC); · repeat first | apply pH | with_reducible apply pT | with_reducible apply pL) | with_reducible assumption | with_reducible apply eS | with_reducible apply eL | exact eR), ?_⟩
            refine okL ?_
            simp only [pur, List.map_cons, List.map_nil, pick, List.getElem?_toArray, List.getElem?_cons_zero, List.getElem?_cons_succ]
            refine apC (by decide) (by intro _ h; cases h <;> rfl) rfl rfl how66 (by repeat first | with_reducible apply pmH | apply pmS | with_reducible apply pmT | with_reducible apply pmL) (rdC_head (by repeat first | with_reducible assumption | with_reducible apply List.mem_cons_self | with_reducible apply List.mem_cons_of_mem | with_reducible apply List.mem_append_right | exact List.Mem.head _)) one_flat (by omega) (by omega) ?_
            intro sv69 lk69 how69
            refine rN ⟨(by (try simp only [List.cons_append, List.nil_append, List.append_assoc]); repeat' first | with_reducible apply eR | with_reducible apply eA | ((with_reducible apply xA); · repeat first | with_reducible apply lH | with_reducible apply lT | with_reducible apply lL) | ((with_reducible apply xC); · repeat first | apply pH | with_reducible apply pT | with_reducible apply pL) | with_reducible assumption | with_reducible apply eS | with_reducible apply eL | exact eR), ?_⟩
            refine okL ?_
            simp only [pur, List.map_cons, List.map_nil, pick, List.getElem?_toArray, List.getElem?_cons_zero, List.getElem?_cons_succ]
            refine asg rfl ?_
            refine rN ⟨(by (try simp only [List.cons_append, List.nil_append, List.append_assoc]); repeat' first | with_reducible apply eR | with_reducible apply eA | ((with_reducible apply xA); · repeat first | with_reducible apply lH | with_reducible apply lT | with_reducible apply lL) | ((with_reducible apply xC); · repeat first | apply pH | with_reducible apply pT | with_reducible apply pL) | with_reducible assumption | with_reducible apply eS | with_reducible apply eL | exact eR), ?_⟩
            refine okF ?_
            refine qL2 (_) (lk69) ?_ (by exact Nat.zero_lt_one) (by repeat first | exact Sub.nil _ | refine Sub.cons rfl ?_) (by (try simp only [List.cons_append, List.nil_append, List.append_assoc]); repeat' first | with_reducible apply eR | with_reducible apply eA | ((with_reducible apply xA); · repeat first | with_reducible apply lH | with_reducible apply lT | with_reducible apply lL) | ((with_reducible apply xC); · repeat first | apply pH | with_reducible apply pT | with_reducible apply pL) | with_reducible assumption | with_reducible apply eS | with_reducible apply eL | exact eR)
            first | (rw [eCs_app, ← eCs_take]; exact how69)
        · rintro s2 L2 ho2
          refine wT (T' := [(7, _), (0, _), (3, _), (6, _), (10, _), (11, _)]) rfl ?_
          refine cR ?_
          refine mv rfl ?_
          refine mv rfl ?_
          refine mv rfl ?_
          first | refine slL rfl rfl (by first | with_reducible assumption | omega | (simp only [Bool.and_eq_true, inB_iff] at *; omega)) (by first | with_reducible assumption | omega | (simp only [Bool.and_eq_true, inB_iff] at *; omega)) ?_ | refine slLi rfl rfl (by first | with_reducible assumption | omega | (simp only [Bool.and_eq_true, inB_iff] at *; omega)) (by first | with_reducible assumption | omega | (simp only [Bool.and_eq_true, inB_iff] at *; omega)) (by first | with_reducible assumption | omega | (simp only [Bool.and_eq_true, inB_iff] at *; omega)) ?_
          refine apC (by decide) (by intro _ h; cases h <;> rfl) rfl rfl ho2 (by repeat first | with_reducible apply pmH | apply pmS | with_reducible apply pmT | with_reducible apply pmL) ((ho.cutL (by decide) hj).mono (by (try simp only [List.cons_append, List.nil_append, List.append_assoc]); repeat' first | with_reducible apply eR | with_reducible apply eA | ((with_reducible apply xA); · repeat first | with_reducible apply lH | with_reducible apply lT | with_reducible apply lL) | ((with_reducible apply xC); · repeat first | apply pH | with_reducible apply pT | with_reducible apply pL) | with_reducible assumption | with_reducible apply eS | with_reducible apply eL | exact eR)) (hE.flatD _) (by omega) (by omega) ?_
          intro sv74 lk74 how74
          refine asg rfl ?_
          refine rN ?_
          refine qBN ?_
          refine qN ?_
          refine cR ?_
          first | refine rAn (b := 1) rfl rfl (by omega) ?_ | refine rA rfl rfl (by omega) (by omega) ?_ | refine bAdd rfl rfl ?_
          refine mv rfl ?_
          refine rN ?_
          refine qL4 (i + 1) (_) (lk74) (lk3 ++ Li) ?_ (by omega) (by repeat first | exact Sub.nil _ | refine Sub.cons rfl ?_) (by (try simp only [List.cons_append, List.nil_append, List.append_assoc]); repeat' first | with_reducible apply eR | with_reducible apply eA | ((with_reducible apply xA); · repeat first | with_reducible apply lH | with_reducible apply lT | with_reducible apply lL) | ((with_reducible apply xC); · repeat first | apply pH | with_reducible apply pT | with_reducible apply pL) | with_reducible assumption | with_reducible apply eS | with_reducible apply eL | exact eR)
          rw [show j + 1 + (i - j) = i + 1 from by omega, eCs_ins] at how74
          exact ⟨by omega, _, ins_map (x := (fs.getD i zR, .slice ad3 (fs.getD i zR).xs.length cn3)) hes hpj, how74, OwE.ins (x := (fs.getD i zR, .slice ad3 (fs.getD i zR).xs.length cn3)) how3 hE⟩
  · have c1' := c1; try simp only [inB_iff, Bool.and_eq_true, decide_eq_true_eq, decide_eq_false_iff_not, beq_iff_eq, beq_eq_false_iff_ne, bne_iff_ne, bne_eq_false_iff_eq, ne_eq] at c1'
    have : i = fs.length := by omega
    subst this
    refine cX ?_
    refine qX ?_
    refine qL4X ?_
    refine qBX ?_
    refine qN ?_
    refine cS (cR ?_)
    refine mv rfl ?_
    refine asg rfl ?_
    refine rN ?_
    refine qN ?_
    refine cE ?_
    refine kE rfl rfl  ?_
    first | (exfalso; contradiction) | exact ⟨_, ⟨_, hor, rfl⟩, (by (try simp only [List.cons_append, List.nil_append, List.append_assoc]); repeat' first | with_reducible apply eR | with_reducible apply eA | ((with_reducible apply xA); · repeat first | with_reducible apply lH | with_reducible apply lT | with_reducible apply lL) | ((with_reducible apply xC); · repeat first | apply pH | with_reducible apply pT | with_reducible apply pL) | with_reducible assumption | with_reducible apply eS | with_reducible apply eL | exact eR)⟩ | (exfalso; first | contradiction | omega | (simp_all; done) | (simp_all; omega))
end Go.Proofs.Ytnikglngipbahaa.Ab
