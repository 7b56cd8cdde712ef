/-
  The walk of the law FnExactOfStation.
-/
import Derived.Test.YtnikglngipbahaaRf
import Derived.Test.YtnikglngipbahaaLRs
namespace Go.Proofs.Ytnikglngipbahaa.Ab
open Go Go.RowKit
attribute [local irreducible] Run Then InBlock LoopQ LQ1 LQ2 LQ3 LQ4 LQ5 LQ6 AWp Ret ACall
set_option linter.unusedVariables false
set_option linter.unusedSimpArgs false

theorem totL_sub : ∀ {a b : List (List Nat)}, a.Sublist b → totL a ≤ totL b := by
  intro a b p
  induction p with
  | slnil => exact Nat.le_refl _
  | cons x _ ih => show _ ≤ x.length + totL _; omega
  | cons_cons x _ ih => show x.length + totL _ ≤ x.length + totL _; omega
theorem totR_sub {a b : List Frm} (p : a.Sublist b) : totR a ≤ totR b := by
  have h1 := p.length_le
  have h2 := totL_sub (p.map Frm.xs)
  unfold totR; omega
theorem ofR_sub (fs : List Frm) (s : Int) : (ofR fs s).Sublist (sortR fs fs.length) := List.filter_sublist
theorem ofR_mem {fs : List Frm} {s : Int} {f : Frm} (h : f ∈ ofR fs s) : f ∈ fs := (sortR_perm fs).mem_iff.1 ((ofR_sub fs s).subset h)
theorem res_boundsB {B : Bool} {fs gs : List Frm} (h : B = true → afB fs = true ∧ (∀ g ∈ gs, g ∈ fs) ∧ gs.length ≤ 12 ∧ totR gs ≤ totR fs) :
    (bif B then gs else []).length ≤ 12 ∧ totR (bif B then gs else []) ≤ totR fs ∧ ∀ i, i < (bif B then gs else []).length → ((bif B then gs else []).getD i zR).xs.length ≤ 1048576 := by
  cases hB : B with
  | false => exact ⟨by simp, by simp [totR, totL], fun i hi => by simp at hi⟩
  | true =>
    obtain ⟨h0, h1, h2, h3⟩ := h hB
    simp only [cond_true]
    refine ⟨h2, h3, fun i hi => ?_⟩
    have := vR_len (afB_mem h0 _ (h1 _ (mem_getD (z := zR) hi)))
    omega
set_option maxHeartbeats 2000000 in
theorem c_lawOfStation (a : Option Addr) (n c : Nat) (fs : List Frm) (s : Int) (M : Mem) (h : RdR M a n fs) (hn : n ≤ 9223372036854775807) (hxs0 : ∀ i, i < n → (fs.getD i zR).xs.length ≤ 9223372036854775807) :
    ACall Try.prog 6 [.slice a n c, .int .i64 s] M fun v M' => v = .bool true ∧ M' = M := by
  obtain ⟨rfl, _⟩ := id h
  obtain ⟨hb1, hb2, hb3⟩ := res_boundsB (B := stB fs s) (fs := fs) (gs := ofR fs s) fun hB => ⟨by unfold stB at hB; rw [Bool.and_eq_true] at hB; exact hB.1, fun g hg => ofR_mem hg, Nat.le_trans (ofR_sub fs s).length_le (by rw [sortG_len]; exact stB_len hB), Nat.le_trans (totR_sub (ofR_sub fs s)) (by rw [totR_perm (sortR_perm fs)]; exact Nat.le_refl _)⟩
  skip
  refine acall_of_awp Try.func6 rfl Try.ntmps6 rfl ?_
  refine cS (cR ?_)
  refine asg rfl ?_
  refine rN ?_
  refine qN ?_
  refine cS (cR ?_)
  refine asg rfl ?_
  refine rN ?_
  refine qN ?_
  refine cS (cR ?_)
  refine mv rfl ?_
  refine mv rfl ?_
  refine rCq rfl (c_szFrameS _ _ _ _ _ _ (by (first | with_reducible assumption | (apply RdR.mono; (· with_reducible assumption); · (try simp only [List.cons_append, List.nil_append, List.append_assoc]); repeat' first | with_reducible apply eR | with_reducible apply eA | ((with_reducible apply xA); · repeat first | with_reducible apply lH | with_reducible apply lT | with_reducible apply lL) | ((with_reducible apply xC); · repeat first | apply pH | with_reducible apply pT | with_reducible apply pL) | with_reducible assumption | with_reducible apply eS | with_reducible apply eL | exact eR) | (apply RdR.mono; (· (apply OwR.rdR; with_reducible assumption)); · (try simp only [List.cons_append, List.nil_append, List.append_assoc]); repeat' first | with_reducible apply eR | with_reducible apply eA | ((with_reducible apply xA); · repeat first | with_reducible apply lH | with_reducible apply lT | with_reducible apply lL) | ((with_reducible apply xC); · repeat first | apply pH | with_reducible apply pT | with_reducible apply pL) | with_reducible assumption | with_reducible apply eS | with_reducible apply eL | exact eR))) (by first | with_reducible assumption | omega | (simp only [Bool.and_eq_true, inB_iff] at *; omega)) (by first | with_reducible assumption | omega | (simp only [Bool.and_eq_true, inB_iff] at *; omega)) (by first | assumption | omega) (by assumption)) ?_
  refine asg rfl ?_
  refine rN ?_
  refine qN ?_
  refine cS ?_
  refine cS (cR ?_)
  refine mv rfl ?_
  refine bLss rfl rfl ?_
  refine rN ?_
  refine qN ?_
  refine cC rfl (fun c1 => ?_) (fun c1 => ?_)
  · have c1' := c1; try simp only [inB_iff, Bool.and_eq_true, decide_eq_true_eq, decide_eq_false_iff_not, beq_iff_eq, beq_eq_false_iff_ne, bne_iff_ne, bne_eq_false_iff_eq, ne_eq] at c1'
    refine cS (cR ?_)
    refine asg rfl ?_
    refine rN ?_
    refine qN ?_
    refine cE ?_
    refine qE ?_
    refine kE rfl rfl  ?_
    first | (exfalso; contradiction) | exact ⟨_, ⟨rfl, rfl⟩, (by (try simp only [List.cons_append, List.nil_append, List.append_assoc]); repeat' first | with_reducible apply eR | with_reducible apply eA | ((with_reducible apply xA); · repeat first | with_reducible apply lH | with_reducible apply lT | with_reducible apply lL) | ((with_reducible apply xC); · repeat first | apply pH | with_reducible apply pT | with_reducible apply pL) | with_reducible assumption | with_reducible apply eS | with_reducible apply eL | exact eR)⟩ | (exfalso; first | contradiction | omega | (simp_all; done) | (simp_all; omega))
  have c1' := c1; try simp only [inB_iff, Bool.and_eq_true, decide_eq_true_eq, decide_eq_false_iff_not, beq_iff_eq, beq_eq_false_iff_ne, bne_iff_ne, bne_eq_false_iff_eq, ne_eq] at c1'
  first | have c1z := szI_ge c1 | have c1z := szR_ge c1 | have c1z := szG_ge c1
  refine cK ?_
  refine qN ?_
  refine cS (cR ?_)
  refine mv rfl ?_
  refine rC rfl (c_toFrameS _ _ _ _ _ (by (first | with_reducible assumption | (apply RdR.mono; (· with_reducible assumption); · (try simp only [List.cons_append, List.nil_append, List.append_assoc]); repeat' first | with_reducible apply eR | with_reducible apply eA | ((with_reducible apply xA); · repeat first | with_reducible apply lH | with_reducible apply lT | with_reducible apply lL) | ((with_reducible apply xC); · repeat first | apply pH | with_reducible apply pT | with_reducible apply pL) | with_reducible assumption | with_reducible apply eS | with_reducible apply eL | exact eR) | (apply RdR.mono; (· (apply OwR.rdR; with_reducible assumption)); · (try simp only [List.cons_append, List.nil_append, List.append_assoc]); repeat' first | with_reducible apply eR | with_reducible apply eA | ((with_reducible apply xA); · repeat first | with_reducible apply lH | with_reducible apply lT | with_reducible apply lL) | ((with_reducible apply xC); · repeat first | apply pH | with_reducible apply pT | with_reducible apply pL) | with_reducible assumption | with_reducible apply eS | with_reducible apply eL | exact eR))) (by first | with_reducible assumption | omega | (simp only [Bool.and_eq_true, inB_iff] at *; omega)) (by first | assumption | exact fun i hi => by have := c1z.2 i hi; omega)) ?_
  rintro sv1 _ ⟨lk1, how1, rfl⟩
  obtain ⟨ad1, cn1, rfl, hrd1⟩ := how1.rd
  have hcn1 := how1.capl
  refine ⟨fun _ => eL eR, ?_⟩
  refine mv rfl ?_
  refine rC rfl (c_specOfStation _ _ _ fs _ _ (by (first | with_reducible assumption | (apply RdR.mono; (· with_reducible assumption); · (try simp only [List.cons_append, List.nil_append, List.append_assoc]); repeat' first | with_reducible apply eR | with_reducible apply eA | ((with_reducible apply xA); · repeat first | with_reducible apply lH | with_reducible apply lT | with_reducible apply lL) | ((with_reducible apply xC); · repeat first | apply pH | with_reducible apply pT | with_reducible apply pL) | with_reducible assumption | with_reducible apply eS | with_reducible apply eL | exact eR) | (apply RdR.mono; (· (apply OwR.rdR; with_reducible assumption)); · (try simp only [List.cons_append, List.nil_append, List.append_assoc]); repeat' first | with_reducible apply eR | with_reducible apply eA | ((with_reducible apply xA); · repeat first | with_reducible apply lH | with_reducible apply lT | with_reducible apply lL) | ((with_reducible apply xC); · repeat first | apply pH | with_reducible apply pT | with_reducible apply pL) | with_reducible assumption | with_reducible apply eS | with_reducible apply eL | exact eR))) (by first | with_reducible assumption | omega | (simp only [Bool.and_eq_true, inB_iff] at *; omega)) (by first | assumption | exact fun i hi => by have := c1z.2 i hi; omega)) ?_
  rintro _ _ ⟨lk2, ⟨sv2, rfl, how2⟩, rfl⟩
  obtain ⟨ad2, cn2, rfl, hrd2⟩ := how2.rd
  have hcn2 := how2.capl
  refine ⟨fun _ => eL eR, ?_⟩
  refine mv rfl ?_
  refine xt rfl rfl rfl ?_
  refine xt rfl rfl rfl ?_
  refine asg rfl ?_
  refine asg rfl ?_
  refine rN ?_
  refine qN ?_
  refine cS (cR ?_)
  refine mv rfl ?_
  refine rC rfl (c_toFrameS _ _ _ _ _ (by (first | with_reducible assumption | (apply RdR.mono; (· with_reducible assumption); · (try simp only [List.cons_append, List.nil_append, List.append_assoc]); repeat' first | with_reducible apply eR | with_reducible apply eA | ((with_reducible apply xA); · repeat first | with_reducible apply lH | with_reducible apply lT | with_reducible apply lL) | ((with_reducible apply xC); · repeat first | apply pH | with_reducible apply pT | with_reducible apply pL) | with_reducible assumption | with_reducible apply eS | with_reducible apply eL | exact eR) | (apply RdR.mono; (· (apply OwR.rdR; with_reducible assumption)); · (try simp only [List.cons_append, List.nil_append, List.append_assoc]); repeat' first | with_reducible apply eR | with_reducible apply eA | ((with_reducible apply xA); · repeat first | with_reducible apply lH | with_reducible apply lT | with_reducible apply lL) | ((with_reducible apply xC); · repeat first | apply pH | with_reducible apply pT | with_reducible apply pL) | with_reducible assumption | with_reducible apply eS | with_reducible apply eL | exact eR))) (by first | with_reducible assumption | omega | (simp only [Bool.and_eq_true, inB_iff] at *; omega)) (by first | assumption | exact fun i hi => by have := c1z.2 i hi; omega)) ?_
  rintro sv3 _ ⟨lk3, how3, rfl⟩
  obtain ⟨ad3, cn3, rfl, hrd3⟩ := how3.rd
  have hcn3 := how3.capl
  refine ⟨fun _ => eL eR, ?_⟩
  refine asg rfl ?_
  refine rN ?_
  refine qN ?_
  refine cS (cR ?_)
  refine mv rfl ?_
  refine mv rfl ?_
  refine rC rfl (c_implOfStation _ _ _ fs _ _ (by (first | with_reducible assumption | (apply RdR.mono; (· with_reducible assumption); · (try simp only [List.cons_append, List.nil_append, List.append_assoc]); repeat' first | with_reducible apply eR | with_reducible apply eA | ((with_reducible apply xA); · repeat first | with_reducible apply lH | with_reducible apply lT | with_reducible apply lL) | ((with_reducible apply xC); · repeat first | apply pH | with_reducible apply pT | with_reducible apply pL) | with_reducible assumption | with_reducible apply eS | with_reducible apply eL | exact eR) | (apply RdR.mono; (· (apply OwR.rdR; with_reducible assumption)); · (try simp only [List.cons_append, List.nil_append, List.append_assoc]); repeat' first | with_reducible apply eR | with_reducible apply eA | ((with_reducible apply xA); · repeat first | with_reducible apply lH | with_reducible apply lT | with_reducible apply lL) | ((with_reducible apply xC); · repeat first | apply pH | with_reducible apply pT | with_reducible apply pL) | with_reducible assumption | with_reducible apply eS | with_reducible apply eL | exact eR))) (by first | with_reducible assumption | omega | (simp only [Bool.and_eq_true, inB_iff] at *; omega)) (by first | assumption | exact fun i hi => by have := c1z.2 i hi; omega)) ?_
  rintro _ _ ⟨lk4, ⟨sv4, rfl, how4⟩, rfl⟩
  obtain ⟨ad4, cn4, rfl, hrd4⟩ := how4.rd
  have hcn4 := how4.capl
  refine ⟨fun _ => eL eR, ?_⟩
  refine mv rfl ?_
  refine xt rfl rfl rfl ?_
  refine xt rfl rfl rfl ?_
  refine asg rfl ?_
  refine asg rfl ?_
  refine rN ?_
  refine qN ?_
  refine cS ?_
  refine cS (cR ?_)
  refine mv rfl ?_
  refine mv rfl ?_
  refine rCq rfl (c_eqFrameS _ _ _ _ _ _ _ _ (by (first | with_reducible assumption | (apply RdR.mono; (· with_reducible assumption); · (try simp only [List.cons_append, List.nil_append, List.append_assoc]); repeat' first | with_reducible apply eR | with_reducible apply eA | ((with_reducible apply xA); · repeat first | with_reducible apply lH | with_reducible apply lT | with_reducible apply lL) | ((with_reducible apply xC); · repeat first | apply pH | with_reducible apply pT | with_reducible apply pL) | with_reducible assumption | with_reducible apply eS | with_reducible apply eL | exact eR) | (apply RdR.mono; (· (apply OwR.rdR; with_reducible assumption)); · (try simp only [List.cons_append, List.nil_append, List.append_assoc]); repeat' first | with_reducible apply eR | with_reducible apply eA | ((with_reducible apply xA); · repeat first | with_reducible apply lH | with_reducible apply lT | with_reducible apply lL) | ((with_reducible apply xC); · repeat first | apply pH | with_reducible apply pT | with_reducible apply pL) | with_reducible assumption | with_reducible apply eS | with_reducible apply eL | exact eR))) (by (first | with_reducible assumption | (apply RdR.mono; (· with_reducible assumption); · (try simp only [List.cons_append, List.nil_append, List.append_assoc]); repeat' first | with_reducible apply eR | with_reducible apply eA | ((with_reducible apply xA); · repeat first | with_reducible apply lH | with_reducible apply lT | with_reducible apply lL) | ((with_reducible apply xC); · repeat first | apply pH | with_reducible apply pT | with_reducible apply pL) | with_reducible assumption | with_reducible apply eS | with_reducible apply eL | exact eR) | (apply RdR.mono; (· (apply OwR.rdR; with_reducible assumption)); · (try simp only [List.cons_append, List.nil_append, List.append_assoc]); repeat' first | with_reducible apply eR | with_reducible apply eA | ((with_reducible apply xA); · repeat first | with_reducible apply lH | with_reducible apply lT | with_reducible apply lL) | ((with_reducible apply xC); · repeat first | apply pH | with_reducible apply pT | with_reducible apply pL) | with_reducible assumption | with_reducible apply eS | with_reducible apply eL | exact eR))) (by first | with_reducible assumption | omega | (simp only [Bool.and_eq_true, inB_iff] at *; omega)) (by first | assumption | exact fun i hi => by have := c1z.2 i hi; omega)) ?_
  refine uNot rfl ?_
  refine mv rfl ?_
  refine gG rfl rfl rfl ?_
  refine mv rfl ?_
  refine gG rfl rfl rfl ?_
  refine mv rfl ?_
  refine gG rfl rfl rfl ?_
  refine rp rfl ?_
  refine kF rfl rfl rfl ?_
  refine rN ?_
  refine qN ?_
  refine cFa rfl (by first | exact bne_self_eq_false _ | (simp; done) | (simp; omega) | omega) ?_
  refine cK ?_
  refine qN ?_
  refine cS ?_
  refine cS (cR ?_)
  refine mv rfl ?_
  refine mv rfl ?_
  refine rC rfl (c_toFrameS _ _ _ _ _ (by (first | with_reducible assumption | (apply RdR.mono; (· with_reducible assumption); · (try simp only [List.cons_append, List.nil_append, List.append_assoc]); repeat' first | with_reducible apply eR | with_reducible apply eA | ((with_reducible apply xA); · repeat first | with_reducible apply lH | with_reducible apply lT | with_reducible apply lL) | ((with_reducible apply xC); · repeat first | apply pH | with_reducible apply pT | with_reducible apply pL) | with_reducible assumption | with_reducible apply eS | with_reducible apply eL | exact eR) | (apply RdR.mono; (· (apply OwR.rdR; with_reducible assumption)); · (try simp only [List.cons_append, List.nil_append, List.append_assoc]); repeat' first | with_reducible apply eR | with_reducible apply eA | ((with_reducible apply xA); · repeat first | with_reducible apply lH | with_reducible apply lT | with_reducible apply lL) | ((with_reducible apply xC); · repeat first | apply pH | with_reducible apply pT | with_reducible apply pL) | with_reducible assumption | with_reducible apply eS | with_reducible apply eL | exact eR))) (by first | with_reducible assumption | omega | (simp only [Bool.and_eq_true, inB_iff] at *; omega)) (by first | assumption | exact fun i hi => by have := c1z.2 i hi; omega)) ?_
  rintro sv5 _ ⟨lk5, how5, rfl⟩
  obtain ⟨ad5, cn5, rfl, hrd5⟩ := how5.rd
  have hcn5 := how5.capl
  refine ⟨fun _ => eL eR, ?_⟩
  refine rCq rfl (c_eqFrameS _ _ _ _ _ _ _ _ (by (first | with_reducible assumption | (apply RdR.mono; (· with_reducible assumption); · (try simp only [List.cons_append, List.nil_append, List.append_assoc]); repeat' first | with_reducible apply eR | with_reducible apply eA | ((with_reducible apply xA); · repeat first | with_reducible apply lH | with_reducible apply lT | with_reducible apply lL) | ((with_reducible apply xC); · repeat first | apply pH | with_reducible apply pT | with_reducible apply pL) | with_reducible assumption | with_reducible apply eS | with_reducible apply eL | exact eR) | (apply RdR.mono; (· (apply OwR.rdR; with_reducible assumption)); · (try simp only [List.cons_append, List.nil_append, List.append_assoc]); repeat' first | with_reducible apply eR | with_reducible apply eA | ((with_reducible apply xA); · repeat first | with_reducible apply lH | with_reducible apply lT | with_reducible apply lL) | ((with_reducible apply xC); · repeat first | apply pH | with_reducible apply pT | with_reducible apply pL) | with_reducible assumption | with_reducible apply eS | with_reducible apply eL | exact eR))) (by (first | with_reducible assumption | (apply RdR.mono; (· with_reducible assumption); · (try simp only [List.cons_append, List.nil_append, List.append_assoc]); repeat' first | with_reducible apply eR | with_reducible apply eA | ((with_reducible apply xA); · repeat first | with_reducible apply lH | with_reducible apply lT | with_reducible apply lL) | ((with_reducible apply xC); · repeat first | apply pH | with_reducible apply pT | with_reducible apply pL) | with_reducible assumption | with_reducible apply eS | with_reducible apply eL | exact eR) | (apply RdR.mono; (· (apply OwR.rdR; with_reducible assumption)); · (try simp only [List.cons_append, List.nil_append, List.append_assoc]); repeat' first | with_reducible apply eR | with_reducible apply eA | ((with_reducible apply xA); · repeat first | with_reducible apply lH | with_reducible apply lT | with_reducible apply lL) | ((with_reducible apply xC); · repeat first | apply pH | with_reducible apply pT | with_reducible apply pL) | with_reducible assumption | with_reducible apply eS | with_reducible apply eL | exact eR))) (by first | with_reducible assumption | omega | (simp only [Bool.and_eq_true, inB_iff] at *; omega)) (by first | assumption | exact fun i hi => by have := c1z.2 i hi; omega)) ?_
  refine uNot rfl ?_
  refine rN ?_
  refine qN ?_
  refine cF rfl ?_
  refine cK ?_
  refine qN ?_
  refine cS (cR ?_)
  refine asg rfl ?_
  refine rN ?_
  refine qN ?_
  refine cS (cR ?_)
  refine mv rfl ?_
  refine mv rfl ?_
  refine rC rfl ((c_markFrameS _ _ _ 1 _ _ _ (by with_reducible assumption) (by omega)).ofLess (by repeat first | with_reducible apply lH | with_reducible apply lT | with_reducible apply lL)) ?_
  rintro _ _ ⟨rfl, lk6, how6, rfl⟩
  refine ⟨nofun, ?_⟩
  refine asg rfl ?_
  refine rN ?_
  refine qN ?_
  refine cS ?_
  refine cS (cR ?_)
  refine mv rfl ?_
  refine bLss rfl rfl ?_
  refine mv rfl ?_
  skip
  refine gG rfl rfl (by first | exact bne_self_eq_false _ | (simp; done) | (simp; omega) | omega) ?_
  refine mv rfl ?_
  refine gG rfl rfl (by first | exact bne_self_eq_false _ | (simp; done) | (simp; omega) | omega) ?_
  refine mv rfl ?_
  refine gG rfl rfl (by first | exact bne_self_eq_false _ | (simp; done) | (simp; omega) | omega) ?_
  refine rCq rfl (c_eqFrameS _ _ _ _ _ _ _ _ (by (first | with_reducible assumption | (apply RdR.mono; (· with_reducible assumption); · (try simp only [List.cons_append, List.nil_append, List.append_assoc]); repeat' first | with_reducible apply eR | with_reducible apply eA | ((with_reducible apply xA); · repeat first | with_reducible apply lH | with_reducible apply lT | with_reducible apply lL) | ((with_reducible apply xC); · repeat first | apply pH | with_reducible apply pT | with_reducible apply pL) | with_reducible assumption | with_reducible apply eS | with_reducible apply eL | exact eR) | (apply RdR.mono; (· (apply OwR.rdR; with_reducible assumption)); · (try simp only [List.cons_append, List.nil_append, List.append_assoc]); repeat' first | with_reducible apply eR | with_reducible apply eA | ((with_reducible apply xA); · repeat first | with_reducible apply lH | with_reducible apply lT | with_reducible apply lL) | ((with_reducible apply xC); · repeat first | apply pH | with_reducible apply pT | with_reducible apply pL) | with_reducible assumption | with_reducible apply eS | with_reducible apply eL | exact eR))) (by (first | with_reducible assumption | (apply RdR.mono; (· with_reducible assumption); · (try simp only [List.cons_append, List.nil_append, List.append_assoc]); repeat' first | with_reducible apply eR | with_reducible apply eA | ((with_reducible apply xA); · repeat first | with_reducible apply lH | with_reducible apply lT | with_reducible apply lL) | ((with_reducible apply xC); · repeat first | apply pH | with_reducible apply pT | with_reducible apply pL) | with_reducible assumption | with_reducible apply eS | with_reducible apply eL | exact eR) | (apply RdR.mono; (· (apply OwR.rdR; with_reducible assumption)); · (try simp only [List.cons_append, List.nil_append, List.append_assoc]); repeat' first | with_reducible apply eR | with_reducible apply eA | ((with_reducible apply xA); · repeat first | with_reducible apply lH | with_reducible apply lT | with_reducible apply lL) | ((with_reducible apply xC); · repeat first | apply pH | with_reducible apply pT | with_reducible apply pL) | with_reducible assumption | with_reducible apply eS | with_reducible apply eL | exact eR))) (by first | with_reducible assumption | omega | (simp only [Bool.and_eq_true, inB_iff] at *; omega)) (by first | assumption | exact fun i hi => by have := c1z.2 i hi; omega)) ?_
  refine gG rfl rfl (by first | exact bne_self_eq_false _ | (simp; done) | (simp; omega) | omega) ?_
  refine uNot rfl ?_
  refine kF rfl (by first | exact bne_self_eq_false _ | (simp; done) | (simp; omega) | omega) rfl ?_
  refine mv rfl ?_
  refine gG rfl rfl rfl ?_
  refine mv rfl ?_
  refine gG rfl rfl rfl ?_
  refine mv rfl ?_
  refine gG rfl rfl rfl ?_
  refine rp rfl ?_
  refine kF rfl rfl rfl ?_
  refine rN ?_
  refine qN ?_
  refine cFa rfl (by first | exact bne_self_eq_false _ | (simp; done) | (simp; omega) | omega) ?_
  refine cK ?_
  refine qN ?_
  refine cS (cR ?_)
  refine asg rfl ?_
  refine rN ?_
  refine qN ?_
  refine cS (cR ?_)
  refine mv rfl ?_
  refine mv rfl ?_
  refine rC rfl ((c_markFrameS _ _ _ 1 _ _ _ (by with_reducible assumption) (by omega)).ofLess (by repeat first | with_reducible apply lH | with_reducible apply lT | with_reducible apply lL)) ?_
  rintro _ _ ⟨rfl, lk7, how7, rfl⟩
  refine ⟨nofun, ?_⟩
  refine asg rfl ?_
  refine rN ?_
  refine qN ?_
  refine cS (cR ?_)
  refine asg rfl ?_
  refine rN ?_
  refine qN ?_
  refine cS (cR ?_)
  refine mv rfl ?_
  refine mv rfl ?_
  refine rCq rfl (c_heldFrameS _ _ _ 1 _ _ (by (first | with_reducible assumption | (apply RdR.mono; (· with_reducible assumption); · (try simp only [List.cons_append, List.nil_append, List.append_assoc]); repeat' first | with_reducible apply eR | with_reducible apply eA | ((with_reducible apply xA); · repeat first | with_reducible apply lH | with_reducible apply lT | with_reducible apply lL) | ((with_reducible apply xC); · repeat first | apply pH | with_reducible apply pT | with_reducible apply pL) | with_reducible assumption | with_reducible apply eS | with_reducible apply eL | exact eR) | (apply RdR.mono; (· (apply OwR.rdR; with_reducible assumption)); · (try simp only [List.cons_append, List.nil_append, List.append_assoc]); repeat' first | with_reducible apply eR | with_reducible apply eA | ((with_reducible apply xA); · repeat first | with_reducible apply lH | with_reducible apply lT | with_reducible apply lL) | ((with_reducible apply xC); · repeat first | apply pH | with_reducible apply pT | with_reducible apply pL) | with_reducible assumption | with_reducible apply eS | with_reducible apply eL | exact eR))) (by omega)) ?_
  refine asg rfl ?_
  refine rN ?_
  refine qN ?_
  refine cS ?_
  refine cS (cR ?_)
  refine mv rfl ?_
  refine bLss rfl rfl ?_
  refine rN ?_
  refine qN ?_
  refine cFa rfl (by first | exact bne_self_eq_false _ | (simp; done) | (simp; omega) | omega) ?_
  refine cK ?_
  refine qN ?_
  refine cS ?_
  refine cS (cR ?_)
  refine mv rfl ?_
  refine mv rfl ?_
  refine bNeq rfl rfl ?_
  refine rN ?_
  refine qN ?_
  refine cFa rfl (by first | exact bne_self_eq_false _ | (simp; done) | (simp; omega) | omega) ?_
  refine cK ?_
  refine qN ?_
  refine cS (cR ?_)
  refine mv rfl ?_
  refine rC rfl (c_toFrameS _ _ _ _ _ (by (first | with_reducible assumption | (apply RdR.mono; (· with_reducible assumption); · (try simp only [List.cons_append, List.nil_append, List.append_assoc]); repeat' first | with_reducible apply eR | with_reducible apply eA | ((with_reducible apply xA); · repeat first | with_reducible apply lH | with_reducible apply lT | with_reducible apply lL) | ((with_reducible apply xC); · repeat first | apply pH | with_reducible apply pT | with_reducible apply pL) | with_reducible assumption | with_reducible apply eS | with_reducible apply eL | exact eR) | (apply RdR.mono; (· (apply OwR.rdR; with_reducible assumption)); · (try simp only [List.cons_append, List.nil_append, List.append_assoc]); repeat' first | with_reducible apply eR | with_reducible apply eA | ((with_reducible apply xA); · repeat first | with_reducible apply lH | with_reducible apply lT | with_reducible apply lL) | ((with_reducible apply xC); · repeat first | apply pH | with_reducible apply pT | with_reducible apply pL) | with_reducible assumption | with_reducible apply eS | with_reducible apply eL | exact eR))) (by first | with_reducible assumption | omega | (simp only [Bool.and_eq_true, inB_iff] at *; omega)) (by first | assumption | exact fun i hi => by have := c1z.2 i hi; omega)) ?_
  rintro sv8 _ ⟨lk8, how8, rfl⟩
  obtain ⟨ad8, cn8, rfl, hrd8⟩ := how8.rd
  have hcn8 := how8.capl
  refine ⟨fun _ => eL eR, ?_⟩
  refine mv rfl ?_
  refine rC rfl (c_implOfStation _ _ _ fs _ _ (by (first | with_reducible assumption | (apply RdR.mono; (· with_reducible assumption); · (try simp only [List.cons_append, List.nil_append, List.append_assoc]); repeat' first | with_reducible apply eR | with_reducible apply eA | ((with_reducible apply xA); · repeat first | with_reducible apply lH | with_reducible apply lT | with_reducible apply lL) | ((with_reducible apply xC); · repeat first | apply pH | with_reducible apply pT | with_reducible apply pL) | with_reducible assumption | with_reducible apply eS | with_reducible apply eL | exact eR) | (apply RdR.mono; (· (apply OwR.rdR; with_reducible assumption)); · (try simp only [List.cons_append, List.nil_append, List.append_assoc]); repeat' first | with_reducible apply eR | with_reducible apply eA | ((with_reducible apply xA); · repeat first | with_reducible apply lH | with_reducible apply lT | with_reducible apply lL) | ((with_reducible apply xC); · repeat first | apply pH | with_reducible apply pT | with_reducible apply pL) | with_reducible assumption | with_reducible apply eS | with_reducible apply eL | exact eR))) (by first | with_reducible assumption | omega | (simp only [Bool.and_eq_true, inB_iff] at *; omega)) (by first | assumption | exact fun i hi => by have := c1z.2 i hi; omega)) ?_
  rintro _ _ ⟨lk9, ⟨sv9, rfl, how9⟩, rfl⟩
  obtain ⟨ad9, cn9, rfl, hrd9⟩ := how9.rd
  have hcn9 := how9.capl
  refine ⟨fun _ => eL eR, ?_⟩
  refine mv rfl ?_
  refine xt rfl rfl rfl ?_
  refine xt rfl rfl rfl ?_
  refine asg rfl ?_
  refine asg rfl ?_
  refine rN ?_
  refine qN ?_
  refine cS ?_
  refine cS (cR ?_)
  refine mv rfl ?_
  refine mv rfl ?_
  refine rCq rfl (c_eqFrameS _ _ _ _ _ _ _ _ (by (first | with_reducible assumption | (apply RdR.mono; (· with_reducible assumption); · (try simp only [List.cons_append, List.nil_append, List.append_assoc]); repeat' first | with_reducible apply eR | with_reducible apply eA | ((with_reducible apply xA); · repeat first | with_reducible apply lH | with_reducible apply lT | with_reducible apply lL) | ((with_reducible apply xC); · repeat first | apply pH | with_reducible apply pT | with_reducible apply pL) | with_reducible assumption | with_reducible apply eS | with_reducible apply eL | exact eR) | (apply RdR.mono; (· (apply OwR.rdR; with_reducible assumption)); · (try simp only [List.cons_append, List.nil_append, List.append_assoc]); repeat' first | with_reducible apply eR | with_reducible apply eA | ((with_reducible apply xA); · repeat first | with_reducible apply lH | with_reducible apply lT | with_reducible apply lL) | ((with_reducible apply xC); · repeat first | apply pH | with_reducible apply pT | with_reducible apply pL) | with_reducible assumption | with_reducible apply eS | with_reducible apply eL | exact eR))) (by (first | with_reducible assumption | (apply RdR.mono; (· with_reducible assumption); · (try simp only [List.cons_append, List.nil_append, List.append_assoc]); repeat' first | with_reducible apply eR | with_reducible apply eA | ((with_reducible apply xA); · repeat first | with_reducible apply lH | with_reducible apply lT | with_reducible apply lL) | ((with_reducible apply xC); · repeat first | apply pH | with_reducible apply pT | with_reducible apply pL) | with_reducible assumption | with_reducible apply eS | with_reducible apply eL | exact eR) | (apply RdR.mono; (· (apply OwR.rdR; with_reducible assumption)); · (try simp only [List.cons_append, List.nil_append, List.append_assoc]); repeat' first | with_reducible apply eR | with_reducible apply eA | ((with_reducible apply xA); · repeat first | with_reducible apply lH | with_reducible apply lT | with_reducible apply lL) | ((with_reducible apply xC); · repeat first | apply pH | with_reducible apply pT | with_reducible apply pL) | with_reducible assumption | with_reducible apply eS | with_reducible apply eL | exact eR))) (by first | with_reducible assumption | omega | (simp only [Bool.and_eq_true, inB_iff] at *; omega)) (by first | assumption | exact fun i hi => by have := c1z.2 i hi; omega)) ?_
  refine uNot rfl ?_
  refine mv rfl ?_
  refine gG rfl rfl rfl ?_
  refine mv rfl ?_
  refine gG rfl rfl rfl ?_
  refine mv rfl ?_
  refine gG rfl rfl rfl ?_
  refine rp rfl ?_
  refine kF rfl rfl rfl ?_
  refine rN ?_
  refine qN ?_
  refine cFa rfl (by first | exact bne_self_eq_false _ | (simp; done) | (simp; omega) | omega) ?_
  refine cK ?_
  refine qN ?_
  refine cS (cR ?_)
  refine asg rfl ?_
  refine rN ?_
  refine qN ?_
  refine cS (cR ?_)
  refine mv rfl ?_
  refine mv rfl ?_
  refine rCq rfl (c_heldFrameS _ _ _ 1 _ _ (by (first | with_reducible assumption | (apply RdR.mono; (· with_reducible assumption); · (try simp only [List.cons_append, List.nil_append, List.append_assoc]); repeat' first | with_reducible apply eR | with_reducible apply eA | ((with_reducible apply xA); · repeat first | with_reducible apply lH | with_reducible apply lT | with_reducible apply lL) | ((with_reducible apply xC); · repeat first | apply pH | with_reducible apply pT | with_reducible apply pL) | with_reducible assumption | with_reducible apply eS | with_reducible apply eL | exact eR) | (apply RdR.mono; (· (apply OwR.rdR; with_reducible assumption)); · (try simp only [List.cons_append, List.nil_append, List.append_assoc]); repeat' first | with_reducible apply eR | with_reducible apply eA | ((with_reducible apply xA); · repeat first | with_reducible apply lH | with_reducible apply lT | with_reducible apply lL) | ((with_reducible apply xC); · repeat first | apply pH | with_reducible apply pT | with_reducible apply pL) | with_reducible assumption | with_reducible apply eS | with_reducible apply eL | exact eR))) (by omega)) ?_
  refine asg rfl ?_
  refine rN ?_
  refine qN ?_
  refine cS ?_
  refine cS (cR ?_)
  refine mv rfl ?_
  refine bLss rfl rfl ?_
  refine rN ?_
  refine qN ?_
  refine cFa rfl (by first | exact bne_self_eq_false _ | (simp; done) | (simp; omega) | omega) ?_
  refine cK ?_
  refine qN ?_
  refine cS ?_
  refine cS (cR ?_)
  refine mv rfl ?_
  refine mv rfl ?_
  refine bNeq rfl rfl ?_
  refine rN ?_
  refine qN ?_
  refine cFa rfl (by first | exact bne_self_eq_false _ | (simp; done) | (simp; omega) | omega) ?_
  refine cK ?_
  refine qN ?_
  refine cS (cR ?_)
  refine asg rfl ?_
  refine rN ?_
  refine qN ?_
  refine cE ?_
  refine kE rfl rfl  ?_
  first | (exfalso; contradiction) | exact ⟨_, ⟨rfl, rfl⟩, (by (try simp only [List.cons_append, List.nil_append, List.append_assoc]); repeat' first | with_reducible apply eR | with_reducible apply eA | ((with_reducible apply xA); · repeat first | with_reducible apply lH | with_reducible apply lT | with_reducible apply lL) | ((with_reducible apply xC); · repeat first | apply pH | with_reducible apply pT | with_reducible apply pL) | with_reducible assumption | with_reducible apply eS | with_reducible apply eL | exact eR)⟩ | (exfalso; first | contradiction | omega | (simp_all; done) | (simp_all; omega))
end Go.Proofs.Ytnikglngipbahaa.Ab
