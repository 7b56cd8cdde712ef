/-
  Walks: lists of lists, gathers: copies, marks, comparing.
-/
import Derived.Test.YtfjancbmecfjgaaLw
import Derived.Test.YtfjancbmecfjgaaDl
import Derived.Test.YtfjancbmecfjgaaDk
import Derived.Test.YtfjancbmecfjgaaCp
import Derived.Test.YtfjancbmecfjgaaBd
namespace Go.Proofs.Ytfjancbmecfjgaa.Ab
open Go Go.RowKit
attribute [local irreducible] Run Then InBlock LoopQ LQ1 LQ2 LQ3 LQ4 LQ5 LQ6 AWp Ret ACall
set_option linter.unusedVariables false
set_option linter.unusedSimpArgs false

/-! ## lengths -/
def totL : List (List Nat) → Nat
  | [] => 0
  | xs :: xss => xs.length + totL xss
theorem totL_app : ∀ (A B : List (List Nat)), totL (A ++ B) = totL A + totL B := by
  intro A
  induction A with
  | nil => intro B; simp [totL]
  | cons x A ih => intro B; show x.length + totL (A ++ B) = x.length + totL A + totL B; rw [ih]; omega
theorem take_succD {xss : List (List Nat)} {i : Nat} (hi : i < xss.length) : xss.take (i + 1) = xss.take i ++ [xss.getD i []] := by
  rw [List.take_add_one, List.getElem?_eq_getElem hi]; simp [hi]
theorem totL_succ {xss : List (List Nat)} {i : Nat} (hi : i < xss.length) : totL (xss.take (i + 1)) = totL (xss.take i) + (xss.getD i []).length := by
  rw [take_succD hi, totL_app]; simp [totL]
theorem totL_take (xss : List (List Nat)) (i : Nat) : totL (xss.take i) ≤ totL xss := by
  have h := totL_app (xss.take i) (xss.drop i)
  rw [List.take_append_drop] at h
  omega
theorem totL_get {xss : List (List Nat)} {i : Nat} (hi : i < xss.length) : totL (xss.take i) + (xss.getD i []).length ≤ totL xss := by
  have := totL_take xss (i + 1)
  rw [totL_succ hi] at this
  omega
/-! ## marks -/
def mkD : Nat → List (List Nat) → List (List Nat)
  | k, [] => []
  | k, xs :: xss => marks k xs.length :: mkD (k + xs.length) xss
theorem mkD_len : ∀ (xss : List (List Nat)) (k : Nat), (mkD k xss).length = xss.length := by
  intro xss
  induction xss with
  | nil => intro k; rfl
  | cons x xss ih => intro k; show (mkD _ xss).length + 1 = xss.length + 1; rw [ih]
theorem mkD_get : ∀ (xss : List (List Nat)) (k i : Nat), i < xss.length → (mkD k xss).getD i [] = marks (k + totL (xss.take i)) (xss.getD i []).length := by
  intro xss
  induction xss with
  | nil => intro k i h; simp at h
  | cons x xss ih =>
    intro k i hi
    cases i with
    | zero => rfl
    | succ i =>
      show (mkD (k + x.length) xss).getD i [] = marks (k + (x.length + totL (xss.take i))) (xss.getD i []).length
      rw [ih _ _ (by simpa using hi), Nat.add_assoc]
theorem mkD_tot : ∀ (xss : List (List Nat)) (k : Nat), totL (mkD k xss) = totL xss := by
  intro xss
  induction xss with
  | nil => intro k; rfl
  | cons x xss ih => intro k; show (marks k x.length).length + totL (mkD _ xss) = x.length + totL xss; rw [ih, marks_len]
/-- the first i of one list, then another -/
def cpD (xss yss : List (List Nat)) (i : Nat) : List (List Nat) := xss.take i ++ yss.drop i
theorem cpD_zero (xss yss : List (List Nat)) : cpD xss yss 0 = yss := by simp [cpD]
theorem cpD_all {xss yss : List (List Nat)} (h : yss.length = xss.length) : cpD xss yss xss.length = xss := by
  unfold cpD; rw [List.take_length, List.drop_eq_nil_of_le (by omega), List.append_nil]
theorem cpD_len {xss yss : List (List Nat)} {k : Nat} (h : yss.length = xss.length) : (cpD xss yss k).length = xss.length := by simp [cpD]; omega
theorem cpD_set {xss yss : List (List Nat)} {k : Nat} (h : yss.length = xss.length) (hk : k < xss.length) : (cpD xss yss k).set k (xss.getD k []) = cpD xss yss (k + 1) := by
  unfold cpD
  apply List.ext_getElem
  · simp; omega
  · intro i h1 h2
    simp at h1
    rw [List.getElem_set]
    split
    · rename_i e; subst e
      rw [List.getElem_append_left (by simp; omega)]
      simp [List.getD, hk]
    · rename_i e
      by_cases hi : i < k
      · rw [List.getElem_append_left (by simp; omega), List.getElem_append_left (by simp; omega)]; simp
      · rw [List.getElem_append_right (by simp; omega), List.getElem_append_right (by simp; omega)]
        simp only [List.length_take, List.getElem_drop]
        congr 1
        omega
theorem cpD_get {xss yss : List (List Nat)} {k : Nat} (h : yss.length = xss.length) (hk : k ≤ xss.length) : (cpD xss yss k).getD k [] = yss.getD k [] := by
  unfold cpD
  simp only [List.getD]
  rw [List.getElem?_append_right (by simp; omega)]
  simp only [List.length_take, Nat.min_eq_left hk, Nat.sub_self, List.getElem?_drop, Nat.add_zero]
theorem set_take {α : Type} {vs : List α} {i : Nat} {v : α} (hi : i < vs.length) : (vs.set i v).take (i + 1) = vs.take i ++ [v] := by
  rw [List.take_add_one, List.take_set_of_le (Nat.le_refl _)]
  simp [hi]
theorem perm_sw {Lo Li Lk R M : Mem} (h : Li.Perm (Lk ++ R)) : (Lo ++ (Li ++ M)).Perm (Lk ++ (R ++ (Lo ++ M))) := by
  refine (List.Perm.append_left Lo (List.Perm.append_right M h)).trans ?_
  rw [List.append_assoc Lk R M]
  have e1 : (Lo ++ (Lk ++ (R ++ M))).Perm (Lk ++ (Lo ++ (R ++ M))) := by
    rw [← List.append_assoc Lo Lk, ← List.append_assoc Lk Lo]; exact List.Perm.append_right _ List.perm_append_comm
  refine e1.trans (List.Perm.append_left Lk ?_)
  rw [← List.append_assoc Lo R, ← List.append_assoc R Lo]; exact List.Perm.append_right _ List.perm_append_comm
/-! ## sizes -/
def szLL : Int → List (List Nat) → Int
  | l, [] => l
  | l, f :: fs => if szI l f.length < 0 then -1 else szLL (szI l f.length) fs
def szD (l : Int) (fs : List (List Nat)) : Int := if szI l fs.length < 0 then -1 else szLL (szI l fs.length) fs
def szG (l : Int) (ps : List Nat) (fs : List (List Nat)) : Int := if szI l ps.length < 0 then -1 else szD (szI l ps.length) fs
theorem szI_lei {l : Int} {n : Nat} : szI l n ≤ l ∨ szI l n = -1 := by unfold szI; split <;> omega
theorem szI_eq {l : Int} {n : Nat} (h : ¬ szI l n < 0) : (n : Int) ≤ l ∧ szI l n = l - n := by
  unfold szI at *
  split at h
  · omega
  · rename_i hh; rw [if_neg hh]; omega
theorem szLL_eq : ∀ (fs : List (List Nat)) (l : Int), ¬ szLL l fs < 0 → szLL l fs = l - totL fs := by
  intro fs
  induction fs with
  | nil => intro l _; simp [szLL, totL]
  | cons f fs ih =>
    intro l h
    unfold szLL at h ⊢
    split at h
    · omega
    · rename_i hn
      obtain ⟨h1, h2⟩ := szI_eq hn
      rw [if_neg hn, ih _ h, h2]
      show l - f.length - totL fs = l - ((f.length + totL fs : Nat) : Int)
      omega
theorem szLL_m1 : ∀ (fs : List (List Nat)) (l : Int), szLL l fs < 0 → 0 ≤ l → szLL l fs = -1 := by
  intro fs
  induction fs with
  | nil => intro l h h0; unfold szLL at h; omega
  | cons f fs ih =>
    intro l h h0
    unfold szLL at h ⊢
    split at h
    · rename_i hn; rw [if_pos hn]
    · rename_i hn; rw [if_neg hn]; exact ih _ h (by omega)
theorem szD_eq {l : Int} {fs : List (List Nat)} (h : ¬ szD l fs < 0) : (fs.length : Int) ≤ l ∧ szD l fs = l - fs.length - totL fs := by
  unfold szD at *
  split at h
  · omega
  · rename_i hn
    obtain ⟨h1, h2⟩ := szI_eq hn
    rw [if_neg hn, szLL_eq _ _ h, h2]
    exact ⟨h1, rfl⟩
theorem szD_m1 {l : Int} {fs : List (List Nat)} (h : szD l fs < 0) : szD l fs = -1 := by
  unfold szD at *
  split at h
  · rename_i hn; rw [if_pos hn]
  · rename_i hn; rw [if_neg hn]; exact szLL_m1 _ _ h (by omega)
theorem szG_ge {l : Int} {ps : List Nat} {fs : List (List Nat)} (h : decide (szG l ps fs < 0) = false) : (ps.length : Int) + fs.length + totL fs ≤ l ∧ szG l ps fs = l - ps.length - fs.length - totL fs ∧ 0 ≤ szG l ps fs := by
  rw [decide_eq_false_iff_not] at h
  unfold szG at *
  split at h
  · omega
  · rename_i hn
    obtain ⟨h1, h2⟩ := szI_eq hn
    obtain ⟨h3, h4⟩ := szD_eq h
    rw [if_neg hn, h4, h2]
    rw [h2] at h3
    rw [h4, h2] at h
    omega
-- @reg laws.szFloat32SS : c_szFloat32SS _ _ _ _ _ _ @RDD@ @BD@ @BD@ @BD@ (by first | assumption | omega)
theorem c_szFloat32SS (a : Option Addr) (n c : Nat) (fs : List (List Nat)) (left : Int) (M : Mem) (h : RdD M a n fs) (h0 : 0 ≤ left) (h1 : left ≤ 1048576) (hn : n ≤ 9223372036854775807) (hxs : ∀ i, i < n → (fs.getD i []).length ≤ 9223372036854775807) :
    ACall Try.prog 29 [.slice a n c, .int .i64 left] M fun r M' => r = .int .i64 (szD left fs) ∧ M' = M := by
  obtain ⟨rfl, _⟩ := id h
  have hsz : (left : Int) - fs.length < 0 ∧ szI left fs.length = -1 ∨ ¬ (left : Int) - fs.length < 0 ∧ szI left fs.length = left - fs.length := by
    unfold szI; split <;> omega
  refine acall_of_awp Try.func29 rfl Try.ntmps29 rfl ?_
  refine cS (cR ?_)
  refine asg rfl ?_
  refine rN ?_
  refine qN ?_
  refine cS (cR ?_)
  refine mv rfl ?_
  refine mv rfl ?_
  refine ln rfl ?_
  first | refine rBn rfl rfl (by omega) (by omega) ?_ | refine rB rfl rfl (by omega) (by omega) ?_ | refine bSub rfl rfl ?_
  refine asg rfl ?_
  refine rN ?_
  refine qN ?_
  refine cS ?_
  refine cS (cR ?_)
  refine mv rfl ?_
  refine bLss rfl rfl ?_
  refine rN ?_
  refine qN ?_
  refine cC rfl (fun c1 => ?_) (fun c1 => ?_)
  · have c1' := c1; try simp only [inB_iff, Bool.and_eq_true, decide_eq_true_eq, decide_eq_false_iff_not, beq_iff_eq, beq_eq_false_iff_ne, bne_iff_ne, bne_eq_false_iff_eq, ne_eq] at c1'
    refine cS (cR ?_)
    refine asg rfl ?_
    refine rN ?_
    refine qN ?_
    refine cE ?_
    refine qE ?_
    refine kE rfl rfl  ?_
    first | (exfalso; contradiction) | exact ⟨_, ⟨by (have e : szI left fs.length = -1 := by omega); rw [szD, e]; rfl, rfl⟩, (by (try simp only [List.cons_append, List.nil_append, List.append_assoc]); repeat' first | with_reducible apply eR | with_reducible apply eA | ((with_reducible apply xA); · repeat first | with_reducible apply lH | with_reducible apply lT | with_reducible apply lL) | ((with_reducible apply xC); · repeat first | apply pH | with_reducible apply pT | with_reducible apply pL) | with_reducible assumption | with_reducible apply eS | with_reducible apply eL | exact eR)⟩ | (exfalso; first | contradiction | omega | (simp_all; done) | (simp_all; omega))
  · have c1' := c1; try simp only [inB_iff, Bool.and_eq_true, decide_eq_true_eq, decide_eq_false_iff_not, beq_iff_eq, beq_eq_false_iff_ne, bne_iff_ne, bne_eq_false_iff_eq, ne_eq] at c1'
    have hsi : szI left fs.length = left - fs.length := by omega
    have hsr : szD left fs = szLL (left - fs.length) fs := by rw [szD, hsi, if_neg (by omega)]
    refine cK ?_
    refine qN ?_
    refine cS ?_
    refine cS (cR ?_)
    refine asg rfl ?_
    refine rN ?_
    refine qN ?_
    refine cB ?_
    rw [hsr]
    refine cL2 (fun (i : Nat) (l : Int) => [(5, .int .i64 (i : Nat)), (1, .int .i64 l)]) [(0, _)] (fun (i : Nat) (l : Int) => M) (fun (i : Nat) (l : Int) => fs.length - i) (fun (i : Nat) (l : Int) => i ≤ fs.length ∧ (0 ≤ l ∧ l ≤ 1048576) ∧ szLL (left - fs.length) fs = szLL l (fs.drop i)) (0) (left - fs.length) (by repeat first | exact Sub.nil _ | refine Sub.cons rfl ?_) (by (try simp only [List.cons_append, List.nil_append, List.append_assoc]); repeat' first | with_reducible apply eR | with_reducible apply eA | ((with_reducible apply xA); · repeat first | with_reducible apply lH | with_reducible apply lT | with_reducible apply lL) | ((with_reducible apply xC); · repeat first | apply pH | with_reducible apply pT | with_reducible apply pL) | with_reducible assumption | with_reducible apply eS | with_reducible apply eL | exact eR) (by exact ⟨Nat.zero_le _, by omega, rfl⟩) ?_
    rintro i l ⟨hi, ⟨hl0, hl1⟩, hs⟩
    refine wT (T' := [(5, _), (1, _), (0, _)]) rfl ?_
    refine cS ?_
    refine cS (cR ?_)
    refine mv rfl ?_
    refine mv rfl ?_
    refine ln rfl ?_
    refine bLss rfl rfl ?_
    refine rN ?_
    refine qN ?_
    refine cC rfl (fun c2 => ?_) (fun c2 => ?_)
    · have c2' := c2; try simp only [inB_iff, Bool.and_eq_true, decide_eq_true_eq, decide_eq_false_iff_not, beq_iff_eq, beq_eq_false_iff_ne, bne_iff_ne, bne_eq_false_iff_eq, ne_eq] at c2'
      have hi2 : i < fs.length := by omega
      have hxi := hxs i hi2
      have hdr : fs.drop i = fs.getD i [] :: fs.drop (i + 1) := by rw [List.drop_eq_getElem_cons hi2]; simp [hi2]
      have hst : szLL l (fs.drop i) = if szI l (fs.getD i []).length < 0 then -1 else szLL (szI l (fs.getD i []).length) (fs.drop (i + 1)) := by rw [hdr]; rfl
      refine cK ?_
      refine qN ?_
      refine cS ?_
      refine cB ?_
      refine cS (cR ?_)
      refine mv rfl ?_
      refine mv rfl ?_
      first
        | refine ixN rfl rfl (by first | (apply RdC.aok; with_reducible assumption) | exact AOk.own | (apply RdD.aok; with_reducible assumption) | (apply RdD.aok; apply OwD.rdD; with_reducible assumption) | (apply RdI.aok; with_reducible assumption) | (apply RdW.aok; with_reducible assumption) | (apply RdI.aok; apply OwI.rdI; with_reducible assumption) | with_reducible assumption | (apply RdF.aok; with_reducible assumption) | (apply RdF.aok; apply OwF.rdF; with_reducible assumption)) (by first | with_reducible assumption | omega) ?_
        | refine ixI rfl rfl (by first | (apply RdC.aok; with_reducible assumption) | exact AOk.own | (apply RdD.aok; with_reducible assumption) | (apply RdD.aok; apply OwD.rdD; with_reducible assumption) | (apply RdI.aok; with_reducible assumption) | (apply RdW.aok; with_reducible assumption) | (apply RdI.aok; apply OwI.rdI; with_reducible assumption) | with_reducible assumption | (apply RdF.aok; with_reducible assumption) | (apply RdF.aok; apply OwF.rdF; with_reducible assumption)) (by omega) (by omega) ?_
      first
        | refine ldV rfl (by (first | with_reducible assumption | (apply RdW.mono; (· with_reducible assumption); · (try simp only [List.cons_append, List.nil_append, List.append_assoc]); repeat' first | with_reducible apply eR | with_reducible apply eA | ((with_reducible apply xA); · repeat first | with_reducible apply lH | with_reducible apply lT | with_reducible apply lL) | ((with_reducible apply xC); · repeat first | apply pH | with_reducible apply pT | with_reducible apply pL) | with_reducible assumption | with_reducible apply eS | with_reducible apply eL | exact eR))) (by first | with_reducible assumption | omega) (by with_reducible assumption) rfl ?_
        | (refine ldD rfl (by (first | with_reducible assumption | (apply RdD.mono; (· with_reducible assumption); · (try simp only [List.cons_append, List.nil_append, List.append_assoc]); repeat' first | with_reducible apply eR | with_reducible apply eA | ((with_reducible apply xA); · repeat first | with_reducible apply lH | with_reducible apply lT | with_reducible apply lL) | ((with_reducible apply xC); · repeat first | apply pH | with_reducible apply pT | with_reducible apply pL) | with_reducible assumption | with_reducible apply eS | with_reducible apply eL | exact eR) | (apply RdD.mono; (· (apply OwD.rdD; with_reducible assumption)); · (try simp only [List.cons_append, List.nil_append, List.append_assoc]); repeat' first | with_reducible apply eR | with_reducible apply eA | ((with_reducible apply xA); · repeat first | with_reducible apply lH | with_reducible apply lT | with_reducible apply lL) | ((with_reducible apply xC); · repeat first | apply pH | with_reducible apply pT | with_reducible apply pL) | with_reducible assumption | with_reducible apply eS | with_reducible apply eL | exact eR))) (by first | with_reducible assumption | omega) ?_; intro aDd cDd hDd)
      refine mv rfl ?_
      refine rCq rfl (c_szFloat32S _ _ _ _ _ (by first | with_reducible assumption | omega | (simp only [Bool.and_eq_true, inB_iff] at *; omega)) (by first | with_reducible assumption | omega | (simp only [Bool.and_eq_true, inB_iff] at *; omega)) (by first | with_reducible assumption | omega | (simp only [Bool.and_eq_true, inB_iff] at *; omega))) ?_
      refine asg rfl ?_
      refine rN ?_
      refine qN ?_
      refine cS (cR ?_)
      refine mv rfl ?_
      refine bLss rfl rfl ?_
      refine rN ?_
      refine qN ?_
      refine cC rfl (fun hr => ?_) (fun hr => ?_)
      · have hr' := hr; try simp only [inB_iff, Bool.and_eq_true, decide_eq_true_eq, decide_eq_false_iff_not, beq_iff_eq, beq_eq_false_iff_ne, bne_iff_ne, bne_eq_false_iff_eq, ne_eq] at hr'
        rw [decide_eq_true_eq] at hr
        refine cS (cR ?_)
        refine asg rfl ?_
        refine rN ?_
        refine qN ?_
        refine cE ?_
        refine qBE ?_
        refine qE ?_
        refine qL2E ?_
        refine qBE ?_
        refine qE ?_
        refine kE rfl rfl  ?_
        first | (exfalso; contradiction) | exact ⟨_, ⟨by rw [hs, hst, if_pos hr], rfl⟩, (by (try simp only [List.cons_append, List.nil_append, List.append_assoc]); repeat' first | with_reducible apply eR | with_reducible apply eA | ((with_reducible apply xA); · repeat first | with_reducible apply lH | with_reducible apply lT | with_reducible apply lL) | ((with_reducible apply xC); · repeat first | apply pH | with_reducible apply pT | with_reducible apply pL) | with_reducible assumption | with_reducible apply eS | with_reducible apply eL | exact eR)⟩ | (exfalso; first | contradiction | omega | (simp_all; done) | (simp_all; omega))
      · have hr' := hr; try simp only [inB_iff, Bool.and_eq_true, decide_eq_true_eq, decide_eq_false_iff_not, beq_iff_eq, beq_eq_false_iff_ne, bne_iff_ne, bne_eq_false_iff_eq, ne_eq] at hr'
        rw [decide_eq_false_iff_not] at hr
        refine cK ?_
        refine qBN ?_
        refine qN ?_
        refine cR ?_
        refine mv rfl ?_
        first | refine rAn (b := 1) rfl rfl (by omega) ?_ | refine rA rfl rfl (by omega) (by omega) ?_ | refine bAdd rfl rfl ?_
        refine asg rfl ?_
        refine rN ?_
        refine qL2 (i + 1) (szI l (fs.getD i []).length) ?_ (by omega) (by repeat first | exact Sub.nil _ | refine Sub.cons rfl ?_) (by (try simp only [List.cons_append, List.nil_append, List.append_assoc]); repeat' first | with_reducible apply eR | with_reducible apply eA | ((with_reducible apply xA); · repeat first | with_reducible apply lH | with_reducible apply lT | with_reducible apply lL) | ((with_reducible apply xC); · repeat first | apply pH | with_reducible apply pT | with_reducible apply pL) | with_reducible assumption | with_reducible apply eS | with_reducible apply eL | exact eR)
        refine ⟨by omega, ?_, by rw [hs, hst, if_neg hr]⟩
        rcases szI_lei (l := l) (n := (fs.getD i []).length) with k | k <;> omega
    · have c2' := c2; try simp only [inB_iff, Bool.and_eq_true, decide_eq_true_eq, decide_eq_false_iff_not, beq_iff_eq, beq_eq_false_iff_ne, bne_iff_ne, bne_eq_false_iff_eq, ne_eq] at c2'
      refine cX ?_
      refine qX ?_
      refine qL2X ?_
      refine qBX ?_
      refine qN ?_
      refine cS (cR ?_)
      refine mv rfl ?_
      refine asg rfl ?_
      refine rN ?_
      refine qN ?_
      refine cE ?_
      refine kE rfl rfl  ?_
      first | (exfalso; contradiction) | exact ⟨_, ⟨by rw [hs, List.drop_eq_nil_of_le (by omega)]; rfl, rfl⟩, (by (try simp only [List.cons_append, List.nil_append, List.append_assoc]); repeat' first | with_reducible apply eR | with_reducible apply eA | ((with_reducible apply xA); · repeat first | with_reducible apply lH | with_reducible apply lT | with_reducible apply lL) | ((with_reducible apply xC); · repeat first | apply pH | with_reducible apply pT | with_reducible apply pL) | with_reducible assumption | with_reducible apply eS | with_reducible apply eL | exact eR)⟩ | (exfalso; first | contradiction | omega | (simp_all; done) | (simp_all; omega))
/-! ## copies -/
-- @own laws.toFloat32SS : c_toFloat32SS _ _ _ _ _ @RDD@ @BD@ @BD@
theorem c_toFloat32SS (a : Option Addr) (n c : Nat) (xss : List (List Nat)) (M : Mem) (h : RdD M a n xss) (hn : n ≤ 1048576) (ht : totL xss ≤ 1048576) :
    ACall Try.prog 34 [.slice a n c] M fun v M' => ∃ L, OwD L v xss ∧ M' = L ++ M := by
  obtain ⟨rfl, _⟩ := id h
  refine acall_of_awp Try.func34 rfl Try.ntmps34 rfl ?_
  refine cS (cR ?_)
  refine asg rfl ?_
  refine rN ?_
  refine qN ?_
  refine cS (cR ?_)
  refine mv rfl ?_
  refine ln rfl ?_
  first
    | (refine mkF rfl rfl (by omega) (by omega) ?_; intro bk1)
    | (refine mkV rfl rfl (by omega) (by omega) ?_; intro bk1)
    | (refine rM rfl rfl rfl (by omega) (by omega) (by omega) (by omega) ?_; intro bk1)
    | (refine mkP rfl rfl (by omega) (by omega) ?_; intro bk1)
    | (refine mkR rfl rfl (by omega) (by omega) ?_; intro bk1)
  refine asg rfl ?_
  refine rN ?_
  refine qN ?_
  refine cS ?_
  refine cS (cR ?_)
  refine asg rfl ?_
  refine rN ?_
  refine qN ?_
  refine cB ?_
  refine cL3 (fun (i : Nat) (Lo : Mem) (Li : Mem) => [(4, .int .i64 (i : Nat))]) [(0, _), (3, _)] (fun (i : Nat) (Lo : Mem) (Li : Mem) => Lo ++ (Li ++ M)) (fun (i : Nat) (Lo : Mem) (Li : Mem) => xss.length - i) (fun (i : Nat) (Lo : Mem) (Li : Mem) => i ≤ xss.length ∧ ∃ vs, vs.length = xss.length ∧ OwV Lo (.slice (some ⟨bk1, 0, none⟩) xss.length xss.length) vs ∧ OwL Li (vs.take i) (xss.take i)) (0) ([(bk1, ⟨List.replicate xss.length zS, true⟩)]) ([]) (by repeat first | exact Sub.nil _ | refine Sub.cons rfl ?_) (by (try simp only [List.cons_append, List.nil_append, List.append_assoc]); repeat' first | with_reducible apply eR | with_reducible apply eA | ((with_reducible apply xA); · repeat first | with_reducible apply lH | with_reducible apply lT | with_reducible apply lL) | ((with_reducible apply xC); · repeat first | apply pH | with_reducible apply pT | with_reducible apply pL) | with_reducible assumption | with_reducible apply eS | with_reducible apply eL | exact eR) (by exact ⟨Nat.zero_le _, List.replicate xss.length zS, by simp, by have := OwV.blk (b := bk1) (is := List.replicate xss.length zS) (rest := []) rfl; simpa using this, rfl⟩) ?_
  rintro i Lo Li ⟨hi, vs, hvl, hv, hl⟩
  refine wT (T' := [(4, _), (0, _), (3, _)]) rfl ?_
  refine cS ?_
  refine cS (cR ?_)
  refine mv rfl ?_
  refine mv rfl ?_
  refine ln rfl ?_
  refine bLss rfl rfl ?_
  refine rN ?_
  refine qN ?_
  refine cC rfl (fun c1 => ?_) (fun c1 => ?_)
  · have c1' := c1; try simp only [inB_iff, Bool.and_eq_true, decide_eq_true_eq, decide_eq_false_iff_not, beq_iff_eq, beq_eq_false_iff_ne, bne_iff_ne, bne_eq_false_iff_eq, ne_eq] at c1'
    have hi2 : i < xss.length := by omega
    have hxi := totL_get hi2
    refine cK ?_
    refine qN ?_
    refine cS ?_
    refine cB ?_
    refine cR ?_
    refine mv rfl ?_
    refine mv rfl ?_
    refine mv rfl ?_
    refine mv rfl ?_
    first
      | refine ixN rfl rfl (by first | (apply RdC.aok; with_reducible assumption) | exact AOk.own | (apply RdD.aok; with_reducible assumption) | (apply RdD.aok; apply OwD.rdD; with_reducible assumption) | (apply RdI.aok; with_reducible assumption) | (apply RdW.aok; with_reducible assumption) | (apply RdI.aok; apply OwI.rdI; with_reducible assumption) | with_reducible assumption | (apply RdF.aok; with_reducible assumption) | (apply RdF.aok; apply OwF.rdF; with_reducible assumption)) (by first | with_reducible assumption | omega) ?_
      | refine ixI rfl rfl (by first | (apply RdC.aok; with_reducible assumption) | exact AOk.own | (apply RdD.aok; with_reducible assumption) | (apply RdD.aok; apply OwD.rdD; with_reducible assumption) | (apply RdI.aok; with_reducible assumption) | (apply RdW.aok; with_reducible assumption) | (apply RdI.aok; apply OwI.rdI; with_reducible assumption) | with_reducible assumption | (apply RdF.aok; with_reducible assumption) | (apply RdF.aok; apply OwF.rdF; with_reducible assumption)) (by omega) (by omega) ?_
    first
      | refine ldV rfl (by (first | with_reducible assumption | (apply RdW.mono; (· with_reducible assumption); · (try simp only [List.cons_append, List.nil_append, List.append_assoc]); repeat' first | with_reducible apply eR | with_reducible apply eA | ((with_reducible apply xA); · repeat first | with_reducible apply lH | with_reducible apply lT | with_reducible apply lL) | ((with_reducible apply xC); · repeat first | apply pH | with_reducible apply pT | with_reducible apply pL) | with_reducible assumption | with_reducible apply eS | with_reducible apply eL | exact eR))) (by first | with_reducible assumption | omega) (by with_reducible assumption) rfl ?_
      | (refine ldD rfl (by (first | with_reducible assumption | (apply RdD.mono; (· with_reducible assumption); · (try simp only [List.cons_append, List.nil_append, List.append_assoc]); repeat' first | with_reducible apply eR | with_reducible apply eA | ((with_reducible apply xA); · repeat first | with_reducible apply lH | with_reducible apply lT | with_reducible apply lL) | ((with_reducible apply xC); · repeat first | apply pH | with_reducible apply pT | with_reducible apply pL) | with_reducible assumption | with_reducible apply eS | with_reducible apply eL | exact eR) | (apply RdD.mono; (· (apply OwD.rdD; with_reducible assumption)); · (try simp only [List.cons_append, List.nil_append, List.append_assoc]); repeat' first | with_reducible apply eR | with_reducible apply eA | ((with_reducible apply xA); · repeat first | with_reducible apply lH | with_reducible apply lT | with_reducible apply lL) | ((with_reducible apply xC); · repeat first | apply pH | with_reducible apply pT | with_reducible apply pL) | with_reducible assumption | with_reducible apply eS | with_reducible apply eL | exact eR))) (by first | with_reducible assumption | omega) ?_; intro aDd cDd hDd)
    refine rC rfl (c_toFloat32S _ _ _ _ _ (by first | with_reducible assumption | ((try first | with_reducible apply RdF.sub | with_reducible apply RdF.sub0) <;> first | with_reducible assumption | (apply RdF.mono; (· (with_reducible assumption)); · (try simp only [List.cons_append, List.nil_append, List.append_assoc]); repeat' first | with_reducible apply eR | with_reducible apply eA | ((with_reducible apply xA); · repeat first | with_reducible apply lH | with_reducible apply lT | with_reducible apply lL) | ((with_reducible apply xC); · repeat first | apply pH | with_reducible apply pT | with_reducible apply pL) | with_reducible assumption | with_reducible apply eS | with_reducible apply eL | exact eR) | (apply RdF.mono; (· (apply OwF.rdF; with_reducible assumption)); · (try simp only [List.cons_append, List.nil_append, List.append_assoc]); repeat' first | with_reducible apply eR | with_reducible apply eA | ((with_reducible apply xA); · repeat first | with_reducible apply lH | with_reducible apply lT | with_reducible apply lL) | ((with_reducible apply xC); · repeat first | apply pH | with_reducible apply pT | with_reducible apply pL) | with_reducible assumption | with_reducible apply eS | with_reducible apply eL | exact eR) | (apply RdF.ownm; (· repeat first | with_reducible assumption | with_reducible apply List.mem_cons_self | with_reducible apply List.mem_cons_of_mem | with_reducible apply List.mem_append_right | exact List.Mem.head _); · first | rfl | with_reducible assumption | omega | simp [*]) | with_reducible assumption | omega | (simp; done) | (simp; omega) | (simp only [Bool.and_eq_true, inB_iff] at *; omega))) (by first | with_reducible assumption | omega | (simp only [Bool.and_eq_true, inB_iff] at *; omega))) ?_
    rintro sv1 _ ⟨lk1, how1, rfl⟩
    obtain ⟨ad1, cn1, rfl, hrd1⟩ := how1.rd
    have hcn1 := how1.capl
    refine ⟨fun _ => eL eR, ?_⟩
    first
      | refine ixN rfl rfl (by first | (apply RdC.aok; with_reducible assumption) | exact AOk.own | (apply RdD.aok; with_reducible assumption) | (apply RdD.aok; apply OwD.rdD; with_reducible assumption) | (apply RdI.aok; with_reducible assumption) | (apply RdW.aok; with_reducible assumption) | (apply RdI.aok; apply OwI.rdI; with_reducible assumption) | with_reducible assumption | (apply RdF.aok; with_reducible assumption) | (apply RdF.aok; apply OwF.rdF; with_reducible assumption)) (by first | with_reducible assumption | omega) ?_
      | refine ixI rfl rfl (by first | (apply RdC.aok; with_reducible assumption) | exact AOk.own | (apply RdD.aok; with_reducible assumption) | (apply RdD.aok; apply OwD.rdD; with_reducible assumption) | (apply RdI.aok; with_reducible assumption) | (apply RdW.aok; with_reducible assumption) | (apply RdI.aok; apply OwI.rdI; with_reducible assumption) | with_reducible assumption | (apply RdF.aok; with_reducible assumption) | (apply RdF.aok; apply OwF.rdF; with_reducible assumption)) (by omega) (by omega) ?_
    (refine tV rfl rfl rfl (by with_reducible assumption) (by repeat first | with_reducible apply lH | with_reducible apply lT | with_reducible apply lL) (by first | with_reducible assumption | omega) ?_; intro lk2 how2)
    refine rN ?_
    refine qBN ?_
    refine qN ?_
    refine cR ?_
    refine mv rfl ?_
    first | refine rAn (b := 1) rfl rfl (by omega) ?_ | refine rA rfl rfl (by omega) (by omega) ?_ | refine bAdd rfl rfl ?_
    refine asg rfl ?_
    refine rN ?_
    refine qL3 (i + 1) (_) (lk1 ++ Li) ?_ (by omega) (by repeat first | exact Sub.nil _ | refine Sub.cons rfl ?_) (by (try simp only [List.cons_append, List.nil_append, List.append_assoc]); repeat' first | with_reducible apply eR | with_reducible apply eA | ((with_reducible apply xA); · repeat first | with_reducible apply lH | with_reducible apply lT | with_reducible apply lL) | ((with_reducible apply xC); · repeat first | apply pH | with_reducible apply pT | with_reducible apply pL) | with_reducible assumption | with_reducible apply eS | with_reducible apply eL | exact eR)
    refine ⟨by omega, _, ?_, by assumption, ?_⟩
    · rw [List.length_set]; exact hvl
    · rw [set_take (by omega), take_succD hi2]
      exact hl.snoc how1
  · have c1' := c1; try simp only [inB_iff, Bool.and_eq_true, decide_eq_true_eq, decide_eq_false_iff_not, beq_iff_eq, beq_eq_false_iff_ne, bne_iff_ne, bne_eq_false_iff_eq, ne_eq] at c1'
    have : i = xss.length := by omega
    subst this
    refine cX ?_
    refine qX ?_
    refine qL3X ?_
    refine qBX ?_
    refine qN ?_
    refine cS (cR ?_)
    refine mv rfl ?_
    refine asg rfl ?_
    refine rN ?_
    refine qN ?_
    refine cE ?_
    rw [List.take_length, ← hvl, List.take_length] at hl
    refine kE rfl rfl  ?_
    first | (exfalso; contradiction) | exact ⟨_, ⟨_, ⟨Lo, Li, vs, hv, hl, rfl⟩, by rw [List.append_assoc]⟩, (by (try simp only [List.cons_append, List.nil_append, List.append_assoc]); repeat' first | with_reducible apply eR | with_reducible apply eA | ((with_reducible apply xA); · repeat first | with_reducible apply lH | with_reducible apply lT | with_reducible apply lL) | ((with_reducible apply xC); · repeat first | apply pH | with_reducible apply pT | with_reducible apply pL) | with_reducible assumption | with_reducible apply eS | with_reducible apply eL | exact eR)⟩ | (exfalso; first | contradiction | omega | (simp_all; done) | (simp_all; omega))
-- @true laws.eqFloat32SS : c_eqFloat32SS _ _ _ _ _ _ _ _ @RDD@ @RDD@ @BD@ @BD@
theorem c_eqFloat32SS (a a' : Option Addr) (n n' c c' : Nat) (fs : List (List Nat)) (M : Mem) (h : RdD M a n fs) (h' : RdD M a' n' fs) (hn : n ≤ 1073741824) (hxs : totL fs ≤ 1073741824) :
    ACall Try.prog 42 [.slice a n c, .slice a' n' c'] M fun r M' => r = .bool true ∧ M' = M := by
  obtain ⟨rfl, _⟩ := id h
  obtain ⟨rfl, _⟩ := id h'
  have e1 : (((fs.length : Nat) : Int) != (fs.length : Nat)) = false := by simp
  refine acall_of_awp Try.func42 rfl Try.ntmps42 rfl ?_
  refine cS (cR ?_)
  refine asg rfl ?_
  refine rN ?_
  refine qN ?_
  refine cS ?_
  refine cS (cR ?_)
  refine mv rfl ?_
  refine ln rfl ?_
  refine mv rfl ?_
  refine ln rfl ?_
  refine bNeq rfl rfl ?_
  refine rN ?_
  refine qN ?_
  refine cFa rfl (e1) ?_
  refine cK ?_
  refine qN ?_
  refine cS ?_
  refine cS (cR ?_)
  refine asg rfl ?_
  refine rN ?_
  refine qN ?_
  refine cB ?_
  refine cL1 (fun (i : Nat) => [(5, .int .i64 (i : Nat))]) [(0, _), (1, _)] (fun (i : Nat) => M) (fun (i : Nat) => fs.length - i) (fun (i : Nat) => i ≤ fs.length) (0) (by repeat first | exact Sub.nil _ | refine Sub.cons rfl ?_) (by (try simp only [List.cons_append, List.nil_append, List.append_assoc]); repeat' first | with_reducible apply eR | with_reducible apply eA | ((with_reducible apply xA); · repeat first | with_reducible apply lH | with_reducible apply lT | with_reducible apply lL) | ((with_reducible apply xC); · repeat first | apply pH | with_reducible apply pT | with_reducible apply pL) | with_reducible assumption | with_reducible apply eS | with_reducible apply eL | exact eR) (by exact Nat.zero_le _) ?_
  rintro i hi
  refine wT (T' := [(5, _), (0, _), (1, _)]) rfl ?_
  refine cS ?_
  refine cS (cR ?_)
  refine mv rfl ?_
  refine mv rfl ?_
  refine ln rfl ?_
  refine bLss rfl rfl ?_
  refine rN ?_
  refine qN ?_
  refine cC rfl (fun c1 => ?_) (fun c1 => ?_)
  · have c1' := c1; try simp only [inB_iff, Bool.and_eq_true, decide_eq_true_eq, decide_eq_false_iff_not, beq_iff_eq, beq_eq_false_iff_ne, bne_iff_ne, bne_eq_false_iff_eq, ne_eq] at c1'
    have hi2 : i < fs.length := by omega
    have hxi := totL_get hi2
    refine cK ?_
    refine qN ?_
    refine cS ?_
    refine cB ?_
    refine cS ?_
    refine cD [] [(0, true), (1, true), (2, true), (3, true), (4, true), (5, false), (6, false), (7, false), (8, false), (9, false)] (by repeat first | exact fineT | exact fineL | exact fineLQ1 | exact fineLQ2 | exact fineLQ3 | exact fineLQ4 | exact fineLQ5 | exact fineLQ6 | exact fineR | refine fineB ?_) (by kernel_rfl) ?_
    simp only [pick, List.getElem?_toArray, List.getElem?_cons_zero, List.getElem?_cons_succ]
    refine mv rfl ?_
    refine mv rfl ?_
    first
      | refine ixN rfl rfl (by first | (apply RdC.aok; with_reducible assumption) | exact AOk.own | (apply RdD.aok; with_reducible assumption) | (apply RdD.aok; apply OwD.rdD; with_reducible assumption) | (apply RdI.aok; with_reducible assumption) | (apply RdW.aok; with_reducible assumption) | (apply RdI.aok; apply OwI.rdI; with_reducible assumption) | with_reducible assumption | (apply RdF.aok; with_reducible assumption) | (apply RdF.aok; apply OwF.rdF; with_reducible assumption)) (by first | with_reducible assumption | omega) ?_
      | refine ixI rfl rfl (by first | (apply RdC.aok; with_reducible assumption) | exact AOk.own | (apply RdD.aok; with_reducible assumption) | (apply RdD.aok; apply OwD.rdD; with_reducible assumption) | (apply RdI.aok; with_reducible assumption) | (apply RdW.aok; with_reducible assumption) | (apply RdI.aok; apply OwI.rdI; with_reducible assumption) | with_reducible assumption | (apply RdF.aok; with_reducible assumption) | (apply RdF.aok; apply OwF.rdF; with_reducible assumption)) (by omega) (by omega) ?_
    first
      | refine ldV rfl (by (first | with_reducible assumption | (apply RdW.mono; (· with_reducible assumption); · (try simp only [List.cons_append, List.nil_append, List.append_assoc]); repeat' first | with_reducible apply eR | with_reducible apply eA | ((with_reducible apply xA); · repeat first | with_reducible apply lH | with_reducible apply lT | with_reducible apply lL) | ((with_reducible apply xC); · repeat first | apply pH | with_reducible apply pT | with_reducible apply pL) | with_reducible assumption | with_reducible apply eS | with_reducible apply eL | exact eR))) (by first | with_reducible assumption | omega) (by with_reducible assumption) rfl ?_
      | (refine ldD rfl (by (first | with_reducible assumption | (apply RdD.mono; (· with_reducible assumption); · (try simp only [List.cons_append, List.nil_append, List.append_assoc]); repeat' first | with_reducible apply eR | with_reducible apply eA | ((with_reducible apply xA); · repeat first | with_reducible apply lH | with_reducible apply lT | with_reducible apply lL) | ((with_reducible apply xC); · repeat first | apply pH | with_reducible apply pT | with_reducible apply pL) | with_reducible assumption | with_reducible apply eS | with_reducible apply eL | exact eR) | (apply RdD.mono; (· (apply OwD.rdD; with_reducible assumption)); · (try simp only [List.cons_append, List.nil_append, List.append_assoc]); repeat' first | with_reducible apply eR | with_reducible apply eA | ((with_reducible apply xA); · repeat first | with_reducible apply lH | with_reducible apply lT | with_reducible apply lL) | ((with_reducible apply xC); · repeat first | apply pH | with_reducible apply pT | with_reducible apply pL) | with_reducible assumption | with_reducible apply eS | with_reducible apply eL | exact eR))) (by first | with_reducible assumption | omega) ?_; intro aDd cDd hDd)
    refine mv rfl ?_
    refine mv rfl ?_
    first
      | refine ixN rfl rfl (by first | (apply RdC.aok; with_reducible assumption) | exact AOk.own | (apply RdD.aok; with_reducible assumption) | (apply RdD.aok; apply OwD.rdD; with_reducible assumption) | (apply RdI.aok; with_reducible assumption) | (apply RdW.aok; with_reducible assumption) | (apply RdI.aok; apply OwI.rdI; with_reducible assumption) | with_reducible assumption | (apply RdF.aok; with_reducible assumption) | (apply RdF.aok; apply OwF.rdF; with_reducible assumption)) (by first | with_reducible assumption | omega) ?_
      | refine ixI rfl rfl (by first | (apply RdC.aok; with_reducible assumption) | exact AOk.own | (apply RdD.aok; with_reducible assumption) | (apply RdD.aok; apply OwD.rdD; with_reducible assumption) | (apply RdI.aok; with_reducible assumption) | (apply RdW.aok; with_reducible assumption) | (apply RdI.aok; apply OwI.rdI; with_reducible assumption) | with_reducible assumption | (apply RdF.aok; with_reducible assumption) | (apply RdF.aok; apply OwF.rdF; with_reducible assumption)) (by omega) (by omega) ?_
    first
      | refine ldV rfl (by (first | with_reducible assumption | (apply RdW.mono; (· with_reducible assumption); · (try simp only [List.cons_append, List.nil_append, List.append_assoc]); repeat' first | with_reducible apply eR | with_reducible apply eA | ((with_reducible apply xA); · repeat first | with_reducible apply lH | with_reducible apply lT | with_reducible apply lL) | ((with_reducible apply xC); · repeat first | apply pH | with_reducible apply pT | with_reducible apply pL) | with_reducible assumption | with_reducible apply eS | with_reducible apply eL | exact eR))) (by first | with_reducible assumption | omega) (by with_reducible assumption) rfl ?_
      | (refine ldD rfl (by (first | with_reducible assumption | (apply RdD.mono; (· with_reducible assumption); · (try simp only [List.cons_append, List.nil_append, List.append_assoc]); repeat' first | with_reducible apply eR | with_reducible apply eA | ((with_reducible apply xA); · repeat first | with_reducible apply lH | with_reducible apply lT | with_reducible apply lL) | ((with_reducible apply xC); · repeat first | apply pH | with_reducible apply pT | with_reducible apply pL) | with_reducible assumption | with_reducible apply eS | with_reducible apply eL | exact eR) | (apply RdD.mono; (· (apply OwD.rdD; with_reducible assumption)); · (try simp only [List.cons_append, List.nil_append, List.append_assoc]); repeat' first | with_reducible apply eR | with_reducible apply eA | ((with_reducible apply xA); · repeat first | with_reducible apply lH | with_reducible apply lT | with_reducible apply lL) | ((with_reducible apply xC); · repeat first | apply pH | with_reducible apply pT | with_reducible apply pL) | with_reducible assumption | with_reducible apply eS | with_reducible apply eL | exact eR))) (by first | with_reducible assumption | omega) ?_; intro aDd cDd hDd)
    refine rCq rfl (c_eqFloat32S _ _ _ _ _ _ _ _ (by first | with_reducible assumption | ((try first | with_reducible apply RdF.sub | with_reducible apply RdF.sub0) <;> first | with_reducible assumption | (apply RdF.mono; (· (with_reducible assumption)); · (try simp only [List.cons_append, List.nil_append, List.append_assoc]); repeat' first | with_reducible apply eR | with_reducible apply eA | ((with_reducible apply xA); · repeat first | with_reducible apply lH | with_reducible apply lT | with_reducible apply lL) | ((with_reducible apply xC); · repeat first | apply pH | with_reducible apply pT | with_reducible apply pL) | with_reducible assumption | with_reducible apply eS | with_reducible apply eL | exact eR) | (apply RdF.mono; (· (apply OwF.rdF; with_reducible assumption)); · (try simp only [List.cons_append, List.nil_append, List.append_assoc]); repeat' first | with_reducible apply eR | with_reducible apply eA | ((with_reducible apply xA); · repeat first | with_reducible apply lH | with_reducible apply lT | with_reducible apply lL) | ((with_reducible apply xC); · repeat first | apply pH | with_reducible apply pT | with_reducible apply pL) | with_reducible assumption | with_reducible apply eS | with_reducible apply eL | exact eR) | (apply RdF.ownm; (· repeat first | with_reducible assumption | with_reducible apply List.mem_cons_self | with_reducible apply List.mem_cons_of_mem | with_reducible apply List.mem_append_right | exact List.Mem.head _); · first | rfl | with_reducible assumption | omega | simp [*]) | with_reducible assumption | omega | (simp; done) | (simp; omega) | (simp only [Bool.and_eq_true, inB_iff] at *; omega))) (by first | with_reducible assumption | ((try first | with_reducible apply RdF.sub | with_reducible apply RdF.sub0) <;> first | with_reducible assumption | (apply RdF.mono; (· (with_reducible assumption)); · (try simp only [List.cons_append, List.nil_append, List.append_assoc]); repeat' first | with_reducible apply eR | with_reducible apply eA | ((with_reducible apply xA); · repeat first | with_reducible apply lH | with_reducible apply lT | with_reducible apply lL) | ((with_reducible apply xC); · repeat first | apply pH | with_reducible apply pT | with_reducible apply pL) | with_reducible assumption | with_reducible apply eS | with_reducible apply eL | exact eR) | (apply RdF.mono; (· (apply OwF.rdF; with_reducible assumption)); · (try simp only [List.cons_append, List.nil_append, List.append_assoc]); repeat' first | with_reducible apply eR | with_reducible apply eA | ((with_reducible apply xA); · repeat first | with_reducible apply lH | with_reducible apply lT | with_reducible apply lL) | ((with_reducible apply xC); · repeat first | apply pH | with_reducible apply pT | with_reducible apply pL) | with_reducible assumption | with_reducible apply eS | with_reducible apply eL | exact eR) | (apply RdF.ownm; (· repeat first | with_reducible assumption | with_reducible apply List.mem_cons_self | with_reducible apply List.mem_cons_of_mem | with_reducible apply List.mem_append_right | exact List.Mem.head _); · first | rfl | with_reducible assumption | omega | simp [*]) | with_reducible assumption | omega | (simp; done) | (simp; omega) | (simp only [Bool.and_eq_true, inB_iff] at *; omega))) (by first | with_reducible assumption | omega | (simp only [Bool.and_eq_true, inB_iff] at *; omega))) ?_
    refine uNot rfl ?_
    refine rN ?_
    refine qN ?_
    refine cF rfl ?_
    refine cK ?_
    refine qBN ?_
    refine qN ?_
    refine cR ?_
    refine mv rfl ?_
    first | refine rAn (b := 1) rfl rfl (by omega) ?_ | refine rA rfl rfl (by omega) (by omega) ?_ | refine bAdd rfl rfl ?_
    refine asg rfl ?_
    refine rN ?_
    refine qL1 (i + 1) ?_ (by omega) (by repeat first | exact Sub.nil _ | refine Sub.cons rfl ?_) (by (try simp only [List.cons_append, List.nil_append, List.append_assoc]); repeat' first | with_reducible apply eR | with_reducible apply eA | ((with_reducible apply xA); · repeat first | with_reducible apply lH | with_reducible apply lT | with_reducible apply lL) | ((with_reducible apply xC); · repeat first | apply pH | with_reducible apply pT | with_reducible apply pL) | with_reducible assumption | with_reducible apply eS | with_reducible apply eL | exact eR)
    omega
  · have c1' := c1; try simp only [inB_iff, Bool.and_eq_true, decide_eq_true_eq, decide_eq_false_iff_not, beq_iff_eq, beq_eq_false_iff_ne, bne_iff_ne, bne_eq_false_iff_eq, ne_eq] at c1'
    refine cX ?_
    refine qX ?_
    refine qL1X ?_
    refine qBX ?_
    refine qN ?_
    refine cS (cR ?_)
    refine asg rfl ?_
    refine rN ?_
    refine qN ?_
    refine cE ?_
    refine kE rfl rfl  ?_
    first | (exfalso; contradiction) | exact ⟨_, ⟨rfl, rfl⟩, (by (try simp only [List.cons_append, List.nil_append, List.append_assoc]); repeat' first | with_reducible apply eR | with_reducible apply eA | ((with_reducible apply xA); · repeat first | with_reducible apply lH | with_reducible apply lT | with_reducible apply lL) | ((with_reducible apply xC); · repeat first | apply pH | with_reducible apply pT | with_reducible apply pL) | with_reducible assumption | with_reducible apply eS | with_reducible apply eL | exact eR)⟩ | exact ⟨_, ⟨by first | (simp_all; done) | (simp_all; intros; omega), rfl⟩, (by (try simp only [List.cons_append, List.nil_append, List.append_assoc]); repeat' first | with_reducible apply eR | with_reducible apply eA | ((with_reducible apply xA); · repeat first | with_reducible apply lH | with_reducible apply lT | with_reducible apply lL) | ((with_reducible apply xC); · repeat first | apply pH | with_reducible apply pT | with_reducible apply pL) | with_reducible assumption | with_reducible apply eS | with_reducible apply eL | exact eR)⟩ | (exfalso; first | contradiction | omega | (simp_all; done) | (simp_all; omega))
theorem c_markFloat32SS (a : Option Addr) (n c : Nat) (k : Nat) (xss : List (List Nat)) (L M : Mem) (ho : OwD L (.slice a n c) xss) (hlen : k + n + totL xss ≤ 1073741824) :
    ACall Try.prog 43 [.slice a n c, .int .i64 (k : Nat)] (L ++ M) fun r M' => r = .int .i64 ((k + totL xss : Nat) : Int) ∧ ∃ L', OwD L' (.slice a n c) (mkD k xss) ∧ M' = L' ++ M := by
  obtain rfl := ho.len
  obtain ⟨Lo, Li, vs, hv, hl, rfl⟩ := ho
  have hvl : vs.length = xss.length := hl.len
  have hml := mkD_len xss k
  have hw : RdW Lo a xss.length vs := by
    obtain ⟨a1, c1, e1, e2⟩ := hv.rd
    obtain ⟨rfl, h2, _⟩ := Value.slice.inj e1
    rw [h2]; exact e2
  rw [List.append_assoc]
  refine acall_of_awp Try.func43 rfl Try.ntmps43 rfl ?_
  refine cS (cR ?_)
  refine asg rfl ?_
  refine rN ?_
  refine qN ?_
  refine cS ?_
  refine cS (cR ?_)
  refine asg rfl ?_
  refine rN ?_
  refine qN ?_
  refine cB ?_
  refine cL3 (fun (i : Nat) (kk : Nat) (L1 : Mem) => [(5, .int .i64 (i : Nat)), (1, .int .i64 (kk : Nat))]) [(0, _)] (fun (i : Nat) (kk : Nat) (L1 : Mem) => Lo ++ (L1 ++ M)) (fun (i : Nat) (kk : Nat) (L1 : Mem) => xss.length - i) (fun (i : Nat) (kk : Nat) (L1 : Mem) => i ≤ xss.length ∧ kk = k + totL (xss.take i) ∧ OwL L1 vs (cpD (mkD k xss) xss i)) (0) (k) (Li) (by repeat first | exact Sub.nil _ | refine Sub.cons rfl ?_) (by (try simp only [List.cons_append, List.nil_append, List.append_assoc]); repeat' first | with_reducible apply eR | with_reducible apply eA | ((with_reducible apply xA); · repeat first | with_reducible apply lH | with_reducible apply lT | with_reducible apply lL) | ((with_reducible apply xC); · repeat first | apply pH | with_reducible apply pT | with_reducible apply pL) | with_reducible assumption | with_reducible apply eS | with_reducible apply eL | exact eR) (by exact ⟨Nat.zero_le _, rfl, by rw [cpD_zero]; exact hl⟩) ?_
  rintro i kk L1 ⟨hi, rfl, hz⟩
  refine wT (T' := [(5, _), (1, _), (0, _)]) rfl ?_
  refine cS ?_
  refine cS (cR ?_)
  refine mv rfl ?_
  refine mv rfl ?_
  refine ln rfl ?_
  refine bLss rfl rfl ?_
  refine rN ?_
  refine qN ?_
  refine cC rfl (fun c1 => ?_) (fun c1 => ?_)
  · have c1' := c1; try simp only [inB_iff, Bool.and_eq_true, decide_eq_true_eq, decide_eq_false_iff_not, beq_iff_eq, beq_eq_false_iff_ne, bne_iff_ne, bne_eq_false_iff_eq, ne_eq] at c1'
    have hi2 : i < xss.length := by omega
    have hxi := totL_get hi2
    have hsu := totL_succ hi2
    obtain ⟨Lk, R, hp, hk, hback⟩ := hz.at (i := i) (by rw [cpD_len hml.symm, hml]; exact hi2)
    rw [cpD_get hml.symm (by omega)] at hk
    obtain ⟨a7, c7, hv7, hr7⟩ := hk.rd
    refine AWp.ofPerm (M' := Lk ++ (R ++ (Lo ++ M))) ?_ (perm_sw hp)
    rw [hv7] at hk
    refine cK ?_
    refine qN ?_
    refine cS ?_
    refine cB ?_
    refine cR ?_
    refine mv rfl ?_
    refine mv rfl ?_
    first
      | refine ixN rfl rfl (by first | (apply RdC.aok; with_reducible assumption) | exact AOk.own | (apply RdD.aok; with_reducible assumption) | (apply RdD.aok; apply OwD.rdD; with_reducible assumption) | (apply RdI.aok; with_reducible assumption) | (apply RdW.aok; with_reducible assumption) | (apply RdI.aok; apply OwI.rdI; with_reducible assumption) | with_reducible assumption | (apply RdF.aok; with_reducible assumption) | (apply RdF.aok; apply OwF.rdF; with_reducible assumption)) (by first | with_reducible assumption | omega) ?_
      | refine ixI rfl rfl (by first | (apply RdC.aok; with_reducible assumption) | exact AOk.own | (apply RdD.aok; with_reducible assumption) | (apply RdD.aok; apply OwD.rdD; with_reducible assumption) | (apply RdI.aok; with_reducible assumption) | (apply RdW.aok; with_reducible assumption) | (apply RdI.aok; apply OwI.rdI; with_reducible assumption) | with_reducible assumption | (apply RdF.aok; with_reducible assumption) | (apply RdF.aok; apply OwF.rdF; with_reducible assumption)) (by omega) (by omega) ?_
    first
      | refine ldV rfl (by (first | with_reducible assumption | (apply RdW.mono; (· with_reducible assumption); · (try simp only [List.cons_append, List.nil_append, List.append_assoc]); repeat' first | with_reducible apply eR | with_reducible apply eA | ((with_reducible apply xA); · repeat first | with_reducible apply lH | with_reducible apply lT | with_reducible apply lL) | ((with_reducible apply xC); · repeat first | apply pH | with_reducible apply pT | with_reducible apply pL) | with_reducible assumption | with_reducible apply eS | with_reducible apply eL | exact eR))) (by first | with_reducible assumption | omega) (by with_reducible assumption) rfl ?_
      | (refine ldD rfl (by (first | with_reducible assumption | (apply RdD.mono; (· with_reducible assumption); · (try simp only [List.cons_append, List.nil_append, List.append_assoc]); repeat' first | with_reducible apply eR | with_reducible apply eA | ((with_reducible apply xA); · repeat first | with_reducible apply lH | with_reducible apply lT | with_reducible apply lL) | ((with_reducible apply xC); · repeat first | apply pH | with_reducible apply pT | with_reducible apply pL) | with_reducible assumption | with_reducible apply eS | with_reducible apply eL | exact eR) | (apply RdD.mono; (· (apply OwD.rdD; with_reducible assumption)); · (try simp only [List.cons_append, List.nil_append, List.append_assoc]); repeat' first | with_reducible apply eR | with_reducible apply eA | ((with_reducible apply xA); · repeat first | with_reducible apply lH | with_reducible apply lT | with_reducible apply lL) | ((with_reducible apply xC); · repeat first | apply pH | with_reducible apply pT | with_reducible apply pL) | with_reducible assumption | with_reducible apply eS | with_reducible apply eL | exact eR))) (by first | with_reducible assumption | omega) ?_; intro aDd cDd hDd)
    refine mv rfl ?_
    refine rC rfl ((c_markFloat32S _ _ _ _ _ _ _ hk (by omega) (by omega)).ofLess eR) ?_
    rintro _ _ ⟨rfl, lk7, how7, rfl⟩
    refine ⟨nofun, ?_⟩
    refine asg rfl ?_
    refine rN ?_
    refine qBN ?_
    refine qN ?_
    refine cR ?_
    refine mv rfl ?_
    first | refine rAn (b := 1) rfl rfl (by omega) ?_ | refine rA rfl rfl (by omega) (by omega) ?_ | refine bAdd rfl rfl ?_
    refine asg rfl ?_
    refine rN ?_
    refine qL3 (i + 1) (_) (lk7 ++ R) ?_ (by omega) (by repeat first | exact Sub.nil _ | refine Sub.cons rfl ?_) (by (try simp only [List.cons_append, List.nil_append, List.append_assoc]); repeat' first | with_reducible apply eR | with_reducible apply eA | ((with_reducible apply xA); · repeat first | with_reducible apply lH | with_reducible apply lT | with_reducible apply lL) | ((with_reducible apply xC); · repeat first | apply pH | with_reducible apply pT | with_reducible apply pL) | with_reducible assumption | with_reducible apply eS | with_reducible apply eL | exact eR)
    refine ⟨by omega, by omega, ?_⟩
    have e := hback _ _ _ how7
    rw [set_sameD (by omega) hv7, ← mkD_get xss k i hi2, cpD_set hml.symm (by rw [hml]; exact hi2)] at e
    exact e
  · have c1' := c1; try simp only [inB_iff, Bool.and_eq_true, decide_eq_true_eq, decide_eq_false_iff_not, beq_iff_eq, beq_eq_false_iff_ne, bne_iff_ne, bne_eq_false_iff_eq, ne_eq] at c1'
    have : i = xss.length := by omega
    subst this
    have ec : cpD (mkD k xss) xss xss.length = mkD k xss := by have := cpD_all (xss := mkD k xss) (yss := xss) hml.symm; rwa [hml] at this
    rw [ec] at hz
    refine cX ?_
    refine qX ?_
    refine qL3X ?_
    refine qBX ?_
    refine qN ?_
    refine cS (cR ?_)
    refine mv rfl ?_
    refine asg rfl ?_
    refine rN ?_
    refine qN ?_
    refine cE ?_
    refine kE rfl rfl  ?_
    first | (exfalso; contradiction) | exact ⟨_, ⟨by rw [List.take_length], _, ⟨Lo, L1, vs, hv, hz, rfl⟩, by rw [List.append_assoc]⟩, (by (try simp only [List.cons_append, List.nil_append, List.append_assoc]); repeat' first | with_reducible apply eR | with_reducible apply eA | ((with_reducible apply xA); · repeat first | with_reducible apply lH | with_reducible apply lT | with_reducible apply lL) | ((with_reducible apply xC); · repeat first | apply pH | with_reducible apply pT | with_reducible apply pL) | with_reducible assumption | with_reducible apply eS | with_reducible apply eL | exact eR)⟩ | (exfalso; first | contradiction | omega | (simp_all; done) | (simp_all; omega))
theorem c_heldFloat32SS (a : Option Addr) (m c : Nat) (k : Nat) (xss : List (List Nat)) (M : Mem) (h : RdD M a m (mkD k xss)) (hlen : k + m + totL xss ≤ 1073741824) :
    ACall Try.prog 53 [.slice a m c, .int .i64 (k : Nat)] M fun r M' => r = .int .i64 ((k + totL xss : Nat) : Int) ∧ M' = M := by
  have hml := mkD_len xss k
  have hm : xss.length = m := by rw [← hml]; exact h.1
  subst hm
  refine acall_of_awp Try.func53 rfl Try.ntmps53 rfl ?_
  refine cS (cR ?_)
  refine asg rfl ?_
  refine rN ?_
  refine qN ?_
  refine cS ?_
  refine cS (cR ?_)
  refine asg rfl ?_
  refine rN ?_
  refine qN ?_
  refine cB ?_
  refine cL2 (fun (i : Nat) (kk : Nat) => [(5, .int .i64 (i : Nat)), (1, .int .i64 (kk : Nat))]) [(0, _)] (fun (i : Nat) (kk : Nat) => M) (fun (i : Nat) (kk : Nat) => xss.length - i) (fun (i : Nat) (kk : Nat) => i ≤ xss.length ∧ kk = k + totL (xss.take i)) (0) (k) (by repeat first | exact Sub.nil _ | refine Sub.cons rfl ?_) (by (try simp only [List.cons_append, List.nil_append, List.append_assoc]); repeat' first | with_reducible apply eR | with_reducible apply eA | ((with_reducible apply xA); · repeat first | with_reducible apply lH | with_reducible apply lT | with_reducible apply lL) | ((with_reducible apply xC); · repeat first | apply pH | with_reducible apply pT | with_reducible apply pL) | with_reducible assumption | with_reducible apply eS | with_reducible apply eL | exact eR) (by exact ⟨Nat.zero_le _, rfl⟩) ?_
  rintro i kk ⟨hi, rfl⟩
  refine wT (T' := [(5, _), (1, _), (0, _)]) rfl ?_
  refine cS ?_
  refine cS (cR ?_)
  refine mv rfl ?_
  refine mv rfl ?_
  refine ln rfl ?_
  refine bLss rfl rfl ?_
  refine rN ?_
  refine qN ?_
  refine cC rfl (fun c1 => ?_) (fun c1 => ?_)
  · have c1' := c1; try simp only [inB_iff, Bool.and_eq_true, decide_eq_true_eq, decide_eq_false_iff_not, beq_iff_eq, beq_eq_false_iff_ne, bne_iff_ne, bne_eq_false_iff_eq, ne_eq] at c1'
    have hi2 : i < xss.length := by omega
    have hxi := totL_get hi2
    have hsu := totL_succ hi2
    have hge := mkD_get xss k i hi2
    refine cK ?_
    refine qN ?_
    refine cS ?_
    refine cB ?_
    refine cS (cR ?_)
    refine mv rfl ?_
    refine mv rfl ?_
    first
      | refine ixN rfl rfl (by first | (apply RdC.aok; with_reducible assumption) | exact AOk.own | (apply RdD.aok; with_reducible assumption) | (apply RdD.aok; apply OwD.rdD; with_reducible assumption) | (apply RdI.aok; with_reducible assumption) | (apply RdW.aok; with_reducible assumption) | (apply RdI.aok; apply OwI.rdI; with_reducible assumption) | with_reducible assumption | (apply RdF.aok; with_reducible assumption) | (apply RdF.aok; apply OwF.rdF; with_reducible assumption)) (by first | with_reducible assumption | omega) ?_
      | refine ixI rfl rfl (by first | (apply RdC.aok; with_reducible assumption) | exact AOk.own | (apply RdD.aok; with_reducible assumption) | (apply RdD.aok; apply OwD.rdD; with_reducible assumption) | (apply RdI.aok; with_reducible assumption) | (apply RdW.aok; with_reducible assumption) | (apply RdI.aok; apply OwI.rdI; with_reducible assumption) | with_reducible assumption | (apply RdF.aok; with_reducible assumption) | (apply RdF.aok; apply OwF.rdF; with_reducible assumption)) (by omega) (by omega) ?_
    first
      | refine ldV rfl (by (first | with_reducible assumption | (apply RdW.mono; (· with_reducible assumption); · (try simp only [List.cons_append, List.nil_append, List.append_assoc]); repeat' first | with_reducible apply eR | with_reducible apply eA | ((with_reducible apply xA); · repeat first | with_reducible apply lH | with_reducible apply lT | with_reducible apply lL) | ((with_reducible apply xC); · repeat first | apply pH | with_reducible apply pT | with_reducible apply pL) | with_reducible assumption | with_reducible apply eS | with_reducible apply eL | exact eR))) (by first | with_reducible assumption | omega) (by with_reducible assumption) rfl ?_
      | (refine ldD rfl (by (first | with_reducible assumption | (apply RdD.mono; (· with_reducible assumption); · (try simp only [List.cons_append, List.nil_append, List.append_assoc]); repeat' first | with_reducible apply eR | with_reducible apply eA | ((with_reducible apply xA); · repeat first | with_reducible apply lH | with_reducible apply lT | with_reducible apply lL) | ((with_reducible apply xC); · repeat first | apply pH | with_reducible apply pT | with_reducible apply pL) | with_reducible assumption | with_reducible apply eS | with_reducible apply eL | exact eR) | (apply RdD.mono; (· (apply OwD.rdD; with_reducible assumption)); · (try simp only [List.cons_append, List.nil_append, List.append_assoc]); repeat' first | with_reducible apply eR | with_reducible apply eA | ((with_reducible apply xA); · repeat first | with_reducible apply lH | with_reducible apply lT | with_reducible apply lL) | ((with_reducible apply xC); · repeat first | apply pH | with_reducible apply pT | with_reducible apply pL) | with_reducible assumption | with_reducible apply eS | with_reducible apply eL | exact eR))) (by first | with_reducible assumption | omega) ?_; intro aDd cDd hDd)
    refine mv rfl ?_
    rw [hge] at hDd; rw [marks_len] at hDd
    refine rCq rfl (c_heldFloat32S _ _ _ (k + totL (xss.take i)) (xss.getD i []).length _ (by rw [hge, marks_len]; exact hDd) (by omega) (by omega)) ?_
    refine asg rfl ?_
    refine rN ?_
    refine qN ?_
    refine cS (cR ?_)
    refine mv rfl ?_
    refine bLss rfl rfl ?_
    refine rN ?_
    refine qN ?_
    refine cFa rfl (by rw [decide_eq_false_iff_not]; omega) ?_
    refine cK ?_
    refine qBN ?_
    refine qN ?_
    refine cR ?_
    refine mv rfl ?_
    first | refine rAn (b := 1) rfl rfl (by omega) ?_ | refine rA rfl rfl (by omega) (by omega) ?_ | refine bAdd rfl rfl ?_
    refine asg rfl ?_
    refine rN ?_
    refine qL2 (i + 1) (_) ?_ (by omega) (by repeat first | exact Sub.nil _ | refine Sub.cons rfl ?_) (by (try simp only [List.cons_append, List.nil_append, List.append_assoc]); repeat' first | with_reducible apply eR | with_reducible apply eA | ((with_reducible apply xA); · repeat first | with_reducible apply lH | with_reducible apply lT | with_reducible apply lL) | ((with_reducible apply xC); · repeat first | apply pH | with_reducible apply pT | with_reducible apply pL) | with_reducible assumption | with_reducible apply eS | with_reducible apply eL | exact eR)
    omega
  · have c1' := c1; try simp only [inB_iff, Bool.and_eq_true, decide_eq_true_eq, decide_eq_false_iff_not, beq_iff_eq, beq_eq_false_iff_ne, bne_iff_ne, bne_eq_false_iff_eq, ne_eq] at c1'
    have : i = xss.length := by omega
    subst this
    refine cX ?_
    refine qX ?_
    refine qL2X ?_
    refine qBX ?_
    refine qN ?_
    refine cS (cR ?_)
    refine mv rfl ?_
    refine asg rfl ?_
    refine rN ?_
    refine qN ?_
    refine cE ?_
    refine kE rfl rfl  ?_
    first | (exfalso; contradiction) | exact ⟨_, ⟨by rw [List.take_length], rfl⟩, (by (try simp only [List.cons_append, List.nil_append, List.append_assoc]); repeat' first | with_reducible apply eR | with_reducible apply eA | ((with_reducible apply xA); · repeat first | with_reducible apply lH | with_reducible apply lT | with_reducible apply lL) | ((with_reducible apply xC); · repeat first | apply pH | with_reducible apply pT | with_reducible apply pL) | with_reducible assumption | with_reducible apply eS | with_reducible apply eL | exact eR)⟩ | (exfalso; first | contradiction | omega | (simp_all; done) | (simp_all; omega))
/-! ## gathers -/
/-- the two lists of a gather of the call's own -/
def OwGP (L : Mem) (sp st : Value) (ps : List Nat) (xss : List (List Nat)) : Prop := ∃ Lp Lt, OwF Lp sp ps ∧ OwD Lt st xss ∧ L = Lp ++ Lt
theorem OwGP.rd {L : Mem} {sp st : Value} {ps : List Nat} {xss : List (List Nat)} (h : OwGP L sp st ps xss) : ∃ ap cp at' ct, sp = .slice ap ps.length cp ∧ st = .slice at' xss.length ct ∧ RdF L ap ps.length ps ∧ RdD L at' xss.length xss := by
  obtain ⟨Lp, Lt, h1, h2, rfl⟩ := h
  obtain ⟨a, c, e1, e2⟩ := h1.rd
  obtain ⟨a', c', e3, e4⟩ := h2.rd
  exact ⟨a, c, a', c', e1, e3, e2.mono (Ext.of_sublist (List.sublist_append_left _ _)), e4.mono (ext_append _ _)⟩
theorem OwGP.gF {L : Mem} {a : Option Addr} {n c : Nat} {st : Value} {ps : List Nat} {xss : List (List Nat)} (h : OwGP L (.slice a n c) st ps xss) : RdF L a n ps := by
  obtain ⟨Lp, Lt, h1, h2, rfl⟩ := h
  exact h1.rdF.mono (Ext.of_sublist (List.sublist_append_left _ _))
theorem OwGP.gD {L : Mem} {a : Option Addr} {n c : Nat} {sp : Value} {ps : List Nat} {xss : List (List Nat)} (h : OwGP L sp (.slice a n c) ps xss) : RdD L a n xss := by
  obtain ⟨Lp, Lt, h1, h2, rfl⟩ := h
  exact h2.rdD.mono (ext_append _ _)
theorem OwGP.mk {Lp Lt : Mem} {sp st : Value} {ps : List Nat} {xss : List (List Nat)} (h1 : OwF Lp sp ps) (h2 : OwD Lt st xss) : OwGP (Lp ++ Lt) sp st ps xss := ⟨Lp, Lt, h1, h2, rfl⟩
theorem OwD.mk {Lo Li : Mem} {v : Value} {vs : List Value} {xss : List (List Nat)} (h1 : OwV Lo v vs) (h2 : OwL Li vs xss) : OwD (Lo ++ Li) v xss := ⟨Lo, Li, vs, h1, h2, rfl⟩
/-- a gather of the call's own -/
def OwG (L : Mem) (v : Value) (t : Int) (ps : List Nat) (xss : List (List Nat)) : Prop := ∃ sp st, v = .agg #[.int .i64 t, sp, st] ∧ OwGP L sp st ps xss
/-- a gather and a bool: the zero where the bool is false -/
def ResG (B : Bool) (t : Int) (ps : List Nat) (xss : List (List Nat)) (r : Value) (L : Mem) : Prop := ∃ sp st, r = .tuple #[.agg #[.int .i64 (bif B then t else 0), sp, st], .bool B] ∧ OwGP L sp st (bif B then ps else []) (bif B then xss else [])
theorem ResG.no {B : Bool} {t : Int} {ps : List Nat} {xss : List (List Nat)} (h : B = false) : ResG B t ps xss (.tuple #[.agg #[.int .i64 0, .slice none 0 0, .slice none 0 0], .bool false]) [] := by
  subst h; exact ⟨_, _, rfl, [], [], OwF.nil, OwD.nil, rfl⟩
theorem ResG.yes {B : Bool} {t : Int} {sp st : Value} {ps : List Nat} {xss : List (List Nat)} {L : Mem} (h : B = true) (ho : OwGP L sp st ps xss) : ResG B t ps xss (.tuple #[.agg #[.int .i64 t, sp, st], .bool true]) L := by
  subst h; exact ⟨_, _, rfl, ho⟩
-- @owng laws.toGather : c_toGather _ _ _ _ _ _ _ _ _ _ @RD@ @RDD@ (by omega)
theorem c_toGather (t : Int) (ap at' : Option Addr) (np nt cp ct : Nat) (ps : List Nat) (xss : List (List Nat)) (M : Mem) (h : RdF M ap np ps) (h' : RdD M at' nt xss) (hn : np + nt + totL xss ≤ 1048576) :
    ACall Try.prog 10 [.agg #[.int .i64 t, .slice ap np cp, .slice at' nt ct]] M fun v M' => ∃ L, OwG L v t ps xss ∧ M' = L ++ M := by
  refine acall_of_awp Try.func10 rfl Try.ntmps10 rfl ?_
  refine cS (cR ?_)
  first | (refine rXa rfl ?_; intro bk1) | (refine rX rfl rfl ?_; intro bk1)
  refine rO ?_; intro bk2
  refine rN ?_
  refine qN ?_
  refine cS (cR ?_)
  refine rO ?_; intro bk3
  refine rN ?_
  refine qN ?_
  refine cS (cR ?_)
  refine fA rfl ?_
  first | refine rL rfl (by repeat first | with_reducible assumption | with_reducible apply List.mem_cons_self | with_reducible apply List.mem_cons_of_mem | with_reducible apply List.mem_append_right | exact List.Mem.head _) rfl rfl ?_ | refine rL rfl (by repeat first | with_reducible assumption | with_reducible apply List.mem_cons_self | with_reducible apply List.mem_cons_of_mem | with_reducible apply List.mem_append_right | exact List.Mem.head _) (by with_reducible assumption) rfl ?_
  refine fA rfl ?_
  first | refine tS rfl rfl rfl (by repeat first | apply pH | with_reducible apply pT | with_reducible apply pL) (by rfl) (by rfl) ?_ | refine tS rfl rfl rfl (by repeat first | apply pH | with_reducible apply pT | with_reducible apply pL) (by apply Nat.ble_eq_true_of_le; (try simp only [List.length_set, Option.getD_some]); omega) (by rfl) ?_
  refine rN ?_
  refine qN ?_
  refine cS (cR ?_)
  refine fA rfl ?_
  first | refine rL rfl (by repeat first | with_reducible assumption | with_reducible apply List.mem_cons_self | with_reducible apply List.mem_cons_of_mem | with_reducible apply List.mem_append_right | exact List.Mem.head _) rfl rfl ?_ | refine rL rfl (by repeat first | with_reducible assumption | with_reducible apply List.mem_cons_self | with_reducible apply List.mem_cons_of_mem | with_reducible apply List.mem_append_right | exact List.Mem.head _) (by with_reducible assumption) rfl ?_
  refine rC rfl (c_toFloat32S _ _ _ _ _ (by first | with_reducible assumption | ((try first | with_reducible apply RdF.sub | with_reducible apply RdF.sub0) <;> first | with_reducible assumption | (apply RdF.mono; (· (with_reducible assumption)); · (try simp only [List.cons_append, List.nil_append, List.append_assoc]); repeat' first | with_reducible apply eR | with_reducible apply eA | ((with_reducible apply xA); · repeat first | with_reducible apply lH | with_reducible apply lT | with_reducible apply lL) | ((with_reducible apply xC); · repeat first | apply pH | with_reducible apply pT | with_reducible apply pL) | with_reducible assumption | with_reducible apply eS | with_reducible apply eL | exact eR) | (apply RdF.mono; (· (apply OwF.rdF; with_reducible assumption)); · (try simp only [List.cons_append, List.nil_append, List.append_assoc]); repeat' first | with_reducible apply eR | with_reducible apply eA | ((with_reducible apply xA); · repeat first | with_reducible apply lH | with_reducible apply lT | with_reducible apply lL) | ((with_reducible apply xC); · repeat first | apply pH | with_reducible apply pT | with_reducible apply pL) | with_reducible assumption | with_reducible apply eS | with_reducible apply eL | exact eR) | (apply RdF.ownm; (· repeat first | with_reducible assumption | with_reducible apply List.mem_cons_self | with_reducible apply List.mem_cons_of_mem | with_reducible apply List.mem_append_right | exact List.Mem.head _); · first | rfl | with_reducible assumption | omega | simp [*]) | with_reducible assumption | omega | (simp; done) | (simp; omega) | (simp only [Bool.and_eq_true, inB_iff] at *; omega))) (by first | with_reducible assumption | omega | (simp only [Bool.and_eq_true, inB_iff] at *; omega))) ?_
  rintro sv2 _ ⟨lk2, how2, rfl⟩
  obtain ⟨ad2, cn2, rfl, hrd2⟩ := how2.rd
  have hcn2 := how2.capl
  refine ⟨fun _ => eL eR, ?_⟩
  refine fA rfl ?_
  first | refine tS rfl rfl rfl (by repeat first | apply pH | with_reducible apply pT | with_reducible apply pL) (by rfl) (by rfl) ?_ | refine tS rfl rfl rfl (by repeat first | apply pH | with_reducible apply pT | with_reducible apply pL) (by apply Nat.ble_eq_true_of_le; (try simp only [List.length_set, Option.getD_some]); omega) (by rfl) ?_
  refine rN ?_
  refine qN ?_
  refine cS (cR ?_)
  refine fA rfl ?_
  first | refine rL rfl (by repeat first | with_reducible assumption | with_reducible apply List.mem_cons_self | with_reducible apply List.mem_cons_of_mem | with_reducible apply List.mem_append_right | exact List.Mem.head _) rfl rfl ?_ | refine rL rfl (by repeat first | with_reducible assumption | with_reducible apply List.mem_cons_self | with_reducible apply List.mem_cons_of_mem | with_reducible apply List.mem_append_right | exact List.Mem.head _) (by with_reducible assumption) rfl ?_
  refine rC rfl (c_toFloat32SS _ _ _ _ _ (by (first | with_reducible assumption | (apply RdD.mono; (· with_reducible assumption); · (try simp only [List.cons_append, List.nil_append, List.append_assoc]); repeat' first | with_reducible apply eR | with_reducible apply eA | ((with_reducible apply xA); · repeat first | with_reducible apply lH | with_reducible apply lT | with_reducible apply lL) | ((with_reducible apply xC); · repeat first | apply pH | with_reducible apply pT | with_reducible apply pL) | with_reducible assumption | with_reducible apply eS | with_reducible apply eL | exact eR) | (apply RdD.mono; (· (apply OwD.rdD; with_reducible assumption)); · (try simp only [List.cons_append, List.nil_append, List.append_assoc]); repeat' first | with_reducible apply eR | with_reducible apply eA | ((with_reducible apply xA); · repeat first | with_reducible apply lH | with_reducible apply lT | with_reducible apply lL) | ((with_reducible apply xC); · repeat first | apply pH | with_reducible apply pT | with_reducible apply pL) | with_reducible assumption | with_reducible apply eS | with_reducible apply eL | exact eR))) (by first | with_reducible assumption | omega | (simp only [Bool.and_eq_true, inB_iff] at *; omega)) (by first | with_reducible assumption | omega | (simp only [Bool.and_eq_true, inB_iff] at *; omega))) ?_
  rintro sv4 _ ⟨lk4, how4, rfl⟩
  obtain ⟨ad4, cn4, rfl, hrd4⟩ := how4.rd
  have hcn4 := how4.capl
  refine ⟨fun _ => eL eR, ?_⟩
  refine fA rfl ?_
  first | refine tS rfl rfl rfl (by repeat first | apply pH | with_reducible apply pT | with_reducible apply pL) (by rfl) (by rfl) ?_ | refine tS rfl rfl rfl (by repeat first | apply pH | with_reducible apply pT | with_reducible apply pL) (by apply Nat.ble_eq_true_of_le; (try simp only [List.length_set, Option.getD_some]); omega) (by rfl) ?_
  refine rN ?_
  refine qN ?_
  refine cS (cR ?_)
  refine rLA rfl (by repeat first | with_reducible assumption | with_reducible apply List.mem_cons_self | with_reducible apply List.mem_cons_of_mem | with_reducible apply List.mem_append_right | exact List.Mem.head _) rfl rfl ?_
  refine tA rfl rfl rfl (by repeat first | apply pH | with_reducible apply pT | with_reducible apply pL) (by rfl) (by rfl) ?_
  refine rN ?_
  refine qN ?_
  refine cE ?_
  refine kC rfl (resOne_cell rfl (by repeat first | with_reducible assumption | with_reducible apply List.mem_cons_self | with_reducible apply List.mem_cons_of_mem | with_reducible apply List.mem_append_right | exact List.Mem.head _) rfl) ?_
  first | (exfalso; contradiction) | exact ⟨_, ⟨_, ⟨_, _, rfl, OwGP.mk how2 how4⟩, rfl⟩, (by (try simp only [List.cons_append, List.nil_append, List.append_assoc]); repeat' first | with_reducible apply eR | with_reducible apply eA | ((with_reducible apply xA); · repeat first | with_reducible apply lH | with_reducible apply lT | with_reducible apply lL) | ((with_reducible apply xC); · repeat first | apply pH | with_reducible apply pT | with_reducible apply pL) | with_reducible assumption | with_reducible apply eS | with_reducible apply eL | exact eR)⟩ | (exfalso; first | contradiction | omega | (simp_all; done) | (simp_all; omega))
-- @reg laws.szGather : c_szGather _ _ _ _ _ _ _ _ _ _ _ @RD@ @RDD@ @BD@ @BD@ @BD@ (by first | assumption | omega)
theorem c_szGather (t : Int) (ap at' : Option Addr) (np nt cp ct : Nat) (ps : List Nat) (xss : List (List Nat)) (left : Int) (M : Mem) (h : RdF M ap np ps) (h' : RdD M at' nt xss) (h0 : 0 ≤ left) (h1 : left ≤ 1048576) (hn : np ≤ 9223372036854775807 ∧ nt ≤ 9223372036854775807) (hxs : ∀ i, i < nt → (xss.getD i []).length ≤ 9223372036854775807) :
    ACall Try.prog 8 [.agg #[.int .i64 t, .slice ap np cp, .slice at' nt ct], .int .i64 left] M fun r M' => r = .int .i64 (szG left ps xss) ∧ M' = M := by
  obtain ⟨rfl, _⟩ := id h
  obtain ⟨hn1, hn2⟩ := hn
  have hle : szI left ps.length ≤ 1048576 := by rcases szI_lei (l := left) (n := ps.length) with k | k <;> omega
  refine acall_of_awp Try.func8 rfl Try.ntmps8 rfl ?_
  refine cS (cR ?_)
  first | (refine rXa rfl ?_; intro bk1) | (refine rX rfl rfl ?_; intro bk1)
  refine asg rfl ?_
  refine rN ?_
  refine qN ?_
  refine cS (cR ?_)
  refine fA rfl ?_
  first | refine rL rfl (by repeat first | with_reducible assumption | with_reducible apply List.mem_cons_self | with_reducible apply List.mem_cons_of_mem | with_reducible apply List.mem_append_right | exact List.Mem.head _) rfl rfl ?_ | refine rL rfl (by repeat first | with_reducible assumption | with_reducible apply List.mem_cons_self | with_reducible apply List.mem_cons_of_mem | with_reducible apply List.mem_append_right | exact List.Mem.head _) (by with_reducible assumption) rfl ?_
  refine mv rfl ?_
  refine rCq rfl (c_szFloat32S _ _ _ _ _ (by first | with_reducible assumption | omega | (simp only [Bool.and_eq_true, inB_iff] at *; omega)) (by first | with_reducible assumption | omega | (simp only [Bool.and_eq_true, inB_iff] at *; omega)) (by first | with_reducible assumption | omega | (simp only [Bool.and_eq_true, inB_iff] at *; omega))) ?_
  refine asg rfl ?_
  refine rN ?_
  refine qN ?_
  refine cS ?_
  refine cS (cR ?_)
  refine mv rfl ?_
  refine bLss rfl rfl ?_
  refine rN ?_
  refine qN ?_
  refine cC rfl (fun hq => ?_) (fun hq => ?_)
  · have hq' := hq; try simp only [inB_iff, Bool.and_eq_true, decide_eq_true_eq, decide_eq_false_iff_not, beq_iff_eq, beq_eq_false_iff_ne, bne_iff_ne, bne_eq_false_iff_eq, ne_eq] at hq'
    rw [decide_eq_true_eq] at hq
    refine cS (cR ?_)
    refine asg rfl ?_
    refine rN ?_
    refine qN ?_
    refine cE ?_
    refine qE ?_
    refine kE rfl rfl  ?_
    first | (exfalso; contradiction) | exact ⟨_, ⟨by rw [szG, if_pos hq], rfl⟩, (by (try simp only [List.cons_append, List.nil_append, List.append_assoc]); repeat' first | with_reducible apply eR | with_reducible apply eA | ((with_reducible apply xA); · repeat first | with_reducible apply lH | with_reducible apply lT | with_reducible apply lL) | ((with_reducible apply xC); · repeat first | apply pH | with_reducible apply pT | with_reducible apply pL) | with_reducible assumption | with_reducible apply eS | with_reducible apply eL | exact eR)⟩ | (exfalso; first | contradiction | omega | (simp_all; done) | (simp_all; omega))
  · have hq' := hq; try simp only [inB_iff, Bool.and_eq_true, decide_eq_true_eq, decide_eq_false_iff_not, beq_iff_eq, beq_eq_false_iff_ne, bne_iff_ne, bne_eq_false_iff_eq, ne_eq] at hq'
    rw [decide_eq_false_iff_not] at hq
    refine cK ?_
    refine qN ?_
    refine cS (cR ?_)
    refine fA rfl ?_
    first | refine rL rfl (by repeat first | with_reducible assumption | with_reducible apply List.mem_cons_self | with_reducible apply List.mem_cons_of_mem | with_reducible apply List.mem_append_right | exact List.Mem.head _) rfl rfl ?_ | refine rL rfl (by repeat first | with_reducible assumption | with_reducible apply List.mem_cons_self | with_reducible apply List.mem_cons_of_mem | with_reducible apply List.mem_append_right | exact List.Mem.head _) (by with_reducible assumption) rfl ?_
    refine mv rfl ?_
    refine rCq rfl (c_szFloat32SS _ _ _ _ _ _ (by (first | with_reducible assumption | (apply RdD.mono; (· with_reducible assumption); · (try simp only [List.cons_append, List.nil_append, List.append_assoc]); repeat' first | with_reducible apply eR | with_reducible apply eA | ((with_reducible apply xA); · repeat first | with_reducible apply lH | with_reducible apply lT | with_reducible apply lL) | ((with_reducible apply xC); · repeat first | apply pH | with_reducible apply pT | with_reducible apply pL) | with_reducible assumption | with_reducible apply eS | with_reducible apply eL | exact eR) | (apply RdD.mono; (· (apply OwD.rdD; with_reducible assumption)); · (try simp only [List.cons_append, List.nil_append, List.append_assoc]); repeat' first | with_reducible apply eR | with_reducible apply eA | ((with_reducible apply xA); · repeat first | with_reducible apply lH | with_reducible apply lT | with_reducible apply lL) | ((with_reducible apply xC); · repeat first | apply pH | with_reducible apply pT | with_reducible apply pL) | with_reducible assumption | with_reducible apply eS | with_reducible apply eL | exact eR))) (by first | with_reducible assumption | omega | (simp only [Bool.and_eq_true, inB_iff] at *; omega)) (by first | with_reducible assumption | omega | (simp only [Bool.and_eq_true, inB_iff] at *; omega)) (by first | with_reducible assumption | omega | (simp only [Bool.and_eq_true, inB_iff] at *; omega)) (by first | assumption | omega)) ?_
    refine asg rfl ?_
    refine rN ?_
    refine qN ?_
    refine cS ?_
    refine cS (cR ?_)
    refine mv rfl ?_
    refine bLss rfl rfl ?_
    refine rN ?_
    refine qN ?_
    refine cC rfl (fun hr => ?_) (fun hr => ?_)
    · have hr' := hr; try simp only [inB_iff, Bool.and_eq_true, decide_eq_true_eq, decide_eq_false_iff_not, beq_iff_eq, beq_eq_false_iff_ne, bne_iff_ne, bne_eq_false_iff_eq, ne_eq] at hr'
      rw [decide_eq_true_eq] at hr
      refine cS (cR ?_)
      refine asg rfl ?_
      refine rN ?_
      refine qN ?_
      refine cE ?_
      refine qE ?_
      refine kE rfl rfl  ?_
      first | (exfalso; contradiction) | exact ⟨_, ⟨by rw [szG, if_neg hq, szD_m1 hr], rfl⟩, (by (try simp only [List.cons_append, List.nil_append, List.append_assoc]); repeat' first | with_reducible apply eR | with_reducible apply eA | ((with_reducible apply xA); · repeat first | with_reducible apply lH | with_reducible apply lT | with_reducible apply lL) | ((with_reducible apply xC); · repeat first | apply pH | with_reducible apply pT | with_reducible apply pL) | with_reducible assumption | with_reducible apply eS | with_reducible apply eL | exact eR)⟩ | (exfalso; first | contradiction | omega | (simp_all; done) | (simp_all; omega))
    · have hr' := hr; try simp only [inB_iff, Bool.and_eq_true, decide_eq_true_eq, decide_eq_false_iff_not, beq_iff_eq, beq_eq_false_iff_ne, bne_iff_ne, bne_eq_false_iff_eq, ne_eq] at hr'
      refine cK ?_
      refine qN ?_
      refine cS (cR ?_)
      refine mv rfl ?_
      refine asg rfl ?_
      refine rN ?_
      refine qN ?_
      refine cE ?_
      refine kE rfl rfl  ?_
      first | (exfalso; contradiction) | exact ⟨_, ⟨by rw [szG, if_neg hq], rfl⟩, (by (try simp only [List.cons_append, List.nil_append, List.append_assoc]); repeat' first | with_reducible apply eR | with_reducible apply eA | ((with_reducible apply xA); · repeat first | with_reducible apply lH | with_reducible apply lT | with_reducible apply lL) | ((with_reducible apply xC); · repeat first | apply pH | with_reducible apply pT | with_reducible apply pL) | with_reducible assumption | with_reducible apply eS | with_reducible apply eL | exact eR)⟩ | (exfalso; first | contradiction | omega | (simp_all; done) | (simp_all; omega))
-- @true laws.eqGather : c_eqGather _ _ _ _ _ _ _ _ _ _ _ _ _ _ @RD@ @RD@ @RDD@ @RDD@ (by omega)
theorem c_eqGather (t : Int) (ap at' bp bt : Option Addr) (np nt cp ct dp dt : Nat) (ps : List Nat) (xss : List (List Nat)) (M : Mem) (h : RdF M ap np ps) (k : RdF M bp np ps) (h' : RdD M at' nt xss) (k' : RdD M bt nt xss) (hn : np + nt + totL xss ≤ 1073741824) :
    ACall Try.prog 14 [.agg #[.int .i64 t, .slice ap np cp, .slice at' nt ct], .agg #[.int .i64 t, .slice bp np dp, .slice bt nt dt]] M fun r M' => r = .bool true ∧ M' = M := by
  have e1 : (t != t) = false := by simp
  refine acall_of_awp Try.func14 rfl Try.ntmps14 rfl ?_
  refine cS (cR ?_)
  first | (refine rXa rfl ?_; intro bk1) | (refine rX rfl rfl ?_; intro bk1)
  first | (refine rXa rfl ?_; intro bk2) | (refine rX rfl rfl ?_; intro bk2)
  refine asg rfl ?_
  refine rN ?_
  refine qN ?_
  refine cS ?_
  refine cS (cR ?_)
  refine fA rfl ?_
  first | refine rL rfl (by repeat first | with_reducible assumption | with_reducible apply List.mem_cons_self | with_reducible apply List.mem_cons_of_mem | with_reducible apply List.mem_append_right | exact List.Mem.head _) rfl rfl ?_ | refine rL rfl (by repeat first | with_reducible assumption | with_reducible apply List.mem_cons_self | with_reducible apply List.mem_cons_of_mem | with_reducible apply List.mem_append_right | exact List.Mem.head _) (by with_reducible assumption) rfl ?_
  refine fA rfl ?_
  first | refine rL rfl (by repeat first | with_reducible assumption | with_reducible apply List.mem_cons_self | with_reducible apply List.mem_cons_of_mem | with_reducible apply List.mem_append_right | exact List.Mem.head _) rfl rfl ?_ | refine rL rfl (by repeat first | with_reducible assumption | with_reducible apply List.mem_cons_self | with_reducible apply List.mem_cons_of_mem | with_reducible apply List.mem_append_right | exact List.Mem.head _) (by with_reducible assumption) rfl ?_
  refine bNeq rfl rfl ?_
  refine rN ?_
  refine qN ?_
  refine cFa rfl (e1) ?_
  refine cK ?_
  refine qN ?_
  refine cS ?_
  refine cS (cR ?_)
  refine fA rfl ?_
  first | refine rL rfl (by repeat first | with_reducible assumption | with_reducible apply List.mem_cons_self | with_reducible apply List.mem_cons_of_mem | with_reducible apply List.mem_append_right | exact List.Mem.head _) rfl rfl ?_ | refine rL rfl (by repeat first | with_reducible assumption | with_reducible apply List.mem_cons_self | with_reducible apply List.mem_cons_of_mem | with_reducible apply List.mem_append_right | exact List.Mem.head _) (by with_reducible assumption) rfl ?_
  refine fA rfl ?_
  first | refine rL rfl (by repeat first | with_reducible assumption | with_reducible apply List.mem_cons_self | with_reducible apply List.mem_cons_of_mem | with_reducible apply List.mem_append_right | exact List.Mem.head _) rfl rfl ?_ | refine rL rfl (by repeat first | with_reducible assumption | with_reducible apply List.mem_cons_self | with_reducible apply List.mem_cons_of_mem | with_reducible apply List.mem_append_right | exact List.Mem.head _) (by with_reducible assumption) rfl ?_
  refine rCq rfl (c_eqFloat32S _ _ _ _ _ _ _ _ (by first | with_reducible assumption | ((try first | with_reducible apply RdF.sub | with_reducible apply RdF.sub0) <;> first | with_reducible assumption | (apply RdF.mono; (· (with_reducible assumption)); · (try simp only [List.cons_append, List.nil_append, List.append_assoc]); repeat' first | with_reducible apply eR | with_reducible apply eA | ((with_reducible apply xA); · repeat first | with_reducible apply lH | with_reducible apply lT | with_reducible apply lL) | ((with_reducible apply xC); · repeat first | apply pH | with_reducible apply pT | with_reducible apply pL) | with_reducible assumption | with_reducible apply eS | with_reducible apply eL | exact eR) | (apply RdF.mono; (· (apply OwF.rdF; with_reducible assumption)); · (try simp only [List.cons_append, List.nil_append, List.append_assoc]); repeat' first | with_reducible apply eR | with_reducible apply eA | ((with_reducible apply xA); · repeat first | with_reducible apply lH | with_reducible apply lT | with_reducible apply lL) | ((with_reducible apply xC); · repeat first | apply pH | with_reducible apply pT | with_reducible apply pL) | with_reducible assumption | with_reducible apply eS | with_reducible apply eL | exact eR) | (apply RdF.ownm; (· repeat first | with_reducible assumption | with_reducible apply List.mem_cons_self | with_reducible apply List.mem_cons_of_mem | with_reducible apply List.mem_append_right | exact List.Mem.head _); · first | rfl | with_reducible assumption | omega | simp [*]) | with_reducible assumption | omega | (simp; done) | (simp; omega) | (simp only [Bool.and_eq_true, inB_iff] at *; omega))) (by first | with_reducible assumption | ((try first | with_reducible apply RdF.sub | with_reducible apply RdF.sub0) <;> first | with_reducible assumption | (apply RdF.mono; (· (with_reducible assumption)); · (try simp only [List.cons_append, List.nil_append, List.append_assoc]); repeat' first | with_reducible apply eR | with_reducible apply eA | ((with_reducible apply xA); · repeat first | with_reducible apply lH | with_reducible apply lT | with_reducible apply lL) | ((with_reducible apply xC); · repeat first | apply pH | with_reducible apply pT | with_reducible apply pL) | with_reducible assumption | with_reducible apply eS | with_reducible apply eL | exact eR) | (apply RdF.mono; (· (apply OwF.rdF; with_reducible assumption)); · (try simp only [List.cons_append, List.nil_append, List.append_assoc]); repeat' first | with_reducible apply eR | with_reducible apply eA | ((with_reducible apply xA); · repeat first | with_reducible apply lH | with_reducible apply lT | with_reducible apply lL) | ((with_reducible apply xC); · repeat first | apply pH | with_reducible apply pT | with_reducible apply pL) | with_reducible assumption | with_reducible apply eS | with_reducible apply eL | exact eR) | (apply RdF.ownm; (· repeat first | with_reducible assumption | with_reducible apply List.mem_cons_self | with_reducible apply List.mem_cons_of_mem | with_reducible apply List.mem_append_right | exact List.Mem.head _); · first | rfl | with_reducible assumption | omega | simp [*]) | with_reducible assumption | omega | (simp; done) | (simp; omega) | (simp only [Bool.and_eq_true, inB_iff] at *; omega))) (by first | with_reducible assumption | omega | (simp only [Bool.and_eq_true, inB_iff] at *; omega))) ?_
  refine uNot rfl ?_
  refine rN ?_
  refine qN ?_
  refine cF rfl ?_
  refine cK ?_
  refine qN ?_
  refine cS ?_
  refine cS (cR ?_)
  refine fA rfl ?_
  first | refine rL rfl (by repeat first | with_reducible assumption | with_reducible apply List.mem_cons_self | with_reducible apply List.mem_cons_of_mem | with_reducible apply List.mem_append_right | exact List.Mem.head _) rfl rfl ?_ | refine rL rfl (by repeat first | with_reducible assumption | with_reducible apply List.mem_cons_self | with_reducible apply List.mem_cons_of_mem | with_reducible apply List.mem_append_right | exact List.Mem.head _) (by with_reducible assumption) rfl ?_
  refine fA rfl ?_
  first | refine rL rfl (by repeat first | with_reducible assumption | with_reducible apply List.mem_cons_self | with_reducible apply List.mem_cons_of_mem | with_reducible apply List.mem_append_right | exact List.Mem.head _) rfl rfl ?_ | refine rL rfl (by repeat first | with_reducible assumption | with_reducible apply List.mem_cons_self | with_reducible apply List.mem_cons_of_mem | with_reducible apply List.mem_append_right | exact List.Mem.head _) (by with_reducible assumption) rfl ?_
  refine rCq rfl (c_eqFloat32SS _ _ _ _ _ _ _ _ (by (first | with_reducible assumption | (apply RdD.mono; (· with_reducible assumption); · (try simp only [List.cons_append, List.nil_append, List.append_assoc]); repeat' first | with_reducible apply eR | with_reducible apply eA | ((with_reducible apply xA); · repeat first | with_reducible apply lH | with_reducible apply lT | with_reducible apply lL) | ((with_reducible apply xC); · repeat first | apply pH | with_reducible apply pT | with_reducible apply pL) | with_reducible assumption | with_reducible apply eS | with_reducible apply eL | exact eR) | (apply RdD.mono; (· (apply OwD.rdD; with_reducible assumption)); · (try simp only [List.cons_append, List.nil_append, List.append_assoc]); repeat' first | with_reducible apply eR | with_reducible apply eA | ((with_reducible apply xA); · repeat first | with_reducible apply lH | with_reducible apply lT | with_reducible apply lL) | ((with_reducible apply xC); · repeat first | apply pH | with_reducible apply pT | with_reducible apply pL) | with_reducible assumption | with_reducible apply eS | with_reducible apply eL | exact eR))) (by (first | with_reducible assumption | (apply RdD.mono; (· with_reducible assumption); · (try simp only [List.cons_append, List.nil_append, List.append_assoc]); repeat' first | with_reducible apply eR | with_reducible apply eA | ((with_reducible apply xA); · repeat first | with_reducible apply lH | with_reducible apply lT | with_reducible apply lL) | ((with_reducible apply xC); · repeat first | apply pH | with_reducible apply pT | with_reducible apply pL) | with_reducible assumption | with_reducible apply eS | with_reducible apply eL | exact eR) | (apply RdD.mono; (· (apply OwD.rdD; with_reducible assumption)); · (try simp only [List.cons_append, List.nil_append, List.append_assoc]); repeat' first | with_reducible apply eR | with_reducible apply eA | ((with_reducible apply xA); · repeat first | with_reducible apply lH | with_reducible apply lT | with_reducible apply lL) | ((with_reducible apply xC); · repeat first | apply pH | with_reducible apply pT | with_reducible apply pL) | with_reducible assumption | with_reducible apply eS | with_reducible apply eL | exact eR))) (by first | with_reducible assumption | omega | (simp only [Bool.and_eq_true, inB_iff] at *; omega)) (by first | with_reducible assumption | omega | (simp only [Bool.and_eq_true, inB_iff] at *; omega))) ?_
  refine uNot rfl ?_
  refine rN ?_
  refine qN ?_
  refine cF rfl ?_
  refine cK ?_
  refine qN ?_
  refine cS (cR ?_)
  refine asg rfl ?_
  refine rN ?_
  refine qN ?_
  refine cE ?_
  refine kE rfl rfl  ?_
  first | (exfalso; contradiction) | exact ⟨_, ⟨rfl, rfl⟩, (by (try simp only [List.cons_append, List.nil_append, List.append_assoc]); repeat' first | with_reducible apply eR | with_reducible apply eA | ((with_reducible apply xA); · repeat first | with_reducible apply lH | with_reducible apply lT | with_reducible apply lL) | ((with_reducible apply xC); · repeat first | apply pH | with_reducible apply pT | with_reducible apply pL) | with_reducible assumption | with_reducible apply eS | with_reducible apply eL | exact eR)⟩ | exact ⟨_, ⟨by first | (simp_all; done) | (simp_all; intros; omega), rfl⟩, (by (try simp only [List.cons_append, List.nil_append, List.append_assoc]); repeat' first | with_reducible apply eR | with_reducible apply eA | ((with_reducible apply xA); · repeat first | with_reducible apply lH | with_reducible apply lT | with_reducible apply lL) | ((with_reducible apply xC); · repeat first | apply pH | with_reducible apply pT | with_reducible apply pL) | with_reducible assumption | with_reducible apply eS | with_reducible apply eL | exact eR)⟩ | (exfalso; first | contradiction | omega | (simp_all; done) | (simp_all; omega))
theorem c_markGather (t : Int) (ap at' : Option Addr) (np nt cp ct : Nat) (k : Nat) (ps : List Nat) (xss : List (List Nat)) (L M : Mem) (ho : OwGP L (.slice ap np cp) (.slice at' nt ct) ps xss) (hlen : k + np + nt + totL xss ≤ 1073741824) :
    ACall Try.prog 15 [.agg #[.int .i64 t, .slice ap np cp, .slice at' nt ct], .int .i64 (k : Nat)] (L ++ M) fun r M' => r = .int .i64 ((k + np + totL xss : Nat) : Int) ∧ ∃ L', OwGP L' (.slice ap np cp) (.slice at' nt ct) (marks k np) (mkD (k + np) xss) ∧ M' = L' ++ M := by
  obtain ⟨Lp, Lt, h1, h2, rfl⟩ := ho
  rw [List.append_assoc]
  refine acall_of_awp Try.func15 rfl Try.ntmps15 rfl ?_
  refine cS (cR ?_)
  first | (refine rXa rfl ?_; intro bk1) | (refine rX rfl rfl ?_; intro bk1)
  refine asg rfl ?_
  refine rN ?_
  refine qN ?_
  refine cS (cR ?_)
  refine fA rfl ?_
  first | refine rL rfl (by repeat first | with_reducible assumption | with_reducible apply List.mem_cons_self | with_reducible apply List.mem_cons_of_mem | with_reducible apply List.mem_append_right | exact List.Mem.head _) rfl rfl ?_ | refine rL rfl (by repeat first | with_reducible assumption | with_reducible apply List.mem_cons_self | with_reducible apply List.mem_cons_of_mem | with_reducible apply List.mem_append_right | exact List.Mem.head _) (by with_reducible assumption) rfl ?_
  refine mv rfl ?_
  refine rC rfl ((c_markFloat32S _ _ _ _ _ _ _ h1 (by omega) (by omega)).ofLess (by repeat first | with_reducible apply lH | with_reducible apply lT | with_reducible apply lL)) ?_
  rintro _ _ ⟨rfl, lk7, how7, rfl⟩
  refine ⟨nofun, ?_⟩
  refine asg rfl ?_
  refine rN ?_
  refine qN ?_
  refine cS (cR ?_)
  refine fA rfl ?_
  first | refine rL rfl (by repeat first | with_reducible assumption | with_reducible apply List.mem_cons_self | with_reducible apply List.mem_cons_of_mem | with_reducible apply List.mem_append_right | exact List.Mem.head _) rfl rfl ?_ | refine rL rfl (by repeat first | with_reducible assumption | with_reducible apply List.mem_cons_self | with_reducible apply List.mem_cons_of_mem | with_reducible apply List.mem_append_right | exact List.Mem.head _) (by with_reducible assumption) rfl ?_
  refine mv rfl ?_
  refine rC rfl ((c_markFloat32SS _ _ _ _ _ _ _ h2 (by omega)).ofLess (by repeat first | with_reducible apply lH | with_reducible apply lT | with_reducible apply lL)) ?_
  rintro _ _ ⟨rfl, lk8, how8, rfl⟩
  refine ⟨nofun, ?_⟩
  refine asg rfl ?_
  refine rN ?_
  refine qN ?_
  refine cS (cR ?_)
  refine mv rfl ?_
  refine asg rfl ?_
  refine rN ?_
  refine qN ?_
  refine cE ?_
  refine kE rfl rfl  ?_
  first | (exfalso; contradiction) | exact ⟨_, ⟨rfl, _, OwGP.mk how7 how8, rfl⟩, (by (try simp only [List.cons_append, List.nil_append, List.append_assoc]); repeat' first | with_reducible apply eR | with_reducible apply eA | ((with_reducible apply xA); · repeat first | with_reducible apply lH | with_reducible apply lT | with_reducible apply lL) | ((with_reducible apply xC); · repeat first | apply pH | with_reducible apply pT | with_reducible apply pL) | with_reducible assumption | with_reducible apply eS | with_reducible apply eL | exact eR)⟩ | (exfalso; first | contradiction | omega | (simp_all; done) | (simp_all; omega))
theorem c_heldGather (t : Int) (ap at' : Option Addr) (np nt cp ct : Nat) (k : Nat) (ps : List Nat) (xss : List (List Nat)) (M : Mem) (h : RdF M ap np (marks k ps.length)) (h' : RdD M at' nt (mkD (k + ps.length) xss)) (hlen : k + np + nt + totL xss ≤ 1073741824) :
    ACall Try.prog 23 [.agg #[.int .i64 t, .slice ap np cp, .slice at' nt ct], .int .i64 (k : Nat)] M fun r M' => r = .int .i64 ((k + ps.length + totL xss : Nat) : Int) ∧ M' = M := by
  have hm : np = ps.length := by rw [← h.len, marks_len]
  subst hm
  have e1 : decide (((k + ps.length : Nat) : Int) < 0) = false := by rw [decide_eq_false_iff_not]; omega
  have e2 : decide (((k + ps.length + totL xss : Nat) : Int) < 0) = false := by rw [decide_eq_false_iff_not]; omega
  refine acall_of_awp Try.func23 rfl Try.ntmps23 rfl ?_
  refine cS (cR ?_)
  first | (refine rXa rfl ?_; intro bk1) | (refine rX rfl rfl ?_; intro bk1)
  refine asg rfl ?_
  refine rN ?_
  refine qN ?_
  refine cS (cR ?_)
  refine fA rfl ?_
  first | refine rL rfl (by repeat first | with_reducible assumption | with_reducible apply List.mem_cons_self | with_reducible apply List.mem_cons_of_mem | with_reducible apply List.mem_append_right | exact List.Mem.head _) rfl rfl ?_ | refine rL rfl (by repeat first | with_reducible assumption | with_reducible apply List.mem_cons_self | with_reducible apply List.mem_cons_of_mem | with_reducible apply List.mem_append_right | exact List.Mem.head _) (by with_reducible assumption) rfl ?_
  refine mv rfl ?_
  refine rCq rfl (c_heldFloat32S _ _ _ k ps.length _ (by first | with_reducible assumption | ((try first | with_reducible apply RdF.sub | with_reducible apply RdF.sub0) <;> first | with_reducible assumption | (apply RdF.mono; (· (with_reducible assumption)); · (try simp only [List.cons_append, List.nil_append, List.append_assoc]); repeat' first | with_reducible apply eR | with_reducible apply eA | ((with_reducible apply xA); · repeat first | with_reducible apply lH | with_reducible apply lT | with_reducible apply lL) | ((with_reducible apply xC); · repeat first | apply pH | with_reducible apply pT | with_reducible apply pL) | with_reducible assumption | with_reducible apply eS | with_reducible apply eL | exact eR) | (apply RdF.mono; (· (apply OwF.rdF; with_reducible assumption)); · (try simp only [List.cons_append, List.nil_append, List.append_assoc]); repeat' first | with_reducible apply eR | with_reducible apply eA | ((with_reducible apply xA); · repeat first | with_reducible apply lH | with_reducible apply lT | with_reducible apply lL) | ((with_reducible apply xC); · repeat first | apply pH | with_reducible apply pT | with_reducible apply pL) | with_reducible assumption | with_reducible apply eS | with_reducible apply eL | exact eR) | (apply RdF.ownm; (· repeat first | with_reducible assumption | with_reducible apply List.mem_cons_self | with_reducible apply List.mem_cons_of_mem | with_reducible apply List.mem_append_right | exact List.Mem.head _); · first | rfl | with_reducible assumption | omega | simp [*]) | with_reducible assumption | omega | (simp; done) | (simp; omega) | (simp only [Bool.and_eq_true, inB_iff] at *; omega))) (by omega) (by omega)) ?_
  refine asg rfl ?_
  refine rN ?_
  refine qN ?_
  refine cS ?_
  refine cS (cR ?_)
  refine mv rfl ?_
  refine bLss rfl rfl ?_
  refine rN ?_
  refine qN ?_
  refine cFa rfl (e1) ?_
  refine cK ?_
  refine qN ?_
  refine cS (cR ?_)
  refine fA rfl ?_
  first | refine rL rfl (by repeat first | with_reducible assumption | with_reducible apply List.mem_cons_self | with_reducible apply List.mem_cons_of_mem | with_reducible apply List.mem_append_right | exact List.Mem.head _) rfl rfl ?_ | refine rL rfl (by repeat first | with_reducible assumption | with_reducible apply List.mem_cons_self | with_reducible apply List.mem_cons_of_mem | with_reducible apply List.mem_append_right | exact List.Mem.head _) (by with_reducible assumption) rfl ?_
  refine mv rfl ?_
  refine rCq rfl (c_heldFloat32SS _ _ _ (k + ps.length) xss _ (by (first | with_reducible assumption | (apply RdD.mono; (· with_reducible assumption); · (try simp only [List.cons_append, List.nil_append, List.append_assoc]); repeat' first | with_reducible apply eR | with_reducible apply eA | ((with_reducible apply xA); · repeat first | with_reducible apply lH | with_reducible apply lT | with_reducible apply lL) | ((with_reducible apply xC); · repeat first | apply pH | with_reducible apply pT | with_reducible apply pL) | with_reducible assumption | with_reducible apply eS | with_reducible apply eL | exact eR) | (apply RdD.mono; (· (apply OwD.rdD; with_reducible assumption)); · (try simp only [List.cons_append, List.nil_append, List.append_assoc]); repeat' first | with_reducible apply eR | with_reducible apply eA | ((with_reducible apply xA); · repeat first | with_reducible apply lH | with_reducible apply lT | with_reducible apply lL) | ((with_reducible apply xC); · repeat first | apply pH | with_reducible apply pT | with_reducible apply pL) | with_reducible assumption | with_reducible apply eS | with_reducible apply eL | exact eR))) (by omega)) ?_
  refine asg rfl ?_
  refine rN ?_
  refine qN ?_
  refine cS ?_
  refine cS (cR ?_)
  refine mv rfl ?_
  refine bLss rfl rfl ?_
  refine rN ?_
  refine qN ?_
  refine cFa rfl (e2) ?_
  refine cK ?_
  refine qN ?_
  refine cS (cR ?_)
  refine mv rfl ?_
  refine asg rfl ?_
  refine rN ?_
  refine qN ?_
  refine cE ?_
  refine kE rfl rfl  ?_
  first | (exfalso; contradiction) | exact ⟨_, ⟨rfl, rfl⟩, (by (try simp only [List.cons_append, List.nil_append, List.append_assoc]); repeat' first | with_reducible apply eR | with_reducible apply eA | ((with_reducible apply xA); · repeat first | with_reducible apply lH | with_reducible apply lT | with_reducible apply lL) | ((with_reducible apply xC); · repeat first | apply pH | with_reducible apply pT | with_reducible apply pL) | with_reducible assumption | with_reducible apply eS | with_reducible apply eL | exact eR)⟩ | exact ⟨_, ⟨by first | (simp_all; done) | (simp_all; intros; omega), rfl⟩, (by (try simp only [List.cons_append, List.nil_append, List.append_assoc]); repeat' first | with_reducible apply eR | with_reducible apply eA | ((with_reducible apply xA); · repeat first | with_reducible apply lH | with_reducible apply lT | with_reducible apply lL) | ((with_reducible apply xC); · repeat first | apply pH | with_reducible apply pT | with_reducible apply pL) | with_reducible assumption | with_reducible apply eS | with_reducible apply eL | exact eR)⟩ | (exfalso; first | contradiction | omega | (simp_all; done) | (simp_all; omega))
end Go.Proofs.Ytfjancbmecfjgaa.Ab
