/-
  Walks: lists of lists, gathers: copies, marks, comparing.
-/
import Derived.Test.YtnikglngipbahaaLw
import Derived.Test.YtnikglngipbahaaDl
import Derived.Test.YtnikglngipbahaaDk
import Derived.Test.YtnikglngipbahaaCp
import Derived.Test.YtnikglngipbahaaBd
namespace Go.Proofs.Ytnikglngipbahaa.Ab
open Go Go.RowKit
attribute [local irreducible] Run Then InBlock LoopQ LQ1 LQ2 LQ3 LQ4 LQ5 LQ6 AWp Ret ACall
set_option linter.unusedVariables false
set_option linter.unusedSimpArgs false

/-! ## lengths -/
def totL : List (List Nat) → Nat
  | [] => 0
  | xs :: xss => xs.length + totL xss
theorem totL_app : ∀ (A B : List (List Nat)), totL (A ++ B) = totL A + totL B := by
  intro A
  induction A with
  | nil => intro B; simp [totL]
  | cons x A ih => intro B; show x.length + totL (A ++ B) = x.length + totL A + totL B; rw [ih]; omega
theorem take_succD {xss : List (List Nat)} {i : Nat} (hi : i < xss.length) : xss.take (i + 1) = xss.take i ++ [xss.getD i []] := by
  rw [List.take_add_one, List.getElem?_eq_getElem hi]; simp [hi]
theorem totL_succ {xss : List (List Nat)} {i : Nat} (hi : i < xss.length) : totL (xss.take (i + 1)) = totL (xss.take i) + (xss.getD i []).length := by
  rw [take_succD hi, totL_app]; simp [totL]
theorem totL_take (xss : List (List Nat)) (i : Nat) : totL (xss.take i) ≤ totL xss := by
  have h := totL_app (xss.take i) (xss.drop i)
  rw [List.take_append_drop] at h
  omega
theorem totL_get {xss : List (List Nat)} {i : Nat} (hi : i < xss.length) : totL (xss.take i) + (xss.getD i []).length ≤ totL xss := by
  have := totL_take xss (i + 1)
  rw [totL_succ hi] at this
  omega
/-! ## marks -/
def mkD : Nat → List (List Nat) → List (List Nat)
  | k, [] => []
  | k, xs :: xss => marks k xs.length :: mkD (k + xs.length) xss
theorem mkD_len : ∀ (xss : List (List Nat)) (k : Nat), (mkD k xss).length = xss.length := by
  intro xss
  induction xss with
  | nil => intro k; rfl
  | cons x xss ih => intro k; show (mkD _ xss).length + 1 = xss.length + 1; rw [ih]
theorem mkD_get : ∀ (xss : List (List Nat)) (k i : Nat), i < xss.length → (mkD k xss).getD i [] = marks (k + totL (xss.take i)) (xss.getD i []).length := by
  intro xss
  induction xss with
  | nil => intro k i h; simp at h
  | cons x xss ih =>
    intro k i hi
    cases i with
    | zero => rfl
    | succ i =>
      show (mkD (k + x.length) xss).getD i [] = marks (k + (x.length + totL (xss.take i))) (xss.getD i []).length
      rw [ih _ _ (by simpa using hi), Nat.add_assoc]
theorem mkD_tot : ∀ (xss : List (List Nat)) (k : Nat), totL (mkD k xss) = totL xss := by
  intro xss
  induction xss with
  | nil => intro k; rfl
  | cons x xss ih => intro k; show (marks k x.length).length + totL (mkD _ xss) = x.length + totL xss; rw [ih, marks_len]
/-- the first i of one list, then another -/
def cpD (xss yss : List (List Nat)) (i : Nat) : List (List Nat) := xss.take i ++ yss.drop i
theorem cpD_zero (xss yss : List (List Nat)) : cpD xss yss 0 = yss := by simp [cpD]
theorem cpD_all {xss yss : List (List Nat)} (h : yss.length = xss.length) : cpD xss yss xss.length = xss := by
  unfold cpD; rw [List.take_length, List.drop_eq_nil_of_le (by omega), List.append_nil]
theorem cpD_len {xss yss : List (List Nat)} {k : Nat} (h : yss.length = xss.length) : (cpD xss yss k).length = xss.length := by simp [cpD]; omega
theorem cpD_set {xss yss : List (List Nat)} {k : Nat} (h : yss.length = xss.length) (hk : k < xss.length) : (cpD xss yss k).set k (xss.getD k []) = cpD xss yss (k + 1) := by
  unfold cpD
  apply List.ext_getElem
  · simp; omega
  · intro i h1 h2
    simp at h1
    rw [List.getElem_set]
    split
    · rename_i e; subst e
      rw [List.getElem_append_left (by simp; omega)]
      simp [List.getD, hk]
    · rename_i e
      by_cases hi : i < k
      · rw [List.getElem_append_left (by simp; omega), List.getElem_append_left (by simp; omega)]; simp
      · rw [List.getElem_append_right (by simp; omega), List.getElem_append_right (by simp; omega)]
        simp only [List.length_take, List.getElem_drop]
        congr 1
        omega
theorem cpD_get {xss yss : List (List Nat)} {k : Nat} (h : yss.length = xss.length) (hk : k ≤ xss.length) : (cpD xss yss k).getD k [] = yss.getD k [] := by
  unfold cpD
  simp only [List.getD]
  rw [List.getElem?_append_right (by simp; omega)]
  simp only [List.length_take, Nat.min_eq_left hk, Nat.sub_self, List.getElem?_drop, Nat.add_zero]
theorem set_take {α : Type} {vs : List α} {i : Nat} {v : α} (hi : i < vs.length) : (vs.set i v).take (i + 1) = vs.take i ++ [v] := by
  rw [List.take_add_one, List.take_set_of_le (Nat.le_refl _)]
  simp [hi]
theorem perm_sw {Lo Li Lk R M : Mem} (h : Li.Perm (Lk ++ R)) : (Lo ++ (Li ++ M)).Perm (Lk ++ (R ++ (Lo ++ M))) := by
  refine (List.Perm.append_left Lo (List.Perm.append_right M h)).trans ?_
  rw [List.append_assoc Lk R M]
  have e1 : (Lo ++ (Lk ++ (R ++ M))).Perm (Lk ++ (Lo ++ (R ++ M))) := by
    rw [← List.append_assoc Lo Lk, ← List.append_assoc Lk Lo]; exact List.Perm.append_right _ List.perm_append_comm
  refine e1.trans (List.Perm.append_left Lk ?_)
  rw [← List.append_assoc Lo R, ← List.append_assoc R Lo]; exact List.Perm.append_right _ List.perm_append_comm
/-! ## sizes -/
def szLL : Int → List (List Nat) → Int
  | l, [] => l
  | l, f :: fs => if szI l f.length < 0 then -1 else szLL (szI l f.length) fs
def szD (l : Int) (fs : List (List Nat)) : Int := if szI l fs.length < 0 then -1 else szLL (szI l fs.length) fs
def szG (l : Int) (ps : List Nat) (fs : List (List Nat)) : Int := if szI l ps.length < 0 then -1 else szD (szI l ps.length) fs
theorem szI_lei {l : Int} {n : Nat} : szI l n ≤ l ∨ szI l n = -1 := by unfold szI; split <;> omega
theorem szI_eq {l : Int} {n : Nat} (h : ¬ szI l n < 0) : (n : Int) ≤ l ∧ szI l n = l - n := by
  unfold szI at *
  split at h
  · omega
  · rename_i hh; rw [if_neg hh]; omega
theorem szLL_eq : ∀ (fs : List (List Nat)) (l : Int), ¬ szLL l fs < 0 → szLL l fs = l - totL fs := by
  intro fs
  induction fs with
  | nil => intro l _; simp [szLL, totL]
  | cons f fs ih =>
    intro l h
    unfold szLL at h ⊢
    split at h
    · omega
    · rename_i hn
      obtain ⟨h1, h2⟩ := szI_eq hn
      rw [if_neg hn, ih _ h, h2]
      show l - f.length - totL fs = l - ((f.length + totL fs : Nat) : Int)
      omega
theorem szLL_m1 : ∀ (fs : List (List Nat)) (l : Int), szLL l fs < 0 → 0 ≤ l → szLL l fs = -1 := by
  intro fs
  induction fs with
  | nil => intro l h h0; unfold szLL at h; omega
  | cons f fs ih =>
    intro l h h0
    unfold szLL at h ⊢
    split at h
    · rename_i hn; rw [if_pos hn]
    · rename_i hn; rw [if_neg hn]; exact ih _ h (by omega)
theorem szD_eq {l : Int} {fs : List (List Nat)} (h : ¬ szD l fs < 0) : (fs.length : Int) ≤ l ∧ szD l fs = l - fs.length - totL fs := by
  unfold szD at *
  split at h
  · omega
  · rename_i hn
    obtain ⟨h1, h2⟩ := szI_eq hn
    rw [if_neg hn, szLL_eq _ _ h, h2]
    exact ⟨h1, rfl⟩
theorem szD_m1 {l : Int} {fs : List (List Nat)} (h : szD l fs < 0) : szD l fs = -1 := by
  unfold szD at *
  split at h
  · rename_i hn; rw [if_pos hn]
  · rename_i hn; rw [if_neg hn]; exact szLL_m1 _ _ h (by omega)
theorem szG_ge {l : Int} {ps : List Nat} {fs : List (List Nat)} (h : decide (szG l ps fs < 0) = false) : (ps.length : Int) + fs.length + totL fs ≤ l ∧ szG l ps fs = l - ps.length - fs.length - totL fs ∧ 0 ≤ szG l ps fs := by
  rw [decide_eq_false_iff_not] at h
  unfold szG at *
  split at h
  · omega
  · rename_i hn
    obtain ⟨h1, h2⟩ := szI_eq hn
    obtain ⟨h3, h4⟩ := szD_eq h
    rw [if_neg hn, h4, h2]
    rw [h2] at h3
    rw [h4, h2] at h
    omega
-- @reg laws.szFloat32SS : c_szFloat32SS _ _ _ _ _ _ @RDD@ @BD@ @BD@ @BD@ (by first | assumption | omega)
/-! ## copies -/
-- @own laws.toFloat32SS : c_toFloat32SS _ _ _ _ _ @RDD@ @BD@ @BD@
-- @true laws.eqFloat32SS : c_eqFloat32SS _ _ _ _ _ _ _ _ @RDD@ @RDD@ @BD@ @BD@
/-! ## gathers -/
/-- the two lists of a gather of the call's own -/
def OwGP (L : Mem) (sp st : Value) (ps : List Nat) (xss : List (List Nat)) : Prop := ∃ Lp Lt, OwF Lp sp ps ∧ OwD Lt st xss ∧ L = Lp ++ Lt
theorem OwGP.rd {L : Mem} {sp st : Value} {ps : List Nat} {xss : List (List Nat)} (h : OwGP L sp st ps xss) : ∃ ap cp at' ct, sp = .slice ap ps.length cp ∧ st = .slice at' xss.length ct ∧ RdF L ap ps.length ps ∧ RdD L at' xss.length xss := by
  obtain ⟨Lp, Lt, h1, h2, rfl⟩ := h
  obtain ⟨a, c, e1, e2⟩ := h1.rd
  obtain ⟨a', c', e3, e4⟩ := h2.rd
  exact ⟨a, c, a', c', e1, e3, e2.mono (Ext.of_sublist (List.sublist_append_left _ _)), e4.mono (ext_append _ _)⟩
theorem OwGP.gF {L : Mem} {a : Option Addr} {n c : Nat} {st : Value} {ps : List Nat} {xss : List (List Nat)} (h : OwGP L (.slice a n c) st ps xss) : RdF L a n ps := by
  obtain ⟨Lp, Lt, h1, h2, rfl⟩ := h
  exact h1.rdF.mono (Ext.of_sublist (List.sublist_append_left _ _))
theorem OwGP.gD {L : Mem} {a : Option Addr} {n c : Nat} {sp : Value} {ps : List Nat} {xss : List (List Nat)} (h : OwGP L sp (.slice a n c) ps xss) : RdD L a n xss := by
  obtain ⟨Lp, Lt, h1, h2, rfl⟩ := h
  exact h2.rdD.mono (ext_append _ _)
theorem OwGP.mk {Lp Lt : Mem} {sp st : Value} {ps : List Nat} {xss : List (List Nat)} (h1 : OwF Lp sp ps) (h2 : OwD Lt st xss) : OwGP (Lp ++ Lt) sp st ps xss := ⟨Lp, Lt, h1, h2, rfl⟩
theorem OwD.mk {Lo Li : Mem} {v : Value} {vs : List Value} {xss : List (List Nat)} (h1 : OwV Lo v vs) (h2 : OwL Li vs xss) : OwD (Lo ++ Li) v xss := ⟨Lo, Li, vs, h1, h2, rfl⟩
/-- a gather of the call's own -/
def OwG (L : Mem) (v : Value) (t : Int) (ps : List Nat) (xss : List (List Nat)) : Prop := ∃ sp st, v = .agg #[.int .i64 t, sp, st] ∧ OwGP L sp st ps xss
/-- a gather and a bool: the zero where the bool is false -/
def ResG (B : Bool) (t : Int) (ps : List Nat) (xss : List (List Nat)) (r : Value) (L : Mem) : Prop := ∃ sp st, r = .tuple #[.agg #[.int .i64 (bif B then t else 0), sp, st], .bool B] ∧ OwGP L sp st (bif B then ps else []) (bif B then xss else [])
theorem ResG.no {B : Bool} {t : Int} {ps : List Nat} {xss : List (List Nat)} (h : B = false) : ResG B t ps xss (.tuple #[.agg #[.int .i64 0, .slice none 0 0, .slice none 0 0], .bool false]) [] := by
  subst h; exact ⟨_, _, rfl, [], [], OwF.nil, OwD.nil, rfl⟩
theorem ResG.yes {B : Bool} {t : Int} {sp st : Value} {ps : List Nat} {xss : List (List Nat)} {L : Mem} (h : B = true) (ho : OwGP L sp st ps xss) : ResG B t ps xss (.tuple #[.agg #[.int .i64 t, sp, st], .bool true]) L := by
  subst h; exact ⟨_, _, rfl, ho⟩
-- @owng laws.toGather : c_toGather _ _ _ _ _ _ _ _ _ _ @RD@ @RDD@ (by omega)
-- @reg laws.szGather : c_szGather _ _ _ _ _ _ _ _ _ _ _ @RD@ @RDD@ @BD@ @BD@ @BD@ (by first | assumption | omega)
-- @true laws.eqGather : c_eqGather _ _ _ _ _ _ _ _ _ _ _ _ _ _ @RD@ @RD@ @RDD@ @RDD@ (by omega)
end Go.Proofs.Ytnikglngipbahaa.Ab
