/-
  Walks: the lengths of a path in the cells, and the time along it.
-/
import Derived.Test.YtfjancbmecfjgaaPa
import Derived.Test.YtfjancbmecfjgaaRs
import Derived.Test.YtfjancbmecfjgaaSo
namespace Go.Proofs.Ytfjancbmecfjgaa.Ab
open Go Go.RowKit
attribute [local irreducible] Run Then InBlock LoopQ LQ1 LQ2 LQ3 LQ4 LQ5 LQ6 AWp Ret ACall
set_option linter.unusedVariables false
set_option linter.unusedSimpArgs false

theorem ceP_eq {w d : Int} {p : Pth} {parts i : Nat} (hs : (1 ≤ w ∧ w ≤ 16) ∧ 1 ≤ d ∧ d ≤ 16) (hp : ptB p = true) (hi : i < parts) (hn : parts ≤ 256) :
    ceP w d p parts i = (fcmp .geq .f64 (pxF p.fx p.tx i parts) 0 && fcmp .lss .f64 (pxF p.fx p.tx i parts) (fofint .f64 w) && fcmp .geq .f64 (pxF p.fz p.tz i parts) 0 && fcmp .lss .f64 (pxF p.fz p.tz i parts) (fofint .f64 d)) := by
  obtain ⟨p1, p2, p3, p4⟩ := ptB_iff.1 hp
  obtain ⟨x1, x2⟩ := pX_sv p1 p3 hi hn
  obtain ⟨z1, z2⟩ := pX_sv p2 p4 hi hn
  rw [whole_geq x1, whole_lss x1 (by omega), whole_geq z1, whole_lss z1 (by omega)]
  unfold ceP inB
  generalize pX p.fx p.tx i parts = nx at *
  generalize pX p.fz p.tz i parts = nz at *
  rw [Bool.eq_iff_iff]
  simp only [Bool.and_eq_true, decide_eq_true_eq]
  omega
theorem ceI_pos {w d : Int} {p : Pth} {parts k : Nat} (h : 0 ≤ ceI w d p parts k) : ceP w d p parts k = true := by
  rcases hb : ceP w d p parts k with _ | _
  · exfalso; unfold ceI at h; rw [hb] at h; simp at h
  · rfl
theorem ceI_neg {w d : Int} {p : Pth} {parts k : Nat} (hs : (1 ≤ w ∧ w ≤ 16) ∧ 1 ≤ d ∧ d ≤ 16) (h : ceI w d p parts k < 0) : ceP w d p parts k = false := by
  rcases hb : ceP w d p parts k with _ | _
  · rfl
  · exfalso; have := ceP_in hs hb; unfold ceI at h; rw [if_pos hb] at h; omega
theorem ceL_yes {w d : Int} {p : Pth} {parts k : Nat} (h : ceP w d p parts k = true) : ceL w d p parts (k + 1) = ceL w d p parts k ++ [ceV w p parts k] := by
  show ceL w d p parts k ++ (if ceP w d p parts k = true then [ceV w p parts k] else []) = _
  rw [if_pos h]
theorem ceL_no {w d : Int} {p : Pth} {parts k : Nat} (h : ceP w d p parts k = false) : ceL w d p parts (k + 1) = ceL w d p parts k := by
  show ceL w d p parts k ++ (if ceP w d p parts k = true then [ceV w p parts k] else []) = _
  rw [if_neg (by rw [h]; decide), List.append_nil]
theorem addL_take {long : Nat} {out : List Nat} {cs : List Int} {j : Nat} (hj : j < cs.length) :
    addL long out (cs.take (j + 1)) = (addL long out (cs.take j)).set (cs.getD j 0).toNat (fadd .f32 ((addL long out (cs.take j)).getD (cs.getD j 0).toNat 0) long) := by
  have : cs.take (j + 1) = cs.take j ++ [cs.getD j 0] := by rw [List.take_add_one]; simp [hj, List.getD]
  rw [this, addL_snoc]
theorem zeros_own (b k : Nat) : OwF [(b, FB (List.replicate k 0) [])] (.slice (some ⟨b, 0, none⟩) k k) (List.replicate k 0) := by
  have := OwF.blk (b := b) (cap := k) (xs := List.replicate k 0) (rest := []) (by simp)
  rwa [List.length_replicate] at this
-- @own (impl.Path).lengths : c_lengths _ _ _ _ _ (by first | assumption | exact szB_iff.1 (by assumption) | exact (vsB_iff.1 (by assumption)).1 | exact szB_iff.1 (cuB_iff.1 (by assumption)).1) (by first | assumption | exact (cuB_iff.1 (by assumption)).2.1) (by first | omega | exact (cuB_iff.1 (by assumption)).2.2)
-- @own spec.l06Lengths : c_l06Lengths _ _ _ _ _ _ _ @PAT@ (by first | assumption | exact szB_iff.1 (by assumption) | exact (vsB_iff.1 (by assumption)).1) (by assumption) (by omega)
-- @reg laws.toPath : c_toPath _ _

/-! ## the time along a path -/
def tmS (xs ls : List Nat) : Nat → Nat
  | 0 => 0
  | k + 1 => fadd .f32 (tmS xs ls k) (fmul .f32 (ls.getD k 0) (xs.getD k 0))
-- @reg (impl.Section).along : c_along _ _ _ _ _ _ _ _ _ _ _ @RD@ @RD@ (by first | assumption | omega | (have := (vsB_iff.1 (by assumption)).2; simp only [lnF_len]; omega))
-- @reg spec.l06Time : c_l06Time _ _ _ _ _ _ _ _ _ _ _ _ _ @MEM@ @RD@ @RD@ (by first | assumption | omega | (have := (vsB_iff.1 (by assumption)).2; simp only [lnF_len]; omega))
def taB (w d : Int) (n : Nat) (p : Pth) (parts : Int) : Bool := vsB w d n && cuB w d p parts
def taF (w d : Int) (xs : List Nat) (p : Pth) (parts : Nat) : Nat := tmS xs (lnF w d p parts) (lnF w d p parts).length
def taR (w d : Int) (xs : List Nat) (p : Pth) (parts : Int) : Value := .tuple #[.float .f32 (bif taB w d xs.length p parts then taF w d xs p parts.toNat else 0), .bool (taB w d xs.length p parts)]
end Go.Proofs.Ytfjancbmecfjgaa.Ab
