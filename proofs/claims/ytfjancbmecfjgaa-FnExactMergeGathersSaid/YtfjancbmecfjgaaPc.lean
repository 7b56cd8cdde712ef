/-
  Walks: a section pulled so that a path has a time.
-/
import Derived.Test.YtfjancbmecfjgaaPb
namespace Go.Proofs.Ytfjancbmecfjgaa.Ab
open Go Go.RowKit
attribute [local irreducible] Run Then InBlock LoopQ LQ1 LQ2 LQ3 LQ4 LQ5 LQ6 AWp Ret ACall
set_option linter.unusedVariables false
set_option linter.unusedSimpArgs false

def enS (ls : List Nat) : Nat → Nat
  | 0 => 0
  | k + 1 => fadd .f32 (enS ls k) (fmul .f32 (ls.getD k 0) (ls.getD k 0))
-- @reg impl.energy : c_energy _ _ _ _ _ @RD@ @BD@
abbrev byF (xs ls : List Nat) (time share : Nat) : Nat := fmul .f32 share (fdiv .f32 (fsub .f32 time (tmS xs ls ls.length)) (enS ls ls.length))
def puT (xs ls : List Nat) (time share : Nat) : List Nat := tab xs.length fun i => fadd .f32 (xs.getD i 0) (fmul .f32 (ls.getD i 0) (byF xs ls time share))
/-- the values pulled -/
def puF (xs ls : List Nat) (time share : Nat) : List Nat := if fcmp .gtr .f32 (enS ls ls.length) 0 = true then puT xs ls time share else xs
theorem puF_yes {xs ls : List Nat} {time share : Nat} (h : fcmp .gtr .f32 (enS ls ls.length) 0 = true) : puF xs ls time share = puT xs ls time share := if_pos h
theorem puF_no {xs ls : List Nat} {time share : Nat} (h : fcmp .gtr .f32 (enS ls ls.length) 0 = false) : puF xs ls time share = xs := if_neg (by rw [h]; decide)
theorem puF_len (xs ls : List Nat) (time share : Nat) : (puF xs ls time share).length = xs.length := by
  unfold puF puT; split <;> simp [tab_len]
theorem puT_step {xs ls : List Nat} {time share k : Nat} (hk : k < xs.length) :
    (cp (puT xs ls time share) xs k).set k (fadd .f32 ((cp (puT xs ls time share) xs k).getD k 0) (fmul .f32 (ls.getD k 0) (byF xs ls time share))) = cp (puT xs ls time share) xs (k + 1) := by
  unfold puT
  rw [cp_get]
  exact cp_step (f := fun i => fadd .f32 (xs.getD i 0) (fmul .f32 (ls.getD i 0) (byF xs ls time share))) hk rfl
theorem puT_end {xs ls : List Nat} {time share k : Nat} (hk : k = xs.length) : cp (puT xs ls time share) xs k = puT xs ls time share := by unfold puT; exact cp_end hk
-- @mut (impl.Section).pull : c_pullE _ _ _ _ _ _ _ _ _ _ _ _ _ _ _ (by with_reducible assumption) @PULLL@ @RD@ (by first | assumption | (have := (vsB_iff.1 (by assumption)).2; simp only [lnF_len]; omega))
-- @owns spec.l06Pull : c_l06Pull _ _ _ _ _ _ _ _ _ _ _ _ _ _ _ @MEM@ @PAT@ @RD@ @BD@ (by assumption) (by assumption) (by omega)
end Go.Proofs.Ytfjancbmecfjgaa.Ab
