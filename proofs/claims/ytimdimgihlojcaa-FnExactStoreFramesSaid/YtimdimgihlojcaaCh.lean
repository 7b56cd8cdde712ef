/-
  The model's level: slices.Chunk and a range over it; the packed trace.
-/
import Derived.RangeFuncBox
import Derived.RangeFuncLeaves
import Derived.RangeFuncCalls
import Derived.Shelf.Abstract
import Derived.Shelf.RegionOpen
import Derived.OwnWalkIn
import Derived.TacticsInMore
import Derived.LoopNIn
import Derived.LoopIn
import Derived.Test.YtimdimgihlojcaaTr
namespace Go.Proofs.Ytimdimgihlojcaa.Ab
open Go Go.RowKit Go.Shelf
set_option linter.unusedVariables false
set_option linter.unusedSimpArgs false
attribute [local go_sem] Oper.semAt_some

/-- what has come when k rounds are over -/
def chU {α : Type} (g : Nat → α) (k : Nat) : List α := (List.range k).map g
theorem chU_succ {α : Type} (g : Nat → α) (k : Nat) : chU g (k + 1) = chU g k ++ [g k] := by simp [chU, List.range_succ]
theorem chU_len {α : Type} (g : Nat → α) (k : Nat) : (chU g k).length = k := by simp [chU]
/-- the piece number j of a slice -/
abbrev chV (b off len : Nat) (j : Nat) : Value := .slice (some ⟨b, off + 8 * j, none⟩) (min 8 (len - 8 * j)) (min 8 (len - 8 * j))
/-- the blocks below n₁ but one are as they were -/
def KeepsBut (n₁ Bo : Nat) (W W' : World) : Prop := ∀ k, k < n₁ → k ≠ Bo → W'.heap[k]? = W.heap[k]?
theorem KeepsBut.cell {n₁ Bo : Nat} {W W' : World} (h : KeepsBut n₁ Bo W W') {p : Addr} (h1 : p.block < n₁) (h2 : p.block ≠ Bo) : W'.cell? p = W.cell? p := World.cell?_of_block (h _ h1 h2)
set_option maxRecDepth 100000 in
set_option maxHeartbeats 4000000 in
theorem ch1_in {α : Type} (enc : α → Value) (g : Nat → α) (F : Fence) (n : Nat) (hF : F.fn 110) (hro : F.round = none) (hn : 1 ≤ n) (l Bs Bn Bo n₁ b off len cap : Nat) (hlen : len ≤ 1000000) (hcap : len ≤ cap) (hsl : Bs < n₁) (hnl : Bn < n₁) (hso : Bs ≠ Bo) (hno : Bn ≠ Bo) (hg : ∀ j, j < (len + 7) / 8 → enc (g j) = chV b off len j) (J Jx : List α → World → Prop) (hJd : ∀ s W, J s W → J s W.drew)
    (hY : ∀ pre x W, J pre W → pre.length < (len + 7) / 8 → YieldAt F (n - 1) Try.prog l #[enc x] W fun e W' =>
      (e = .returned (.bool true) ∧ J (pre ++ [x]) W' ∧ KeepsBut n₁ Bo W W') ∨ (e = .returned (.bool false) ∧ Jx (pre ++ [x]) W'))
    (W : World) (hBs : W.cell? ⟨Bs, 0, none⟩ = some (.slice (some ⟨b, off, none⟩) len cap)) (hBn : W.cell? ⟨Bn, 0, none⟩ = some (.int .i64 8)) (h0 : J [] W) :
    CallsIn F n Try.prog 110 #[.func (.yield l) #[] #[], .pointer (some ⟨Bs, 0, none⟩), .pointer (some ⟨Bn, 0, none⟩)] W fun e W' => (∃ v, e = .returned v) ∧
      ((∃ ys, ys = chU g ((len + 7) / 8) ∧ J ys W') ∨ (∃ pre, (∃ k, k ≤ (len + 7) / 8 ∧ pre = chU g k) ∧ Jx pre W')) := by
  refine callsIn_of_wp Try.func110 rfl hF ?_ hro
  simp only [Try.ntmps110, List.size_toArray, List.length_cons, List.length_nil, Nat.reduceAdd, Nat.reduceSub, Array.replicate_succ, Array.replicate_zero, List.push_toArray, List.append_toArray, List.nil_append, List.cons_append]
  gi_wp2
  gi_loopw [4] (fun i wr => ∃ k : Nat, k ≤ (len + 7) / 8 ∧ i = .int .i64 ((8 * k : Nat) : Int) ∧ J (chU g k) wr ∧ KeepsBut n₁ Bo W wr)
    (fun i _ => len + 8 - (intOf i).toNat)
  case atStart => exact ⟨0, Nat.zero_le _, rfl, h0, fun _ _ _ => rfl⟩
  case round =>
    obtain ⟨k, hk, rfl, hJs, hnx⟩ := hrel
    have hBs' : wr.cell? ⟨Bs, 0, none⟩ = some (.slice (some ⟨b, off, none⟩) len cap) := (hnx.cell (p := ⟨Bs, 0, none⟩) hsl hso).trans hBs
    have hBn' : wr.cell? ⟨Bn, 0, none⟩ = some (.int .i64 8) := (hnx.cell (p := ⟨Bn, 0, none⟩) hnl hno).trans hBn
    by_cases hlt : 8 * k < len
    · have hkK : k < (len + 7) / 8 := by omega
      obtain ⟨fn, tmps, assign, body, hy, hR⟩ := hY _ (g k) wr.drew (hJd _ _ hJs) (by rw [chU_len]; exact hkK)
      rw [hg k hkK] at hy
      have hne : ¬ cap = 8 * k := by omega
      have fin : ∀ W3, J (chU g k ++ [g k]) W3 → KeepsBut n₁ Bo wr.drew W3 → J (chU g (k + 1)) W3 ∧ KeepsBut n₁ Bo W W3 := fun W3 h1 h2 => ⟨by rw [chU_succ]; exact h1, fun j a1 a2 => (h2 j a1 a2).trans (hnx j a1 a2)⟩
      by_cases hm : len - 8 * k < 8
      · have hmi : ((len - 8 * k : Nat) : Int) < 8 := by omega
        have hmn : min 8 (len - 8 * k) = len - 8 * k := by omega
        dsimp only [chV] at hy
        rw [hmn] at hy
        gi_wp2
        gi_region
        all_goals (try (exfalso; omega))
        all_goals gi_wp2
        all_goals refine hR.mono ?_
        all_goals rintro e W3 (⟨rfl, hJ3, hk3⟩ | ⟨rfl, hJx3⟩)
        all_goals first
          | (obtain ⟨q1, q2⟩ := fin W3 hJ3 hk3
             have hBn3 : W3.cell? ⟨Bn, 0, none⟩ = some (.int .i64 8) := (q2.cell (p := ⟨Bn, 0, none⟩) hnl hno).trans hBn
             gi_wp2
             go_roundw
             case rel => exact ⟨k + 1, by omega, by simp; omega, q1, q2⟩
             case measure => simp [intOf]; omega)
          | (gi_wp2
             refine bodyPost_ret (results_none rfl _ _ _) rfl ?_
             exact ⟨⟨_, rfl⟩, .inr ⟨_, ⟨k + 1, by omega, (chU_succ _ _).symm⟩, hJx3⟩⟩)
      · have hmi : ¬ ((len - 8 * k : Nat) : Int) < 8 := by omega
        have hmn : min 8 (len - 8 * k) = 8 := by omega
        dsimp only [chV] at hy
        rw [hmn] at hy
        gi_wp2
        gi_region
        all_goals (try (exfalso; omega))
        all_goals gi_wp2
        all_goals refine hR.mono ?_
        all_goals rintro e W3 (⟨rfl, hJ3, hk3⟩ | ⟨rfl, hJx3⟩)
        all_goals first
          | (obtain ⟨q1, q2⟩ := fin W3 hJ3 hk3
             have hBn3 : W3.cell? ⟨Bn, 0, none⟩ = some (.int .i64 8) := (q2.cell (p := ⟨Bn, 0, none⟩) hnl hno).trans hBn
             gi_wp2
             go_roundw
             case rel => exact ⟨k + 1, by omega, by simp; omega, q1, q2⟩
             case measure => simp [intOf]; omega)
          | (gi_wp2
             refine bodyPost_ret (results_none rfl _ _ _) rfl ?_
             exact ⟨⟨_, rfl⟩, .inr ⟨_, ⟨k + 1, by omega, (chU_succ _ _).symm⟩, hJx3⟩⟩)
    · obtain rfl : k = (len + 7) / 8 := by omega
      gi_wp2
      go_end0
      exact ⟨⟨_, rfl⟩, .inl ⟨_, rfl, hJs⟩⟩
end Go.Proofs.Ytimdimgihlojcaa.Ab
