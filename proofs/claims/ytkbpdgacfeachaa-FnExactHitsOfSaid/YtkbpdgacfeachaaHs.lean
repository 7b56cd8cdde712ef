/-
  slices.Sort at lists of integers: the kit's contract laid at this program, in plain words (printed by the kit's lay-plain); turned into a contract over a list of the call's own.
-/
import Derived.Shelf.SortM.Plain
import Derived.Shelf.SortM.SortNone
import Derived.Test.YtkbpdgacfeachaaHa
namespace Go.Proofs.Ytkbpdgacfeachaa.Ab
open Go Go.RowKit Go.Shelf
set_option linter.unusedVariables false
set_option linter.unusedSimpArgs false
def lSort_ren : Go.Shelf.Ren := ⟨fun | 5 => 56 | 8 => 68 | 7 => 67 | 19 => 83 | 20 => 84 | 10 => 74 | 11 => 75 | 12 => 76 | 13 => 77 | 14 => 78 | 15 => 79 | 16 => 80 | 17 => 81 | 18 => 82 | 30 => 88 | 31 => 89 | 32 => 90 | 33 => 91 | 34 => 92 | 35 => 93 | 40 => 98 | n => n, fun | 23 => 41 | 25 => 2 | 3 => 3 | 32 => 93 | 22 => 41 | 0 => 0 | 44 => 108 | 46 => 110 | 4 => 4 | 36 => 101 | 35 => 100 | 41 => 105 | 5 => 5 | 9 => 9 | 53 => 112 | 57 => 116 | 63 => 120 | 64 => 121 | n => n, fun | n => n⟩
theorem lSort : Go.Proofs.SlLaysM.n5 Try.prog lSort_ren := {
  mixed := by kernel_rfl
  f5 := ⟨Try.f56.name, by decide, Try.func56.trans (congrArg some (by kernel_rfl))⟩
  f7 := ⟨Try.f67.name, by decide, Try.func67.trans (congrArg some (by kernel_rfl))⟩
  f8 := Try.func68.trans (congrArg some (by kernel_rfl))
  f10 := ⟨Try.f74.name, by decide, Try.func74.trans (congrArg some (by kernel_rfl))⟩
  f11 := ⟨Try.f75.name, by decide, Try.func75.trans (congrArg some (by kernel_rfl))⟩
  f12 := ⟨Try.f76.name, by decide, Try.func76.trans (congrArg some (by kernel_rfl))⟩
  f13 := ⟨Try.f77.name, by decide, Try.func77.trans (congrArg some (by kernel_rfl))⟩
  f14 := ⟨Try.f78.name, by decide, Try.func78.trans (congrArg some (by kernel_rfl))⟩
  f15 := ⟨Try.f79.name, by decide, Try.func79.trans (congrArg some (by kernel_rfl))⟩
  f16 := ⟨Try.f80.name, by decide, Try.func80.trans (congrArg some (by kernel_rfl))⟩
  f17 := ⟨Try.f81.name, by decide, Try.func81.trans (congrArg some (by kernel_rfl))⟩
  f18 := ⟨Try.f82.name, by decide, Try.func82.trans (congrArg some (by kernel_rfl))⟩
  f19 := Try.func83.trans (congrArg some (by kernel_rfl))
  f20 := Try.func84.trans (congrArg some (by kernel_rfl))
  f30 := ⟨Try.f88.name, by decide, Try.func88.trans (congrArg some (by kernel_rfl))⟩
  f31 := Try.func89.trans (congrArg some (by kernel_rfl))
  f32 := Try.func90.trans (congrArg some (by kernel_rfl))
  f33 := ⟨Try.f91.name, by decide, Try.func91.trans (congrArg some (by kernel_rfl))⟩
  f34 := ⟨Try.f92.name, by decide, Try.func92.trans (congrArg some (by kernel_rfl))⟩
  f35 := ⟨Try.f93.name, by decide, Try.func93.trans (congrArg some (by kernel_rfl))⟩
  f40 := ⟨Try.f98.name, by decide, Try.func98.trans (congrArg some (by kernel_rfl))⟩
  t0 := Try.underlying0
  a0 := Try.isAgg0
  z0 := Try.sizeOf0
  v0 := Try.zeroValue0
  t3 := Try.underlying3
  a3 := Try.isAgg3
  z3 := Try.sizeOf3
  v3 := Try.zeroValue3
  t4 := Try.underlying4
  a4 := Try.isAgg4
  z4 := Try.sizeOf4
  v4 := Try.zeroValue4
  t5 := Try.underlying5
  a5 := Try.isAgg5
  z5 := Try.sizeOf5
  v5 := Try.zeroValue5
  t9 := Try.underlying9
  a9 := Try.isAgg9
  z9 := Try.sizeOf9
  v9 := Try.zeroValue9
  t22 := Try.underlying41
  a22 := Try.isAgg41
  z22 := Try.sizeOf41
  v22 := Try.zeroValue41
  t23 := Try.underlying41
  a23 := Try.isAgg41
  z23 := Try.sizeOf41
  v23 := Try.zeroValue41
  t25 := Try.underlying2
  a25 := Try.isAgg2
  z25 := Try.sizeOf2
  v25 := Try.zeroValue2
  t32 := Try.underlying93
  a32 := Try.isAgg93
  z32 := Try.sizeOf93
  v32 := Try.zeroValue93
  t35 := Try.underlying100
  a35 := Try.isAgg100
  z35 := Try.sizeOf100
  v35 := Try.zeroValue100
  t36 := Try.underlying101
  a36 := Try.isAgg101
  z36 := Try.sizeOf101
  v36 := Try.zeroValue101
  t41 := Try.underlying105
  a41 := Try.isAgg105
  z41 := Try.sizeOf105
  v41 := Try.zeroValue105
  t44 := Try.underlying108
  a44 := Try.isAgg108
  z44 := Try.sizeOf108
  v44 := Try.zeroValue108
  t46 := Try.underlying110
  a46 := Try.isAgg110
  z46 := Try.sizeOf110
  v46 := Try.zeroValue110
  t53 := Try.underlying112
  a53 := Try.isAgg112
  z53 := Try.sizeOf112
  v53 := Try.zeroValue112
  t57 := Try.underlying116
  a57 := Try.isAgg116
  z57 := Try.sizeOf116
  v57 := Try.zeroValue116
  t63 := Try.underlying120
  a63 := Try.isAgg120
  z63 := Try.sizeOf120
  v63 := Try.zeroValue120
  t64 := Try.underlying121
  a64 := Try.isAgg121
  z64 := Try.sizeOf121
  v64 := Try.zeroValue121 }
theorem nfS_int' {v : Value} {k : IntKind} {n : Int} (h : nfS v = .int k n) : v = .int k n := by
  cases v <;> simp_all [nfS]
theorem iL_cells {w0 : World} {B : Nat} {w : World} {M : Mem} (hs : SatF w0 B w M) {b : Nat} {zs : List Int} {rest : List Value} {wr : Bool} (hm : (b, (⟨iL zs ++ rest, wr⟩ : Blk)) ∈ M) : ∀ j, j < zs.length → w.cell? ⟨b, j, none⟩ = some (.int .i64 (zs[j]?.getD 0)) := by
  intro j hj
  have hc : (iL zs ++ rest)[j]? = some (.int .i64 (zs.getD j 0)) := by
    rw [List.getElem?_append_left (by simpa [iL] using hj), iL_get hj]
  obtain ⟨u, h1, h2⟩ := cell_of hs hm (o := j) hc
  rw [h1, nfS_int' h2]
  simp [List.getD]
theorem putCells_iL {ce : Array Value} {zs ys : List Int} {rest : List Value} (h : ce.toList.map nfS = iL zs ++ rest) (hl : ys.length = zs.length) : (Go.Sort.putCells (Value.int .i64) 0 ys.toArray ce).toList.map nfS = iL ys ++ rest := by
  have hsz : ce.size = zs.length + rest.length := by
    have := congrArg List.length h
    simpa [iL] using this
  apply List.ext_getElem
  · simp [Go.Sort.putCells, iL, hsz, hl]
  · intro i h1 h2
    have hi : i < ce.size := by simpa [Go.Sort.putCells] using h1
    by_cases hlt : i < ys.length
    · simp [Go.Sort.putCells, iL, hlt, nfS]
    · have e := congrArg (fun l => l[i]?) h
      simp only [List.getElem?_map, Array.getElem?_toList] at e
      rw [Array.getElem?_eq_getElem hi, List.getElem?_append_right (by simp [iL]; omega)] at e
      have e2 : (iL zs).length = (iL ys).length := by simp [iL, hl]
      rw [e2] at e
      have hil : (iL ys).length ≤ i := by simp [iL]; omega
      rw [List.getElem_append_right hil]
      have hr : i - (iL ys).length < rest.length := by simp [iL]; omega
      rw [List.getElem?_eq_getElem hr] at e
      simp only [Option.map_some, Option.some.injEq] at e
      simp [Go.Sort.putCells, hlt, e]
theorem c_sortI (a : Option Addr) (n c : Nat) (zs : List Int) (L M : Mem) (ho : OwI L (.slice a n c) zs) (hn : n ≤ 1073741824) :
    ACall Try.prog 56 [.slice a n c] (L ++ M) fun v M' => v = .tuple #[] ∧ ∃ L', OwI L' (.slice a n c) (zs.mergeSort fun x y => decide (x ≤ y)) ∧ M' = L' ++ M := by
  intro w0 B av w ha hs
  obtain ⟨u, rfl⟩ : ∃ u, av = #[u] := by
    cases av with
    | mk l =>
      simp at ha
      match l, ha with
      | [u], _ => exact ⟨u, rfl⟩
  have hu : nf u = .slice a n c := by simpa using ha
  rw [nf_slice hu]
  rcases ho with ⟨⟨a', he⟩, rfl, rfl⟩ | ⟨b, cap, rest, he, hcap, rfl⟩
  · obtain ⟨rfl, rfl, rfl⟩ := Value.slice.inj he
    refine Calls.mono (AnyM.slices_Sort_int_none lSort a 0 w) ?_
    rintro e w' ⟨rfl, rfl⟩
    exact ⟨_, _, rfl, hs, by simp [nf], [], by simpa using OwI.nil, rfl⟩
  · obtain ⟨rfl, rfl, rfl⟩ := Value.slice.inj he
    obtain ⟨ce, E, fr, hb, hce, hwr⟩ := hs.ok (b, ⟨iL zs ++ rest, true⟩) (by simp)
    obtain ⟨rfl, hB⟩ := hwr rfl
    simp only at hb hce hB
    have hblt : b < w.heap.size := (Array.getElem?_eq_some_iff.1 hb).1
    have hls : (zs.mergeSort fun x y => decide (x ≤ y)).length = zs.length := List.length_mergeSort _
    have hH : Go.Sort.Holds (Value.int .i64) w b 0 zs.toArray := by
      intro j hj
      have hj' : j < zs.length := by simpa using hj
      refine ⟨?_, by simp [World.frozen?, hb]⟩
      rw [Nat.zero_add, iL_cells hs (wr := true) (rest := rest) (zs := zs) (by simp) j hj']
      simp [hj']
    refine Calls.mono (AnyM.slices_Sort_int lSort b 0 c zs w hH hblt (by omega)) ?_
    rintro e w' ⟨rfl, k, os, rfl⟩
    have hk : (Go.Sort.grow (Go.Sort.putRow (Value.int .i64) (Go.Sort.ahead w k) b 0 (zs.mergeSort fun x y => decide (x ≤ y)).toArray) os).heap[b]? = some (.cells (Go.Sort.putCells (Value.int .i64) 0 (zs.mergeSort fun x y => decide (x ≤ y)).toArray ce) E (0, 0)) := by
      rw [Go.Sort.heap_grow_old _ _ (by simpa using hblt)]
      simp [Go.Sort.putRow, Go.Sort.mapBlock, Array.getElem?_modify, hb, Go.Sort.onCells]
    have hother : ∀ j, j < w.heap.size → j ≠ b → (Go.Sort.grow (Go.Sort.putRow (Value.int .i64) (Go.Sort.ahead w k) b 0 (zs.mergeSort fun x y => decide (x ≤ y)).toArray) os).heap[j]? = w.heap[j]? := by
      intro j hj hjb
      rw [Go.Sort.heap_grow_old _ _ (by simpa using hj)]
      simp only [Go.Sort.putRow, Go.Sort.mapBlock, Array.getElem?_modify]
      rw [if_neg (by omega)]; rfl
    have hs' := hs.replace (p := 0) (b := b) (b' := b) (k := ⟨iL zs ++ rest, true⟩) (k' := ⟨iL (zs.mergeSort fun x y => decide (x ≤ y)) ++ rest, true⟩) (by simp) rfl
      (w' := Go.Sort.grow (Go.Sort.putRow (Value.int .i64) (Go.Sort.ahead w k) b 0 (zs.mergeSort fun x y => decide (x ≤ y)).toArray) os)
      ⟨rfl, rfl, rfl, by simp, fun j hj => hother j (Nat.lt_of_lt_of_le hj hs.room) (by omega)⟩ hother (.inl rfl) ⟨_, E, _, hk, putCells_iL hce hls, fun _ => ⟨rfl, hB⟩⟩ rfl
    refine ⟨_, _, rfl, hs', by simp [nf], _, .inr ⟨b, c, rest, by rw [hls], by rw [hls]; exact hcap, rfl⟩, rfl⟩
end Go.Proofs.Ytkbpdgacfeachaa.Ab
