/-
  The abstract layer: append, and the widening of floats.
-/
import Derived.Test.YtkbpdgacfeachaaOpsb
namespace Go.Proofs.Ytkbpdgacfeachaa.Ab
open Go Go.RowKit
set_option linter.unusedVariables false
set_option linter.unusedSimpArgs false

section
variable {P : Program} {T : Tm} {M : Mem} {d : Option Nat} {ty : Nat} {pos : String} {after : Array Edge} {g : Option (Nat × Bool)}

/-! ## append -/
/-- the slice x of m elements reads as these cells -/
def RdC (M : Mem) (x : Value) (m size : Nat) (vs : List Value) : Prop :=
  vs.length = m * size ∧ (∃ a c, x = .slice a m c ∧ (vs = [] ∨ ∃ b o k, a = some ⟨b, o, none⟩ ∧ (b, k) ∈ M ∧ ∀ i, i < vs.length → k.cells[o + i]? = vs[i]?))

theorem Rd.toC {v : Value} {vs : List Value} (h : Rd M v vs) : RdC M v vs.length 1 vs := by
  obtain ⟨a, c, hv, h⟩ := h
  exact ⟨by omega, a, c, hv, h⟩

theorem setRow_other (w : World) (b : Nat) (cs : Array Value) {j : Nat} (h : j ≠ b) : (w.setRow b cs).heap[j]? = w.heap[j]? := by
  simp only [World.setRow, Array.getElem?_modify]
  rw [if_neg (by omega)]

/-- one entry of the memory is written anew, or made anew beside the old one -/
theorem SatF.replace {w0 : World} {B : Nat} {w w' : World} {M : Mem} (hs : SatF w0 B w M) {p b b' : Nat} {k k' : Blk} (hp : M[p]? = some (b, k)) (hw : k.wr = true) (hbel : Below B w w') (hoth : ∀ j, j < w.heap.size → j ≠ b → w'.heap[j]? = w.heap[j]?)
    (hb' : b' = b ∨ w.heap.size ≤ b') (hok : blkOk w' B b' k') (hw' : k'.wr = true) : SatF w0 B w' (M.set p (b', k')) := by
  have hlt : ∀ q ∈ M, q.1 < w.heap.size := by
    intro q hq
    obtain ⟨c, E, fr, hc, _, _⟩ := hs.ok q hq
    rcases Nat.lt_or_ge q.1 w.heap.size with h | h
    · exact h
    · rw [Array.getElem?_eq_none h] at hc; cases hc
  have hne : ∀ j q, M[j]? = some q → j ≠ p → q.1 ≠ b' := by
    intro j q hj hjp
    rcases hb' with rfl | hge
    · exact apart_ne hs.apart hp hw hj hjp
    · have := hlt q (List.mem_of_getElem? hj); omega
  refine ⟨hs.below.trans hbel, Nat.le_trans hs.room hbel.size, fun q hq => ?_, ?_⟩
  · obtain ⟨j, hj⟩ := List.mem_iff_getElem?.1 hq
    rw [List.getElem?_set] at hj
    split at hj
    · split at hj
      · cases hj; exact hok
      · cases hj
    · rename_i hpj
      have hqb := apart_ne hs.apart hp hw hj (fun e => hpj e.symm)
      obtain ⟨c', E', fr', hc', h1', h2'⟩ := hs.ok q (List.mem_of_getElem? hj)
      exact ⟨c', E', fr', by rw [hoth _ (hlt q (List.mem_of_getElem? hj)) hqb]; exact hc', h1', h2'⟩
  · have h := hs.apart
    rw [List.pairwise_iff_getElem] at h ⊢
    intro i j hi hj hij
    simp only [List.length_set] at hi hj
    rw [List.getElem_set, List.getElem_set]
    split
    · rw [if_neg (by omega)]
      intro _ he
      exact hne j _ (List.getElem?_eq_getElem hj) (by omega) he.symm
    · split
      · intro _ he
        exact hne i _ (List.getElem?_eq_getElem hi) (by omega) he
      · exact h i j hi hj hij

theorem rdC_cells {w0 : World} {B : Nat} {w : World} {M : Mem} (hs : SatF w0 B w M) {x : Value} {m size : Nat} {vs : List Value} (h : RdC M x m size vs) (hf : ∀ v ∈ vs, flatV v = true) :
    ∃ us : List Value, us.map nfS = vs ∧ (∀ u ∈ us, flatV u = true) ∧ ∃ a c, x = .slice a m c ∧ (us = [] ∨ ∃ ad, a = some ad ∧ ∀ j u, us[j]? = some u → w.cell? (ad.add j) = some u) := by
  obtain ⟨hl, a, c, hx, h⟩ := h
  rcases h with h0 | ⟨b, o, k, ha, hm, hc⟩
  · subst h0; exact ⟨[], rfl, by simp, a, c, hx, .inl rfl⟩
  · obtain ⟨cc, E, fr, hh, h1, h2⟩ := hs.ok _ hm
    simp only at hh h1
    refine ⟨(cc.toList.drop o).take vs.length, ?_, ?_, a, c, hx, .inr ⟨_, ha, ?_⟩⟩
    · apply List.ext_getElem?
      intro i
      rw [List.map_take, List.map_drop, h1, List.getElem?_take]
      split
      · rename_i hi; rw [List.getElem?_drop, hc i hi]
      · rename_i hi; rw [List.getElem?_eq_none (by omega)]
    · intro u hu
      obtain ⟨i, hi⟩ := List.mem_iff_getElem?.1 hu
      rw [List.getElem?_take] at hi
      split at hi
      · rename_i hlt
        rw [List.getElem?_drop] at hi
        have : k.cells[o + i]? = some (nfS u) := by rw [← h1, List.getElem?_map, hi]; rfl
        rw [hc i hlt] at this
        have := hf _ (List.mem_of_getElem? this)
        cases u <;> simp_all [nfS, flatV]
      · cases hi
    · intro j u hj
      rw [List.getElem?_take] at hj
      split at hj
      · rw [List.getElem?_drop] at hj
        rw [Addr.add_lit]
        simp only [World.cell?, hh]
        simpa using hj
      · cases hj

/-- append to a slice of the call's own -/
theorem step_append {n : Nat} {K : Value → Mem → Prop} {t e size bytes : Nat} {z : Value} [hu : UnderT P t (.slice e)] [hi : InfoT P e size bytes z] {x y : Operand} {b len cap m : Nat} {xs rest vs : List Value} {v : Value} (p : Nat)
    (ex : ev T x = some (.slice (some ⟨b, 0, none⟩) len cap)) (ey : ev T y = some v) (hp : M[p]? = some (b, ⟨xs ++ rest, true⟩)) (hl : xs.length = len * size) (hc : xs.length + rest.length = cap * size) (hr : RdC M v m size vs) (hf : ∀ v ∈ vs, flatV v = true)
    (hb : (len + m) * bytes ≤ 140737488355328) (h63 : len + m ≤ 4611686018427387904) (hlc : len ≤ cap) (hsz : 0 < size)
    (hk : ∀ b' cap' rest', len + m ≤ cap' → (len + m) * size + rest'.length = cap' * size → K (.slice (some ⟨b', 0, none⟩) (len + m) cap') (M.set p (b', ⟨xs ++ vs ++ rest', true⟩))) :
    Step P n ⟨d, .call { callee := .builtin .append, args := #[x, y], argTypes := #[t, t] }, ty, pos, after, g⟩ T M K := by
  intro w0 B a w ht hs
  obtain ⟨i, hi1, hi2, hi3, hi4⟩ := hi.out
  subst hi2 hi3
  have hx := nf_slice (ev_sound ht ex)
  obtain ⟨us, hus, husf, ad, c, hv, hcell⟩ := rdC_cells hs hr hf
  have hy : a.eval y = .slice ad m c := nf_slice (by rw [ev_sound ht ey, hv])
  have husl : us.length = m * i.size := by rw [← hr.1, ← hus]; simp
  obtain ⟨cur, E, fr, hh, h1, h2⟩ := hs.ok _ (List.mem_of_getElem? hp)
  simp only at hh h1 h2
  obtain ⟨rfl, hB⟩ := h2 trivial
  have hcurl : cur.size = cap * i.size := by rw [← hc, ← List.length_append, ← h1]; simp
  have hres : (execOp a.eval ⟨d, .call { callee := .builtin .append, args := #[x, y], argTypes := #[t, t] }, ty, pos, after, g⟩).run P w = ((Builtin.append_ #[t, t] ty #[.slice (some ⟨b, 0, none⟩) len cap, .slice ad m c]).run P w).andThen fun v w' => .ok (.value v) w' := by
    simp [execOp, resolve, hx, hy, invoke, builtin]
  have hfirst : ∀ w1 : World, w1.heap = w.heap → (Builtin.firstCells i.size m (.slice ad m c)).run P w1 = .ok us.toArray w1 := by
    intro w1 hw1
    rcases hcell with h0 | ⟨a', ha', hcell⟩
    · subst h0
      have hm0 : m * i.size = 0 := by simpa using husl.symm
      cases ad with
      | none => simp [Builtin.firstCells]
      | some ad => simp [Builtin.firstCells, loadCells, hm0, loadCellsFrom]
    · subst ha'
      exact run_firstCells_some (P := P) w1 i.size m a' m c us husl (fun j u hj => by
        have := hcell j u hj
        simpa [World.cell?, hw1] using this)
  rw [hres]
  by_cases hroom : len + m ≤ cap
  · have hfit : len * i.size + us.length ≤ cur.size := by rw [hcurl, husl, ← Nat.add_mul]; exact Nat.mul_le_mul_right _ hroom
    have hst := run_storeCells_at P b (len * i.size) E us 0 cur w hh (by simpa using hfit) (fun u hu => oneCell_flat (husf u hu))
    simp only [Nat.add_zero] at hst
    have hrun : (Builtin.append_ #[t, t] ty #[.slice (some ⟨b, 0, none⟩) len cap, .slice ad m c]).run P w =
        .ok (.slice (some ⟨b, 0, none⟩) (len + m) cap) (w.setRow b (cur.toList.take (len * i.size) ++ us ++ cur.toList.drop (len * i.size + us.length)).toArray) := by
      simp [Builtin.append_, run_underlying hu.out, sizeOf, typeInfo, hi1, Builtin.lenOf, hroom, hfirst w rfl, Addr.add_lit, hst]
    rw [hrun]
    have hbel : Below B w (w.setRow b (cur.toList.take (len * i.size) ++ us ++ cur.toList.drop (len * i.size + us.length)).toArray) :=
      ⟨rfl, rfl, rfl, by simp [World.setRow], fun k hk => setRow_other w b _ (by omega)⟩
    refine ⟨_, hs.replace (b' := b) hp rfl hbel (fun j _ hj => setRow_other w b _ hj) (.inl rfl) (k' := ⟨(cur.toList.take (len * i.size) ++ us ++ cur.toList.drop (len * i.size + us.length)).map nfS, true⟩) ⟨_, E, (0, 0), setRow_heap w b cur _ E (0, 0) hh, rfl, fun _ => ⟨rfl, hB⟩⟩ rfl, ?_⟩
    have := hk b cap (rest.drop us.length) hroom (by
      have e1 : rest.length = cap * i.size - len * i.size := by omega
      have e2 : (len + m) * i.size ≤ cap * i.size := Nat.mul_le_mul_right _ hroom
      rw [Nat.add_mul] at e2 ⊢
      rw [List.length_drop, e1, husl]; omega)
    have e : (cur.toList.take (len * i.size) ++ us ++ cur.toList.drop (len * i.size + us.length)).map nfS = xs ++ vs ++ rest.drop us.length := by
      rw [List.map_append, List.map_append, hus, List.map_take, List.map_drop, h1, ← hl, List.take_left, ← List.drop_drop, List.drop_left]
    show K _ (M.set p (b, ⟨(cur.toList.take (len * i.size) ++ us ++ cur.toList.drop (len * i.size + us.length)).map nfS, true⟩))
    rw [e]
    exact this
  · have hn : ¬ (len + m ≤ cap) := hroom
    have h63' : ¬ (9223372036854775807 < ((len : Int) + (m : Int))) := by omega
    have h48 := growslice_fits (need := len + m) (old := cap) (by omega) hb
    have h48' : ¬ (281474976710656 < Builtin.nextslicecap (len + m) cap * i.bytes) := by omega
    have hm0 : 0 < m := by omega
    have hus0 : us ≠ [] := by
      intro h0
      rw [h0] at husl
      have : 0 < m * i.size := Nat.mul_pos hm0 hsz
      simp at husl
      omega
    obtain ⟨a', ha', hcl⟩ := hcell.resolve_left hus0
    subst ha'
    have hlo : (cur.toList.take (len * i.size)).length = len * i.size := by
      have : len * i.size ≤ cap * i.size := Nat.mul_le_mul_right _ hlc
      rw [List.length_take, Array.length_toList, hcurl]; exact Nat.min_eq_left this
    have hrun := run_append_grow (P := P) w t ty e i z hu.out hi1 hi4 ⟨b, 0, none⟩ len cap (cur.toList.take (len * i.size)) hlo (fun j v hj => by
      rw [List.getElem?_take] at hj
      split at hj
      · rw [Addr.add_lit, Nat.zero_add]
        simp only [World.cell?, hh]
        simpa using hj
      · cases hj) a' m c us husl hcl (by omega) (by omega) h48
    rw [hrun]
    have hbel : Below B w (w.drew.alloc (.cells ((cur.toList.take (len * i.size)).toArray ++ us.toArray ++ Builtin.zeroCells z.cells (grownCap w (len + m) cap e - (len + m))) e)) :=
      (Below.refl B w).drew.alloc hs.room _
    have hge := grownCap_ge w (len + m) cap e
    refine ⟨_, hs.replace (b' := w.heap.size) hp rfl hbel (fun j hj _ => Below.heap_alloc w.drew _ j hj) (.inr (Nat.le_refl _))
      (k' := ⟨((cur.toList.take (len * i.size)).toArray ++ us.toArray ++ Builtin.zeroCells z.cells (grownCap w (len + m) cap e - (len + m))).toList.map nfS, true⟩) ⟨_, e, (0, 0), ?_, rfl, fun _ => ⟨rfl, hs.room⟩⟩ rfl, ?_⟩
    · show (w.heap.push _)[w.heap.size]? = some _
      exact Array.getElem?_push_size
    · have e1 : ((cur.toList.take (len * i.size)).toArray ++ us.toArray ++ Builtin.zeroCells z.cells (grownCap w (len + m) cap e - (len + m))).toList.map nfS = xs ++ vs ++ (Builtin.zeroCells z.cells (grownCap w (len + m) cap e - (len + m))).toList.map nfS := by
        simp only [Array.toList_append, List.map_append, hus]
        rw [List.map_take, h1, ← hl, List.take_left]
      rw [e1]
      refine hk _ _ _ hge ?_
      have hzs : z.cells.size = i.size := hi.cells_size
      rw [List.length_map, Array.length_toList, size_zeroCells, hzs, ← Nat.add_mul]
      congr 1; omega

theorem rP {n : Nat} {ops : Array Oper} {st : Option (List Nat)} {Q : Tm → Mem → Prop} {l : List (Oper × Bool)} {t e size bytes : Nat} {z : Value} [hu : UnderT P t (.slice e)] [hi : InfoT P e size bytes z] {x y : Operand} {b len cap m : Nat} {xs rest vs : List Value} {v : Value} (p : Nat) (hw : ∀ ks, st = some ks → keptD ks d = false)
    (ex : ev T x = some (.slice (some ⟨b, 0, none⟩) len cap)) (ey : ev T y = some v) (hp : M[p]? = some (b, ⟨xs ++ rest, true⟩)) (hl : xs.length = len * size) (hc : xs.length + rest.length = cap * size) (hr : RdC M v m size vs) (hf : ∀ v ∈ vs, flatV v = true)
    (hb : (len + m) * bytes ≤ 140737488355328) (h63 : len + m ≤ 4611686018427387904) (hlc : len ≤ cap) (hsz : 0 < size)
    (hk : ∀ b' cap' rest', len + m ≤ cap' → (len + m) * size + rest'.length = cap' * size → Run P n ops st Q l (putT n d (.slice (some ⟨b', 0, none⟩) (len + m) cap') T) (M.set p (b', ⟨xs ++ vs ++ rest', true⟩))) :
    Run P n ops st Q ((⟨d, .call { callee := .builtin .append, args := #[x, y], argTypes := #[t, t] }, ty, pos, after, none⟩, false) :: l) T M :=
  run_step rfl (step_append p ex ey hp hl hc hr hf hb h63 hlc hsz fun b' cap' rest' h1 h2 => ⟨fun ks hs h => by simp [keeps, writer, hw ks hs] at h, hk b' cap' rest' h1 h2⟩)
end
end Go.Proofs.Ytkbpdgacfeachaa.Ab
