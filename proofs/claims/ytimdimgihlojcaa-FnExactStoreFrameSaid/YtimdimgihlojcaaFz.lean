/-
  The abstract layer: a list of bytes converted to its own type; append to a list that is full.
-/
import Derived.Test.YtimdimgihlojcaaSr
namespace Go.Proofs.Ytimdimgihlojcaa.Ab
open Go Go.RowKit
set_option linter.unusedVariables false
set_option linter.unusedSimpArgs false

theorem freeze_other (w : World) (a : Addr) (n k : Nat) (h : k ≠ a.block) : (w.freeze a n).heap[k]? = w.heap[k]? := by
  unfold World.freeze
  split
  · rfl
  · show (w.heap.modify a.block _)[k]? = _
    rw [Array.getElem?_modify, if_neg (Ne.symm h)]
theorem freeze_size (w : World) (a : Addr) (n : Nat) : (w.freeze a n).heap.size = w.heap.size := by
  unfold World.freeze
  split
  · rfl
  · exact Array.size_modify
theorem freeze_same (w : World) (a : Addr) (n : Nat) {c : Array Value} {E : TypeId} {fr : Nat × Nat} (h : w.heap[a.block]? = some (.cells c E fr)) : ∃ fr', (w.freeze a n).heap[a.block]? = some (.cells c E fr') := by
  unfold World.freeze
  split
  · exact ⟨fr, h⟩
  · obtain ⟨lo, hi⟩ := fr
    refine ⟨if lo == hi then (a.off, a.off + n) else (min lo a.off, max hi (a.off + n)), ?_⟩
    show (w.heap.modify a.block _)[a.block]? = _
    rw [Array.getElem?_modify, if_pos rfl, h]
    rfl
theorem freeze_os (w : World) (a : Addr) (n : Nat) : (w.freeze a n).os = w.os ∧ (w.freeze a n).tape = w.tape ∧ (w.freeze a n).output = w.output := by
  unfold World.freeze
  split <;> exact ⟨rfl, rfl, rfl⟩
theorem SatF.freeze {w0 : World} {B : Nat} {w : World} {b : Nat} {cs : List Value} {M : Mem} (h : SatF w0 B w ((b, ⟨cs, true⟩) :: M)) (a : Addr) (ha : a.block = b) (n : Nat) : SatF w0 B (w.freeze a n) ((b, ⟨cs, false⟩) :: M) := by
  subst ha
  obtain ⟨c, E, fr, hc, hcs, hwr⟩ := h.ok _ List.mem_cons_self
  have hB : B ≤ a.block := (hwr rfl).2
  have hap := List.pairwise_cons.1 h.apart
  have hne : ∀ p ∈ M, a.block ≠ p.1 := fun p hp => hap.1 p hp (.inl rfl)
  obtain ⟨o1, o2, o3⟩ := freeze_os w a n
  refine ⟨⟨o1.trans h.below.os, o2.trans h.below.tape, o3.trans h.below.output, by rw [freeze_size]; exact h.below.size, fun k hk => by rw [freeze_other w a n k (by omega)]; exact h.below.block k hk⟩, by rw [freeze_size]; exact h.room, fun p hp => ?_, ?_⟩
  · rcases List.mem_cons.1 hp with rfl | hp
    · obtain ⟨fr', hf⟩ := freeze_same w a n hc
      exact ⟨c, E, fr', hf, hcs, fun h => by cases h⟩
    · obtain ⟨c', E', fr', hc', h1, h2⟩ := h.ok p (List.mem_cons_of_mem _ hp)
      exact ⟨c', E', fr', by rw [freeze_other w a n p.1 (Ne.symm (hne p hp))]; exact hc', h1, h2⟩
  · exact List.pairwise_cons.2 ⟨fun p hp _ => hne p hp, hap.2⟩
section
variable {P : Program} {n : Nat} {T : Tm} {M : Mem} {ops : Array Oper} {Q : Tm → Mem → Prop} {l : List (Oper × Bool)} {d : Option Nat} {ty : Nat} {pos : String} {after : Array Edge}
/-- bytes to bytes: the block is only read from now on -/
theorem cvF {s e : Nat} [h1 : UnderT P s (.slice e)] [h2 : UnderT P e (.int .u8)] {x : Operand} {b o m c : Nat} {cs : List Value} {M1 : Mem} (ex : ev T x = some (.slice (some ⟨b, o, none⟩) m c)) (hM : List.Perm ((b, ⟨cs, true⟩) :: M1) M)
    (kk : Run P n ops none Q l (putT n d (.slice (some ⟨b, o, none⟩) m c) T) ((b, ⟨cs, false⟩) :: M1)) : Run P n ops none Q ((⟨d, .convert s s x, ty, pos, after, none⟩, false) :: l) T M := by
  refine Run.ofPerm rfl hM ?_
  refine run_step rfl ?_
  intro w0 B a w ht hs
  have e1 := nf_slice (ev_sound ht ex)
  obtain ⟨cc, E, fr, hc, _, _⟩ := hs.ok _ List.mem_cons_self
  have hsh : w.shape? b = some (E, cc.size) := by
    unfold World.shape?
    have hc' : w.heap[b]? = some (.cells cc E fr) := hc
    simp [hc']
  have hrun : (execOp a.eval ⟨d, .convert s s x, ty, pos, after, none⟩).run P w = .ok (.value (.slice (some ⟨b, o, none⟩) m c)) (w.freeze { block := b, off := cc.size } 1) := by
    simp [execOp, e1, convert, run_underlying h1.out, run_underlying h2.out, markStringish, hsh]
  rw [hrun]
  exact ⟨_, hs.freeze _ rfl 1, fun ks h => (by cases h), kk⟩
/-- append to a list that is full -/
theorem apG {t e size bytes : Nat} {z : Value} [hu : UnderT P t (.slice e)] [hi : InfoT P e size bytes z] {x y : Operand} {k m b o : Nat} {cs vs : List Value} {v : Value} (hsz : 0 < size)
    (ex : ev T x = some (.slice (some ⟨b, o, none⟩) k k)) (ey : ev T y = some v) (hc : RdC M (.slice (some ⟨b, o, none⟩) k k) k size cs) (hr : RdC M v m size vs) (hk0 : 0 < k) (h0 : 0 < m) (hfc : ∀ v ∈ cs, flatV v = true) (hf : ∀ v ∈ vs, flatV v = true) (hb : (k + m) * bytes ≤ 140737488355328) (h63 : k + m ≤ 4611686018427387904)
    (hk : ∀ sl' L', OwC size L' sl' (k + m) (cs ++ vs) → Run P n ops none Q l (putT n d sl' T) (L' ++ M)) :
    Run P n ops none Q ((⟨d, .call { callee := .builtin .append, args := #[x, y], argTypes := #[t, t] }, ty, pos, after, none⟩, false) :: l) T M := by
  refine run_step rfl ?_
  intro w0 B a w ht hs
  obtain ⟨i, hi1, hi2, hi3, hi4⟩ := hi.out
  subst hi2
  have hx := nf_slice (ev_sound ht ex)
  obtain ⟨us, hus, husf, ad, c, hv, hcell⟩ := rdC_cells hs hr hf
  obtain ⟨uc, huc, hucf, ad2, c2, hv2, hcell2⟩ := rdC_cells hs hc hfc
  obtain ⟨rfl, _, rfl⟩ := Value.slice.inj hv2
  have hy : a.eval y = .slice ad m c := nf_slice (by rw [ev_sound ht ey, hv])
  have husl : us.length = m * i.size := by rw [← hr.1, ← hus]; simp
  have hucl : uc.length = k * i.size := by rw [← hc.1, ← huc]; simp
  have hus0 : us ≠ [] := by
    intro e; rw [e] at husl
    have := Nat.mul_pos h0 hsz
    simp at husl; omega
  have huc0 : uc ≠ [] := by
    intro e; rw [e] at hucl
    have := Nat.mul_pos hk0 hsz
    simp at hucl; omega
  obtain ⟨a', ha', hcl⟩ := hcell.resolve_left hus0
  obtain ⟨a2, ha2, hcl2⟩ := hcell2.resolve_left huc0
  subst ha'
  obtain rfl := Option.some.inj ha2
  have hrun := run_append_grow (P := P) w t ty e i z hu.out hi1 hi4 ⟨b, o, none⟩ k k uc hucl hcl2 a' m c us husl hcl (by omega) (by omega) (by rw [hi3]; exact growslice_fits (by omega) hb)
  have hres : (execOp a.eval ⟨d, .call { callee := .builtin .append, args := #[x, y], argTypes := #[t, t] }, ty, pos, after, none⟩).run P w = ((Builtin.append_ #[t, t] ty #[.slice (some ⟨b, o, none⟩) k k, .slice (some a') m c]).run P w).andThen fun v w' => .ok (.value v) w' := by
    simp [execOp, resolve, hx, hy, invoke, builtin]
  have hge := grownCap_ge w (k + m) k e
  rw [hres, hrun]
  have h2 : SatF w0 B w.drew M := hs.quiet (quiet_drew w)
  refine ⟨_, h2.alloc _ _, fun ks h => (by cases h), ?_⟩
  have e1 : (uc.toArray ++ us.toArray ++ Builtin.zeroCells z.cells (grownCap w (k + m) k e - (k + m))).toList.map nfS = cs ++ vs ++ (Builtin.zeroCells z.cells (grownCap w (k + m) k e - (k + m))).toList.map nfS := by
    simp only [Array.toList_append, List.map_append, hus, huc]
  rw [e1]
  refine hk _ [(_, ⟨_, true⟩)] (.inr ⟨_, _, _, rfl, by omega, by rw [List.length_append, hc.1, hr.1, Nat.add_mul], ?_, rfl⟩)
  have hlz : (Builtin.zeroCells z.cells (grownCap w (k + m) k e - (k + m))).toList.length = (grownCap w (k + m) k e - (k + m)) * i.size := by rw [Array.length_toList, size_zeroCells, hi.cells_size]
  rw [List.length_map, hlz, List.length_append, hc.1, hr.1, ← Nat.add_mul, ← Nat.add_mul]
  congr 1; omega
end
end Go.Proofs.Ytimdimgihlojcaa.Ab
