/-
  The abstract layer: lists of elements of any number of cells, of the call's own: append, literals, zeros.
-/
import Derived.Test.YtnikglngipbahaaOv
import Derived.Test.YtnikglngipbahaaCp
import Derived.Lib.AppendZeros
namespace Go.Proofs.Ytnikglngipbahaa.Ab
open Go Go.RowKit
set_option linter.unusedVariables false
set_option linter.unusedSimpArgs false

theorem RdC.mono {M M' : Mem} {x : Value} {m s : Nat} {vs : List Value} (h : RdC M x m s vs) (e : Ext M M') : RdC M' x m s vs := by
  obtain ⟨h1, a, c, h2, h3⟩ := h
  refine ⟨h1, a, c, h2, h3.imp id ?_⟩
  rintro ⟨b, o, k, e1, e2, e3⟩
  exact ⟨b, o, k, e1, e.mem e2, e3⟩
/-- a list of n elements of s cells each, of the call's own -/
def OwC (s : Nat) (L : Mem) (v : Value) (n : Nat) (cs : List Value) : Prop :=
  ((∃ a, v = .slice a 0 0) ∧ n = 0 ∧ cs = [] ∧ L = []) ∨ ∃ b cap rest, v = .slice (some ⟨b, 0, none⟩) n cap ∧ n ≤ cap ∧ cs.length = n * s ∧ cs.length + rest.length = cap * s ∧ L = [(b, ⟨cs ++ rest, true⟩)]
theorem OwC.nil {s : Nat} {a : Option Addr} : OwC s [] (.slice a 0 0) 0 [] := .inl ⟨⟨a, rfl⟩, rfl, rfl, rfl⟩
theorem OwC.shape {s : Nat} {L : Mem} {v : Value} {n : Nat} {cs : List Value} (h : OwC s L v n cs) : ∃ a c, v = .slice a n c ∧ n ≤ c ∧ cs.length = n * s := by
  rcases h with ⟨⟨a, rfl⟩, rfl, rfl, rfl⟩ | ⟨b, cap, rest, rfl, h1, h2, _, _⟩
  · exact ⟨a, 0, rfl, Nat.le_refl _, by simp⟩
  · exact ⟨_, cap, rfl, h1, h2⟩
theorem OwC.rdC {s : Nat} {L : Mem} {v : Value} {n : Nat} {cs : List Value} (h : OwC s L v n cs) : RdC L v n s cs := by
  rcases h with ⟨⟨a, rfl⟩, rfl, rfl, rfl⟩ | ⟨b, cap, rest, rfl, h1, h2, _, rfl⟩
  · exact ⟨by simp, a, 0, rfl, .inl rfl⟩
  · refine ⟨h2, _, cap, rfl, .inr ⟨b, 0, _, rfl, List.mem_cons_self, fun i hi => ?_⟩⟩
    show (cs ++ rest)[0 + i]? = _
    rw [Nat.zero_add, List.getElem?_append_left hi]
section
variable {P : Program} {n : Nat} {T : Tm} {M : Mem} {ops : Array Oper} {st : Option (List Nat)} {Q : Tm → Mem → Prop} {fl : Bool} {l : List (Oper × Bool)} {d : Option Nat} {ty : Nat} {pos : String} {after : Array Edge}
/-- append of nothing -/
theorem step_append0C {K : Value → Mem → Prop} {g : Option (Nat × Bool)} {t e size bytes : Nat} {z : Value} [hu : UnderT P t (.slice e)] [hi : InfoT P e size bytes z] {x y : Operand} {a a' : Option Addr} {len cap c : Nat}
    (ex : ev T x = some (.slice a len cap)) (ey : ev T y = some (.slice a' 0 c)) (hl : len ≤ cap) (hk : K (.slice a len cap) M) :
    Step P n ⟨d, .call { callee := .builtin .append, args := #[x, y], argTypes := #[t, t] }, ty, pos, after, g⟩ T M K := by
  intro w0 B ac w ht hs
  obtain ⟨i, hi1, hi2, hi3, hi4⟩ := hi.out
  have hx := nf_slice (ev_sound ht ex)
  have hy := nf_slice (ev_sound ht ey)
  have hrun : (execOp ac.eval ⟨d, .call { callee := .builtin .append, args := #[x, y], argTypes := #[t, t] }, ty, pos, after, g⟩).run P w = .ok (.value (.slice a len cap)) w := by
    cases a <;> cases a' <;> simp [execOp, resolve, hx, hy, invoke, builtin, Builtin.append_, run_underlying hu.out, sizeOf, typeInfo, hi1, Builtin.lenOf, hl, Builtin.firstCells, loadCells, loadCellsFrom, storeCells]
  rw [hrun]
  exact ⟨M, hs, hk⟩
/-- append where there is no room: a new block -/
theorem step_appendNC {K : Value → Mem → Prop} {g : Option (Nat × Bool)} {t e size bytes : Nat} {z : Value} [hu : UnderT P t (.slice e)] [hi : InfoT P e size bytes z] {x y : Operand} {m : Nat} {vs : List Value} {v : Value} (a0 : Option Addr)
    (ex : ev T x = some (.slice a0 0 0)) (ey : ev T y = some v) (hr : RdC M v m size vs) (h0 : 0 < m) (hsz : 0 < size) (hf : ∀ v ∈ vs, flatV v = true) (hb : m * bytes ≤ 140737488355328) (h63 : m ≤ 4611686018427387904)
    (hk : ∀ b' cap' rest', m ≤ cap' → vs.length + rest'.length = cap' * size → K (.slice (some ⟨b', 0, none⟩) m cap') ((b', ⟨vs ++ rest', true⟩) :: M)) :
    Step P n ⟨d, .call { callee := .builtin .append, args := #[x, y], argTypes := #[t, t] }, ty, pos, after, g⟩ T M K := by
  intro w0 B a w ht hs
  obtain ⟨i, hi1, hi2, hi3, hi4⟩ := hi.out
  subst hi2
  have hx := nf_slice (ev_sound ht ex)
  obtain ⟨us, hus, husf, ad, c, hv, hcell⟩ := rdC_cells hs hr hf
  have hy : a.eval y = .slice ad m c := nf_slice (by rw [ev_sound ht ey, hv])
  have husl : us.length = m * i.size := by rw [← hr.1, ← hus]; simp
  have hus0 : us ≠ [] := by
    intro e; rw [e] at husl
    have := Nat.mul_pos h0 hsz
    simp at husl; omega
  obtain ⟨a', ha', hcl⟩ := hcell.resolve_left hus0
  subst ha'
  have hres : (execOp a.eval ⟨d, .call { callee := .builtin .append, args := #[x, y], argTypes := #[t, t] }, ty, pos, after, g⟩).run P w = ((Builtin.append_ #[t, t] ty #[.slice a0 0 0, .slice (some a') m c]).run P w).andThen fun v w' => .ok (.value v) w' := by
    simp [execOp, resolve, hx, hy, invoke, builtin]
  have hge := grownCap_ge w m 0 e
  have hrun : ∃ cs : Array Value, cs = us.toArray ++ Builtin.zeroCells z.cells (grownCap w m 0 e - m) ∧ (Builtin.append_ #[t, t] ty #[.slice a0 0 0, .slice (some a') m c]).run P w = .ok (.slice (some ⟨w.heap.size, 0, none⟩) m (grownCap w m 0 e)) (w.drew.alloc (.cells cs e)) := by
    cases a0 with
    | none => exact ⟨_, rfl, run_append_nil (P := P) w t ty e i z hu.out hi1 hi4 a' m c us husl hcl h0 (by omega) (by rw [hi3]; omega)⟩
    | some ad0 =>
      have hrun := run_append_grow (P := P) w t ty e i z hu.out hi1 hi4 ad0 0 0 [] (by simp) (by simp) a' m c us husl hcl (by omega) (by omega) (by rw [Nat.zero_add, nextslicecap_zero h0, hi3]; omega)
      simp only [Nat.zero_add] at hrun
      rw [show (([] : List Value).toArray ++ us.toArray) = us.toArray from by simp] at hrun
      exact ⟨_, rfl, hrun⟩
  obtain ⟨cs, hcs, hrun⟩ := hrun
  rw [hres, hrun]
  have h2 : SatF w0 B w.drew M := hs.quiet (quiet_drew w)
  refine ⟨_, h2.alloc _ _, ?_⟩
  have e1 : cs.toList.map nfS = vs ++ (Builtin.zeroCells z.cells (grownCap w m 0 e - m)).toList.map nfS := by
    rw [hcs]; simp only [Array.toList_append, List.map_append, hus]
  rw [e1]
  refine hk _ _ _ (by omega) ?_
  have hgg : m ≤ grownCap w m 0 e := by omega
  have hlz : (Builtin.zeroCells z.cells (grownCap w m 0 e - m)).toList.length = (grownCap w m 0 e - m) * i.size := by rw [Array.length_toList, size_zeroCells, hi.cells_size]
  rw [List.length_map, hlz, hr.1, ← Nat.add_mul]
  congr 1; omega
/-- append of a list that is read to a list of the call's own -/
theorem apC {t e size bytes : Nat} {z : Value} [hu : UnderT P t (.slice e)] [hi : InfoT P e size bytes z] {x y : Operand} {k m : Nat} {cs vs : List Value} {v sl : Value} {L M1 : Mem} (hsz : 0 < size)
    (hw : ∀ ks, st = some ks → keptD ks d = false) (ex : ev T x = some sl) (ey : ev T y = some v) (ho : OwC size L sl k cs) (hM : List.Perm (L ++ M1) M) (hr : RdC M v m size vs) (hf : ∀ v ∈ vs, flatV v = true) (hb : (k + m) * bytes ≤ 140737488355328) (h63 : k + m ≤ 4611686018427387904)
    (hk : ∀ sl' L', OwC size L' sl' (k + m) (cs ++ vs) → Run P n ops st Q l (putT n d sl' T) (L' ++ M1)) :
    Run P n ops st Q ((⟨d, .call { callee := .builtin .append, args := #[x, y], argTypes := #[t, t] }, ty, pos, after, none⟩, false) :: l) T M := by
  refine Run.ofPerm rfl hM ?_
  have hr' : RdC (L ++ M1) v m size vs := hr.mono (Ext.of_perm hM.symm)
  refine run_step rfl ?_
  rcases Nat.eq_zero_or_pos m with h0 | h0
  · subst h0
    obtain ⟨a1, c1, hsl, hlc, hcl⟩ := ho.shape
    obtain ⟨hl0, a2, c2, rfl, _⟩ := hr'
    obtain rfl : vs = [] := List.length_eq_zero_iff.1 (by simpa using hl0)
    subst hsl
    refine step_append0C (t := t) ex ey hlc ?_
    refine ⟨fun ks hs h => by simp [keeps, writer, hw ks hs] at h, hk _ L ?_⟩
    rw [List.append_nil, Nat.add_zero]; exact ho
  · rcases ho with ⟨⟨a, rfl⟩, rfl, rfl, rfl⟩ | ⟨b, cap, rest, rfl, h1, h2, h3, rfl⟩
    · refine step_appendNC (t := t) a ex ey hr' h0 hsz hf (by simpa using hb) (by omega) fun b' cap' rest' hc1 hc2 => ?_
      refine ⟨fun ks hs h => by simp [keeps, writer, hw ks hs] at h, hk _ [(b', ⟨vs ++ rest', true⟩)] ?_⟩
      rw [List.nil_append, Nat.zero_add]
      exact .inr ⟨b', cap', rest', rfl, hc1, hr'.1, hc2, rfl⟩
    · refine step_append (t := t) (size := size) (m := m) (xs := cs) 0 ex ey rfl h2 h3 hr' hf hb h63 h1 hsz fun b' cap' rest' hc1 hc2 => ?_
      refine ⟨fun ks hs h => by simp [keeps, writer, hw ks hs] at h, ?_⟩
      have hl : (cs ++ vs).length = (k + m) * size := by rw [List.length_append, h2, hr'.1, Nat.add_mul]
      exact hk _ [(b', ⟨cs ++ vs ++ rest', true⟩)] (.inr ⟨b', cap', rest', rfl, hc1, hl, by rw [hl]; exact hc2, rfl⟩)
/-- append of zeros to no list (slices.Grow) -/
theorem apZ {t tn e size bytes : Nat} {z : Value} {kn : IntKind} [hu : UnderT P t (.slice e)] [hun : UnderT P tn (.int kn)] [hi : InfoT P e size bytes z] {x y : Operand} {m : Nat} {kx : IntKind} (hsz : 0 < size)
    (hw : ∀ ks, st = some ks → keptD ks d = false) (ex : ev T x = some (.slice none 0 0)) (ey : ev T y = some (.int kx (m : Nat))) (h0 : 0 < m) (hb : m * bytes ≤ 140737488355328) (h63 : m ≤ 4611686018427387904)
    (hk : ∀ b cap rest, m ≤ cap → rest.length = cap * size → Run P n ops st Q l (putT n d (.slice (some ⟨b, 0, none⟩) m cap) T) ((b, ⟨rest, true⟩) :: M)) :
    Run P n ops st Q ((⟨d, .call { callee := .builtin .append, args := #[x, y], argTypes := #[t, tn] }, ty, pos, after, none⟩, false) :: l) T M := by
  refine run_step rfl ?_
  intro w0 B a w ht hs
  obtain ⟨i, hi1, hi2, hi3, hi4⟩ := hi.out
  subst hi2
  have hx := nf_slice (ev_sound ht ex)
  have hy := nf_int (ev_sound ht ey)
  have hrun := Lib.run_append_nil_zeros (P := P) w t tn ty e i z kx kn hu.out hun.out hi1 hi4 m h0 hsz (by omega) (by rw [hi3]; omega)
  have hres : (execOp a.eval ⟨d, .call { callee := .builtin .append, args := #[x, y], argTypes := #[t, tn] }, ty, pos, after, none⟩).run P w = ((Builtin.append_ #[t, tn] ty #[.slice none 0 0, .int kx m]).run P w).andThen fun v w' => .ok (.value v) w' := by
    simp [execOp, resolve, hx, hy, invoke, builtin]
  rw [hres, hrun]
  have hge := grownCap_ge w m 0 e
  have h2 : SatF w0 B w.drew M := hs.quiet (quiet_drew w)
  refine ⟨_, h2.alloc _ _, ?_⟩
  refine ⟨fun ks hs h => by simp [keeps, writer, hw ks hs] at h, hk _ _ _ (by omega) ?_⟩
  have hgg : m ≤ grownCap w m 0 e := by omega
  rw [List.length_map, Array.length_toList, Array.size_append, size_zeroCells, size_zeroCells, hi.cells_size, ← Nat.add_mul]
  congr 1; omega
/-- a literal of one struct of three cells -/
theorem fill3 {c : Array Value} {u0 u1 u2 : Value} (hc : c.size = 3) : Instr.fill (fun i => some (i * 3, 3)) c [(0, .agg #[u0, u1, u2])] = some #[u0, u1, u2] := by
  obtain ⟨l, rfl⟩ : ∃ l : List Value, c = l.toArray := ⟨c.toList, by simp⟩
  match l, hc with
  | [a, b, d], _ => simp [Instr.fill, Value.cells]
theorem rB3 {tx e bytes : Nat} {z : Value} [hu : UnderT P tx (.slice e)] [hi : InfoT P e 3 bytes z] {x : Operand} {v0 v1 v2 : Value}
    (ex : ev T x = some (.agg #[v0, v1, v2]))
    (hk : ∀ b, Run P n ops st Q l (putT n d (.slice (some ⟨b, 0, none⟩) 1 1) T) ((b, ⟨[v0, v1, v2], true⟩) :: M)) :
    Run P n ops st Q ((⟨d, .buildSlice tx 1 ⟨[(0, x)]⟩, ty, pos, after, none⟩, false) :: l) T M := by
  refine run_step rfl ?_
  intro w0 B a w ht hs
  obtain ⟨i, hi1, hi2, hi3, hi4⟩ := hi.out
  obtain ⟨ds, hd, hm⟩ := nf_agg (ev_sound ht ex)
  have hlen : ds.size = 3 := by have := congrArg Array.size hm; simpa using this
  obtain ⟨u0, u1, u2, rfl⟩ : ∃ u0 u1 u2, ds = #[u0, u1, u2] := by
    obtain ⟨l, rfl⟩ : ∃ l : List Value, ds = l.toArray := ⟨ds.toList, by simp⟩
    match l, hlen with
    | [a, b, d], _ => exact ⟨a, b, d, rfl⟩
  have hzc := hi.cells_size
  have hrun : (execOp a.eval ⟨d, .buildSlice tx 1 ⟨[(0, x)]⟩, ty, pos, after, none⟩).run P w = .ok (.value (.slice (some ⟨w.heap.size, 0, none⟩) 1 1)) (w.alloc (.cells #[u0, u1, u2] e)) := by
    have hf : Instr.fill (fun i => some (i * 3, 3)) ((Array.range 3).map (z.cells[· % z.cells.size]!)) [(0, .agg #[u0, u1, u2])] = some #[u0, u1, u2] := fill3 (by simp)
    simp only [execOp, Instr.buildSlice, Sem.run_bind, run_underlying hu.out, Result.andThen_ok, sizeOf, typeInfo, run_program, hi1, Sem.run_pure, hi2, zeroValue, hi4]
    simp [hd, hf, hi4, newRow, hi1]
  rw [hrun]
  refine ⟨_, hs.alloc _ _, ?_⟩
  have he : (#[u0, u1, u2] : Array Value).toList.map nfS = [v0, v1, v2] := by
    have := congrArg Array.toList hm
    simpa using this
  rw [he]
  exact ⟨fun _ _ _ => Ext.cons _ _, hk _⟩
end
end Go.Proofs.Ytnikglngipbahaa.Ab
