/-
  Lists of paths: reading, writing, and what the laws do with them.
-/
import Derived.Test.YtkbpdgacfeachaaPb
import Derived.Test.YtkbpdgacfeachaaTp
import Derived.Deep.Fields
namespace Go.Proofs.Ytkbpdgacfeachaa.Ab
open Go Go.RowKit
attribute [local irreducible] Run Then InBlock LoopQ LQ1 LQ2 LQ3 LQ4 LQ5 LQ6 AWp Ret ACall
set_option linter.unusedVariables false
set_option linter.unusedSimpArgs false

abbrev zP : Pth := ⟨0, 0, 0, 0⟩
abbrev pl4 (p : Pth) : List Value := [.float .f32 p.fx, .float .f32 p.fz, .float .f32 p.tx, .float .f32 p.tz]
def pcs : List Pth → List Value
  | [] => []
  | p :: ps => pl4 p ++ pcs ps
theorem pcs_len (ps : List Pth) : (pcs ps).length = ps.length * 4 := by
  induction ps with
  | nil => rfl
  | cons p ps ih => show (pl4 p ++ pcs ps).length = _; rw [List.length_append, ih]; simp; omega
theorem pcs_get : ∀ (ps : List Pth) (i j : Nat), i < ps.length → j < 4 → (pcs ps)[i * 4 + j]? = (pl4 (ps.getD i zP))[j]? := by
  intro ps
  induction ps with
  | nil => intro i j h; simp at h
  | cons p ps ih =>
    intro i j h hj
    show (pl4 p ++ pcs ps)[i * 4 + j]? = _
    cases i with
    | zero => rw [Nat.zero_mul, Nat.zero_add, List.getElem?_append_left (by simp; omega)]; rfl
    | succ i =>
      rw [List.getElem?_append_right (by simp; omega), show (i + 1) * 4 + j - (pl4 p).length = i * 4 + j from by simp; omega, ih i j (by simpa using h) hj]
      rfl
theorem pcs_set : ∀ (ps : List Pth) (i : Nat) (q : Pth), i < ps.length → (pcs ps).take (i * 4) ++ pl4 q ++ (pcs ps).drop (i * 4 + 4) = pcs (ps.set i q) := by
  intro ps
  induction ps with
  | nil => intro i q h; simp at h
  | cons p ps ih =>
    intro i q h
    cases i with
    | zero =>
      show ((pl4 p ++ pcs ps).take (0 * 4)) ++ pl4 q ++ (pl4 p ++ pcs ps).drop (0 * 4 + 4) = pl4 q ++ pcs ps
      rfl
    | succ i =>
      show ((pl4 p ++ pcs ps).take ((i + 1) * 4)) ++ pl4 q ++ (pl4 p ++ pcs ps).drop ((i + 1) * 4 + 4) = pl4 p ++ pcs (ps.set i q)
      rw [← ih i q (by simpa using h), show (i + 1) * 4 = i * 4 + 4 from by omega]
      rfl
/-- the address of the i-th path -/
def pPt (a : Option Addr) (i : Nat) : Value := .pointer (some ⟨(a.getD ⟨0, 0, none⟩).block, (a.getD ⟨0, 0, none⟩).off + i * 4, none⟩)
/-- the slice reads as these paths -/
def RdP (M : Mem) (a : Option Addr) (n : Nat) (ps : List Pth) : Prop := ps.length = n ∧ (n = 0 ∨ ∃ b o, a = some ⟨b, o, none⟩ ∧ ∀ i, i < n → PAt M b (o + i * 4) (ps.getD i zP))
theorem RdP.mono {M M' : Mem} {a : Option Addr} {n : Nat} {ps : List Pth} (h : RdP M a n ps) (e : Ext M M') : RdP M' a n ps := by
  obtain ⟨h1, h2 | ⟨b, o, h2, h3⟩⟩ := h
  · exact ⟨h1, .inl h2⟩
  · exact ⟨h1, .inr ⟨b, o, h2, fun i hi => (h3 i hi).mono e⟩⟩
theorem RdP.aok {M : Mem} {a : Option Addr} {n : Nat} {ps : List Pth} (h : RdP M a n ps) : AOk a n := by
  obtain ⟨h1, h2 | ⟨b, o, h2, h3⟩⟩ := h
  · exact .inl h2
  · exact .inr ⟨b, o, h2⟩
theorem RdP.pat {M : Mem} {a : Option Addr} {n i : Nat} {ps : List Pth} (h : RdP M a n ps) (hi : i < n) : PAt M (a.getD ⟨0, 0, none⟩).block ((a.getD ⟨0, 0, none⟩).off + i * 4) (ps.getD i zP) := by
  obtain ⟨h1, h2 | ⟨b, o, rfl, h3⟩⟩ := h
  · omega
  · exact h3 i hi
/-- a list of paths of the call's own -/
def OwP (L : Mem) (v : Value) (ps : List Pth) : Prop := ∃ b, v = .slice (some ⟨b, 0, none⟩) ps.length ps.length ∧ L = [(b, ⟨pcs ps, true⟩)]
theorem OwP.rd {L : Mem} {v : Value} {ps : List Pth} (h : OwP L v ps) : ∃ a c, v = .slice a ps.length c ∧ RdP L a ps.length ps := by
  obtain ⟨b, rfl, rfl⟩ := h
  refine ⟨_, _, rfl, rfl, .inr ⟨b, 0, rfl, fun i hi => ⟨_, List.mem_cons_self, ?_⟩⟩⟩
  have hg := fun j hj => pcs_get ps i j hi hj
  refine ⟨?_, ?_, ?_, ?_⟩
  · show (pcs ps)[0 + i * 4 + 0]? = _; rw [Nat.zero_add]; exact hg 0 (by decide)
  · show (pcs ps)[0 + i * 4 + 1]? = _; rw [Nat.zero_add]; exact hg 1 (by decide)
  · show (pcs ps)[0 + i * 4 + 2]? = _; rw [Nat.zero_add]; exact hg 2 (by decide)
  · show (pcs ps)[0 + i * 4 + 3]? = _; rw [Nat.zero_add]; exact hg 3 (by decide)
theorem OwP.rdP {L : Mem} {a : Option Addr} {m c : Nat} {ps : List Pth} (h : OwP L (.slice a m c) ps) : RdP L a m ps := by
  obtain ⟨_, _, hv, h⟩ := h.rd
  obtain ⟨rfl, h2, _⟩ := Value.slice.inj hv
  rw [h2]; exact h
theorem OwP.capl {L : Mem} {a : Option Addr} {m c : Nat} {ps : List Pth} (h : OwP L (.slice a m c) ps) : m ≤ c := by
  obtain ⟨b, hv, _⟩ := h
  obtain ⟨_, h2, h3⟩ := Value.slice.inj hv; omega
section
variable {P : Program} {n : Nat} {T : Tm} {M : Mem} {ops : Array Oper} {st : Option (List Nat)} {Q : Tm → Mem → Prop} {fl : Bool} {l : List (Oper × Bool)} {d : Option Nat} {ty : Nat} {pos : String} {after : Array Edge}
theorem ixP {t e bytes : Nat} {z : Value} [UnderT P t (.slice e)] [InfoT P e 4 bytes z] {x y : Operand} {a : Option Addr} {m c : Nat} {ik : IntKind} {i : Nat}
    (ex : ev T x = some (.slice a m c)) (ey : ev T y = some (.int ik (i : Nat))) (ha : AOk a m) (h1 : i < m)
    (k : Run P n ops st Q l (putT n d (pPt a i) T) M) : Run P n ops st Q ((⟨d, .indexAddr t x y, ty, pos, after, none⟩, fl) :: l) T M := by
  rcases ha with rfl | ⟨b, o, rfl⟩
  · exfalso; omega
  · exact run_tame rfl (tame_indexAddr ex ey (by omega) (by omega)) (by rw [Int.toNat_natCast]; exact k)
theorem drop_take4 {cs : List Value} {o : Nat} {v0 v1 v2 v3 : Value} (h0 : cs[o + 0]? = some v0) (h1 : cs[o + 1]? = some v1) (h2 : cs[o + 2]? = some v2) (h3 : cs[o + 3]? = some v3) : (cs.drop o).take 4 = [v0, v1, v2, v3] := by
  apply List.ext_getElem?
  intro j
  rw [List.getElem?_take]
  split
  · rename_i hj
    rw [List.getElem?_drop]
    match j, hj with
    | 0, _ => rw [h0]; rfl
    | 1, _ => rw [h1]; rfl
    | 2, _ => rw [h2]; rfl
    | 3, _ => rw [h3]; rfl
  · rename_i hj
    rw [List.getElem?_eq_none]
    simp; omega
theorem ldP {t bytes : Nat} {z : Value} [AggT P t] [InfoT P t 4 bytes z] {x : Operand} {a : Option Addr} {m j : Nat} {ps : List Pth} (ex : ev T x = some (pPt a j)) (h : RdP M a m ps) (hj : j < m)
    (kk : Run P n ops st Q l (putT n d (.agg #[.float .f32 (ps.getD j zP).fx, .float .f32 (ps.getD j zP).fz, .float .f32 (ps.getD j zP).tx, .float .f32 (ps.getD j zP).tz]) T) M) : Run P n ops st Q ((⟨d, .load t x, ty, pos, after, none⟩, fl) :: l) T M := by
  obtain ⟨k, hm, e0, e1, e2, e3⟩ := h.pat hj
  refine rLA ex hm (drop_take4 e0 e1 e2 e3) (Nat.ble_eq_true_of_le ?_) kk
  have := (List.getElem?_eq_some_iff.1 e3).1
  omega
/-- a list of paths made -/
theorem mkP {t e bytes : Nat} [hu : UnderT P t (.slice e)] [hi : InfoT P e 4 bytes (.agg #[.float .f32 0, .float .f32 0, .float .f32 0, .float .f32 0])] {x y : Operand} {kx ky : IntKind} {c : Nat} (ex : ev T x = some (.int kx (c : Nat))) (ey : ev T y = some (.int ky (c : Nat)))
    (hc : c * bytes ≤ 281474976710656) (hc2 : c ≤ 4611686018427387904) (kk : ∀ b, Run P n ops st Q l (putT n d (.slice (some ⟨b, 0, none⟩) c c) T) ((b, ⟨pcs (List.replicate c zP), true⟩) :: M)) :
    Run P n ops st Q ((⟨d, .makeSlice t x y, ty, pos, after, none⟩, false) :: l) T M := by
  refine run_step rfl ?_
  intro w0 B a w ht hs
  obtain ⟨i, hi1, hi2, hi3, hi4⟩ := hi.out
  have hx := nf_int (ev_sound ht ex)
  have hy := nf_int (ev_sound ht ey)
  have hrun := run_make (P := P) w t e i _ hu.out hi1 hi4 kx ky (c : Int) (c : Int) (by omega) (by omega) (by rw [hi3, Int.mul_comm]; omega) (by omega)
  have hrun' : (execOp a.eval ⟨d, .makeSlice t x y, ty, pos, after, none⟩).run P w = .ok (.value (.slice (some ⟨w.heap.size, 0, none⟩) c c)) (w.alloc (.cells (madeCells (Value.agg #[.float .f32 0, .float .f32 0, .float .f32 0, .float .f32 0]).cells (c * i.size)) e)) := by
    simp [execOp, hx, hy, hrun]
  rw [hrun']
  refine ⟨_, hs.alloc _ _, ?_⟩
  have he : (madeCells (Value.agg #[.float .f32 0, .float .f32 0, .float .f32 0, .float .f32 0]).cells (c * i.size)).toList.map nfS = pcs (List.replicate c zP) := by
    rw [hi2]
    have hr : pcs (List.replicate c zP) = List.replicate (c * 4) (.float .f32 0) := by
      clear kk hrun' hrun hy hx hc hc2 ex ey
      induction c with
      | zero => rfl
      | succ c ih =>
        show pl4 zP ++ pcs (List.replicate c zP) = _
        rw [ih, show (c + 1) * 4 = 4 + c * 4 from by omega, ← List.replicate_append_replicate]
        rfl
    rw [hr]
    apply List.ext_getElem
    · simp [madeCells]
    · intro j h1 h2
      have hj : j % 4 < 4 := Nat.mod_lt _ (by decide)
      have hz : nfS (Value.float .f32 0) = .float .f32 0 := rfl
      simp [madeCells, Value.cells]
      match j % 4, hj with
      | 0, _ => exact hz
      | 1, _ => exact hz
      | 2, _ => exact hz
      | 3, _ => exact hz
  rw [he]
  exact ⟨fun _ _ _ => Ext.cons _ _, kk _⟩
theorem made_P (b c : Nat) : OwP [(b, ⟨pcs (List.replicate c zP), true⟩)] (.slice (some ⟨b, 0, none⟩) c c) (List.replicate c zP) := ⟨b, by rw [List.length_replicate], rfl⟩
/-- a path stored in a list of the call's own -/
theorem tP {t bytes : Nat} {z : Value} [InfoT P t 4 bytes z] {x y : Operand} {a : Option Addr} {m c j : Nat} {q : Pth} {ps : List Pth} {L M1 : Mem} (ex : ev T x = some (pPt a j)) (ey : ev T y = some (.agg #[.float .f32 q.fx, .float .f32 q.fz, .float .f32 q.tx, .float .f32 q.tz])) (ho : OwP L (.slice a m c) ps) (hM : Ext (L ++ M1) M) (hj : j < m)
    (kk : ∀ L', OwP L' (.slice a m c) (ps.set j q) → Run P n ops st Q l T (L' ++ M1)) : Run P n ops st Q ((⟨none, .store t x y, ty, pos, after, none⟩, false) :: l) T M := by
  obtain ⟨b, hv, rfl⟩ := ho
  obtain ⟨rfl, rfl, rfl⟩ := Value.slice.inj hv
  refine run_step rfl (Step.ofExt (step_storeAgg (P := P) (M := (b, ⟨pcs ps, true⟩) :: M1) (tl := t) (size := 4) (k := ⟨pcs ps, true⟩) (vs := pl4 q) (cs := pcs (ps.set j q)) (b := b) (o := j * 4) 0 (by rw [ex]; simp [pPt]) ey rfl rfl rfl rfl (Nat.ble_eq_true_of_le (by show j * 4 + 4 ≤ (pcs ps).length; rw [pcs_len]; omega)) (pcs_set ps j q hj) ⟨fun _ _ h => by simp [keeps, writer, keptD] at h, ?_⟩) hM)
  exact kk [(b, ⟨pcs (ps.set j q), true⟩)] ⟨b, by rw [List.length_set], rfl⟩
end
theorem MA_uniq {W : World} {b : Nat} {k k' : Blk} (h : (b, k) ∈ MA W) (h' : (b, k') ∈ MA W) : k = k' := by
  obtain ⟨⟨c, E, fr, hc1, hc2, _⟩, hw⟩ := of_mem_MA h
  obtain ⟨⟨c', E', fr', hc1', hc2', _⟩, hw'⟩ := of_mem_MA h'
  simp only at hc1 hc1' hc2 hc2' hw hw'
  rw [hc1] at hc1'
  cases hc1'
  cases k; cases k'
  simp_all
/-- a list of paths, as it is read -/
theorem inv_P {H : Type} {enc : TypeId × Value → H} {P : Program} {W : World} {base : Nat} {spare : Nat → Bool} {held : Bool} {t e n ft : Nat} {f0 f1 f2 f3 : Field} {v : Value} {x : DataW H × List MemPlace} (ht : P.underlying t = some (.slice e)) (he : P.underlying e = some (.struct #[f0, f1, f2, f3]))
    (hone : Deep.oneCellFields P #[f0, f1, f2, f3] = true) (hC : P.cellsOf e = 4) (hft : f0.type = ft ∧ f1.type = ft ∧ f2.type = ft ∧ f3.type = ft) (hu : P.underlying ft = some (.float .f32)) (hx : DataW.trod enc P W base spare held n t [v] = some x) :
    ∃ (ps : List Pth) (a : Option Addr) (c : Nat), v = .slice a ps.length c ∧ RdP (MA W) a ps.length ps ∧ ps.length ≤ maxLen := by
  rcases Deep.open_slice ht hx with ⟨h0, _⟩ | ⟨a, len, cap, m, n', D, Pl, hcs, hb, hl, hm, hmm, _, hcell⟩
  · cases h0
    exact ⟨[], none, 0, rfl, ⟨rfl, .inl rfl⟩, Nat.zero_le _⟩
  · cases hcs
    have hlm : len ≤ m := by rw [hmm]; split <;> omega
    rcases Nat.eq_zero_or_pos len with h0 | hpos
    · subst h0
      exact ⟨[], some a, cap, rfl, ⟨rfl, .inl rfl⟩, Nat.zero_le _⟩
    have hsp : a.spot = none := by
      obtain ⟨cs', h1, _⟩ := hcell 0 (by omega)
      rw [hC] at h1
      obtain ⟨_, hlen, hat⟩ := World.cells?_some h1
      match cs', hlen with
      | [c0, c1, c2, c3], _ =>
        have m0 := cell_MA (hat 0 (by decide))
        have e : (a.add (0 * 4)).add 0 = a := by simp [Addr.add]
        rw [e] at m0
        exact m0.1
    obtain ⟨ab, ao, asp⟩ := a
    simp only at hsp
    subst hsp
    have key : ∀ i, i < len → ∃ p : Pth, PAt (MA W) ab (ao + i * 4) p := by
      intro i hi
      obtain ⟨cs', h1, h2⟩ := hcell i (by omega)
      rw [hC] at h1
      obtain ⟨y0, y1, y2, y3, n2, _, hl4, g0, g1, g2, g3⟩ := Joins.trod_struct4 he h2
      obtain ⟨_, hlen, hat⟩ := World.cells?_some h1
      match cs', hlen with
      | [c0, c1, c2, c3], _ =>
        obtain ⟨o0, k0⟩ := Deep.hone_of hone 0 f0 rfl
        obtain ⟨o1, k1⟩ := Deep.hone_of hone 1 f1 rfl
        obtain ⟨o2, k2⟩ := Deep.hone_of hone 2 f2 rfl
        obtain ⟨o3, k3⟩ := Deep.hone_of hone 3 f3 rfl
        have q0 : DataW.trod enc P W base spare held n2 f0.type [c0] = some y0 := by simpa [o0, k0] using g0
        obtain ⟨b0, rfl⟩ := inv_float (by rw [hft.1]; exact hu) q0
        have q1 : DataW.trod enc P W base spare held n2 f1.type [c1] = some y1 := by simpa [o1, k1] using g1
        obtain ⟨b1, rfl⟩ := inv_float (by rw [hft.2.1]; exact hu) q1
        have q2 : DataW.trod enc P W base spare held n2 f2.type [c2] = some y2 := by simpa [o2, k2] using g2
        obtain ⟨b2, rfl⟩ := inv_float (by rw [hft.2.2.1]; exact hu) q2
        have q3 : DataW.trod enc P W base spare held n2 f3.type [c3] = some y3 := by simpa [o3, k3] using g3
        obtain ⟨b3, rfl⟩ := inv_float (by rw [hft.2.2.2]; exact hu) q3
        have m0 := cell_MA (hat 0 (by decide))
        have m1 := cell_MA (hat 1 (by decide))
        have m2 := cell_MA (hat 2 (by decide))
        have m3 := cell_MA (hat 3 (by decide))
        rw [Addr.add_lit, Addr.add_lit] at m0 m1 m2 m3
        simp only at m0 m1 m2 m3
        obtain ⟨_, kk, hm0, e0⟩ := m0
        obtain ⟨_, kk1, hm1, e1⟩ := m1
        obtain ⟨_, kk2, hm2, e2⟩ := m2
        obtain ⟨_, kk3, hm3, e3⟩ := m3
        obtain rfl := MA_uniq hm0 hm1
        obtain rfl := MA_uniq hm0 hm2
        obtain rfl := MA_uniq hm0 hm3
        exact ⟨⟨cb .f32 b0, cb .f32 b1, cb .f32 b2, cb .f32 b3⟩, kk, hm0, e0, e1, e2, e3⟩
    classical
    refine ⟨(List.range len).map (fun i => if h : i < len then Classical.choose (key i h) else zP), some ⟨ab, ao, none⟩, cap, by simp, ⟨rfl, .inr ⟨ab, ao, rfl, fun i hi => ?_⟩⟩, by simp; omega⟩
    have hi' : i < len := by simpa using hi
    have := Classical.choose_spec (key i hi')
    rw [List.getD_eq_getElem?_getD, List.getElem?_map, List.getElem?_range hi']
    simp only [Option.map_some, Option.getD_some, dif_pos hi']
    exact this

/-! ## what the laws do with paths -/
-- @true laws.eqPath : c_eqPath _ _
theorem c_eqPath (p : Pth) (M : Mem) : ACall Try.prog 36 [.agg #[.float .f32 p.fx, .float .f32 p.fz, .float .f32 p.tx, .float .f32 p.tz], .agg #[.float .f32 p.fx, .float .f32 p.fz, .float .f32 p.tx, .float .f32 p.tz]] M fun r M' => r = .bool true ∧ M' = M := by
  refine acall_of_awp Try.func36 rfl Try.ntmps36 rfl ?_
  refine cS (cR ?_)
  first | (refine rXa rfl ?_; intro bk1) | (refine rX rfl rfl ?_; intro bk1)
  first | (refine rXa rfl ?_; intro bk2) | (refine rX rfl rfl ?_; intro bk2)
  refine asg rfl ?_
  refine rN ?_
  refine qN ?_
  refine cS ?_
  refine cS (cR ?_)
  refine fA rfl ?_
  first | refine rL rfl (by repeat first | with_reducible assumption | with_reducible apply List.mem_cons_self | with_reducible apply List.mem_cons_of_mem | with_reducible apply List.mem_append_right | exact List.Mem.head _) rfl rfl ?_ | refine rL rfl (by repeat first | with_reducible assumption | with_reducible apply List.mem_cons_self | with_reducible apply List.mem_cons_of_mem | with_reducible apply List.mem_append_right | exact List.Mem.head _) (by with_reducible assumption) rfl ?_
  refine rW rfl ?_
  refine fA rfl ?_
  first | refine rL rfl (by repeat first | with_reducible assumption | with_reducible apply List.mem_cons_self | with_reducible apply List.mem_cons_of_mem | with_reducible apply List.mem_append_right | exact List.Mem.head _) rfl rfl ?_ | refine rL rfl (by repeat first | with_reducible assumption | with_reducible apply List.mem_cons_self | with_reducible apply List.mem_cons_of_mem | with_reducible apply List.mem_append_right | exact List.Mem.head _) (by with_reducible assumption) rfl ?_
  refine rW rfl ?_
  refine rCq rfl (c_sameFloat _ _) ?_
  refine uNot rfl ?_
  refine rN ?_
  refine qN ?_
  refine cF rfl ?_
  refine cK ?_
  refine qN ?_
  refine cS ?_
  refine cS (cR ?_)
  refine fA rfl ?_
  first | refine rL rfl (by repeat first | with_reducible assumption | with_reducible apply List.mem_cons_self | with_reducible apply List.mem_cons_of_mem | with_reducible apply List.mem_append_right | exact List.Mem.head _) rfl rfl ?_ | refine rL rfl (by repeat first | with_reducible assumption | with_reducible apply List.mem_cons_self | with_reducible apply List.mem_cons_of_mem | with_reducible apply List.mem_append_right | exact List.Mem.head _) (by with_reducible assumption) rfl ?_
  refine rW rfl ?_
  refine fA rfl ?_
  first | refine rL rfl (by repeat first | with_reducible assumption | with_reducible apply List.mem_cons_self | with_reducible apply List.mem_cons_of_mem | with_reducible apply List.mem_append_right | exact List.Mem.head _) rfl rfl ?_ | refine rL rfl (by repeat first | with_reducible assumption | with_reducible apply List.mem_cons_self | with_reducible apply List.mem_cons_of_mem | with_reducible apply List.mem_append_right | exact List.Mem.head _) (by with_reducible assumption) rfl ?_
  refine rW rfl ?_
  refine rCq rfl (c_sameFloat _ _) ?_
  refine uNot rfl ?_
  refine rN ?_
  refine qN ?_
  refine cF rfl ?_
  refine cK ?_
  refine qN ?_
  refine cS ?_
  refine cS (cR ?_)
  refine fA rfl ?_
  first | refine rL rfl (by repeat first | with_reducible assumption | with_reducible apply List.mem_cons_self | with_reducible apply List.mem_cons_of_mem | with_reducible apply List.mem_append_right | exact List.Mem.head _) rfl rfl ?_ | refine rL rfl (by repeat first | with_reducible assumption | with_reducible apply List.mem_cons_self | with_reducible apply List.mem_cons_of_mem | with_reducible apply List.mem_append_right | exact List.Mem.head _) (by with_reducible assumption) rfl ?_
  refine rW rfl ?_
  refine fA rfl ?_
  first | refine rL rfl (by repeat first | with_reducible assumption | with_reducible apply List.mem_cons_self | with_reducible apply List.mem_cons_of_mem | with_reducible apply List.mem_append_right | exact List.Mem.head _) rfl rfl ?_ | refine rL rfl (by repeat first | with_reducible assumption | with_reducible apply List.mem_cons_self | with_reducible apply List.mem_cons_of_mem | with_reducible apply List.mem_append_right | exact List.Mem.head _) (by with_reducible assumption) rfl ?_
  refine rW rfl ?_
  refine rCq rfl (c_sameFloat _ _) ?_
  refine uNot rfl ?_
  refine rN ?_
  refine qN ?_
  refine cF rfl ?_
  refine cK ?_
  refine qN ?_
  refine cS ?_
  refine cS (cR ?_)
  refine fA rfl ?_
  first | refine rL rfl (by repeat first | with_reducible assumption | with_reducible apply List.mem_cons_self | with_reducible apply List.mem_cons_of_mem | with_reducible apply List.mem_append_right | exact List.Mem.head _) rfl rfl ?_ | refine rL rfl (by repeat first | with_reducible assumption | with_reducible apply List.mem_cons_self | with_reducible apply List.mem_cons_of_mem | with_reducible apply List.mem_append_right | exact List.Mem.head _) (by with_reducible assumption) rfl ?_
  refine rW rfl ?_
  refine fA rfl ?_
  first | refine rL rfl (by repeat first | with_reducible assumption | with_reducible apply List.mem_cons_self | with_reducible apply List.mem_cons_of_mem | with_reducible apply List.mem_append_right | exact List.Mem.head _) rfl rfl ?_ | refine rL rfl (by repeat first | with_reducible assumption | with_reducible apply List.mem_cons_self | with_reducible apply List.mem_cons_of_mem | with_reducible apply List.mem_append_right | exact List.Mem.head _) (by with_reducible assumption) rfl ?_
  refine rW rfl ?_
  refine rCq rfl (c_sameFloat _ _) ?_
  refine uNot rfl ?_
  refine rN ?_
  refine qN ?_
  refine cF rfl ?_
  refine cK ?_
  refine qN ?_
  refine cS (cR ?_)
  refine asg rfl ?_
  refine rN ?_
  refine qN ?_
  refine cE ?_
  refine kE rfl rfl  ?_
  first | (exfalso; contradiction) | exact ⟨_, ⟨rfl, rfl⟩, (by (try simp only [List.cons_append, List.nil_append, List.append_assoc]); repeat' first | with_reducible apply eR | with_reducible apply eA | ((with_reducible apply xA); · repeat first | with_reducible apply lH | with_reducible apply lT | with_reducible apply lL) | ((with_reducible apply xC); · repeat first | apply pH | with_reducible apply pT | with_reducible apply pL) | with_reducible assumption | with_reducible apply eS | with_reducible apply eL | exact eR)⟩ | exact ⟨_, ⟨by first | (simp_all; done) | (simp_all; intros; omega), rfl⟩, (by (try simp only [List.cons_append, List.nil_append, List.append_assoc]); repeat' first | with_reducible apply eR | with_reducible apply eA | ((with_reducible apply xA); · repeat first | with_reducible apply lH | with_reducible apply lT | with_reducible apply lL) | ((with_reducible apply xC); · repeat first | apply pH | with_reducible apply pT | with_reducible apply pL) | with_reducible assumption | with_reducible apply eS | with_reducible apply eL | exact eR)⟩ | (exfalso; first | contradiction | omega | (simp_all; done) | (simp_all; omega))
theorem tk_step {ps : List Pth} {i : Nat} (hi : i < ps.length) : (ps.take i ++ List.replicate (ps.length - i) zP).set i (ps.getD i zP) = ps.take (i + 1) ++ List.replicate (ps.length - (i + 1)) zP := by
  have hl : (ps.take i).length = i := by simp; omega
  rw [List.set_append_right _ _ (by omega), hl, Nat.sub_self, show ps.length - i = (ps.length - (i + 1)) + 1 from by omega, List.replicate_succ, List.set_cons_zero, List.take_add_one, List.getElem?_eq_getElem hi]
  simp only [List.getD_eq_getElem?_getD, List.getElem?_eq_getElem hi, Option.getD_some, Option.toList_some, List.append_assoc, List.singleton_append]
-- @own laws.toPathS : c_toPathS _ _ _ _ _ @RDP@ @BD@
theorem c_toPathS (a : Option Addr) (n c : Nat) (ps : List Pth) (M : Mem) (h : RdP M a n ps) (hn : n ≤ 1048576) :
    ACall Try.prog 9 [.slice a n c] M fun v M' => ∃ L, OwP L v ps ∧ M' = L ++ M := by
  obtain ⟨rfl, _⟩ := id h
  refine acall_of_awp Try.func9 rfl Try.ntmps9 rfl ?_
  refine cS (cR ?_)
  refine asg rfl ?_
  refine rN ?_
  refine qN ?_
  refine cS (cR ?_)
  refine mv rfl ?_
  refine ln rfl ?_
  first
    | (refine mkF rfl rfl (by omega) (by omega) ?_; intro bk1)
    | (refine mkV rfl rfl (by omega) (by omega) ?_; intro bk1)
    | (refine rM rfl rfl rfl (by omega) (by omega) (by omega) (by omega) ?_; intro bk1)
    | (refine mkP rfl rfl (by omega) (by omega) ?_; intro bk1)
    | (refine mkR rfl rfl (by omega) (by omega) ?_; intro bk1)
  refine asg rfl ?_
  refine rN ?_
  refine qN ?_
  refine cS ?_
  refine cS (cR ?_)
  refine asg rfl ?_
  refine rN ?_
  refine qN ?_
  refine cB ?_
  refine cL2 (fun (i : Nat) (L : Mem) => [(4, .int .i64 (i : Nat))]) [(0, _), (3, _)] (fun (i : Nat) (L : Mem) => L ++ M) (fun (i : Nat) (L : Mem) => ps.length - i) (fun (i : Nat) (L : Mem) => i ≤ ps.length ∧ OwP L (.slice (some ⟨bk1, 0, none⟩) ps.length ps.length) (ps.take i ++ List.replicate (ps.length - i) zP)) (0) ([(bk1, ⟨pcs (List.replicate ps.length zP), true⟩)]) (by repeat first | exact Sub.nil _ | refine Sub.cons rfl ?_) (by (try simp only [List.cons_append, List.nil_append, List.append_assoc]); repeat' first | with_reducible apply eR | with_reducible apply eA | ((with_reducible apply xA); · repeat first | with_reducible apply lH | with_reducible apply lT | with_reducible apply lL) | ((with_reducible apply xC); · repeat first | apply pH | with_reducible apply pT | with_reducible apply pL) | with_reducible assumption | with_reducible apply eS | with_reducible apply eL | exact eR) (by exact ⟨Nat.zero_le _, by rw [List.take_zero, List.nil_append, Nat.sub_zero]; exact made_P bk1 ps.length⟩) ?_
  rintro i L ⟨hi, hz⟩
  refine wT (T' := [(4, _), (0, _), (3, _)]) rfl ?_
  refine cS ?_
  refine cS (cR ?_)
  refine mv rfl ?_
  refine mv rfl ?_
  refine ln rfl ?_
  refine bLss rfl rfl ?_
  refine rN ?_
  refine qN ?_
  refine cC rfl (fun c1 => ?_) (fun c1 => ?_)
  · have c1' := c1; try simp only [inB_iff, Bool.and_eq_true, decide_eq_true_eq, decide_eq_false_iff_not, beq_iff_eq, beq_eq_false_iff_ne, bne_iff_ne, bne_eq_false_iff_eq, ne_eq] at c1'
    have hi2 : i < ps.length := by omega
    refine cK ?_
    refine qN ?_
    refine cS ?_
    refine cB ?_
    refine cR ?_
    refine mv rfl ?_
    refine mv rfl ?_
    refine mv rfl ?_
    refine mv rfl ?_
    first
      | refine ixP rfl rfl (by first | (apply RdP.aok; with_reducible assumption) | exact AOk.own) (by first | with_reducible assumption | omega) ?_
      | refine ixR rfl rfl (by first | (apply RdR.aok; with_reducible assumption) | exact AOk.own) (by first | with_reducible assumption | omega) ?_
    first | refine ldP rfl (by (first | with_reducible assumption | (apply RdP.mono; (· with_reducible assumption); · (try simp only [List.cons_append, List.nil_append, List.append_assoc]); repeat' first | with_reducible apply eR | with_reducible apply eA | ((with_reducible apply xA); · repeat first | with_reducible apply lH | with_reducible apply lT | with_reducible apply lL) | ((with_reducible apply xC); · repeat first | apply pH | with_reducible apply pT | with_reducible apply pL) | with_reducible assumption | with_reducible apply eS | with_reducible apply eL | exact eR) | (apply RdP.mono; (· (apply OwP.rdP; with_reducible assumption)); · (try simp only [List.cons_append, List.nil_append, List.append_assoc]); repeat' first | with_reducible apply eR | with_reducible apply eA | ((with_reducible apply xA); · repeat first | with_reducible apply lH | with_reducible apply lT | with_reducible apply lL) | ((with_reducible apply xC); · repeat first | apply pH | with_reducible apply pT | with_reducible apply pL) | with_reducible assumption | with_reducible apply eS | with_reducible apply eL | exact eR))) (by first | with_reducible assumption | omega) ?_ | (refine ldR rfl (by (first | with_reducible assumption | (apply RdR.mono; (· with_reducible assumption); · (try simp only [List.cons_append, List.nil_append, List.append_assoc]); repeat' first | with_reducible apply eR | with_reducible apply eA | ((with_reducible apply xA); · repeat first | with_reducible apply lH | with_reducible apply lT | with_reducible apply lL) | ((with_reducible apply xC); · repeat first | apply pH | with_reducible apply pT | with_reducible apply pL) | with_reducible assumption | with_reducible apply eS | with_reducible apply eL | exact eR) | (apply RdR.mono; (· (apply OwR.rdR; with_reducible assumption)); · (try simp only [List.cons_append, List.nil_append, List.append_assoc]); repeat' first | with_reducible apply eR | with_reducible apply eA | ((with_reducible apply xA); · repeat first | with_reducible apply lH | with_reducible apply lT | with_reducible apply lL) | ((with_reducible apply xC); · repeat first | apply pH | with_reducible apply pT | with_reducible apply pL) | with_reducible assumption | with_reducible apply eS | with_reducible apply eL | exact eR))) (by first | with_reducible assumption | omega) ?_; intro aRr cRr hRr)
    refine rCq rfl (c_toPath _ _) ?_
    first
      | refine ixP rfl rfl (by first | (apply RdP.aok; with_reducible assumption) | exact AOk.own) (by first | with_reducible assumption | omega) ?_
      | refine ixR rfl rfl (by first | (apply RdR.aok; with_reducible assumption) | exact AOk.own) (by first | with_reducible assumption | omega) ?_
    first | (refine tP rfl rfl (by with_reducible assumption) (by repeat first | with_reducible apply lH | with_reducible apply lT | with_reducible apply lL) (by first | with_reducible assumption | omega) ?_; intro lk1 how1) | refine tR rfl rfl rfl (by repeat first | apply pH | with_reducible apply pT | with_reducible apply pL) (by first | with_reducible assumption | omega) ?_ | (refine tQ rfl rfl (by with_reducible assumption) (by with_reducible assumption) (by repeat first | with_reducible apply lH | with_reducible apply lT | with_reducible apply lL) (by first | with_reducible assumption | omega) ?_; intro lk1 how1)
    refine rN ?_
    refine qBN ?_
    refine qN ?_
    refine cR ?_
    refine mv rfl ?_
    first | refine rAn (b := 1) rfl rfl (by omega) ?_ | refine rA rfl rfl (by omega) (by omega) ?_ | refine bAdd rfl rfl ?_
    refine asg rfl ?_
    refine rN ?_
    refine qL2 (i + 1) (_) ?_ (by omega) (by repeat first | exact Sub.nil _ | refine Sub.cons rfl ?_) (by (try simp only [List.cons_append, List.nil_append, List.append_assoc]); repeat' first | with_reducible apply eR | with_reducible apply eA | ((with_reducible apply xA); · repeat first | with_reducible apply lH | with_reducible apply lT | with_reducible apply lL) | ((with_reducible apply xC); · repeat first | apply pH | with_reducible apply pT | with_reducible apply pL) | with_reducible assumption | with_reducible apply eS | with_reducible apply eL | exact eR)
    refine ⟨by omega, ?_⟩
    rw [← tk_step hi2]
    assumption
  · have c1' := c1; try simp only [inB_iff, Bool.and_eq_true, decide_eq_true_eq, decide_eq_false_iff_not, beq_iff_eq, beq_eq_false_iff_ne, bne_iff_ne, bne_eq_false_iff_eq, ne_eq] at c1'
    have : i = ps.length := by omega
    subst this
    rw [Nat.sub_self, List.take_length, List.replicate_zero, List.append_nil] at hz
    refine cX ?_
    refine qX ?_
    refine qL2X ?_
    refine qBX ?_
    refine qN ?_
    refine cS (cR ?_)
    refine mv rfl ?_
    refine asg rfl ?_
    refine rN ?_
    refine qN ?_
    refine cE ?_
    refine kE rfl rfl  ?_
    first | (exfalso; contradiction) | exact ⟨_, ⟨_, hz, rfl⟩, (by (try simp only [List.cons_append, List.nil_append, List.append_assoc]); repeat' first | with_reducible apply eR | with_reducible apply eA | ((with_reducible apply xA); · repeat first | with_reducible apply lH | with_reducible apply lT | with_reducible apply lL) | ((with_reducible apply xC); · repeat first | apply pH | with_reducible apply pT | with_reducible apply pL) | with_reducible assumption | with_reducible apply eS | with_reducible apply eL | exact eR)⟩ | (exfalso; first | contradiction | omega | (simp_all; done) | (simp_all; omega))
-- @true laws.eqPathS : c_eqPathS _ _ _ _ _ _ _ _ @RDP@ @RDP@ @BD@
theorem c_eqPathS (a a' : Option Addr) (n n' c c' : Nat) (ps : List Pth) (M : Mem) (h : RdP M a n ps) (h' : RdP M a' n' ps) (hn : n ≤ 1073741824) :
    ACall Try.prog 13 [.slice a n c, .slice a' n' c'] M fun r M' => r = .bool true ∧ M' = M := by
  obtain ⟨rfl, _⟩ := id h
  obtain ⟨rfl, _⟩ := id h'
  have e1 : (((ps.length : Nat) : Int) != (ps.length : Nat)) = false := by simp
  refine acall_of_awp Try.func13 rfl Try.ntmps13 rfl ?_
  refine cS (cR ?_)
  refine asg rfl ?_
  refine rN ?_
  refine qN ?_
  refine cS ?_
  refine cS (cR ?_)
  refine mv rfl ?_
  refine ln rfl ?_
  refine mv rfl ?_
  refine ln rfl ?_
  refine bNeq rfl rfl ?_
  refine rN ?_
  refine qN ?_
  refine cFa rfl (e1) ?_
  refine cK ?_
  refine qN ?_
  refine cS ?_
  refine cS (cR ?_)
  refine asg rfl ?_
  refine rN ?_
  refine qN ?_
  refine cB ?_
  refine cL1 (fun (i : Nat) => [(5, .int .i64 (i : Nat))]) [(0, _), (1, _)] (fun (i : Nat) => M) (fun (i : Nat) => ps.length - i) (fun (i : Nat) => i ≤ ps.length) (0) (by repeat first | exact Sub.nil _ | refine Sub.cons rfl ?_) (by (try simp only [List.cons_append, List.nil_append, List.append_assoc]); repeat' first | with_reducible apply eR | with_reducible apply eA | ((with_reducible apply xA); · repeat first | with_reducible apply lH | with_reducible apply lT | with_reducible apply lL) | ((with_reducible apply xC); · repeat first | apply pH | with_reducible apply pT | with_reducible apply pL) | with_reducible assumption | with_reducible apply eS | with_reducible apply eL | exact eR) (by exact Nat.zero_le _) ?_
  rintro i hi
  refine wT (T' := [(5, _), (0, _), (1, _)]) rfl ?_
  refine cS ?_
  refine cS (cR ?_)
  refine mv rfl ?_
  refine mv rfl ?_
  refine ln rfl ?_
  refine bLss rfl rfl ?_
  refine rN ?_
  refine qN ?_
  refine cC rfl (fun c1 => ?_) (fun c1 => ?_)
  · have c1' := c1; try simp only [inB_iff, Bool.and_eq_true, decide_eq_true_eq, decide_eq_false_iff_not, beq_iff_eq, beq_eq_false_iff_ne, bne_iff_ne, bne_eq_false_iff_eq, ne_eq] at c1'
    have hi2 : i < ps.length := by omega
    refine cK ?_
    refine qN ?_
    refine cS ?_
    refine cB ?_
    refine cS ?_
    refine cD [] [(0, true), (1, true), (2, true), (3, true), (4, true), (5, false), (6, false), (7, false), (8, false), (9, false)] (by repeat first | exact fineT | exact fineL | exact fineLQ1 | exact fineLQ2 | exact fineLQ3 | exact fineLQ4 | exact fineLQ5 | exact fineLQ6 | exact fineR | refine fineB ?_) (by kernel_rfl) ?_
    simp only [pick, List.getElem?_toArray, List.getElem?_cons_zero, List.getElem?_cons_succ]
    refine mv rfl ?_
    refine mv rfl ?_
    first
      | refine ixP rfl rfl (by first | (apply RdP.aok; with_reducible assumption) | exact AOk.own) (by first | with_reducible assumption | omega) ?_
      | refine ixR rfl rfl (by first | (apply RdR.aok; with_reducible assumption) | exact AOk.own) (by first | with_reducible assumption | omega) ?_
    first | refine ldP rfl (by (first | with_reducible assumption | (apply RdP.mono; (· with_reducible assumption); · (try simp only [List.cons_append, List.nil_append, List.append_assoc]); repeat' first | with_reducible apply eR | with_reducible apply eA | ((with_reducible apply xA); · repeat first | with_reducible apply lH | with_reducible apply lT | with_reducible apply lL) | ((with_reducible apply xC); · repeat first | apply pH | with_reducible apply pT | with_reducible apply pL) | with_reducible assumption | with_reducible apply eS | with_reducible apply eL | exact eR) | (apply RdP.mono; (· (apply OwP.rdP; with_reducible assumption)); · (try simp only [List.cons_append, List.nil_append, List.append_assoc]); repeat' first | with_reducible apply eR | with_reducible apply eA | ((with_reducible apply xA); · repeat first | with_reducible apply lH | with_reducible apply lT | with_reducible apply lL) | ((with_reducible apply xC); · repeat first | apply pH | with_reducible apply pT | with_reducible apply pL) | with_reducible assumption | with_reducible apply eS | with_reducible apply eL | exact eR))) (by first | with_reducible assumption | omega) ?_ | (refine ldR rfl (by (first | with_reducible assumption | (apply RdR.mono; (· with_reducible assumption); · (try simp only [List.cons_append, List.nil_append, List.append_assoc]); repeat' first | with_reducible apply eR | with_reducible apply eA | ((with_reducible apply xA); · repeat first | with_reducible apply lH | with_reducible apply lT | with_reducible apply lL) | ((with_reducible apply xC); · repeat first | apply pH | with_reducible apply pT | with_reducible apply pL) | with_reducible assumption | with_reducible apply eS | with_reducible apply eL | exact eR) | (apply RdR.mono; (· (apply OwR.rdR; with_reducible assumption)); · (try simp only [List.cons_append, List.nil_append, List.append_assoc]); repeat' first | with_reducible apply eR | with_reducible apply eA | ((with_reducible apply xA); · repeat first | with_reducible apply lH | with_reducible apply lT | with_reducible apply lL) | ((with_reducible apply xC); · repeat first | apply pH | with_reducible apply pT | with_reducible apply pL) | with_reducible assumption | with_reducible apply eS | with_reducible apply eL | exact eR))) (by first | with_reducible assumption | omega) ?_; intro aRr cRr hRr)
    refine mv rfl ?_
    refine mv rfl ?_
    first
      | refine ixP rfl rfl (by first | (apply RdP.aok; with_reducible assumption) | exact AOk.own) (by first | with_reducible assumption | omega) ?_
      | refine ixR rfl rfl (by first | (apply RdR.aok; with_reducible assumption) | exact AOk.own) (by first | with_reducible assumption | omega) ?_
    first | refine ldP rfl (by (first | with_reducible assumption | (apply RdP.mono; (· with_reducible assumption); · (try simp only [List.cons_append, List.nil_append, List.append_assoc]); repeat' first | with_reducible apply eR | with_reducible apply eA | ((with_reducible apply xA); · repeat first | with_reducible apply lH | with_reducible apply lT | with_reducible apply lL) | ((with_reducible apply xC); · repeat first | apply pH | with_reducible apply pT | with_reducible apply pL) | with_reducible assumption | with_reducible apply eS | with_reducible apply eL | exact eR) | (apply RdP.mono; (· (apply OwP.rdP; with_reducible assumption)); · (try simp only [List.cons_append, List.nil_append, List.append_assoc]); repeat' first | with_reducible apply eR | with_reducible apply eA | ((with_reducible apply xA); · repeat first | with_reducible apply lH | with_reducible apply lT | with_reducible apply lL) | ((with_reducible apply xC); · repeat first | apply pH | with_reducible apply pT | with_reducible apply pL) | with_reducible assumption | with_reducible apply eS | with_reducible apply eL | exact eR))) (by first | with_reducible assumption | omega) ?_ | (refine ldR rfl (by (first | with_reducible assumption | (apply RdR.mono; (· with_reducible assumption); · (try simp only [List.cons_append, List.nil_append, List.append_assoc]); repeat' first | with_reducible apply eR | with_reducible apply eA | ((with_reducible apply xA); · repeat first | with_reducible apply lH | with_reducible apply lT | with_reducible apply lL) | ((with_reducible apply xC); · repeat first | apply pH | with_reducible apply pT | with_reducible apply pL) | with_reducible assumption | with_reducible apply eS | with_reducible apply eL | exact eR) | (apply RdR.mono; (· (apply OwR.rdR; with_reducible assumption)); · (try simp only [List.cons_append, List.nil_append, List.append_assoc]); repeat' first | with_reducible apply eR | with_reducible apply eA | ((with_reducible apply xA); · repeat first | with_reducible apply lH | with_reducible apply lT | with_reducible apply lL) | ((with_reducible apply xC); · repeat first | apply pH | with_reducible apply pT | with_reducible apply pL) | with_reducible assumption | with_reducible apply eS | with_reducible apply eL | exact eR))) (by first | with_reducible assumption | omega) ?_; intro aRr cRr hRr)
    refine rCq rfl (c_eqPath _ _) ?_
    refine uNot rfl ?_
    refine rN ?_
    refine qN ?_
    refine cF rfl ?_
    refine cK ?_
    refine qBN ?_
    refine qN ?_
    refine cR ?_
    refine mv rfl ?_
    first | refine rAn (b := 1) rfl rfl (by omega) ?_ | refine rA rfl rfl (by omega) (by omega) ?_ | refine bAdd rfl rfl ?_
    refine asg rfl ?_
    refine rN ?_
    refine qL1 (i + 1) ?_ (by omega) (by repeat first | exact Sub.nil _ | refine Sub.cons rfl ?_) (by (try simp only [List.cons_append, List.nil_append, List.append_assoc]); repeat' first | with_reducible apply eR | with_reducible apply eA | ((with_reducible apply xA); · repeat first | with_reducible apply lH | with_reducible apply lT | with_reducible apply lL) | ((with_reducible apply xC); · repeat first | apply pH | with_reducible apply pT | with_reducible apply pL) | with_reducible assumption | with_reducible apply eS | with_reducible apply eL | exact eR)
    omega
  · have c1' := c1; try simp only [inB_iff, Bool.and_eq_true, decide_eq_true_eq, decide_eq_false_iff_not, beq_iff_eq, beq_eq_false_iff_ne, bne_iff_ne, bne_eq_false_iff_eq, ne_eq] at c1'
    refine cX ?_
    refine qX ?_
    refine qL1X ?_
    refine qBX ?_
    refine qN ?_
    refine cS (cR ?_)
    refine asg rfl ?_
    refine rN ?_
    refine qN ?_
    refine cE ?_
    refine kE rfl rfl  ?_
    first | (exfalso; contradiction) | exact ⟨_, ⟨rfl, rfl⟩, (by (try simp only [List.cons_append, List.nil_append, List.append_assoc]); repeat' first | with_reducible apply eR | with_reducible apply eA | ((with_reducible apply xA); · repeat first | with_reducible apply lH | with_reducible apply lT | with_reducible apply lL) | ((with_reducible apply xC); · repeat first | apply pH | with_reducible apply pT | with_reducible apply pL) | with_reducible assumption | with_reducible apply eS | with_reducible apply eL | exact eR)⟩ | exact ⟨_, ⟨by first | (simp_all; done) | (simp_all; intros; omega), rfl⟩, (by (try simp only [List.cons_append, List.nil_append, List.append_assoc]); repeat' first | with_reducible apply eR | with_reducible apply eA | ((with_reducible apply xA); · repeat first | with_reducible apply lH | with_reducible apply lT | with_reducible apply lL) | ((with_reducible apply xC); · repeat first | apply pH | with_reducible apply pT | with_reducible apply pL) | with_reducible assumption | with_reducible apply eS | with_reducible apply eL | exact eR)⟩ | (exfalso; first | contradiction | omega | (simp_all; done) | (simp_all; omega))
-- @reg laws.szPathS : c_szPathS _ _ _ _ _ @BD@ @BD@ @BD@
theorem c_szPathS (a : Option Addr) (n c : Nat) (left : Int) (M : Mem) (h0 : 0 ≤ left) (h1 : left ≤ 1048576) (hn : n ≤ 9223372036854775807) :
    ACall Try.prog 6 [.slice a n c, .int .i64 left] M fun r M' => r = .int .i64 (szI left n) ∧ M' = M := by
  refine acall_of_awp Try.func6 rfl Try.ntmps6 rfl ?_
  refine cS (cR ?_)
  refine asg rfl ?_
  refine rN ?_
  refine qN ?_
  refine cS (cR ?_)
  refine mv rfl ?_
  refine mv rfl ?_
  refine ln rfl ?_
  first | refine rBn rfl rfl (by omega) (by omega) ?_ | refine rB rfl rfl (by omega) (by omega) ?_ | refine bSub rfl rfl ?_
  refine asg rfl ?_
  refine rN ?_
  refine qN ?_
  refine cS ?_
  refine cS (cR ?_)
  refine mv rfl ?_
  refine bLss rfl rfl ?_
  refine rN ?_
  refine qN ?_
  refine cC rfl (fun c1 => ?_) (fun c1 => ?_)
  · have c1' := c1; try simp only [inB_iff, Bool.and_eq_true, decide_eq_true_eq, decide_eq_false_iff_not, beq_iff_eq, beq_eq_false_iff_ne, bne_iff_ne, bne_eq_false_iff_eq, ne_eq] at c1'
    refine cS (cR ?_)
    refine asg rfl ?_
    refine rN ?_
    refine qN ?_
    refine cE ?_
    refine qE ?_
    refine kE rfl rfl  ?_
    first | (exfalso; contradiction) | exact ⟨_, ⟨rfl, rfl⟩, (by (try simp only [List.cons_append, List.nil_append, List.append_assoc]); repeat' first | with_reducible apply eR | with_reducible apply eA | ((with_reducible apply xA); · repeat first | with_reducible apply lH | with_reducible apply lT | with_reducible apply lL) | ((with_reducible apply xC); · repeat first | apply pH | with_reducible apply pT | with_reducible apply pL) | with_reducible assumption | with_reducible apply eS | with_reducible apply eL | exact eR)⟩ | exact ⟨_, ⟨by unfold szI at *; split at c1' <;> first | (rw [if_pos (by assumption)]; done) | omega, rfl⟩, (by (try simp only [List.cons_append, List.nil_append, List.append_assoc]); repeat' first | with_reducible apply eR | with_reducible apply eA | ((with_reducible apply xA); · repeat first | with_reducible apply lH | with_reducible apply lT | with_reducible apply lL) | ((with_reducible apply xC); · repeat first | apply pH | with_reducible apply pT | with_reducible apply pL) | with_reducible assumption | with_reducible apply eS | with_reducible apply eL | exact eR)⟩ | exact ⟨_, ⟨by unfold szI; first | (rw [if_pos (by omega)]; done) | (rw [if_neg (by omega)]; done), rfl⟩, (by (try simp only [List.cons_append, List.nil_append, List.append_assoc]); repeat' first | with_reducible apply eR | with_reducible apply eA | ((with_reducible apply xA); · repeat first | with_reducible apply lH | with_reducible apply lT | with_reducible apply lL) | ((with_reducible apply xC); · repeat first | apply pH | with_reducible apply pT | with_reducible apply pL) | with_reducible assumption | with_reducible apply eS | with_reducible apply eL | exact eR)⟩ | (exfalso; first | contradiction | omega | (simp_all; done) | (simp_all; omega))
  · have c1' := c1; try simp only [inB_iff, Bool.and_eq_true, decide_eq_true_eq, decide_eq_false_iff_not, beq_iff_eq, beq_eq_false_iff_ne, bne_iff_ne, bne_eq_false_iff_eq, ne_eq] at c1'
    refine cK ?_
    refine qN ?_
    refine cS (cR ?_)
    refine mv rfl ?_
    refine asg rfl ?_
    refine rN ?_
    refine qN ?_
    refine cE ?_
    refine kE rfl rfl  ?_
    first | (exfalso; contradiction) | exact ⟨_, ⟨rfl, rfl⟩, (by (try simp only [List.cons_append, List.nil_append, List.append_assoc]); repeat' first | with_reducible apply eR | with_reducible apply eA | ((with_reducible apply xA); · repeat first | with_reducible apply lH | with_reducible apply lT | with_reducible apply lL) | ((with_reducible apply xC); · repeat first | apply pH | with_reducible apply pT | with_reducible apply pL) | with_reducible assumption | with_reducible apply eS | with_reducible apply eL | exact eR)⟩ | exact ⟨_, ⟨by unfold szI at *; split at c1' <;> first | (rw [if_pos (by assumption)]; done) | omega, rfl⟩, (by (try simp only [List.cons_append, List.nil_append, List.append_assoc]); repeat' first | with_reducible apply eR | with_reducible apply eA | ((with_reducible apply xA); · repeat first | with_reducible apply lH | with_reducible apply lT | with_reducible apply lL) | ((with_reducible apply xC); · repeat first | apply pH | with_reducible apply pT | with_reducible apply pL) | with_reducible assumption | with_reducible apply eS | with_reducible apply eL | exact eR)⟩ | exact ⟨_, ⟨by unfold szI; first | (rw [if_pos (by omega)]; done) | (rw [if_neg (by omega)]; done), rfl⟩, (by (try simp only [List.cons_append, List.nil_append, List.append_assoc]); repeat' first | with_reducible apply eR | with_reducible apply eA | ((with_reducible apply xA); · repeat first | with_reducible apply lH | with_reducible apply lT | with_reducible apply lL) | ((with_reducible apply xC); · repeat first | apply pH | with_reducible apply pT | with_reducible apply pL) | with_reducible assumption | with_reducible apply eS | with_reducible apply eL | exact eR)⟩ | (exfalso; first | contradiction | omega | (simp_all; done) | (simp_all; omega))
theorem c_markPathS (a : Option Addr) (n c : Nat) (k : Nat) (ps : List Pth) (L M : Mem) (ho : OwP L (.slice a n c) ps) (hlen : n ≤ 1073741824) (hk0 : k ≤ 1073741824) :
    ACall Try.prog 15 [.slice a n c, .int .i64 (k : Nat)] (L ++ M) fun r M' => r = .int .i64 ((k + 4 * n : Nat) : Int) ∧ ∃ L', True ∧ M' = L' ++ M := by
  obtain ⟨b, hv, rfl⟩ := ho
  obtain ⟨rfl, rfl, rfl⟩ := Value.slice.inj hv
  have hcl := pcs_len ps
  generalize pcs ps = cs0 at *
  generalize ps.length = n at *
  refine acall_of_awp Try.func15 rfl Try.ntmps15 rfl ?_
  refine cS (cR ?_)
  refine asg rfl ?_
  refine rN ?_
  refine qN ?_
  refine cS ?_
  refine cS (cR ?_)
  refine asg rfl ?_
  refine rN ?_
  refine qN ?_
  refine cB ?_
  refine cL2 (fun (i : Nat) (cs : List Value) => [(5, .int .i64 (i : Nat)), (1, .int .i64 ((k + 4 * i : Nat) : Int))]) [(0, _)] (fun (i : Nat) (cs : List Value) => (b, ⟨cs, true⟩) :: M) (fun (i : Nat) (cs : List Value) => n - i) (fun (i : Nat) (cs : List Value) => i ≤ n ∧ cs.length = n * 4) (0) (cs0) (by repeat first | exact Sub.nil _ | refine Sub.cons rfl ?_) (by (try simp only [List.cons_append, List.nil_append, List.append_assoc]); repeat' first | with_reducible apply eR | with_reducible apply eA | ((with_reducible apply xA); · repeat first | with_reducible apply lH | with_reducible apply lT | with_reducible apply lL) | ((with_reducible apply xC); · repeat first | apply pH | with_reducible apply pT | with_reducible apply pL) | with_reducible assumption | with_reducible apply eS | with_reducible apply eL | exact eR) (by exact ⟨Nat.zero_le _, hcl⟩) ?_
  rintro i cs ⟨hi, hcs⟩
  refine wT (T' := [(5, _), (1, _), (0, _)]) rfl ?_
  refine cS ?_
  refine cS (cR ?_)
  refine mv rfl ?_
  refine mv rfl ?_
  refine ln rfl ?_
  refine bLss rfl rfl ?_
  refine rN ?_
  refine qN ?_
  refine cC rfl (fun c1 => ?_) (fun c1 => ?_)
  · have c1' := c1; try simp only [inB_iff, Bool.and_eq_true, decide_eq_true_eq, decide_eq_false_iff_not, beq_iff_eq, beq_eq_false_iff_ne, bne_iff_ne, bne_eq_false_iff_eq, ne_eq] at c1'
    have hi2 : i < n := by omega
    refine cK ?_
    refine qN ?_
    refine cS ?_
    refine cB ?_
    refine cS (cR ?_)
    refine mv rfl ?_
    refine mv rfl ?_
    refine mv rfl ?_
    refine rp rfl ?_
    first
      | refine ixP rfl rfl (by first | (apply RdP.aok; with_reducible assumption) | exact AOk.own) (by first | with_reducible assumption | omega) ?_
      | refine ixR rfl rfl (by first | (apply RdR.aok; with_reducible assumption) | exact AOk.own) (by first | with_reducible assumption | omega) ?_
    refine fA rfl ?_
    first | refine tS rfl rfl rfl (by repeat first | apply pH | with_reducible apply pT | with_reducible apply pL) (by rfl) (by rfl) ?_ | refine tS rfl rfl rfl (by repeat first | apply pH | with_reducible apply pT | with_reducible apply pL) (by apply Nat.ble_eq_true_of_le; (try simp only [List.length_set, Option.getD_some]); omega) (by rfl) ?_
    refine rN ?_
    refine qN ?_
    refine cS (cR ?_)
    refine mv rfl ?_
    first | refine rAn (b := 1) rfl rfl (by omega) ?_ | refine rA rfl rfl (by omega) (by omega) ?_ | refine bAdd rfl rfl ?_
    refine asg rfl ?_
    refine rN ?_
    refine qN ?_
    refine cS (cR ?_)
    refine mv rfl ?_
    refine mv rfl ?_
    refine mv rfl ?_
    refine rp rfl ?_
    first
      | refine ixP rfl rfl (by first | (apply RdP.aok; with_reducible assumption) | exact AOk.own) (by first | with_reducible assumption | omega) ?_
      | refine ixR rfl rfl (by first | (apply RdR.aok; with_reducible assumption) | exact AOk.own) (by first | with_reducible assumption | omega) ?_
    refine fA rfl ?_
    first | refine tS rfl rfl rfl (by repeat first | apply pH | with_reducible apply pT | with_reducible apply pL) (by rfl) (by rfl) ?_ | refine tS rfl rfl rfl (by repeat first | apply pH | with_reducible apply pT | with_reducible apply pL) (by apply Nat.ble_eq_true_of_le; (try simp only [List.length_set, Option.getD_some]); omega) (by rfl) ?_
    refine rN ?_
    refine qN ?_
    refine cS (cR ?_)
    refine mv rfl ?_
    first | refine rAn (b := 1) rfl rfl (by omega) ?_ | refine rA rfl rfl (by omega) (by omega) ?_ | refine bAdd rfl rfl ?_
    refine asg rfl ?_
    refine rN ?_
    refine qN ?_
    refine cS (cR ?_)
    refine mv rfl ?_
    refine mv rfl ?_
    refine mv rfl ?_
    refine rp rfl ?_
    first
      | refine ixP rfl rfl (by first | (apply RdP.aok; with_reducible assumption) | exact AOk.own) (by first | with_reducible assumption | omega) ?_
      | refine ixR rfl rfl (by first | (apply RdR.aok; with_reducible assumption) | exact AOk.own) (by first | with_reducible assumption | omega) ?_
    refine fA rfl ?_
    first | refine tS rfl rfl rfl (by repeat first | apply pH | with_reducible apply pT | with_reducible apply pL) (by rfl) (by rfl) ?_ | refine tS rfl rfl rfl (by repeat first | apply pH | with_reducible apply pT | with_reducible apply pL) (by apply Nat.ble_eq_true_of_le; (try simp only [List.length_set, Option.getD_some]); omega) (by rfl) ?_
    refine rN ?_
    refine qN ?_
    refine cS (cR ?_)
    refine mv rfl ?_
    first | refine rAn (b := 1) rfl rfl (by omega) ?_ | refine rA rfl rfl (by omega) (by omega) ?_ | refine bAdd rfl rfl ?_
    refine asg rfl ?_
    refine rN ?_
    refine qN ?_
    refine cS (cR ?_)
    refine mv rfl ?_
    refine mv rfl ?_
    refine mv rfl ?_
    refine rp rfl ?_
    first
      | refine ixP rfl rfl (by first | (apply RdP.aok; with_reducible assumption) | exact AOk.own) (by first | with_reducible assumption | omega) ?_
      | refine ixR rfl rfl (by first | (apply RdR.aok; with_reducible assumption) | exact AOk.own) (by first | with_reducible assumption | omega) ?_
    refine fA rfl ?_
    first | refine tS rfl rfl rfl (by repeat first | apply pH | with_reducible apply pT | with_reducible apply pL) (by rfl) (by rfl) ?_ | refine tS rfl rfl rfl (by repeat first | apply pH | with_reducible apply pT | with_reducible apply pL) (by apply Nat.ble_eq_true_of_le; (try simp only [List.length_set, Option.getD_some]); omega) (by rfl) ?_
    refine rN ?_
    refine qN ?_
    refine cR ?_
    refine mv rfl ?_
    first | refine rAn (b := 1) rfl rfl (by omega) ?_ | refine rA rfl rfl (by omega) (by omega) ?_ | refine bAdd rfl rfl ?_
    refine asg rfl ?_
    refine rN ?_
    refine qBN ?_
    refine qN ?_
    refine cR ?_
    refine mv rfl ?_
    first | refine rAn (b := 1) rfl rfl (by omega) ?_ | refine rA rfl rfl (by omega) (by omega) ?_ | refine bAdd rfl rfl ?_
    refine asg rfl ?_
    refine rN ?_
    refine qL2 (i + 1) (_) ?_ (by omega) (by repeat first | exact Sub.nil _ | refine Sub.cons rfl ?_) (by (try simp only [List.cons_append, List.nil_append, List.append_assoc]); repeat' first | with_reducible apply eR | with_reducible apply eA | ((with_reducible apply xA); · repeat first | with_reducible apply lH | with_reducible apply lT | with_reducible apply lL) | ((with_reducible apply xC); · repeat first | apply pH | with_reducible apply pT | with_reducible apply pL) | with_reducible assumption | with_reducible apply eS | with_reducible apply eL | exact eR)
    refine ⟨by omega, ?_⟩
    simp only [List.length_set]
    exact hcs
  · have c1' := c1; try simp only [inB_iff, Bool.and_eq_true, decide_eq_true_eq, decide_eq_false_iff_not, beq_iff_eq, beq_eq_false_iff_ne, bne_iff_ne, bne_eq_false_iff_eq, ne_eq] at c1'
    have : i = n := by omega
    subst this
    refine cX ?_
    refine qX ?_
    refine qL2X ?_
    refine qBX ?_
    refine qN ?_
    refine cS (cR ?_)
    refine mv rfl ?_
    refine asg rfl ?_
    refine rN ?_
    refine qN ?_
    refine cE ?_
    refine kE rfl rfl  ?_
    first | (exfalso; contradiction) | exact ⟨_, ⟨rfl, [(b, ⟨cs, true⟩)], trivial, rfl⟩, (by (try simp only [List.cons_append, List.nil_append, List.append_assoc]); repeat' first | with_reducible apply eR | with_reducible apply eA | ((with_reducible apply xA); · repeat first | with_reducible apply lH | with_reducible apply lT | with_reducible apply lL) | ((with_reducible apply xC); · repeat first | apply pH | with_reducible apply pT | with_reducible apply pL) | with_reducible assumption | with_reducible apply eS | with_reducible apply eL | exact eR)⟩ | (exfalso; first | contradiction | omega | (simp_all; done) | (simp_all; omega))
end Go.Proofs.Ytkbpdgacfeachaa.Ab
