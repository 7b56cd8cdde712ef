/-
  Lists of frames: reading, copies, validity; the law FnExactAreFrames.
-/
import Derived.Test.YtnikglngipbahaaFr
import Derived.Test.YtnikglngipbahaaTp
import Derived.Deep.Fields
import Derived.Deep.Strs
namespace Go.Proofs.Ytnikglngipbahaa.Ab
open Go Go.RowKit
attribute [local irreducible] Run Then InBlock LoopQ LQ1 LQ2 LQ3 LQ4 LQ5 LQ6 AWp Ret ACall
set_option linter.unusedVariables false
set_option linter.unusedSimpArgs false

structure Frm where
  w : Int
  d : Int
  xs : List Nat
abbrev zR : Frm := ⟨0, 0, []⟩
/-! ## cells by three -/
abbrev Tri := Value × Value × Value
abbrev z3 : Tri := (.int .i64 0, .int .i64 0, .slice none 0 0)
abbrev t3 (h : Tri) : List Value := [h.1, h.2.1, h.2.2]
def tcs : List Tri → List Value
  | [] => []
  | h :: hs => t3 h ++ tcs hs
theorem tcs_len (hs : List Tri) : (tcs hs).length = hs.length * 3 := by
  induction hs with
  | nil => rfl
  | cons h hs ih => show (t3 h ++ tcs hs).length = _; rw [List.length_append, ih]; simp; omega
theorem tcs_get : ∀ (hs : List Tri) (i j : Nat), i < hs.length → j < 3 → (tcs hs)[i * 3 + j]? = (t3 (hs.getD i z3))[j]? := by
  intro hs
  induction hs with
  | nil => intro i j h; simp at h
  | cons h hs ih =>
    intro i j hi hj
    show (t3 h ++ tcs hs)[i * 3 + j]? = _
    cases i with
    | zero => rw [Nat.zero_mul, Nat.zero_add, List.getElem?_append_left (by simp; omega)]; rfl
    | succ i =>
      rw [List.getElem?_append_right (by simp; omega), show (i + 1) * 3 + j - (t3 h).length = i * 3 + j from by simp; omega, ih i j (by simpa using hi) hj]
      rfl
theorem tcs_set : ∀ (hs : List Tri) (i : Nat) (q : Tri), i < hs.length → (tcs hs).take (i * 3) ++ t3 q ++ (tcs hs).drop (i * 3 + 3) = tcs (hs.set i q) := by
  intro hs
  induction hs with
  | nil => intro i q h; simp at h
  | cons p hs ih =>
    intro i q h
    cases i with
    | zero =>
      show ((t3 p ++ tcs hs).take (0 * 3)) ++ t3 q ++ (t3 p ++ tcs hs).drop (0 * 3 + 3) = t3 q ++ tcs hs
      rfl
    | succ i =>
      show ((t3 p ++ tcs hs).take ((i + 1) * 3)) ++ t3 q ++ (t3 p ++ tcs hs).drop ((i + 1) * 3 + 3) = t3 p ++ tcs (hs.set i q)
      rw [← ih i q (by simpa using h), show (i + 1) * 3 = i * 3 + 3 from by omega]
      rfl
/-! ## reading -/
/-- a frame lies here -/
def RAt (M : Mem) (b o : Nat) (f : Frm) : Prop := ∃ (k : Blk) (a : Option Addr) (c : Nat), (b, k) ∈ M ∧ k.cells[o + 0]? = some (.int .i64 f.w) ∧ k.cells[o + 1]? = some (.int .i64 f.d) ∧ k.cells[o + 2]? = some (.slice a f.xs.length c) ∧ RdF M a f.xs.length f.xs
theorem RAt.mono {M M' : Mem} {b o : Nat} {f : Frm} (h : RAt M b o f) (e : Ext M M') : RAt M' b o f := by
  obtain ⟨k, a, c, h1, h2, h3, h4, h5⟩ := h; exact ⟨k, a, c, e.mem h1, h2, h3, h4, h5.mono e⟩
def pRt (a : Option Addr) (i : Nat) : Value := .pointer (some ⟨(a.getD ⟨0, 0, none⟩).block, (a.getD ⟨0, 0, none⟩).off + i * 3, none⟩)
def pRf (a : Option Addr) (i f : Nat) : Value := .pointer (some ⟨(a.getD ⟨0, 0, none⟩).block, (a.getD ⟨0, 0, none⟩).off + i * 3 + f, none⟩)
def RdR (M : Mem) (a : Option Addr) (n : Nat) (fs : List Frm) : Prop := fs.length = n ∧ (n = 0 ∨ ∃ b o, a = some ⟨b, o, none⟩ ∧ ∀ i, i < n → RAt M b (o + i * 3) (fs.getD i zR))
theorem RdR.mono {M M' : Mem} {a : Option Addr} {n : Nat} {fs : List Frm} (h : RdR M a n fs) (e : Ext M M') : RdR M' a n fs := by
  obtain ⟨h1, h2 | ⟨b, o, h2, h3⟩⟩ := h
  · exact ⟨h1, .inl h2⟩
  · exact ⟨h1, .inr ⟨b, o, h2, fun i hi => (h3 i hi).mono e⟩⟩
theorem RdR.aok {M : Mem} {a : Option Addr} {n : Nat} {fs : List Frm} (h : RdR M a n fs) : AOk a n := by
  obtain ⟨h1, h2 | ⟨b, o, h2, h3⟩⟩ := h
  · exact .inl h2
  · exact .inr ⟨b, o, h2⟩
theorem RdR.rat {M : Mem} {a : Option Addr} {n i : Nat} {fs : List Frm} (h : RdR M a n fs) (hi : i < n) : RAt M (a.getD ⟨0, 0, none⟩).block ((a.getD ⟨0, 0, none⟩).off + i * 3) (fs.getD i zR) := by
  obtain ⟨h1, h2 | ⟨b, o, rfl, h3⟩⟩ := h
  · omega
  · exact h3 i hi
section
variable {P : Program} {n : Nat} {T : Tm} {M : Mem} {ops : Array Oper} {st : Option (List Nat)} {Q : Tm → Mem → Prop} {fl : Bool} {l : List (Oper × Bool)} {d : Option Nat} {ty : Nat} {pos : String} {after : Array Edge}
theorem ixR {t e bytes : Nat} {z : Value} [UnderT P t (.slice e)] [InfoT P e 3 bytes z] {x y : Operand} {a : Option Addr} {m c : Nat} {ik : IntKind} {i : Nat}
    (ex : ev T x = some (.slice a m c)) (ey : ev T y = some (.int ik (i : Nat))) (ha : AOk a m) (h1 : i < m)
    (k : Run P n ops st Q l (putT n d (pRt a i) T) M) : Run P n ops st Q ((⟨d, .indexAddr t x y, ty, pos, after, none⟩, fl) :: l) T M := by
  rcases ha with rfl | ⟨b, o, rfl⟩
  · exfalso; omega
  · exact run_tame rfl (tame_indexAddr ex ey (by omega) (by omega)) (by rw [Int.toNat_natCast]; exact k)
theorem drop_take3 {cs : List Value} {o : Nat} {v0 v1 v2 : Value} (h0 : cs[o + 0]? = some v0) (h1 : cs[o + 1]? = some v1) (h2 : cs[o + 2]? = some v2) : (cs.drop o).take 3 = [v0, v1, v2] := by
  apply List.ext_getElem?
  intro j
  rw [List.getElem?_take]
  split
  · rename_i hj
    rw [List.getElem?_drop]
    match j, hj with
    | 0, _ => rw [h0]; rfl
    | 1, _ => rw [h1]; rfl
    | 2, _ => rw [h2]; rfl
  · rename_i hj
    rw [List.getElem?_eq_none]
    simp; omega
theorem ldR {t bytes : Nat} {z : Value} [AggT P t] [InfoT P t 3 bytes z] {x : Operand} {a : Option Addr} {m j : Nat} {fs : List Frm} (ex : ev T x = some (pRt a j)) (h : RdR M a m fs) (hj : j < m)
    (kk : ∀ a' c', RdF M a' (fs.getD j zR).xs.length (fs.getD j zR).xs → Run P n ops st Q l (putT n d (.agg #[.int .i64 (fs.getD j zR).w, .int .i64 (fs.getD j zR).d, .slice a' (fs.getD j zR).xs.length c']) T) M) : Run P n ops st Q ((⟨d, .load t x, ty, pos, after, none⟩, fl) :: l) T M := by
  obtain ⟨k, a', c', hm, e0, e1, e2, hr⟩ := h.rat hj
  refine rLA ex hm (drop_take3 e0 e1 e2) (Nat.ble_eq_true_of_le ?_) (kk a' c' hr)
  have := (List.getElem?_eq_some_iff.1 e2).1
  omega
theorem ldRf0 {t : Nat} [PlainT P t] {x : Operand} {a : Option Addr} {m j : Nat} {fs : List Frm} (ex : ev T x = some (.pointer (some ⟨(a.getD ⟨0, 0, none⟩).block, (a.getD ⟨0, 0, none⟩).off + j * 3 + 0, none⟩))) (h : RdR M a m fs) (hj : j < m)
    (kk : Run P n ops st Q l (putT n d (.int .i64 (fs.getD j zR).w) T) M) : Run P n ops st Q ((⟨d, .load t x, ty, pos, after, none⟩, fl) :: l) T M := by
  obtain ⟨k, a', c', hm, e0, e1, e2, hr⟩ := h.rat hj
  exact rL ex hm e0 rfl kk
theorem ldRf1 {t : Nat} [PlainT P t] {x : Operand} {a : Option Addr} {m j : Nat} {fs : List Frm} (ex : ev T x = some (.pointer (some ⟨(a.getD ⟨0, 0, none⟩).block, (a.getD ⟨0, 0, none⟩).off + j * 3 + 1, none⟩))) (h : RdR M a m fs) (hj : j < m)
    (kk : Run P n ops st Q l (putT n d (.int .i64 (fs.getD j zR).d) T) M) : Run P n ops st Q ((⟨d, .load t x, ty, pos, after, none⟩, fl) :: l) T M := by
  obtain ⟨k, a', c', hm, e0, e1, e2, hr⟩ := h.rat hj
  exact rL ex hm e1 rfl kk
theorem ldRf2 {t : Nat} [PlainT P t] {x : Operand} {a : Option Addr} {m j : Nat} {fs : List Frm} (ex : ev T x = some (.pointer (some ⟨(a.getD ⟨0, 0, none⟩).block, (a.getD ⟨0, 0, none⟩).off + j * 3 + 2, none⟩))) (h : RdR M a m fs) (hj : j < m)
    (kk : ∀ a' c', RdF M a' (fs.getD j zR).xs.length (fs.getD j zR).xs → Run P n ops st Q l (putT n d (.slice a' (fs.getD j zR).xs.length c') T) M) : Run P n ops st Q ((⟨d, .load t x, ty, pos, after, none⟩, fl) :: l) T M := by
  obtain ⟨k, a', c', hm, e0, e1, e2, hr⟩ := h.rat hj
  exact rL ex hm e2 rfl (kk a' c' hr)
theorem mkR {t e bytes : Nat} [hu : UnderT P t (.slice e)] [hi : InfoT P e 3 bytes (.agg #[.int .i64 0, .int .i64 0, .slice none 0 0])] {x y : Operand} {kx ky : IntKind} {c : Nat} (ex : ev T x = some (.int kx (c : Nat))) (ey : ev T y = some (.int ky (c : Nat)))
    (hc : c * bytes ≤ 281474976710656) (hc2 : c ≤ 4611686018427387904) (kk : ∀ b, Run P n ops st Q l (putT n d (.slice (some ⟨b, 0, none⟩) c c) T) ((b, ⟨tcs (List.replicate c z3), true⟩) :: M)) :
    Run P n ops st Q ((⟨d, .makeSlice t x y, ty, pos, after, none⟩, false) :: l) T M := by
  refine run_step rfl ?_
  intro w0 B a w ht hs
  obtain ⟨i, hi1, hi2, hi3, hi4⟩ := hi.out
  have hx := nf_int (ev_sound ht ex)
  have hy := nf_int (ev_sound ht ey)
  have hrun := run_make (P := P) w t e i _ hu.out hi1 hi4 kx ky (c : Int) (c : Int) (by omega) (by omega) (by rw [hi3, Int.mul_comm]; omega) (by omega)
  have hrun' : (execOp a.eval ⟨d, .makeSlice t x y, ty, pos, after, none⟩).run P w = .ok (.value (.slice (some ⟨w.heap.size, 0, none⟩) c c)) (w.alloc (.cells (madeCells (Value.agg #[.int .i64 0, .int .i64 0, .slice none 0 0]).cells (c * i.size)) e)) := by
    simp [execOp, hx, hy, hrun]
  rw [hrun']
  refine ⟨_, hs.alloc _ _, ?_⟩
  have he : (madeCells (Value.agg #[.int .i64 0, .int .i64 0, .slice none 0 0]).cells (c * i.size)).toList.map nfS = tcs (List.replicate c z3) := by
    rw [hi2]
    apply List.ext_getElem?
    intro j
    rcases Nat.lt_or_ge j (c * 3) with hj | hj
    · have h3 : j % 3 < 3 := Nat.mod_lt _ (by decide)
      have hd : j / 3 < c := by omega
      have hg := tcs_get (List.replicate c z3) (j / 3) (j % 3) (by simpa using hd) h3
      rw [show j / 3 * 3 + j % 3 = j from by omega] at hg
      have hrep : (List.replicate c z3).getD (j / 3) z3 = z3 := by simp [List.getD, List.getElem?_replicate, hd]
      rw [hg, hrep]
      simp [madeCells, Value.cells, hj]
      match j % 3, h3 with
      | 0, _ => rfl
      | 1, _ => rfl
      | 2, _ => rfl
    · rw [List.getElem?_eq_none (by simp [madeCells]; omega), List.getElem?_eq_none (by rw [tcs_len]; simpa using hj)]
  rw [he]
  exact ⟨fun _ _ _ => Ext.cons _ _, kk _⟩
theorem tR {t bytes : Nat} {z : Value} [InfoT P t 3 bytes z] {x y : Operand} {b j : Nat} {v0 v1 v2 : Value} {hs : List Tri} {M1 : Mem} (ex : ev T x = some (pRt (some ⟨b, 0, none⟩) j)) (ey : ev T y = some (.agg #[v0, v1, v2])) (hf : [v0, v1, v2].all flatV = true) (hM : Ext ((b, ⟨tcs hs, true⟩) :: M1) M) (hj : j < hs.length)
    (kk : Run P n ops st Q l T ((b, ⟨tcs (hs.set j (v0, v1, v2)), true⟩) :: M1)) : Run P n ops st Q ((⟨none, .store t x y, ty, pos, after, none⟩, false) :: l) T M := by
  refine run_step rfl (Step.ofExt (step_storeAgg (P := P) (M := (b, ⟨tcs hs, true⟩) :: M1) (tl := t) (size := 3) (k := ⟨tcs hs, true⟩) (vs := t3 (v0, v1, v2)) (cs := tcs (hs.set j (v0, v1, v2))) (b := b) (o := j * 3) 0 (by rw [ex]; simp [pRt]) ey hf rfl rfl rfl (Nat.ble_eq_true_of_le (by show j * 3 + 3 ≤ (tcs hs).length; rw [tcs_len]; omega)) (tcs_set hs j _ hj) ⟨fun _ _ h => by simp [keeps, writer, keptD] at h, ?_⟩) hM)
  exact kk
end
end Go.Proofs.Ytnikglngipbahaa.Ab
