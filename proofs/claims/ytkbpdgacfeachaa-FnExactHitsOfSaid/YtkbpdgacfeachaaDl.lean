/-
  The abstract layer: lists of lists of 32-bit floats.
-/
import Derived.Test.YtkbpdgacfeachaaOv
namespace Go.Proofs.Ytkbpdgacfeachaa.Ab
open Go Go.RowKit
set_option linter.unusedVariables false
set_option linter.unusedSimpArgs false

/-- these values are slices that read as these lists -/
def RdL (M : Mem) (vs : List Value) (xss : List (List Nat)) : Prop := vs.length = xss.length ∧ ∀ i, i < xss.length → ∃ a c, vs.getD i zS = .slice a (xss.getD i []).length c ∧ RdF M a (xss.getD i []).length (xss.getD i [])
theorem RdL.mono {M M' : Mem} {vs : List Value} {xss : List (List Nat)} (h : RdL M vs xss) (e : Ext M M') : RdL M' vs xss :=
  ⟨h.1, fun i hi => by obtain ⟨a, c, h1, h2⟩ := h.2 i hi; exact ⟨a, c, h1, h2.mono e⟩⟩
/-- the slice reads as these lists -/
def RdD (M : Mem) (a : Option Addr) (n : Nat) (xss : List (List Nat)) : Prop := xss.length = n ∧ ∃ vs, RdW M a n vs ∧ RdL M vs xss
theorem RdD.mono {M M' : Mem} {a : Option Addr} {n : Nat} {xss : List (List Nat)} (h : RdD M a n xss) (e : Ext M M') : RdD M' a n xss := by
  obtain ⟨h1, vs, h2, h3⟩ := h; exact ⟨h1, vs, h2.mono e, h3.mono e⟩
theorem RdD.aok {M : Mem} {a : Option Addr} {n : Nat} {xss : List (List Nat)} (h : RdD M a n xss) : AOk a n := by
  obtain ⟨_, vs, h2, _⟩ := h; exact h2.aok
theorem RdD.nil (M : Mem) (a : Option Addr) : RdD M a 0 [] := ⟨rfl, [], ⟨rfl, .inl rfl⟩, rfl, fun i h => by simp at h⟩
/-- memory of the call's own for each of these values -/
def OwL : Mem → List Value → List (List Nat) → Prop
  | L, [], [] => L = []
  | L, v :: vs, xs :: xss => ∃ L1 L2, OwF L1 v xs ∧ OwL L2 vs xss ∧ L.Perm (L1 ++ L2)
  | _, _, _ => False
theorem OwL.perm : ∀ {vs : List Value} {xss : List (List Nat)} {L L' : Mem}, OwL L vs xss → L'.Perm L → OwL L' vs xss := by
  intro vs xss L L' h p
  match vs, xss, h with
  | [], [], h => obtain rfl : L = [] := h; exact p.eq_nil
  | v :: vs, xs :: xss, ⟨L1, L2, h1, h2, h3⟩ => exact ⟨L1, L2, h1, h2, p.trans h3⟩
theorem OwL.len : ∀ {vs : List Value} {xss : List (List Nat)} {L : Mem}, OwL L vs xss → vs.length = xss.length
  | [], [], _, _ => rfl
  | v :: vs, xs :: xss, _, ⟨L1, L2, h1, h2, h3⟩ => by simp [h2.len]
theorem OwL.snoc : ∀ {vs : List Value} {xss : List (List Nat)} {L L1 : Mem} {v : Value} {xs : List Nat}, OwL L vs xss → OwF L1 v xs → OwL (L1 ++ L) (vs ++ [v]) (xss ++ [xs])
  | [], [], L, L1, v, xs, h, k => by obtain rfl : L = [] := h; exact ⟨L1, [], k, rfl, List.Perm.refl _⟩
  | u :: vs, ys :: xss, L, L1, v, xs, ⟨A, B, h1, h2, h3⟩, k => ⟨A, L1 ++ B, h1, h2.snoc k, (h3.append_left L1).trans (by rw [← List.append_assoc, ← List.append_assoc]; exact List.Perm.append_right B List.perm_append_comm)⟩
/-- one of them, taken out, changed and put back -/
theorem OwL.at : ∀ {vs : List Value} {xss : List (List Nat)} {L : Mem} {i : Nat}, OwL L vs xss → i < xss.length → ∃ Lk R, L.Perm (Lk ++ R) ∧ OwF Lk (vs.getD i zS) (xss.getD i []) ∧ ∀ Lk' v' xs', OwF Lk' v' xs' → OwL (Lk' ++ R) (vs.set i v') (xss.set i xs')
  | [], [], _, _, _, hi => by simp at hi
  | v :: vs, xs :: xss, L, 0, ⟨A, B, h1, h2, h3⟩, hi => ⟨A, B, h3, h1, fun Lk' v' xs' k => ⟨Lk', B, k, h2, List.Perm.refl _⟩⟩
  | v :: vs, xs :: xss, L, i + 1, ⟨A, B, h1, h2, h3⟩, hi => by
    obtain ⟨Lk, R, g1, g2, g3⟩ := h2.at (i := i) (by simpa using hi)
    refine ⟨Lk, A ++ R, (h3.trans (g1.append_left A)).trans (by rw [← List.append_assoc, ← List.append_assoc]; exact List.Perm.append_right R List.perm_append_comm), g2, fun Lk' v' xs' k => ?_⟩
    exact ⟨A, Lk' ++ R, h1, g3 _ _ _ k, by rw [← List.append_assoc, ← List.append_assoc]; exact List.Perm.append_right R List.perm_append_comm⟩
theorem OwL.rdL : ∀ {vs : List Value} {xss : List (List Nat)} {L : Mem}, OwL L vs xss → RdL L vs xss := by
  intro vs xss L h
  refine ⟨h.len, fun i hi => ?_⟩
  obtain ⟨Lk, R, g1, g2, _⟩ := h.at hi
  obtain ⟨a, c, e1, e2⟩ := g2.rd
  exact ⟨a, c, e1, e2.mono ⟨R, g1⟩⟩
theorem OwL.nil : OwL [] [] [] := rfl
/-- a list of lists of the call's own -/
def OwD (L : Mem) (v : Value) (xss : List (List Nat)) : Prop := ∃ Lo Li vs, OwV Lo v vs ∧ OwL Li vs xss ∧ L = Lo ++ Li
theorem OwD.rd {L : Mem} {v : Value} {xss : List (List Nat)} (h : OwD L v xss) : ∃ a c, v = .slice a xss.length c ∧ RdD L a xss.length xss := by
  obtain ⟨Lo, Li, vs, h1, h2, rfl⟩ := h
  obtain ⟨a, c, e1, e2⟩ := h1.rd
  rw [h2.len] at e1 e2
  exact ⟨a, c, e1, rfl, vs, e2.mono (Ext.of_sublist (List.sublist_append_left _ _)), h2.rdL.mono (ext_append _ _)⟩
theorem OwD.rdD {L : Mem} {a : Option Addr} {m c : Nat} {xss : List (List Nat)} (h : OwD L (.slice a m c) xss) : RdD L a m xss := by
  obtain ⟨_, _, hv, h⟩ := h.rd
  obtain ⟨rfl, h2, _⟩ := Value.slice.inj hv
  rw [h2]; exact h
theorem OwD.nil {a : Option Addr} : OwD [] (.slice a 0 0) [] := ⟨[], [], [], OwV.nil, rfl, rfl⟩
theorem OwD.len {L : Mem} {a : Option Addr} {m c : Nat} {xss : List (List Nat)} (h : OwD L (.slice a m c) xss) : xss.length = m := h.rdD.1
theorem OwD.capl {L : Mem} {a : Option Addr} {m c : Nat} {xss : List (List Nat)} (h : OwD L (.slice a m c) xss) : m ≤ c := by
  obtain ⟨Lo, Li, vs, h1, _, _⟩ := h; exact h1.capl
theorem RdW.getv {M : Mem} {vs : List Value} {xss : List (List Nat)} {j : Nat} (h : RdL M vs xss) (hj : j < xss.length) : ∃ a c, vs.getD j zS = .slice a (xss.getD j []).length c ∧ RdF M a (xss.getD j []).length (xss.getD j []) := h.2 j hj
theorem set_getD {α : Type} {l : List α} {i : Nat} {d : α} (h : i < l.length) : l.set i (l.getD i d) = l := by
  apply List.ext_getElem?
  intro j
  rw [List.getElem?_set]
  split
  · rename_i e; subst e; simp [h]
  · rfl
theorem set_sameD {α : Type} {l : List α} {i : Nat} {d v : α} (h : i < l.length) (e : l.getD i d = v) : l.set i v = l := by rw [← e]; exact set_getD h
section
variable {P : Program} {n : Nat} {T : Tm} {M : Mem} {ops : Array Oper} {st : Option (List Nat)} {Q : Tm → Mem → Prop} {fl : Bool} {l : List (Oper × Bool)} {d : Option Nat} {ty : Nat} {pos : String} {after : Array Edge}
/-- a list of a list of lists -/
theorem ldD {t : Nat} [PlainT P t] {x : Operand} {a : Option Addr} {m j : Nat} {xss : List (List Nat)} (ex : ev T x = some (pAt a j)) (h : RdD M a m xss) (hj : j < m)
    (kk : ∀ a' c', RdF M a' (xss.getD j []).length (xss.getD j []) → Run P n ops st Q l (putT n d (.slice a' (xss.getD j []).length c') T) M) : Run P n ops st Q ((⟨d, .load t x, ty, pos, after, none⟩, fl) :: l) T M := by
  obtain ⟨rfl, vs, h1, h2⟩ := h
  obtain ⟨a', c', e1, e2⟩ := h2.2 j hj
  exact ldV ex h1 hj e1 rfl (kk a' c' e2)
/-- the same, from a part of the memory that is kept -/
theorem ldD1 {t : Nat} [PlainT P t] {x : Operand} {a : Option Addr} {m j : Nat} {xss : List (List Nat)} {M1 : Mem} (ex : ev T x = some (pAt a j)) (h : RdD M1 a m xss) (he : Ext M1 M) (hj : j < m)
    (kk : ∀ a' c', RdF M1 a' (xss.getD j []).length (xss.getD j []) → Run P n ops st Q l (putT n d (.slice a' (xss.getD j []).length c') T) M) : Run P n ops st Q ((⟨d, .load t x, ty, pos, after, none⟩, fl) :: l) T M := by
  obtain ⟨rfl, vs, h1, h2⟩ := h
  obtain ⟨a', c', e1, e2⟩ := h2.2 j hj
  exact ldV ex (h1.mono he) hj e1 rfl (kk a' c' e2)
/-- a store into a list of values of the call's own -/
theorem tV {t bytes : Nat} {z : Value} [InfoT P t 1 bytes z] {x y : Operand} {a : Option Addr} {m c j : Nat} {v : Value} {is : List Value} {L M1 : Mem} (ex : ev T x = some (pAt a j)) (ey : ev T y = some v) (hf : flatV v = true) (ho : OwV L (.slice a m c) is) (hM : Ext (L ++ M1) M) (hj : j < m)
    (kk : ∀ L', OwV L' (.slice a m c) (is.set j v) → Run P n ops st Q l T (L' ++ M1)) : Run P n ops st Q ((⟨none, .store t x y, ty, pos, after, none⟩, false) :: l) T M := by
  rcases ho with ⟨⟨a0, hv⟩, _, _⟩ | ⟨b, cap, rest, hv, hcap, rfl⟩
  · cases hv; omega
  · obtain ⟨rfl, rfl, rfl⟩ := Value.slice.inj hv
    refine run_step rfl (Step.ofExt (step_store (P := P) (M := (b, ⟨is ++ rest, true⟩) :: M1) (tl := t) (v := v) (b := b) (o := j) (k := ⟨is ++ rest, true⟩) 0 (by rw [ex]; simp [pAt]) ey hf rfl rfl (by simp; omega) ⟨fun _ _ h => by simp [keeps, writer, keptD] at h, ?_⟩) hM)
    have e : (is ++ rest).set j v = is.set j v ++ rest := by
      rw [List.set_append_left _ _ hj]
    have := kk [(b, ⟨is.set j v ++ rest, true⟩)] (.inr ⟨b, _, rest, by rw [List.length_set], by rw [List.length_set]; exact hcap, rfl⟩)
    show Run P n ops st Q l T ((b, ⟨(is ++ rest).set j v, true⟩) :: M1)
    rw [e]; exact this
/-- make: a list of lists, all empty -/
theorem mkV {t e bytes : Nat} [hu : UnderT P t (.slice e)] [hi : InfoT P e 1 bytes (.slice none 0 0)] {x y : Operand} {kx ky : IntKind} {c : Nat} (ex : ev T x = some (.int kx (c : Nat))) (ey : ev T y = some (.int ky (c : Nat)))
    (hc : c * bytes ≤ 281474976710656) (hc2 : c ≤ 4611686018427387904) (kk : ∀ b, Run P n ops st Q l (putT n d (.slice (some ⟨b, 0, none⟩) c c) T) ((b, ⟨List.replicate c zS, true⟩) :: M)) :
    Run P n ops st Q ((⟨d, .makeSlice t x y, ty, pos, after, none⟩, false) :: l) T M :=
  rM (m := (c : Int)) (c := (c : Int)) ex ey rfl (by omega) (by omega) (by omega) (by omega) (by simpa using kk)
end
theorem AWp.ofPerm {P : Program} {n : Nat} {c : Code} {Q : Exit → Tm → Mem → Prop} {T : Tm} {M M' : Mem} (h : AWp P n c Q T M') (p : M.Perm M') : AWp P n c Q T M :=
  AWp.less h (Sub.refl _) (Ext.of_perm p.symm)
end Go.Proofs.Ytkbpdgacfeachaa.Ab
