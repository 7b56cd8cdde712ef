/-
  The abstract layer: lists of integers.
-/
import Derived.Test.YtkbpdgacfeachaaDa
namespace Go.Proofs.Ytkbpdgacfeachaa.Ab
open Go Go.RowKit
set_option linter.unusedVariables false
set_option linter.unusedSimpArgs false

/-- a type of no cells -/
class ZeroT (P : Program) (t : Nat) : Prop where
  out : (P.info? t).map (·.size) = some 0
def iL (is : List Int) : List Value := is.map (.int .i64)
/-- a list of integers of the call's own -/
def OwI (L : Mem) (v : Value) (is : List Int) : Prop :=
  ((∃ a, v = .slice a 0 0) ∧ is = [] ∧ L = []) ∨ ∃ b cap rest, v = .slice (some ⟨b, 0, none⟩) is.length cap ∧ is.length + rest.length = cap ∧ L = [(b, ⟨iL is ++ rest, true⟩)]
/-- the slice reads as these integers -/
def RdI (M : Mem) (a : Option Addr) (n : Nat) (is : List Int) : Prop := is.length = n ∧ (is = [] ∨ ∃ b o k, a = some ⟨b, o, none⟩ ∧ (b, k) ∈ M ∧ ∀ i, i < is.length → k.cells[o + i]? = some (.int .i64 (is.getD i 0)))
theorem RdI.mono {M M' : Mem} {a : Option Addr} {n : Nat} {is : List Int} (h : RdI M a n is) (e : Ext M M') : RdI M' a n is := by
  obtain ⟨h1, h2⟩ := h
  refine ⟨h1, h2.imp id ?_⟩
  rintro ⟨b, o, k, e1, e2, e3⟩
  exact ⟨b, o, k, e1, e.mem e2, e3⟩
theorem RdI.len {M : Mem} {a : Option Addr} {n : Nat} {is : List Int} (h : RdI M a n is) : is.length = n := h.1
theorem RdI.aok {M : Mem} {a : Option Addr} {n : Nat} {is : List Int} (h : RdI M a n is) : AOk a n := by
  obtain ⟨rfl, rfl | ⟨b, o, k, h, _⟩⟩ := h
  · exact .inl rfl
  · exact .inr ⟨b, o, h⟩
theorem iL_get {is : List Int} {i : Nat} (h : i < is.length) : (iL is)[i]? = some (.int .i64 (is.getD i 0)) := by
  simp [iL, h, List.getD]
theorem OwI.rd {L : Mem} {v : Value} {is : List Int} (h : OwI L v is) : ∃ a c, v = .slice a is.length c ∧ RdI L a is.length is := by
  rcases h with ⟨⟨a, rfl⟩, rfl, rfl⟩ | ⟨b, cap, rest, rfl, hc, rfl⟩
  · exact ⟨a, 0, rfl, rfl, .inl rfl⟩
  · refine ⟨_, cap, rfl, rfl, .inr ⟨b, 0, _, rfl, List.mem_cons_self, fun i hi => ?_⟩⟩
    show (iL is ++ rest)[0 + i]? = _
    rw [Nat.zero_add, List.getElem?_append_left (by simpa [iL] using hi), iL_get hi]
theorem OwI.rdI {L : Mem} {a : Option Addr} {m c : Nat} {is : List Int} (h : OwI L (.slice a m c) is) : RdI L a m is := by
  obtain ⟨_, _, hv, h⟩ := h.rd
  obtain ⟨rfl, h2, _⟩ := Value.slice.inj hv
  rw [h2]; exact h
theorem OwI.capl {L : Mem} {a : Option Addr} {m c : Nat} {is : List Int} (h : OwI L (.slice a m c) is) : m ≤ c := by
  rcases h with ⟨⟨a', h⟩, _, _⟩ | ⟨b, cap, rest, h, hc, _⟩
  · cases h; exact Nat.le_refl _
  · obtain ⟨_, h2, h3⟩ := Value.slice.inj h; omega
theorem OwI.nil {a : Option Addr} : OwI [] (.slice a 0 0) [] := .inl ⟨⟨a, rfl⟩, rfl, rfl⟩
theorem OwI.blk {b cap : Nat} {is : List Int} {rest : List Value} (h : is.length + rest.length = cap) : OwI [(b, ⟨iL is ++ rest, true⟩)] (.slice (some ⟨b, 0, none⟩) is.length cap) is := .inr ⟨b, cap, rest, rfl, h, rfl⟩
theorem OwI.notTup {L : Mem} {v : Value} {is : List Int} (h : OwI L v is) : Ab.notTup v = true := by
  obtain ⟨_, _, rfl, _⟩ := h.rd; rfl
section
variable {P : Program} {n : Nat} {T : Tm} {M : Mem} {ops : Array Oper} {st : Option (List Nat)} {Q : Tm → Mem → Prop} {fl : Bool} {l : List (Oper × Bool)} {d : Option Nat} {ty : Nat} {pos : String} {after : Array Edge}
theorem ldI {t : Nat} [PlainT P t] {x : Operand} {a : Option Addr} {m j : Nat} {is : List Int} (ex : ev T x = some (pAt a j)) (h : RdI M a m is) (hj : j < m)
    (kk : Run P n ops st Q l (putT n d (.int .i64 (is.getD j 0)) T) M) : Run P n ops st Q ((⟨d, .load t x, ty, pos, after, none⟩, fl) :: l) T M := by
  obtain ⟨rfl, rfl | ⟨b, o, k, rfl, hm, hc⟩⟩ := h
  · simp at hj
  · exact rL ex hm (hc j hj) rfl kk
/-- append of one integer to a list of the call's own -/
theorem apI {d1 ty1 : Nat} {pos1 : String} {after1 : Array Edge}
    {t e bytes : Nat} [hu : UnderT P t (.slice e)] [hi : InfoT P e 1 bytes (.int .i64 0)] {x y : Operand} {v : Int} {is : List Int} {sl : Value} {L M1 : Mem}
    (hw : ∀ ks, st = some ks → keptD ks d = false) (hd : Nat.blt d1 n = true) (hx : ∀ u, ev (putT n (some d1) u T) x = some sl) (ey : ev T y = some (.int .i64 v)) (ho : OwI L sl is) (hM : List.Perm (L ++ M1) M) (hb : (is.length + 1) * bytes ≤ 140737488355328) (h63 : is.length + 1 ≤ 4611686018427387904)
    (hk : ∀ b sl' L', OwI L' sl' (is ++ [v]) → Run P n ops st Q l (putT n d sl' (putT n (some d1) (.slice (some ⟨b, 0, none⟩) 1 1) T)) (L' ++ M1)) :
    Run P n ops st Q ((⟨some d1, .buildSlice t 1 ⟨[(0, y)]⟩, ty1, pos1, after1, none⟩, false) :: (⟨d, .call { callee := .builtin .append, args := #[x, .tmp d1], argTypes := #[t, t] }, ty, pos, after, none⟩, false) :: l) T M := by
  refine Run.ofPerm rfl hM ?_
  refine rBS (vs := [.int .i64 v]) rfl (by simp [evs, ey]) rfl rfl rfl fun b => ?_
  have ey' : ev (putT n (some d1) (.slice (some ⟨b, 0, none⟩) 1 1) T) (.tmp d1) = some (.slice (some ⟨b, 0, none⟩) 1 1) := by
    simp only [putT, hd, cond_true]; show get _ d1 = _; rw [get_cons, if_pos rfl]
  have hr : Rd ((b, (⟨[.int .i64 v], true⟩ : Blk)) :: (L ++ M1)) (.slice (some ⟨b, 0, none⟩) 1 1) [.int .i64 v] := Rd.head (vs := [.int .i64 v])
  have hfl : ∀ u ∈ [Value.int .i64 v], flatV u = true := by intro u hu; simp at hu; subst hu; rfl
  refine run_step rfl ?_
  rcases ho with ⟨⟨a, rfl⟩, rfl, rfl⟩ | ⟨b0, cap, rest, rfl, hcap, rfl⟩
  · have hk1 : ∀ b' rest', 1 + rest'.length = 1 + rest'.length → Run P n ops st Q l (putT n d (.slice (some ⟨b', 0, none⟩) 1 (1 + rest'.length)) (putT n (some d1) (.slice (some ⟨b, 0, none⟩) 1 1) T)) ((b', ⟨[.int .i64 v] ++ rest', true⟩) :: M1) :=
      fun b' rest' _ => hk b _ [(b', ⟨iL [v] ++ rest', true⟩)] (OwI.blk (is := [v]) rfl)
    cases a with
    | some ad =>
      refine Step.lessM (step_appendE (t := t) (hx _) ey' hr rfl (by simp) hfl (by simpa using hb) (by simp) fun b' cap' rest' h => ?_)
      subst h
      exact ⟨(b', ⟨[.int .i64 v] ++ rest', true⟩) :: M1, eK (Ext.cons _ _), fun ks hs h => by simp [keeps, writer, hw ks hs] at h, hk1 b' rest' rfl⟩
    | none =>
      refine Step.lessM (step_appendN (t := t) (hx _) ey' hr rfl (by simp) hfl (by simpa using hb) (by simp) fun b' cap' rest' h => ?_)
      subst h
      exact ⟨(b', ⟨[.int .i64 v] ++ rest', true⟩) :: M1, eK (Ext.cons _ _), fun ks hs h => by simp [keeps, writer, hw ks hs] at h, hk1 b' rest' rfl⟩
  · refine Step.lessM (step_append (t := t) (size := 1) (m := 1) (xs := iL is) 1 (hx _) ey' rfl (by simp [iL]) (by simp [iL]; omega) hr.toC hfl (by simpa using hb) (by simpa using h63) (by omega) (by decide) fun b' cap' rest' h1 h2 => ?_)
    refine ⟨(b', ⟨iL (is ++ [v]) ++ rest', true⟩) :: M1, ?_, fun ks hs h => by simp [keeps, writer, hw ks hs] at h, ?_⟩
    · simp only [List.set_cons_succ, List.set_cons_zero, List.cons_append, List.nil_append, iL, List.map_append, List.map_cons, List.map_nil]
      exact Ext.cons _ _
    · have := hk b (.slice (some ⟨b', 0, none⟩) (is.length + 1) cap') [(b', ⟨iL (is ++ [v]) ++ rest', true⟩)] (.inr ⟨b', cap', rest', by simp, by simp at h2 ⊢; omega, rfl⟩)
      exact this
/-- a store into a list of integers of the call's own -/
theorem tI {t bytes : Nat} {z : Value} [InfoT P t 1 bytes z] {x y : Operand} {a : Option Addr} {m c j : Nat} {v : Int} {is : List Int} {L M1 : Mem} (ex : ev T x = some (pAt a j)) (ey : ev T y = some (.int .i64 v)) (ho : OwI L (.slice a m c) is) (hM : Ext (L ++ M1) M) (hj : j < m)
    (kk : ∀ L', OwI L' (.slice a m c) (is.set j v) → Run P n ops st Q l T (L' ++ M1)) : Run P n ops st Q ((⟨none, .store t x y, ty, pos, after, none⟩, false) :: l) T M := by
  rcases ho with ⟨⟨a0, hv⟩, _, _⟩ | ⟨b, cap, rest, hv, hcap, rfl⟩
  · cases hv; omega
  · obtain ⟨rfl, rfl, rfl⟩ := Value.slice.inj hv
    refine run_step rfl (Step.ofExt (step_store (P := P) (M := (b, ⟨iL is ++ rest, true⟩) :: M1) (tl := t) (v := .int .i64 v) (b := b) (o := j) (k := ⟨iL is ++ rest, true⟩) 0 (by rw [ex]; simp [pAt]) ey rfl rfl rfl (by simp [iL]; omega) ⟨fun _ _ h => by simp [keeps, writer, keptD] at h, ?_⟩) hM)
    have e : (iL is ++ rest).set j (.int .i64 v) = iL (is.set j v) ++ rest := by
      unfold iL; rw [List.set_append_left _ _ (by simpa using hj), List.map_set]
    have := kk [(b, ⟨iL (is.set j v) ++ rest, true⟩)] (.inr ⟨b, _, rest, by rw [List.length_set], by rw [List.length_set]; exact hcap, rfl⟩)
    show Run P n ops st Q l T ((b, ⟨(iL is ++ rest).set j (.int .i64 v), true⟩) :: M1)
    rw [e]; exact this
end
end Go.Proofs.Ytkbpdgacfeachaa.Ab
