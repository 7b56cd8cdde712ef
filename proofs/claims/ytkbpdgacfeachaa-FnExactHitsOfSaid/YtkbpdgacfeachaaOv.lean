/-
  The abstract layer: lists of values of one cell.
-/
import Derived.Test.YtkbpdgacfeachaaOc
namespace Go.Proofs.Ytkbpdgacfeachaa.Ab
open Go Go.RowKit
set_option linter.unusedVariables false
set_option linter.unusedSimpArgs false

abbrev zS : Value := .slice none 0 0
/-- a list of values of the call's own -/
def OwV (L : Mem) (v : Value) (is : List Value) : Prop :=
  ((∃ a, v = .slice a 0 0) ∧ is = [] ∧ L = []) ∨ ∃ b cap rest, v = .slice (some ⟨b, 0, none⟩) is.length cap ∧ is.length + rest.length = cap ∧ L = [(b, ⟨is ++ rest, true⟩)]
def RdW (M : Mem) (a : Option Addr) (n : Nat) (is : List Value) : Prop := is.length = n ∧ (is = [] ∨ ∃ b o k, a = some ⟨b, o, none⟩ ∧ (b, k) ∈ M ∧ ∀ i, i < is.length → k.cells[o + i]? = some (is.getD i zS))
theorem RdW.mono {M M' : Mem} {a : Option Addr} {n : Nat} {is : List Value} (h : RdW M a n is) (e : Ext M M') : RdW M' a n is := by
  obtain ⟨h1, h2⟩ := h
  refine ⟨h1, h2.imp id ?_⟩
  rintro ⟨b, o, k, e1, e2, e3⟩
  exact ⟨b, o, k, e1, e.mem e2, e3⟩
theorem RdW.aok {M : Mem} {a : Option Addr} {n : Nat} {is : List Value} (h : RdW M a n is) : AOk a n := by
  obtain ⟨rfl, rfl | ⟨b, o, k, h, _⟩⟩ := h
  · exact .inl rfl
  · exact .inr ⟨b, o, h⟩
theorem OwV.rd {L : Mem} {v : Value} {is : List Value} (h : OwV L v is) : ∃ a c, v = .slice a is.length c ∧ RdW L a is.length is := by
  rcases h with ⟨⟨a, rfl⟩, rfl, rfl⟩ | ⟨b, cap, rest, rfl, hc, rfl⟩
  · exact ⟨a, 0, rfl, rfl, .inl rfl⟩
  · refine ⟨_, cap, rfl, rfl, .inr ⟨b, 0, _, rfl, List.mem_cons_self, fun i hi => ?_⟩⟩
    show (is ++ rest)[0 + i]? = _
    rw [Nat.zero_add, List.getElem?_append_left hi]
    simp [List.getD, hi]
theorem OwV.capl {L : Mem} {a : Option Addr} {m c : Nat} {is : List Value} (h : OwV L (.slice a m c) is) : m ≤ c := by
  rcases h with ⟨⟨a', h⟩, _, _⟩ | ⟨b, cap, rest, h, hc, _⟩
  · cases h; exact Nat.le_refl _
  · obtain ⟨_, h2, h3⟩ := Value.slice.inj h; omega
theorem OwV.nil {a : Option Addr} : OwV [] (.slice a 0 0) [] := .inl ⟨⟨a, rfl⟩, rfl, rfl⟩
theorem OwV.blk {b cap : Nat} {is : List Value} {rest : List Value} (h : is.length + rest.length = cap) : OwV [(b, ⟨is ++ rest, true⟩)] (.slice (some ⟨b, 0, none⟩) is.length cap) is := .inr ⟨b, cap, rest, rfl, h, rfl⟩
section
variable {P : Program} {n : Nat} {T : Tm} {M : Mem} {ops : Array Oper} {st : Option (List Nat)} {Q : Tm → Mem → Prop} {fl : Bool} {l : List (Oper × Bool)} {d : Option Nat} {ty : Nat} {pos : String} {after : Array Edge}
theorem ldV {t : Nat} [PlainT P t] {x : Operand} {a : Option Addr} {m j : Nat} {is : List Value} {u : Value} (ex : ev T x = some (pAt a j)) (h : RdW M a m is) (hj : j < m) (hu : is.getD j zS = u) (hf : flatV u = true)
    (kk : Run P n ops st Q l (putT n d u T) M) : Run P n ops st Q ((⟨d, .load t x, ty, pos, after, none⟩, fl) :: l) T M := by
  obtain ⟨rfl, rfl | ⟨b, o, k, rfl, hm, hc⟩⟩ := h
  · simp at hj
  · exact rL ex hm ((hc j hj).trans (by rw [hu])) hf kk
/-- append of one value to a list of the call's own -/
theorem apV {d1 ty1 : Nat} {pos1 : String} {after1 : Array Edge}
    {t e bytes : Nat} {z : Value} [hu : UnderT P t (.slice e)] [hi : InfoT P e 1 bytes z] {x y : Operand} {v : Value} {is : List Value} {sl : Value} {L M1 : Mem}
    (hw : ∀ ks, st = some ks → keptD ks d = false) (hd : Nat.blt d1 n = true) (hx : ∀ u, ev (putT n (some d1) u T) x = some sl) (ey : ev T y = some v) (hfv : flatV v = true) (hfz : flatV z = true) (ho : OwV L sl is) (hM : List.Perm (L ++ M1) M) (hb : (is.length + 1) * bytes ≤ 140737488355328) (h63 : is.length + 1 ≤ 4611686018427387904)
    (hk : ∀ b sl' L', OwV L' sl' (is ++ [v]) → Run P n ops st Q l (putT n d sl' (putT n (some d1) (.slice (some ⟨b, 0, none⟩) 1 1) T)) (L' ++ M1)) :
    Run P n ops st Q ((⟨some d1, .buildSlice t 1 ⟨[(0, y)]⟩, ty1, pos1, after1, none⟩, false) :: (⟨d, .call { callee := .builtin .append, args := #[x, .tmp d1], argTypes := #[t, t] }, ty, pos, after, none⟩, false) :: l) T M := by
  refine Run.ofPerm rfl hM ?_
  refine rBS (vs := [v]) rfl (by simp [evs, ey]) (by simp [hfv]) hfz rfl fun b => ?_
  have ey' : ev (putT n (some d1) (.slice (some ⟨b, 0, none⟩) 1 1) T) (.tmp d1) = some (.slice (some ⟨b, 0, none⟩) 1 1) := by
    simp only [putT, hd, cond_true]; show get _ d1 = _; rw [get_cons, if_pos rfl]
  have hr : Rd ((b, (⟨[v], true⟩ : Blk)) :: (L ++ M1)) (.slice (some ⟨b, 0, none⟩) 1 1) [v] := Rd.head (vs := [v])
  have hfl : ∀ u ∈ [v], flatV u = true := by intro u hu; simp at hu; subst hu; exact hfv
  refine run_step rfl ?_
  rcases ho with ⟨⟨a, rfl⟩, rfl, rfl⟩ | ⟨b0, cap, rest, rfl, hcap, rfl⟩
  · have hk1 : ∀ b' rest', 1 + rest'.length = 1 + rest'.length → Run P n ops st Q l (putT n d (.slice (some ⟨b', 0, none⟩) 1 (1 + rest'.length)) (putT n (some d1) (.slice (some ⟨b, 0, none⟩) 1 1) T)) ((b', ⟨[v] ++ rest', true⟩) :: M1) :=
      fun b' rest' _ => hk b _ [(b', ⟨[v] ++ rest', true⟩)] (OwV.blk (is := [v]) rfl)
    cases a with
    | some ad =>
      refine Step.lessM (step_appendE (t := t) (hx _) ey' hr rfl (by simp) hfl (by simpa using hb) (by simp) fun b' cap' rest' h => ?_)
      subst h
      exact ⟨(b', ⟨[v] ++ rest', true⟩) :: M1, eK (Ext.cons _ _), fun ks hs h => by simp [keeps, writer, hw ks hs] at h, hk1 b' rest' rfl⟩
    | none =>
      refine Step.lessM (step_appendN (t := t) (hx _) ey' hr rfl (by simp) hfl (by simpa using hb) (by simp) fun b' cap' rest' h => ?_)
      subst h
      exact ⟨(b', ⟨[v] ++ rest', true⟩) :: M1, eK (Ext.cons _ _), fun ks hs h => by simp [keeps, writer, hw ks hs] at h, hk1 b' rest' rfl⟩
  · refine Step.lessM (step_append (t := t) (size := 1) (m := 1) (xs := is) 1 (hx _) ey' rfl (by simp) (by simp; omega) hr.toC hfl (by simpa using hb) (by simpa using h63) (by omega) (by decide) fun b' cap' rest' h1 h2 => ?_)
    refine ⟨(b', ⟨(is ++ [v]) ++ rest', true⟩) :: M1, ?_, fun ks hs h => by simp [keeps, writer, hw ks hs] at h, ?_⟩
    · simp only [List.set_cons_succ, List.set_cons_zero, List.cons_append, List.nil_append]
      exact Ext.cons _ _
    · have := hk b (.slice (some ⟨b', 0, none⟩) (is.length + 1) cap') [(b', ⟨(is ++ [v]) ++ rest', true⟩)] (.inr ⟨b', cap', rest', by simp, by simp at h2 ⊢; omega, rfl⟩)
      exact this
end
end Go.Proofs.Ytkbpdgacfeachaa.Ab
