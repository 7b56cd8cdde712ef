/-
  Frames in order: insertion, and the reference's walk.
-/
import Derived.Test.YtnikglngipbahaaRt
import Derived.Test.YtnikglngipbahaaAk
namespace Go.Proofs.Ytnikglngipbahaa.Ab
open Go Go.RowKit
attribute [local irreducible] Run Then InBlock LoopQ LQ1 LQ2 LQ3 LQ4 LQ5 LQ6 AWp Ret ACall
set_option linter.unusedVariables false
set_option linter.unusedSimpArgs false

/-! ## insertion -/
def posN (q : Nat → Bool) : Nat → Nat
  | 0 => 0
  | n + 1 => if q n then posN q n else n + 1
theorem posN_le (q : Nat → Bool) : ∀ n, posN q n ≤ n
  | 0 => Nat.le_refl _
  | n + 1 => by unfold posN; split; exact Nat.le_succ_of_le (posN_le q n); exact Nat.le_refl _
theorem posN_y {q : Nat → Bool} {n : Nat} (h : q n = true) : posN q (n + 1) = posN q n := by rw [posN, if_pos h]
theorem posN_n {q : Nat → Bool} {n : Nat} (h : q n = false) : posN q (n + 1) = n + 1 := by rw [posN, if_neg (by rw [h]; decide)]
theorem posN_congr {q r : Nat → Bool} : ∀ {n : Nat}, (∀ k, k < n → q k = r k) → posN q n = posN r n
  | 0, _ => rfl
  | n + 1, h => by rw [posN, posN, h n (Nat.lt_succ_self n), posN_congr fun k hk => h k (Nat.lt_succ_of_lt hk)]
section
variable {α β : Type}
def insG (gt : α → α → Bool) (z : α) (l : List α) (x : α) : List α := l.take (posN (fun k => gt (l.getD k z) x) l.length) ++ x :: l.drop (posN (fun k => gt (l.getD k z) x) l.length)
theorem insG_len (gt : α → α → Bool) (z : α) (l : List α) (x : α) : (insG gt z l x).length = l.length + 1 := by
  have := posN_le (fun k => gt (l.getD k z) x) l.length
  unfold insG
  rw [List.length_append, List.length_cons, List.length_take, List.length_drop]; omega
theorem insG_at {gt : α → α → Bool} {z : α} {l : List α} {x : α} {j : Nat} (h : posN (fun k => gt (l.getD k z) x) l.length = j) : insG gt z l x = l.take j ++ x :: l.drop j := by subst h; rfl
theorem insG_perm (gt : α → α → Bool) (z : α) (l : List α) (x : α) : (insG gt z l x).Perm (x :: l) := by
  unfold insG
  refine List.perm_middle.trans (List.Perm.cons _ ?_)
  rw [List.take_append_drop]
theorem insG_map {gt : α → α → Bool} {gt' : β → β → Bool} {z : α} {z' : β} (f : α → β) (hg : ∀ a b, gt' (f a) (f b) = gt a b) (l : List α) (x : α) : insG gt' z' (l.map f) (f x) = (insG gt z l x).map f := by
  have e : posN (fun k => gt' ((l.map f).getD k z') (f x)) (l.map f).length = posN (fun k => gt (l.getD k z) x) l.length := by
    rw [List.length_map]
    refine posN_congr fun k hk => ?_
    have : (l.map f).getD k z' = f (l.getD k z) := by simp [List.getD, hk]
    rw [this, hg]
  rw [insG_at e, insG, List.map_append, List.map_cons, List.map_take, List.map_drop]
def sortG (gt : α → α → Bool) (z : α) (xs : List α) : Nat → List α
  | 0 => []
  | i + 1 => insG gt z (sortG gt z xs i) (xs.getD i z)
theorem sortG_len (gt : α → α → Bool) (z : α) (xs : List α) : ∀ i, (sortG gt z xs i).length = i
  | 0 => rfl
  | i + 1 => by rw [sortG, insG_len, sortG_len gt z xs i]
theorem getD_of_lt {l : List α} {i : Nat} {z : α} (h : i < l.length) : l.getD i z = l[i] := by simp [List.getD, h]
theorem sortG_perm (gt : α → α → Bool) (z : α) (xs : List α) : ∀ i, i ≤ xs.length → (sortG gt z xs i).Perm (xs.take i)
  | 0, _ => by rw [sortG, List.take_zero]
  | i + 1, h => by
    rw [sortG, List.take_succ_eq_append_getElem (show i < xs.length by omega), getD_of_lt (show i < xs.length by omega)]
    exact (insG_perm gt z _ _).trans (((sortG_perm gt z xs i (by omega)).cons _).trans (List.perm_append_comm (l₁ := [xs[i]])))
theorem sortG_map {gt : α → α → Bool} {gt' : β → β → Bool} {z : α} {z' : β} (f : α → β) (hg : ∀ a b, gt' (f a) (f b) = gt a b) (xs : List α) : ∀ i, i ≤ xs.length → sortG gt' z' (xs.map f) i = (sortG gt z xs i).map f
  | 0, _ => rfl
  | i + 1, h => by
    have : (xs.map f).getD i z' = f (xs.getD i z) := by simp [List.getD, show i < xs.length by omega]
    rw [sortG, sortG, sortG_map f hg xs i (by omega), this]
    exact insG_map f hg _ _
end
/-- a frame and the slice that holds its trace -/
abbrev Efr := Frm × Value
abbrev zE : Efr := (zR, zS)
abbrev tE (e : Efr) : Tri := (.int .i64 e.1.w, .int .i64 e.1.d, e.2)
def eCs (es : List Efr) : List Value := tcs (es.map tE)
theorem eCs_len (es : List Efr) : (eCs es).length = es.length * 3 := by unfold eCs; rw [tcs_len, List.length_map]
theorem eCs_app (a b : List Efr) : eCs (a ++ b) = eCs a ++ eCs b := by unfold eCs; rw [List.map_append, tcs_app]
theorem eCs_take (a : List Efr) (k : Nat) : (eCs a).take (k * 3) = eCs (a.take k) := by unfold eCs; rw [tcs_take, List.map_take]
theorem eCs_drop (a : List Efr) (k : Nat) : (eCs a).drop (k * 3) = eCs (a.drop k) := by unfold eCs; rw [tcs_drop, List.map_drop]
theorem triL_E (es : List Efr) : triL (es.map (·.1)) (es.map (·.2)) = es.map tE := by
  induction es with
  | nil => rfl
  | cons e es ih => show _ :: triL _ _ = _ :: _; rw [ih]
theorem map_tE_get {es : List Efr} {i : Nat} (h : i < es.length) : (es.map tE).getD i z3 = tE (es.getD i zE) := by simp [List.getD, h]
/-- memory of the call's own for the traces of these -/
def OwE (L : Mem) (es : List Efr) : Prop := OwL L (es.map (·.2)) (es.map fun e => e.1.xs)
theorem OwE.toR {Lo Li : Mem} {v : Value} {es : List Efr} {k : Nat} (hk : k = es.length) (h : OwC 3 Lo v k (eCs es)) (k : OwE Li es) : OwR (Lo ++ Li) v (es.map (·.1)) := by
  subst hk
  refine ⟨Lo, Li, es.map (·.2), ?_, ?_, rfl⟩
  · rw [triL_E, List.length_map]; exact h
  · rw [List.map_map]; exact k
theorem OwE.flat {L : Mem} {es : List Efr} (h : OwE L es) : ∀ u ∈ eCs es, flatV u = true := by
  unfold eCs; rw [← triL_E]; exact triL_flat (OwL.flat h)
theorem OwE.flatT {L : Mem} {es : List Efr} (h : OwE L es) (k : Nat) : ∀ u ∈ (eCs es).take k, flatV u = true := fun u hu => h.flat u (List.mem_of_mem_take hu)
theorem OwE.flatD {L : Mem} {es : List Efr} (h : OwE L es) (k : Nat) : ∀ u ∈ (eCs es).drop k, flatV u = true := fun u hu => h.flat u (List.mem_of_mem_drop hu)
theorem OwE.nil : OwE [] [] := rfl
theorem OwE.cons {L1 L : Mem} {e : Efr} {es : List Efr} (h : OwF L1 e.2 e.1.xs) (k : OwE L es) : OwE (L1 ++ L) (e :: es) := ⟨L1, L, h, k, List.Perm.refl _⟩
theorem OwE.perm : ∀ {es es' : List Efr}, es.Perm es' → ∀ {L : Mem}, OwE L es → OwE L es' := by
  intro es es' p
  induction p with
  | nil => intro L h; exact h
  | cons e _ ih =>
    intro L h
    obtain ⟨L1, L2, h1, h2, h3⟩ := h
    exact ⟨L1, L2, h1, ih h2, h3⟩
  | swap a b l =>
    intro L h
    obtain ⟨L1, L2, h1, ⟨L3, L4, h4, h5, h6⟩, h3⟩ := h
    refine ⟨L3, L1 ++ L4, h4, ⟨L1, L4, h1, h5, List.Perm.refl _⟩, ?_⟩
    refine h3.trans ((h6.append_left L1).trans ?_)
    rw [← List.append_assoc, ← List.append_assoc]
    exact List.perm_append_comm.append_right L4
  | trans _ _ ih1 ih2 => intro L h; exact ih2 (ih1 h)
theorem OwE.sub : ∀ {es es' : List Efr}, es'.Sublist es → ∀ {L : Mem}, OwE L es → ∃ L', OwE L' es' ∧ Ext L' L := by
  intro es es' p
  induction p with
  | slnil => intro L h; exact ⟨L, h, Ext.refl _⟩
  | cons e _ ih =>
    intro L h
    obtain ⟨L1, L2, h1, h2, h3⟩ := h
    obtain ⟨L', g1, g2⟩ := ih h2
    exact ⟨L', g1, g2.trans ⟨L1, h3.trans List.perm_append_comm⟩⟩
  | cons_cons e _ ih =>
    intro L h
    obtain ⟨L1, L2, h1, h2, h3⟩ := h
    obtain ⟨L', g1, R, g2⟩ := ih h2
    refine ⟨L1 ++ L', ⟨L1, L', h1, g1, List.Perm.refl _⟩, R, h3.trans ?_⟩
    rw [List.append_assoc]; exact g2.append_left L1
/-- what comes behind -/
def gtR (g f : Frm) : Bool := decide (g.w > f.w) || (g.w == f.w && decide (g.d > f.d))
theorem gtR_gt {g f : Frm} (h : decide (g.w > f.w) = true) : true = (true && gtR g f) := by unfold gtR; rw [h]; rfl
theorem gtR_ne {g f : Frm} (h : decide (g.w > f.w) = false) (k : (g.w == f.w) = false) : false = (true && gtR g f) := by unfold gtR; rw [h, k]; rfl
theorem gtR_eq {g f : Frm} (h : decide (g.w > f.w) = false) (k : (g.w == f.w) = true) : decide (g.d > f.d) = (true && gtR g f) := by unfold gtR; rw [h, k, Bool.false_or, Bool.true_and, Bool.true_and]
abbrev gtE (a b : Efr) : Bool := gtR a.1 b.1
abbrev sortR (fs : List Frm) (i : Nat) : List Frm := sortG gtR zR fs i
/-! ## parts of a list of the call's own -/
theorem OwC.cutH {s : Nat} {L : Mem} {a : Option Addr} {n c c' j : Nat} {cs : List Value} (hs : 0 < s) (h : OwC s L (.slice a n c) n cs) (hj : j ≤ n) : RdC L (.slice (cut1 a c 0 s) j c') j s (cs.take (j * s)) := by
  obtain ⟨a1, c1, hv, hc, hcl⟩ := h.shape
  have hjs : j * s ≤ n * s := Nat.mul_le_mul_right s hj
  refine ⟨by rw [List.length_take]; omega, _, c', rfl, ?_⟩
  rcases h with ⟨⟨a0, hv⟩, rfl, rfl, rfl⟩ | ⟨b, cap, rest, hv, h1, h2, h3, rfl⟩
  · exact .inl (by simp)
  · obtain ⟨rfl, _, rfl⟩ := Value.slice.inj hv
    refine .inr ⟨b, 0, _, ?_, List.mem_cons_self, fun i hi => ?_⟩
    · unfold cut1; split
      · rfl
      · simp [Addr.add]
    · rw [List.length_take] at hi
      show (cs ++ rest)[0 + i]? = _
      rw [Nat.zero_add, List.getElem?_append_left (by omega), List.getElem?_take, if_pos (by omega)]
theorem OwC.cutL {s : Nat} {L : Mem} {a : Option Addr} {n c c' j : Nat} {cs : List Value} (hs : 0 < s) (h : OwC s L (.slice a n c) n cs) (hj : j ≤ n) : RdC L (.slice (cut1 a c j s) (n - j) c') (n - j) s (cs.drop (j * s)) := by
  obtain ⟨a1, c1, hv, hc, hcl⟩ := h.shape
  refine ⟨by rw [List.length_drop, hcl, Nat.sub_mul], _, c', rfl, ?_⟩
  rcases h with ⟨⟨a0, hv⟩, rfl, rfl, rfl⟩ | ⟨b, cap, rest, hv, h1, h2, h3, rfl⟩
  · exact .inl (by simp)
  · obtain ⟨rfl, _, rfl⟩ := Value.slice.inj hv
    by_cases e : c = j
    · have : n = j := by omega
      subst this
      exact .inl (by rw [List.drop_eq_nil_of_le (by omega)])
    · refine .inr ⟨b, j * s, _, ?_, List.mem_cons_self, fun i hi => ?_⟩
      · unfold cut1; rw [if_neg e]; simp [Addr.add]; try exact fun h => h.symm
      · rw [List.length_drop] at hi
        show (cs ++ rest)[j * s + i]? = _
        rw [List.getElem?_append_left (by omega), List.getElem?_drop]
theorem rdC_head {b c : Nat} {wr : Bool} {v0 v1 v2 : Value} {M : Mem} (hm : (b, (⟨[v0, v1, v2], wr⟩ : Blk)) ∈ M) : RdC M (.slice (some ⟨b, 0, none⟩) 1 c) 1 3 [v0, v1, v2] :=
  ⟨rfl, _, c, rfl, .inr ⟨b, 0, _, rfl, hm, fun i hi => by rw [Nat.zero_add]⟩⟩
theorem rB0 {P : Program} {n : Nat} {T : Tm} {M : Mem} {ops : Array Oper} {st : Option (List Nat)} {Q : Tm → Mem → Prop} {l : List (Oper × Bool)} {d : Option Nat} {ty : Nat} {pos : String} {after : Array Edge}
    {tx e size bytes : Nat} {z : Value} [hu : UnderT P tx (.slice e)] [hi : InfoT P e size bytes z]
    (hk : ∀ b, Run P n ops st Q l (putT n d (.slice (some ⟨b, 0, none⟩) 0 0) T) ((b, ⟨[], true⟩) :: M)) :
    Run P n ops st Q ((⟨d, .buildSlice tx 0 #[], ty, pos, after, none⟩, false) :: l) T M := by
  refine run_step rfl ?_
  intro w0 B a w ht hs
  obtain ⟨i, hi1, hi2, hi3, hi4⟩ := hi.out
  have hrun : (execOp a.eval ⟨d, .buildSlice tx 0 #[], ty, pos, after, none⟩).run P w = .ok (.value (.slice (some ⟨w.heap.size, 0, none⟩) 0 0)) (w.alloc (.cells #[] e)) := by
    simp only [execOp, Instr.buildSlice, Sem.run_bind, run_underlying hu.out, Result.andThen_ok, sizeOf, typeInfo, run_program, hi1, Sem.run_pure, hi2, zeroValue, hi4]
    simp [Instr.fill, hi4, newRow, hi1]
    rw [show Array.range 0 = #[] from Array.eq_empty_of_size_eq_zero (by simp), Array.map_empty]
  rw [hrun]
  exact ⟨_, hs.alloc _ _, fun _ _ _ => Ext.cons _ _, hk _⟩
end Go.Proofs.Ytnikglngipbahaa.Ab
