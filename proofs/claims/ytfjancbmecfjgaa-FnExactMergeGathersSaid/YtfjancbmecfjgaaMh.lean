/-
  Walks: lists of lists appended; slices.Grow and slices.Concat of these; gathers merged.
-/
import Derived.Test.YtfjancbmecfjgaaCo
import Derived.Test.YtfjancbmecfjgaaGa
import Derived.Test.YtfjancbmecfjgaaAk
namespace Go.Proofs.Ytfjancbmecfjgaa.Ab
open Go Go.RowKit
attribute [local irreducible] Run Then InBlock LoopQ LQ1 LQ2 LQ3 LQ4 LQ5 LQ6 AWp Ret ACall
set_option linter.unusedVariables false
set_option linter.unusedSimpArgs false

theorem OwV.rdW {L : Mem} {a : Option Addr} {m c : Nat} {is : List Value} (h : OwV L (.slice a m c) is) : RdW L a m is := by
  obtain ⟨_, _, hv, h⟩ := h.rd
  obtain ⟨rfl, h2, _⟩ := Value.slice.inj hv
  rw [h2]; exact h
theorem RdW.toRd {M : Mem} {a : Option Addr} {n c : Nat} {is : List Value} (h : RdW M a n is) : Rd M (.slice a n c) is := by
  obtain ⟨rfl, h⟩ := h
  refine ⟨a, c, rfl, h.imp id ?_⟩
  rintro ⟨b, o, k, e1, e2, e3⟩
  refine ⟨b, o, k, e1, e2, fun i hi => ?_⟩
  rw [e3 i hi]; simp [List.getD, hi]
section
variable {P : Program} {n : Nat} {T : Tm} {M : Mem} {ops : Array Oper} {st : Option (List Nat)} {Q : Tm → Mem → Prop} {fl : Bool} {l : List (Oper × Bool)} {d : Option Nat} {ty : Nat} {pos : String} {after : Array Edge}
/-- append of values that are read to a list of the call's own -/
theorem apW {t e bytes : Nat} {z : Value} [hu : UnderT P t (.slice e)] [hi : InfoT P e 1 bytes z] {x y : Operand} {is js : List Value} {a : Option Addr} {m c : Nat} {sl : Value} {L M1 : Mem}
    (hw : ∀ ks, st = some ks → keptD ks d = false) (ex : ev T x = some sl) (ey : ev T y = some (.slice a m c)) (ho : OwV L sl is) (hM : List.Perm (L ++ M1) M) (hr : RdW (L ++ M1) a m js) (hfl : ∀ v ∈ js, flatV v = true) (hb : (is.length + m) * bytes ≤ 140737488355328) (h63 : is.length + m ≤ 4611686018427387904)
    (hk : ∀ sl' L', OwV L' sl' (is ++ js) → Run P n ops st Q l (putT n d sl' T) (L' ++ M1)) :
    Run P n ops st Q ((⟨d, .call { callee := .builtin .append, args := #[x, y], argTypes := #[t, t] }, ty, pos, after, none⟩, false) :: l) T M := by
  refine Run.ofPerm rfl hM (run_step rfl ?_)
  have hl : js.length = m := hr.1
  have hrd : Rd (L ++ M1) (.slice a m c) js := hr.toRd
  by_cases h0 : 0 < m
  · rcases ho with ⟨⟨a0, rfl⟩, rfl, rfl⟩ | ⟨b0, cap, rest, rfl, hcap, rfl⟩
    · have hk1 : ∀ b' cap' rest', m + rest'.length = cap' → Run P n ops st Q l (putT n d (.slice (some ⟨b', 0, none⟩) m cap') T) ((b', ⟨js ++ rest', true⟩) :: M1) :=
        fun b' cap' rest' h => hk _ [(b', ⟨js ++ rest', true⟩)] (.inr ⟨b', cap', rest', by simp [hl], by simpa [hl] using h, rfl⟩)
      cases a0 with
      | some ad =>
        refine Step.lessM (step_appendE (t := t) ex ey hrd hl h0 hfl (by simpa using hb) (by simpa using h63) fun b' cap' rest' h => ?_)
        exact ⟨(b', ⟨js ++ rest', true⟩) :: M1, Ext.refl _, fun ks hs h => by simp [keeps, writer, hw ks hs] at h, hk1 b' cap' rest' h⟩
      | none =>
        refine Step.lessM (step_appendN (t := t) ex ey hrd hl h0 hfl (by simpa using hb) (by simpa using h63) fun b' cap' rest' h => ?_)
        exact ⟨(b', ⟨js ++ rest', true⟩) :: M1, Ext.refl _, fun ks hs h => by simp [keeps, writer, hw ks hs] at h, hk1 b' cap' rest' h⟩
    · refine Step.lessM (step_append (t := t) (size := 1) (m := m) (xs := is) 0 ex ey rfl (by simp) (by simp; omega) (by have := hrd.toC; rwa [hl] at this) hfl hb h63 (by omega) (by decide) fun b' cap' rest' h1 h2 => ?_)
      refine ⟨(b', ⟨(is ++ js) ++ rest', true⟩) :: M1, Ext.refl _, fun ks hs h => by simp [keeps, writer, hw ks hs] at h, ?_⟩
      have := hk (.slice (some ⟨b', 0, none⟩) (is.length + m) cap') [(b', ⟨(is ++ js) ++ rest', true⟩)] (.inr ⟨b', cap', rest', by simp [hl], by simp [hl] at h2 ⊢; omega, rfl⟩)
      exact this
  · have hm : m = 0 := by omega
    subst hm
    have hj : js = [] := List.length_eq_zero_iff.1 hl
    subst hj
    rw [List.append_nil] at hk
    obtain ⟨a', c', rfl, _⟩ := id ho.rd
    exact step_append0 (t := t) ex ey ho.capl ⟨fun ks hs h => by simp [keeps, writer, hw ks hs] at h, hk _ _ ho⟩
end
/-- a slice of slices of values -/
def RdE (M : Mem) (a : Option Addr) (n : Nat) (vss : List (List Value)) : Prop := vss.length = n ∧ ∃ us, RdW M a n us ∧ ∀ i, i < vss.length → ∃ a c, us.getD i zS = .slice a (vss.getD i []).length c ∧ RdW M a (vss.getD i []).length (vss.getD i [])
theorem RdE.mono {M M' : Mem} {a : Option Addr} {n : Nat} {vss : List (List Value)} (h : RdE M a n vss) (e : Ext M M') : RdE M' a n vss := by
  obtain ⟨h1, us, h2, h3⟩ := h
  exact ⟨h1, us, h2.mono e, fun i hi => by obtain ⟨a, c, g1, g2⟩ := h3 i hi; exact ⟨a, c, g1, g2.mono e⟩⟩
theorem RdE.aok {M : Mem} {a : Option Addr} {n : Nat} {vss : List (List Value)} (h : RdE M a n vss) : AOk a n := by
  obtain ⟨_, us, h2, _⟩ := h; exact h2.aok
theorem ldE {P : Program} {n : Nat} {T : Tm} {M : Mem} {ops : Array Oper} {st : Option (List Nat)} {Q : Tm → Mem → Prop} {fl : Bool} {l : List (Oper × Bool)} {d : Option Nat} {ty : Nat} {pos : String} {after : Array Edge}
    {t : Nat} [PlainT P t] {x : Operand} {a : Option Addr} {m j : Nat} {vss : List (List Value)} (ex : ev T x = some (pAt a j)) (h : RdE M a m vss) (hj : j < m)
    (kk : ∀ a' c', RdW M a' (vss.getD j []).length (vss.getD j []) → Run P n ops st Q l (putT n d (.slice a' (vss.getD j []).length c') T) M) : Run P n ops st Q ((⟨d, .load t x, ty, pos, after, none⟩, fl) :: l) T M := by
  obtain ⟨rfl, us, h1, h2⟩ := h
  obtain ⟨a', c', e1, e2⟩ := h2 j hj
  exact ldV ex h1 hj e1 rfl (kk a' c' e2)
theorem c_growV (m : Nat) (M : Mem) (hm : m ≤ 1073741824) :
    ACall Try.prog 83 [.slice none 0 0, .int .i64 (m : Nat)] M fun v M' => ∃ L, OwV L v [] ∧ M' = L ++ M := by
  skip
  skip
  skip
  skip
  skip
  skip
  refine acall_of_awp Try.func83 rfl Try.ntmps83 rfl ?_
  refine cS (cR ?_)
  refine asg rfl ?_
  refine rN ?_
  refine qN ?_
  refine cS ?_
  refine cS (cR ?_)
  refine mv rfl ?_
  refine bLss rfl rfl ?_
  refine rN ?_
  refine qN ?_
  have h0 : decide (((m : Nat) : Int) < 0) = false := by rw [decide_eq_false_iff_not]; omega
  refine cFa rfl (h0) ?_
  refine cK ?_
  refine qN ?_
  refine cS ?_
  refine cS (cR ?_)
  refine mv rfl ?_
  refine mv rfl ?_
  refine cpS rfl ?_
  refine mv rfl ?_
  refine ln rfl ?_
  first | refine rBn rfl rfl (by omega) (by omega) ?_ | refine rB rfl rfl (by omega) (by omega) ?_ | refine bSub rfl rfl ?_
  first | refine rBn rfl rfl (by omega) (by omega) ?_ | refine rB rfl rfl (by omega) (by omega) ?_ | refine bSub rfl rfl ?_
  refine asg rfl ?_
  refine rN ?_
  refine qN ?_
  refine cS (cR ?_)
  refine mv rfl ?_
  refine bGtr rfl rfl ?_
  refine rN ?_
  refine qN ?_
  refine cC rfl (fun c1 => ?_) (fun c1 => ?_)
  · have c1' := c1; try simp only [inB_iff, Bool.and_eq_true, decide_eq_true_eq, decide_eq_false_iff_not, beq_iff_eq, beq_eq_false_iff_ne, bne_iff_ne, bne_eq_false_iff_eq, ne_eq] at c1'
    refine cR ?_
    refine mv rfl ?_
    refine mv rfl ?_
    refine cpS rfl ?_
    refine slH (h := 0) rfl rfl (Nat.le_refl 0) ?_
    refine mv rfl ?_
    refine apZ (m := m) (by decide) (by intro _ h; cases h <;> rfl) rfl rfl (by omega) (by omega) (by omega) ?_
    intro b9 cap9 rest9 hc9 hl9
    refine mv rfl ?_
    refine ln rfl ?_
    refine slH (h := 0) rfl rfl (Nat.zero_le _) ?_
    refine asg rfl ?_
    refine rN ?_
    refine qN ?_
    refine cS (cR ?_)
    refine mv rfl ?_
    refine asg rfl ?_
    refine rN ?_
    refine qN ?_
    refine cE ?_
    have ho : OwV [(b9, ⟨[] ++ rest9, true⟩)] (.slice (some ⟨b9, 0, none⟩) 0 cap9) [] := .inr ⟨b9, cap9, rest9, rfl, by rw [hl9]; simp, rfl⟩
    have hcut : cut1 (some ⟨b9, 0, none⟩) cap9 0 1 = some ⟨b9, 0, none⟩ := by
      unfold cut1; split <;> rfl
    rw [hcut]
    refine kE rfl rfl  ?_
    first | (exfalso; contradiction) | exact ⟨_, ⟨_, ho, rfl⟩, (by (try simp only [List.cons_append, List.nil_append, List.append_assoc]); repeat' first | with_reducible apply eR | with_reducible apply eA | ((with_reducible apply xA); · repeat first | with_reducible apply lH | with_reducible apply lT | with_reducible apply lL) | ((with_reducible apply xC); · repeat first | apply pH | with_reducible apply pT | with_reducible apply pL) | with_reducible assumption | with_reducible apply eS | with_reducible apply eL | exact eR)⟩ | (exfalso; first | contradiction | omega | (simp_all; done) | (simp_all; omega))
  · have c1' := c1; try simp only [inB_iff, Bool.and_eq_true, decide_eq_true_eq, decide_eq_false_iff_not, beq_iff_eq, beq_eq_false_iff_ne, bne_iff_ne, bne_eq_false_iff_eq, ne_eq] at c1'
    refine cK ?_
    refine qN ?_
    refine cS (cR ?_)
    refine mv rfl ?_
    refine asg rfl ?_
    refine rN ?_
    refine qN ?_
    refine cE ?_
    refine kE rfl rfl  ?_
    first | (exfalso; contradiction) | exact ⟨_, ⟨_, OwV.nil, rfl⟩, (by (try simp only [List.cons_append, List.nil_append, List.append_assoc]); repeat' first | with_reducible apply eR | with_reducible apply eA | ((with_reducible apply xA); · repeat first | with_reducible apply lH | with_reducible apply lT | with_reducible apply lL) | ((with_reducible apply xC); · repeat first | apply pH | with_reducible apply pT | with_reducible apply pL) | with_reducible assumption | with_reducible apply eS | with_reducible apply eL | exact eR)⟩ | (exfalso; first | contradiction | omega | (simp_all; done) | (simp_all; omega))
theorem vflat_succ {xss : List (List Value)} {k : Nat} (hk : k < xss.length) : (xss.take (k + 1)).flatten = (xss.take k).flatten ++ xss.getD k [] := by
  rw [List.take_succ_eq_append_getElem hk, List.flatten_append]
  simp [hk]
theorem vflat_le {xss : List (List Value)} (k : Nat) : (xss.take k).flatten.length ≤ xss.flatten.length := by
  conv => rhs; rw [← List.take_append_drop k xss, List.flatten_append, List.length_append]
  omega
theorem c_concatV (a : Option Addr) (n c : Nat) (xss : List (List Value)) (M : Mem) (h : RdE M a n xss) (hfl : ∀ i, i < xss.length → ∀ v ∈ xss.getD i [], flatV v = true) (hn : n ≤ 1000000) (hb : xss.flatten.length ≤ 1073741824) :
    ACall Try.prog 55 [.slice a n c] M fun v M' => ∃ L, OwV L v xss.flatten ∧ M' = L ++ M := by
  obtain ⟨rfl, _⟩ := id h
  skip
  skip
  skip
  skip
  skip
  skip
  refine acall_of_awp Try.func55 rfl Try.ntmps55 rfl ?_
  refine cS (cR ?_)
  refine asg rfl ?_
  refine rN ?_
  refine qN ?_
  refine cS (cR ?_)
  refine asg rfl ?_
  refine rN ?_
  refine qN ?_
  refine cS ?_
  refine cS (cR ?_)
  refine mv rfl ?_
  refine ln rfl ?_
  refine mv rfl ?_
  refine rN ?_
  refine qN ?_
  refine cB ?_
  refine cL2 (fun (k : Nat) (s : Int) => [(11, .int .i64 (k : Nat)), (3, .int .i64 s)]) [(0, _), (9, _), (10, _)] (fun (k : Nat) (s : Int) => M) (fun (k : Nat) (s : Int) => xss.length - k) (fun (k : Nat) (s : Int) => k ≤ xss.length ∧ s = (((xss.take k).flatten.length : Nat) : Int)) (0) (0) (by repeat first | exact Sub.nil _ | refine Sub.cons rfl ?_) (by (try simp only [List.cons_append, List.nil_append, List.append_assoc]); repeat' first | with_reducible apply eR | with_reducible apply eA | ((with_reducible apply xA); · repeat first | with_reducible apply lH | with_reducible apply lT | with_reducible apply lL) | ((with_reducible apply xC); · repeat first | apply pH | with_reducible apply pT | with_reducible apply pL) | with_reducible assumption | with_reducible apply eS | with_reducible apply eL | exact eR) (by exact ⟨Nat.zero_le _, rfl⟩) ?_
  rintro k s ⟨hk, rfl⟩
  refine wT (T' := [(11, _), (3, _), (0, _), (9, _), (10, _)]) rfl ?_
  refine cS (cR ?_)
  refine bLss rfl rfl ?_
  refine rN ?_
  refine qN ?_
  refine cS ?_
  have hle := vflat_le (xss := xss) k
  refine cC rfl (fun c1 => ?_) (fun c1 => ?_)
  · have c1' := c1; try simp only [inB_iff, Bool.and_eq_true, decide_eq_true_eq, decide_eq_false_iff_not, beq_iff_eq, beq_eq_false_iff_ne, bne_iff_ne, bne_eq_false_iff_eq, ne_eq] at c1'
    have hk2 : k < xss.length := by omega
    have hfs := congrArg List.length (vflat_succ hk2)
    rw [List.length_append] at hfs
    have hle2 := vflat_le (xss := xss) (k + 1)
    refine cK ?_
    refine qN ?_
    refine cS ?_
    refine cB ?_
    refine cS (cR ?_)
    refine ixN rfl rfl h.aok (by omega) ?_
    refine ldE rfl h (by omega) ?_
    intro a8 c8 hr8
    refine asg rfl ?_
    refine rN ?_
    refine qN ?_
    refine cS (cR ?_)
    refine mv rfl ?_
    refine mv rfl ?_
    refine ln rfl ?_
    first | refine rAn rfl rfl (by omega) ?_ | refine rA rfl rfl (by omega) (by omega) ?_ | refine bAdd rfl rfl ?_
    refine asg rfl ?_
    refine rN ?_
    refine qN ?_
    refine cS (cR ?_)
    refine mv rfl ?_
    refine bLss rfl rfl ?_
    refine rN ?_
    refine qN ?_
    refine cFa rfl (decide_eq_false (by omega)) ?_
    refine cK ?_
    refine qBN ?_
    refine qN ?_
    refine cR ?_
    first | refine rAn (b := 1) rfl rfl (by omega) ?_ | refine rA rfl rfl (by omega) (by omega) ?_ | refine bAdd rfl rfl ?_
    refine mv rfl ?_
    refine rN ?_
    refine qL2 (k + 1) (_) ?_ (by omega) (by repeat first | exact Sub.nil _ | refine Sub.cons rfl ?_) (by (try simp only [List.cons_append, List.nil_append, List.append_assoc]); repeat' first | with_reducible apply eR | with_reducible apply eA | ((with_reducible apply xA); · repeat first | with_reducible apply lH | with_reducible apply lT | with_reducible apply lL) | ((with_reducible apply xC); · repeat first | apply pH | with_reducible apply pT | with_reducible apply pL) | with_reducible assumption | with_reducible apply eS | with_reducible apply eL | exact eR)
    exact ⟨by omega, by rw [hfs]⟩
  · have c1' := c1; try simp only [inB_iff, Bool.and_eq_true, decide_eq_true_eq, decide_eq_false_iff_not, beq_iff_eq, beq_eq_false_iff_ne, bne_iff_ne, bne_eq_false_iff_eq, ne_eq] at c1'
    have hke : k = xss.length := by omega
    subst hke
    rw [List.take_length] at *
    refine cX ?_
    refine qX ?_
    refine qL2X ?_
    refine qBX ?_
    refine qN ?_
    refine cS (cR ?_)
    refine mv rfl ?_
    refine rC rfl (c_growV _ _ (by omega)) ?_
    rintro _ _ ⟨lk9, how9, rfl⟩
    refine ⟨fun _ => (by (try simp only [List.cons_append, List.nil_append, List.append_assoc]); repeat' first | with_reducible apply eR | with_reducible apply eA | ((with_reducible apply xA); · repeat first | with_reducible apply lH | with_reducible apply lT | with_reducible apply lL) | ((with_reducible apply xC); · repeat first | apply pH | with_reducible apply pT | with_reducible apply pL) | with_reducible assumption | with_reducible apply eS | with_reducible apply eL | exact eR), ?_⟩
    obtain ⟨ad9, cn9, rfl, hrd9⟩ := how9.rd
    have hcn9 := how9.capl
    refine asg rfl ?_
    refine rN ?_
    refine qN ?_
    refine cS ?_
    refine cS (cR ?_)
    refine mv rfl ?_
    refine ln rfl ?_
    refine mv rfl ?_
    refine rN ?_
    refine qN ?_
    refine cB ?_
    refine cL3 (fun (k : Nat) (sl : Value) (L : Mem) => [(27, .int .i64 (k : Nat)), (6, sl)]) [(25, _), (26, _)] (fun (k : Nat) (sl : Value) (L : Mem) => L ++ M) (fun (k : Nat) (sl : Value) (L : Mem) => xss.length - k) (fun (k : Nat) (sl : Value) (L : Mem) => k ≤ xss.length ∧ OwV L sl (xss.take k).flatten) (0) (_) (lk9) (by repeat first | exact Sub.nil _ | refine Sub.cons rfl ?_) (by (try simp only [List.cons_append, List.nil_append, List.append_assoc]); repeat' first | with_reducible apply eR | with_reducible apply eA | ((with_reducible apply xA); · repeat first | with_reducible apply lH | with_reducible apply lT | with_reducible apply lL) | ((with_reducible apply xC); · repeat first | apply pH | with_reducible apply pT | with_reducible apply pL) | with_reducible assumption | with_reducible apply eS | with_reducible apply eL | exact eR) (by exact ⟨Nat.zero_le _, how9⟩) ?_
    rintro k sl L ⟨hk, hz⟩
    refine wT (T' := [(27, _), (6, _), (25, _), (26, _)]) rfl ?_
    refine cS (cR ?_)
    refine bLss rfl rfl ?_
    refine rN ?_
    refine qN ?_
    refine cS ?_
    obtain ⟨ad8, cn8, rfl, hrd8⟩ := hz.rd
    have hle3 := vflat_le (xss := xss) k
    refine cC rfl (fun c2 => ?_) (fun c2 => ?_)
    · have c2' := c2; try simp only [inB_iff, Bool.and_eq_true, decide_eq_true_eq, decide_eq_false_iff_not, beq_iff_eq, beq_eq_false_iff_ne, bne_iff_ne, bne_eq_false_iff_eq, ne_eq] at c2'
      have hk2 : k < xss.length := by omega
      have hfs := vflat_succ hk2
      have hfl2 := congrArg List.length hfs
      rw [List.length_append] at hfl2
      have hle2 := vflat_le (xss := xss) (k + 1)
      refine cK ?_
      refine qN ?_
      refine cS ?_
      refine cB ?_
      refine cS (cR ?_)
      refine ixN rfl rfl h.aok (by omega) ?_
      refine ldE rfl (h.mono (by (try simp only [List.cons_append, List.nil_append, List.append_assoc]); repeat' first | with_reducible apply eR | with_reducible apply eA | ((with_reducible apply xA); · repeat first | with_reducible apply lH | with_reducible apply lT | with_reducible apply lL) | ((with_reducible apply xC); · repeat first | apply pH | with_reducible apply pT | with_reducible apply pL) | with_reducible assumption | with_reducible apply eS | with_reducible apply eL | exact eR)) (by omega) ?_
      intro a8 c8 hr8
      refine asg rfl ?_
      refine rN ?_
      refine qN ?_
      refine cR ?_
      refine mv rfl ?_
      refine mv rfl ?_
      refine apW (by intro _ h; cases h <;> rfl) rfl rfl hz (by exact pmH) hr8 (hfl k hk2) (by first | omega | (simp only [tab_len, List.length_append, List.length_map, List.length_range, List.length_replicate, List.length_cons, List.length_nil]; omega) | (simp; omega)) (by first | omega | (simp only [tab_len, List.length_append, List.length_map, List.length_range, List.length_replicate, List.length_cons, List.length_nil]; omega) | (simp; omega)) ?_
      intro sv7 lk7 how7
      refine asg rfl ?_
      refine rN ?_
      refine qBN ?_
      refine qN ?_
      refine cR ?_
      first | refine rAn (b := 1) rfl rfl (by omega) ?_ | refine rA rfl rfl (by omega) (by omega) ?_ | refine bAdd rfl rfl ?_
      refine mv rfl ?_
      refine rN ?_
      refine qL3 (k + 1) (_) (_) ?_ (by omega) (by repeat first | exact Sub.nil _ | refine Sub.cons rfl ?_) (by (try simp only [List.cons_append, List.nil_append, List.append_assoc]); repeat' first | with_reducible apply eR | with_reducible apply eA | ((with_reducible apply xA); · repeat first | with_reducible apply lH | with_reducible apply lT | with_reducible apply lL) | ((with_reducible apply xC); · repeat first | apply pH | with_reducible apply pT | with_reducible apply pL) | with_reducible assumption | with_reducible apply eS | with_reducible apply eL | exact eR)
      exact ⟨by omega, by rw [hfs]; assumption⟩
    · have c2' := c2; try simp only [inB_iff, Bool.and_eq_true, decide_eq_true_eq, decide_eq_false_iff_not, beq_iff_eq, beq_eq_false_iff_ne, bne_iff_ne, bne_eq_false_iff_eq, ne_eq] at c2'
      have hke : k = xss.length := by omega
      subst hke
      rw [List.take_length] at *
      refine cX ?_
      refine qX ?_
      refine qL3X ?_
      refine qBX ?_
      refine qN ?_
      refine cS (cR ?_)
      refine mv rfl ?_
      refine asg rfl ?_
      refine rN ?_
      refine qN ?_
      refine cE ?_
      refine kE rfl rfl  ?_
      first | (exfalso; contradiction) | exact ⟨_, ⟨_, hz, rfl⟩, (by (try simp only [List.cons_append, List.nil_append, List.append_assoc]); repeat' first | with_reducible apply eR | with_reducible apply eA | ((with_reducible apply xA); · repeat first | with_reducible apply lH | with_reducible apply lT | with_reducible apply lL) | ((with_reducible apply xC); · repeat first | apply pH | with_reducible apply pT | with_reducible apply pL) | with_reducible assumption | with_reducible apply eS | with_reducible apply eL | exact eR)⟩ | (exfalso; first | contradiction | omega | (simp_all; done) | (simp_all; omega))
theorem getD_appL {α : Type} {l k : List α} {i : Nat} {z : α} (h : i < l.length) : (l ++ k).getD i z = l.getD i z := by
  simp [List.getD, List.getElem?_append_left h]
theorem getD_appR {α : Type} {l k : List α} {i : Nat} {z : α} (h : l.length ≤ i) : (l ++ k).getD i z = k.getD (i - l.length) z := by
  simp [List.getD, List.getElem?_append_right h]
theorem OwL.app : ∀ {vs ws : List Value} {xss yss : List (List Nat)} {A B : Mem}, OwL A vs xss → OwL B ws yss → OwL (A ++ B) (vs ++ ws) (xss ++ yss)
  | [], ws, [], yss, A, B, h, k => by obtain rfl : A = [] := h; exact k
  | v :: vs, ws, xs :: xss, yss, A, B, ⟨L1, L2, h1, h2, h3⟩, k => ⟨L1, L2 ++ B, h1, h2.app k, (h3.append_right B).trans (by rw [List.append_assoc])⟩
theorem RdL.app {M : Mem} {vs ws : List Value} {xss yss : List (List Nat)} (h : RdL M vs xss) (k : RdL M ws yss) : RdL M (vs ++ ws) (xss ++ yss) := by
  refine ⟨by rw [List.length_append, List.length_append, h.1, k.1], fun i hi => ?_⟩
  have hl := h.1
  by_cases e : i < xss.length
  · rw [getD_appL (by omega), getD_appL e]; exact h.2 i e
  · rw [List.length_append] at hi
    rw [getD_appR (by omega), getD_appR (by omega), hl]; exact k.2 _ (by omega)
theorem RdL.flat {M : Mem} {vs : List Value} {xss : List (List Nat)} (h : RdL M vs xss) : ∀ v ∈ vs, flatV v = true := by
  intro v hv
  obtain ⟨i, hi, rfl⟩ := List.getElem_of_mem hv
  obtain ⟨a, c, e, _⟩ := h.2 i (by have := h.1; omega)
  have : vs[i] = .slice a (xss.getD i []).length c := by rw [← e]; simp [List.getD, hi]
  rw [this]; rfl
theorem RdL.ofSlices {M : Mem} {vs : List Value} {xss : List (List Nat)} {a : Option Addr} {n : Nat} (h : RdL M vs xss) (hw : RdW M a n vs) : RdD M a n xss := ⟨by rw [← h.1]; exact hw.1, vs, hw, h⟩
theorem rdD2m {b c c' n1 n2 : Nat} {wr : Bool} {a a' : Option Addr} {xs ys : List Nat} {M : Mem} (hm : (b, (⟨[.slice a n1 c, .slice a' n2 c'], wr⟩ : Blk)) ∈ M) (h : RdF M a n1 xs) (h' : RdF M a' n2 ys) : RdD M (some ⟨b, 0, none⟩) 2 [xs, ys] := by
  obtain ⟨rfl, _⟩ := id h
  obtain ⟨rfl, _⟩ := id h'
  refine ⟨rfl, [.slice a xs.length c, .slice a' ys.length c'], ⟨rfl, .inr ⟨b, 0, _, rfl, hm, fun i hi => by
    rw [Nat.zero_add]
    match i, hi with
    | 0, _ => rfl
    | 1, _ => rfl⟩⟩, rfl, fun i hi => ?_⟩
  match i, hi with
  | 0, _ => exact ⟨a, c, rfl, h⟩
  | 1, _ => exact ⟨a', c', rfl, h'⟩
theorem rdE2m {b c c' n1 n2 : Nat} {wr : Bool} {a a' : Option Addr} {vs ws : List Value} {M : Mem} (hm : (b, (⟨[.slice a n1 c, .slice a' n2 c'], wr⟩ : Blk)) ∈ M) (h : RdW M a n1 vs) (h' : RdW M a' n2 ws) : RdE M (some ⟨b, 0, none⟩) 2 [vs, ws] := by
  obtain ⟨rfl, _⟩ := id h
  obtain ⟨rfl, _⟩ := id h'
  refine ⟨rfl, [.slice a vs.length c, .slice a' ws.length c'], ⟨rfl, .inr ⟨b, 0, _, rfl, hm, fun i hi => by
    rw [Nat.zero_add]
    match i, hi with
    | 0, _ => rfl
    | 1, _ => rfl⟩⟩, fun i hi => ?_⟩
  match i, hi with
  | 0, _ => exact ⟨a, c, rfl, h⟩
  | 1, _ => exact ⟨a', c', rfl, h'⟩
theorem flat2 {M : Mem} {vs ws : List Value} {xss yss : List (List Nat)} (h : RdL M vs xss) (k : RdL M ws yss) : ∀ i, i < [vs, ws].length → ∀ v ∈ [vs, ws].getD i [], flatV v = true := by
  intro i hi
  match i, hi with
  | 0, _ => exact h.flat
  | 1, _ => exact k.flat
theorem tabL_id (xss : List (List Nat)) : tabL xss.length (fun i => xss.getD i []) = xss := by
  apply List.ext_getElem
  · simp [tabL]
  · intro i h1 h2
    simp [tabL, List.getD, h2]
/-- may the gathers be merged? -/
def mgC (t t' : Int) (ps ps' : List Nat) (xss yss : List (List Nat)) : Bool := vgB t ps xss && (vgB t' ps' yss && t == t')
def mgB (t t' : Int) (ps ps' : List Nat) (xss yss : List (List Nat)) : Bool := mgC t t' ps ps' xss yss && vgB t (ps ++ ps') (xss ++ yss)
theorem mgB_n {t t' : Int} {ps ps' : List Nat} {xss yss : List (List Nat)} (h : mgC t t' ps ps' xss yss = false) : mgB t t' ps ps' xss yss = false := by unfold mgB; rw [h]; rfl
theorem vgB_ok {t : Int} {ps : List Nat} {xss : List (List Nat)} (h : vgB t ps xss = true) : ps.length ≤ 16 ∧ xss.length ≤ 16 ∧ totL xss ≤ 1024 := by
  obtain ⟨u1, u2, u3, u4, u5, u6⟩ := vgB_iff h
  omega
set_option maxHeartbeats 1000000 in
theorem c_specMergeGathers (t t' : Int) (ap at' bp bt : Option Addr) (np nt cp ct mp mt dp dt : Nat) (ps ps' : List Nat) (xss yss : List (List Nat)) (M : Mem) (h : RdF M ap np ps) (h' : RdD M at' nt xss) (k : RdF M bp mp ps') (k' : RdD M bt mt yss) (hn : np ≤ 1073741824 ∧ nt ≤ 1073741824) (km : mp ≤ 1073741824 ∧ mt ≤ 1073741824) :
    ACall Try.prog 24 [.agg #[.int .i64 t, .slice ap np cp, .slice at' nt ct], .agg #[.int .i64 t', .slice bp mp dp, .slice bt mt dt]] M fun v M' => ∃ L, ResG (mgB t t' ps ps' xss yss) t (ps ++ ps') (xss ++ yss) v L ∧ M' = L ++ M := by
  obtain ⟨rfl, _⟩ := id h
  obtain ⟨rfl, _⟩ := id h'
  obtain ⟨rfl, _⟩ := id k
  obtain ⟨rfl, _⟩ := id k'
  obtain ⟨hn1, hn2⟩ := hn
  obtain ⟨hm1, hm2⟩ := km
  have hlp : (ps ++ ps').length = ps.length + ps'.length := List.length_append
  skip
  skip
  skip
  skip
  skip
  skip
  refine acall_of_awp Try.func24 rfl Try.ntmps24 rfl ?_
  refine cS (cR ?_)
  first | (refine rXa rfl ?_; intro bk1) | (refine rX rfl rfl ?_; intro bk1)
  first | (refine rXa rfl ?_; intro bk2) | (refine rX rfl rfl ?_; intro bk2)
  refine rO ?_; intro bk3
  refine asg rfl ?_
  refine rN ?_
  refine qN ?_
  refine cS ?_
  refine cS (cR ?_)
  refine rCq rfl (c_l04Is _ _ _ _ _ _ _ _ _ _ _ _ (by repeat first | with_reducible assumption | with_reducible apply List.mem_cons_self | with_reducible apply List.mem_cons_of_mem | with_reducible apply List.mem_append_right | exact List.Mem.head _) (by first | with_reducible assumption | ((try first | with_reducible apply RdF.sub | with_reducible apply RdF.sub0) <;> first | with_reducible assumption | (apply RdF.mono; (· (with_reducible assumption)); · (try simp only [List.cons_append, List.nil_append, List.append_assoc]); repeat' first | with_reducible apply eR | with_reducible apply eA | ((with_reducible apply xA); · repeat first | with_reducible apply lH | with_reducible apply lT | with_reducible apply lL) | ((with_reducible apply xC); · repeat first | apply pH | with_reducible apply pT | with_reducible apply pL) | with_reducible assumption | with_reducible apply eS | with_reducible apply eL | exact eR) | (apply RdF.mono; (· (apply OwF.rdF; with_reducible assumption)); · (try simp only [List.cons_append, List.nil_append, List.append_assoc]); repeat' first | with_reducible apply eR | with_reducible apply eA | ((with_reducible apply xA); · repeat first | with_reducible apply lH | with_reducible apply lT | with_reducible apply lL) | ((with_reducible apply xC); · repeat first | apply pH | with_reducible apply pT | with_reducible apply pL) | with_reducible assumption | with_reducible apply eS | with_reducible apply eL | exact eR) | (apply RdF.ownm; (· repeat first | with_reducible assumption | with_reducible apply List.mem_cons_self | with_reducible apply List.mem_cons_of_mem | with_reducible apply List.mem_append_right | exact List.Mem.head _); · first | rfl | with_reducible assumption | omega | simp [*]) | with_reducible assumption | omega | (simp; done) | (simp; omega) | (simp only [Bool.and_eq_true, inB_iff] at *; omega))) (by (first | with_reducible assumption | (apply RdD.mono; (· with_reducible assumption); · (try simp only [List.cons_append, List.nil_append, List.append_assoc]); repeat' first | with_reducible apply eR | with_reducible apply eA | ((with_reducible apply xA); · repeat first | with_reducible apply lH | with_reducible apply lT | with_reducible apply lL) | ((with_reducible apply xC); · repeat first | apply pH | with_reducible apply pT | with_reducible apply pL) | with_reducible assumption | with_reducible apply eS | with_reducible apply eL | exact eR) | (apply RdD.mono; (· (apply OwD.rdD; with_reducible assumption)); · (try simp only [List.cons_append, List.nil_append, List.append_assoc]); repeat' first | with_reducible apply eR | with_reducible apply eA | ((with_reducible apply xA); · repeat first | with_reducible apply lH | with_reducible apply lT | with_reducible apply lL) | ((with_reducible apply xC); · repeat first | apply pH | with_reducible apply pT | with_reducible apply pL) | with_reducible assumption | with_reducible apply eS | with_reducible apply eL | exact eR))) (by first | with_reducible assumption | omega | (simp only [Bool.and_eq_true, inB_iff] at *; omega))) ?_
  refine uNot rfl ?_
  refine mv rfl ?_
  refine gC rfl rfl (fun c1 => ?_) (fun c1 => ?_)
  · replace c1 := not_t c1
    have c1' := c1; try simp only [inB_iff, Bool.and_eq_true, decide_eq_true_eq, decide_eq_false_iff_not, beq_iff_eq, beq_eq_false_iff_ne, bne_iff_ne, bne_eq_false_iff_eq, ne_eq] at c1'
    refine gU rfl rfl (bnot_f c1) ?_
    refine gU rfl rfl (bnot_f c1) ?_
    refine kT rfl (bnot_f c1) rfl ?_
    refine mv rfl ?_
    refine gU rfl rfl rfl ?_
    refine gU rfl rfl rfl ?_
    refine gU rfl rfl rfl ?_
    refine gU rfl rfl rfl ?_
    refine gU rfl rfl rfl ?_
    refine kT rfl rfl rfl ?_
    refine rN ?_
    refine qN ?_
    refine cT rfl ?_
    refine cS (cR ?_)
    refine bd0 ?_
    refine tA rfl rfl rfl (by repeat first | apply pH | with_reducible apply pT | with_reducible apply pL) (by rfl) (by rfl) ?_
    refine asg rfl ?_
    refine rN ?_
    refine qN ?_
    refine cE ?_
    refine qE ?_
    refine kC2 rfl (resOne_cell rfl (by repeat first | with_reducible assumption | with_reducible apply List.mem_cons_self | with_reducible apply List.mem_cons_of_mem | with_reducible apply List.mem_append_right | exact List.Mem.head _) rfl) (resOne_tmp rfl) rfl rfl ?_
    first | (exfalso; contradiction) | exact ⟨_, ⟨_, ResG.no (by first | (exact mgB_n (by rw [mgC, c1]; rfl)) | (exact mgB_n (by rw [mgC, c1, c2]; rfl)) | (exact mgB_n (by rw [mgC, c1, c2, beq_false_of_ne c3']; rfl)) | (rw [mgB, c4]; exact Bool.and_false _)), rfl⟩, (by (try simp only [List.cons_append, List.nil_append, List.append_assoc]); repeat' first | with_reducible apply eR | with_reducible apply eA | ((with_reducible apply xA); · repeat first | with_reducible apply lH | with_reducible apply lT | with_reducible apply lL) | ((with_reducible apply xC); · repeat first | apply pH | with_reducible apply pT | with_reducible apply pL) | with_reducible assumption | with_reducible apply eS | with_reducible apply eL | exact eR)⟩ | (exfalso; first | contradiction | omega | (simp_all; done) | (simp_all; omega))
  replace c1 := not_f c1
  have c1' := c1; try simp only [inB_iff, Bool.and_eq_true, decide_eq_true_eq, decide_eq_false_iff_not, beq_iff_eq, beq_eq_false_iff_ne, bne_iff_ne, bne_eq_false_iff_eq, ne_eq] at c1'
  refine gG rfl rfl (bnot_t c1) ?_
  refine rCq rfl (c_l04Is _ _ _ _ _ _ _ _ _ _ _ _ (by repeat first | with_reducible assumption | with_reducible apply List.mem_cons_self | with_reducible apply List.mem_cons_of_mem | with_reducible apply List.mem_append_right | exact List.Mem.head _) (by first | with_reducible assumption | ((try first | with_reducible apply RdF.sub | with_reducible apply RdF.sub0) <;> first | with_reducible assumption | (apply RdF.mono; (· (with_reducible assumption)); · (try simp only [List.cons_append, List.nil_append, List.append_assoc]); repeat' first | with_reducible apply eR | with_reducible apply eA | ((with_reducible apply xA); · repeat first | with_reducible apply lH | with_reducible apply lT | with_reducible apply lL) | ((with_reducible apply xC); · repeat first | apply pH | with_reducible apply pT | with_reducible apply pL) | with_reducible assumption | with_reducible apply eS | with_reducible apply eL | exact eR) | (apply RdF.mono; (· (apply OwF.rdF; with_reducible assumption)); · (try simp only [List.cons_append, List.nil_append, List.append_assoc]); repeat' first | with_reducible apply eR | with_reducible apply eA | ((with_reducible apply xA); · repeat first | with_reducible apply lH | with_reducible apply lT | with_reducible apply lL) | ((with_reducible apply xC); · repeat first | apply pH | with_reducible apply pT | with_reducible apply pL) | with_reducible assumption | with_reducible apply eS | with_reducible apply eL | exact eR) | (apply RdF.ownm; (· repeat first | with_reducible assumption | with_reducible apply List.mem_cons_self | with_reducible apply List.mem_cons_of_mem | with_reducible apply List.mem_append_right | exact List.Mem.head _); · first | rfl | with_reducible assumption | omega | simp [*]) | with_reducible assumption | omega | (simp; done) | (simp; omega) | (simp only [Bool.and_eq_true, inB_iff] at *; omega))) (by (first | with_reducible assumption | (apply RdD.mono; (· with_reducible assumption); · (try simp only [List.cons_append, List.nil_append, List.append_assoc]); repeat' first | with_reducible apply eR | with_reducible apply eA | ((with_reducible apply xA); · repeat first | with_reducible apply lH | with_reducible apply lT | with_reducible apply lL) | ((with_reducible apply xC); · repeat first | apply pH | with_reducible apply pT | with_reducible apply pL) | with_reducible assumption | with_reducible apply eS | with_reducible apply eL | exact eR) | (apply RdD.mono; (· (apply OwD.rdD; with_reducible assumption)); · (try simp only [List.cons_append, List.nil_append, List.append_assoc]); repeat' first | with_reducible apply eR | with_reducible apply eA | ((with_reducible apply xA); · repeat first | with_reducible apply lH | with_reducible apply lT | with_reducible apply lL) | ((with_reducible apply xC); · repeat first | apply pH | with_reducible apply pT | with_reducible apply pL) | with_reducible assumption | with_reducible apply eS | with_reducible apply eL | exact eR))) (by first | with_reducible assumption | omega | (simp only [Bool.and_eq_true, inB_iff] at *; omega))) ?_
  refine gG rfl rfl (bnot_t c1) ?_
  refine uNot rfl ?_
  refine kF rfl (bnot_t c1) rfl ?_
  refine mv rfl ?_
  refine gC rfl rfl (fun c2 => ?_) (fun c2 => ?_)
  · replace c2 := not_t c2
    have c2' := c2; try simp only [inB_iff, Bool.and_eq_true, decide_eq_true_eq, decide_eq_false_iff_not, beq_iff_eq, beq_eq_false_iff_ne, bne_iff_ne, bne_eq_false_iff_eq, ne_eq] at c2'
    refine gU rfl rfl (bnot_f c2) ?_
    refine gU rfl rfl (bnot_f c2) ?_
    refine gU rfl rfl (bnot_f c2) ?_
    refine gU rfl rfl (bnot_f c2) ?_
    refine gU rfl rfl (bnot_f c2) ?_
    refine kT rfl (bnot_f c2) rfl ?_
    refine rN ?_
    refine qN ?_
    refine cT rfl ?_
    refine cS (cR ?_)
    refine bd0 ?_
    refine tA rfl rfl rfl (by repeat first | apply pH | with_reducible apply pT | with_reducible apply pL) (by rfl) (by rfl) ?_
    refine asg rfl ?_
    refine rN ?_
    refine qN ?_
    refine cE ?_
    refine qE ?_
    refine kC2 rfl (resOne_cell rfl (by repeat first | with_reducible assumption | with_reducible apply List.mem_cons_self | with_reducible apply List.mem_cons_of_mem | with_reducible apply List.mem_append_right | exact List.Mem.head _) rfl) (resOne_tmp rfl) rfl rfl ?_
    first | (exfalso; contradiction) | exact ⟨_, ⟨_, ResG.no (by first | (exact mgB_n (by rw [mgC, c1]; rfl)) | (exact mgB_n (by rw [mgC, c1, c2]; rfl)) | (exact mgB_n (by rw [mgC, c1, c2, beq_false_of_ne c3']; rfl)) | (rw [mgB, c4]; exact Bool.and_false _)), rfl⟩, (by (try simp only [List.cons_append, List.nil_append, List.append_assoc]); repeat' first | with_reducible apply eR | with_reducible apply eA | ((with_reducible apply xA); · repeat first | with_reducible apply lH | with_reducible apply lT | with_reducible apply lL) | ((with_reducible apply xC); · repeat first | apply pH | with_reducible apply pT | with_reducible apply pL) | with_reducible assumption | with_reducible apply eS | with_reducible apply eL | exact eR)⟩ | (exfalso; first | contradiction | omega | (simp_all; done) | (simp_all; omega))
  replace c2 := not_f c2
  have c2' := c2; try simp only [inB_iff, Bool.and_eq_true, decide_eq_true_eq, decide_eq_false_iff_not, beq_iff_eq, beq_eq_false_iff_ne, bne_iff_ne, bne_eq_false_iff_eq, ne_eq] at c2'
  refine gG rfl rfl (bnot_t c2) ?_
  refine fA rfl ?_
  refine gG rfl rfl (bnot_t c2) ?_
  first | refine rL rfl (by repeat first | with_reducible assumption | with_reducible apply List.mem_cons_self | with_reducible apply List.mem_cons_of_mem | with_reducible apply List.mem_append_right | exact List.Mem.head _) rfl rfl ?_ | refine rL rfl (by repeat first | with_reducible assumption | with_reducible apply List.mem_cons_self | with_reducible apply List.mem_cons_of_mem | with_reducible apply List.mem_append_right | exact List.Mem.head _) (by with_reducible assumption) rfl ?_
  refine gG rfl rfl (bnot_t c2) ?_
  refine fA rfl ?_
  refine gG rfl rfl (bnot_t c2) ?_
  first | refine rL rfl (by repeat first | with_reducible assumption | with_reducible apply List.mem_cons_self | with_reducible apply List.mem_cons_of_mem | with_reducible apply List.mem_append_right | exact List.Mem.head _) rfl rfl ?_ | refine rL rfl (by repeat first | with_reducible assumption | with_reducible apply List.mem_cons_self | with_reducible apply List.mem_cons_of_mem | with_reducible apply List.mem_append_right | exact List.Mem.head _) (by with_reducible assumption) rfl ?_
  refine gG rfl rfl (bnot_t c2) ?_
  refine bNeq rfl rfl ?_
  refine kF rfl (bnot_t c2) rfl ?_
  refine rN ?_
  refine qN ?_
  refine cC rfl (fun c3 => ?_) (fun c3 => ?_)
  · have c3' := c3; try simp only [inB_iff, Bool.and_eq_true, decide_eq_true_eq, decide_eq_false_iff_not, beq_iff_eq, beq_eq_false_iff_ne, bne_iff_ne, bne_eq_false_iff_eq, ne_eq] at c3'
    refine cS (cR ?_)
    refine bd0 ?_
    refine tA rfl rfl rfl (by repeat first | apply pH | with_reducible apply pT | with_reducible apply pL) (by rfl) (by rfl) ?_
    refine asg rfl ?_
    refine rN ?_
    refine qN ?_
    refine cE ?_
    refine qE ?_
    refine kC2 rfl (resOne_cell rfl (by repeat first | with_reducible assumption | with_reducible apply List.mem_cons_self | with_reducible apply List.mem_cons_of_mem | with_reducible apply List.mem_append_right | exact List.Mem.head _) rfl) (resOne_tmp rfl) rfl rfl ?_
    first | (exfalso; contradiction) | exact ⟨_, ⟨_, ResG.no (by first | (exact mgB_n (by rw [mgC, c1]; rfl)) | (exact mgB_n (by rw [mgC, c1, c2]; rfl)) | (exact mgB_n (by rw [mgC, c1, c2, beq_false_of_ne c3']; rfl)) | (rw [mgB, c4]; exact Bool.and_false _)), rfl⟩, (by (try simp only [List.cons_append, List.nil_append, List.append_assoc]); repeat' first | with_reducible apply eR | with_reducible apply eA | ((with_reducible apply xA); · repeat first | with_reducible apply lH | with_reducible apply lT | with_reducible apply lL) | ((with_reducible apply xC); · repeat first | apply pH | with_reducible apply pT | with_reducible apply pL) | with_reducible assumption | with_reducible apply eS | with_reducible apply eL | exact eR)⟩ | (exfalso; first | contradiction | omega | (simp_all; done) | (simp_all; omega))
  have c3' := c3; try simp only [inB_iff, Bool.and_eq_true, decide_eq_true_eq, decide_eq_false_iff_not, beq_iff_eq, beq_eq_false_iff_ne, bne_iff_ne, bne_eq_false_iff_eq, ne_eq] at c3'
  refine cK ?_
  refine qN ?_
  refine cS (cR ?_)
  obtain ⟨u1, u2, u3⟩ := vgB_ok (t := t) (ps := ps) (xss := xss) (by assumption)
  refine rC rfl (c_l04Own _ _ _ _ _ _ _ _ _ ps xss _ (by repeat first | with_reducible assumption | with_reducible apply List.mem_cons_self | with_reducible apply List.mem_cons_of_mem | with_reducible apply List.mem_append_right | exact List.Mem.head _) (by first | with_reducible assumption | ((try first | with_reducible apply RdF.sub | with_reducible apply RdF.sub0) <;> first | with_reducible assumption | (apply RdF.mono; (· (with_reducible assumption)); · (try simp only [List.cons_append, List.nil_append, List.append_assoc]); repeat' first | with_reducible apply eR | with_reducible apply eA | ((with_reducible apply xA); · repeat first | with_reducible apply lH | with_reducible apply lT | with_reducible apply lL) | ((with_reducible apply xC); · repeat first | apply pH | with_reducible apply pT | with_reducible apply pL) | with_reducible assumption | with_reducible apply eS | with_reducible apply eL | exact eR) | (apply RdF.mono; (· (apply OwF.rdF; with_reducible assumption)); · (try simp only [List.cons_append, List.nil_append, List.append_assoc]); repeat' first | with_reducible apply eR | with_reducible apply eA | ((with_reducible apply xA); · repeat first | with_reducible apply lH | with_reducible apply lT | with_reducible apply lL) | ((with_reducible apply xC); · repeat first | apply pH | with_reducible apply pT | with_reducible apply pL) | with_reducible assumption | with_reducible apply eS | with_reducible apply eL | exact eR) | (apply RdF.ownm; (· repeat first | with_reducible assumption | with_reducible apply List.mem_cons_self | with_reducible apply List.mem_cons_of_mem | with_reducible apply List.mem_append_right | exact List.Mem.head _); · first | rfl | with_reducible assumption | omega | simp [*]) | with_reducible assumption | omega | (simp; done) | (simp; omega) | (simp only [Bool.and_eq_true, inB_iff] at *; omega))) (by (first | with_reducible assumption | (apply RdD.mono; (· with_reducible assumption); · (try simp only [List.cons_append, List.nil_append, List.append_assoc]); repeat' first | with_reducible apply eR | with_reducible apply eA | ((with_reducible apply xA); · repeat first | with_reducible apply lH | with_reducible apply lT | with_reducible apply lL) | ((with_reducible apply xC); · repeat first | apply pH | with_reducible apply pT | with_reducible apply pL) | with_reducible assumption | with_reducible apply eS | with_reducible apply eL | exact eR) | (apply RdD.mono; (· (apply OwD.rdD; with_reducible assumption)); · (try simp only [List.cons_append, List.nil_append, List.append_assoc]); repeat' first | with_reducible apply eR | with_reducible apply eA | ((with_reducible apply xA); · repeat first | with_reducible apply lH | with_reducible apply lT | with_reducible apply lL) | ((with_reducible apply xC); · repeat first | apply pH | with_reducible apply pT | with_reducible apply pL) | with_reducible assumption | with_reducible apply eS | with_reducible apply eL | exact eR))) (by omega)) ?_
  rintro _ _ ⟨lk1, ⟨sv1, tv1, rfl, how1⟩, rfl⟩
  obtain ⟨Lp1, Lt1, hp1, ⟨Lo1, Li1, vs1, hv1, hl1, rfl⟩, rfl⟩ := how1
  obtain ⟨ad1, cn1, rfl, hrd1⟩ := hp1.rd
  obtain ⟨at1, ct1, rfl, hrt1⟩ := hv1.rd
  refine ⟨fun _ => eL eR, ?_⟩
  rw [List.append_assoc, List.append_assoc]
  refine rO ?_; intro bk4
  refine tA rfl rfl rfl (by repeat first | apply pH | with_reducible apply pT | with_reducible apply pL) (by rfl) (by rfl) ?_
  refine rN ?_
  refine qN ?_
  refine cS (cR ?_)
  obtain ⟨w1, w2, w3⟩ := vgB_ok (t := t') (ps := ps') (xss := yss) (by assumption)
  refine rC rfl (c_l04Own _ _ _ _ _ _ _ _ _ ps' yss _ (by repeat first | with_reducible assumption | with_reducible apply List.mem_cons_self | with_reducible apply List.mem_cons_of_mem | with_reducible apply List.mem_append_right | exact List.Mem.head _) (by first | with_reducible assumption | ((try first | with_reducible apply RdF.sub | with_reducible apply RdF.sub0) <;> first | with_reducible assumption | (apply RdF.mono; (· (with_reducible assumption)); · (try simp only [List.cons_append, List.nil_append, List.append_assoc]); repeat' first | with_reducible apply eR | with_reducible apply eA | ((with_reducible apply xA); · repeat first | with_reducible apply lH | with_reducible apply lT | with_reducible apply lL) | ((with_reducible apply xC); · repeat first | apply pH | with_reducible apply pT | with_reducible apply pL) | with_reducible assumption | with_reducible apply eS | with_reducible apply eL | exact eR) | (apply RdF.mono; (· (apply OwF.rdF; with_reducible assumption)); · (try simp only [List.cons_append, List.nil_append, List.append_assoc]); repeat' first | with_reducible apply eR | with_reducible apply eA | ((with_reducible apply xA); · repeat first | with_reducible apply lH | with_reducible apply lT | with_reducible apply lL) | ((with_reducible apply xC); · repeat first | apply pH | with_reducible apply pT | with_reducible apply pL) | with_reducible assumption | with_reducible apply eS | with_reducible apply eL | exact eR) | (apply RdF.ownm; (· repeat first | with_reducible assumption | with_reducible apply List.mem_cons_self | with_reducible apply List.mem_cons_of_mem | with_reducible apply List.mem_append_right | exact List.Mem.head _); · first | rfl | with_reducible assumption | omega | simp [*]) | with_reducible assumption | omega | (simp; done) | (simp; omega) | (simp only [Bool.and_eq_true, inB_iff] at *; omega))) (by (first | with_reducible assumption | (apply RdD.mono; (· with_reducible assumption); · (try simp only [List.cons_append, List.nil_append, List.append_assoc]); repeat' first | with_reducible apply eR | with_reducible apply eA | ((with_reducible apply xA); · repeat first | with_reducible apply lH | with_reducible apply lT | with_reducible apply lL) | ((with_reducible apply xC); · repeat first | apply pH | with_reducible apply pT | with_reducible apply pL) | with_reducible assumption | with_reducible apply eS | with_reducible apply eL | exact eR) | (apply RdD.mono; (· (apply OwD.rdD; with_reducible assumption)); · (try simp only [List.cons_append, List.nil_append, List.append_assoc]); repeat' first | with_reducible apply eR | with_reducible apply eA | ((with_reducible apply xA); · repeat first | with_reducible apply lH | with_reducible apply lT | with_reducible apply lL) | ((with_reducible apply xC); · repeat first | apply pH | with_reducible apply pT | with_reducible apply pL) | with_reducible assumption | with_reducible apply eS | with_reducible apply eL | exact eR))) (by omega)) ?_
  rintro _ _ ⟨lk2, ⟨sv2, tv2, rfl, how2⟩, rfl⟩
  obtain ⟨Lp2, Lt2, hp2, ⟨Lo2, Li2, vs2, hv2, hl2, rfl⟩, rfl⟩ := how2
  obtain ⟨ad2, cn2, rfl, hrd2⟩ := hp2.rd
  obtain ⟨at2, ct2, rfl, hrt2⟩ := hv2.rd
  refine ⟨fun _ => eL eR, ?_⟩
  rw [List.append_assoc, List.append_assoc]
  have hvl1 := hl1.len
  have hvl2 := hl2.len
  have hlv : (vs1 ++ vs2).length = vs1.length + vs2.length := List.length_append
  refine rO ?_; intro bk5
  refine tA rfl rfl rfl (by repeat first | apply pH | with_reducible apply pT | with_reducible apply pL) (by rfl) (by rfl) ?_
  refine rN ?_
  refine qN ?_
  refine cS (cR ?_)
  refine fA rfl ?_
  first | refine rL rfl (by repeat first | with_reducible assumption | with_reducible apply List.mem_cons_self | with_reducible apply List.mem_cons_of_mem | with_reducible apply List.mem_append_right | exact List.Mem.head _) rfl rfl ?_ | refine rL rfl (by repeat first | with_reducible assumption | with_reducible apply List.mem_cons_self | with_reducible apply List.mem_cons_of_mem | with_reducible apply List.mem_append_right | exact List.Mem.head _) (by with_reducible assumption) rfl ?_
  refine fA rfl ?_
  first | refine rL rfl (by repeat first | with_reducible assumption | with_reducible apply List.mem_cons_self | with_reducible apply List.mem_cons_of_mem | with_reducible apply List.mem_append_right | exact List.Mem.head _) rfl rfl ?_ | refine rL rfl (by repeat first | with_reducible assumption | with_reducible apply List.mem_cons_self | with_reducible apply List.mem_cons_of_mem | with_reducible apply List.mem_append_right | exact List.Mem.head _) (by with_reducible assumption) rfl ?_
  refine apSp (by intro _ h; cases h <;> rfl) rfl rfl hp1 (by repeat first | with_reducible apply pmH | apply pmS | with_reducible apply pmT | with_reducible apply pmL) (by first | with_reducible assumption | ((try first | with_reducible apply RdF.sub | with_reducible apply RdF.sub0) <;> first | with_reducible assumption | (apply RdF.mono; (· (with_reducible assumption)); · (try simp only [List.cons_append, List.nil_append, List.append_assoc]); repeat' first | with_reducible apply eR | with_reducible apply eA | ((with_reducible apply xA); · repeat first | with_reducible apply lH | with_reducible apply lT | with_reducible apply lL) | ((with_reducible apply xC); · repeat first | apply pH | with_reducible apply pT | with_reducible apply pL) | with_reducible assumption | with_reducible apply eS | with_reducible apply eL | exact eR) | (apply RdF.mono; (· (apply OwF.rdF; with_reducible assumption)); · (try simp only [List.cons_append, List.nil_append, List.append_assoc]); repeat' first | with_reducible apply eR | with_reducible apply eA | ((with_reducible apply xA); · repeat first | with_reducible apply lH | with_reducible apply lT | with_reducible apply lL) | ((with_reducible apply xC); · repeat first | apply pH | with_reducible apply pT | with_reducible apply pL) | with_reducible assumption | with_reducible apply eS | with_reducible apply eL | exact eR) | (apply RdF.ownm; (· repeat first | with_reducible assumption | with_reducible apply List.mem_cons_self | with_reducible apply List.mem_cons_of_mem | with_reducible apply List.mem_append_right | exact List.Mem.head _); · first | rfl | with_reducible assumption | omega | simp [*]) | with_reducible assumption | omega | (simp; done) | (simp; omega) | (simp only [Bool.and_eq_true, inB_iff] at *; omega))) (by first | omega | (simp only [tab_len, List.length_append, List.length_map, List.length_range, List.length_replicate, List.length_cons, List.length_nil]; omega) | (simp; omega)) (by first | omega | (simp only [tab_len, List.length_append, List.length_map, List.length_range, List.length_replicate, List.length_cons, List.length_nil]; omega) | (simp; omega)) ?_
  intro sv3 lk3 how3
  obtain ⟨ad3, cn3, rfl, hrd3⟩ := how3.rd
  have hcn3 := how3.capl
  refine fA rfl ?_
  first | refine tS rfl rfl rfl (by repeat first | apply pH | with_reducible apply pT | with_reducible apply pL) (by rfl) (by rfl) ?_ | refine tS rfl rfl rfl (by repeat first | apply pH | with_reducible apply pT | with_reducible apply pL) (by apply Nat.ble_eq_true_of_le; (try simp only [List.length_set, Option.getD_some]); omega) (by rfl) ?_
  refine rN ?_
  refine qN ?_
  refine cS (cR ?_)
  refine fA rfl ?_
  first | refine rL rfl (by repeat first | with_reducible assumption | with_reducible apply List.mem_cons_self | with_reducible apply List.mem_cons_of_mem | with_reducible apply List.mem_append_right | exact List.Mem.head _) rfl rfl ?_ | refine rL rfl (by repeat first | with_reducible assumption | with_reducible apply List.mem_cons_self | with_reducible apply List.mem_cons_of_mem | with_reducible apply List.mem_append_right | exact List.Mem.head _) (by with_reducible assumption) rfl ?_
  refine fA rfl ?_
  first | refine rL rfl (by repeat first | with_reducible assumption | with_reducible apply List.mem_cons_self | with_reducible apply List.mem_cons_of_mem | with_reducible apply List.mem_append_right | exact List.Mem.head _) rfl rfl ?_ | refine rL rfl (by repeat first | with_reducible assumption | with_reducible apply List.mem_cons_self | with_reducible apply List.mem_cons_of_mem | with_reducible apply List.mem_append_right | exact List.Mem.head _) (by with_reducible assumption) rfl ?_
  refine apW (by intro _ h; cases h <;> rfl) rfl rfl hv1 (by repeat first | with_reducible apply pmH | apply pmS | with_reducible apply pmT | with_reducible apply pmL) (hrt2.mono (by (try simp only [List.cons_append, List.nil_append, List.append_assoc]); repeat' first | with_reducible apply eR | with_reducible apply eA | ((with_reducible apply xA); · repeat first | with_reducible apply lH | with_reducible apply lT | with_reducible apply lL) | ((with_reducible apply xC); · repeat first | apply pH | with_reducible apply pT | with_reducible apply pL) | with_reducible assumption | with_reducible apply eS | with_reducible apply eL | exact eR)) hl2.rdL.flat (by omega) (by omega) ?_
  intro sv4 lk4 how4
  obtain ⟨ad4, cn4, rfl, hrd4⟩ := how4.rd
  have hcn4 := how4.capl
  have hD4 := OwD.mk how4 (hl1.app hl2)
  refine fA rfl ?_
  first | refine tS rfl rfl rfl (by repeat first | apply pH | with_reducible apply pT | with_reducible apply pL) (by rfl) (by rfl) ?_ | refine tS rfl rfl rfl (by repeat first | apply pH | with_reducible apply pT | with_reducible apply pL) (by apply Nat.ble_eq_true_of_le; (try simp only [List.length_set, Option.getD_some]); omega) (by rfl) ?_
  refine rN ?_
  refine qN ?_
  refine cS ?_
  refine cS (cR ?_)
  refine rCq rfl (c_l04Is _ _ _ _ _ _ _ _ _ (ps ++ ps') (xss ++ yss) _ (List.Mem.head _) (hrd3.mono (by (try simp only [List.cons_append, List.nil_append, List.append_assoc]); repeat' first | with_reducible apply eR | with_reducible apply eA | ((with_reducible apply xA); · repeat first | with_reducible apply lH | with_reducible apply lT | with_reducible apply lL) | ((with_reducible apply xC); · repeat first | apply pH | with_reducible apply pT | with_reducible apply pL) | with_reducible assumption | with_reducible apply eS | with_reducible apply eL | exact eR)) (hD4.rdD.mono (by (try simp only [List.cons_append, List.nil_append, List.append_assoc]); repeat' first | with_reducible apply eR | with_reducible apply eA | ((with_reducible apply xA); · repeat first | with_reducible apply lH | with_reducible apply lT | with_reducible apply lL) | ((with_reducible apply xC); · repeat first | apply pH | with_reducible apply pT | with_reducible apply pL) | with_reducible assumption | with_reducible apply eS | with_reducible apply eL | exact eR)) (by omega)) ?_
  refine uNot rfl ?_
  refine rN ?_
  refine qN ?_
  refine cC rfl (fun c4 => ?_) (fun c4 => ?_)
  · replace c4 := not_t c4
    have c4' := c4; try simp only [inB_iff, Bool.and_eq_true, decide_eq_true_eq, decide_eq_false_iff_not, beq_iff_eq, beq_eq_false_iff_ne, bne_iff_ne, bne_eq_false_iff_eq, ne_eq] at c4'
    refine cS (cR ?_)
    refine bd0 ?_
    refine tA rfl rfl rfl (by repeat first | apply pH | with_reducible apply pT | with_reducible apply pL) (by rfl) (by rfl) ?_
    refine asg rfl ?_
    refine rN ?_
    refine qN ?_
    refine cE ?_
    refine qE ?_
    refine kC2 rfl (resOne_cell rfl (by repeat first | with_reducible assumption | with_reducible apply List.mem_cons_self | with_reducible apply List.mem_cons_of_mem | with_reducible apply List.mem_append_right | exact List.Mem.head _) rfl) (resOne_tmp rfl) rfl rfl ?_
    first | (exfalso; contradiction) | exact ⟨_, ⟨_, ResG.no (by first | (exact mgB_n (by rw [mgC, c1]; rfl)) | (exact mgB_n (by rw [mgC, c1, c2]; rfl)) | (exact mgB_n (by rw [mgC, c1, c2, beq_false_of_ne c3']; rfl)) | (rw [mgB, c4]; exact Bool.and_false _)), rfl⟩, (by (try simp only [List.cons_append, List.nil_append, List.append_assoc]); repeat' first | with_reducible apply eR | with_reducible apply eA | ((with_reducible apply xA); · repeat first | with_reducible apply lH | with_reducible apply lT | with_reducible apply lL) | ((with_reducible apply xC); · repeat first | apply pH | with_reducible apply pT | with_reducible apply pL) | with_reducible assumption | with_reducible apply eS | with_reducible apply eL | exact eR)⟩ | (exfalso; first | contradiction | omega | (simp_all; done) | (simp_all; omega))
  replace c4 := not_f c4
  have c4' := c4; try simp only [inB_iff, Bool.and_eq_true, decide_eq_true_eq, decide_eq_false_iff_not, beq_iff_eq, beq_eq_false_iff_ne, bne_iff_ne, bne_eq_false_iff_eq, ne_eq] at c4'
  refine cK ?_
  refine qN ?_
  refine cS (cR ?_)
  refine rLA rfl (by repeat first | with_reducible assumption | with_reducible apply List.mem_cons_self | with_reducible apply List.mem_cons_of_mem | with_reducible apply List.mem_append_right | exact List.Mem.head _) rfl rfl ?_
  refine tA rfl rfl rfl (by repeat first | apply pH | with_reducible apply pT | with_reducible apply pL) (by rfl) (by rfl) ?_
  refine asg rfl ?_
  refine rN ?_
  refine qN ?_
  refine cE ?_
  have hC : mgC t t' ps ps' xss yss = true := by rw [mgC, c1, c2, c3']; simp
  refine kC2 rfl (resOne_cell rfl (by repeat first | with_reducible assumption | with_reducible apply List.mem_cons_self | with_reducible apply List.mem_cons_of_mem | with_reducible apply List.mem_append_right | exact List.Mem.head _) rfl) (resOne_tmp rfl) rfl rfl ?_
  first | (exfalso; contradiction) | exact ⟨_, ⟨_, ResG.yes (by rw [mgB, hC, c4]; rfl) (OwGP.mk how3 hD4), rfl⟩, (by (try simp only [List.cons_append, List.nil_append, List.append_assoc]); repeat' first | with_reducible apply eR | with_reducible apply eA | ((with_reducible apply xA); · repeat first | with_reducible apply lH | with_reducible apply lT | with_reducible apply lL) | ((with_reducible apply xC); · repeat first | apply pH | with_reducible apply pT | with_reducible apply pL) | with_reducible assumption | with_reducible apply eS | with_reducible apply eL | exact eR)⟩ | (exfalso; first | contradiction | omega | (simp_all; done) | (simp_all; omega))
end Go.Proofs.Ytfjancbmecfjgaa.Ab
