/-
  Walks: lists of frames; the law FnExactAreFrames.
-/
import Derived.Test.YtnikglngipbahaaRw
namespace Go.Proofs.Ytnikglngipbahaa.Ab
open Go Go.RowKit
attribute [local irreducible] Run Then InBlock LoopQ LQ1 LQ2 LQ3 LQ4 LQ5 LQ6 AWp Ret ACall
set_option linter.unusedVariables false
set_option linter.unusedSimpArgs false

theorem MA_uni {W : World} {b : Nat} {k k' : Blk} (h : (b, k) ∈ MA W) (h' : (b, k') ∈ MA W) : k = k' := by
  obtain ⟨⟨c, E, fr, hc1, hc2, _⟩, hw⟩ := of_mem_MA h
  obtain ⟨⟨c', E', fr', hc1', hc2', _⟩, hw'⟩ := of_mem_MA h'
  simp only at hc1 hc1' hc2 hc2' hw hw'
  rw [hc1] at hc1'
  cases hc1'
  cases k; cases k'
  simp_all
/-- a list of frames, as it is read -/
theorem inv_R {H : Type} {enc : TypeId × Value → H} {P : Program} {W : World} {base : Nat} {spare : Nat → Bool} {held : Bool} {t e n ti tf tx : Nat} {f0 f1 f2 : Field} {v : Value} {x : DataW H × List MemPlace} (ht : P.underlying t = some (.slice e)) (he : P.underlying e = some (.struct #[f0, f1, f2]))
    (hone : Deep.oneCellFields P #[f0, f1, f2] = true) (hC : P.cellsOf e = 3) (hft : f0.type = ti ∧ f1.type = ti ∧ f2.type = tf) (hi : P.underlying ti = some (.int .i64)) (hf : P.underlying tf = some (.slice tx)) (hX : P.underlying tx = some (.float .f32)) (hX1 : P.cellsOf tx = 1) (hx : DataW.trod enc P W base spare held n t [v] = some x) :
    ∃ (fs : List Frm) (a : Option Addr) (c : Nat), v = .slice a fs.length c ∧ RdR (MA W) a fs.length fs ∧ fs.length ≤ maxLen ∧ ∀ i, i < fs.length → (fs.getD i zR).xs.length ≤ maxLen := by
  rcases Deep.open_slice ht hx with ⟨h0, _⟩ | ⟨a, len, cap, m, n', D, Pl, hcs, hb, hl, hm, hmm, _, hcell⟩
  · cases h0
    exact ⟨[], none, 0, rfl, ⟨rfl, .inl rfl⟩, Nat.zero_le _, fun i hi => by simp at hi⟩
  · cases hcs
    have hlm : len ≤ m := by rw [hmm]; split <;> omega
    rcases Nat.eq_zero_or_pos len with h0 | hpos
    · subst h0
      exact ⟨[], some a, cap, rfl, ⟨rfl, .inl rfl⟩, Nat.zero_le _, fun i hi => by simp at hi⟩
    have hsp : a.spot = none := by
      obtain ⟨cs', h1, _⟩ := hcell 0 (by omega)
      rw [hC] at h1
      obtain ⟨_, hlen, hat⟩ := World.cells?_some h1
      match cs', hlen with
      | [c0, c1, c2], _ =>
        have m0 := cell_MA (hat 0 (by decide))
        have e : (a.add (0 * 3)).add 0 = a := by simp [Addr.add]
        rw [e] at m0
        exact m0.1
    obtain ⟨ab, ao, asp⟩ := a
    simp only at hsp
    subst hsp
    have key : ∀ i, i < len → ∃ f : Frm, RAt (MA W) ab (ao + i * 3) f ∧ f.xs.length ≤ maxLen := by
      intro i hii
      obtain ⟨cs', h1, h2⟩ := hcell i (by omega)
      rw [hC] at h1
      obtain ⟨y0, y1, y2, n2, _, hl4, g0, g1, g2⟩ := Deep.trod_struct3 he h2
      obtain ⟨_, hlen, hat⟩ := World.cells?_some h1
      match cs', hlen with
      | [c0, c1, c2], _ =>
        obtain ⟨o0, k0⟩ := Deep.hone_of hone 0 f0 rfl
        obtain ⟨o1, k1⟩ := Deep.hone_of hone 1 f1 rfl
        obtain ⟨o2, k2⟩ := Deep.hone_of hone 2 f2 rfl
        have q0 : DataW.trod enc P W base spare held n2 f0.type [c0] = some y0 := by simpa [o0, k0] using g0
        obtain ⟨i0, rfl, _⟩ := inv_int (by rw [hft.1]; exact hi) q0
        have q1 : DataW.trod enc P W base spare held n2 f1.type [c1] = some y1 := by simpa [o1, k1] using g1
        obtain ⟨i1, rfl, _⟩ := inv_int (by rw [hft.2.1]; exact hi) q1
        have q2 : DataW.trod enc P W base spare held n2 f2.type [c2] = some y2 := by simpa [o2, k2] using g2
        obtain ⟨xs, a2, cc2, rfl, hr2, hl2⟩ := inv_F (by rw [hft.2.2]; exact hf) hX hX1 q2
        have m0 := cell_MA (hat 0 (by decide))
        have m1 := cell_MA (hat 1 (by decide))
        have m2 := cell_MA (hat 2 (by decide))
        rw [Addr.add_lit, Addr.add_lit] at m0 m1 m2
        simp only at m0 m1 m2
        obtain ⟨_, kk, hm0, e0⟩ := m0
        obtain ⟨_, kk1, hm1, e1⟩ := m1
        obtain ⟨_, kk2, hm2, e2⟩ := m2
        obtain rfl := MA_uni hm0 hm1
        obtain rfl := MA_uni hm0 hm2
        exact ⟨⟨i0, i1, xs⟩, ⟨kk, a2, cc2, hm0, e0, e1, e2, hr2⟩, hl2⟩
    classical
    have hg : ∀ i (hi' : i < len), ((List.range len).map (fun i => if h : i < len then Classical.choose (key i h) else zR)).getD i zR = Classical.choose (key i hi') := by
      intro i hi'
      rw [List.getD_eq_getElem?_getD, List.getElem?_map, List.getElem?_range hi']
      simp only [Option.map_some, Option.getD_some, dif_pos hi']
    refine ⟨(List.range len).map (fun i => if h : i < len then Classical.choose (key i h) else zR), some ⟨ab, ao, none⟩, cap, by simp, ⟨rfl, .inr ⟨ab, ao, rfl, fun i hi => ?_⟩⟩, by simp; omega, fun i hi => ?_⟩
    · have hi' : i < len := by simpa using hi
      rw [hg i hi']
      exact (Classical.choose_spec (key i hi')).1
    · have hi' : i < len := by simpa using hi
      rw [hg i hi']
      exact (Classical.choose_spec (key i hi')).2

/-! ## sizes -/
def szL : Int → List Frm → Int
  | l, [] => l
  | l, f :: fs => if szI l f.xs.length < 0 then -1 else szL (szI l f.xs.length) fs
def szR (l : Int) (fs : List Frm) : Int := if szI l fs.length < 0 then -1 else szL (szI l fs.length) fs
theorem szI_le {l : Int} {n : Nat} : szI l n ≤ l ∨ szI l n = -1 := by unfold szI; split <;> omega
theorem szL_ge : ∀ (fs : List Frm) (l : Int), 0 ≤ szL l fs → (totL (fs.map Frm.xs) : Int) ≤ l := by
  intro fs
  induction fs with
  | nil => intro l h; exact h
  | cons f fs ih =>
    intro l h
    unfold szL at h
    split at h
    · omega
    · rename_i hn
      have hl : (f.xs.length : Int) ≤ l ∧ szI l f.xs.length = l - f.xs.length := by
        unfold szI at hn ⊢
        split at hn
        · omega
        · rename_i hh; rw [if_neg hh]; omega
      have := ih _ h
      show ((f.xs.length + totL (fs.map Frm.xs) : Nat) : Int) ≤ l
      omega
theorem totL_mem {fs : List Frm} {i : Nat} (hi : i < fs.length) : (fs.getD i zR).xs.length ≤ totL (fs.map Frm.xs) := by
  have := totL_get (xss := fs.map Frm.xs) (i := i) (by rw [List.length_map]; exact hi)
  rw [map_getD hi] at this; omega
theorem szR_ge {l : Int} {fs : List Frm} (h : decide (szR l fs < 0) = false) : ((fs.length : Int) + (totL (fs.map Frm.xs) : Nat) ≤ l ∧ (totR fs : Int) ≤ 2 * l) ∧ ∀ i, i < fs.length → ((fs.getD i zR).xs.length : Int) ≤ l := by
  rw [decide_eq_false_iff_not] at h
  unfold szR at h
  split at h
  · omega
  · rename_i hn
    have hl : (fs.length : Int) ≤ l ∧ szI l fs.length = l - fs.length := by
      unfold szI at hn ⊢
      split at hn
      · omega
      · rename_i hh; rw [if_neg hh]; omega
    have ht := szL_ge fs (szI l fs.length) (by omega)
    refine ⟨⟨by omega, by unfold totR; omega⟩, fun i hi => ?_⟩
    have := totL_mem hi
    omega
-- @reg laws.szFrameS : c_szFrameS _ _ _ _ _ _ @RDR@ @BD@ @BD@ (by first | assumption | omega) (by assumption)
theorem c_szFrameS (a : Option Addr) (n c : Nat) (fs : List Frm) (left : Int) (M : Mem) (h : RdR M a n fs) (h0 : 0 ≤ left) (h1 : left ≤ 1048576) (hn : n ≤ 9223372036854775807) (hxs : ∀ i, i < n → (fs.getD i zR).xs.length ≤ 9223372036854775807) :
    ACall Try.prog 15 [.slice a n c, .int .i64 left] M fun r M' => r = .int .i64 (szR left fs) ∧ M' = M := by
  obtain ⟨rfl, _⟩ := id h
  have hsz : (left : Int) - fs.length < 0 ∧ szI left fs.length = -1 ∨ ¬ (left : Int) - fs.length < 0 ∧ szI left fs.length = left - fs.length := by
    unfold szI; split <;> omega
  refine acall_of_awp Try.func15 rfl Try.ntmps15 rfl ?_
  refine cS (cR ?_)
  refine asg rfl ?_
  refine rN ?_
  refine qN ?_
  refine cS (cR ?_)
  refine mv rfl ?_
  refine mv rfl ?_
  refine ln rfl ?_
  first | refine rBn rfl rfl (by omega) (by omega) ?_ | refine rB rfl rfl (by omega) (by omega) ?_ | refine bSub rfl rfl ?_
  refine asg rfl ?_
  refine rN ?_
  refine qN ?_
  refine cS ?_
  refine cS (cR ?_)
  refine mv rfl ?_
  refine bLss rfl rfl ?_
  refine rN ?_
  refine qN ?_
  refine cC rfl (fun c1 => ?_) (fun c1 => ?_)
  · have c1' := c1; try simp only [inB_iff, Bool.and_eq_true, decide_eq_true_eq, decide_eq_false_iff_not, beq_iff_eq, beq_eq_false_iff_ne, bne_iff_ne, bne_eq_false_iff_eq, ne_eq] at c1'
    refine cS (cR ?_)
    refine asg rfl ?_
    refine rN ?_
    refine qN ?_
    refine cE ?_
    refine qE ?_
    refine kE rfl rfl  ?_
    first | (exfalso; contradiction) | exact ⟨_, ⟨by (have e : szI left fs.length = -1 := by omega); rw [szR, e]; rfl, rfl⟩, (by (try simp only [List.cons_append, List.nil_append, List.append_assoc]); repeat' first | with_reducible apply eR | with_reducible apply eA | ((with_reducible apply xA); · repeat first | with_reducible apply lH | with_reducible apply lT | with_reducible apply lL) | ((with_reducible apply xC); · repeat first | apply pH | with_reducible apply pT | with_reducible apply pL) | with_reducible assumption | with_reducible apply eS | with_reducible apply eL | exact eR)⟩ | (exfalso; first | contradiction | omega | (simp_all; done) | (simp_all; omega))
  · have c1' := c1; try simp only [inB_iff, Bool.and_eq_true, decide_eq_true_eq, decide_eq_false_iff_not, beq_iff_eq, beq_eq_false_iff_ne, bne_iff_ne, bne_eq_false_iff_eq, ne_eq] at c1'
    have hsi : szI left fs.length = left - fs.length := by omega
    have hsr : szR left fs = szL (left - fs.length) fs := by rw [szR, hsi, if_neg (by omega)]
    refine cK ?_
    refine qN ?_
    refine cS ?_
    refine cS (cR ?_)
    refine asg rfl ?_
    refine rN ?_
    refine qN ?_
    refine cB ?_
    rw [hsr]
    refine cL2 (fun (i : Nat) (l : Int) => [(5, .int .i64 (i : Nat)), (1, .int .i64 l)]) [(0, _)] (fun (i : Nat) (l : Int) => M) (fun (i : Nat) (l : Int) => fs.length - i) (fun (i : Nat) (l : Int) => i ≤ fs.length ∧ (0 ≤ l ∧ l ≤ 1048576) ∧ szL (left - fs.length) fs = szL l (fs.drop i)) (0) (left - fs.length) (by repeat first | exact Sub.nil _ | refine Sub.cons rfl ?_) (by (try simp only [List.cons_append, List.nil_append, List.append_assoc]); repeat' first | with_reducible apply eR | with_reducible apply eA | ((with_reducible apply xA); · repeat first | with_reducible apply lH | with_reducible apply lT | with_reducible apply lL) | ((with_reducible apply xC); · repeat first | apply pH | with_reducible apply pT | with_reducible apply pL) | with_reducible assumption | with_reducible apply eS | with_reducible apply eL | exact eR) (by exact ⟨Nat.zero_le _, by omega, rfl⟩) ?_
    rintro i l ⟨hi, ⟨hl0, hl1⟩, hs⟩
    refine wT (T' := [(5, _), (1, _), (0, _)]) rfl ?_
    refine cS ?_
    refine cS (cR ?_)
    refine mv rfl ?_
    refine mv rfl ?_
    refine ln rfl ?_
    refine bLss rfl rfl ?_
    refine rN ?_
    refine qN ?_
    refine cC rfl (fun c2 => ?_) (fun c2 => ?_)
    · have c2' := c2; try simp only [inB_iff, Bool.and_eq_true, decide_eq_true_eq, decide_eq_false_iff_not, beq_iff_eq, beq_eq_false_iff_ne, bne_iff_ne, bne_eq_false_iff_eq, ne_eq] at c2'
      have hi2 : i < fs.length := by omega
      have hxi := hxs i hi2
      have hdr : fs.drop i = fs.getD i zR :: fs.drop (i + 1) := by rw [List.drop_eq_getElem_cons hi2]; simp [hi2]
      have hst : szL l (fs.drop i) = if szI l (fs.getD i zR).xs.length < 0 then -1 else szL (szI l (fs.getD i zR).xs.length) (fs.drop (i + 1)) := by rw [hdr]; rfl
      refine cK ?_
      refine qN ?_
      refine cS ?_
      refine cB ?_
      refine cS (cR ?_)
      refine mv rfl ?_
      refine mv rfl ?_
      first
        | refine ixP rfl rfl (by first | (apply RdP.aok; with_reducible assumption) | exact AOk.own) (by first | with_reducible assumption | omega) ?_
        | refine ixR rfl rfl (by first | (apply RdR.aok; with_reducible assumption) | exact AOk.own) (by first | with_reducible assumption | omega) ?_
      first | refine ldP rfl (by (first | with_reducible assumption | (apply RdP.mono; (· with_reducible assumption); · (try simp only [List.cons_append, List.nil_append, List.append_assoc]); repeat' first | with_reducible apply eR | with_reducible apply eA | ((with_reducible apply xA); · repeat first | with_reducible apply lH | with_reducible apply lT | with_reducible apply lL) | ((with_reducible apply xC); · repeat first | apply pH | with_reducible apply pT | with_reducible apply pL) | with_reducible assumption | with_reducible apply eS | with_reducible apply eL | exact eR) | (apply RdP.mono; (· (apply OwP.rdP; with_reducible assumption)); · (try simp only [List.cons_append, List.nil_append, List.append_assoc]); repeat' first | with_reducible apply eR | with_reducible apply eA | ((with_reducible apply xA); · repeat first | with_reducible apply lH | with_reducible apply lT | with_reducible apply lL) | ((with_reducible apply xC); · repeat first | apply pH | with_reducible apply pT | with_reducible apply pL) | with_reducible assumption | with_reducible apply eS | with_reducible apply eL | exact eR))) (by first | with_reducible assumption | omega) ?_ | (refine ldR rfl (by (first | with_reducible assumption | (apply RdR.mono; (· with_reducible assumption); · (try simp only [List.cons_append, List.nil_append, List.append_assoc]); repeat' first | with_reducible apply eR | with_reducible apply eA | ((with_reducible apply xA); · repeat first | with_reducible apply lH | with_reducible apply lT | with_reducible apply lL) | ((with_reducible apply xC); · repeat first | apply pH | with_reducible apply pT | with_reducible apply pL) | with_reducible assumption | with_reducible apply eS | with_reducible apply eL | exact eR) | (apply RdR.mono; (· (apply OwR.rdR; with_reducible assumption)); · (try simp only [List.cons_append, List.nil_append, List.append_assoc]); repeat' first | with_reducible apply eR | with_reducible apply eA | ((with_reducible apply xA); · repeat first | with_reducible apply lH | with_reducible apply lT | with_reducible apply lL) | ((with_reducible apply xC); · repeat first | apply pH | with_reducible apply pT | with_reducible apply pL) | with_reducible assumption | with_reducible apply eS | with_reducible apply eL | exact eR))) (by first | with_reducible assumption | omega) ?_; intro aRr cRr hRr)
      refine mv rfl ?_
      refine rCq rfl (c_szFrame _ _ _ _ _ _ _ (by first | with_reducible assumption | omega | (simp only [Bool.and_eq_true, inB_iff] at *; omega)) (by first | with_reducible assumption | omega | (simp only [Bool.and_eq_true, inB_iff] at *; omega)) (by first | with_reducible assumption | omega | (simp only [Bool.and_eq_true, inB_iff] at *; omega))) ?_
      refine asg rfl ?_
      refine rN ?_
      refine qN ?_
      refine cS (cR ?_)
      refine mv rfl ?_
      refine bLss rfl rfl ?_
      refine rN ?_
      refine qN ?_
      refine cC rfl (fun hr => ?_) (fun hr => ?_)
      · have hr' := hr; try simp only [inB_iff, Bool.and_eq_true, decide_eq_true_eq, decide_eq_false_iff_not, beq_iff_eq, beq_eq_false_iff_ne, bne_iff_ne, bne_eq_false_iff_eq, ne_eq] at hr'
        rw [decide_eq_true_eq] at hr
        refine cS (cR ?_)
        refine asg rfl ?_
        refine rN ?_
        refine qN ?_
        refine cE ?_
        refine qBE ?_
        refine qE ?_
        refine qL2E ?_
        refine qBE ?_
        refine qE ?_
        refine kE rfl rfl  ?_
        first | (exfalso; contradiction) | exact ⟨_, ⟨by rw [hs, hst, if_pos hr], rfl⟩, (by (try simp only [List.cons_append, List.nil_append, List.append_assoc]); repeat' first | with_reducible apply eR | with_reducible apply eA | ((with_reducible apply xA); · repeat first | with_reducible apply lH | with_reducible apply lT | with_reducible apply lL) | ((with_reducible apply xC); · repeat first | apply pH | with_reducible apply pT | with_reducible apply pL) | with_reducible assumption | with_reducible apply eS | with_reducible apply eL | exact eR)⟩ | (exfalso; first | contradiction | omega | (simp_all; done) | (simp_all; omega))
      · have hr' := hr; try simp only [inB_iff, Bool.and_eq_true, decide_eq_true_eq, decide_eq_false_iff_not, beq_iff_eq, beq_eq_false_iff_ne, bne_iff_ne, bne_eq_false_iff_eq, ne_eq] at hr'
        rw [decide_eq_false_iff_not] at hr
        refine cK ?_
        refine qBN ?_
        refine qN ?_
        refine cR ?_
        refine mv rfl ?_
        first | refine rAn (b := 1) rfl rfl (by omega) ?_ | refine rA rfl rfl (by omega) (by omega) ?_ | refine bAdd rfl rfl ?_
        refine asg rfl ?_
        refine rN ?_
        refine qL2 (i + 1) (szI l (fs.getD i zR).xs.length) ?_ (by omega) (by repeat first | exact Sub.nil _ | refine Sub.cons rfl ?_) (by (try simp only [List.cons_append, List.nil_append, List.append_assoc]); repeat' first | with_reducible apply eR | with_reducible apply eA | ((with_reducible apply xA); · repeat first | with_reducible apply lH | with_reducible apply lT | with_reducible apply lL) | ((with_reducible apply xC); · repeat first | apply pH | with_reducible apply pT | with_reducible apply pL) | with_reducible assumption | with_reducible apply eS | with_reducible apply eL | exact eR)
        refine ⟨by omega, ?_, by rw [hs, hst, if_neg hr]⟩
        rcases szI_le (l := l) (n := (fs.getD i zR).xs.length) with k | k <;> omega
    · have c2' := c2; try simp only [inB_iff, Bool.and_eq_true, decide_eq_true_eq, decide_eq_false_iff_not, beq_iff_eq, beq_eq_false_iff_ne, bne_iff_ne, bne_eq_false_iff_eq, ne_eq] at c2'
      refine cX ?_
      refine qX ?_
      refine qL2X ?_
      refine qBX ?_
      refine qN ?_
      refine cS (cR ?_)
      refine mv rfl ?_
      refine asg rfl ?_
      refine rN ?_
      refine qN ?_
      refine cE ?_
      refine kE rfl rfl  ?_
      first | (exfalso; contradiction) | exact ⟨_, ⟨by rw [hs, List.drop_eq_nil_of_le (by omega)]; rfl, rfl⟩, (by (try simp only [List.cons_append, List.nil_append, List.append_assoc]); repeat' first | with_reducible apply eR | with_reducible apply eA | ((with_reducible apply xA); · repeat first | with_reducible apply lH | with_reducible apply lT | with_reducible apply lL) | ((with_reducible apply xC); · repeat first | apply pH | with_reducible apply pT | with_reducible apply pL) | with_reducible assumption | with_reducible apply eS | with_reducible apply eL | exact eR)⟩ | (exfalso; first | contradiction | omega | (simp_all; done) | (simp_all; omega))
/-! ## copies -/
-- @own laws.toFrameS : c_toFrameS _ _ _ _ _ @RDR@ @BD@ (by first | assumption | exact fun i hi => by have := c1z.2 i hi; omega)
theorem c_toFrameS (a : Option Addr) (n c : Nat) (fs : List Frm) (M : Mem) (h : RdR M a n fs) (hn : n ≤ 1048576) (hxs : ∀ i, i < n → (fs.getD i zR).xs.length ≤ 1048576) :
    ACall Try.prog 17 [.slice a n c] M fun v M' => ∃ L, OwR L v fs ∧ M' = L ++ M := by
  obtain ⟨rfl, _⟩ := id h
  refine acall_of_awp Try.func17 rfl Try.ntmps17 rfl ?_
  refine cS (cR ?_)
  refine asg rfl ?_
  refine rN ?_
  refine qN ?_
  refine cS (cR ?_)
  refine mv rfl ?_
  refine ln rfl ?_
  first
    | (refine mkF rfl rfl (by omega) (by omega) ?_; intro bk1)
    | (refine mkV rfl rfl (by omega) (by omega) ?_; intro bk1)
    | (refine rM rfl rfl rfl (by omega) (by omega) (by omega) (by omega) ?_; intro bk1)
    | (refine mkP rfl rfl (by omega) (by omega) ?_; intro bk1)
    | (refine mkR rfl rfl (by omega) (by omega) ?_; intro bk1)
  refine asg rfl ?_
  refine rN ?_
  refine qN ?_
  refine cS ?_
  refine cS (cR ?_)
  refine asg rfl ?_
  refine rN ?_
  refine qN ?_
  refine cB ?_
  refine cL3 (fun (i : Nat) (hs : List Tri) (Lc : Mem) => [(4, .int .i64 (i : Nat))]) [(0, _), (3, _)] (fun (i : Nat) (hs : List Tri) (Lc : Mem) => (bk1, ⟨tcs hs, true⟩) :: (Lc ++ M)) (fun (i : Nat) (hs : List Tri) (Lc : Mem) => fs.length - i) (fun (i : Nat) (hs : List Tri) (Lc : Mem) => i ≤ fs.length ∧ hs.length = fs.length ∧ ∃ vs, hs = triL (fs.take i) vs ++ List.replicate (fs.length - i) z3 ∧ OwL Lc vs ((fs.take i).map Frm.xs)) (0) (List.replicate fs.length z3) ([]) (by repeat first | exact Sub.nil _ | refine Sub.cons rfl ?_) (by (try simp only [List.cons_append, List.nil_append, List.append_assoc]); repeat' first | with_reducible apply eR | with_reducible apply eA | ((with_reducible apply xA); · repeat first | with_reducible apply lH | with_reducible apply lT | with_reducible apply lL) | ((with_reducible apply xC); · repeat first | apply pH | with_reducible apply pT | with_reducible apply pL) | with_reducible assumption | with_reducible apply eS | with_reducible apply eL | exact eR) (by exact ⟨Nat.zero_le _, by simp, [], rfl, rfl⟩) ?_
  rintro i hs Lc ⟨hi, hhl, vs, rfl, hl⟩
  refine wT (T' := [(4, _), (0, _), (3, _)]) rfl ?_
  refine cS ?_
  refine cS (cR ?_)
  refine mv rfl ?_
  refine mv rfl ?_
  refine ln rfl ?_
  refine bLss rfl rfl ?_
  refine rN ?_
  refine qN ?_
  have hvl : vs.length = (fs.take i).length := by rw [hl.len, List.length_map]
  refine cC rfl (fun c1 => ?_) (fun c1 => ?_)
  · have c1' := c1; try simp only [inB_iff, Bool.and_eq_true, decide_eq_true_eq, decide_eq_false_iff_not, beq_iff_eq, beq_eq_false_iff_ne, bne_iff_ne, bne_eq_false_iff_eq, ne_eq] at c1'
    have hi2 : i < fs.length := by omega
    have hxi := hxs i hi2
    refine cK ?_
    refine qN ?_
    refine cS ?_
    refine cB ?_
    refine cR ?_
    refine mv rfl ?_
    refine mv rfl ?_
    refine mv rfl ?_
    refine mv rfl ?_
    first
      | refine ixP rfl rfl (by first | (apply RdP.aok; with_reducible assumption) | exact AOk.own) (by first | with_reducible assumption | omega) ?_
      | refine ixR rfl rfl (by first | (apply RdR.aok; with_reducible assumption) | exact AOk.own) (by first | with_reducible assumption | omega) ?_
    first | refine ldP rfl (by (first | with_reducible assumption | (apply RdP.mono; (· with_reducible assumption); · (try simp only [List.cons_append, List.nil_append, List.append_assoc]); repeat' first | with_reducible apply eR | with_reducible apply eA | ((with_reducible apply xA); · repeat first | with_reducible apply lH | with_reducible apply lT | with_reducible apply lL) | ((with_reducible apply xC); · repeat first | apply pH | with_reducible apply pT | with_reducible apply pL) | with_reducible assumption | with_reducible apply eS | with_reducible apply eL | exact eR) | (apply RdP.mono; (· (apply OwP.rdP; with_reducible assumption)); · (try simp only [List.cons_append, List.nil_append, List.append_assoc]); repeat' first | with_reducible apply eR | with_reducible apply eA | ((with_reducible apply xA); · repeat first | with_reducible apply lH | with_reducible apply lT | with_reducible apply lL) | ((with_reducible apply xC); · repeat first | apply pH | with_reducible apply pT | with_reducible apply pL) | with_reducible assumption | with_reducible apply eS | with_reducible apply eL | exact eR))) (by first | with_reducible assumption | omega) ?_ | (refine ldR rfl (by (first | with_reducible assumption | (apply RdR.mono; (· with_reducible assumption); · (try simp only [List.cons_append, List.nil_append, List.append_assoc]); repeat' first | with_reducible apply eR | with_reducible apply eA | ((with_reducible apply xA); · repeat first | with_reducible apply lH | with_reducible apply lT | with_reducible apply lL) | ((with_reducible apply xC); · repeat first | apply pH | with_reducible apply pT | with_reducible apply pL) | with_reducible assumption | with_reducible apply eS | with_reducible apply eL | exact eR) | (apply RdR.mono; (· (apply OwR.rdR; with_reducible assumption)); · (try simp only [List.cons_append, List.nil_append, List.append_assoc]); repeat' first | with_reducible apply eR | with_reducible apply eA | ((with_reducible apply xA); · repeat first | with_reducible apply lH | with_reducible apply lT | with_reducible apply lL) | ((with_reducible apply xC); · repeat first | apply pH | with_reducible apply pT | with_reducible apply pL) | with_reducible assumption | with_reducible apply eS | with_reducible apply eL | exact eR))) (by first | with_reducible assumption | omega) ?_; intro aRr cRr hRr)
    refine rC rfl (c_toFrame _ _ _ _ _ _ _ (by first | with_reducible assumption | ((try first | with_reducible apply RdF.sub | with_reducible apply RdF.sub0) <;> first | with_reducible assumption | (apply RdF.mono; (· (with_reducible assumption)); · (try simp only [List.cons_append, List.nil_append, List.append_assoc]); repeat' first | with_reducible apply eR | with_reducible apply eA | ((with_reducible apply xA); · repeat first | with_reducible apply lH | with_reducible apply lT | with_reducible apply lL) | ((with_reducible apply xC); · repeat first | apply pH | with_reducible apply pT | with_reducible apply pL) | with_reducible assumption | with_reducible apply eS | with_reducible apply eL | exact eR) | (apply RdF.mono; (· (apply OwF.rdF; with_reducible assumption)); · (try simp only [List.cons_append, List.nil_append, List.append_assoc]); repeat' first | with_reducible apply eR | with_reducible apply eA | ((with_reducible apply xA); · repeat first | with_reducible apply lH | with_reducible apply lT | with_reducible apply lL) | ((with_reducible apply xC); · repeat first | apply pH | with_reducible apply pT | with_reducible apply pL) | with_reducible assumption | with_reducible apply eS | with_reducible apply eL | exact eR) | (apply RdF.ownm; (· repeat first | with_reducible assumption | with_reducible apply List.mem_cons_self | with_reducible apply List.mem_cons_of_mem | with_reducible apply List.mem_append_right | exact List.Mem.head _); · first | rfl | with_reducible assumption | omega | simp [*]) | with_reducible assumption | omega | (simp; done) | (simp; omega) | (simp only [Bool.and_eq_true, inB_iff] at *; omega))) (by first | with_reducible assumption | omega | (simp only [Bool.and_eq_true, inB_iff] at *; omega))) ?_
    rintro _ _ ⟨lk1, ⟨sv1, rfl, how1⟩, rfl⟩
    obtain ⟨ad1, cn1, rfl, hrd1⟩ := how1.rd
    have hcn1 := how1.capl
    refine ⟨fun _ => eL eR, ?_⟩
    first
      | refine ixP rfl rfl (by first | (apply RdP.aok; with_reducible assumption) | exact AOk.own) (by first | with_reducible assumption | omega) ?_
      | refine ixR rfl rfl (by first | (apply RdR.aok; with_reducible assumption) | exact AOk.own) (by first | with_reducible assumption | omega) ?_
    first | (refine tP rfl rfl (by with_reducible assumption) (by repeat first | with_reducible apply lH | with_reducible apply lT | with_reducible apply lL) (by first | with_reducible assumption | omega) ?_; intro lk2 how2) | refine tR rfl rfl rfl (by repeat first | apply pH | with_reducible apply pT | with_reducible apply pL) (by first | with_reducible assumption | omega) ?_ | (refine tQ rfl rfl (by with_reducible assumption) (by with_reducible assumption) (by repeat first | with_reducible apply lH | with_reducible apply lT | with_reducible apply lL) (by first | with_reducible assumption | omega) ?_; intro lk2 how2)
    refine rN ?_
    refine qBN ?_
    refine qN ?_
    refine cR ?_
    refine mv rfl ?_
    first | refine rAn (b := 1) rfl rfl (by omega) ?_ | refine rA rfl rfl (by omega) (by omega) ?_ | refine bAdd rfl rfl ?_
    refine asg rfl ?_
    refine rN ?_
    refine qL3 (i + 1) (_) (lk1 ++ Lc) ?_ (by omega) (by repeat first | exact Sub.nil _ | refine Sub.cons rfl ?_) (by (try simp only [List.cons_append, List.nil_append, List.append_assoc]); repeat' first | with_reducible apply eR | with_reducible apply eA | ((with_reducible apply xA); · repeat first | with_reducible apply lH | with_reducible apply lT | with_reducible apply lL) | ((with_reducible apply xC); · repeat first | apply pH | with_reducible apply pT | with_reducible apply pL) | with_reducible assumption | with_reducible apply eS | with_reducible apply eL | exact eR)
    refine ⟨by omega, by rw [List.length_set]; exact hhl, vs ++ [.slice ad1 (fs.getD i zR).xs.length cn1], ?_, ?_⟩
    · have e1 := take_succR hi2
      have e2 : (triL (fs.take i) vs).length = i := by rw [triL_len hvl, List.length_take]; omega
      rw [e1, triL_snoc hvl, List.set_append_right _ _ (by omega), e2, Nat.sub_self, show fs.length - i = (fs.length - (i + 1)) + 1 from by omega, List.replicate_succ, List.set_cons_zero, List.append_assoc]
      rfl
    · rw [take_succR hi2, List.map_append]
      exact hl.snoc how1
  · have c1' := c1; try simp only [inB_iff, Bool.and_eq_true, decide_eq_true_eq, decide_eq_false_iff_not, beq_iff_eq, beq_eq_false_iff_ne, bne_iff_ne, bne_eq_false_iff_eq, ne_eq] at c1'
    have : i = fs.length := by omega
    subst this
    refine cX ?_
    refine qX ?_
    refine qL3X ?_
    refine qBX ?_
    refine qN ?_
    refine cS (cR ?_)
    refine mv rfl ?_
    refine asg rfl ?_
    refine rN ?_
    refine qN ?_
    refine cE ?_
    rw [Nat.sub_self, List.replicate_zero, List.append_nil, List.take_length] at hhl ⊢
    rw [List.take_length] at hl
    refine kE rfl rfl  ?_
    first | (exfalso; contradiction) | exact ⟨_, ⟨(bk1, ⟨tcs (triL fs vs), true⟩) :: Lc, ⟨[(bk1, ⟨tcs (triL fs vs), true⟩)], Lc, vs, .inr ⟨bk1, fs.length, [], rfl, Nat.le_refl _, by rw [tcs_len, hhl], by rw [tcs_len, hhl]; rfl, by rw [List.append_nil]⟩, hl, rfl⟩, rfl⟩, (by (try simp only [List.cons_append, List.nil_append, List.append_assoc]); repeat' first | with_reducible apply eR | with_reducible apply eA | ((with_reducible apply xA); · repeat first | with_reducible apply lH | with_reducible apply lT | with_reducible apply lL) | ((with_reducible apply xC); · repeat first | apply pH | with_reducible apply pT | with_reducible apply pL) | with_reducible assumption | with_reducible apply eS | with_reducible apply eL | exact eR)⟩ | (exfalso; first | contradiction | omega | (simp_all; done) | (simp_all; omega))
-- @true laws.eqFrameS : c_eqFrameS _ _ _ _ _ _ _ _ @RDR@ @RDR@ @BD@ (by first | assumption | exact fun i hi => by have := c1z.2 i hi; omega)
theorem c_eqFrameS (a a' : Option Addr) (n n' c c' : Nat) (fs : List Frm) (M : Mem) (h : RdR M a n fs) (h' : RdR M a' n' fs) (hn : n ≤ 1073741824) (hxs : ∀ i, i < n → (fs.getD i zR).xs.length ≤ 1048576) :
    ACall Try.prog 20 [.slice a n c, .slice a' n' c'] M fun r M' => r = .bool true ∧ M' = M := by
  obtain ⟨rfl, _⟩ := id h
  obtain ⟨rfl, _⟩ := id h'
  have e1 : (((fs.length : Nat) : Int) != (fs.length : Nat)) = false := by simp
  refine acall_of_awp Try.func20 rfl Try.ntmps20 rfl ?_
  refine cS (cR ?_)
  refine asg rfl ?_
  refine rN ?_
  refine qN ?_
  refine cS ?_
  refine cS (cR ?_)
  refine mv rfl ?_
  refine ln rfl ?_
  refine mv rfl ?_
  refine ln rfl ?_
  refine bNeq rfl rfl ?_
  refine rN ?_
  refine qN ?_
  refine cFa rfl (e1) ?_
  refine cK ?_
  refine qN ?_
  refine cS ?_
  refine cS (cR ?_)
  refine asg rfl ?_
  refine rN ?_
  refine qN ?_
  refine cB ?_
  refine cL1 (fun (i : Nat) => [(5, .int .i64 (i : Nat))]) [(0, _), (1, _)] (fun (i : Nat) => M) (fun (i : Nat) => fs.length - i) (fun (i : Nat) => i ≤ fs.length) (0) (by repeat first | exact Sub.nil _ | refine Sub.cons rfl ?_) (by (try simp only [List.cons_append, List.nil_append, List.append_assoc]); repeat' first | with_reducible apply eR | with_reducible apply eA | ((with_reducible apply xA); · repeat first | with_reducible apply lH | with_reducible apply lT | with_reducible apply lL) | ((with_reducible apply xC); · repeat first | apply pH | with_reducible apply pT | with_reducible apply pL) | with_reducible assumption | with_reducible apply eS | with_reducible apply eL | exact eR) (by exact Nat.zero_le _) ?_
  rintro i hi
  refine wT (T' := [(5, _), (0, _), (1, _)]) rfl ?_
  refine cS ?_
  refine cS (cR ?_)
  refine mv rfl ?_
  refine mv rfl ?_
  refine ln rfl ?_
  refine bLss rfl rfl ?_
  refine rN ?_
  refine qN ?_
  refine cC rfl (fun c1 => ?_) (fun c1 => ?_)
  · have c1' := c1; try simp only [inB_iff, Bool.and_eq_true, decide_eq_true_eq, decide_eq_false_iff_not, beq_iff_eq, beq_eq_false_iff_ne, bne_iff_ne, bne_eq_false_iff_eq, ne_eq] at c1'
    have hi2 : i < fs.length := by omega
    have hxi := hxs i hi2
    refine cK ?_
    refine qN ?_
    refine cS ?_
    refine cB ?_
    refine cS ?_
    refine cD [] [(0, true), (1, true), (2, true), (3, true), (4, true), (5, false), (6, false), (7, false), (8, false), (9, false)] (by repeat first | exact fineT | exact fineL | exact fineLQ1 | exact fineLQ2 | exact fineLQ3 | exact fineLQ4 | exact fineLQ5 | exact fineLQ6 | exact fineR | refine fineB ?_) (by kernel_rfl) ?_
    simp only [pick, List.getElem?_toArray, List.getElem?_cons_zero, List.getElem?_cons_succ]
    refine mv rfl ?_
    refine mv rfl ?_
    first
      | refine ixP rfl rfl (by first | (apply RdP.aok; with_reducible assumption) | exact AOk.own) (by first | with_reducible assumption | omega) ?_
      | refine ixR rfl rfl (by first | (apply RdR.aok; with_reducible assumption) | exact AOk.own) (by first | with_reducible assumption | omega) ?_
    first | refine ldP rfl (by (first | with_reducible assumption | (apply RdP.mono; (· with_reducible assumption); · (try simp only [List.cons_append, List.nil_append, List.append_assoc]); repeat' first | with_reducible apply eR | with_reducible apply eA | ((with_reducible apply xA); · repeat first | with_reducible apply lH | with_reducible apply lT | with_reducible apply lL) | ((with_reducible apply xC); · repeat first | apply pH | with_reducible apply pT | with_reducible apply pL) | with_reducible assumption | with_reducible apply eS | with_reducible apply eL | exact eR) | (apply RdP.mono; (· (apply OwP.rdP; with_reducible assumption)); · (try simp only [List.cons_append, List.nil_append, List.append_assoc]); repeat' first | with_reducible apply eR | with_reducible apply eA | ((with_reducible apply xA); · repeat first | with_reducible apply lH | with_reducible apply lT | with_reducible apply lL) | ((with_reducible apply xC); · repeat first | apply pH | with_reducible apply pT | with_reducible apply pL) | with_reducible assumption | with_reducible apply eS | with_reducible apply eL | exact eR))) (by first | with_reducible assumption | omega) ?_ | (refine ldR rfl (by (first | with_reducible assumption | (apply RdR.mono; (· with_reducible assumption); · (try simp only [List.cons_append, List.nil_append, List.append_assoc]); repeat' first | with_reducible apply eR | with_reducible apply eA | ((with_reducible apply xA); · repeat first | with_reducible apply lH | with_reducible apply lT | with_reducible apply lL) | ((with_reducible apply xC); · repeat first | apply pH | with_reducible apply pT | with_reducible apply pL) | with_reducible assumption | with_reducible apply eS | with_reducible apply eL | exact eR) | (apply RdR.mono; (· (apply OwR.rdR; with_reducible assumption)); · (try simp only [List.cons_append, List.nil_append, List.append_assoc]); repeat' first | with_reducible apply eR | with_reducible apply eA | ((with_reducible apply xA); · repeat first | with_reducible apply lH | with_reducible apply lT | with_reducible apply lL) | ((with_reducible apply xC); · repeat first | apply pH | with_reducible apply pT | with_reducible apply pL) | with_reducible assumption | with_reducible apply eS | with_reducible apply eL | exact eR))) (by first | with_reducible assumption | omega) ?_; intro aRr cRr hRr)
    refine mv rfl ?_
    refine mv rfl ?_
    first
      | refine ixP rfl rfl (by first | (apply RdP.aok; with_reducible assumption) | exact AOk.own) (by first | with_reducible assumption | omega) ?_
      | refine ixR rfl rfl (by first | (apply RdR.aok; with_reducible assumption) | exact AOk.own) (by first | with_reducible assumption | omega) ?_
    first | refine ldP rfl (by (first | with_reducible assumption | (apply RdP.mono; (· with_reducible assumption); · (try simp only [List.cons_append, List.nil_append, List.append_assoc]); repeat' first | with_reducible apply eR | with_reducible apply eA | ((with_reducible apply xA); · repeat first | with_reducible apply lH | with_reducible apply lT | with_reducible apply lL) | ((with_reducible apply xC); · repeat first | apply pH | with_reducible apply pT | with_reducible apply pL) | with_reducible assumption | with_reducible apply eS | with_reducible apply eL | exact eR) | (apply RdP.mono; (· (apply OwP.rdP; with_reducible assumption)); · (try simp only [List.cons_append, List.nil_append, List.append_assoc]); repeat' first | with_reducible apply eR | with_reducible apply eA | ((with_reducible apply xA); · repeat first | with_reducible apply lH | with_reducible apply lT | with_reducible apply lL) | ((with_reducible apply xC); · repeat first | apply pH | with_reducible apply pT | with_reducible apply pL) | with_reducible assumption | with_reducible apply eS | with_reducible apply eL | exact eR))) (by first | with_reducible assumption | omega) ?_ | (refine ldR rfl (by (first | with_reducible assumption | (apply RdR.mono; (· with_reducible assumption); · (try simp only [List.cons_append, List.nil_append, List.append_assoc]); repeat' first | with_reducible apply eR | with_reducible apply eA | ((with_reducible apply xA); · repeat first | with_reducible apply lH | with_reducible apply lT | with_reducible apply lL) | ((with_reducible apply xC); · repeat first | apply pH | with_reducible apply pT | with_reducible apply pL) | with_reducible assumption | with_reducible apply eS | with_reducible apply eL | exact eR) | (apply RdR.mono; (· (apply OwR.rdR; with_reducible assumption)); · (try simp only [List.cons_append, List.nil_append, List.append_assoc]); repeat' first | with_reducible apply eR | with_reducible apply eA | ((with_reducible apply xA); · repeat first | with_reducible apply lH | with_reducible apply lT | with_reducible apply lL) | ((with_reducible apply xC); · repeat first | apply pH | with_reducible apply pT | with_reducible apply pL) | with_reducible assumption | with_reducible apply eS | with_reducible apply eL | exact eR))) (by first | with_reducible assumption | omega) ?_; intro aRr cRr hRr)
    refine rCq rfl (c_eqFrame _ _ _ _ _ _ _ _ _ _ (by first | with_reducible assumption | ((try first | with_reducible apply RdF.sub | with_reducible apply RdF.sub0) <;> first | with_reducible assumption | (apply RdF.mono; (· (with_reducible assumption)); · (try simp only [List.cons_append, List.nil_append, List.append_assoc]); repeat' first | with_reducible apply eR | with_reducible apply eA | ((with_reducible apply xA); · repeat first | with_reducible apply lH | with_reducible apply lT | with_reducible apply lL) | ((with_reducible apply xC); · repeat first | apply pH | with_reducible apply pT | with_reducible apply pL) | with_reducible assumption | with_reducible apply eS | with_reducible apply eL | exact eR) | (apply RdF.mono; (· (apply OwF.rdF; with_reducible assumption)); · (try simp only [List.cons_append, List.nil_append, List.append_assoc]); repeat' first | with_reducible apply eR | with_reducible apply eA | ((with_reducible apply xA); · repeat first | with_reducible apply lH | with_reducible apply lT | with_reducible apply lL) | ((with_reducible apply xC); · repeat first | apply pH | with_reducible apply pT | with_reducible apply pL) | with_reducible assumption | with_reducible apply eS | with_reducible apply eL | exact eR) | (apply RdF.ownm; (· repeat first | with_reducible assumption | with_reducible apply List.mem_cons_self | with_reducible apply List.mem_cons_of_mem | with_reducible apply List.mem_append_right | exact List.Mem.head _); · first | rfl | with_reducible assumption | omega | simp [*]) | with_reducible assumption | omega | (simp; done) | (simp; omega) | (simp only [Bool.and_eq_true, inB_iff] at *; omega))) (by first | with_reducible assumption | ((try first | with_reducible apply RdF.sub | with_reducible apply RdF.sub0) <;> first | with_reducible assumption | (apply RdF.mono; (· (with_reducible assumption)); · (try simp only [List.cons_append, List.nil_append, List.append_assoc]); repeat' first | with_reducible apply eR | with_reducible apply eA | ((with_reducible apply xA); · repeat first | with_reducible apply lH | with_reducible apply lT | with_reducible apply lL) | ((with_reducible apply xC); · repeat first | apply pH | with_reducible apply pT | with_reducible apply pL) | with_reducible assumption | with_reducible apply eS | with_reducible apply eL | exact eR) | (apply RdF.mono; (· (apply OwF.rdF; with_reducible assumption)); · (try simp only [List.cons_append, List.nil_append, List.append_assoc]); repeat' first | with_reducible apply eR | with_reducible apply eA | ((with_reducible apply xA); · repeat first | with_reducible apply lH | with_reducible apply lT | with_reducible apply lL) | ((with_reducible apply xC); · repeat first | apply pH | with_reducible apply pT | with_reducible apply pL) | with_reducible assumption | with_reducible apply eS | with_reducible apply eL | exact eR) | (apply RdF.ownm; (· repeat first | with_reducible assumption | with_reducible apply List.mem_cons_self | with_reducible apply List.mem_cons_of_mem | with_reducible apply List.mem_append_right | exact List.Mem.head _); · first | rfl | with_reducible assumption | omega | simp [*]) | with_reducible assumption | omega | (simp; done) | (simp; omega) | (simp only [Bool.and_eq_true, inB_iff] at *; omega))) (by first | with_reducible assumption | omega | (simp only [Bool.and_eq_true, inB_iff] at *; omega))) ?_
    refine uNot rfl ?_
    refine rN ?_
    refine qN ?_
    refine cF rfl ?_
    refine cK ?_
    refine qBN ?_
    refine qN ?_
    refine cR ?_
    refine mv rfl ?_
    first | refine rAn (b := 1) rfl rfl (by omega) ?_ | refine rA rfl rfl (by omega) (by omega) ?_ | refine bAdd rfl rfl ?_
    refine asg rfl ?_
    refine rN ?_
    refine qL1 (i + 1) ?_ (by omega) (by repeat first | exact Sub.nil _ | refine Sub.cons rfl ?_) (by (try simp only [List.cons_append, List.nil_append, List.append_assoc]); repeat' first | with_reducible apply eR | with_reducible apply eA | ((with_reducible apply xA); · repeat first | with_reducible apply lH | with_reducible apply lT | with_reducible apply lL) | ((with_reducible apply xC); · repeat first | apply pH | with_reducible apply pT | with_reducible apply pL) | with_reducible assumption | with_reducible apply eS | with_reducible apply eL | exact eR)
    omega
  · have c1' := c1; try simp only [inB_iff, Bool.and_eq_true, decide_eq_true_eq, decide_eq_false_iff_not, beq_iff_eq, beq_eq_false_iff_ne, bne_iff_ne, bne_eq_false_iff_eq, ne_eq] at c1'
    refine cX ?_
    refine qX ?_
    refine qL1X ?_
    refine qBX ?_
    refine qN ?_
    refine cS (cR ?_)
    refine asg rfl ?_
    refine rN ?_
    refine qN ?_
    refine cE ?_
    refine kE rfl rfl  ?_
    first | (exfalso; contradiction) | exact ⟨_, ⟨rfl, rfl⟩, (by (try simp only [List.cons_append, List.nil_append, List.append_assoc]); repeat' first | with_reducible apply eR | with_reducible apply eA | ((with_reducible apply xA); · repeat first | with_reducible apply lH | with_reducible apply lT | with_reducible apply lL) | ((with_reducible apply xC); · repeat first | apply pH | with_reducible apply pT | with_reducible apply pL) | with_reducible assumption | with_reducible apply eS | with_reducible apply eL | exact eR)⟩ | exact ⟨_, ⟨by first | (simp_all; done) | (simp_all; intros; omega), rfl⟩, (by (try simp only [List.cons_append, List.nil_append, List.append_assoc]); repeat' first | with_reducible apply eR | with_reducible apply eA | ((with_reducible apply xA); · repeat first | with_reducible apply lH | with_reducible apply lT | with_reducible apply lL) | ((with_reducible apply xC); · repeat first | apply pH | with_reducible apply pT | with_reducible apply pL) | with_reducible assumption | with_reducible apply eS | with_reducible apply eL | exact eR)⟩ | (exfalso; first | contradiction | omega | (simp_all; done) | (simp_all; omega))
/-! ## validity -/
theorem c_l07IsO (b o : Nat) (f : Frm) (M : Mem) (hra : RAt M b o f) (hn : f.xs.length ≤ 9223372036854775807) :
    ACall Try.prog 32 [.pointer (some ⟨b, o, none⟩)] M fun v M' => v = .bool (vfB f.w f.d f.xs) ∧ M' = M := by
  obtain ⟨kb, a, c, hm, e0, e1, e2, hr⟩ := id hra
  refine acall_of_awp Try.func32 rfl Try.ntmps32 rfl ?_
  refine cS (cR ?_)
  refine asg rfl ?_
  refine rN ?_
  refine qN ?_
  refine cS ?_
  refine cS (cR ?_)
  refine mv rfl ?_
  refine nk rfl ?_
  refine fA rfl ?_
  first | refine rL rfl (by repeat first | with_reducible assumption | with_reducible apply List.mem_cons_self | with_reducible apply List.mem_cons_of_mem | with_reducible apply List.mem_append_right | exact List.Mem.head _) rfl rfl ?_ | refine rL rfl (by repeat first | with_reducible assumption | with_reducible apply List.mem_cons_self | with_reducible apply List.mem_cons_of_mem | with_reducible apply List.mem_append_right | exact List.Mem.head _) (by with_reducible assumption) rfl ?_
  refine ln rfl ?_
  refine mv rfl ?_
  refine rN ?_
  refine qN ?_
  refine cB ?_
  refine cL1 (fun (k : Nat) => [(9, .int .i64 (k : Nat))]) [(0, _), (8, _)] (fun (k : Nat) => M) (fun (k : Nat) => f.xs.length - k) (fun (k : Nat) => k ≤ f.xs.length ∧ ∀ j, j < k → fnB (f.xs.getD j 0) = true) (0) (by repeat first | exact Sub.nil _ | refine Sub.cons rfl ?_) (by (try simp only [List.cons_append, List.nil_append, List.append_assoc]); repeat' first | with_reducible apply eR | with_reducible apply eA | ((with_reducible apply xA); · repeat first | with_reducible apply lH | with_reducible apply lT | with_reducible apply lL) | ((with_reducible apply xC); · repeat first | apply pH | with_reducible apply pT | with_reducible apply pL) | with_reducible assumption | with_reducible apply eS | with_reducible apply eL | exact eR) (by exact ⟨Nat.zero_le _, fun j hj => by omega⟩) ?_
  rintro k ⟨hk, hj⟩
  refine wT (T' := [(9, _), (0, _), (8, _)]) rfl ?_
  refine cS (cR ?_)
  refine bLss rfl rfl ?_
  refine rN ?_
  refine qN ?_
  refine cS ?_
  refine cC rfl (fun c1 => ?_) (fun c1 => ?_)
  · have c1' := c1; try simp only [inB_iff, Bool.and_eq_true, decide_eq_true_eq, decide_eq_false_iff_not, beq_iff_eq, beq_eq_false_iff_ne, bne_iff_ne, bne_eq_false_iff_eq, ne_eq] at c1'
    refine cK ?_
    refine qN ?_
    refine cS ?_
    refine cB ?_
    refine cS (cR ?_)
    refine mv rfl ?_
    refine asg rfl ?_
    refine rN ?_
    refine qN ?_
    refine cS (cR ?_)
    refine mv rfl ?_
    refine nk rfl ?_
    refine fA rfl ?_
    first | refine rL rfl (by repeat first | with_reducible assumption | with_reducible apply List.mem_cons_self | with_reducible apply List.mem_cons_of_mem | with_reducible apply List.mem_append_right | exact List.Mem.head _) rfl rfl ?_ | refine rL rfl (by repeat first | with_reducible assumption | with_reducible apply List.mem_cons_self | with_reducible apply List.mem_cons_of_mem | with_reducible apply List.mem_append_right | exact List.Mem.head _) (by with_reducible assumption) rfl ?_
    refine mv rfl ?_
    first
      | refine ixN rfl rfl (by first | (apply RdC.aok; with_reducible assumption) | exact AOk.own | (apply RdD.aok; with_reducible assumption) | (apply RdD.aok; apply OwD.rdD; with_reducible assumption) | (apply RdI.aok; with_reducible assumption) | (apply RdW.aok; with_reducible assumption) | (apply RdI.aok; apply OwI.rdI; with_reducible assumption) | with_reducible assumption | (apply RdF.aok; with_reducible assumption) | (apply RdF.aok; apply OwF.rdF; with_reducible assumption)) (by first | with_reducible assumption | omega) ?_
      | refine ixI rfl rfl (by first | (apply RdC.aok; with_reducible assumption) | exact AOk.own | (apply RdD.aok; with_reducible assumption) | (apply RdD.aok; apply OwD.rdD; with_reducible assumption) | (apply RdI.aok; with_reducible assumption) | (apply RdW.aok; with_reducible assumption) | (apply RdI.aok; apply OwI.rdI; with_reducible assumption) | with_reducible assumption | (apply RdF.aok; with_reducible assumption) | (apply RdF.aok; apply OwF.rdF; with_reducible assumption)) (by omega) (by omega) ?_
    refine ldF rfl (by first | with_reducible assumption | ((try first | with_reducible apply RdF.sub | with_reducible apply RdF.sub0) <;> first | with_reducible assumption | (apply RdF.mono; (· (with_reducible assumption)); · (try simp only [List.cons_append, List.nil_append, List.append_assoc]); repeat' first | with_reducible apply eR | with_reducible apply eA | ((with_reducible apply xA); · repeat first | with_reducible apply lH | with_reducible apply lT | with_reducible apply lL) | ((with_reducible apply xC); · repeat first | apply pH | with_reducible apply pT | with_reducible apply pL) | with_reducible assumption | with_reducible apply eS | with_reducible apply eL | exact eR) | (apply RdF.mono; (· (apply OwF.rdF; with_reducible assumption)); · (try simp only [List.cons_append, List.nil_append, List.append_assoc]); repeat' first | with_reducible apply eR | with_reducible apply eA | ((with_reducible apply xA); · repeat first | with_reducible apply lH | with_reducible apply lT | with_reducible apply lL) | ((with_reducible apply xC); · repeat first | apply pH | with_reducible apply pT | with_reducible apply pL) | with_reducible assumption | with_reducible apply eS | with_reducible apply eL | exact eR) | (apply RdF.ownm; (· repeat first | with_reducible assumption | with_reducible apply List.mem_cons_self | with_reducible apply List.mem_cons_of_mem | with_reducible apply List.mem_append_right | exact List.Mem.head _); · first | rfl | with_reducible assumption | omega | simp [*]) | with_reducible assumption | omega | (simp; done) | (simp; omega) | (simp only [Bool.and_eq_true, inB_iff] at *; omega))) (by first | with_reducible assumption | omega) ?_
    refine rCq rfl (c_l07Number _ _) ?_
    refine uNot rfl ?_
    refine rN ?_
    refine qN ?_
    refine cC rfl (fun hq => ?_) (fun hq => ?_)
    · replace hq := not_t hq
      have hq' := hq; try simp only [inB_iff, Bool.and_eq_true, decide_eq_true_eq, decide_eq_false_iff_not, beq_iff_eq, beq_eq_false_iff_ne, bne_iff_ne, bne_eq_false_iff_eq, ne_eq] at hq'
      refine cS (cR ?_)
      refine asg rfl ?_
      refine rN ?_
      refine qN ?_
      refine cE ?_
      refine qBE ?_
      refine qE ?_
      refine qL1E ?_
      refine qBE ?_
      refine qE ?_
      refine kE rfl rfl  ?_
      first | (exfalso; contradiction) | exact ⟨_, ⟨by rw [vfB, fnA_no (k := k) (by omega) (by first | exact hq | simpa using hq), Bool.and_false], rfl⟩, (by (try simp only [List.cons_append, List.nil_append, List.append_assoc]); repeat' first | with_reducible apply eR | with_reducible apply eA | ((with_reducible apply xA); · repeat first | with_reducible apply lH | with_reducible apply lT | with_reducible apply lL) | ((with_reducible apply xC); · repeat first | apply pH | with_reducible apply pT | with_reducible apply pL) | with_reducible assumption | with_reducible apply eS | with_reducible apply eL | exact eR)⟩ | (exfalso; first | contradiction | omega | (simp_all; done) | (simp_all; omega))
    · replace hq := not_f hq
      have hq' := hq; try simp only [inB_iff, Bool.and_eq_true, decide_eq_true_eq, decide_eq_false_iff_not, beq_iff_eq, beq_eq_false_iff_ne, bne_iff_ne, bne_eq_false_iff_eq, ne_eq] at hq'
      refine cK ?_
      refine qBN ?_
      refine qN ?_
      refine cR ?_
      first | refine rAn (b := 1) rfl rfl (by omega) ?_ | refine rA rfl rfl (by omega) (by omega) ?_ | refine bAdd rfl rfl ?_
      refine mv rfl ?_
      refine rN ?_
      refine qL1 (k + 1) ?_ (by omega) (by repeat first | exact Sub.nil _ | refine Sub.cons rfl ?_) (by (try simp only [List.cons_append, List.nil_append, List.append_assoc]); repeat' first | with_reducible apply eR | with_reducible apply eA | ((with_reducible apply xA); · repeat first | with_reducible apply lH | with_reducible apply lT | with_reducible apply lL) | ((with_reducible apply xC); · repeat first | apply pH | with_reducible apply pT | with_reducible apply pL) | with_reducible assumption | with_reducible apply eS | with_reducible apply eL | exact eR)
      refine ⟨by omega, fun j hj2 => ?_⟩
      by_cases e : j = k
      · subst e; first | exact hq | simpa using hq
      · exact hj j (by omega)
  · have c1' := c1; try simp only [inB_iff, Bool.and_eq_true, decide_eq_true_eq, decide_eq_false_iff_not, beq_iff_eq, beq_eq_false_iff_ne, bne_iff_ne, bne_eq_false_iff_eq, ne_eq] at c1'
    have hall : fnA f.xs = true := fnA_yes (fun j hj2 => hj j (by omega))
    refine cX ?_
    refine qX ?_
    refine qL1X ?_
    refine qBX ?_
    refine qN ?_
    refine cS (cR ?_)
    refine mv rfl ?_
    refine nk rfl ?_
    refine fA rfl ?_
    first | refine rL rfl (by repeat first | with_reducible assumption | with_reducible apply List.mem_cons_self | with_reducible apply List.mem_cons_of_mem | with_reducible apply List.mem_append_right | exact List.Mem.head _) rfl rfl ?_ | refine rL rfl (by repeat first | with_reducible assumption | with_reducible apply List.mem_cons_self | with_reducible apply List.mem_cons_of_mem | with_reducible apply List.mem_append_right | exact List.Mem.head _) (by with_reducible assumption) rfl ?_
    refine rCq rfl (c_l03Is _ _ _ _) ?_
    refine mv rfl ?_
    refine gC rfl rfl (fun c2 => ?_) (fun c2 => ?_)
    · have c2' := c2; try simp only [inB_iff, Bool.and_eq_true, decide_eq_true_eq, decide_eq_false_iff_not, beq_iff_eq, beq_eq_false_iff_ne, bne_iff_ne, bne_eq_false_iff_eq, ne_eq] at c2'
      refine gG rfl rfl c2 ?_
      refine mv rfl ?_
      refine gG rfl rfl c2 ?_
      refine nk rfl ?_
      refine gG rfl rfl c2 ?_
      refine fA rfl ?_
      refine gG rfl rfl c2 ?_
      first | refine rL rfl (by repeat first | with_reducible assumption | with_reducible apply List.mem_cons_self | with_reducible apply List.mem_cons_of_mem | with_reducible apply List.mem_append_right | exact List.Mem.head _) rfl rfl ?_ | refine rL rfl (by repeat first | with_reducible assumption | with_reducible apply List.mem_cons_self | with_reducible apply List.mem_cons_of_mem | with_reducible apply List.mem_append_right | exact List.Mem.head _) (by with_reducible assumption) rfl ?_
      refine gG rfl rfl c2 ?_
      refine rCq rfl (c_l00In _ _ _ _) ?_
      refine kT rfl c2 rfl ?_
      refine mv rfl ?_
      refine gC rfl rfl (fun c3 => ?_) (fun c3 => ?_)
      · have c3' := c3; try simp only [inB_iff, Bool.and_eq_true, decide_eq_true_eq, decide_eq_false_iff_not, beq_iff_eq, beq_eq_false_iff_ne, bne_iff_ne, bne_eq_false_iff_eq, ne_eq] at c3'
        refine gG rfl rfl c3 ?_
        refine mv rfl ?_
        refine gG rfl rfl c3 ?_
        refine nk rfl ?_
        refine gG rfl rfl c3 ?_
        refine fA rfl ?_
        refine gG rfl rfl c3 ?_
        first | refine rL rfl (by repeat first | with_reducible assumption | with_reducible apply List.mem_cons_self | with_reducible apply List.mem_cons_of_mem | with_reducible apply List.mem_append_right | exact List.Mem.head _) rfl rfl ?_ | refine rL rfl (by repeat first | with_reducible assumption | with_reducible apply List.mem_cons_self | with_reducible apply List.mem_cons_of_mem | with_reducible apply List.mem_append_right | exact List.Mem.head _) (by with_reducible assumption) rfl ?_
        refine gG rfl rfl c3 ?_
        refine rCq rfl (c_l00In _ _ _ _) ?_
        refine kT rfl c3 rfl ?_
        refine asg rfl ?_
        refine rN ?_
        refine qN ?_
        refine cE ?_
        refine kE rfl rfl  ?_
        first | (exfalso; contradiction) | exact ⟨_, ⟨by (simp only [vfB, *, Bool.true_and, Bool.and_true, Bool.false_and, Bool.and_false, Bool.or_false, Bool.false_or, Bool.or_true, Bool.true_or, Bool.not_true, Bool.not_false, if_true, if_false, Bool.false_eq_true, decide_true, decide_false, cond_true, cond_false]; done), rfl⟩, (by (try simp only [List.cons_append, List.nil_append, List.append_assoc]); repeat' first | with_reducible apply eR | with_reducible apply eA | ((with_reducible apply xA); · repeat first | with_reducible apply lH | with_reducible apply lT | with_reducible apply lL) | ((with_reducible apply xC); · repeat first | apply pH | with_reducible apply pT | with_reducible apply pL) | with_reducible assumption | with_reducible apply eS | with_reducible apply eL | exact eR)⟩ | (exfalso; first | contradiction | omega | (simp_all; done) | (simp_all; omega))
      · have c3' := c3; try simp only [inB_iff, Bool.and_eq_true, decide_eq_true_eq, decide_eq_false_iff_not, beq_iff_eq, beq_eq_false_iff_ne, bne_iff_ne, bne_eq_false_iff_eq, ne_eq] at c3'
        refine gS rfl rfl c3 ?_
        refine gS rfl rfl c3 ?_
        refine gS rfl rfl c3 ?_
        refine gS rfl rfl c3 ?_
        refine gS rfl rfl c3 ?_
        refine kF rfl c3 rfl ?_
        refine asg rfl ?_
        refine rN ?_
        refine qN ?_
        refine cE ?_
        refine kE rfl rfl  ?_
        first | (exfalso; contradiction) | exact ⟨_, ⟨by (simp only [vfB, *, Bool.true_and, Bool.and_true, Bool.false_and, Bool.and_false, Bool.or_false, Bool.false_or, Bool.or_true, Bool.true_or, Bool.not_true, Bool.not_false, if_true, if_false, Bool.false_eq_true, decide_true, decide_false, cond_true, cond_false]; done), rfl⟩, (by (try simp only [List.cons_append, List.nil_append, List.append_assoc]); repeat' first | with_reducible apply eR | with_reducible apply eA | ((with_reducible apply xA); · repeat first | with_reducible apply lH | with_reducible apply lT | with_reducible apply lL) | ((with_reducible apply xC); · repeat first | apply pH | with_reducible apply pT | with_reducible apply pL) | with_reducible assumption | with_reducible apply eS | with_reducible apply eL | exact eR)⟩ | (exfalso; first | contradiction | omega | (simp_all; done) | (simp_all; omega))
    · have c2' := c2; try simp only [inB_iff, Bool.and_eq_true, decide_eq_true_eq, decide_eq_false_iff_not, beq_iff_eq, beq_eq_false_iff_ne, bne_iff_ne, bne_eq_false_iff_eq, ne_eq] at c2'
      refine gS rfl rfl c2 ?_
      refine gS rfl rfl c2 ?_
      refine gS rfl rfl c2 ?_
      refine gS rfl rfl c2 ?_
      refine gS rfl rfl c2 ?_
      refine kF rfl c2 rfl ?_
      refine mv rfl ?_
      refine gS rfl rfl rfl ?_
      refine gS rfl rfl rfl ?_
      refine gS rfl rfl rfl ?_
      refine gS rfl rfl rfl ?_
      refine gS rfl rfl rfl ?_
      refine kF rfl rfl rfl ?_
      refine asg rfl ?_
      refine rN ?_
      refine qN ?_
      refine cE ?_
      refine kE rfl rfl  ?_
      first | (exfalso; contradiction) | exact ⟨_, ⟨by (simp only [vfB, *, Bool.true_and, Bool.and_true, Bool.false_and, Bool.and_false, Bool.or_false, Bool.false_or, Bool.or_true, Bool.true_or, Bool.not_true, Bool.not_false, if_true, if_false, Bool.false_eq_true, decide_true, decide_false, cond_true, cond_false]; done), rfl⟩, (by (try simp only [List.cons_append, List.nil_append, List.append_assoc]); repeat' first | with_reducible apply eR | with_reducible apply eA | ((with_reducible apply xA); · repeat first | with_reducible apply lH | with_reducible apply lT | with_reducible apply lL) | ((with_reducible apply xC); · repeat first | apply pH | with_reducible apply pT | with_reducible apply pL) | with_reducible assumption | with_reducible apply eS | with_reducible apply eL | exact eR)⟩ | (exfalso; first | contradiction | omega | (simp_all; done) | (simp_all; omega))
abbrev vR (f : Frm) : Bool := vfB f.w f.d f.xs
theorem anyR_no {q : Frm → Bool} {fs : List Frm} (hb : ∀ j, j < fs.length → q (fs.getD j zR) = false) : fs.any q = false := by
  rw [List.any_eq_false]
  intro x hx
  obtain ⟨j, hj, rfl⟩ := List.getElem_of_mem hx
  have := hb j hj
  simp [hj] at this
  simp [this]
theorem anyR_yes {q : Frm → Bool} {fs : List Frm} {k : Nat} (hk : k < fs.length) (h : q (fs.getD k zR) = true) : fs.any q = true := by
  refine List.any_eq_true.2 ⟨fs.getD k zR, ?_, h⟩
  simp [hk]
def ridx (q : Frm → Bool) (fs : List Frm) : Int := if fs.any q then (fs.findIdx q : Int) else -1
theorem ridx_at {q : Frm → Bool} {fs : List Frm} {k : Nat} (hk : k < fs.length) (h : q (fs.getD k zR) = true) (hb : ∀ j, j < k → q (fs.getD j zR) = false) : ridx q fs = k := by
  have hg : ∀ j (hj : j < fs.length), fs.getD j zR = fs[j] := fun j hj => by simp [hj]
  unfold ridx
  rw [if_pos (anyR_yes hk h)]
  congr 1
  rw [List.findIdx_eq hk]
  exact ⟨by rw [← hg k hk]; exact h, fun j hj => by rw [← hg j (by omega)]; exact hb j hj⟩
theorem ridx_no {q : Frm → Bool} {fs : List Frm} (hb : ∀ j, j < fs.length → q (fs.getD j zR) = false) : ridx q fs = -1 := by
  unfold ridx; rw [anyR_no hb]; rfl
theorem ridx_ge (q : Frm → Bool) (fs : List Frm) : decide (ridx q fs ≥ 0) = fs.any q := by
  unfold ridx
  cases fs.any q with
  | true => simp
  | false => simp
def afB (fs : List Frm) : Bool := !(fs.any fun f => !vR f) && decide ((fs.length : Int) ≤ 12)
-- @reg spec.l07Are : c_l07Are _ _ _ _ _ @RDR@ @BD@ (by assumption)
theorem c_l07Are (a : Option Addr) (n c : Nat) (fs : List Frm) (M : Mem) (h : RdR M a n fs) (hn : n ≤ 1073741824) (hxs : ∀ i, i < n → (fs.getD i zR).xs.length ≤ 1048576) :
    ACall Try.prog 40 [.slice a n c] M fun v M' => v = .bool (afB fs) ∧ M' = M := by
  obtain ⟨rfl, _⟩ := id h
  skip
  refine acall_of_awp Try.func40 rfl Try.ntmps40 rfl ?_
  refine cS (cR ?_)
  refine asg rfl ?_
  refine rN ?_
  refine qN ?_
  refine cS ?_
  refine cS (cR ?_)
  refine mv rfl ?_
  refine ln rfl ?_
  refine mv rfl ?_
  refine rN ?_
  refine qN ?_
  refine cB ?_
  refine cL1 (fun (i : Nat) => [(6, .int .i64 (i : Nat))]) [(0, _), (5, _)] (fun (i : Nat) => M) (fun (i : Nat) => fs.length - i) (fun (i : Nat) => i ≤ fs.length ∧ ∀ j, j < i → (!vR (fs.getD j zR)) = false) (0) (by repeat first | exact Sub.nil _ | refine Sub.cons rfl ?_) (by (try simp only [List.cons_append, List.nil_append, List.append_assoc]); repeat' first | with_reducible apply eR | with_reducible apply eA | ((with_reducible apply xA); · repeat first | with_reducible apply lH | with_reducible apply lT | with_reducible apply lL) | ((with_reducible apply xC); · repeat first | apply pH | with_reducible apply pT | with_reducible apply pL) | with_reducible assumption | with_reducible apply eS | with_reducible apply eL | exact eR) (by exact ⟨Nat.zero_le _, fun j hj => by omega⟩) ?_
  rintro i ⟨hi, hj⟩
  refine wT (T' := [(6, _), (0, _), (5, _)]) rfl ?_
  refine cS (cR ?_)
  refine bLss rfl rfl ?_
  refine rN ?_
  refine qN ?_
  refine cS ?_
  refine cC rfl (fun c1 => ?_) (fun c1 => ?_)
  · have c1' := c1; try simp only [inB_iff, Bool.and_eq_true, decide_eq_true_eq, decide_eq_false_iff_not, beq_iff_eq, beq_eq_false_iff_ne, bne_iff_ne, bne_eq_false_iff_eq, ne_eq] at c1'
    have hi2 : i < fs.length := by omega
    have hxi := hxs i hi2
    refine cK ?_
    refine qN ?_
    refine cS ?_
    refine cB ?_
    refine cS (cR ?_)
    refine mv rfl ?_
    refine asg rfl ?_
    refine rN ?_
    refine qN ?_
    refine cS (cR ?_)
    refine mv rfl ?_
    refine mv rfl ?_
    first
      | refine ixP rfl rfl (by first | (apply RdP.aok; with_reducible assumption) | exact AOk.own) (by first | with_reducible assumption | omega) ?_
      | refine ixR rfl rfl (by first | (apply RdR.aok; with_reducible assumption) | exact AOk.own) (by first | with_reducible assumption | omega) ?_
    refine rCq rfl (c_l07IsO _ _ _ _ (RdR.rat h hi2) (Nat.le_trans hxi (by decide))) ?_
    refine uNot rfl ?_
    refine rN ?_
    refine qN ?_
    refine cC rfl (fun hr => ?_) (fun hr => ?_)
    · replace hr := not_t hr
      have hr' := hr; try simp only [inB_iff, Bool.and_eq_true, decide_eq_true_eq, decide_eq_false_iff_not, beq_iff_eq, beq_eq_false_iff_ne, bne_iff_ne, bne_eq_false_iff_eq, ne_eq] at hr'
      have hany : (fs.any fun f => !vR f) = true := anyR_yes (k := i) hi2 (show (!vfB (fs.getD i zR).w (fs.getD i zR).d (fs.getD i zR).xs) = true by rw [hr]; rfl)
      refine cS (cR ?_)
      refine asg rfl ?_
      refine rN ?_
      refine qN ?_
      refine cE ?_
      refine qBE ?_
      refine qE ?_
      refine qL1E ?_
      refine qBE ?_
      refine qE ?_
      refine kE rfl rfl  ?_
      first | (exfalso; contradiction) | exact ⟨_, ⟨by rw [afB, hany]; rfl, rfl⟩, (by (try simp only [List.cons_append, List.nil_append, List.append_assoc]); repeat' first | with_reducible apply eR | with_reducible apply eA | ((with_reducible apply xA); · repeat first | with_reducible apply lH | with_reducible apply lT | with_reducible apply lL) | ((with_reducible apply xC); · repeat first | apply pH | with_reducible apply pT | with_reducible apply pL) | with_reducible assumption | with_reducible apply eS | with_reducible apply eL | exact eR)⟩ | (exfalso; first | contradiction | omega | (simp_all; done) | (simp_all; omega))
    · replace hr := not_f hr
      have hr' := hr; try simp only [inB_iff, Bool.and_eq_true, decide_eq_true_eq, decide_eq_false_iff_not, beq_iff_eq, beq_eq_false_iff_ne, bne_iff_ne, bne_eq_false_iff_eq, ne_eq] at hr'
      refine cK ?_
      refine qBN ?_
      refine qN ?_
      refine cR ?_
      first | refine rAn (b := 1) rfl rfl (by omega) ?_ | refine rA rfl rfl (by omega) (by omega) ?_ | refine bAdd rfl rfl ?_
      refine mv rfl ?_
      refine rN ?_
      refine qL1 (i + 1) ?_ (by omega) (by repeat first | exact Sub.nil _ | refine Sub.cons rfl ?_) (by (try simp only [List.cons_append, List.nil_append, List.append_assoc]); repeat' first | with_reducible apply eR | with_reducible apply eA | ((with_reducible apply xA); · repeat first | with_reducible apply lH | with_reducible apply lT | with_reducible apply lL) | ((with_reducible apply xC); · repeat first | apply pH | with_reducible apply pT | with_reducible apply pL) | with_reducible assumption | with_reducible apply eS | with_reducible apply eL | exact eR)
      refine ⟨by omega, fun j hj2 => ?_⟩
      by_cases e : j = i
      · subst e; show (!vfB _ _ _) = false; rw [hr]; rfl
      · exact hj j (by omega)
  · have c1' := c1; try simp only [inB_iff, Bool.and_eq_true, decide_eq_true_eq, decide_eq_false_iff_not, beq_iff_eq, beq_eq_false_iff_ne, bne_iff_ne, bne_eq_false_iff_eq, ne_eq] at c1'
    have hno : (fs.any fun f => !vR f) = false := anyR_no (fun j hj2 => hj j (by omega))
    refine cX ?_
    refine qX ?_
    refine qL1X ?_
    refine qBX ?_
    refine qN ?_
    refine cS (cR ?_)
    refine mv rfl ?_
    refine ln rfl ?_
    refine bLeq rfl rfl ?_
    refine asg rfl ?_
    refine rN ?_
    refine qN ?_
    refine cE ?_
    refine kE rfl rfl  ?_
    first | (exfalso; contradiction) | exact ⟨_, ⟨by rw [afB, hno]; rfl, rfl⟩, (by (try simp only [List.cons_append, List.nil_append, List.append_assoc]); repeat' first | with_reducible apply eR | with_reducible apply eA | ((with_reducible apply xA); · repeat first | with_reducible apply lH | with_reducible apply lT | with_reducible apply lL) | ((with_reducible apply xC); · repeat first | apply pH | with_reducible apply pT | with_reducible apply pL) | with_reducible assumption | with_reducible apply eS | with_reducible apply eL | exact eR)⟩ | (exfalso; first | contradiction | omega | (simp_all; done) | (simp_all; omega))
theorem c_AreFrames1 (f : Frm) (a : Option Addr) (c : Nat) (M : Mem) (h : RdF M a f.xs.length f.xs) (hn : f.xs.length ≤ 9223372036854775807) :
    ACall Try.prog 61 [.agg #[.int .i64 f.w, .int .i64 f.d, .slice a f.xs.length c]] M fun v M' => v = .bool (!vR f) ∧ M' = M := by
  refine acall_of_awp Try.func61 rfl Try.ntmps61 rfl ?_
  refine cS (cR ?_)
  first | (refine rXa rfl ?_; intro bk1) | (refine rX rfl rfl ?_; intro bk1)
  refine asg rfl ?_
  refine rN ?_
  refine qN ?_
  refine cS (cR ?_)
  refine rLA rfl (by repeat first | with_reducible assumption | with_reducible apply List.mem_cons_self | with_reducible apply List.mem_cons_of_mem | with_reducible apply List.mem_append_right | exact List.Mem.head _) rfl rfl ?_
  refine rCq rfl (c_implValidFrame _ _ _ _ _ _ _ (by first | with_reducible assumption | ((try first | with_reducible apply RdF.sub | with_reducible apply RdF.sub0) <;> first | with_reducible assumption | (apply RdF.mono; (· (with_reducible assumption)); · (try simp only [List.cons_append, List.nil_append, List.append_assoc]); repeat' first | with_reducible apply eR | with_reducible apply eA | ((with_reducible apply xA); · repeat first | with_reducible apply lH | with_reducible apply lT | with_reducible apply lL) | ((with_reducible apply xC); · repeat first | apply pH | with_reducible apply pT | with_reducible apply pL) | with_reducible assumption | with_reducible apply eS | with_reducible apply eL | exact eR) | (apply RdF.mono; (· (apply OwF.rdF; with_reducible assumption)); · (try simp only [List.cons_append, List.nil_append, List.append_assoc]); repeat' first | with_reducible apply eR | with_reducible apply eA | ((with_reducible apply xA); · repeat first | with_reducible apply lH | with_reducible apply lT | with_reducible apply lL) | ((with_reducible apply xC); · repeat first | apply pH | with_reducible apply pT | with_reducible apply pL) | with_reducible assumption | with_reducible apply eS | with_reducible apply eL | exact eR) | (apply RdF.ownm; (· repeat first | with_reducible assumption | with_reducible apply List.mem_cons_self | with_reducible apply List.mem_cons_of_mem | with_reducible apply List.mem_append_right | exact List.Mem.head _); · first | rfl | with_reducible assumption | omega | simp [*]) | with_reducible assumption | omega | (simp; done) | (simp; omega) | (simp only [Bool.and_eq_true, inB_iff] at *; omega))) (by first | with_reducible assumption | omega | (simp only [Bool.and_eq_true, inB_iff] at *; omega))) ?_
  refine uNot rfl ?_
  refine asg rfl ?_
  refine rN ?_
  refine qN ?_
  refine cE ?_
  refine kE rfl rfl  ?_
  first | (exfalso; contradiction) | exact ⟨_, ⟨rfl, rfl⟩, (by (try simp only [List.cons_append, List.nil_append, List.append_assoc]); repeat' first | with_reducible apply eR | with_reducible apply eA | ((with_reducible apply xA); · repeat first | with_reducible apply lH | with_reducible apply lT | with_reducible apply lL) | ((with_reducible apply xC); · repeat first | apply pH | with_reducible apply pT | with_reducible apply pL) | with_reducible assumption | with_reducible apply eS | with_reducible apply eL | exact eR)⟩ | exact ⟨_, ⟨by first | (simp_all; done) | (simp_all; intros; omega), rfl⟩, (by (try simp only [List.cons_append, List.nil_append, List.append_assoc]); repeat' first | with_reducible apply eR | with_reducible apply eA | ((with_reducible apply xA); · repeat first | with_reducible apply lH | with_reducible apply lT | with_reducible apply lL) | ((with_reducible apply xC); · repeat first | apply pH | with_reducible apply pT | with_reducible apply pL) | with_reducible assumption | with_reducible apply eS | with_reducible apply eL | exact eR)⟩ | (exfalso; first | contradiction | omega | (simp_all; done) | (simp_all; omega))
theorem c_indexFuncR (a : Option Addr) (n c : Nat) (fs : List Frm) (M : Mem) (h : RdR M a n fs) (hn : n ≤ 1073741824) (hxs : ∀ i, i < n → (fs.getD i zR).xs.length ≤ 1048576) :
    ACall Try.prog 62 [.slice a n c, .func (.func 61) #[] #[]] M fun v M' => v = .int .i64 (ridx (fun f => !vR f) fs) ∧ M' = M := by
  obtain ⟨rfl, _⟩ := id h
  refine acall_of_awp Try.func62 rfl Try.ntmps62 rfl ?_
  refine cS (cR ?_)
  refine asg rfl ?_
  refine rN ?_
  refine qN ?_
  refine cS ?_
  refine cS (cR ?_)
  refine mv rfl ?_
  refine ln rfl ?_
  refine mv rfl ?_
  refine rN ?_
  refine qN ?_
  refine cB ?_
  refine cL1 (fun (k : Nat) => [(8, .int .i64 (k : Nat))]) [(0, _), (1, _), (7, _)] (fun (k : Nat) => M) (fun (k : Nat) => fs.length - k) (fun (k : Nat) => k ≤ fs.length ∧ ∀ j, j < k → (!vR (fs.getD j zR)) = false) (0) (by repeat first | exact Sub.nil _ | refine Sub.cons rfl ?_) (by (try simp only [List.cons_append, List.nil_append, List.append_assoc]); repeat' first | with_reducible apply eR | with_reducible apply eA | ((with_reducible apply xA); · repeat first | with_reducible apply lH | with_reducible apply lT | with_reducible apply lL) | ((with_reducible apply xC); · repeat first | apply pH | with_reducible apply pT | with_reducible apply pL) | with_reducible assumption | with_reducible apply eS | with_reducible apply eL | exact eR) (by exact ⟨Nat.zero_le _, fun j hj => by omega⟩) ?_
  rintro k ⟨hk, hj⟩
  refine wT (T' := [(8, _), (0, _), (1, _), (7, _)]) rfl ?_
  refine cS (cR ?_)
  refine bLss rfl rfl ?_
  refine rN ?_
  refine qN ?_
  refine cS ?_
  refine cC rfl (fun c1 => ?_) (fun c1 => ?_)
  · have c1' := c1; try simp only [inB_iff, Bool.and_eq_true, decide_eq_true_eq, decide_eq_false_iff_not, beq_iff_eq, beq_eq_false_iff_ne, bne_iff_ne, bne_eq_false_iff_eq, ne_eq] at c1'
    have hk2 : k < fs.length := by omega
    have hxk := hxs k hk2
    refine cK ?_
    refine qN ?_
    refine cS ?_
    refine cB ?_
    refine cS (cR ?_)
    refine mv rfl ?_
    refine asg rfl ?_
    refine rN ?_
    refine qN ?_
    refine cS (cR ?_)
    refine mv rfl ?_
    refine mv rfl ?_
    refine mv rfl ?_
    first
      | refine ixP rfl rfl (by first | (apply RdP.aok; with_reducible assumption) | exact AOk.own) (by first | with_reducible assumption | omega) ?_
      | refine ixR rfl rfl (by first | (apply RdR.aok; with_reducible assumption) | exact AOk.own) (by first | with_reducible assumption | omega) ?_
    first | refine ldP rfl (by (first | with_reducible assumption | (apply RdP.mono; (· with_reducible assumption); · (try simp only [List.cons_append, List.nil_append, List.append_assoc]); repeat' first | with_reducible apply eR | with_reducible apply eA | ((with_reducible apply xA); · repeat first | with_reducible apply lH | with_reducible apply lT | with_reducible apply lL) | ((with_reducible apply xC); · repeat first | apply pH | with_reducible apply pT | with_reducible apply pL) | with_reducible assumption | with_reducible apply eS | with_reducible apply eL | exact eR) | (apply RdP.mono; (· (apply OwP.rdP; with_reducible assumption)); · (try simp only [List.cons_append, List.nil_append, List.append_assoc]); repeat' first | with_reducible apply eR | with_reducible apply eA | ((with_reducible apply xA); · repeat first | with_reducible apply lH | with_reducible apply lT | with_reducible apply lL) | ((with_reducible apply xC); · repeat first | apply pH | with_reducible apply pT | with_reducible apply pL) | with_reducible assumption | with_reducible apply eS | with_reducible apply eL | exact eR))) (by first | with_reducible assumption | omega) ?_ | (refine ldR rfl (by (first | with_reducible assumption | (apply RdR.mono; (· with_reducible assumption); · (try simp only [List.cons_append, List.nil_append, List.append_assoc]); repeat' first | with_reducible apply eR | with_reducible apply eA | ((with_reducible apply xA); · repeat first | with_reducible apply lH | with_reducible apply lT | with_reducible apply lL) | ((with_reducible apply xC); · repeat first | apply pH | with_reducible apply pT | with_reducible apply pL) | with_reducible assumption | with_reducible apply eS | with_reducible apply eL | exact eR) | (apply RdR.mono; (· (apply OwR.rdR; with_reducible assumption)); · (try simp only [List.cons_append, List.nil_append, List.append_assoc]); repeat' first | with_reducible apply eR | with_reducible apply eA | ((with_reducible apply xA); · repeat first | with_reducible apply lH | with_reducible apply lT | with_reducible apply lL) | ((with_reducible apply xC); · repeat first | apply pH | with_reducible apply pT | with_reducible apply pL) | with_reducible assumption | with_reducible apply eS | with_reducible apply eL | exact eR))) (by first | with_reducible assumption | omega) ?_; intro aRr cRr hRr)
    refine rV (fi := []) (ca := []) rfl rfl rfl rfl (c_AreFrames1 (fs.getD k zR) _ _ _ (by assumption) (by omega)) ?_
    rintro _ _ ⟨rfl, rfl⟩
    refine ⟨fun _ => eR, ?_⟩
    refine rN ?_
    refine qN ?_
    refine cC rfl (fun hr => ?_) (fun hr => ?_)
    · have hr' := hr; try simp only [inB_iff, Bool.and_eq_true, decide_eq_true_eq, decide_eq_false_iff_not, beq_iff_eq, beq_eq_false_iff_ne, bne_iff_ne, bne_eq_false_iff_eq, ne_eq] at hr'
      refine cS (cR ?_)
      refine mv rfl ?_
      refine asg rfl ?_
      refine rN ?_
      refine qN ?_
      refine cE ?_
      refine qBE ?_
      refine qE ?_
      refine qL1E ?_
      refine qBE ?_
      refine qE ?_
      refine kE rfl rfl  ?_
      first | (exfalso; contradiction) | exact ⟨_, ⟨by rw [ridx_at (k := k) hk2 (by first | exact hr | (rw [hr]; rfl)) hj], rfl⟩, (by (try simp only [List.cons_append, List.nil_append, List.append_assoc]); repeat' first | with_reducible apply eR | with_reducible apply eA | ((with_reducible apply xA); · repeat first | with_reducible apply lH | with_reducible apply lT | with_reducible apply lL) | ((with_reducible apply xC); · repeat first | apply pH | with_reducible apply pT | with_reducible apply pL) | with_reducible assumption | with_reducible apply eS | with_reducible apply eL | exact eR)⟩ | (exfalso; first | contradiction | omega | (simp_all; done) | (simp_all; omega))
    · have hr' := hr; try simp only [inB_iff, Bool.and_eq_true, decide_eq_true_eq, decide_eq_false_iff_not, beq_iff_eq, beq_eq_false_iff_ne, bne_iff_ne, bne_eq_false_iff_eq, ne_eq] at hr'
      refine cK ?_
      refine qBN ?_
      refine qN ?_
      refine cR ?_
      first | refine rAn (b := 1) rfl rfl (by omega) ?_ | refine rA rfl rfl (by omega) (by omega) ?_ | refine bAdd rfl rfl ?_
      refine mv rfl ?_
      refine rN ?_
      refine qL1 (k + 1) ?_ (by omega) (by repeat first | exact Sub.nil _ | refine Sub.cons rfl ?_) (by (try simp only [List.cons_append, List.nil_append, List.append_assoc]); repeat' first | with_reducible apply eR | with_reducible apply eA | ((with_reducible apply xA); · repeat first | with_reducible apply lH | with_reducible apply lT | with_reducible apply lL) | ((with_reducible apply xC); · repeat first | apply pH | with_reducible apply pT | with_reducible apply pL) | with_reducible assumption | with_reducible apply eS | with_reducible apply eL | exact eR)
      refine ⟨by omega, fun j hj2 => ?_⟩
      by_cases e : j = k
      · subst e; first | exact hr | (rw [hr]; rfl)
      · exact hj j (by omega)
  · have c1' := c1; try simp only [inB_iff, Bool.and_eq_true, decide_eq_true_eq, decide_eq_false_iff_not, beq_iff_eq, beq_eq_false_iff_ne, bne_iff_ne, bne_eq_false_iff_eq, ne_eq] at c1'
    refine cX ?_
    refine qX ?_
    refine qL1X ?_
    refine qBX ?_
    refine qN ?_
    refine cS (cR ?_)
    refine asg rfl ?_
    refine rN ?_
    refine qN ?_
    refine cE ?_
    refine kE rfl rfl  ?_
    first | (exfalso; contradiction) | exact ⟨_, ⟨by rw [ridx_no (fun j hj2 => hj j (by omega))], rfl⟩, (by (try simp only [List.cons_append, List.nil_append, List.append_assoc]); repeat' first | with_reducible apply eR | with_reducible apply eA | ((with_reducible apply xA); · repeat first | with_reducible apply lH | with_reducible apply lT | with_reducible apply lL) | ((with_reducible apply xC); · repeat first | apply pH | with_reducible apply pT | with_reducible apply pL) | with_reducible assumption | with_reducible apply eS | with_reducible apply eL | exact eR)⟩ | (exfalso; first | contradiction | omega | (simp_all; done) | (simp_all; omega))
theorem c_containsFuncR (a : Option Addr) (n c : Nat) (fs : List Frm) (M : Mem) (h : RdR M a n fs) (hn : n ≤ 1073741824) (hxs : ∀ i, i < n → (fs.getD i zR).xs.length ≤ 1048576) :
    ACall Try.prog 43 [.slice a n c, .func (.func 61) #[] #[]] M fun v M' => v = .bool (fs.any fun f => !vR f) ∧ M' = M := by
  skip
  refine acall_of_awp Try.func43 rfl Try.ntmps43 rfl ?_
  refine cS (cR ?_)
  refine asg rfl ?_
  refine rN ?_
  refine qN ?_
  refine cS (cR ?_)
  refine mv rfl ?_
  refine mv rfl ?_
  refine rCq rfl (c_indexFuncR _ _ _ _ _ (by (first | with_reducible assumption | (apply RdR.mono; (· with_reducible assumption); · (try simp only [List.cons_append, List.nil_append, List.append_assoc]); repeat' first | with_reducible apply eR | with_reducible apply eA | ((with_reducible apply xA); · repeat first | with_reducible apply lH | with_reducible apply lT | with_reducible apply lL) | ((with_reducible apply xC); · repeat first | apply pH | with_reducible apply pT | with_reducible apply pL) | with_reducible assumption | with_reducible apply eS | with_reducible apply eL | exact eR) | (apply RdR.mono; (· (apply OwR.rdR; with_reducible assumption)); · (try simp only [List.cons_append, List.nil_append, List.append_assoc]); repeat' first | with_reducible apply eR | with_reducible apply eA | ((with_reducible apply xA); · repeat first | with_reducible apply lH | with_reducible apply lT | with_reducible apply lL) | ((with_reducible apply xC); · repeat first | apply pH | with_reducible apply pT | with_reducible apply pL) | with_reducible assumption | with_reducible apply eS | with_reducible apply eL | exact eR))) (by first | with_reducible assumption | omega | (simp only [Bool.and_eq_true, inB_iff] at *; omega)) (by assumption)) ?_
  refine bGeq rfl rfl ?_
  refine asg rfl ?_
  refine rN ?_
  refine qN ?_
  refine cE ?_
  refine kE rfl rfl  ?_
  first | (exfalso; contradiction) | exact ⟨_, ⟨by rw [ridx_ge], rfl⟩, (by (try simp only [List.cons_append, List.nil_append, List.append_assoc]); repeat' first | with_reducible apply eR | with_reducible apply eA | ((with_reducible apply xA); · repeat first | with_reducible apply lH | with_reducible apply lT | with_reducible apply lL) | ((with_reducible apply xC); · repeat first | apply pH | with_reducible apply pT | with_reducible apply pL) | with_reducible assumption | with_reducible apply eS | with_reducible apply eL | exact eR)⟩ | (exfalso; first | contradiction | omega | (simp_all; done) | (simp_all; omega))
theorem c_implAreFrames (a : Option Addr) (n c : Nat) (fs : List Frm) (M : Mem) (h : RdR M a n fs) (hn : n ≤ 1073741824) (hxs : ∀ i, i < n → (fs.getD i zR).xs.length ≤ 1048576) :
    ACall Try.prog 42 [.slice a n c] M fun v M' => v = .bool (afB fs) ∧ M' = M := by
  obtain ⟨rfl, _⟩ := id h
  skip
  refine acall_of_awp Try.func42 rfl Try.ntmps42 rfl ?_
  refine cS (cR ?_)
  refine asg rfl ?_
  refine rN ?_
  refine qN ?_
  refine cS (cR ?_)
  refine mv rfl ?_
  refine ln rfl ?_
  refine bLeq rfl rfl ?_
  refine mv rfl ?_
  refine gC rfl rfl (fun c1 => ?_) (fun c1 => ?_)
  · have c1' := c1; try simp only [inB_iff, Bool.and_eq_true, decide_eq_true_eq, decide_eq_false_iff_not, beq_iff_eq, beq_eq_false_iff_ne, bne_iff_ne, bne_eq_false_iff_eq, ne_eq] at c1'
    refine gG rfl rfl c1 ?_
    refine mv rfl ?_
    refine gG rfl rfl c1 ?_
    refine rCq rfl (c_containsFuncR _ _ _ _ _ (by (first | with_reducible assumption | (apply RdR.mono; (· with_reducible assumption); · (try simp only [List.cons_append, List.nil_append, List.append_assoc]); repeat' first | with_reducible apply eR | with_reducible apply eA | ((with_reducible apply xA); · repeat first | with_reducible apply lH | with_reducible apply lT | with_reducible apply lL) | ((with_reducible apply xC); · repeat first | apply pH | with_reducible apply pT | with_reducible apply pL) | with_reducible assumption | with_reducible apply eS | with_reducible apply eL | exact eR) | (apply RdR.mono; (· (apply OwR.rdR; with_reducible assumption)); · (try simp only [List.cons_append, List.nil_append, List.append_assoc]); repeat' first | with_reducible apply eR | with_reducible apply eA | ((with_reducible apply xA); · repeat first | with_reducible apply lH | with_reducible apply lT | with_reducible apply lL) | ((with_reducible apply xC); · repeat first | apply pH | with_reducible apply pT | with_reducible apply pL) | with_reducible assumption | with_reducible apply eS | with_reducible apply eL | exact eR))) (by first | with_reducible assumption | omega | (simp only [Bool.and_eq_true, inB_iff] at *; omega)) (by assumption)) ?_
    refine gG rfl rfl c1 ?_
    refine uNot rfl ?_
    refine kT rfl c1 rfl ?_
    refine asg rfl ?_
    refine rN ?_
    refine qN ?_
    refine cE ?_
    refine kE rfl rfl  ?_
    first | (exfalso; contradiction) | exact ⟨_, ⟨by first | (simp only [afB, c1, Bool.true_and, Bool.and_true, Bool.false_and, Bool.and_false, Bool.or_false, Bool.false_or, Bool.or_true, Bool.true_or, Bool.not_true, Bool.not_false, if_true, if_false, Bool.false_eq_true, decide_true, decide_false, cond_true, cond_false]; done) | (rw [afB, c1, Bool.and_true]; done), rfl⟩, (by (try simp only [List.cons_append, List.nil_append, List.append_assoc]); repeat' first | with_reducible apply eR | with_reducible apply eA | ((with_reducible apply xA); · repeat first | with_reducible apply lH | with_reducible apply lT | with_reducible apply lL) | ((with_reducible apply xC); · repeat first | apply pH | with_reducible apply pT | with_reducible apply pL) | with_reducible assumption | with_reducible apply eS | with_reducible apply eL | exact eR)⟩ | (exfalso; first | contradiction | omega | (simp_all; done) | (simp_all; omega))
  · have c1' := c1; try simp only [inB_iff, Bool.and_eq_true, decide_eq_true_eq, decide_eq_false_iff_not, beq_iff_eq, beq_eq_false_iff_ne, bne_iff_ne, bne_eq_false_iff_eq, ne_eq] at c1'
    refine gS rfl rfl c1 ?_
    refine gS rfl rfl c1 ?_
    refine gS rfl rfl c1 ?_
    refine kF rfl c1 rfl ?_
    refine asg rfl ?_
    refine rN ?_
    refine qN ?_
    refine cE ?_
    refine kE rfl rfl  ?_
    first | (exfalso; contradiction) | exact ⟨_, ⟨by first | (simp only [afB, c1, Bool.true_and, Bool.and_true, Bool.false_and, Bool.and_false, Bool.or_false, Bool.false_or, Bool.or_true, Bool.true_or, Bool.not_true, Bool.not_false, if_true, if_false, Bool.false_eq_true, decide_true, decide_false, cond_true, cond_false]; done) | (rw [afB, c1, Bool.and_true]; done), rfl⟩, (by (try simp only [List.cons_append, List.nil_append, List.append_assoc]); repeat' first | with_reducible apply eR | with_reducible apply eA | ((with_reducible apply xA); · repeat first | with_reducible apply lH | with_reducible apply lT | with_reducible apply lL) | ((with_reducible apply xC); · repeat first | apply pH | with_reducible apply pT | with_reducible apply pL) | with_reducible assumption | with_reducible apply eS | with_reducible apply eL | exact eR)⟩ | (exfalso; first | contradiction | omega | (simp_all; done) | (simp_all; omega))
end Go.Proofs.Ytnikglngipbahaa.Ab
