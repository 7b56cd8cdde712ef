/-
  Hits of cells: plain laws; the reference's walk.
-/
import Derived.Test.YtkbpdgacfeachaaPe
import Derived.Test.YtkbpdgacfeachaaDl
import Derived.Test.YtkbpdgacfeachaaAk
namespace Go.Proofs.Ytkbpdgacfeachaa.Ab
open Go Go.RowKit
attribute [local irreducible] Run Then InBlock LoopQ LQ1 LQ2 LQ3 LQ4 LQ5 LQ6 AWp Ret ACall
set_option linter.unusedVariables false
set_option linter.unusedSimpArgs false

/-! ## plain laws -/
/-- one more at each of these cells -/
def adS (out : List Int) (cs : List Int) : List Int := (List.range out.length).map fun k => out.getD k 0 + (if ((k : Nat) : Int) ∈ cs then 1 else 0)
theorem adS_len (out cs : List Int) : (adS out cs).length = out.length := by simp [adS]
theorem adS_get {out cs : List Int} {k : Nat} (h : k < out.length) : (adS out cs).getD k 0 = out.getD k 0 + (if ((k : Nat) : Int) ∈ cs then 1 else 0) := by
  simp [adS, List.getD, h]
theorem list_ext {a b : List Int} (h : a.length = b.length) (k : ∀ i, i < a.length → a.getD i 0 = b.getD i 0) : a = b := by
  apply List.ext_getElem h
  intro i h1 h2
  have := k i h1
  simpa [List.getD, h1, h2] using this
theorem adS_nil (out : List Int) : adS out [] = out := by
  refine list_ext (adS_len _ _) fun i hi => ?_
  rw [adS_len] at hi
  rw [adS_get hi]; simp
theorem adS_congr {out cs ds : List Int} (h : ∀ x, x ∈ cs ↔ x ∈ ds) : adS out cs = adS out ds := by
  unfold adS
  refine List.map_congr_left fun k _ => ?_
  simp only [h]
theorem adS_old {out cs : List Int} {v : Int} (h : v ∈ cs) : adS out (cs ++ [v]) = adS out cs := adS_congr fun x => by
  simp only [List.mem_append, List.mem_singleton]
  constructor
  · rintro (h1 | rfl)
    · exact h1
    · exact h
  · exact .inl
theorem adS_new {out cs : List Int} {v : Int} (h : v ∉ cs) (h0 : 0 ≤ v) (hv : v.toNat < out.length) : (adS out cs).set v.toNat ((adS out cs).getD v.toNat 0 + 1) = adS out (cs ++ [v]) := by
  have e : ((v.toNat : Nat) : Int) = v := Int.toNat_of_nonneg h0
  refine list_ext (by rw [List.length_set, adS_len, adS_len]) fun i hi => ?_
  rw [List.length_set, adS_len] at hi
  rw [adS_get hi, adS_get hv, e, if_neg h]
  rw [List.getD_eq_getElem?_getD, List.getElem?_set, adS_len]
  by_cases hiv : v.toNat = i
  · subst hiv
    rw [if_pos rfl, if_pos hv, Option.getD_some, e, if_pos (List.mem_append_right _ (List.mem_singleton.2 rfl))]
    omega
  · rw [if_neg hiv, ← List.getD_eq_getElem?_getD, adS_get hi]
    have hne : ((i : Nat) : Int) ≠ v := fun e2 => hiv (by omega)
    congr 1
    simp [hne]
theorem adS_le {out cs : List Int} {B : Int} (h : ∀ i, i < out.length → 0 ≤ out.getD i 0 ∧ out.getD i 0 ≤ B) : ∀ i, i < out.length → 0 ≤ (adS out cs).getD i 0 ∧ (adS out cs).getD i 0 ≤ B + 1 := by
  intro i hi
  rw [adS_get hi]
  have := h i hi
  split <;> omega
/-- which cells have been met -/
def seF (m : Nat) (cs : List Int) : List Value := (List.range m).map fun k => .bool (decide (((k : Nat) : Int) ∈ cs))
theorem seF_len (m : Nat) (cs : List Int) : (seF m cs).length = m := by simp [seF]
theorem seF_nil (m : Nat) : seF m [] = List.replicate m (.bool false) := by
  apply List.ext_getElem
  · simp [seF]
  · intro i h1 h2; simp [seF]
theorem seF_get {m : Nat} {cs : List Int} {v : Int} (h0 : 0 ≤ v) (hv : v.toNat < m) : (seF m cs).getD v.toNat zS = .bool (decide (v ∈ cs)) := by
  have e : ((v.toNat : Nat) : Int) = v := Int.toNat_of_nonneg h0
  simp [seF, List.getD, hv, e]
theorem seF_old {m : Nat} {cs : List Int} {v : Int} (h : v ∈ cs) : seF m (cs ++ [v]) = seF m cs := by
  unfold seF
  refine List.map_congr_left fun k _ => ?_
  have : ((k : Nat) : Int) ∈ cs ++ [v] ↔ ((k : Nat) : Int) ∈ cs := by
    simp only [List.mem_append, List.mem_singleton]
    exact ⟨fun hh => hh.elim id fun e => e ▸ h, .inl⟩
  simp only [this]
theorem seF_new {m : Nat} {cs : List Int} {v : Int} (h0 : 0 ≤ v) (hv : v.toNat < m) : (seF m cs).set v.toNat (.bool true) = seF m (cs ++ [v]) := by
  have e : ((v.toNat : Nat) : Int) = v := Int.toNat_of_nonneg h0
  apply List.ext_getElem
  · simp [seF]
  · intro i h1 h2
    rw [List.getElem_set]
    split
    · rename_i hi; subst hi
      simp [seF, e]
    · rename_i hi
      have hne : ((i : Nat) : Int) ≠ v := fun e2 => hi (by omega)
      simp [seF, hne]
/-- the hits of the first paths -/
def hiF (w d : Int) (ps : List Pth) (parts : Nat) : Nat → List Int
  | 0 => List.replicate (w * d).toNat 0
  | i + 1 => adS (hiF w d ps parts i) (ceL w d (ps.getD i zP) parts parts)
theorem hiF_len (w d : Int) (ps : List Pth) (parts : Nat) : ∀ i, (hiF w d ps parts i).length = (w * d).toNat
  | 0 => by simp [hiF]
  | i + 1 => by rw [hiF, adS_len, hiF_len w d ps parts i]
theorem hiF_le (w d : Int) (ps : List Pth) (parts : Nat) : ∀ i, ∀ k, k < (hiF w d ps parts i).length → 0 ≤ (hiF w d ps parts i).getD k 0 ∧ (hiF w d ps parts i).getD k 0 ≤ (i : Nat)
  | 0, k, hk => by
    have hk' : k < (w * d).toNat := by simpa [hiF] using hk
    simp [hiF, List.getD, List.getElem?_replicate, hk']
  | i + 1, k, hk => by
    rw [hiF, adS_len] at hk
    have := adS_le (cs := ceL w d (ps.getD i zP) parts parts) (hiF_le w d ps parts i) k hk
    rw [hiF]
    omega
/-! ## memory made -/
section
variable {P : Program} {n : Nat} {T : Tm} {M : Mem} {ops : Array Oper} {st : Option (List Nat)} {Q : Tm → Mem → Prop} {fl : Bool} {l : List (Oper × Bool)} {d : Option Nat} {ty : Nat} {pos : String} {after : Array Edge}
theorem OwI.zeros (b c : Nat) : OwI [(b, ⟨List.replicate c (.int .i64 0), true⟩)] (.slice (some ⟨b, 0, none⟩) c c) (List.replicate c 0) :=
  .inr ⟨b, c, [], by rw [List.length_replicate], by simp, by simp [iL]⟩
theorem mkI0 {t e bytes : Nat} [hu : UnderT P t (.slice e)] [hi : InfoT P e 1 bytes (.int .i64 0)] {x y : Operand} {kx ky : IntKind} {c : Nat} (ex : ev T x = some (.int kx (c : Nat))) (ey : ev T y = some (.int ky (c : Nat)))
    (hc : c * bytes ≤ 281474976710656) (hc2 : c ≤ 4611686018427387904) (kk : ∀ b L, OwI L (.slice (some ⟨b, 0, none⟩) c c) (List.replicate c 0) → Run P n ops st Q l (putT n d (.slice (some ⟨b, 0, none⟩) c c) T) (L ++ M)) :
    Run P n ops st Q ((⟨d, .makeSlice t x y, ty, pos, after, none⟩, false) :: l) T M :=
  rM (m := (c : Int)) (c := (c : Int)) ex ey rfl (by omega) (by omega) (by omega) (by omega) (fun b => by simpa using kk b _ (OwI.zeros b c))
theorem OwV.falses (b c : Nat) : OwV [(b, ⟨List.replicate c (.bool false), true⟩)] (.slice (some ⟨b, 0, none⟩) c c) (List.replicate c (.bool false)) :=
  .inr ⟨b, c, [], by rw [List.length_replicate], by simp, by simp⟩
theorem mkB0 {t e bytes : Nat} [hu : UnderT P t (.slice e)] [hi : InfoT P e 1 bytes (.bool false)] {x y : Operand} {kx ky : IntKind} {c : Nat} (ex : ev T x = some (.int kx (c : Nat))) (ey : ev T y = some (.int ky (c : Nat)))
    (hc : c * bytes ≤ 281474976710656) (hc2 : c ≤ 4611686018427387904) (kk : ∀ b L, OwV L (.slice (some ⟨b, 0, none⟩) c c) (List.replicate c (.bool false)) → Run P n ops st Q l (putT n d (.slice (some ⟨b, 0, none⟩) c c) T) (L ++ M)) :
    Run P n ops st Q ((⟨d, .makeSlice t x y, ty, pos, after, none⟩, false) :: l) T M :=
  rM (m := (c : Int)) (c := (c : Int)) ex ey rfl (by omega) (by omega) (by omega) (by omega) (fun b => by simpa using kk b _ (OwV.falses b c))
end
/-- a list of integers and a bool -/
def ResI (B : Bool) (is : List Int) (r : Value) (L : Mem) : Prop := ∃ v, r = .tuple #[v, .bool B] ∧ OwI L v (bif B then is else [])
theorem ResI.no {B : Bool} {is : List Int} (h : B = false) : ResI B is (.tuple #[.slice none 0 0, .bool false]) [] := by subst h; exact ⟨_, rfl, OwI.nil⟩
theorem ResI.yes {B : Bool} {v : Value} {is : List Int} {L : Mem} (h : B = true) (ho : OwI L v is) : ResI B is (.tuple #[v, .bool true]) L := by subst h; exact ⟨_, rfl, ho⟩
theorem OwV.rdV {L : Mem} {a : Option Addr} {m c : Nat} {is : List Value} (h : OwV L (.slice a m c) is) : RdW L a m is := by
  obtain ⟨_, _, hv, h⟩ := h.rd
  obtain ⟨rfl, h2, _⟩ := Value.slice.inj hv
  rw [h2]; exact h
def htB (w d : Int) (ps : List Pth) (parts : Int) : Bool := szB w d && (ppB ps && inB parts 1 256)
theorem ppB_atH {ps : List Pth} (h : ppB ps = true) {i : Nat} (hi : i < ps.length) : ptB (ps.getD i zP) = true := by
  unfold ppB at h
  rw [Bool.and_eq_true] at h
  have h2 : (ps.any fun p => !ptB p) = false := by have := h.2; revert this; cases (ps.any fun p => !ptB p) <;> simp
  have := List.any_eq_false.1 h2 (ps.getD i zP) (by simp [List.getD, hi])
  simpa using this
theorem ppB_len {ps : List Pth} (h : ppB ps = true) : ps.length ≤ 32 := by
  unfold ppB at h
  rw [Bool.and_eq_true] at h
  have := (inB_iff.1 h.1).2
  omega
set_option maxHeartbeats 1000000 in
theorem c_specHitsOf (w d : Int) (a : Option Addr) (n c : Nat) (ps : List Pth) (parts : Int) (M : Mem) (h : RdP M a n ps) (hn : n ≤ 1073741824) :
    ACall Try.prog 18 [.int .i64 w, .int .i64 d, .slice a n c, .int .i64 parts] M fun v M' => ∃ L, ResI (htB w d ps parts) (hiF w d ps parts.toNat ps.length) v L ∧ M' = L ++ M := by
  obtain ⟨rfl, _⟩ := id h
  skip
  skip
  skip
  skip
  skip
  skip
  skip
  skip
  skip
  skip
  skip
  skip
  refine acall_of_awp Try.func18 rfl Try.ntmps18 rfl ?_
  refine cS (cR ?_)
  refine asg rfl ?_
  refine asg rfl ?_
  refine rN ?_
  refine qN ?_
  refine cS ?_
  refine cS (cR ?_)
  refine mv rfl ?_
  refine mv rfl ?_
  refine rCq rfl (c_l06Size _ _ _) ?_
  refine uNot rfl ?_
  refine mv rfl ?_
  refine gC rfl rfl (fun c1 => ?_) (fun c1 => ?_)
  · replace c1 := not_t c1
    have c1' := c1; try simp only [inB_iff, Bool.and_eq_true, decide_eq_true_eq, decide_eq_false_iff_not, beq_iff_eq, beq_eq_false_iff_ne, bne_iff_ne, bne_eq_false_iff_eq, ne_eq] at c1'
    refine gU rfl rfl (bnot_f c1) ?_
    refine gU rfl rfl (bnot_f c1) ?_
    refine gU rfl rfl (bnot_f c1) ?_
    refine kT rfl (bnot_f c1) rfl ?_
    refine mv rfl ?_
    refine gU rfl rfl rfl ?_
    refine gU rfl rfl rfl ?_
    refine gU rfl rfl rfl ?_
    refine kT rfl rfl rfl ?_
    refine rN ?_
    refine qN ?_
    refine cT rfl ?_
    refine cS (cR ?_)
    refine asg rfl ?_
    refine asg rfl ?_
    refine rN ?_
    refine qN ?_
    refine cE ?_
    refine qE ?_
    refine kE2 rfl rfl rfl rfl rfl  ?_
    first | (exfalso; contradiction) | exact ⟨_, ⟨_, ResI.no (by first | (rw [htB, c1]; rfl) | (rw [htB, c1, c2]; rfl) | (rw [htB, c1, c2, c3]; rfl)), rfl⟩, (by (try simp only [List.cons_append, List.nil_append, List.append_assoc]); repeat' first | with_reducible apply eR | with_reducible apply eA | ((with_reducible apply xA); · repeat first | with_reducible apply lH | with_reducible apply lT | with_reducible apply lL) | ((with_reducible apply xC); · repeat first | apply pH | with_reducible apply pT | with_reducible apply pL) | with_reducible assumption | with_reducible apply eS | with_reducible apply eL | exact eR)⟩ | (exfalso; first | contradiction | omega | (simp_all; done) | (simp_all; omega))
  replace c1 := not_f c1
  have c1' := c1; try simp only [inB_iff, Bool.and_eq_true, decide_eq_true_eq, decide_eq_false_iff_not, beq_iff_eq, beq_eq_false_iff_ne, bne_iff_ne, bne_eq_false_iff_eq, ne_eq] at c1'
  refine gG rfl rfl (bnot_t c1) ?_
  refine mv rfl ?_
  refine gG rfl rfl (bnot_t c1) ?_
  refine rCq rfl (c_l06Paths _ _ _ _ _ (by (first | with_reducible assumption | (apply RdP.mono; (· with_reducible assumption); · (try simp only [List.cons_append, List.nil_append, List.append_assoc]); repeat' first | with_reducible apply eR | with_reducible apply eA | ((with_reducible apply xA); · repeat first | with_reducible apply lH | with_reducible apply lT | with_reducible apply lL) | ((with_reducible apply xC); · repeat first | apply pH | with_reducible apply pT | with_reducible apply pL) | with_reducible assumption | with_reducible apply eS | with_reducible apply eL | exact eR) | (apply RdP.mono; (· (apply OwP.rdP; with_reducible assumption)); · (try simp only [List.cons_append, List.nil_append, List.append_assoc]); repeat' first | with_reducible apply eR | with_reducible apply eA | ((with_reducible apply xA); · repeat first | with_reducible apply lH | with_reducible apply lT | with_reducible apply lL) | ((with_reducible apply xC); · repeat first | apply pH | with_reducible apply pT | with_reducible apply pL) | with_reducible assumption | with_reducible apply eS | with_reducible apply eL | exact eR))) (by first | with_reducible assumption | omega | (simp only [Bool.and_eq_true, inB_iff] at *; omega))) ?_
  refine gG rfl rfl (bnot_t c1) ?_
  refine uNot rfl ?_
  refine kF rfl (bnot_t c1) rfl ?_
  refine mv rfl ?_
  refine gC rfl rfl (fun c2 => ?_) (fun c2 => ?_)
  · replace c2 := not_t c2
    have c2' := c2; try simp only [inB_iff, Bool.and_eq_true, decide_eq_true_eq, decide_eq_false_iff_not, beq_iff_eq, beq_eq_false_iff_ne, bne_iff_ne, bne_eq_false_iff_eq, ne_eq] at c2'
    refine gU rfl rfl (bnot_f c2) ?_
    refine gU rfl rfl (bnot_f c2) ?_
    refine gU rfl rfl (bnot_f c2) ?_
    refine kT rfl (bnot_f c2) rfl ?_
    refine rN ?_
    refine qN ?_
    refine cT rfl ?_
    refine cS (cR ?_)
    refine asg rfl ?_
    refine asg rfl ?_
    refine rN ?_
    refine qN ?_
    refine cE ?_
    refine qE ?_
    refine kE2 rfl rfl rfl rfl rfl  ?_
    first | (exfalso; contradiction) | exact ⟨_, ⟨_, ResI.no (by first | (rw [htB, c1]; rfl) | (rw [htB, c1, c2]; rfl) | (rw [htB, c1, c2, c3]; rfl)), rfl⟩, (by (try simp only [List.cons_append, List.nil_append, List.append_assoc]); repeat' first | with_reducible apply eR | with_reducible apply eA | ((with_reducible apply xA); · repeat first | with_reducible apply lH | with_reducible apply lT | with_reducible apply lL) | ((with_reducible apply xC); · repeat first | apply pH | with_reducible apply pT | with_reducible apply pL) | with_reducible assumption | with_reducible apply eS | with_reducible apply eL | exact eR)⟩ | (exfalso; first | contradiction | omega | (simp_all; done) | (simp_all; omega))
  replace c2 := not_f c2
  have c2' := c2; try simp only [inB_iff, Bool.and_eq_true, decide_eq_true_eq, decide_eq_false_iff_not, beq_iff_eq, beq_eq_false_iff_ne, bne_iff_ne, bne_eq_false_iff_eq, ne_eq] at c2'
  refine gG rfl rfl (bnot_t c2) ?_
  refine mv rfl ?_
  refine gG rfl rfl (bnot_t c2) ?_
  refine rCq rfl (c_l06Parts _ _) ?_
  refine gG rfl rfl (bnot_t c2) ?_
  refine uNot rfl ?_
  refine kF rfl (bnot_t c2) rfl ?_
  refine rN ?_
  refine qN ?_
  refine cC rfl (fun c3 => ?_) (fun c3 => ?_)
  · replace c3 := not_t c3
    have c3' := c3; try simp only [inB_iff, Bool.and_eq_true, decide_eq_true_eq, decide_eq_false_iff_not, beq_iff_eq, beq_eq_false_iff_ne, bne_iff_ne, bne_eq_false_iff_eq, ne_eq] at c3'
    refine cS (cR ?_)
    refine asg rfl ?_
    refine asg rfl ?_
    refine rN ?_
    refine qN ?_
    refine cE ?_
    refine qE ?_
    refine kE2 rfl rfl rfl rfl rfl  ?_
    first | (exfalso; contradiction) | exact ⟨_, ⟨_, ResI.no (by first | (rw [htB, c1]; rfl) | (rw [htB, c1, c2]; rfl) | (rw [htB, c1, c2, c3]; rfl)), rfl⟩, (by (try simp only [List.cons_append, List.nil_append, List.append_assoc]); repeat' first | with_reducible apply eR | with_reducible apply eA | ((with_reducible apply xA); · repeat first | with_reducible apply lH | with_reducible apply lT | with_reducible apply lL) | ((with_reducible apply xC); · repeat first | apply pH | with_reducible apply pT | with_reducible apply pL) | with_reducible assumption | with_reducible apply eS | with_reducible apply eL | exact eR)⟩ | (exfalso; first | contradiction | omega | (simp_all; done) | (simp_all; omega))
  replace c3 := not_f c3
  have c3' := c3; try simp only [inB_iff, Bool.and_eq_true, decide_eq_true_eq, decide_eq_false_iff_not, beq_iff_eq, beq_eq_false_iff_ne, bne_iff_ne, bne_eq_false_iff_eq, ne_eq] at c3'
  refine cK ?_
  refine qN ?_
  refine cS (cR ?_)
  refine mv rfl ?_
  refine mv rfl ?_
  have hs := szB_iff.1 (show szB w d = true by assumption)
  have hmb := mul_bd hs
  obtain ⟨m, hk⟩ := Int.eq_ofNat_of_zero_le (show 0 ≤ w * d by omega)
  have hk2 : (w * d).toNat = m := by omega
  refine rMl rfl rfl (by omega) (by omega) ?_
  rw [hk]
  refine mkI0 rfl rfl (by omega) (by omega) ?_
  intro bk1 lk1 how1
  refine asg rfl ?_
  refine rN ?_
  refine qN ?_
  refine cS ?_
  refine cS (cR ?_)
  refine asg rfl ?_
  refine rN ?_
  refine qN ?_
  refine cB ?_
  obtain ⟨parts, rfl⟩ := Int.eq_ofNat_of_zero_le (show 0 ≤ parts by omega)
  rw [Int.toNat_natCast]
  refine cL2 (fun (i : Nat) (L : Mem) => [(11, .int .i64 (i : Nat))]) [(0, _), (1, _), (2, _), (3, _), (10, _)] (fun (i : Nat) (L : Mem) => L ++ M) (fun (i : Nat) (L : Mem) => ps.length - i) (fun (i : Nat) (L : Mem) => i ≤ ps.length ∧ OwI L (.slice (some ⟨bk1, 0, none⟩) m m) (hiF w d ps parts i)) (0) (lk1) (by repeat first | exact Sub.nil _ | refine Sub.cons rfl ?_) (by (try simp only [List.cons_append, List.nil_append, List.append_assoc]); repeat' first | with_reducible apply eR | with_reducible apply eA | ((with_reducible apply xA); · repeat first | with_reducible apply lH | with_reducible apply lT | with_reducible apply lL) | ((with_reducible apply xC); · repeat first | apply pH | with_reducible apply pT | with_reducible apply pL) | with_reducible assumption | with_reducible apply eS | with_reducible apply eL | exact eR) (by exact ⟨Nat.zero_le _, by rw [hiF, hk2]; exact how1⟩) ?_
  rintro i L ⟨hi, hz⟩
  refine wT (T' := [(11, _), (0, _), (1, _), (2, _), (3, _), (10, _)]) rfl ?_
  refine cS ?_
  refine cS (cR ?_)
  refine mv rfl ?_
  refine mv rfl ?_
  refine ln rfl ?_
  refine bLss rfl rfl ?_
  refine rN ?_
  refine qN ?_
  have hpl := ppB_len c2
  refine cC rfl (fun c4 => ?_) (fun c4 => ?_)
  · have c4' := c4; try simp only [inB_iff, Bool.and_eq_true, decide_eq_true_eq, decide_eq_false_iff_not, beq_iff_eq, beq_eq_false_iff_ne, bne_iff_ne, bne_eq_false_iff_eq, ne_eq] at c4'
    have hi2 : i < ps.length := by omega
    have hpi := ppB_atH c2 hi2
    have hle := hiF_le w d ps parts i
    have hhl := hiF_len w d ps parts i
    rw [hk2] at hhl
    refine cK ?_
    refine qN ?_
    refine cS ?_
    refine cB ?_
    refine cS (cR ?_)
    refine mv rfl ?_
    refine mv rfl ?_
    refine rMl rfl rfl (by omega) (by omega) ?_
    rw [hk]
    refine mkB0 rfl rfl (by omega) (by omega) ?_
    intro bk2 lk2 how2
    refine asg rfl ?_
    refine rN ?_
    refine qN ?_
    refine cS (cR ?_)
    refine asg rfl ?_
    refine rN ?_
    refine qN ?_
    refine cB ?_
    refine cL3 (fun (k : Nat) (L2 : Mem) (Ls : Mem) => [(13, .int .i64 (k : Nat))]) [(0, _), (1, _), (2, _), (3, _), (10, _), (11, _), (12, _)] (fun (k : Nat) (L2 : Mem) (Ls : Mem) => Ls ++ (L2 ++ M)) (fun (k : Nat) (L2 : Mem) (Ls : Mem) => parts - k) (fun (k : Nat) (L2 : Mem) (Ls : Mem) => k ≤ parts ∧ OwV Ls (.slice (some ⟨bk2, 0, none⟩) m m) (seF m (ceL w d (ps.getD i zP) parts k)) ∧ OwI L2 (.slice (some ⟨bk1, 0, none⟩) m m) (adS (hiF w d ps parts i) (ceL w d (ps.getD i zP) parts k))) (0) (L) (lk2) (by repeat first | exact Sub.nil _ | refine Sub.cons rfl ?_) (by (try simp only [List.cons_append, List.nil_append, List.append_assoc]); repeat' first | with_reducible apply eR | with_reducible apply eA | ((with_reducible apply xA); · repeat first | with_reducible apply lH | with_reducible apply lT | with_reducible apply lL) | ((with_reducible apply xC); · repeat first | apply pH | with_reducible apply pT | with_reducible apply pL) | with_reducible assumption | with_reducible apply eS | with_reducible apply eL | exact eR) (by exact ⟨Nat.zero_le _, by rw [ceL, seF_nil]; exact how2, by rw [ceL, adS_nil]; exact hz⟩) ?_
    rintro k L2 Ls ⟨hk3, hV, hO⟩
    refine wT (T' := [(13, _), (0, _), (1, _), (2, _), (3, _), (10, _), (11, _), (12, _)]) rfl ?_
    refine cS ?_
    refine cS (cR ?_)
    refine mv rfl ?_
    refine mv rfl ?_
    refine bLss rfl rfl ?_
    refine rN ?_
    refine qN ?_
    refine cC rfl (fun c5 => ?_) (fun c5 => ?_)
    · have c5' := c5; try simp only [inB_iff, Bool.and_eq_true, decide_eq_true_eq, decide_eq_false_iff_not, beq_iff_eq, beq_eq_false_iff_ne, bne_iff_ne, bne_eq_false_iff_eq, ne_eq] at c5'
      have hk4 : k < parts := by omega
      have hin := ceP_in (p := ps.getD i zP) (parts := parts) (i := k) hs
      refine cK ?_
      refine qN ?_
      refine cS ?_
      refine cB ?_
      refine cS (cR ?_)
      refine mv rfl ?_
      refine mv rfl ?_
      refine mv rfl ?_
      refine mv rfl ?_
      first
        | refine ixP rfl rfl (by first | (apply RdP.aok; with_reducible assumption) | exact AOk.own) (by first | with_reducible assumption | omega) ?_
        | refine ixR rfl rfl (by first | (apply RdR.aok; with_reducible assumption) | exact AOk.own) (by first | with_reducible assumption | omega) ?_
      refine mv rfl ?_
      refine mv rfl ?_
      refine rCq rfl (c_l06Cell _ _ _ _ _ _ _ _ (by first | with_reducible assumption | (apply PAt.mono; (· with_reducible assumption); · (try simp only [List.cons_append, List.nil_append, List.append_assoc]); repeat' first | with_reducible apply eR | with_reducible apply eA | ((with_reducible apply xA); · repeat first | with_reducible apply lH | with_reducible apply lT | with_reducible apply lL) | ((with_reducible apply xC); · repeat first | apply pH | with_reducible apply pT | with_reducible apply pL) | with_reducible assumption | with_reducible apply eS | with_reducible apply eL | exact eR) | (refine PAt.blk (by repeat first | with_reducible assumption | with_reducible apply List.mem_cons_self | with_reducible apply List.mem_cons_of_mem | with_reducible apply List.mem_append_right | exact List.Mem.head _)) | (apply RdP.pat; (· (first | with_reducible assumption | (apply RdP.mono; (· with_reducible assumption); · (try simp only [List.cons_append, List.nil_append, List.append_assoc]); repeat' first | with_reducible apply eR | with_reducible apply eA | ((with_reducible apply xA); · repeat first | with_reducible apply lH | with_reducible apply lT | with_reducible apply lL) | ((with_reducible apply xC); · repeat first | apply pH | with_reducible apply pT | with_reducible apply pL) | with_reducible assumption | with_reducible apply eS | with_reducible apply eL | exact eR) | (apply RdP.mono; (· (apply OwP.rdP; with_reducible assumption)); · (try simp only [List.cons_append, List.nil_append, List.append_assoc]); repeat' first | with_reducible apply eR | with_reducible apply eA | ((with_reducible apply xA); · repeat first | with_reducible apply lH | with_reducible apply lT | with_reducible apply lL) | ((with_reducible apply xC); · repeat first | apply pH | with_reducible apply pT | with_reducible apply pL) | with_reducible assumption | with_reducible apply eS | with_reducible apply eL | exact eR))); · first | with_reducible assumption | omega)) (by assumption) (by assumption) (by first | assumption | omega) (by first | assumption | omega)) ?_
      refine asg rfl ?_
      refine rN ?_
      refine qN ?_
      refine cS (cR ?_)
      refine mv rfl ?_
      refine bGeq rfl rfl ?_
      refine mv rfl ?_
      refine gC rfl rfl (fun hc => ?_) (fun hc => ?_)
      · have hc' := hc; try simp only [inB_iff, Bool.and_eq_true, decide_eq_true_eq, decide_eq_false_iff_not, beq_iff_eq, beq_eq_false_iff_ne, bne_iff_ne, bne_eq_false_iff_eq, ne_eq] at hc'
        have hcp : ceP w d (ps.getD i zP) parts k = true := ceI_pos hc'
        have hce : ceI w d (ps.getD i zP) parts k = ceV w (ps.getD i zP) parts k := by unfold ceI; rw [if_pos hcp]
        have hi3 := hin hcp
        have hlt : (ceI w d (ps.getD i zP) parts k).toNat < m := by omega
        have hb := adS_le (cs := ceL w d (ps.getD i zP) parts k) hle (ceI w d (ps.getD i zP) parts k).toNat (by omega)
        refine gG rfl rfl hc ?_
        refine mv rfl ?_
        refine gG rfl rfl hc ?_
        refine mv rfl ?_
        refine gG rfl rfl hc ?_
        refine ixI rfl rfl hV.rdV.aok (by omega) (by omega) ?_
        refine gG rfl rfl hc ?_
        refine ldV rfl (hV.rdV.mono (by (try simp only [List.cons_append, List.nil_append, List.append_assoc]); repeat' first | with_reducible apply eR | with_reducible apply eA | ((with_reducible apply xA); · repeat first | with_reducible apply lH | with_reducible apply lT | with_reducible apply lL) | ((with_reducible apply xC); · repeat first | apply pH | with_reducible apply pT | with_reducible apply pL) | with_reducible assumption | with_reducible apply eS | with_reducible apply eL | exact eR)) (by omega) (seF_get (by omega) hlt) rfl ?_
        refine gG rfl rfl hc ?_
        refine uNot rfl ?_
        refine kT rfl hc rfl ?_
        refine rN ?_
        refine qN ?_
        refine cC rfl (fun hm => ?_) (fun hm => ?_)
        · replace hm := not_t hm
          have hm' := hm; try simp only [inB_iff, Bool.and_eq_true, decide_eq_true_eq, decide_eq_false_iff_not, beq_iff_eq, beq_eq_false_iff_ne, bne_iff_ne, bne_eq_false_iff_eq, ne_eq] at hm'
          refine cS (cR ?_)
          refine mv rfl ?_
          refine mv rfl ?_
          refine ixI rfl rfl hV.rdV.aok (by omega) (by omega) ?_
          first
            | (refine tO rfl rfl (by with_reducible assumption) (by repeat first | with_reducible apply lH | with_reducible apply lT | with_reducible apply lL) (by first | with_reducible assumption | omega) ?_; intro lk1 how1)
            | (refine tI rfl rfl (by with_reducible assumption) (by repeat first | with_reducible apply lH | with_reducible apply lT | with_reducible apply lL) (by first | with_reducible assumption | omega) ?_; intro lk1 how1)
            | (refine tV rfl rfl rfl (by with_reducible assumption) (by repeat first | with_reducible apply lH | with_reducible apply lT | with_reducible apply lL) (by first | with_reducible assumption | omega) ?_; intro lk1 how1)
            | refine stF 0 rfl rfl rfl (by first | with_reducible assumption | omega) ?_
            | refine stF 1 rfl rfl rfl (by first | with_reducible assumption | omega) ?_
            | refine stF 2 rfl rfl rfl (by first | with_reducible assumption | omega) ?_
            | refine stF 3 rfl rfl rfl (by first | with_reducible assumption | omega) ?_
          refine rN ?_
          refine qN ?_
          refine cR ?_
          refine mv rfl ?_
          refine mv rfl ?_
          refine ixI rfl rfl hO.rdI.aok (by omega) (by omega) ?_
          refine ldI rfl (hO.rdI.mono (by (try simp only [List.cons_append, List.nil_append, List.append_assoc]); repeat' first | with_reducible apply eR | with_reducible apply eA | ((with_reducible apply xA); · repeat first | with_reducible apply lH | with_reducible apply lT | with_reducible apply lL) | ((with_reducible apply xC); · repeat first | apply pH | with_reducible apply pT | with_reducible apply pL) | with_reducible assumption | with_reducible apply eS | with_reducible apply eL | exact eR)) (by omega) ?_
          first | refine rAn (b := 1) rfl rfl (by omega) ?_ | refine rA rfl rfl (by omega) (by omega) ?_ | refine bAdd rfl rfl ?_
          refine ixI rfl rfl hO.rdI.aok (by omega) (by omega) ?_
          (refine tI rfl rfl (by with_reducible assumption) (by repeat first | with_reducible apply lH | with_reducible apply lT | with_reducible apply lL) (by first | with_reducible assumption | omega) ?_; intro lk2 how2)
          refine rN ?_
          refine qBN ?_
          refine qN ?_
          refine cR ?_
          refine mv rfl ?_
          first | refine rAn (b := 1) rfl rfl (by omega) ?_ | refine rA rfl rfl (by omega) (by omega) ?_ | refine bAdd rfl rfl ?_
          refine asg rfl ?_
          refine rN ?_
          have hm' : ¬ ceI w d (ps.getD i zP) parts k ∈ ceL w d (ps.getD i zP) parts k := of_decide_eq_false hm
          refine qL3 (k + 1) (lk2) (lk1) ?_ (by omega) (by repeat first | exact Sub.nil _ | refine Sub.cons rfl ?_) (by (try simp only [List.cons_append, List.nil_append, List.append_assoc]); repeat' first | with_reducible apply eR | with_reducible apply eA | ((with_reducible apply xA); · repeat first | with_reducible apply lH | with_reducible apply lT | with_reducible apply lL) | ((with_reducible apply xC); · repeat first | apply pH | with_reducible apply pT | with_reducible apply pL) | with_reducible assumption | with_reducible apply eS | with_reducible apply eL | exact eR)
          rw [ceL_yes hcp, ← hce]
          exact ⟨by omega, by rw [← seF_new (by omega) hlt]; assumption, by rw [← adS_new hm' (by omega) (by omega)]; assumption⟩
        · replace hm := not_f hm
          have hm' := hm; try simp only [inB_iff, Bool.and_eq_true, decide_eq_true_eq, decide_eq_false_iff_not, beq_iff_eq, beq_eq_false_iff_ne, bne_iff_ne, bne_eq_false_iff_eq, ne_eq] at hm'
          refine cK ?_
          refine qBN ?_
          refine qN ?_
          refine cR ?_
          refine mv rfl ?_
          first | refine rAn (b := 1) rfl rfl (by omega) ?_ | refine rA rfl rfl (by omega) (by omega) ?_ | refine bAdd rfl rfl ?_
          refine asg rfl ?_
          refine rN ?_
          have hm' : ceI w d (ps.getD i zP) parts k ∈ ceL w d (ps.getD i zP) parts k := of_decide_eq_true hm
          refine qL3 (k + 1) (L2) (Ls) ?_ (by omega) (by repeat first | exact Sub.nil _ | refine Sub.cons rfl ?_) (by (try simp only [List.cons_append, List.nil_append, List.append_assoc]); repeat' first | with_reducible apply eR | with_reducible apply eA | ((with_reducible apply xA); · repeat first | with_reducible apply lH | with_reducible apply lT | with_reducible apply lL) | ((with_reducible apply xC); · repeat first | apply pH | with_reducible apply pT | with_reducible apply pL) | with_reducible assumption | with_reducible apply eS | with_reducible apply eL | exact eR)
          rw [ceL_yes hcp, ← hce, seF_old hm', adS_old hm']
          exact ⟨by omega, hV, hO⟩
      · have hc' := hc; try simp only [inB_iff, Bool.and_eq_true, decide_eq_true_eq, decide_eq_false_iff_not, beq_iff_eq, beq_eq_false_iff_ne, bne_iff_ne, bne_eq_false_iff_eq, ne_eq] at hc'
        have hcp : ceP w d (ps.getD i zP) parts k = false := ceI_neg hs (by omega)
        refine gS rfl rfl hc ?_
        refine gS rfl rfl hc ?_
        refine gS rfl rfl hc ?_
        refine gS rfl rfl hc ?_
        refine gS rfl rfl hc ?_
        refine kF rfl hc rfl ?_
        refine rN ?_
        refine qN ?_
        refine cF rfl ?_
        refine cK ?_
        refine qBN ?_
        refine qN ?_
        refine cR ?_
        refine mv rfl ?_
        first | refine rAn (b := 1) rfl rfl (by omega) ?_ | refine rA rfl rfl (by omega) (by omega) ?_ | refine bAdd rfl rfl ?_
        refine asg rfl ?_
        refine rN ?_
        refine qL3 (k + 1) (L2) (Ls) ?_ (by omega) (by repeat first | exact Sub.nil _ | refine Sub.cons rfl ?_) (by (try simp only [List.cons_append, List.nil_append, List.append_assoc]); repeat' first | with_reducible apply eR | with_reducible apply eA | ((with_reducible apply xA); · repeat first | with_reducible apply lH | with_reducible apply lT | with_reducible apply lL) | ((with_reducible apply xC); · repeat first | apply pH | with_reducible apply pT | with_reducible apply pL) | with_reducible assumption | with_reducible apply eS | with_reducible apply eL | exact eR)
        rw [ceL_no hcp]
        exact ⟨by omega, hV, hO⟩
    · have c5' := c5; try simp only [inB_iff, Bool.and_eq_true, decide_eq_true_eq, decide_eq_false_iff_not, beq_iff_eq, beq_eq_false_iff_ne, bne_iff_ne, bne_eq_false_iff_eq, ne_eq] at c5'
      have : k = parts := by omega
      subst this
      refine cX ?_
      refine qX ?_
      refine qL3X ?_
      refine qBX ?_
      refine qBN ?_
      refine qN ?_
      refine cR ?_
      refine mv rfl ?_
      first | refine rAn (b := 1) rfl rfl (by omega) ?_ | refine rA rfl rfl (by omega) (by omega) ?_ | refine bAdd rfl rfl ?_
      refine asg rfl ?_
      refine rN ?_
      refine qL2 (i + 1) (L2) ?_ (by omega) (by repeat first | exact Sub.nil _ | refine Sub.cons rfl ?_) (by (try simp only [List.cons_append, List.nil_append, List.append_assoc]); repeat' first | with_reducible apply eR | with_reducible apply eA | ((with_reducible apply xA); · repeat first | with_reducible apply lH | with_reducible apply lT | with_reducible apply lL) | ((with_reducible apply xC); · repeat first | apply pH | with_reducible apply pT | with_reducible apply pL) | with_reducible assumption | with_reducible apply eS | with_reducible apply eL | exact eR)
      exact ⟨by omega, by rw [hiF]; exact hO⟩
  · have c4' := c4; try simp only [inB_iff, Bool.and_eq_true, decide_eq_true_eq, decide_eq_false_iff_not, beq_iff_eq, beq_eq_false_iff_ne, bne_iff_ne, bne_eq_false_iff_eq, ne_eq] at c4'
    have : i = ps.length := by omega
    subst this
    refine cX ?_
    refine qX ?_
    refine qL2X ?_
    refine qBX ?_
    refine qN ?_
    refine cS (cR ?_)
    refine mv rfl ?_
    refine asg rfl ?_
    refine asg rfl ?_
    refine rN ?_
    refine qN ?_
    refine cE ?_
    refine kE2 rfl rfl rfl rfl rfl  ?_
    first | (exfalso; contradiction) | exact ⟨_, ⟨_, ResI.yes (by rw [htB, c1, c2, c3]; rfl) hz, rfl⟩, (by (try simp only [List.cons_append, List.nil_append, List.append_assoc]); repeat' first | with_reducible apply eR | with_reducible apply eA | ((with_reducible apply xA); · repeat first | with_reducible apply lH | with_reducible apply lT | with_reducible apply lL) | ((with_reducible apply xC); · repeat first | apply pH | with_reducible apply pT | with_reducible apply pL) | with_reducible assumption | with_reducible apply eS | with_reducible apply eL | exact eR)⟩ | (exfalso; first | contradiction | omega | (simp_all; done) | (simp_all; omega))
end Go.Proofs.Ytkbpdgacfeachaa.Ab
