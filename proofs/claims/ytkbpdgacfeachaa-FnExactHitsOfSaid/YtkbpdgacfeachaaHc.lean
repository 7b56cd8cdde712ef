/-
  slices.Compact at lists of integers.
-/
import Derived.Test.YtkbpdgacfeachaaHw
namespace Go.Proofs.Ytkbpdgacfeachaa.Ab
open Go Go.RowKit
attribute [local irreducible] Run Then InBlock LoopQ LQ1 LQ2 LQ3 LQ4 LQ5 LQ6 AWp Ret ACall
set_option linter.unusedVariables false
set_option linter.unusedSimpArgs false

/-! ## plain laws -/
/-- what is kept of the first ones: none that is as the one ahead of it -/
def cmK (zs : List Int) : Nat → List Int
  | 0 => []
  | j + 1 => if 1 ≤ j ∧ zs.getD j 0 = zs.getD (j - 1) 0 then cmK zs j else cmK zs j ++ [zs.getD j 0]
theorem cmK_one {zs : List Int} : cmK zs 1 = [zs.getD 0 0] := by simp [cmK]
theorem cmK_dup {zs : List Int} {j : Nat} (h1 : 1 ≤ j) (h : zs.getD j 0 = zs.getD (j - 1) 0) : cmK zs (j + 1) = cmK zs j := by rw [cmK, if_pos ⟨h1, h⟩]
theorem cmK_new {zs : List Int} {j : Nat} (h : zs.getD j 0 ≠ zs.getD (j - 1) 0) : cmK zs (j + 1) = cmK zs j ++ [zs.getD j 0] := by rw [cmK, if_neg (fun e => h e.2)]
theorem take_getD {zs : List Int} {j : Nat} (h : j < zs.length) : zs.take (j + 1) = zs.take j ++ [zs.getD j 0] := by
  rw [List.take_succ_eq_append_getElem h]; simp [List.getD, h]
theorem cmK_take1 {zs : List Int} (h : 1 ≤ zs.length) : cmK zs 1 = zs.take 1 := by
  rw [cmK_one, show (1 : Nat) = 0 + 1 from rfl, take_getD (by omega)]; rfl
theorem cmK_small {zs : List Int} (h : zs.length < 2) : cmK zs zs.length = zs := by
  match zs, h with
  | [], _ => rfl
  | [x], _ => show cmK [x] 1 = [x]; rw [cmK_one]; rfl
theorem drop_eqI {l r : List Int} {j : Nat} (h : l.drop j = r.drop j) : l.getD j 0 = r.getD j 0 := by
  have := congrArg (fun l => l.getD 0 0) h
  simpa [List.getD, List.getElem?_drop] using this
theorem drop_nextI {l r : List Int} {j : Nat} (e : l.drop j = r.drop j) : l.drop (j + 1) = r.drop (j + 1) := by
  have := congrArg (fun l => l.drop 1) e
  simpa [List.drop_drop] using this
theorem drop_setI {l r : List Int} {i j : Nat} {v : Int} (h : i < j) (e : l.drop j = r.drop j) : (l.set i v).drop j = r.drop j := by
  rw [List.drop_set_of_lt h, e]
theorem take_setI {l : List Int} {i : Nat} {v : Int} (h : i < l.length) : (l.set i v).take (i + 1) = l.take i ++ [v] := by
  rw [List.take_succ_eq_append_getElem (by rw [List.length_set]; exact h), List.take_set_of_le (Nat.le_refl _), List.getElem_set_self]
theorem getD_dropI {l : List Int} {i j : Nat} : (l.drop i).getD j 0 = l.getD (i + j) 0 := by simp [List.getD, List.getElem?_drop]
theorem OwI.pos {L : Mem} {a : Option Addr} {n c : Nat} {is : List Int} (h : OwI L (.slice a n c) is) (h0 : 0 < n) : ∃ b rest, a = some ⟨b, 0, none⟩ ∧ L = [(b, ⟨iL is ++ rest, true⟩)] ∧ is.length = n ∧ is.length + rest.length = c := by
  rcases h with ⟨⟨a', he⟩, _, _⟩ | ⟨b, cap, rest, he, hcap, rfl⟩
  · obtain ⟨_, rfl, _⟩ := Value.slice.inj he; omega
  · obtain ⟨rfl, rfl, rfl⟩ := Value.slice.inj he
    exact ⟨b, rest, rfl, rfl, rfl, hcap⟩
theorem RdI.drop {M : Mem} {a : Option Addr} {n c : Nat} {is : List Int} {k : Nat} (h : RdI M a n is) (hk : k < n) (hc : n ≤ c) : RdI M (cut1 a c k 1) (n - k) (is.drop k) := by
  obtain ⟨rfl, h⟩ := h
  refine ⟨by simp, ?_⟩
  rcases h with rfl | ⟨b, o, bk, rfl, hm, hce⟩
  · simp at hk
  · refine .inr ⟨b, o + k, bk, ?_, hm, fun i hi => ?_⟩
    · unfold cut1; rw [if_neg (by omega)]; simp [Addr.add_lit]
    · simp at hi
      rw [Nat.add_assoc, hce (k + i) (by omega), getD_dropI]
theorem cut1_0I {b c : Nat} : cut1 (some ⟨b, 0, none⟩) c 0 1 = some ⟨b, 0, none⟩ := by
  unfold cut1; split
  · rfl
  · simp [Addr.add]
/-! ## clear -/
theorem mem_zeroCells {z : Array Value} {m : Nat} : ∀ u ∈ (Builtin.zeroCells z m).toList, u ∈ z.toList := by
  intro u hu
  simp only [Builtin.zeroCells, Array.toList_map, List.mem_map] at hu
  obtain ⟨i, hi, rfl⟩ := hu
  have hi' : i < m * z.size := by simpa using hi
  have hz : 0 < z.size := by
    rcases Nat.eq_zero_or_pos z.size with h | h
    · rw [h, Nat.mul_zero] at hi'; omega
    · exact h
  have hlt : i % z.size < z.size := Nat.mod_lt _ hz
  rw [getElem!_pos z _ hlt]
  exact Array.mem_toList_iff.2 (Array.getElem_mem hlt)
section
variable {P : Program} {n : Nat} {T : Tm} {M : Mem} {ops : Array Oper} {st : Option (List Nat)} {Q : Tm → Mem → Prop} {fl : Bool} {l : List (Oper × Bool)} {d : Option Nat} {ty : Nat} {pos : String} {after : Array Edge}
theorem step_clear {K : Value → Mem → Prop} {g : Option (Nat × Bool)} {t e size bytes : Nat} {z : Value} [hu : UnderT P t (.slice e)] [hi : InfoT P e size bytes z] {x : Operand} {b o m c : Nat} {k : Blk} (p : Nat)
    (ex : ev T x = some (.slice (some ⟨b, o, none⟩) m c)) (hz : z.cells.toList.all flatV = true) (h0 : 0 < m) (hp : M[p]? = some (b, k)) (hw : k.wr = true) (ho : o + m * size ≤ k.cells.length)
    (hk : ∀ cs : List Value, cs.length = m * size → K (.tuple #[]) (M.set p (b, ⟨k.cells.take o ++ cs ++ k.cells.drop (o + m * size), true⟩))) :
    Step P n ⟨d, .call { callee := .builtin .clear, args := #[x], argTypes := #[t] }, ty, pos, after, g⟩ T M K := by
  intro w0 B a w ht hs
  obtain ⟨i, hi1, hi2, hi3, hi4⟩ := hi.out
  have hx := nf_slice (ev_sound ht ex)
  have hlz : (Builtin.zeroCells z.cells m).toList.length = m * size := by
    rw [Array.length_toList, Builtin.zeroCells, Array.size_map, Array.size_range, hi.cells_size]
  have hfl : ∀ u ∈ (Builtin.zeroCells z.cells m).toList, flatV u = true := fun u hu => List.all_eq_true.1 hz u (mem_zeroCells u hu)
  obtain ⟨w', hr, hs'⟩ := run_storeCells_sat (P := P) (b := b) (o := o) (Builtin.zeroCells z.cells m).toList 0 w M p k hs hp hw hfl (by rw [hlz]; omega)
  obtain ⟨m', rfl⟩ : ∃ m', m = m' + 1 := ⟨m - 1, by omega⟩
  have hrun : (execOp a.eval ⟨d, .call { callee := .builtin .clear, args := #[x], argTypes := #[t] }, ty, pos, after, g⟩).run P w = .ok (.value (.tuple #[])) w' := by
    simp [execOp, resolve, hx, invoke, builtin, Builtin.clear_, run_underlying hu.out, zeroValue, typeInfo, hi1, hi4, hr]
  rw [hrun]
  refine ⟨_, hs', ?_⟩
  simp only [Nat.add_zero, hlz]
  rw [show nf (.tuple #[]) = .tuple #[] from by simp [nf]]
  exact hk ((Builtin.zeroCells z.cells (m' + 1)).toList.map nfS) (by rw [List.length_map, hlz])
theorem clI {t e bytes : Nat} {z : Value} [hu : UnderT P t (.slice e)] [hi : InfoT P e 1 bytes z] {x : Operand} {b c i m : Nat} {is : List Int} {rest : List Value} {c' : Nat} {M1 : Mem} (hz : z.cells.toList.all flatV = true) (ex : ev T x = some (.slice (cut1 (some ⟨b, 0, none⟩) c i 1) (m - i) c'))
    (hM : Ext ((b, ⟨iL is ++ rest, true⟩) :: M1) M) (hi2 : i < m) (hmc : m ≤ c) (h2 : is.length = m) (h3 : is.length + rest.length = c)
    (kk : ∀ L', OwI L' (.slice (some ⟨b, 0, none⟩) i c) (is.take i) → Run P n ops st Q l T (L' ++ M1)) :
    Run P n ops st Q ((⟨none, .call { callee := .builtin .clear, args := #[x], argTypes := #[t] }, ty, pos, after, none⟩, false) :: l) T M := by
  have e1 : cut1 (some ⟨b, 0, none⟩) c i 1 = some ⟨b, i, none⟩ := by
    unfold cut1; rw [if_neg (by omega)]; simp [Addr.add]; try exact fun h => h.symm
  rw [e1] at ex
  have hil : (iL is).length = m := by simp [iL, h2]
  refine run_step rfl (Step.ofExt (step_clear (P := P) (M := (b, ⟨iL is ++ rest, true⟩) :: M1) (k := ⟨iL is ++ rest, true⟩) (m := m - i) 0 ex hz (by omega) rfl rfl (by show i + (m - i) * 1 ≤ (iL is ++ rest).length; rw [List.length_append]; omega) fun us hus => ⟨fun ks hs h => by simp [keeps, writer, keptD] at h, ?_⟩) hM)
  have e2 : (iL is ++ rest).take i = iL (is.take i) := by rw [List.take_append_of_le_length (by omega)]; simp [iL, List.map_take]
  have e3 : (iL is ++ rest).drop (i + (m - i) * 1) = rest := by rw [show i + (m - i) * 1 = (iL is).length from by omega, List.drop_left]
  show Run P n ops st Q l T ((b, ⟨(iL is ++ rest).take i ++ us ++ (iL is ++ rest).drop (i + (m - i) * 1), true⟩) :: M1)
  rw [e2, e3, List.append_assoc]
  have hti : (is.take i).length = i := by rw [List.length_take]; omega
  refine kk [(b, ⟨iL (is.take i) ++ (us ++ rest), true⟩)] (.inr ⟨b, c, us ++ rest, by rw [hti], ?_, rfl⟩)
  rw [hti, List.length_append, hus]; omega
end
set_option maxHeartbeats 1000000 in
theorem c_compactI (a : Option Addr) (n c : Nat) (zs : List Int) (L M : Mem) (ho : OwI L (.slice a n c) zs) (hn : n ≤ 1073741824) :
    ACall Try.prog 41 [.slice a n c] (L ++ M) fun v M' => ∃ L', OwI L' v (cmK zs zs.length) ∧ M' = L' ++ M := by
  have hzl : zs.length = n := ho.rdI.len
  subst hzl
  have hcl := ho.capl
  skip
  skip
  skip
  skip
  skip
  skip
  skip
  skip
  skip
  skip
  skip
  skip
  skip
  skip
  skip
  skip
  skip
  refine acall_of_awp Try.func41 rfl Try.ntmps41 rfl ?_
  refine cS (cR ?_)
  refine asg rfl ?_
  refine rN ?_
  refine qN ?_
  refine cS ?_
  refine cS (cR ?_)
  refine mv rfl ?_
  refine ln rfl ?_
  refine bLss rfl rfl ?_
  refine rN ?_
  refine qN ?_
  refine cC rfl (fun c1 => ?_) (fun c1 => ?_)
  · have c1' := c1; try simp only [inB_iff, Bool.and_eq_true, decide_eq_true_eq, decide_eq_false_iff_not, beq_iff_eq, beq_eq_false_iff_ne, bne_iff_ne, bne_eq_false_iff_eq, ne_eq] at c1'
    refine cS (cR ?_)
    refine mv rfl ?_
    refine asg rfl ?_
    refine rN ?_
    refine qN ?_
    refine cE ?_
    refine qE ?_
    refine kE rfl rfl  ?_
    first | (exfalso; contradiction) | exact ⟨_, ⟨_, by rw [cmK_small (by omega)]; exact ho, rfl⟩, (by (try simp only [List.cons_append, List.nil_append, List.append_assoc]); repeat' first | with_reducible apply eR | with_reducible apply eA | ((with_reducible apply xA); · repeat first | with_reducible apply lH | with_reducible apply lT | with_reducible apply lL) | ((with_reducible apply xC); · repeat first | apply pH | with_reducible apply pT | with_reducible apply pL) | with_reducible assumption | with_reducible apply eS | with_reducible apply eL | exact eR)⟩ | (exfalso; first | contradiction | omega | (simp_all; done) | (simp_all; omega))
  · have c1' := c1; try simp only [inB_iff, Bool.and_eq_true, decide_eq_true_eq, decide_eq_false_iff_not, beq_iff_eq, beq_eq_false_iff_ne, bne_iff_ne, bne_eq_false_iff_eq, ne_eq] at c1'
    refine cK ?_
    refine qN ?_
    refine cS ?_
    refine cS (cR ?_)
    refine asg rfl ?_
    refine rN ?_
    refine qN ?_
    refine cB ?_
    refine cL1 (fun (k0 : Nat) => [(3, .int .i64 (k0 : Nat))]) [(0, _)] (fun (k0 : Nat) => L ++ M) (fun (k0 : Nat) => zs.length - k0) (fun (k0 : Nat) => 1 ≤ k0 ∧ k0 ≤ zs.length ∧ cmK zs k0 = zs.take k0) (1) (by repeat first | exact Sub.nil _ | refine Sub.cons rfl ?_) (by (try simp only [List.cons_append, List.nil_append, List.append_assoc]); repeat' first | with_reducible apply eR | with_reducible apply eA | ((with_reducible apply xA); · repeat first | with_reducible apply lH | with_reducible apply lT | with_reducible apply lL) | ((with_reducible apply xC); · repeat first | apply pH | with_reducible apply pT | with_reducible apply pL) | with_reducible assumption | with_reducible apply eS | with_reducible apply eL | exact eR) (by exact ⟨by omega, by omega, cmK_take1 (by omega)⟩) ?_
    rintro k0 ⟨hk1, hk, hcm⟩
    refine wT (T' := [(3, _), (0, _)]) rfl ?_
    refine cS ?_
    refine cS (cR ?_)
    refine mv rfl ?_
    refine mv rfl ?_
    refine ln rfl ?_
    refine bLss rfl rfl ?_
    refine rN ?_
    refine qN ?_
    refine cC rfl (fun c2 => ?_) (fun c2 => ?_)
    · have c2' := c2; try simp only [inB_iff, Bool.and_eq_true, decide_eq_true_eq, decide_eq_false_iff_not, beq_iff_eq, beq_eq_false_iff_ne, bne_iff_ne, bne_eq_false_iff_eq, ne_eq] at c2'
      have hk2 : k0 < zs.length := by omega
      refine cK ?_
      refine qN ?_
      refine cS ?_
      refine cB ?_
      refine cS ?_
      refine cD [] [(0, true), (1, true), (2, true), (3, true), (4, true), (5, false), (6, false), (7, false), (8, false), (9, false)] (by repeat first | exact fineT | exact fineL | exact fineLQ1 | exact fineLQ2 | exact fineLQ3 | exact fineLQ4 | exact fineLQ5 | exact fineLQ6 | exact fineR | refine fineB ?_) (by kernel_rfl) ?_
      simp only [pick, List.getElem?_toArray, List.getElem?_cons_zero, List.getElem?_cons_succ]
      refine mv rfl ?_
      refine mv rfl ?_
      refine ixN rfl rfl ho.rdI.aok (by omega) ?_
      refine ldI rfl (ho.rdI.mono (by (try simp only [List.cons_append, List.nil_append, List.append_assoc]); repeat' first | with_reducible apply eR | with_reducible apply eA | ((with_reducible apply xA); · repeat first | with_reducible apply lH | with_reducible apply lT | with_reducible apply lL) | ((with_reducible apply xC); · repeat first | apply pH | with_reducible apply pT | with_reducible apply pL) | with_reducible assumption | with_reducible apply eS | with_reducible apply eL | exact eR)) (by omega) ?_
      refine mv rfl ?_
      refine mv rfl ?_
      refine rBn (b := 1) rfl rfl (by omega) (by omega) ?_
      refine ixN rfl rfl ho.rdI.aok (by omega) ?_
      refine ldI rfl (ho.rdI.mono (by (try simp only [List.cons_append, List.nil_append, List.append_assoc]); repeat' first | with_reducible apply eR | with_reducible apply eA | ((with_reducible apply xA); · repeat first | with_reducible apply lH | with_reducible apply lT | with_reducible apply lL) | ((with_reducible apply xC); · repeat first | apply pH | with_reducible apply pT | with_reducible apply pL) | with_reducible assumption | with_reducible apply eS | with_reducible apply eL | exact eR)) (by omega) ?_
      refine bEql rfl rfl ?_
      refine rN ?_
      refine qN ?_
      refine cC rfl (fun hq => ?_) (fun hq => ?_)
      · have hq' := hq; try simp only [inB_iff, Bool.and_eq_true, decide_eq_true_eq, decide_eq_false_iff_not, beq_iff_eq, beq_eq_false_iff_ne, bne_iff_ne, bne_eq_false_iff_eq, ne_eq] at hq'
        have hq2 : zs.getD k0 0 = zs.getD (k0 - 1) 0 := by first | exact hq' | exact of_decide_eq_true hq | omega
        refine cS (cR ?_)
        refine mv rfl ?_
        refine mv rfl ?_
        refine slL rfl rfl (by omega) (by omega) ?_
        refine asg rfl ?_
        refine rN ?_
        refine qN ?_
        refine cS ?_
        refine cS (cR ?_)
        refine asg rfl ?_
        refine rN ?_
        refine qN ?_
        refine cB ?_
        refine cL4 (fun (k2 : Nat) (k : Nat) (S : List Int) (L2 : Mem) => [(5, .int .i64 (k2 : Nat)), (3, .int .i64 (k : Nat))]) [(0, _), (4, _)] (fun (k2 : Nat) (k : Nat) (S : List Int) (L2 : Mem) => L2 ++ M) (fun (k2 : Nat) (k : Nat) (S : List Int) (L2 : Mem) => zs.length - k0 - k2) (fun (k2 : Nat) (k : Nat) (S : List Int) (L2 : Mem) => (1 ≤ k2 ∧ k2 ≤ zs.length - k0 ∧ k ≤ k0 + k2 - 1) ∧ OwI L2 (.slice a zs.length c) S ∧ S.length = zs.length ∧ S.take k = cmK zs (k0 + k2) ∧ S.drop (k0 + k2 - 1) = zs.drop (k0 + k2 - 1)) (1) (k0) (zs) (L) (by repeat first | exact Sub.nil _ | refine Sub.cons rfl ?_) (by (try simp only [List.cons_append, List.nil_append, List.append_assoc]); repeat' first | with_reducible apply eR | with_reducible apply eA | ((with_reducible apply xA); · repeat first | with_reducible apply lH | with_reducible apply lT | with_reducible apply lL) | ((with_reducible apply xC); · repeat first | apply pH | with_reducible apply pT | with_reducible apply pL) | with_reducible assumption | with_reducible apply eS | with_reducible apply eL | exact eR) (by exact ⟨⟨by omega, by omega, by omega⟩, ho, rfl, by rw [cmK_dup hk1 hq2]; exact hcm.symm, rfl⟩) ?_
        rintro k2 k S L2 ⟨⟨hk21, hk22, hkk⟩, hO, hSl, hSt, hSd⟩
        refine wT (T' := [(5, _), (3, _), (0, _), (4, _)]) rfl ?_
        refine cS ?_
        refine cS (cR ?_)
        refine mv rfl ?_
        refine mv rfl ?_
        refine ln rfl ?_
        refine bLss rfl rfl ?_
        refine rN ?_
        refine qN ?_
        have hrs : RdI L2 (cut1 a c k0 1) (zs.length - k0) (S.drop k0) := hO.rdI.drop hk2 hcl
        refine cC rfl (fun c3 => ?_) (fun c3 => ?_)
        · have c3' := c3; try simp only [inB_iff, Bool.and_eq_true, decide_eq_true_eq, decide_eq_false_iff_not, beq_iff_eq, beq_eq_false_iff_ne, bne_iff_ne, bne_eq_false_iff_eq, ne_eq] at c3'
          have hk3 : k2 < zs.length - k0 := by omega
          have hdn : S.drop (k0 + k2) = zs.drop (k0 + k2) := by have := drop_nextI hSd; rwa [show k0 + k2 - 1 + 1 = k0 + k2 by omega] at this
          have hd1 : (S.drop k0).getD k2 0 = zs.getD (k0 + k2) 0 := by rw [getD_dropI]; exact drop_eqI hdn
          have hd2 : (S.drop k0).getD (k2 - 1) 0 = zs.getD (k0 + k2 - 1) 0 := by rw [getD_dropI, show k0 + (k2 - 1) = k0 + k2 - 1 by omega]; exact drop_eqI hSd
          refine cK ?_
          refine qN ?_
          refine cS ?_
          refine cB ?_
          refine cS ?_
          refine cD [] [(0, true), (1, true), (2, true), (3, true), (4, true), (5, false), (6, false), (7, false), (8, false), (9, false)] (by repeat first | exact fineT | exact fineL | exact fineLQ1 | exact fineLQ2 | exact fineLQ3 | exact fineLQ4 | exact fineLQ5 | exact fineLQ6 | exact fineR | refine fineB ?_) (by kernel_rfl) ?_
          simp only [pick, List.getElem?_toArray, List.getElem?_cons_zero, List.getElem?_cons_succ]
          refine mv rfl ?_
          refine mv rfl ?_
          refine ixN rfl rfl hrs.aok (by omega) ?_
          refine ldI rfl (hrs.mono (by (try simp only [List.cons_append, List.nil_append, List.append_assoc]); repeat' first | with_reducible apply eR | with_reducible apply eA | ((with_reducible apply xA); · repeat first | with_reducible apply lH | with_reducible apply lT | with_reducible apply lL) | ((with_reducible apply xC); · repeat first | apply pH | with_reducible apply pT | with_reducible apply pL) | with_reducible assumption | with_reducible apply eS | with_reducible apply eL | exact eR)) (by omega) ?_
          rw [hd1]
          refine mv rfl ?_
          refine mv rfl ?_
          refine rBn (b := 1) rfl rfl (by omega) (by omega) ?_
          refine ixN rfl rfl hrs.aok (by omega) ?_
          refine ldI rfl (hrs.mono (by (try simp only [List.cons_append, List.nil_append, List.append_assoc]); repeat' first | with_reducible apply eR | with_reducible apply eA | ((with_reducible apply xA); · repeat first | with_reducible apply lH | with_reducible apply lT | with_reducible apply lL) | ((with_reducible apply xC); · repeat first | apply pH | with_reducible apply pT | with_reducible apply pL) | with_reducible assumption | with_reducible apply eS | with_reducible apply eL | exact eR)) (by omega) ?_
          rw [hd2]
          refine bNeq rfl rfl ?_
          refine rN ?_
          refine qN ?_
          refine cC rfl (fun hr => ?_) (fun hr => ?_)
          · have hr' := hr; try simp only [inB_iff, Bool.and_eq_true, decide_eq_true_eq, decide_eq_false_iff_not, beq_iff_eq, beq_eq_false_iff_ne, bne_iff_ne, bne_eq_false_iff_eq, ne_eq] at hr'
            have hr2 : zs.getD (k0 + k2) 0 ≠ zs.getD (k0 + k2 - 1) 0 := by first | exact hr' | exact of_decide_eq_true hr | omega
            refine cS (cR ?_)
            refine mv rfl ?_
            refine mv rfl ?_
            refine mv rfl ?_
            refine mv rfl ?_
            refine ixN rfl rfl hrs.aok (by omega) ?_
            refine ldI rfl (hrs.mono (by (try simp only [List.cons_append, List.nil_append, List.append_assoc]); repeat' first | with_reducible apply eR | with_reducible apply eA | ((with_reducible apply xA); · repeat first | with_reducible apply lH | with_reducible apply lT | with_reducible apply lL) | ((with_reducible apply xC); · repeat first | apply pH | with_reducible apply pT | with_reducible apply pL) | with_reducible assumption | with_reducible apply eS | with_reducible apply eL | exact eR)) (by omega) ?_
            rw [hd1]
            refine ixN rfl rfl hO.rdI.aok (by omega) ?_
            (refine tI rfl rfl (by with_reducible assumption) (by repeat first | with_reducible apply lH | with_reducible apply lT | with_reducible apply lL) (by first | with_reducible assumption | omega) ?_; intro lk1 how1)
            refine rN ?_
            refine qN ?_
            refine cR ?_
            refine mv rfl ?_
            first | refine rAn (b := 1) rfl rfl (by omega) ?_ | refine rA rfl rfl (by omega) (by omega) ?_ | refine bAdd rfl rfl ?_
            refine asg rfl ?_
            refine rN ?_
            refine qBN ?_
            refine qN ?_
            refine cR ?_
            refine mv rfl ?_
            first | refine rAn (b := 1) rfl rfl (by omega) ?_ | refine rA rfl rfl (by omega) (by omega) ?_ | refine bAdd rfl rfl ?_
            refine asg rfl ?_
            refine rN ?_
            refine qL4 (k2 + 1) (k + 1) (S.set k (zs.getD (k0 + k2) 0)) (_) ?_ (by omega) (by repeat first | exact Sub.nil _ | refine Sub.cons rfl ?_) (by (try simp only [List.cons_append, List.nil_append, List.append_assoc]); repeat' first | with_reducible apply eR | with_reducible apply eA | ((with_reducible apply xA); · repeat first | with_reducible apply lH | with_reducible apply lT | with_reducible apply lL) | ((with_reducible apply xC); · repeat first | apply pH | with_reducible apply pT | with_reducible apply pL) | with_reducible assumption | with_reducible apply eS | with_reducible apply eL | exact eR)
            refine ⟨⟨by omega, by omega, by omega⟩, by assumption, by rw [List.length_set]; exact hSl, ?_, ?_⟩
            · rw [take_setI (by omega), hSt, ← Nat.add_assoc, cmK_new hr2]
            · rw [show k0 + (k2 + 1) - 1 = k0 + k2 by omega]; exact drop_setI (by omega) hdn
          · have hr' := hr; try simp only [inB_iff, Bool.and_eq_true, decide_eq_true_eq, decide_eq_false_iff_not, beq_iff_eq, beq_eq_false_iff_ne, bne_iff_ne, bne_eq_false_iff_eq, ne_eq] at hr'
            have hr2 : zs.getD (k0 + k2) 0 = zs.getD (k0 + k2 - 1) 0 := by first | exact hr' | exact of_decide_eq_true hr | omega
            refine cK ?_
            refine qBN ?_
            refine qN ?_
            refine cR ?_
            refine mv rfl ?_
            first | refine rAn (b := 1) rfl rfl (by omega) ?_ | refine rA rfl rfl (by omega) (by omega) ?_ | refine bAdd rfl rfl ?_
            refine asg rfl ?_
            refine rN ?_
            refine qL4 (k2 + 1) (k) (S) (_) ?_ (by omega) (by repeat first | exact Sub.nil _ | refine Sub.cons rfl ?_) (by (try simp only [List.cons_append, List.nil_append, List.append_assoc]); repeat' first | with_reducible apply eR | with_reducible apply eA | ((with_reducible apply xA); · repeat first | with_reducible apply lH | with_reducible apply lT | with_reducible apply lL) | ((with_reducible apply xC); · repeat first | apply pH | with_reducible apply pT | with_reducible apply pL) | with_reducible assumption | with_reducible apply eS | with_reducible apply eL | exact eR)
            refine ⟨⟨by omega, by omega, by omega⟩, hO, hSl, ?_, ?_⟩
            · rw [hSt, ← Nat.add_assoc, cmK_dup (by omega) hr2]
            · rw [show k0 + (k2 + 1) - 1 = k0 + k2 by omega]; exact hdn
        · have c3' := c3; try simp only [inB_iff, Bool.and_eq_true, decide_eq_true_eq, decide_eq_false_iff_not, beq_iff_eq, beq_eq_false_iff_ne, bne_iff_ne, bne_eq_false_iff_eq, ne_eq] at c3'
          have hke : k0 + k2 = zs.length := by omega
          rw [hke] at hSt
          obtain ⟨b, rest, rfl, rfl, g1, g2⟩ := hO.pos (by omega)
          simp only [List.cons_append, List.nil_append]
          refine cX ?_
          refine qX ?_
          refine qL4X ?_
          refine qBX ?_
          refine qN ?_
          refine cS (cR ?_)
          refine mv rfl ?_
          refine mv rfl ?_
          refine slL rfl rfl (by omega) (by omega) ?_
          refine clI (by rfl) rfl (by repeat first | apply pH | with_reducible apply pT | with_reducible apply pL) (by omega) (by omega) g1 g2 ?_
          intro L9 ho9
          refine rN ?_
          refine qN ?_
          refine cS (cR ?_)
          refine mv rfl ?_
          refine mv rfl ?_
          refine slH rfl rfl (by omega) ?_
          refine asg rfl ?_
          refine rN ?_
          refine qN ?_
          refine cE ?_
          refine qBE ?_
          refine qE ?_
          refine qL1E ?_
          refine qBE ?_
          refine qE ?_
          rw [hSt] at ho9
          rw [cut1_0I]
          refine kE rfl rfl ?_
          exact ⟨_, ⟨_, ho9, rfl⟩, eR⟩
      · have hq' := hq; try simp only [inB_iff, Bool.and_eq_true, decide_eq_true_eq, decide_eq_false_iff_not, beq_iff_eq, beq_eq_false_iff_ne, bne_iff_ne, bne_eq_false_iff_eq, ne_eq] at hq'
        have hq2 : zs.getD k0 0 ≠ zs.getD (k0 - 1) 0 := by first | exact hq' | exact of_decide_eq_false hq | omega
        refine cK ?_
        refine qBN ?_
        refine qN ?_
        refine cR ?_
        refine mv rfl ?_
        first | refine rAn (b := 1) rfl rfl (by omega) ?_ | refine rA rfl rfl (by omega) (by omega) ?_ | refine bAdd rfl rfl ?_
        refine asg rfl ?_
        refine rN ?_
        refine qL1 (k0 + 1) ?_ (by omega) (by repeat first | exact Sub.nil _ | refine Sub.cons rfl ?_) (by (try simp only [List.cons_append, List.nil_append, List.append_assoc]); repeat' first | with_reducible apply eR | with_reducible apply eA | ((with_reducible apply xA); · repeat first | with_reducible apply lH | with_reducible apply lT | with_reducible apply lL) | ((with_reducible apply xC); · repeat first | apply pH | with_reducible apply pT | with_reducible apply pL) | with_reducible assumption | with_reducible apply eS | with_reducible apply eL | exact eR)
        exact ⟨by omega, by omega, by rw [cmK_new hq2, hcm, take_getD hk2]⟩
    · have c2' := c2; try simp only [inB_iff, Bool.and_eq_true, decide_eq_true_eq, decide_eq_false_iff_not, beq_iff_eq, beq_eq_false_iff_ne, bne_iff_ne, bne_eq_false_iff_eq, ne_eq] at c2'
      have hke : k0 = zs.length := by omega
      subst hke
      rw [List.take_length] at hcm
      refine cX ?_
      refine qX ?_
      refine qL1X ?_
      refine qBX ?_
      refine qN ?_
      refine cS (cR ?_)
      refine mv rfl ?_
      refine asg rfl ?_
      refine rN ?_
      refine qN ?_
      refine cE ?_
      refine kE rfl rfl  ?_
      first | (exfalso; contradiction) | exact ⟨_, ⟨_, by rw [hcm]; exact ho, rfl⟩, (by (try simp only [List.cons_append, List.nil_append, List.append_assoc]); repeat' first | with_reducible apply eR | with_reducible apply eA | ((with_reducible apply xA); · repeat first | with_reducible apply lH | with_reducible apply lT | with_reducible apply lL) | ((with_reducible apply xC); · repeat first | apply pH | with_reducible apply pT | with_reducible apply pL) | with_reducible assumption | with_reducible apply eS | with_reducible apply eL | exact eR)⟩ | (exfalso; first | contradiction | omega | (simp_all; done) | (simp_all; omega))
end Go.Proofs.Ytkbpdgacfeachaa.Ab
