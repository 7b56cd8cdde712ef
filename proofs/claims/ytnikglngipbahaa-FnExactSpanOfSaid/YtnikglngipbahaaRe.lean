/-
  Walks: frames of a station.
-/
import Derived.Test.YtnikglngipbahaaRd
namespace Go.Proofs.Ytnikglngipbahaa.Ab
open Go Go.RowKit
attribute [local irreducible] Run Then InBlock LoopQ LQ1 LQ2 LQ3 LQ4 LQ5 LQ6 AWp Ret ACall
set_option linter.unusedVariables false
set_option linter.unusedSimpArgs false

/-! ## clear -/
theorem mem_zeroCells {z : Array Value} {m : Nat} : ∀ u ∈ (Builtin.zeroCells z m).toList, u ∈ z.toList := by
  intro u hu
  simp only [Builtin.zeroCells, Array.toList_map, List.mem_map] at hu
  obtain ⟨i, hi, rfl⟩ := hu
  have hi' : i < m * z.size := by simpa using hi
  have hz : 0 < z.size := by
    rcases Nat.eq_zero_or_pos z.size with h | h
    · rw [h, Nat.mul_zero] at hi'; omega
    · exact h
  have hlt : i % z.size < z.size := Nat.mod_lt _ hz
  rw [getElem!_pos z _ hlt]
  exact Array.mem_toList_iff.2 (Array.getElem_mem hlt)
section
variable {P : Program} {n : Nat} {T : Tm} {M : Mem} {ops : Array Oper} {st : Option (List Nat)} {Q : Tm → Mem → Prop} {fl : Bool} {l : List (Oper × Bool)} {d : Option Nat} {ty : Nat} {pos : String} {after : Array Edge}
theorem step_clear {K : Value → Mem → Prop} {g : Option (Nat × Bool)} {t e size bytes : Nat} {z : Value} [hu : UnderT P t (.slice e)] [hi : InfoT P e size bytes z] {x : Operand} {b o m c : Nat} {k : Blk} (p : Nat)
    (ex : ev T x = some (.slice (some ⟨b, o, none⟩) m c)) (hz : z.cells.toList.all flatV = true) (h0 : 0 < m) (hp : M[p]? = some (b, k)) (hw : k.wr = true) (ho : o + m * size ≤ k.cells.length)
    (hk : ∀ cs : List Value, cs.length = m * size → K (.tuple #[]) (M.set p (b, ⟨k.cells.take o ++ cs ++ k.cells.drop (o + m * size), true⟩))) :
    Step P n ⟨d, .call { callee := .builtin .clear, args := #[x], argTypes := #[t] }, ty, pos, after, g⟩ T M K := by
  intro w0 B a w ht hs
  obtain ⟨i, hi1, hi2, hi3, hi4⟩ := hi.out
  have hx := nf_slice (ev_sound ht ex)
  have hlz : (Builtin.zeroCells z.cells m).toList.length = m * size := by
    rw [Array.length_toList, Builtin.zeroCells, Array.size_map, Array.size_range, hi.cells_size]
  have hfl : ∀ u ∈ (Builtin.zeroCells z.cells m).toList, flatV u = true := fun u hu => List.all_eq_true.1 hz u (mem_zeroCells u hu)
  obtain ⟨w', hr, hs'⟩ := run_storeCells_sat (P := P) (b := b) (o := o) (Builtin.zeroCells z.cells m).toList 0 w M p k hs hp hw hfl (by rw [hlz]; omega)
  obtain ⟨m', rfl⟩ : ∃ m', m = m' + 1 := ⟨m - 1, by omega⟩
  have hrun : (execOp a.eval ⟨d, .call { callee := .builtin .clear, args := #[x], argTypes := #[t] }, ty, pos, after, g⟩).run P w = .ok (.value (.tuple #[])) w' := by
    simp [execOp, resolve, hx, invoke, builtin, Builtin.clear_, run_underlying hu.out, zeroValue, typeInfo, hi1, hi4, hr]
  rw [hrun]
  refine ⟨_, hs', ?_⟩
  simp only [Nat.add_zero, hlz]
  rw [show nf (.tuple #[]) = .tuple #[] from by simp [nf]]
  exact hk ((Builtin.zeroCells z.cells (m' + 1)).toList.map nfS) (by rw [List.length_map, hlz])
theorem clT {t e bytes : Nat} {z : Value} [hu : UnderT P t (.slice e)] [hi : InfoT P e 3 bytes z] {x : Operand} {b c i m : Nat} {cs rest : List Value} {c' : Nat} {M1 : Mem} (hz : z.cells.toList.all flatV = true) (ex : ev T x = some (.slice (cut1 (some ⟨b, 0, none⟩) c i 3) (m - i) c'))
    (hM : Ext ((b, ⟨cs ++ rest, true⟩) :: M1) M) (hi2 : i < m) (hmc : m ≤ c) (h2 : cs.length = m * 3) (h3 : cs.length + rest.length = c * 3)
    (kk : ∀ L', OwC 3 L' (.slice (some ⟨b, 0, none⟩) i c) i (cs.take (i * 3)) → Run P n ops st Q l T (L' ++ M1)) :
    Run P n ops st Q ((⟨none, .call { callee := .builtin .clear, args := #[x], argTypes := #[t] }, ty, pos, after, none⟩, false) :: l) T M := by
  have e1 : cut1 (some ⟨b, 0, none⟩) c i 3 = some ⟨b, i * 3, none⟩ := by
    unfold cut1; rw [if_neg (by omega)]; simp [Addr.add]; try exact fun h => h.symm
  rw [e1] at ex
  refine run_step rfl (Step.ofExt (step_clear (P := P) (M := (b, ⟨cs ++ rest, true⟩) :: M1) (k := ⟨cs ++ rest, true⟩) (m := m - i) 0 ex hz (by omega) rfl rfl (by show i * 3 + (m - i) * 3 ≤ (cs ++ rest).length; rw [List.length_append]; omega) fun us hus => ⟨fun ks hs h => by simp [keeps, writer, keptD] at h, ?_⟩) hM)
  have e2 : (cs ++ rest).take (i * 3) = cs.take (i * 3) := List.take_append_of_le_length (by omega)
  have e3 : (cs ++ rest).drop (i * 3 + (m - i) * 3) = rest := by rw [show i * 3 + (m - i) * 3 = cs.length from by omega, List.drop_left]
  show Run P n ops st Q l T ((b, ⟨(cs ++ rest).take (i * 3) ++ us ++ (cs ++ rest).drop (i * 3 + (m - i) * 3), true⟩) :: M1)
  rw [e2, e3, List.append_assoc]
  refine kk [(b, ⟨cs.take (i * 3) ++ (us ++ rest), true⟩)] (.inr ⟨b, c, us ++ rest, rfl, by omega, by rw [List.length_take]; omega, ?_, rfl⟩)
  rw [List.length_take, List.length_append, hus]; omega
end
/-! ## frames that are left -/
theorem OwR.E {L : Mem} {v : Value} {fs : List Frm} (h : OwR L v fs) : ∃ Lo Li es, es.map (·.1) = fs ∧ OwC 3 Lo v fs.length (eCs es) ∧ OwE Li es ∧ L = Lo ++ Li := by
  obtain ⟨Lo, Li, vs, h1, h2, rfl⟩ := h
  have hl : vs.length = fs.length := by rw [h2.len, List.length_map]
  have e1 : (fs.zip vs).map (·.1) = fs := List.map_fst_zip (by omega)
  have e2 : (fs.zip vs).map (·.2) = vs := List.map_snd_zip (by omega)
  refine ⟨Lo, Li, fs.zip vs, e1, ?_, ?_, rfl⟩
  · unfold eCs; rw [← triL_E, e1, e2]; exact h1
  · unfold OwE
    have e3 : (fs.zip vs).map (fun e => e.1.xs) = fs.map Frm.xs := by
      conv => rhs; rw [← e1, List.map_map]
      rfl
    rw [e2, e3]; exact h2
theorem filt_map {q : Frm → Bool} {es : List Efr} : (es.filter fun e => q e.1).map (·.1) = (es.map (·.1)).filter q := by
  rw [List.filter_map]; rfl
theorem OwE.filt {q : Frm → Bool} {L : Mem} {es : List Efr} (h : OwE L es) : ∃ L', OwE L' (es.filter fun e => q e.1) ∧ Ext L' L := h.sub List.filter_sublist
theorem filt_y {p : Efr → Bool} {es : List Efr} {i : Nat} (hi : i < es.length) (h : p (es.getD i zE) = true) : (es.take (i + 1)).filter p = (es.take i).filter p ++ [es.getD i zE] := by
  have e : es[i] = es.getD i zE := by simp [List.getD, hi]
  rw [List.take_succ_eq_append_getElem hi, List.filter_append, e]
  rw [List.filter_cons, h]; rfl
theorem filt_n {p : Efr → Bool} {es : List Efr} {i : Nat} (hi : i < es.length) (h : p (es.getD i zE) = false) : (es.take (i + 1)).filter p = (es.take i).filter p := by
  have e : es[i] = es.getD i zE := by simp [List.getD, hi]
  rw [List.take_succ_eq_append_getElem hi, List.filter_append, e, List.filter_cons, h]
  simp
theorem filt_len {p : Efr → Bool} {es : List Efr} (i : Nat) : ((es.take i).filter p).length ≤ i := by
  have := List.length_filter_le p (es.take i)
  rw [List.length_take] at this; omega
theorem three_flat {w d : Int} {v : Value} (h : flatV v = true) : ∀ u ∈ [Value.int .i64 w, Value.int .i64 d, v], flatV u = true := by
  intro u hu
  simp only [List.mem_cons, List.not_mem_nil, or_false] at hu
  rcases hu with rfl | rfl | rfl
  · rfl
  · rfl
  · exact h
theorem ext_part {A B M : Mem} (h : Ext A B) : Ext (A ++ M) (B ++ M) := by
  obtain ⟨R, p⟩ := h
  refine ⟨R, (p.append_right M).trans ?_⟩
  rw [List.append_assoc, List.append_assoc]
  exact List.perm_append_comm.append_left A
theorem ext_own {L A B C M : Mem} (h : Ext A B) : Ext ((L ++ A) ++ M) (L ++ (C ++ (B ++ M))) := by
  rw [List.append_assoc]
  exact eLK (eL (ext_part h))
/-- the frames of a station, in order -/
def ofR (fs : List Frm) (s : Int) : List Frm := (sortR fs fs.length).filter fun f => f.w == s
set_option maxHeartbeats 1000000 in
theorem c_l07Of (a : Option Addr) (n c : Nat) (fs : List Frm) (s : Int) (M : Mem) (h : RdR M a n fs) (hn : n ≤ 12) (hxs : ∀ i, i < n → (fs.getD i zR).xs.length ≤ 1048576) :
    ACall Try.prog 48 [.slice a n c, .int .i64 s] M fun v M' => ∃ L, OwR L v (ofR fs s) ∧ M' = L ++ M := by
  obtain ⟨rfl, _⟩ := id h
  skip
  skip
  skip
  skip
  skip
  refine acall_of_awp Try.func48 rfl Try.ntmps48 rfl ?_
  refine cS (cR ?_)
  refine asg rfl ?_
  refine rN ?_
  refine qN ?_
  refine cS (cR ?_)
  refine rB0 ?_; intro bk1
  refine asg rfl ?_
  refine rN ?_
  refine qN ?_
  refine cS (cR ?_)
  refine mv rfl ?_
  refine rC rfl (c_l07Sorted _ _ _ _ _ (by (first | with_reducible assumption | (apply RdR.mono; (· with_reducible assumption); · (try simp only [List.cons_append, List.nil_append, List.append_assoc]); repeat' first | with_reducible apply eR | with_reducible apply eA | ((with_reducible apply xA); · repeat first | with_reducible apply lH | with_reducible apply lT | with_reducible apply lL) | ((with_reducible apply xC); · repeat first | apply pH | with_reducible apply pT | with_reducible apply pL) | with_reducible assumption | with_reducible apply eS | with_reducible apply eL | exact eR) | (apply RdR.mono; (· (apply OwR.rdR; with_reducible assumption)); · (try simp only [List.cons_append, List.nil_append, List.append_assoc]); repeat' first | with_reducible apply eR | with_reducible apply eA | ((with_reducible apply xA); · repeat first | with_reducible apply lH | with_reducible apply lT | with_reducible apply lL) | ((with_reducible apply xC); · repeat first | apply pH | with_reducible apply pT | with_reducible apply pL) | with_reducible assumption | with_reducible apply eS | with_reducible apply eL | exact eR))) (by first | omega | (have := afB_len (by assumption); omega)) (by assumption)) ?_
  rintro sv1 _ ⟨lk1, how1, rfl⟩
  obtain ⟨ad1, cn1, rfl, hrd1⟩ := how1.rd
  have hcn1 := how1.capl
  refine ⟨fun _ => eL eR, ?_⟩
  refine asg rfl ?_
  refine rN ?_
  refine qN ?_
  refine cS ?_
  refine cS (cR ?_)
  refine mv rfl ?_
  refine ln rfl ?_
  refine mv rfl ?_
  refine rN ?_
  refine qN ?_
  refine cB ?_
  have hsl : (sortR fs fs.length).length = fs.length := sortG_len _ _ _ _
  obtain ⟨Lo, Li, es, hes, ho, hE, rfl⟩ := how1.E
  have hel : es.length = fs.length := by rw [← hsl, ← hes, List.length_map]
  rw [hsl] at ho
  have hrr := how1.rdR
  refine cL4 (fun (i : Nat) (k : Nat) (sl : Value) (L2 : Mem) => [(13, .int .i64 (i : Nat)), (5, sl)]) [(1, _), (6, _), (12, _)] (fun (i : Nat) (k : Nat) (sl : Value) (L2 : Mem) => L2 ++ (Lo ++ (Li ++ M))) (fun (i : Nat) (k : Nat) (sl : Value) (L2 : Mem) => fs.length - i) (fun (i : Nat) (k : Nat) (sl : Value) (L2 : Mem) => i ≤ fs.length ∧ k = ((es.take i).filter fun e => e.1.w == s).length ∧ OwC 3 L2 sl k (eCs ((es.take i).filter fun e => e.1.w == s))) (0) (0) (_) ([(bk1, ⟨[], true⟩)]) (by repeat first | exact Sub.nil _ | refine Sub.cons rfl ?_) (by (try simp only [List.cons_append, List.nil_append, List.append_assoc]); repeat' first | with_reducible apply eR | with_reducible apply eA | ((with_reducible apply xA); · repeat first | with_reducible apply lH | with_reducible apply lT | with_reducible apply lL) | ((with_reducible apply xC); · repeat first | apply pH | with_reducible apply pT | with_reducible apply pL) | with_reducible assumption | with_reducible apply eS | with_reducible apply eL | exact eR) (by exact ⟨Nat.zero_le _, rfl, OwC.lit0⟩) ?_
  rintro i k sl L2 ⟨hi, hk, hz⟩
  refine wT (T' := [(13, _), (5, _), (1, _), (6, _), (12, _)]) rfl ?_
  refine cS (cR ?_)
  refine bLss rfl rfl ?_
  refine rN ?_
  refine qN ?_
  refine cS ?_
  have hkl := filt_len (p := fun e => e.1.w == s) (es := es) i
  obtain ⟨a7, c7, rfl, hc7, hcl⟩ := hz.shape
  refine cC rfl (fun c1 => ?_) (fun c1 => ?_)
  · have c1' := c1; try simp only [inB_iff, Bool.and_eq_true, decide_eq_true_eq, decide_eq_false_iff_not, beq_iff_eq, beq_eq_false_iff_ne, bne_iff_ne, bne_eq_false_iff_eq, ne_eq] at c1'
    have hi2 : i < fs.length := by omega
    have hei : es.getD i zE = es.getD i zE := rfl
    have hgi : (sortR fs fs.length).getD i zR = (es.getD i zE).1 := by rw [← hes]; simp [List.getD, show i < es.length by omega]
    refine cK ?_
    refine qN ?_
    refine cS ?_
    refine cB ?_
    refine cS (cR ?_)
    refine mv rfl ?_
    refine asg rfl ?_
    refine rN ?_
    refine qN ?_
    refine cS (cR ?_)
    refine mv rfl ?_
    refine mv rfl ?_
    first
      | refine ixP rfl rfl (by first | (apply RdP.aok; with_reducible assumption) | exact AOk.own) (by first | with_reducible assumption | omega) ?_
      | refine ixR rfl rfl (by first | (apply RdR.aok; with_reducible assumption) | exact AOk.own) (by first | with_reducible assumption | omega) ?_
    refine fA rfl ?_
    refine ldRf0 rfl (by (first | with_reducible assumption | (apply RdR.mono; (· with_reducible assumption); · (try simp only [List.cons_append, List.nil_append, List.append_assoc]); repeat' first | with_reducible apply eR | with_reducible apply eA | ((with_reducible apply xA); · repeat first | with_reducible apply lH | with_reducible apply lT | with_reducible apply lL) | ((with_reducible apply xC); · repeat first | apply pH | with_reducible apply pT | with_reducible apply pL) | with_reducible assumption | with_reducible apply eS | with_reducible apply eL | exact eR) | (apply RdR.mono; (· (apply OwR.rdR; with_reducible assumption)); · (try simp only [List.cons_append, List.nil_append, List.append_assoc]); repeat' first | with_reducible apply eR | with_reducible apply eA | ((with_reducible apply xA); · repeat first | with_reducible apply lH | with_reducible apply lT | with_reducible apply lL) | ((with_reducible apply xC); · repeat first | apply pH | with_reducible apply pT | with_reducible apply pL) | with_reducible assumption | with_reducible apply eS | with_reducible apply eL | exact eR))) (by first | with_reducible assumption | omega) ?_
    refine mv rfl ?_
    refine bEql rfl rfl ?_
    refine rN ?_
    refine qN ?_
    rw [hgi]
    refine cC rfl (fun hr => ?_) (fun hr => ?_)
    · have hr' := hr; try simp only [inB_iff, Bool.and_eq_true, decide_eq_true_eq, decide_eq_false_iff_not, beq_iff_eq, beq_eq_false_iff_ne, bne_iff_ne, bne_eq_false_iff_eq, ne_eq] at hr'
      refine cR ?_
      refine mv rfl ?_
      refine mv rfl ?_
      refine mv rfl ?_
      first
        | refine ixP rfl rfl (by first | (apply RdP.aok; with_reducible assumption) | exact AOk.own) (by first | with_reducible assumption | omega) ?_
        | refine ixR rfl rfl (by first | (apply RdR.aok; with_reducible assumption) | exact AOk.own) (by first | with_reducible assumption | omega) ?_
      refine ldT ho rfl (by omega) rfl (by (try simp only [List.cons_append, List.nil_append, List.append_assoc]); repeat' first | with_reducible apply eR | with_reducible apply eA | ((with_reducible apply xA); · repeat first | with_reducible apply lH | with_reducible apply lT | with_reducible apply lL) | ((with_reducible apply xC); · repeat first | apply pH | with_reducible apply pT | with_reducible apply pL) | with_reducible assumption | with_reducible apply eS | with_reducible apply eL | exact eR) ?_
      refine rB3 rfl ?_
      intro bk28
      refine apC (by decide) (by intro _ h; cases h <;> rfl) rfl rfl hz (by repeat first | with_reducible apply pmH | apply pmS | with_reducible apply pmT | with_reducible apply pmL) (rdC_head (by repeat first | with_reducible assumption | with_reducible apply List.mem_cons_self | with_reducible apply List.mem_cons_of_mem | with_reducible apply List.mem_append_right | exact List.Mem.head _)) (three_flat (hE.flatE _ (mem_getD (by omega)))) (by omega) (by omega) ?_
      intro sv29 lk29 how29
      refine asg rfl ?_
      refine rN ?_
      refine qBN ?_
      refine qN ?_
      refine cR ?_
      first | refine rAn (b := 1) rfl rfl (by omega) ?_ | refine rA rfl rfl (by omega) (by omega) ?_ | refine bAdd rfl rfl ?_
      refine mv rfl ?_
      refine rN ?_
      refine qL4 (i + 1) (k + 1) (_) (lk29) ?_ (by omega) (by repeat first | exact Sub.nil _ | refine Sub.cons rfl ?_) (by (try simp only [List.cons_append, List.nil_append, List.append_assoc]); repeat' first | with_reducible apply eR | with_reducible apply eA | ((with_reducible apply xA); · repeat first | with_reducible apply lH | with_reducible apply lT | with_reducible apply lL) | ((with_reducible apply xC); · repeat first | apply pH | with_reducible apply pT | with_reducible apply pL) | with_reducible assumption | with_reducible apply eS | with_reducible apply eL | exact eR)
      have e := filt_y (p := fun e => e.1.w == s) (by omega : i < es.length) hr
      exact ⟨by omega, by rw [e, List.length_append, hk]; rfl, by rw [e, eCs_app]; exact how29⟩
    · have hr' := hr; try simp only [inB_iff, Bool.and_eq_true, decide_eq_true_eq, decide_eq_false_iff_not, beq_iff_eq, beq_eq_false_iff_ne, bne_iff_ne, bne_eq_false_iff_eq, ne_eq] at hr'
      refine cK ?_
      refine qBN ?_
      refine qN ?_
      refine cR ?_
      first | refine rAn (b := 1) rfl rfl (by omega) ?_ | refine rA rfl rfl (by omega) (by omega) ?_ | refine bAdd rfl rfl ?_
      refine mv rfl ?_
      refine rN ?_
      refine qL4 (i + 1) (k) (_) (_) ?_ (by omega) (by repeat first | exact Sub.nil _ | refine Sub.cons rfl ?_) (by (try simp only [List.cons_append, List.nil_append, List.append_assoc]); repeat' first | with_reducible apply eR | with_reducible apply eA | ((with_reducible apply xA); · repeat first | with_reducible apply lH | with_reducible apply lT | with_reducible apply lL) | ((with_reducible apply xC); · repeat first | apply pH | with_reducible apply pT | with_reducible apply pL) | with_reducible assumption | with_reducible apply eS | with_reducible apply eL | exact eR)
      have e := filt_n (p := fun e => e.1.w == s) (by omega : i < es.length) hr
      exact ⟨by omega, by rw [e]; exact hk, by rw [e]; exact hz⟩
  · have c1' := c1; try simp only [inB_iff, Bool.and_eq_true, decide_eq_true_eq, decide_eq_false_iff_not, beq_iff_eq, beq_eq_false_iff_ne, bne_iff_ne, bne_eq_false_iff_eq, ne_eq] at c1'
    have : i = fs.length := by omega
    subst this
    rw [show es.take fs.length = es from by rw [← hel, List.take_length]] at hz hk
    refine cX ?_
    refine qX ?_
    refine qL4X ?_
    refine qBX ?_
    refine qN ?_
    refine cS (cR ?_)
    refine mv rfl ?_
    refine asg rfl ?_
    refine rN ?_
    refine qN ?_
    refine cE ?_
    obtain ⟨Li', hE', hx⟩ := hE.filt (q := fun f => f.w == s)
    have hR := OwE.toR hk hz hE'
    rw [filt_map (q := fun f => f.w == s), hes] at hR
    refine kE rfl rfl ?_
    exact ⟨_, ⟨_, hR, rfl⟩, ext_own hx⟩
end Go.Proofs.Ytnikglngipbahaa.Ab
