/-
  Contracts: slices.Values, AppendSeq, Collect, Sorted, at lists of integers.
-/
import Derived.Test.YtkbpdgacfeachaaHv
namespace Go.Proofs.Ytkbpdgacfeachaa.Ab
open Go Go.RowKit Go.Shelf
set_option linter.unusedVariables false
set_option linter.unusedSimpArgs false
theorem nfS_slice' {v : Value} {a : Option Addr} {n c : Nat} (h : nfS v = .slice a n c) : v = .slice a n c := by
  cases v <;> simp_all [nfS]
theorem nf_func' {v : Value} {f : Fn} {a b : Array Value} (h : nf v = .func f a b) : v = .func f a b := by
  cases v <;> simp_all [nf, nfA, nfS]
/-- a memory seen again in a world that keeps what was there -/
theorem SatF.keptH {w0 : World} {B : Nat} {w w' : World} {M : Mem} (h : SatF w0 B w M) (hb : Below w.heap.size w w') : SatF w0 B w' M :=
  ⟨h.below.trans (hb.mono h.room), Nat.le_trans h.room hb.size, fun p hp => by
    obtain ⟨c, E, fr, hc, h1, h2⟩ := h.ok p hp
    exact ⟨c, E, fr, (hb.block _ (Array.getElem?_eq_some_iff.1 hc).1).trans hc, h1, h2⟩, h.apart⟩
theorem SatF.own {w0 : World} {B : Nat} {w w' : World} {M : Mem} (h : SatF w0 B w M) (hb : Below w.heap.size w w') {e : TypeId} {v : Value} {zs : List Int} (ho : w'.ownsRow w.heap.size e 1 v zs.length (zs.map (Value.int .i64))) :
    ∃ L, OwI L (nf v) zs ∧ SatF w0 B w' (L ++ M) := by
  obtain ⟨_, ⟨rfl, h0⟩ | ⟨g, cap, cur, rfl, hg, hh, hle, _, hsz, htk⟩⟩ := ho
  · obtain rfl := List.eq_nil_of_length_eq_zero h0
    exact ⟨[], OwI.nil, h.keptH hb⟩
  · have hk := h.keptH hb
    rw [Nat.mul_one] at htk hsz
    have hc : cur.toList.map nfS = iL zs ++ (cur.toList.drop zs.length).map nfS := by
      conv => lhs; rw [← List.take_append_drop zs.length cur.toList]
      rw [List.map_append, htk]
      congr 1
      simp [iL, nfS, List.map_map, Function.comp_def]
    refine ⟨[(g, ⟨iL zs ++ (cur.toList.drop zs.length).map nfS, true⟩)], .inr ⟨g, cap, _, rfl, by simp [hsz]; omega, rfl⟩, hk.below, hk.room, fun p hp => ?_, ?_⟩
    · rcases List.mem_cons.1 hp with rfl | hp
      · exact ⟨cur, e, (0, 0), hh, hc, fun _ => ⟨rfl, Nat.le_trans h.room hg⟩⟩
      · exact hk.ok p hp
    · refine List.Pairwise.cons (fun q hq _ => ?_) hk.apart
      obtain ⟨c', E', fr, hc', _, _⟩ := h.ok q hq
      have := (Array.getElem?_eq_some_iff.1 hc').1
      simp only
      omega
theorem one_arg {av : Array Value} {x : Value} (h : av.toList.map nf = [x]) : ∃ u, av = #[u] ∧ nf u = x := by
  cases av with
  | mk l =>
    simp at h
    match l, h with
    | [u], h => exact ⟨u, rfl, by simpa using h⟩
theorem two_arg {av : Array Value} {x y : Value} (h : av.toList.map nf = [x, y]) : ∃ u v, av = #[u, v] ∧ nf u = x ∧ nf v = y := by
  cases av with
  | mk l =>
    simp at h
    match l, h with
    | [u, v], h => exact ⟨u, v, rfl, by simpa using h⟩
/-- the iterator over a slice that lies in a box -/
abbrev vaF (bk : Nat) : Value := .func (.func 57) #[] #[.pointer (some ⟨bk, 0, none⟩)]
theorem c_values (a : Option Addr) (n c : Nat) (M : Mem) : ACall Try.prog 43 [.slice a n c] M fun v M' => ∃ bk, v = vaF bk ∧ M' = [(bk, ⟨[.slice a n c], true⟩)] ++ M := by
  intro w0 B av w ha hs
  obtain ⟨u, rfl, hu⟩ := one_arg ha
  rw [nf_slice hu]
  refine Calls.mono (callsIn_wide.1 (va_in Fence.wide 9 trivial rfl a n c w)) ?_
  rintro e w' ⟨rfl, rfl⟩
  exact ⟨_, _, rfl, hs.alloc _ _, _, rfl, rfl⟩
theorem c_appendSeq (bk : Nat) (a : Option Addr) (n c : Nat) (zs : List Int) (M : Mem) (hm : (bk, (⟨[.slice a n c], true⟩ : Blk)) ∈ M) (hr : RdI M a n zs) (hn : n ≤ 1073741824) :
    ACall Try.prog 66 [.slice none 0 0, vaF bk] M fun v M' => ∃ L, OwI L v zs ∧ M' = L ++ M := by
  intro w0 B av w ha hs
  obtain ⟨u, u2, rfl, hu, hu2⟩ := two_arg ha
  rw [nf_slice hu, nf_func' hu2]
  obtain ⟨x, hx, hx2⟩ := cell_of hs hm (o := 0) rfl
  obtain rfl := nfS_slice' hx2
  have hbk : bk < w.heap.size := by
    obtain ⟨ce, E, fr, hb, _⟩ := hs.ok _ hm
    exact (Array.getElem?_eq_some_iff.1 hb).1
  obtain ⟨rfl, hr⟩ := hr
  have hI : VaI w.heap.size w (.slice a zs.length c) zs := by
    rcases hr with rfl | ⟨b, o, k, rfl, hbm, hce⟩
    · exact .inl ⟨⟨_, _, rfl⟩, rfl⟩
    · refine .inr ⟨b, o, c, rfl, ?_, fun j hj => ?_⟩
      · obtain ⟨ce, E, fr, hb, _⟩ := hs.ok _ hbm
        exact (Array.getElem?_eq_some_iff.1 hb).1
      · obtain ⟨y, hy, hy2⟩ := cell_of hs hbm (hce j hj)
        rw [hy, nfS_int' hy2]
        simp [List.getD]
  refine Calls.mono (callsIn_wide.1 (as_in Fence.wide 9 trivial trivial rfl (by omega) bk _ zs hn w hbk hx hI)) ?_
  rintro e w' ⟨v, rfl, ho, hB⟩
  obtain ⟨L, h1, h2⟩ := hs.own hB ho
  exact ⟨_, _, rfl, h2, L, h1, rfl⟩
attribute [local irreducible] Run Then InBlock LoopQ LQ1 LQ2 LQ3 LQ4 LQ5 LQ6 AWp Ret ACall
theorem c_collectI (bk : Nat) (a : Option Addr) (n c : Nat) (zs : List Int) (M : Mem) (hm : (bk, (⟨[.slice a n c], true⟩ : Blk)) ∈ M) (h : RdI M a n zs) (hn : n ≤ 1073741824) :
    ACall Try.prog 55 [vaF bk] M fun v M' => ∃ L, OwI L v zs ∧ M' = L ++ M := by
  skip
  refine acall_of_awp Try.func55 rfl Try.ntmps55 rfl ?_
  refine cS (cR ?_)
  refine asg rfl ?_
  refine rN ?_
  refine qN ?_
  refine cS (cR ?_)
  refine mv rfl ?_
  refine rC rfl (c_appendSeq bk a n c zs _ hm h hn) ?_
  rintro _ _ ⟨lk9, how9, rfl⟩
  refine ⟨fun _ => (by (try simp only [List.cons_append, List.nil_append, List.append_assoc]); repeat' first | with_reducible apply eR | with_reducible apply eA | ((with_reducible apply xA); · repeat first | with_reducible apply lH | with_reducible apply lT | with_reducible apply lL) | ((with_reducible apply xC); · repeat first | apply pH | with_reducible apply pT | with_reducible apply pL) | with_reducible assumption | with_reducible apply eS | with_reducible apply eL | exact eR), ?_⟩
  obtain ⟨ad9, cn9, rfl, hrd9⟩ := how9.rd
  have hcn9 := how9.capl
  refine asg rfl ?_
  refine rN ?_
  refine qN ?_
  refine cE ?_
  refine kE rfl rfl  ?_
  first | (exfalso; contradiction) | exact ⟨_, ⟨_, how9, rfl⟩, (by (try simp only [List.cons_append, List.nil_append, List.append_assoc]); repeat' first | with_reducible apply eR | with_reducible apply eA | ((with_reducible apply xA); · repeat first | with_reducible apply lH | with_reducible apply lT | with_reducible apply lL) | ((with_reducible apply xC); · repeat first | apply pH | with_reducible apply pT | with_reducible apply pL) | with_reducible assumption | with_reducible apply eS | with_reducible apply eL | exact eR)⟩ | (exfalso; first | contradiction | omega | (simp_all; done) | (simp_all; omega))
theorem c_sortedI (bk : Nat) (a : Option Addr) (n c : Nat) (zs : List Int) (M : Mem) (hm : (bk, (⟨[.slice a n c], true⟩ : Blk)) ∈ M) (h : RdI M a n zs) (hn : n ≤ 1073741824) :
    ACall Try.prog 42 [vaF bk] M fun v M' => ∃ L, OwI L v (zs.mergeSort fun x y => decide (x ≤ y)) ∧ M' = L ++ M := by
  skip
  refine acall_of_awp Try.func42 rfl Try.ntmps42 rfl ?_
  refine cS (cR ?_)
  refine asg rfl ?_
  refine rN ?_
  refine qN ?_
  refine cS (cR ?_)
  refine mv rfl ?_
  refine rC rfl (c_collectI bk a n c zs _ hm h hn) ?_
  rintro _ _ ⟨lk9, how9, rfl⟩
  refine ⟨fun _ => (by (try simp only [List.cons_append, List.nil_append, List.append_assoc]); repeat' first | with_reducible apply eR | with_reducible apply eA | ((with_reducible apply xA); · repeat first | with_reducible apply lH | with_reducible apply lT | with_reducible apply lL) | ((with_reducible apply xC); · repeat first | apply pH | with_reducible apply pT | with_reducible apply pL) | with_reducible assumption | with_reducible apply eS | with_reducible apply eL | exact eR), ?_⟩
  obtain ⟨ad9, cn9, rfl, hrd9⟩ := how9.rd
  have hcn9 := how9.capl
  refine asg rfl ?_
  refine rN ?_
  refine qN ?_
  refine cS (cR ?_)
  refine mv rfl ?_
  refine rC rfl (c_sortI _ _ _ zs lk9 _ how9 (by rw [h.len]; exact hn)) ?_
  rintro _ _ ⟨rfl, lk8, how8, rfl⟩
  refine ⟨nofun, ?_⟩
  refine rN ?_
  refine qN ?_
  refine cS (cR ?_)
  refine mv rfl ?_
  refine asg rfl ?_
  refine rN ?_
  refine qN ?_
  refine cE ?_
  refine kE rfl rfl  ?_
  first | (exfalso; contradiction) | exact ⟨_, ⟨_, how8, rfl⟩, (by (try simp only [List.cons_append, List.nil_append, List.append_assoc]); repeat' first | with_reducible apply eR | with_reducible apply eA | ((with_reducible apply xA); · repeat first | with_reducible apply lH | with_reducible apply lT | with_reducible apply lL) | ((with_reducible apply xC); · repeat first | apply pH | with_reducible apply pT | with_reducible apply pL) | with_reducible assumption | with_reducible apply eS | with_reducible apply eL | exact eR)⟩ | (exfalso; first | contradiction | omega | (simp_all; done) | (simp_all; omega))
end Go.Proofs.Ytkbpdgacfeachaa.Ab
