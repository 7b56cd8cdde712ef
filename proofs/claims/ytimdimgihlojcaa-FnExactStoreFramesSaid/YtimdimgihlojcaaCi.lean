/-
  The model's level: the packed trace.
-/
import Derived.Test.YtimdimgihlojcaaCh
namespace Go.Proofs.Ytimdimgihlojcaa.Ab
open Go Go.RowKit Go.Shelf
set_option linter.unusedVariables false
set_option linter.unusedSimpArgs false
attribute [local go_sem] Oper.semAt_some

theorem KeepsBut.refl (n₁ Bo : Nat) (W : World) : KeepsBut n₁ Bo W W := fun _ _ _ => rfl
theorem KeepsBut.trans {n₁ Bo : Nat} {A B C : World} (h : KeepsBut n₁ Bo A B) (k : KeepsBut n₁ Bo B C) : KeepsBut n₁ Bo A C := fun j a b => (k j a b).trans (h j a b)
theorem keepsBut_b {n₁ Bo : Nat} {w : World} (hn : n₁ ≤ w.heap.size) (W : World) (l : Nat) (o o' : Obj) (hl : w.heap.size ≤ l) (_ : W.heap[l]? = some o) (_ : o.isCells = false) (_ : o.isWalk = false) : KeepsBut n₁ Bo W (W.putObj l o') :=
  fun k hk _ => World.putObj_heap_other (by omega)
theorem keepsBut_set {n₁ Bo : Nat} (W : World) (v : Value) : KeepsBut n₁ Bo W (W.setCell ⟨Bo, 0, none⟩ v) := fun k _ hk => Below.heap_setCell _ _ _ k hk
theorem keepsBut_below {n₁ Bo : Nat} {W W' : World} (hb : Below W.heap.size W W') (hn : n₁ ≤ W.heap.size) : KeepsBut n₁ Bo W W' := fun k hk _ => hb.block k (by omega)
theorem keepsOthers_below {W W' : World} (hb : Below W.heap.size W W') : KeepsOthers W W' := ⟨hb.size, fun k o hk _ => (hb.block k (Array.getElem?_eq_some_iff.1 hk).1).trans hk⟩
set_option maxHeartbeats 1000000 in
theorem ch_in (F : Fence) (n : Nat) (hF : F.fn 87) (hro : F.round = none) (a : Option Addr) (len cap : Nat) (w : World) :
    CallsIn F n Try.prog 87 #[.slice a len cap, .int .i64 8] w fun e w' => e = .returned (.func (.func 110) #[] #[.pointer (some ⟨w.heap.size, 0, none⟩), .pointer (some ⟨w.heap.size + 1, 0, none⟩)]) ∧
      w' = (w.alloc (.cells #[.slice a len cap] 22)).alloc (.cells #[.int .i64 8] 3) := by
  refine callsIn_of_wp Try.func87 rfl hF ?_ hro
  simp only [Try.ntmps87, List.size_toArray, List.length_cons, List.length_nil, Nat.reduceAdd, Nat.reduceSub, Array.replicate_succ, Array.replicate_zero, List.push_toArray, List.append_toArray, List.nil_append, List.cons_append]
  gi_wp2
  go_ret
  exact ⟨rfl, rfl⟩
theorem ch_stops {α : Type} (enc : α → Value) (g : Nat → α) (F : Fence) (n : Nat) (hF : F.fn 110) (hro : F.round = none) (hn : 1 ≤ n) (Bs Bn Bo n₁ b off len cap : Nat) (hlen : len ≤ 1000000) (hcap : len ≤ cap) (hsl : Bs < n₁) (hnl : Bn < n₁) (hso : Bs ≠ Bo) (hno : Bn ≠ Bo)
    (hg : ∀ j, j < (len + 7) / 8 → enc (g j) = chV b off len j) (w : World) (hn₁ : n₁ ≤ w.heap.size) (hBs : w.cell? ⟨Bs, 0, none⟩ = some (.slice (some ⟨b, off, none⟩) len cap)) (hBn : w.cell? ⟨Bn, 0, none⟩ = some (.int .i64 8)) :
    SeqStopsK F n Try.prog 110 #[.pointer (some ⟨Bs, 0, none⟩), .pointer (some ⟨Bn, 0, none⟩)] (fun x : α => #[enc x]) (KeepsBut n₁ Bo) (fun ys => ys = chU g ((len + 7) / 8)) (fun pre => ∃ k, k ≤ (len + 7) / 8 ∧ pre = chU g k) ((len + 7) / 8) w :=
  fun l J Jx W hW hJ _ hY h0 => ch1_in enc g F n hF hro hn l Bs Bn Bo n₁ b off len cap hlen hcap hsl hnl hso hno hg J Jx (fun s W h => hJ s W W.drew none h ⟨rfl, rfl, rfl, Nat.le_refl _, fun _ _ _ => rfl⟩ (fun r e => by cases e)) hY W
    ((hW.cell (p := ⟨Bs, 0, none⟩) (Nat.lt_of_lt_of_le hsl hn₁)).trans hBs) ((hW.cell (p := ⟨Bn, 0, none⟩) (Nat.lt_of_lt_of_le hnl hn₁)).trans hBn) h0
/-- a block packed, at the model's level -/
theorem pk_calls (W : World) (b o n c E : Nat) (fr : Nat × Nat) (ce : Array Value) (xs : List Nat) (hb : W.heap[b]? = some (.cells ce E fr)) (hc : ∀ i, i < xs.length → (ce.toList.map nfS)[o + i]? = (xs.map fl)[i]?) (hn : n = xs.length) (hB : blB xs = true) :
    Calls Try.prog 51 #[.slice (some ⟨b, o, none⟩) n c] W fun e W' => e = .returned (.string (pkS xs)) ∧ Below W.heap.size W W' := by
  subst hn
  have hs : SatF W W.heap.size W [(b, ⟨ce.toList.map nfS, false⟩)] := ⟨Below.refl _ _, Nat.le_refl _, fun p hp => by
    obtain rfl := List.mem_singleton.1 hp
    exact ⟨ce, E, fr, hb, rfl, fun h => by cases h⟩, List.pairwise_singleton _ _⟩
  have hr : RdF [(b, ⟨ce.toList.map nfS, false⟩)] (some ⟨b, o, none⟩) xs.length xs := by
    exact ⟨rfl, .inr ⟨b, o, _, rfl, List.mem_singleton.2 rfl, fun i hi => hc i (by simpa using hi)⟩⟩
  refine (c_packBlock (some ⟨b, o, none⟩) xs.length c xs _ hr hB W W.heap.size #[.slice (some ⟨b, o, none⟩) xs.length c] W rfl hs).mono ?_
  rintro e w' ⟨u, M', rfl, hs', hu, rfl⟩
  exact ⟨by rw [nf_string hu], hs'.below⟩
/-- what is packed when some pieces have come -/
noncomputable def trF (xs : List Nat) (K : Nat) (pre : List (Fin K)) : ByteArray := pre.foldl (fun s x => s ++ pkS ((xs.drop (8 * x.val)).take 8)) (bsS [(xs.length : Int) % 256])
theorem trF_snoc (xs : List Nat) (K : Nat) (pre : List (Fin K)) (x : Fin K) : trF xs K (pre ++ [x]) = trF xs K pre ++ pkS ((xs.drop (8 * x.val)).take 8) := by simp [trF]
theorem trF_size (xs : List Nat) (K : Nat) (pre : List (Fin K)) : (trF xs K pre).size ≤ 1 + 17 * pre.length := by
  have h : ∀ n (pre : List (Fin K)), pre.length = n → (trF xs K pre).size ≤ 1 + 17 * n := by
    intro n
    induction n with
    | zero => intro pre hp; obtain rfl := List.eq_nil_of_length_eq_zero hp; unfold trF; rw [List.foldl_nil, bsS_size]; simp
    | succ n ih =>
      intro pre hp
      obtain ⟨ini, x, rfl⟩ : ∃ ini x, pre = ini ++ [x] := ⟨pre.dropLast, pre.getLast (by intro e; subst e; cases hp), (List.dropLast_concat_getLast _).symm⟩
      rw [trF_snoc, ByteArray.size_append, pkS_size]
      have := ih ini (by simpa using hp)
      simp
      omega
  exact h _ pre rfl
theorem trF_all (xs : List Nat) (K : Nat) (g : Nat → Fin K) (hg : ∀ j, j < K → (g j).val = j) : ∀ k, k ≤ K → trF xs K (chU g k) = trK xs k
  | 0, _ => rfl
  | k + 1, hk => by rw [chU_succ, trF_snoc, trF_all xs K g hg k (by omega), hg k (by omega)]; rfl
/-- a memory seen again in a world that keeps what was there -/
theorem SatF.kept {w0 : World} {B : Nat} {w w' : World} {M : Mem} (h : SatF w0 B w M) (hb : Below w.heap.size w w') : SatF w0 B w' M :=
  ⟨h.below.trans (hb.mono h.room), Nat.le_trans h.room hb.size, fun p hp => by
    obtain ⟨c, E, fr, hc, h1, h2⟩ := h.ok p hp
    exact ⟨c, E, fr, (hb.block _ (Array.getElem?_eq_some_iff.1 hc).1).trans hc, h1, h2⟩, h.apart⟩
set_option maxRecDepth 100000 in
set_option maxHeartbeats 4000000 in
theorem packTrace_calls (w : World) (b o c E : Nat) (fr : Nat × Nat) (ce : Array Value) (xs : List Nat) (hb : w.heap[b]? = some (.cells ce E fr)) (hc : ∀ i, i < xs.length → (ce.toList.map nfS)[o + i]? = (xs.map fl)[i]?) (hcap : xs.length ≤ c) (h1 : 1 ≤ xs.length) (h2 : xs.length ≤ 128) (hf : fnA xs = true) :
    Calls Try.prog 59 #[.slice (some ⟨b, o, none⟩) xs.length c] w fun e W' => e = .returned (.string (trS xs)) ∧ Below w.heap.size w W' := by
  refine (callsIn_wide (n := 9)).1 ?_
  refine callsIn_of_wp_marks Try.func59 rfl trivial ?_ rfl
  simp only [Try.ntmps59, List.size_toArray, List.length_cons, List.length_nil, Nat.reduceAdd, Nat.reduceSub, Array.replicate_succ, Array.replicate_zero, List.push_toArray, List.append_toArray, List.nil_append, List.cons_append]
  have hcv : Sem.run Try.prog (convert 67 9 (Value.slice (some { block := w.heap.size, off := 0 }) 1 1)) (w.alloc (Obj.cells #[Value.int IntKind.u8 ((xs.length : Nat) : Int)] 5)) = Result.ok (.string (bsS [(xs.length : Int) % 256])) (w.alloc (Obj.cells #[Value.int IntKind.u8 ((xs.length : Nat) : Int)] 5)) := by
    have u1 : UnderT Try.prog 67 (.slice 5) := inferInstance
    have u2 : UnderT Try.prog 5 (.int .u8) := inferInstance
    have u3 : UnderT Try.prog 9 .string := inferInstance
    rw [run_convert_bytes_string _ _ _ _ _ 1 1 u1.out u2.out u3.out, Int.emod_eq_of_lt (by omega) (by omega)]
    exact run_bytesToString _ _ 1 1 [((xs.length : Nat) : Int)] (by
      have := run_loadCells_list (P := Try.prog) (w.alloc (Obj.cells #[Value.int IntKind.u8 ((xs.length : Nat) : Int)] 5)) ⟨w.heap.size, 0, none⟩ [Value.int IntKind.u8 ((xs.length : Nat) : Int)] (by
        intro j v hj
        cases j with
        | zero =>
          simp only [List.getElem?_cons_zero] at hj
          cases hj
          exact (Boxed.new w 5 (.int .u8 ((xs.length : Nat) : Int))).cell
        | succ j => simp at hj)
      simpa using this)
  gi_wp2_with (refine ⟨trivial, ?_⟩; gi_at_call 87; refine (ch_in Fence.wide _ trivial rfl _ _ _ _).mono ?_; rintro e w' ⟨rfl, rfl⟩)
  have hK : 0 < (xs.length + 7) / 8 := by omega
  have hblt : b < w.heap.size := (Array.getElem?_eq_some_iff.1 hb).1
  have bOut := (((Boxed.new (w.alloc (.cells #[.int .u8 ((xs.length : Nat) : Int)] 5)) 9 (.string (bsS [(xs.length : Int) % 256]))).alloc (.cells #[.slice (some ⟨b, o, none⟩) xs.length c] 22)).alloc (.cells #[.int .i64 8] 3))
  have bS := (Boxed.new ((w.alloc (.cells #[.int .u8 ((xs.length : Nat) : Int)] 5)).alloc (.cells #[.string (bsS [(xs.length : Int) % 256])] 9)) 22 (.slice (some ⟨b, o, none⟩) xs.length c)).alloc (.cells #[.int .i64 8] 3)
  have bN := Boxed.new (((w.alloc (.cells #[.int .u8 ((xs.length : Nat) : Int)] 5)).alloc (.cells #[.string (bsS [(xs.length : Int) % 256])] 9)).alloc (.cells #[.slice (some ⟨b, o, none⟩) xs.length c] 22)) 3 (.int .i64 8)
  have hB0 : Below w.heap.size w ((((w.alloc (.cells #[.int .u8 ((xs.length : Nat) : Int)] 5)).alloc (.cells #[.string (bsS [(xs.length : Int) % 256])] 9)).alloc (.cells #[.slice (some ⟨b, o, none⟩) xs.length c] 22)).alloc (.cells #[.int .i64 8] 3)) :=
    ((((Below.refl _ w).alloc (Nat.le_refl _) _).alloc (by simp) _).alloc (by simp; omega) _).alloc (by simp; omega) _
  simp only [World.size_alloc] at bOut bS bN
  obtain ⟨g, hg⟩ : ∃ g : Nat → Fin ((xs.length + 7) / 8), ∀ j, j < (xs.length + 7) / 8 → (g j).val = j := ⟨fun j => if h : j < (xs.length + 7) / 8 then ⟨j, h⟩ else ⟨0, hK⟩, fun j h => by simp [h]⟩
  refine wpIn_rangeFunc_ownG rfl (by omega) (gf := 110) (lb := #[.pointer (some ⟨w.heap.size + 1 + 1, 0, none⟩), .pointer (some ⟨w.heap.size + 1 + 1 + 1, 0, none⟩)]) rfl trivial (enters_of Try.func110 (by kernel_rfl) rfl)
    (ch_stops (fun x => chV b o xs.length x.val) g Fence.wide _ trivial rfl (by omega) (w.heap.size + 1 + 1) (w.heap.size + 1 + 1 + 1) (w.heap.size + 1) (w.heap.size + 1 + 1 + 1 + 1) b o xs.length c (by omega) hcap (by omega) (by omega) (by omega) (by omega) (fun j hj => by rw [hg j hj]) _ (by simp) bS.cell bN.cell)
    (fun h k => h.trans k) (keepsBut_b (by simp)) (Below.refl _ _) (fun _ => rfl)
    (fun pre W => ((W.cell? ⟨w.heap.size + 1, 0, none⟩ = some (.string (trF xs ((xs.length + 7) / 8) pre)) ∧ W.frozen? ⟨w.heap.size + 1, 0, none⟩ = false) ∧ w.heap.size + 1 + 1 + 1 + 1 ≤ W.heap.size) ∧ Below w.heap.size w W)
    (fun _ _ _ => False)
    (OwnFrom.and (Own.from (fun s A B row hs hg hr => ⟨⟨cell_kept hs.1.1 hg hr, (frozen_kept hs.1.1 hg hr).trans hs.1.2⟩, Nat.le_trans hs.2 hg.size⟩) _) (ownFrom_below (Nat.le_refl _) (by simp; omega)))
    (fun _ _ _ _ _ hs _ _ => hs)
    ⟨⟨⟨bOut.cell, bOut.frozen⟩, by simp⟩, hB0⟩
    (fun x => { tmps := #[.slice (some ⟨b, o, none⟩) xs.length c, undef, .string { data := #[] }, .pointer (some ⟨w.heap.size + 1, 0, none⟩), chV b o xs.length x.val, .slice (some ⟨b, o, none⟩) xs.length c, .int .i64 ((xs.length : Nat) : Int), .int .u8 ((xs.length : Nat) : Int), .slice (some ⟨w.heap.size, 0, none⟩) 1 1, .string (bsS [(xs.length : Int) % 256]), .slice (some ⟨b, o, none⟩) xs.length c,
      .func (.func 110) #[] #[.pointer (some ⟨w.heap.size + 1 + 1, 0, none⟩), .pointer (some ⟨w.heap.size + 1 + 1 + 1, 0, none⟩)], chV b o xs.length x.val, undef, undef, undef, undef, undef], defers := [] }) ?assign ?body ?done ?stop
  case assign =>
    intro l x W K hK
    gi_wp2
    exact hK
  case body =>
    rintro l pre x W ⟨⟨⟨hcl, hfz⟩, hn4⟩, hB⟩ hlen
    have hx := x.isLt
    have hbW : W.heap[b]? = some (.cells ce E fr) := (hB.block b hblt).trans hb
    have hsW := hB.size
    have hlt2 : w.heap.size + 1 < W.heap.size := by
      obtain ⟨o', ho', _⟩ := cells_of_cell hcl
      exact (Array.getElem?_eq_some_iff.1 ho').1
    have hs1 := trF_size xs _ pre
    have hpk : ∀ W' : World, W'.heap[b]? = some (.cells ce E fr) → Calls Try.prog 51 #[chV b o xs.length x.val] W' fun e W'' => e = .returned (.string (pkS ((xs.drop (8 * x.val)).take 8))) ∧ Below W'.heap.size W' W'' := fun W' h =>
      pk_calls W' b (o + 8 * x.val) _ _ E fr ce ((xs.drop (8 * x.val)).take 8) h (fun i hi => by
        simp only [List.length_take, List.length_drop] at hi
        rw [Nat.add_assoc, hc (8 * x.val + i) (by omega), List.getElem?_map, List.getElem?_map, List.getElem?_take, if_pos (by omega), List.getElem?_drop]) (by simp) (ch_bl hf hx)
    have hs2 : (pkS ((xs.drop (8 * x.val)).take 8)).size ≤ 17 := by rw [pkS_size]; simp; omega
    have hmx : Try.prog.follows .mixedOrders = true := by kernel_rfl
    gi_wp2
    gi_region_with_o (refine ⟨trivial, ?_⟩; gi_at_call 51; refine (CallsIn.inRound l (callsIn_wide.2 (hpk W.drew hbW))).mono ?_; rintro e w' ⟨rfl, hBw⟩; have hcl' := (hBw.cell (p := ⟨w.heap.size + 1, 0, none⟩) (by first | exact hlt2 | exact hlt2)).trans hcl; have hfz' := (hBw.frozen (p := ⟨w.heap.size + 1, 0, none⟩) hlt2).trans hfz)
    all_goals gi_wp2
    all_goals
      have hBw' : Below W.heap.size W w' := ⟨hBw.os, hBw.tape, hBw.output, hBw.size, hBw.block⟩
      have hsz' := hBw'.size
      exact ⟨((keepsOthers_below hBw').trans (KeepsOthers.setCell _ _ _)).from _, (keepsBut_below hBw' hn4).trans (keepsBut_set _ _),
        ⟨⟨by rw [trF_snoc]; exact World.cell?_setCell_same' _ _ _ (by rw [hcl']; rfl), by rw [World.frozen?_setCell]; exact hfz'⟩, Nat.le_trans (Nat.le_trans hn4 hsz') (KeepsOthers.setCell _ _ _).size⟩,
        (hB.trans (hBw'.mono hB.size)).setCell (p := ⟨w.heap.size + 1, 0, none⟩) (by simp) _⟩
  case done =>
    rintro D ys W hD rfl ⟨⟨⟨hcl, _⟩, _⟩, hB⟩ hK2
    gi_wp2
    refine ⟨by simp, .inl ⟨_, _, rfl, run_takeDeferred hK2, ?_⟩⟩
    refine ⟨_, results_tmp rfl _ _ _, ?_, hB.trans (belowK_b (w := w) (Nat.le_refl _) W D _ _ (by simp at hD; omega) hK2 rfl rfl)⟩
    rw [trF_all xs _ g hg _ (Nat.le_refl _)]
    rfl
  case stop =>
    rintro D c pre W _ _ h _
    exact h.elim
theorem c_packTrace (a : Option Addr) (n c : Nat) (xs : List Nat) (M : Mem) (h : RdF M a n xs) (hcap : n ≤ c) (h1 : 1 ≤ n) (h2 : n ≤ 128) (hf : fnA xs = true) :
    ACall Try.prog 59 [.slice a n c] M fun v M' => v = .string (trS xs) ∧ M' = M := by
  intro w0 B av w ha hs
  obtain ⟨rfl, h0 | ⟨b, o, k, rfl, hm, hcell⟩⟩ := h
  · exfalso
    have := congrArg List.length h0
    simp at this
    subst this
    simp at h1
  · obtain ⟨ce, E, fr, hb, hce, _⟩ := hs.ok _ hm
    obtain ⟨u, rfl⟩ : ∃ u, av = #[u] := by
      cases av with
      | mk l =>
        simp at ha
        match l, ha with
        | [u], _ => exact ⟨u, rfl⟩
    have hu : nf u = .slice (some ⟨b, o, none⟩) xs.length c := by simpa using ha
    rw [nf_slice hu]
    refine (packTrace_calls w b o c E fr ce xs hb (fun i hi => by rw [hce]; exact hcell i (by simpa using hi)) hcap h1 h2 hf).mono ?_
    rintro e w' ⟨rfl, hB⟩
    exact ⟨_, M, rfl, hs.kept hB, rfl, rfl⟩
theorem trS_size {xs : List Nat} : (trS xs).size = utT xs.length := by
  unfold trS
  rw [trK_size xs _ (Nat.le_refl _), utA_end]
end Go.Proofs.Ytimdimgihlojcaa.Ab
