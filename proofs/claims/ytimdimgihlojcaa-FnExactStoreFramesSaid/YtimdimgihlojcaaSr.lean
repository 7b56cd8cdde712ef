/-
  The abstract layer: strings and lists of bytes.
-/
import Derived.Test.YtimdimgihlojcaaOw
import Derived.Test.YtimdimgihlojcaaBi
import Derived.Test.YtimdimgihlojcaaDa
import Derived.Laws.Strings
import Derived.Laws.Strings2
import Derived.Laws.StructEq
import Derived.Laws.IdiomStrings
namespace Go.Proofs.Ytimdimgihlojcaa.Ab
open Go Go.RowKit
set_option linter.unusedVariables false
set_option linter.unusedSimpArgs false

/-- the cells of bytes -/
def byL (ns : List Int) : List Value := ns.map (.int .u8)
/-- the string of bytes -/
def bsS (ns : List Int) : ByteArray := ⟨(ns.map fun n => UInt8.ofNat n.toNat).toArray⟩
/-- the bytes of a string -/
def byS (s : ByteArray) : List Int := s.data.toList.map fun b => (b.toNat : Int)
/-- the byte of a string at a place -/
def sAt (s : ByteArray) (i : Nat) : Int := (byS s).getD i 0
theorem byL_len (ns : List Int) : (byL ns).length = ns.length := by simp [byL]
theorem byL_flat (ns : List Int) : ∀ v ∈ byL ns, flatV v = true := by
  intro v hv; unfold byL at hv; rw [List.mem_map] at hv; obtain ⟨n, _, rfl⟩ := hv; rfl
theorem byL_app (a b : List Int) : byL (a ++ b) = byL a ++ byL b := by simp [byL]
theorem byS_len (s : ByteArray) : (byS s).length = s.size := by unfold byS; rw [List.length_map, Array.length_toList]; rfl
theorem bsS_size (ns : List Int) : (bsS ns).size = ns.length := by
  show (ns.map fun n => UInt8.ofNat n.toNat).toArray.size = _
  rw [List.size_toArray, List.length_map]
theorem byS_bsS {ns : List Int} (h : ∀ n ∈ ns, 0 ≤ n ∧ n < 256) : byS (bsS ns) = ns := by
  unfold byS bsS
  simp only [List.map_map]
  conv => rhs; rw [← List.map_id ns]
  apply List.map_congr_left
  intro n hn
  obtain ⟨h1, h2⟩ := h n hn
  show ((UInt8.ofNat n.toNat).toNat : Int) = n
  rw [UInt8.toNat_ofNat']
  omega
theorem bsS_byS (s : ByteArray) : bsS (byS s) = s := by
  unfold byS bsS
  cases s with
  | mk d =>
    congr 1
    simp only [List.map_map]
    have : ((fun n : Int => UInt8.ofNat n.toNat) ∘ fun b : UInt8 => (b.toNat : Int)) = id := by
      funext b; simp
    rw [this, List.map_id]
theorem bsS_app (a b : List Int) : bsS (a ++ b) = bsS a ++ bsS b := by
  unfold bsS
  apply ByteArray.ext
  simp
theorem byS_app (s t : ByteArray) : byS (s ++ t) = byS s ++ byS t := by simp [byS]
theorem byS_rng (s : ByteArray) : ∀ n ∈ byS s, 0 ≤ n ∧ n < 256 := by
  intro n hn
  unfold byS at hn
  rw [List.mem_map] at hn
  obtain ⟨b, _, rfl⟩ := hn
  have := b.toNat_lt
  omega
theorem sAt_rng (s : ByteArray) (i : Nat) : 0 ≤ sAt s i ∧ sAt s i < 256 := by
  unfold sAt
  rw [List.getD_eq_getElem?_getD]
  rcases Nat.lt_or_ge i (byS s).length with h | h
  · rw [List.getElem?_eq_getElem h]; exact byS_rng s _ (List.getElem_mem h)
  · rw [List.getElem?_eq_none h]; decide
theorem byS_inj {s t : ByteArray} (h : byS s = byS t) : s = t := by rw [← bsS_byS s, ← bsS_byS t, h]
theorem byS_extract (s : ByteArray) (i j : Nat) : byS (s.extract i j) = ((byS s).drop i).take (j - i) := by
  unfold byS
  simp only [ByteArray.data_extract, Array.toList_extract, List.extract_eq_take_drop, List.map_take, List.map_drop]
section
variable {P : Program} {n : Nat} {T : Tm} {M : Mem} {ops : Array Oper} {st : Option (List Nat)} {Q : Tm → Mem → Prop} {fl : Bool} {l : List (Oper × Bool)} {d : Option Nat} {ty : Nat} {pos : String} {after : Array Edge} {tx tz : Nat} {x y z : Operand}
theorem strEq (s t : ByteArray) : (s.toList == t.toList) = decide (s = t) := by
  by_cases h : s = t
  · subst h; rw [decide_eq_true rfl]; exact beq_self_eq_true _
  · rw [decide_eq_false h, beq_eq_false_iff_ne]
    intro he
    rw [ByteArray.toList_eq, ByteArray.toList_eq] at he
    apply h
    cases s; cases t
    congr 1
    exact Array.toList_inj.1 he
theorem sEql {s t : ByteArray} (ex : ev T x = some (.string s)) (ey : ev T y = some (.string t)) (kk : Run P n ops st Q l (putT n d (.bool (decide (s = t))) T) M) : Run P n ops st Q ((⟨d, .binOp .eql tx x y tz, ty, pos, after, none⟩, fl) :: l) T M :=
  run_tameR rfl (fun _ => tame_two (x := x) (y := y) (by simp [Op.operands]) (by simp [Op.operands]) ex ey fun ρ w hx hy => by
    refine ⟨.bool (decide (s = t)), w, ?_, .refl w, rfl⟩
    have e := strEq s t
    simp [execOp, nf_string hx, nf_string hy, eqGuard, binOp, Op.stringOp, e]) kk
theorem sNeq {s t : ByteArray} (ex : ev T x = some (.string s)) (ey : ev T y = some (.string t)) (kk : Run P n ops st Q l (putT n d (.bool (!decide (s = t))) T) M) : Run P n ops st Q ((⟨d, .binOp .neq tx x y tz, ty, pos, after, none⟩, fl) :: l) T M :=
  run_tameR rfl (fun _ => tame_two (x := x) (y := y) (by simp [Op.operands]) (by simp [Op.operands]) ex ey fun ρ w hx hy => by
    refine ⟨.bool (!decide (s = t)), w, ?_, .refl w, rfl⟩
    have e := strEq s t
    simp [execOp, nf_string hx, nf_string hy, eqGuard, binOp, Op.stringOp, e]) kk
theorem sAdd {s t : ByteArray} (ex : ev T x = some (.string s)) (ey : ev T y = some (.string t)) (hb : s.size + t.size ≤ 9223372036854775807) (kk : Run P n ops st Q l (putT n d (.string (s ++ t)) T) M) : Run P n ops st Q ((⟨d, .binOp .add tx x y tz, ty, pos, after, none⟩, fl) :: l) T M :=
  run_tameR rfl (fun _ => tame_two (x := x) (y := y) (by simp [Op.operands]) (by simp [Op.operands]) ex ey fun ρ w hx hy => by
    refine ⟨.string (s ++ t), w, ?_, .refl w, rfl⟩
    have h : ¬ (((s.size + t.size : Nat) : Int) > IntKind.i64.max) := by
      have : IntKind.i64.max = 9223372036854775807 := by decide
      omega
    have h' : ¬ (IntKind.i64.max < (s.size : Int) + (t.size : Int)) := by omega
    simp [execOp, nf_string hx, nf_string hy, eqGuard, binOp, Op.stringOp, h']
    omega) kk
theorem sIx {s : ByteArray} {k : IntKind} {i : Nat} [hu : UnderT P tx .string] (ex : ev T x = some (.string s)) (ey : ev T y = some (.int k (i : Nat))) (hi : i < s.size) (kk : Run P n ops st Q l (putT n d (.int .u8 (sAt s i)) T) M) : Run P n ops st Q ((⟨d, .index tx x y, ty, pos, after, none⟩, fl) :: l) T M :=
  run_tameR rfl (fun _ => tame_two (x := x) (y := y) (by simp [Op.operands]) (by simp [Op.operands]) ex ey fun ρ w hx hy => by
    refine ⟨.int .u8 (sAt s i), w, ?_, .refl w, rfl⟩
    have e : s[i]? = some s[i] := getElem?_pos s i hi
    have e2 : ((s[i]).toNat : Int) = sAt s i := by
      unfold sAt byS
      rw [List.getD_eq_getElem?_getD, List.getElem?_map, List.getElem?_eq_getElem (by rw [Array.length_toList]; exact hi)]
      rfl
    simp [execOp, nf_string hx, nf_int hy, Instr.index, asIntOf, run_underlying hu.out, e, e2]) kk
theorem sSl {s : ByteArray} {k k' : IntKind} {i j : Nat} [hu : UnderT P tx .string] (ex : ev T x = some (.string s)) (ey : ev T y = some (.int k (i : Nat))) (ez : ev T z = some (.int k' (j : Nat))) (h1 : i ≤ j) (h2 : j ≤ s.size) (kk : Run P n ops st Q l (putT n d (.string (s.extract i j)) T) M) : Run P n ops st Q ((⟨d, .slice tx x (some y) (some z) none, ty, pos, after, none⟩, fl) :: l) T M :=
  run_tame rfl (tame_of fun T' M' hev _ n w0 B a w ht hs => by
    have e1 := nf_string (ev_sound ht (hev x _ (by simp [Op.operands]) ex))
    have e2 := nf_int (ev_sound ht (hev y _ (by simp [Op.operands]) ey))
    have e3 := nf_int (ev_sound ht (hev z _ (by simp [Op.operands]) ez))
    refine ⟨.string (s.extract i j), w, ?_, .refl w, rfl⟩
    have hr := run_slice_string (P := P) w tx s k k' (i : Int) (j : Int) hu.out (by omega) (by omega) (by omega)
    simp only [Int.toNat_natCast] at hr
    simp only [execOp, e1, e2, e3, Option.map_some, Option.map_none, Sem.run_bind, run_sliceAt_string w tx _ _ _ _ hu.out, hr]
    rfl) kk
theorem sSlL {s : ByteArray} {k : IntKind} {i : Nat} [hu : UnderT P tx .string] (ex : ev T x = some (.string s)) (ey : ev T y = some (.int k (i : Nat))) (h1 : i ≤ s.size) (kk : Run P n ops st Q l (putT n d (.string (s.extract i s.size)) T) M) : Run P n ops st Q ((⟨d, .slice tx x (some y) none none, ty, pos, after, none⟩, fl) :: l) T M :=
  run_tame rfl (tame_of fun T' M' hev _ n w0 B a w ht hs => by
    have e1 := nf_string (ev_sound ht (hev x _ (by simp [Op.operands]) ex))
    have e2 := nf_int (ev_sound ht (hev y _ (by simp [Op.operands]) ey))
    refine ⟨.string (s.extract i s.size), w, ?_, .refl w, rfl⟩
    have hr := run_slice_string_l (P := P) w tx s hu.out k (i : Int) (by omega) (by omega)
    simp only [Int.toNat_natCast] at hr
    simp only [execOp, e1, e2, Option.map_some, Option.map_none, Sem.run_bind, run_sliceAt_string w tx _ _ _ _ hu.out, hr]
    rfl) kk
theorem sSlH {s : ByteArray} {k : IntKind} {i : Nat} [hu : UnderT P tx .string] (ex : ev T x = some (.string s)) (ey : ev T y = some (.int k (i : Nat))) (h1 : i ≤ s.size) (kk : Run P n ops st Q l (putT n d (.string (s.extract 0 i)) T) M) : Run P n ops st Q ((⟨d, .slice tx x none (some y) none, ty, pos, after, none⟩, fl) :: l) T M :=
  run_tame rfl (tame_of fun T' M' hev _ n w0 B a w ht hs => by
    have e1 := nf_string (ev_sound ht (hev x _ (by simp [Op.operands]) ex))
    have e2 := nf_int (ev_sound ht (hev y _ (by simp [Op.operands]) ey))
    refine ⟨.string (s.extract 0 i), w, ?_, .refl w, rfl⟩
    have hr := run_slice_string_h (P := P) w tx s hu.out k (i : Int) (by omega) (by omega)
    simp only [Int.toNat_natCast] at hr
    simp only [execOp, e1, e2, Option.map_some, Option.map_none, Sem.run_bind, run_sliceAt_string w tx _ _ _ _ hu.out, hr]
    rfl) kk
theorem RdC.aok {M : Mem} {a : Option Addr} {c m : Nat} {vs : List Value} (h : RdC M (.slice a m c) m 1 vs) : AOk a m := by
  obtain ⟨h1, a', c', h2, h3⟩ := h
  obtain ⟨rfl, _, rfl⟩ := Value.slice.inj h2
  rcases h3 with h3 | ⟨b, o, k, h3, _⟩
  · subst h3
    exact .inl (by simp at h1; omega)
  · exact .inr ⟨b, o, h3⟩
theorem ldB {t : Nat} [PlainT P t] {x : Operand} {a : Option Addr} {m c j : Nat} {ns : List Int} (ex : ev T x = some (pAt a j)) (h : RdC M (.slice a m c) m 1 (byL ns)) (hj : j < m)
    (kk : Run P n ops st Q l (putT n d (.int .u8 (ns.getD j 0)) T) M) : Run P n ops st Q ((⟨d, .load t x, ty, pos, after, none⟩, fl) :: l) T M := by
  obtain ⟨h1, a', c', h2, h3⟩ := h
  obtain ⟨rfl, _, rfl⟩ := Value.slice.inj h2
  rw [byL_len] at h1
  rcases h3 with h3 | ⟨b, o, k, rfl, hm, hc⟩
  · exfalso; have := congrArg List.length h3; rw [byL_len] at this; simp at this; subst this; simp at h1; omega
  · refine rL ex hm ((hc j (by rw [byL_len]; omega)).trans ?_) rfl kk
    unfold byL
    rw [List.getElem?_map, List.getElem?_eq_getElem (by omega)]
    simp [List.getD, show j < ns.length by omega]
/-- a variable of no cells -/
theorem ldZ {t : Nat} [AggT P t] [hz : ZeroT P t] {x : Operand} {b o : Nat} (ex : ev T x = some (.pointer (some ⟨b, o, none⟩))) (kk : Run P n ops st Q l (putT n d (.agg #[]) T) M) : Run P n ops st Q ((⟨d, .load t x, ty, pos, after, none⟩, fl) :: l) T M :=
  run_tame rfl (tame_of fun T' M' he hx n w0 B a w ht hs => by
    have hz' := hz.out
    cases hi : P.info? t with
    | none => rw [hi] at hz'; cases hz'
    | some i =>
      rw [hi] at hz'
      have hs0 : i.size = 0 := by simpa using hz'
      refine ⟨.agg #[], w, ?_, .refl w, by simp [nf, nfA]⟩
      have hp1 := nf_pointer (ev_sound ht (he x _ (by simp [Op.operands]) ex))
      simp [execOp, hp1, Instr.loadAt, Instr.sureAddr, loadVar, run_isAgg_agg, sizeOf, typeInfo, hi, hs0, loadCells, loadCellsFrom]) kk
theorem foldl_push : ∀ (ns : List Int) (r : ByteArray), ns.foldl (fun r n => r.push (UInt8.ofNat n.toNat)) r = ⟨r.data ++ (ns.map fun n => UInt8.ofNat n.toNat).toArray⟩
  | [], r => by simp
  | n :: ns, r => by
    simp only [List.foldl_cons, List.map_cons]
    rw [foldl_push ns]
    simp [ByteArray.push]
/-- bytes as a string -/
theorem sBy {s t e : Nat} [h1 : UnderT P s (.slice e)] [h2 : UnderT P e (.int .u8)] [h3 : UnderT P t .string] {m : Nat} {v : Value} {ns : List Int} (ex : ev T x = some v) (hr : RdC M v m 1 (byL ns)) (kk : Run P n ops st Q l (putT n d (.string (bsS ns)) T) M) : Run P n ops st Q ((⟨d, .convert s t x, ty, pos, after, none⟩, fl) :: l) T M :=
  run_tame rfl (tame_of fun T' M' hev he n w0 B a w ht hs => by
    have hv := ev_sound ht (hev x _ (by simp [Op.operands]) ex)
    obtain ⟨us, hus, husf, ad, c, rfl, hcell⟩ := rdC_cells hs (hr.mono he) (byL_flat ns)
    have e1 := nf_slice hv
    have hus2 : us = byL ns := by
      rw [← hus]
      conv => lhs; rw [← List.map_id us]
      apply List.map_congr_left
      intro u hu
      have hmem : nfS u ∈ byL ns := by rw [← hus]; exact List.mem_map_of_mem hu
      unfold byL at hmem
      rw [List.mem_map] at hmem
      obtain ⟨q, _, hq⟩ := hmem
      cases u <;> simp_all [nfS]
    subst hus2
    refine ⟨.string (bsS ns), w, ?_, .refl w, rfl⟩
    have hml : m = ns.length := by have := hr.1; rw [byL_len] at this; omega
    subst hml
    have hrun : (convert s t (.slice ad ns.length c)).run P w = .ok (.string (bsS ns)) w := by
      rw [run_convert_bytes_string w s t e ad ns.length c h1.out h2.out h3.out]
      rcases hcell with h0 | ⟨a', ha', hcl⟩
      · have hns : ns = [] := by unfold byL at h0; simpa using h0
        subst hns
        cases ad with
        | none => rfl
        | some ad =>
          exact run_bytesToString w ad 0 c [] rfl
      · subst ha'
        have hl := run_loadCells_list (P := P) w a' (byL ns) hcl
        rw [byL_len] at hl
        rw [run_bytesToString w a' ns.length c ns hl, foldl_push, show ByteArray.empty.data = #[] from rfl, Array.empty_append]
        rfl
    simp [execOp, e1, hrun]) kk
/-- a string as bytes: a block that is only read -/
theorem step_to {s t e : Nat} [h1 : UnderT P s .string] [h2 : UnderT P t (.slice e)] [h3 : UnderT P e (.int .u8)] {v : ByteArray} {K : Value → Mem → Prop} (ex : ev T x = some (.string v)) (kk : ∀ b c rest, K (.slice (some ⟨b, 0, none⟩) v.size c) ((b, ⟨byL (byS v) ++ rest, false⟩) :: M)) : Step P n ⟨d, .convert s t x, ty, pos, after, none⟩ T M K := by
  intro w0 B a w ht hs
  have e1 := nf_string (ev_sound ht ex)
  have hrun := run_bytes_of_string (P := P) w s t e v h1.out h2.out h3.out
  have hrun' : (execOp a.eval ⟨d, .convert s t x, ty, pos, after, none⟩).run P w = .ok (.value (.slice (some ⟨w.heap.size, 0, none⟩) v.size (grownCap w v.size 0 e)))
      (w.drew.alloc (.cells (bytesRow v (grownCap w v.size 0 e)) e ((bytesRow v (grownCap w v.size 0 e)).size, (bytesRow v (grownCap w v.size 0 e)).size + 1))) := by
    simp [execOp, e1, hrun]
  rw [hrun']
  have hd : SatF w0 B w.drew M := hs.quiet (quiet_drew w)
  have hc : (bytesRow v (grownCap w v.size 0 e)).toList.map nfS = byL (byS v) ++ List.replicate (grownCap w v.size 0 e - v.size) (.int .u8 0) := by
    unfold bytesRow byL byS
    simp [nfS]
  refine ⟨(w.heap.size, ⟨byL (byS v) ++ List.replicate (grownCap w v.size 0 e - v.size) (.int .u8 0), false⟩) :: M, ⟨hd.below.alloc hd.room _, ?_, ?_, ?_⟩, kk _ _ _⟩
  · have := hd.room
    show B ≤ (w.heap.push _).size
    rw [Array.size_push]
    have h4 : B ≤ w.heap.size := hs.room
    omega
  · intro p hp
    rcases List.mem_cons.1 hp with rfl | hp
    · refine ⟨_, e, ((bytesRow v (grownCap w v.size 0 e)).size, (bytesRow v (grownCap w v.size 0 e)).size + 1), ?_, hc, fun h => by cases h⟩
      show (w.heap.push _)[w.heap.size]? = _
      exact Array.getElem?_push_size
    · obtain ⟨c', E', fr, hc', g1, g2⟩ := hd.ok p hp
      have hlt : p.1 < w.heap.size := by
        rcases Nat.lt_or_ge p.1 w.heap.size with h | h
        · exact h
        · have hc'' : w.heap[p.1]? = _ := hc'
          rw [Array.getElem?_eq_none h] at hc''; cases hc''
      exact ⟨c', E', fr, by rw [Below.heap_alloc w.drew _ _ hlt]; exact hc', g1, g2⟩
  · refine List.Pairwise.cons (fun q hq _ => ?_) hs.apart
    obtain ⟨c', E', fr, hc', g1, g2⟩ := hs.ok q hq
    intro he
    simp only at he
    rw [← he, Array.getElem?_eq_none (Nat.le_refl _)] at hc'
    cases hc'
theorem sTo {s t e : Nat} [h1 : UnderT P s .string] [h2 : UnderT P t (.slice e)] [h3 : UnderT P e (.int .u8)] {v : ByteArray} (ex : ev T x = some (.string v)) (kk : ∀ b c rest, Run P n ops st Q l (putT n d (.slice (some ⟨b, 0, none⟩) v.size c) T) ((b, ⟨byL (byS v) ++ rest, false⟩) :: M)) : Run P n ops st Q ((⟨d, .convert s t x, ty, pos, after, none⟩, false) :: l) T M :=
  run_step rfl (step_to ex fun b c rest => ⟨fun _ _ _ => Ext.cons _ _, kk b c rest⟩)
/-- the same, framed -/
theorem fsT {s t e : Nat} [h1 : UnderT P s .string] [h2 : UnderT P t (.slice e)] [h3 : UnderT P e (.int .u8)] {v : ByteArray} {K : Tm → Mem → Prop} (ex : ev T x = some (.string v))
    (kk : ∀ b c rest, K (putT n d (.slice (some ⟨b, 0, none⟩) v.size c) T) ((b, ⟨byL (byS v) ++ rest, false⟩) :: M)) : FSt P n ⟨d, .convert s t x, ty, pos, after, none⟩ T M K :=
  ⟨rfl, fun r L => ∃ b c rest, r = .slice (some ⟨b, 0, none⟩) v.size c ∧ L = [(b, ⟨byL (byS v) ++ rest, false⟩)], fun X => step_to ex fun b c rest => ⟨_, ⟨b, c, rest, rfl, rfl⟩, rfl⟩, fun r L h => by
    obtain ⟨b, c, rest, rfl, rfl⟩ := h; exact kk b c rest⟩
end
end Go.Proofs.Ytimdimgihlojcaa.Ab
