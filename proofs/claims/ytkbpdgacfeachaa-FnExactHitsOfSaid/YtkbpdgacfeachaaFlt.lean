/-
  The abstract layer: floats: widening, order, numbers that are no NaN.
-/
import Derived.Test.YtkbpdgacfeachaaApp
namespace Go.Proofs.Ytkbpdgacfeachaa.Ab
open Go Go.RowKit
set_option linter.unusedVariables false
set_option linter.unusedSimpArgs false

theorem rung_of_word (f : Ieee.Format) (neg : Bool) (r : Nat) (h : r < f.signWeight) : f.word neg r % f.signWeight = r := by
  unfold Ieee.Format.word
  cases neg
  · exact Nat.mod_eq_of_lt h
  · simp [Nat.add_mod_left, Nat.mod_eq_of_lt h]

theorem read_word_notnan (f : Ieee.Format) (neg : Bool) (r : Nat) (h : r ≤ f.infRung) (h2 : f.infRung < f.signWeight) : (f.read (f.word neg r)).isNaN = false := by
  unfold Ieee.Format.read
  rw [rung_of_word f neg r (by omega)]
  simp only
  split
  · rfl
  · split
    · rfl
    · rw [if_pos (by omega)]; rfl

theorem infRung_lt' (f : Ieee.Format) : f.infRung < f.signWeight := by
  have h1 := Ieee.Format.infRung_add_binade f
  have h2 : 0 < f.binade := by unfold Ieee.Format.binade; exact Nat.pow_pos (by decide)
  omega

theorem nearest_notnan (k : FloatKind) (neg : Bool) (mag : Nat) (place : Int) : nanB k (k.format.nearest neg mag place) = false := by
  unfold nanB FloatKind.decode Ieee.Format.nearest
  split
  · exact read_word_notnan _ _ _ (Nat.zero_le _) (infRung_lt' _)
  · exact read_word_notnan _ _ _ (Nat.min_le_right _ _) (infRung_lt' _)

theorem nanB_nearest (k : FloatKind) (n : Int) : nanB k (k.nearest n) = false := nearest_notnan k _ _ _
theorem fofint_eq (k : FloatKind) (n : Int) : fofint k n = k.nearest n := by
  unfold fofint cb; rw [nanB_nearest]; rfl
theorem nanB_fofint (k : FloatKind) (n : Int) : nanB k (fofint k n) = false := by rw [fofint_eq]; exact nanB_nearest k n

theorem order_self {k : FloatKind} {x : Nat} (h : nanB k x = false) : k.format.order x x = some .eq := by
  unfold nanB FloatKind.decode at h
  unfold Ieee.Format.order
  cases hr : k.format.read x with
  | nan s f => rw [hr] at h; simp [Ieee.Datum.isNaN] at h
  | infinity s => simp [Ieee.Datum.order]
  | number s m e => simp [Ieee.Datum.order]

theorem fcmp_neq_self {k : FloatKind} {x : Nat} : fcmp .neq k x x = nanB k x := by
  unfold fcmp
  cases h : nanB k x
  · simp [order_self h]
  · simp [order_nan_l h]
theorem fcmp_eql_self {k : FloatKind} {x : Nat} : fcmp .eql k x x = !nanB k x := by
  unfold fcmp
  cases h : nanB k x
  · simp [order_self h]
  · simp [order_nan_l h]

/-- a 32-bit number as a 64-bit one -/
def fwid (b : Nat) : Nat :=
  match floatToFloatBits .f32 b .f64 with
  | some r => cb .f64 r
  | none => qn .f64

theorem shift_lt {m : Nat} (h0 : m ≠ 0) (h : m < 16777216) : m <<< (52 - m.log2) < 9007199254740992 := by
  rw [Nat.shiftLeft_eq]
  have h1 := Nat.lt_log2_self (n := m)
  have hl : m.log2 < 24 := (Nat.log2_lt h0).2 (by simpa using h)
  have h2 : m * 2 ^ (52 - m.log2) < 2 ^ (m.log2 + 1) * 2 ^ (52 - m.log2) := Nat.mul_lt_mul_of_pos_right h1 (Nat.pow_pos (by decide))
  rw [← Nat.pow_add, show m.log2 + 1 + (52 - m.log2) = 53 from by omega] at h2
  exact h2

theorem min_lt_of {q r : Nat} (h4 : q ≤ 1149) (h3 : r < 9007199254740992) : min (q * 4503599627370496 + r) 9218868437227405312 < 9218868437227405312 := by omega

theorem wide_fits (s : Bool) (m : Nat) (e : Int) (hm : m < 16777216) (h1 : -149 ≤ e) (h2 : e ≤ 104) : (FloatKind.f64.decode (FloatKind.f64.encode (.number s m e))).isInfinity = false := by
  unfold FloatKind.decode FloatKind.encode FloatKind.format Ieee.Format.write Ieee.Format.nearest
  have hw : Ieee.double.signWeight = 9223372036854775808 := by decide
  have hb : Ieee.double.binade = 4503599627370496 := by decide
  have hi : Ieee.double.infRung = 9218868437227405312 := by decide
  have hlp : Ieee.double.leastPlace = -1074 := by decide
  have hfb : Ieee.double.fractionBits = 52 := rfl
  have key : ∀ r, r < Ieee.double.infRung → (Ieee.double.read (Ieee.double.word s r)).isInfinity = false := by
    intro r hr
    unfold Ieee.Format.read
    rw [rung_of_word Ieee.double s r (by rw [hw]; rw [hi] at hr; omega)]
    simp only
    split
    · rfl
    · rfl
  simp only
  split
  · exact key 0 (by rw [hi]; decide)
  · rename_i h0
    have hl : m.log2 < 24 := (Nat.log2_lt h0).2 (by simpa using hm)
    have hlast : max (e + (m.log2 : Int) - (Ieee.double.fractionBits : Int)) Ieee.double.leastPlace = e + (m.log2 : Int) - 52 := by
      rw [hfb, hlp]; omega
    rw [hlast]
    have hsh : (e - (e + (m.log2 : Int) - 52)).toNat = 52 - m.log2 := by omega
    have hsh2 : ((e + (m.log2 : Int) - 52) - e).toNat = 0 := by omega
    rw [hsh, hsh2]
    have hcut : Ieee.Toward.cut .even s (m <<< (52 - m.log2)) 0 = m <<< (52 - m.log2) := by
      unfold Ieee.Toward.cut
      simp [Nat.mod_one]
    rw [hcut]
    apply key
    have h3 := shift_lt h0 hm
    rw [hb, hlp, hi]
    have h4 : ((e + (m.log2 : Int) - 52) - (-1074)).toNat ≤ 1149 := by omega
    generalize ((e + (m.log2 : Int) - 52) - (-1074)).toNat = q at h4 ⊢
    generalize m <<< (52 - m.log2) = r at h3 ⊢
    exact min_lt_of h4 h3

theorem read32_bounds {b : Nat} {s : Bool} {m : Nat} {e : Int} (h : FloatKind.f32.decode b = .number s m e) : m < 16777216 ∧ -149 ≤ e ∧ e ≤ 104 := by
  unfold FloatKind.decode FloatKind.format Ieee.Format.read at h
  have hw : Ieee.single.signWeight = 2147483648 := by decide
  have hb : Ieee.single.binade = 8388608 := by decide
  have hi : Ieee.single.infRung = 2139095040 := by decide
  have hlp : Ieee.single.leastPlace = -149 := by decide
  simp only [hw, hb, hi, hlp] at h
  generalize hr : b % 2147483648 = r at h
  split at h
  · cases h; omega
  · split at h
    · cases h
      rename_i h1 h2
      have h3 : r % 8388608 < 8388608 := Nat.mod_lt _ (by decide)
      have h4 : r / 8388608 ≤ 254 := by omega
      omega
    · split at h <;> cases h

theorem widen_some {b : Nat} (h : nanB .f32 b = false) : ∃ r, floatToFloatBits .f32 b .f64 = some r := by
  unfold floatToFloatBits
  rw [if_neg (by decide)]
  cases hr : FloatKind.f32.decode b with
  | nan s f => unfold nanB at h; rw [hr] at h; simp [Ieee.Datum.isNaN] at h
  | infinity s => exact ⟨_, rfl⟩
  | number s m e =>
    obtain ⟨h1, h2, h3⟩ := read32_bounds hr
    simp only [wide_fits s m e h1 h2 h3]
    exact ⟨_, rfl⟩

theorem nan_widen {b : Nat} (h : nanB .f32 b = true) : floatToFloatBits .f32 b .f64 = none := by
  obtain ⟨s, f, hr⟩ := nan_read h
  unfold floatToFloatBits
  rw [if_neg (by decide)]
  have : FloatKind.f32.decode b = .nan s f := hr
  rw [this]

section
variable {P : Program} {n : Nat} {T : Tm} {M : Mem} {ops : Array Oper} {st : Option (List Nat)} {Q : Tm → Mem → Prop} {fl : Bool} {l : List (Oper × Bool)} {d : Option Nat} {ty : Nat} {pos : String} {after : Array Edge} {g : Option (Nat × Bool)}

theorem run_nanConv64 {α : Type} (w : World) (x : Nat) (f : Nat → Sem α) : ∃ c, nanB .f64 c = true ∧ (choose (.nanConv .f64 x) >>= f).run P w = (f c).run P { w with drawn := w.drawn + 1 } := by
  refine ⟨_, nan_cut64 (w.tape w.drawn (.nanConv .f64 x)), ?_⟩
  simp [Question.forced, Question.cut]

theorem tame_widen {s t b : Nat} {x : Operand} [h1 : UnderT P s (.float .f32)] [h2 : UnderT P t (.float .f64)] (ex : ev T x = some (.float .f32 b)) : Tame P ⟨d, .convert s t x, ty, pos, after, g⟩ T M (.float .f64 (fwid b)) :=
  tame_one (x := x) (by simp [Op.operands]) ex fun ρ w hx => by
    obtain ⟨c, hc, rfl⟩ := nf_float hx
    cases hn : nanB .f32 c
    · obtain ⟨r, hr⟩ := widen_some hn
      have hcb : cb .f32 c = c := by unfold cb; rw [hn]; rfl
      refine ⟨.float .f64 r, w, ?_, .refl w, ?_⟩
      · have := run_convert_float_float (P := P) w s t .f32 .f64 c r (by rw [h1.out]; rfl) h2.out hr
        simp [execOp, hc, this]
      · unfold fwid; rw [hcb, hr]; rfl
    · obtain ⟨v, hv, hrun⟩ := run_nanConv64 (P := P) w c (fun r => (Pure.pure (Value.float .f64 r) : Sem Value))
      refine ⟨.float .f64 v, _, ?_, quiet_drew w, ?_⟩
      · obtain ⟨sg, fr, hd⟩ := nan_read hn
        have hd' : FloatKind.f32.decode c = .nan sg fr := hd
        have hconv : convert s t (.float .f32 c) = (do let _ ← underlying s; let _ ← underlying t; Conv.floatToFloat .f32 c .f64) ∨ True := .inr trivial
        simp only [execOp, hc, Sem.run_bind]
        have : (convert s t (.float .f32 c)).run P w = .ok (.float .f64 v) { w with drawn := w.drawn + 1 } := by
          simp [convert, run_underlying h1.out, run_underlying h2.out, Conv.floatToFloat, hd']
          simpa using hrun
        rw [this]; rfl
      · unfold fwid
        rw [nan_widen (by rw [nanB_cb]; exact hn)]
        simp [nf, nfA, nfS, cb, hv]

theorem rW {s t b : Nat} {x : Operand} [h1 : UnderT P s (.float .f32)] [h2 : UnderT P t (.float .f64)] (ex : ev T x = some (.float .f32 b)) (k : Run P n ops st Q l (putT n d (.float .f64 (fwid b)) T) M) :
    Run P n ops st Q ((⟨d, .convert s t x, ty, pos, after, none⟩, fl) :: l) T M := run_tame rfl (tame_widen ex) k

/-- a block of the call's own that holds floats, and spare cells -/
def FB (xs : List Nat) (rest : List Value) : Blk := ⟨xs.map Ab.fl ++ rest, true⟩

theorem FB_cell {xs : List Nat} {rest : List Value} {j : Nat} (hj : j < xs.length) : (FB xs rest).cells[j]? = some (Ab.fl (xs.getD j 0)) := by
  simp [FB, List.getElem?_append_left, hj, List.getD]

/-- a store into a slice of floats -/
theorem rSF {t bytes : Nat} {z : Value} [InfoT P t 1 bytes z] {x y : Operand} {b o v : Nat} {xs : List Nat} {rest : List Value} (p : Nat)
    (ex : ev T x = some (.pointer (some ⟨b, o, none⟩))) (ey : ev T y = some (.float .f32 v)) (hp : M[p]? = some (b, FB xs rest)) (ho : o < xs.length)
    (kk : Run P n ops st Q l T (M.set p (b, FB (xs.set o v) rest))) : Run P n ops st Q ((⟨none, .store t x y, ty, pos, after, none⟩, false) :: l) T M :=
  run_step rfl (step_store p ex ey rfl hp rfl (by simp [FB]; omega) ⟨fun _ _ h => by simp [keeps, writer, keptD] at h, by
    have : (xs.map Ab.fl ++ rest).set o (.float .f32 v) = (xs.set o v).map Ab.fl ++ rest := by rw [List.set_append_left _ _ (by simpa using ho), List.map_set]
    show Run P n ops st Q l T (M.set p (b, ⟨(xs.map Ab.fl ++ rest).set o (.float .f32 v), true⟩))
    rw [this]; exact kk⟩)

/-- an index that is a natural number -/
theorem rIo {t e bytes : Nat} {z : Value} [UnderT P t (.slice e)] [InfoT P e 1 bytes z] {x y : Operand} {b o m c : Nat} {ik : IntKind} {k : Nat}
    (ex : ev T x = some (.slice (some ⟨b, o, none⟩) m c)) (ey : ev T y = some (.int ik (k : Int))) (h1 : k < m)
    (kk : Run P n ops st Q l (putT n d (.pointer (some ⟨b, o + k, none⟩)) T) M) : Run P n ops st Q ((⟨d, .indexAddr t x y, ty, pos, after, none⟩, fl) :: l) T M :=
  run_tame rfl (by have := tame_indexAddr1 (P := P) (T := T) (M := M) (d := d) (ty := ty) (pos := pos) (after := after) (g := none) (tx := t) ex ey (by omega) (by omega); rwa [Int.toNat_natCast] at this) kk
theorem rI0 {t e bytes : Nat} {z : Value} [UnderT P t (.slice e)] [InfoT P e 1 bytes z] {x y : Operand} {b m c : Nat} {ik : IntKind} {k : Nat}
    (ex : ev T x = some (.slice (some ⟨b, 0, none⟩) m c)) (ey : ev T y = some (.int ik (k : Int))) (h1 : k < m)
    (kk : Run P n ops st Q l (putT n d (.pointer (some ⟨b, k, none⟩)) T) M) : Run P n ops st Q ((⟨d, .indexAddr t x y, ty, pos, after, none⟩, fl) :: l) T M :=
  rIo ex ey h1 (by rwa [Nat.zero_add])

/-- a load from a slice that came in -/
theorem rLR {t : Nat} [PlainT P t] {x : Operand} {b o j : Nat} {bk : Blk} {xs : List Nat} (ex : ev T x = some (.pointer (some ⟨b, o + j, none⟩))) (hm : (b, bk) ∈ M) (hc : ∀ i, i < xs.length → bk.cells[o + i]? = some (Ab.fl (xs.getD i 0))) (hj : j < xs.length)
    (kk : Run P n ops st Q l (putT n d (.float .f32 (xs.getD j 0)) T) M) : Run P n ops st Q ((⟨d, .load t x, ty, pos, after, none⟩, fl) :: l) T M :=
  run_tame rfl (tame_load ex hm (hc j hj) rfl) kk
/-- a load from a block of floats -/
theorem rLF {t : Nat} [PlainT P t] {x : Operand} {b j : Nat} {xs : List Nat} {rest : List Value} (ex : ev T x = some (.pointer (some ⟨b, j, none⟩))) (hm : (b, FB xs rest) ∈ M) (hj : j < xs.length)
    (kk : Run P n ops st Q l (putT n d (.float .f32 (xs.getD j 0)) T) M) : Run P n ops st Q ((⟨d, .load t x, ty, pos, after, none⟩, fl) :: l) T M :=
  run_tame rfl (tame_load ex hm (FB_cell hj) rfl) kk

/-- a region that draws, in an order of ours -/
class Mixed (P : Program) : Prop where
  out : P.follows .mixedOrders = true
theorem cD {Q : Exit → Tm → Mem → Prop} [hm : Mixed P] {id : Nat} {ops : Array Oper} (ks : List Nat) (ord : List (Nat × Bool)) (hf : Fine Q)
    (hc : (Region.noSelect ops && Nat.ble ord.length ops.size && chkOrd ops ks ord (Array.replicate ops.size false)) = true)
    (h : Run P n ops (some ks) (fun T M => Q .normal T M) (pick ops ord) T M) : AWp P n (.region id ops true) Q T M := awp_region_draw ks ord hm.out hf hc h
theorem fineT {y : Code} {Q : Exit → Tm → Mem → Prop} : Fine (Then (AWp P n y Q) Q) := fine_then
theorem fineB {id : Nat} {Q : Exit → Tm → Mem → Prop} (h : Fine Q) : Fine (InBlock id Q) := h
theorem fineL {I : Nat → Tm → Mem → Prop} {m : Nat} {Q : Exit → Tm → Mem → Prop} : Fine (LoopQ I m Q) := by
  intro T T' M g h
  obtain ⟨m', T'', M'', h1, h2, h3, h4⟩ := h
  exact ⟨m', T'', M'', h1, h2, fun i v hv => by rw [← g i]; exact h3 i v hv, h4⟩

theorem Rd.open {M : Mem} {v : Value} {xs : List Nat} (h : Rd M v (xs.map Ab.fl)) : ∃ a c, v = .slice a xs.length c ∧ (0 < xs.length → ∃ b o bk, a = some ⟨b, o, none⟩ ∧ (b, bk) ∈ M ∧ ∀ i, i < xs.length → bk.cells[o + i]? = some (Ab.fl (xs.getD i 0))) := by
  obtain ⟨a, c, hv, h⟩ := h
  refine ⟨a, c, by simpa using hv, fun h0 => ?_⟩
  rcases h with h | ⟨b, o, k, h1, h2, h3⟩
  · simp at h; subst h; simp at h0
  · refine ⟨b, o, k, h1, h2, fun i hi => ?_⟩
    rw [h3 i (by simpa using hi)]
    simp [hi, List.getD]
theorem Rd.mk0 {M : Mem} {b : Nat} {xs rest : List Nat} {wr : Bool} {c : Nat} {cells : List Value} (hm : (b, (⟨cells, wr⟩ : Blk)) ∈ M) (hc : ∀ i, i < xs.length → cells[i]? = some (Ab.fl (xs.getD i 0))) : Rd M (.slice (some ⟨b, 0, none⟩) xs.length c) (xs.map Ab.fl) :=
  ⟨_, c, by simp, .inr ⟨b, 0, _, rfl, hm, fun i hi => by
    have hi' : i < xs.length := by simpa using hi
    simp only [Nat.zero_add]
    rw [hc i hi']
    simp [hi', List.getD]⟩⟩
theorem Rd.own {M : Mem} {b : Nat} {xs : List Nat} {rest : List Value} {c : Nat} : Rd ((b, FB xs rest) :: M) (.slice (some ⟨b, 0, none⟩) xs.length c) (xs.map Ab.fl) :=
  Rd.mk0 (rest := []) (List.Mem.head _) fun i hi => FB_cell hi
theorem Rd.ownm {M : Mem} {b : Nat} {xs : List Nat} {rest : List Value} {c : Nat} (hm : (b, FB xs rest) ∈ M) : Rd M (.slice (some ⟨b, 0, none⟩) xs.length c) (xs.map Ab.fl) :=
  Rd.mk0 (rest := []) hm fun i hi => FB_cell hi
theorem Rd.skip {M : Mem} {p : Nat × Blk} {v : Value} {vs : List Value} (h : Rd M v vs) : Rd (p :: M) v vs := h.mono (Ext.cons p M)

/-! ## A slice of the call's own: nil, or a block -/
def Own (M0 : Mem) (v : Value) (xs : List Nat) (M : Mem) : Prop :=
  ((∃ a, v = .slice a 0 0) ∧ xs = [] ∧ M = M0) ∨ ∃ b cap rest, v = .slice (some ⟨b, 0, none⟩) xs.length cap ∧ xs.length + rest.length = cap ∧ M = (b, FB xs rest) :: M0

theorem Own.ext {M0 M : Mem} {v : Value} {xs : List Nat} (h : Own M0 v xs M) : Ext M0 M := by
  rcases h with ⟨_, _, rfl⟩ | ⟨b, cap, rest, _, _, rfl⟩
  · exact Ext.refl _
  · exact Ext.cons _ _
theorem Own.rd {M0 M : Mem} {v : Value} {xs : List Nat} (h : Own M0 v xs M) : Rd M v (xs.map Ab.fl) := by
  rcases h with ⟨⟨a, rfl⟩, rfl, rfl⟩ | ⟨b, cap, rest, rfl, _, rfl⟩
  · exact ⟨a, 0, rfl, .inl rfl⟩
  · exact Rd.own
theorem Own.nil (M : Mem) : Own M (.slice none 0 0) [] M := .inl ⟨⟨none, rfl⟩, rfl, rfl⟩
theorem Own.mk {M : Mem} {b cap : Nat} {xs : List Nat} {rest : List Value} (h : xs.length + rest.length = cap) : Own M (.slice (some ⟨b, 0, none⟩) xs.length cap) xs ((b, FB xs rest) :: M) := .inr ⟨b, cap, rest, rfl, h, rfl⟩
theorem Own.empty {M : Mem} {b : Nat} : Own M (.slice (some ⟨b, 0, none⟩) 0 0) [] ((b, ⟨[], true⟩) :: M) := .inr ⟨b, 0, [], rfl, rfl, rfl⟩
theorem Own.made {M : Mem} {b k : Nat} : Own M (.slice (some ⟨b, 0, none⟩) k k) (List.replicate k 0) ((b, ⟨List.replicate k (Ab.fl 0), true⟩) :: M) := by
  refine .inr ⟨b, k, [], by simp, by simp, ?_⟩
  simp [FB]
theorem Own.shape {M0 M : Mem} {v : Value} {xs : List Nat} (h : Own M0 v xs M) : ∃ a c, v = .slice a xs.length c := by
  rcases h with ⟨⟨a, rfl⟩, rfl, rfl⟩ | ⟨b, cap, rest, rfl, _, rfl⟩
  · exact ⟨_, _, rfl⟩
  · exact ⟨_, _, rfl⟩

/-- append where there is no room: a new block -/
theorem step_appendN {K : Value → Mem → Prop} {g : Option (Nat × Bool)} {t e bytes : Nat} {z : Value} [hu : UnderT P t (.slice e)] [hi : InfoT P e 1 bytes z] {x y : Operand} {m : Nat} {vs : List Value} {v : Value}
    (ex : ev T x = some (.slice none 0 0)) (ey : ev T y = some v) (hr : Rd M v vs) (hm : vs.length = m) (h0 : 0 < m) (hf : ∀ v ∈ vs, flatV v = true) (hb : m * bytes ≤ 140737488355328) (h63 : m ≤ 4611686018427387904)
    (hk : ∀ b' cap' rest', m + rest'.length = cap' → K (.slice (some ⟨b', 0, none⟩) m cap') ((b', ⟨vs ++ rest', true⟩) :: M)) :
    Step P n ⟨d, .call { callee := .builtin .append, args := #[x, y], argTypes := #[t, t] }, ty, pos, after, g⟩ T M K := by
  intro w0 B a w ht hs
  obtain ⟨i, hi1, hi2, hi3, hi4⟩ := hi.out
  have hx := nf_slice (ev_sound ht ex)
  obtain ⟨us, hus, husf, ad, c, hv, hcell⟩ := rdC_cells hs hr.toC hf
  subst hm
  have hy : a.eval y = .slice ad vs.length c := nf_slice (by rw [ev_sound ht ey, hv])
  have husl : us.length = vs.length := by rw [← hus]; simp
  have hus0 : us ≠ [] := by intro e; rw [e] at husl; simp at husl; omega
  obtain ⟨a', ha', hcl⟩ := hcell.resolve_left hus0
  subst ha'
  have hrun := run_append_nil (P := P) w t ty e i z hu.out hi1 hi4 a' vs.length c us (by rw [hi2]; omega) hcl h0 (by omega) (by rw [hi3]; omega)
  have hres : (execOp a.eval ⟨d, .call { callee := .builtin .append, args := #[x, y], argTypes := #[t, t] }, ty, pos, after, g⟩).run P w = ((Builtin.append_ #[t, t] ty #[.slice none 0 0, .slice (some a') vs.length c]).run P w).andThen fun v w' => .ok (.value v) w' := by
    simp [execOp, resolve, hx, hy, invoke, builtin]
  rw [hres, hrun]
  have hge := grownCap_ge w vs.length 0 e
  have h2 : SatF w0 B w.drew M := hs.quiet (quiet_drew w)
  refine ⟨_, h2.alloc _ _, ?_⟩
  have e1 : (us.toArray ++ Builtin.zeroCells z.cells (grownCap w vs.length 0 e - vs.length)).toList.map nfS = vs ++ (Builtin.zeroCells z.cells (grownCap w vs.length 0 e - vs.length)).toList.map nfS := by
    simp only [Array.toList_append, List.map_append, hus]
  rw [e1]
  refine hk _ _ _ ?_
  have hlz : (Builtin.zeroCells z.cells (grownCap w vs.length 0 e - vs.length)).toList.length = grownCap w vs.length 0 e - vs.length := by
    rw [Array.length_toList, size_zeroCells, hi.cells_size, Nat.mul_one]
  rw [List.length_map, hlz]
  have hgg : vs.length ≤ grownCap w vs.length 0 e := hge
  show vs.length + (grownCap w vs.length 0 e - vs.length) = grownCap w vs.length 0 e
  omega

/-- append to an empty slice without room: a new block -/
theorem step_appendE {K : Value → Mem → Prop} {g : Option (Nat × Bool)} {t e bytes : Nat} {z : Value} [hu : UnderT P t (.slice e)] [hi : InfoT P e 1 bytes z] {x y : Operand} {m : Nat} {ad0 : Addr} {vs : List Value} {v : Value}
    (ex : ev T x = some (.slice (some ad0) 0 0)) (ey : ev T y = some v) (hr : Rd M v vs) (hm : vs.length = m) (h0 : 0 < m) (hf : ∀ v ∈ vs, flatV v = true) (hb : m * bytes ≤ 140737488355328) (h63 : m ≤ 4611686018427387904)
    (hk : ∀ b' cap' rest', m + rest'.length = cap' → K (.slice (some ⟨b', 0, none⟩) m cap') ((b', ⟨vs ++ rest', true⟩) :: M)) :
    Step P n ⟨d, .call { callee := .builtin .append, args := #[x, y], argTypes := #[t, t] }, ty, pos, after, g⟩ T M K := by
  intro w0 B a w ht hs
  obtain ⟨i, hi1, hi2, hi3, hi4⟩ := hi.out
  have hx := nf_slice (ev_sound ht ex)
  obtain ⟨us, hus, husf, ad, c, hv, hcell⟩ := rdC_cells hs hr.toC hf
  subst hm
  have hy : a.eval y = .slice ad vs.length c := nf_slice (by rw [ev_sound ht ey, hv])
  have husl : us.length = vs.length := by rw [← hus]; simp
  have hus0 : us ≠ [] := by intro e; rw [e] at husl; simp at husl; omega
  obtain ⟨a', ha', hcl⟩ := hcell.resolve_left hus0
  subst ha'
  have hrun := run_append_grow (P := P) w t ty e i z hu.out hi1 hi4 ad0 0 0 [] (by simp) (by simp) a' vs.length c us (by rw [hi2]; omega) hcl (by omega) (by omega) (by rw [Nat.zero_add, nextslicecap_zero h0, hi3]; omega)
  simp only [Nat.zero_add, List.append_nil] at hrun
  rw [show (([] : List Value).toArray ++ us.toArray) = us.toArray from by simp] at hrun
  have hres : (execOp a.eval ⟨d, .call { callee := .builtin .append, args := #[x, y], argTypes := #[t, t] }, ty, pos, after, g⟩).run P w = ((Builtin.append_ #[t, t] ty #[.slice (some ad0) 0 0, .slice (some a') vs.length c]).run P w).andThen fun v w' => .ok (.value v) w' := by
    simp [execOp, resolve, hx, hy, invoke, builtin]
  rw [hres, hrun]
  have hge := grownCap_ge w vs.length 0 e
  have h2 : SatF w0 B w.drew M := hs.quiet (quiet_drew w)
  refine ⟨_, h2.alloc _ _, ?_⟩
  have e1 : (us.toArray ++ Builtin.zeroCells z.cells (grownCap w vs.length 0 e - vs.length)).toList.map nfS = vs ++ (Builtin.zeroCells z.cells (grownCap w vs.length 0 e - vs.length)).toList.map nfS := by
    simp only [Array.toList_append, List.map_append, hus]
  rw [e1]
  refine hk _ _ _ ?_
  have hlz : (Builtin.zeroCells z.cells (grownCap w vs.length 0 e - vs.length)).toList.length = grownCap w vs.length 0 e - vs.length := by
    rw [Array.length_toList, size_zeroCells, hi.cells_size, Nat.mul_one]
  rw [List.length_map, hlz]
  have hgg : vs.length ≤ grownCap w vs.length 0 e := hge
  show vs.length + (grownCap w vs.length 0 e - vs.length) = grownCap w vs.length 0 e
  omega

/-- less may be kept of the memory -/
theorem Step.lessM {o : Oper} {K : Value → Mem → Prop} (h : Step P n o T M fun v M' => ∃ M'', Ext M'' M' ∧ K v M'') : Step P n o T M K := by
  intro w0 B a w ht hs
  have := h w0 B a w ht hs
  generalize (execOp a.eval o).run P w = r at this ⊢
  cases r with
  | halt x w => exact this
  | ok x w' =>
    cases x <;> try exact this
    · obtain ⟨M', hs', M'', he, hk⟩ := this; exact ⟨M'', hs'.weaken he, hk⟩
    · obtain ⟨M', hs', M'', he, hk⟩ := this; exact ⟨M'', hs'.weaken he, hk⟩
    · refine Calls.mono this ?_
      rintro e w'' ⟨u, M', he', hs', M'', he, hk⟩
      exact ⟨u, M'', he', hs'.weaken he, hk⟩

theorem ext_append (G M : Mem) : Ext M (G ++ M) := Ext.of_sublist (List.sublist_append_right G M)

/-- append of floats to a slice of the call's own -/
theorem rPO {t e bytes : Nat} {z : Value} [hu : UnderT P t (.slice e)] [hi : InfoT P e 1 bytes z] {x y : Operand} {xs ys : List Nat} {v sl : Value} {M0 M1 : Mem} (G : Mem) (hw : ∀ ks, st = some ks → keptD ks d = false)
    (ex : ev T x = some sl) (ey : ev T y = some v) (ho : Own M0 sl xs M1) (hM : M = G ++ M1) (hr : Rd M v (ys.map Ab.fl)) (h0 : 0 < ys.length) (hb : (xs.length + ys.length) * bytes ≤ 140737488355328) (h63 : xs.length + ys.length ≤ 4611686018427387904)
    (hk : ∀ sl' M1', Own M0 sl' (xs ++ ys) M1' → Run P n ops st Q l (putT n d sl' T) M1') :
    Run P n ops st Q ((⟨d, .call { callee := .builtin .append, args := #[x, y], argTypes := #[t, t] }, ty, pos, after, none⟩, false) :: l) T M := by
  have hfl : ∀ v ∈ ys.map Ab.fl, flatV v = true := by
    intro v hv; rw [List.mem_map] at hv; obtain ⟨w, _, rfl⟩ := hv; rfl
  refine run_step rfl ?_
  rcases ho with ⟨⟨a, rfl⟩, rfl, rfl⟩ | ⟨b, cap, rest, rfl, hcap, rfl⟩
  · subst hM
    cases a with
    | some ad =>
      refine Step.lessM (step_appendE (t := t) ex ey hr (by simp) h0 hfl (by simpa using hb) (by simpa using h63) fun b' cap' rest' h => ?_)
      exact ⟨(b', FB ys rest') :: M1, eK (ext_append G M1), fun ks hs h => by simp [keeps, writer, hw ks hs] at h, hk _ _ (.inr ⟨b', cap', rest', rfl, h, rfl⟩)⟩
    | none =>
      refine Step.lessM (step_appendN (t := t) ex ey hr (by simp) h0 hfl (by simpa using hb) (by simpa using h63) fun b' cap' rest' h => ?_)
      refine ⟨(b', FB ys rest') :: M1, eK (ext_append G M1), fun ks hs h => by simp [keeps, writer, hw ks hs] at h, hk _ _ (.inr ⟨b', cap', rest', rfl, h, rfl⟩)⟩
  · subst hM
    have hp : (G ++ (b, FB xs rest) :: M0)[G.length]? = some (b, ⟨xs.map Ab.fl ++ rest, true⟩) := by
      rw [List.getElem?_append_right (Nat.le_refl _), Nat.sub_self]; rfl
    refine Step.lessM (step_append (t := t) G.length ex ey hp (by simp) (by simp; omega) hr.toC hfl (by simpa using hb) (by simpa using h63) (by omega) (by decide) fun b' cap' rest' h1 h2 => ?_)
    have hset : (G ++ (b, FB xs rest) :: M0).set G.length (b', ⟨xs.map Ab.fl ++ ys.map Ab.fl ++ rest', true⟩) = G ++ (b', FB (xs ++ ys) rest') :: M0 := by
      rw [List.set_append_right _ _ (Nat.le_refl _), Nat.sub_self]
      simp [FB]
    refine ⟨(b', FB (xs ++ ys) rest') :: M0, by rw [hset]; exact ext_append G _, fun ks hs h => by simp [keeps, writer, hw ks hs] at h, hk _ _ (.inr ⟨b', cap', rest', by simp, by simp at h1 h2 ⊢; omega, rfl⟩)⟩

theorem slice_nil_eq {t e : Nat} [hu : UnderT P t (.slice e)] {a : Option Addr} {m c : Nat} (w : World) : (binOp .eql t (.slice a m c) (.slice none 0 0)).run P w = .ok (.bool a.isNone) w := by
  simp only [binOp]
  simp [run_equal_slice_nil w t e a m c hu.out]

theorem rEN {t u e : Nat} [hu : UnderT P t (.slice e)] {x : Operand} {a : Option Addr} {m c : Nat} (ex : ev T x = some (.slice a m c)) (kk : Run P n ops st Q l (putT n d (.bool a.isNone) T) M) :
    Run P n ops st Q ((⟨d, .binOp .eql t x (.const (.slice none 0 0)) u, ty, pos, after, none⟩, fl) :: l) T M :=
  run_tameR rfl (fun _ => tame_two (x := x) (y := .const (.slice none 0 0)) (v := .slice none 0 0) (by simp [Op.operands]) (by simp [Op.operands]) ex rfl fun ρ w hx hy => by
    refine ⟨.bool a.isNone, w, ?_, .refl w, rfl⟩
    simp [execOp, nf_slice hx, nf_slice hy, eqGuard_at_slice, slice_nil_eq]) kk
end
end Go.Proofs.Ytkbpdgacfeachaa.Ab
