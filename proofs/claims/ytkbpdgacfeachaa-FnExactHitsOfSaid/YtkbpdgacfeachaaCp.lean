/-
  The abstract layer: parts of a slice, and copying between slices.
-/
import Derived.Test.YtkbpdgacfeachaaBd
namespace Go.Proofs.Ytkbpdgacfeachaa.Ab
open Go Go.RowKit
set_option linter.unusedVariables false
set_option linter.unusedSimpArgs false

/-- where a part of a slice begins -/
def cut1 (a : Option Addr) (c l s : Nat) : Option Addr := if c = l then a else a.map (·.add (l * s))
section
variable {P : Program} {n : Nat} {T : Tm} {M : Mem} {ops : Array Oper} {st : Option (List Nat)} {Q : Tm → Mem → Prop} {fl : Bool} {lo : List (Oper × Bool)} {d : Option Nat} {ty : Nat} {pos : String} {after : Array Edge} {g : Option (Nat × Bool)}

theorem elem_of {t e : Nat} [hu : UnderT P t (.slice e)] : P.underlying t = some (.slice (P.elem t)) ∧ P.elem t = e := by
  have h := hu.out
  have : P.elem t = e := by unfold Program.elem; rw [h]
  exact ⟨by rw [this]; exact h, this⟩
theorem run_sizeOf {e size bytes : Nat} {z : Value} [hi : InfoT P e size bytes z] (w : World) : (sizeOf e).run P w = .ok size w := by
  obtain ⟨i, h1, h2, h3, h4⟩ := hi.out
  simp [sizeOf, typeInfo, h1, h2]
theorem tame_slice_lh {t e size bytes : Nat} {z : Value} [hu : UnderT P t (.slice e)] [hi : InfoT P e size bytes z] {x y1 y2 : Operand} {a : Option Addr} {m c : Nat} {k1 k2 : IntKind} {l h : Nat}
    (ex : ev T x = some (.slice a m c)) (el : ev T y1 = some (.int k1 (l : Nat))) (eh : ev T y2 = some (.int k2 (h : Nat))) (h1 : l ≤ h) (h2 : h ≤ c) :
    Tame P ⟨d, .slice t x (some y1) (some y2) none, ty, pos, after, g⟩ T M (.slice (cut1 a c l size) (h - l) (c - l)) :=
  tame_of fun T' M' hev _ => by
    intro n w0 B act w ht hs
    have e1 := nf_slice (ev_sound ht (hev x _ (by simp [Op.operands]) ex))
    have e2 := nf_int (ev_sound ht (hev y1 _ (by simp [Op.operands]) el))
    have e3 := nf_int (ev_sound ht (hev y2 _ (by simp [Op.operands]) eh))
    obtain ⟨u1, u2⟩ := elem_of (P := P) (t := t) (e := e)
    refine ⟨.slice (cut1 a c l size) (h - l) (c - l), w, ?_, .refl w, rfl⟩
    have hrun := run_slice_lh (P := P) w t a m c u1 k1 k2 (l : Int) (h : Int) (by omega) (by omega) (by omega)
    rw [u2, run_sizeOf] at hrun
    simp only [execOp, e1, e2, e3, Option.map_some, Option.map_none, Sem.run_bind, run_sliceAt_slice w t _ _ _ _ u1, hrun]
    rfl
theorem tame_slice_h {t e size bytes : Nat} {z : Value} [hu : UnderT P t (.slice e)] [hi : InfoT P e size bytes z] {x y2 : Operand} {a : Option Addr} {m c : Nat} {k2 : IntKind} {h : Nat}
    (ex : ev T x = some (.slice a m c)) (eh : ev T y2 = some (.int k2 (h : Nat))) (h2 : h ≤ c) :
    Tame P ⟨d, .slice t x none (some y2) none, ty, pos, after, g⟩ T M (.slice (cut1 a c 0 size) h c) :=
  tame_of fun T' M' hev _ => by
    intro n w0 B act w ht hs
    have e1 := nf_slice (ev_sound ht (hev x _ (by simp [Op.operands]) ex))
    have e3 := nf_int (ev_sound ht (hev y2 _ (by simp [Op.operands]) eh))
    obtain ⟨u1, u2⟩ := elem_of (P := P) (t := t) (e := e)
    refine ⟨.slice (cut1 a c 0 size) h c, w, ?_, .refl w, rfl⟩
    have hrun := run_slice_h (P := P) w t a m c u1 k2 (h : Int) (by omega) (by omega)
    rw [u2, run_sizeOf] at hrun
    simp only [execOp, e1, e3, Option.map_some, Option.map_none, Sem.run_bind, run_sliceAt_slice w t _ _ _ _ u1, hrun]
    rfl
theorem tame_slice_l {t e size bytes : Nat} {z : Value} [hu : UnderT P t (.slice e)] [hi : InfoT P e size bytes z] {x y1 : Operand} {a : Option Addr} {m c : Nat} {k1 : IntKind} {l : Nat}
    (ex : ev T x = some (.slice a m c)) (el : ev T y1 = some (.int k1 (l : Nat))) (h1 : l ≤ m) (h2 : m ≤ c) :
    Tame P ⟨d, .slice t x (some y1) none none, ty, pos, after, g⟩ T M (.slice (cut1 a c l size) (m - l) (c - l)) :=
  tame_of fun T' M' hev _ => by
    intro n w0 B act w ht hs
    have e1 := nf_slice (ev_sound ht (hev x _ (by simp [Op.operands]) ex))
    have e2 := nf_int (ev_sound ht (hev y1 _ (by simp [Op.operands]) el))
    obtain ⟨u1, u2⟩ := elem_of (P := P) (t := t) (e := e)
    refine ⟨.slice (cut1 a c l size) (m - l) (c - l), w, ?_, .refl w, rfl⟩
    have hrun := run_slice_l (P := P) w t a m c u1 k1 (l : Int) (by omega) (by omega)
    rw [u2, run_sizeOf] at hrun
    simp only [execOp, e1, e2, Option.map_some, Option.map_none, Sem.run_bind, run_sliceAt_slice w t _ _ _ _ u1, hrun]
    rfl
theorem slLH {t e size bytes : Nat} {z : Value} [hu : UnderT P t (.slice e)] [hi : InfoT P e size bytes z] {x y1 y2 : Operand} {a : Option Addr} {m c : Nat} {k1 k2 : IntKind} {l h : Nat}
    (ex : ev T x = some (.slice a m c)) (el : ev T y1 = some (.int k1 (l : Nat))) (eh : ev T y2 = some (.int k2 (h : Nat))) (h1 : l ≤ h) (h2 : h ≤ c)
    (kk : Run P n ops st Q lo (putT n d (.slice (cut1 a c l size) (h - l) (c - l)) T) M) : Run P n ops st Q ((⟨d, .slice t x (some y1) (some y2) none, ty, pos, after, none⟩, fl) :: lo) T M :=
  run_tame rfl (tame_slice_lh ex el eh h1 h2) kk
theorem slH {t e size bytes : Nat} {z : Value} [hu : UnderT P t (.slice e)] [hi : InfoT P e size bytes z] {x y2 : Operand} {a : Option Addr} {m c : Nat} {k2 : IntKind} {h : Nat}
    (ex : ev T x = some (.slice a m c)) (eh : ev T y2 = some (.int k2 (h : Nat))) (h2 : h ≤ c)
    (kk : Run P n ops st Q lo (putT n d (.slice (cut1 a c 0 size) h c) T) M) : Run P n ops st Q ((⟨d, .slice t x none (some y2) none, ty, pos, after, none⟩, fl) :: lo) T M :=
  run_tame rfl (tame_slice_h ex eh h2) kk
theorem slL {t e size bytes : Nat} {z : Value} [hu : UnderT P t (.slice e)] [hi : InfoT P e size bytes z] {x y1 : Operand} {a : Option Addr} {m c : Nat} {k1 : IntKind} {l : Nat}
    (ex : ev T x = some (.slice a m c)) (el : ev T y1 = some (.int k1 (l : Nat))) (h1 : l ≤ m) (h2 : m ≤ c)
    (kk : Run P n ops st Q lo (putT n d (.slice (cut1 a c l size) (m - l) (c - l)) T) M) : Run P n ops st Q ((⟨d, .slice t x (some y1) none none, ty, pos, after, none⟩, fl) :: lo) T M :=
  run_tame rfl (tame_slice_l ex el h1 h2) kk

theorem RdA.sub {a : Option Addr} {cs : List Value} {c l k : Nat} (h : RdA M a cs) (h1 : l + k ≤ cs.length) (h2 : l + k ≤ c) : RdA M (cut1 a c l 1) ((cs.drop l).take k) := by
  unfold cut1
  by_cases hk : k = 0
  · subst hk; left; simp
  · rw [if_neg (by omega)]
    rcases h with h | ⟨b, o, bk, ha, hm, hc⟩
    · subst h; simp at h1; omega
    · right
      refine ⟨b, o + l, bk, ?_, hm, fun i hi => ?_⟩
      · subst ha; simp [Addr.add_lit]
      · simp at hi
        rw [Nat.add_assoc, hc (l + i) (by omega), List.getElem?_take, if_pos (by omega), List.getElem?_drop]
theorem RdF.sub {a : Option Addr} {m : Nat} {xs : List Nat} {c l h : Nat} (hx : RdF M a m xs) (h0 : l ≤ h) (h1 : h ≤ m) (h2 : h ≤ c) : RdF M (cut1 a c l 1) (h - l) ((xs.drop l).take (h - l)) := by
  obtain ⟨hl, hr⟩ := hx
  refine ⟨by simp; omega, ?_⟩
  have := RdA.sub (c := c) (l := l) (k := h - l) hr (by simp; omega) (by omega)
  rwa [← List.map_drop, ← List.map_take] at this
theorem RdF.sub0 {a : Option Addr} {m : Nat} {xs : List Nat} {c h : Nat} (hx : RdF M a m xs) (h1 : h ≤ m) (h2 : h ≤ c) : RdF M (cut1 a c 0 1) h (xs.take h) := by
  have := RdF.sub (l := 0) hx (Nat.zero_le h) h1 h2
  simpa using this

/-- what a copy leaves -/
def cpd (zs ys : List Nat) (o k : Nat) : List Nat := zs.take o ++ ys.take k ++ zs.drop (o + k)
theorem cpd_len {zs ys : List Nat} {o k : Nat} (h1 : o + k ≤ zs.length) (h2 : k ≤ ys.length) : (cpd zs ys o k).length = zs.length := by
  simp [cpd]; omega
theorem step_copy {K : Value → Mem → Prop} {t e bytes : Nat} {z : Value} [hu : UnderT P t (.slice e)] [hi : InfoT P e 1 bytes z] {x y : Operand} {b o dl dc sl sc : Nat} {a2 : Option Addr} {zs ys : List Nat} {rest : List Value} (p : Nat)
    (ex : ev T x = some (.slice (some ⟨b, o, none⟩) dl dc)) (ey : ev T y = some (.slice a2 sl sc)) (hp : M[p]? = some (b, FB zs rest)) (hr : RdF M a2 sl ys) (hfit : o + dl ≤ zs.length)
    (hk : K (.int .i64 ((min sl dl : Nat) : Int)) (M.set p (b, FB (cpd zs ys o (min sl dl)) rest))) :
    Step P n ⟨d, .call { callee := .builtin .copy, args := #[x, y], argTypes := #[t, t] }, ty, pos, after, g⟩ T M K := by
  intro w0 B a w ht hs
  obtain ⟨i, hi1, hi2, hi3, hi4⟩ := hi.out
  have hx := nf_slice (ev_sound ht ex)
  have hy := nf_slice (ev_sound ht ey)
  have hl := hr.len
  have hfl : ∀ v ∈ (ys.take (min sl dl)).map Ab.fl, flatV v = true := by
    intro v hv; rw [List.mem_map] at hv; obtain ⟨w, _, rfl⟩ := hv; rfl
  have hrC : RdC M (.slice a2 (min sl dl) sc) (min sl dl) 1 ((ys.take (min sl dl)).map Ab.fl) := by
    refine ⟨by simp; omega, a2, sc, rfl, ?_⟩
    rcases hr.2 with h | ⟨b', o', k', h1, h2, h3⟩
    · left; rw [List.map_take, h, List.take_nil]
    · right
      refine ⟨b', o', k', h1, h2, fun j hj => ?_⟩
      simp at hj
      rw [h3 j (by simp; omega), List.map_take, List.getElem?_take, if_pos (by omega)]
  obtain ⟨us, hus, husf, ad, c, hv, hcell⟩ := rdC_cells hs hrC hfl
  obtain ⟨rfl, -, -⟩ := Value.slice.inj hv
  have husl : us.length = min sl dl := by
    have := congrArg List.length hus
    simp at this; omega
  obtain ⟨cur, E, fr, hh, h1, h2⟩ := hs.ok _ (List.mem_of_getElem? hp)
  simp only at hh h1 h2
  obtain ⟨rfl, hB⟩ := h2 rfl
  have hcurl : cur.size = zs.length + rest.length := by
    have := congrArg List.length h1
    simpa [FB] using this
  have hfirst : (Builtin.firstCells 1 (min sl dl) (.slice a2 sl sc)).run P w = .ok us.toArray w := by
    rcases hcell with h0 | ⟨a', ha', hcell⟩
    · subst h0
      have hm0 : min sl dl = 0 := by simpa using husl.symm
      rw [hm0]
      cases a2 with
      | none => simp [Builtin.firstCells]
      | some ad => simp [Builtin.firstCells, loadCells, loadCellsFrom]
    · subst ha'
      exact run_firstCells_some (P := P) w 1 (min sl dl) a' sl sc us (by omega) hcell
  have hst := run_storeCells_at P b o E us 0 cur w hh (by omega) (fun u hu => oneCell_flat (husf u hu))
  simp only [Nat.add_zero] at hst
  have hres : (execOp a.eval ⟨d, .call { callee := .builtin .copy, args := #[x, y], argTypes := #[t, t] }, ty, pos, after, g⟩).run P w = .ok (.value (.int .i64 ((min sl dl : Nat) : Int))) (w.setRow b (cur.toList.take o ++ us ++ cur.toList.drop (o + us.length)).toArray) := by
    have hmin : Nat.min sl dl = min sl dl := rfl
    simp [execOp, resolve, hx, hy, invoke, builtin, Builtin.copy_, run_underlying hu.out, Builtin.lenOf, sizeOf, typeInfo, hi1, hi2, hmin, hfirst, hst, goInt]
  rw [hres]
  have hbel : Below B w (w.setRow b (cur.toList.take o ++ us ++ cur.toList.drop (o + us.length)).toArray) :=
    ⟨rfl, rfl, rfl, by simp [World.setRow], fun k hk => setRow_other w b _ (by omega)⟩
  refine ⟨_, hs.replace (b' := b) hp rfl hbel (fun j _ hj => setRow_other w b _ hj) (.inl rfl) (k' := FB (cpd zs ys o (min sl dl)) rest) ⟨_, E, (0, 0), setRow_heap w b cur _ E (0, 0) hh, ?_, fun _ => ⟨rfl, hB⟩⟩ rfl, hk⟩
  show (cur.toList.take o ++ us ++ cur.toList.drop (o + us.length)).map nfS = (cpd zs ys o (min sl dl)).map Ab.fl ++ rest
  have h1' : cur.toList.map nfS = zs.map Ab.fl ++ rest := h1
  rw [List.map_append, List.map_append, hus, List.map_take, List.map_drop, h1', husl]
  unfold cpd
  rw [List.take_append_of_le_length (by simp; omega), List.drop_append_of_le_length (by simp; omega)]
  simp only [List.map_append, List.map_take, List.map_drop, List.append_assoc]
/-- a copy into a block of floats of the call's own, wherever it lies -/
theorem cpO {t e bytes : Nat} {z : Value} [hu : UnderT P t (.slice e)] [hi : InfoT P e 1 bytes z] {x y : Operand} {b o dl dc sl sc : Nat} {a2 : Option Addr} {zs ys : List Nat} {rest : List Value} {M1 : Mem} (hw : ∀ ks, st = some ks → keptD ks d = false)
    (ex : ev T x = some (.slice (some ⟨b, o, none⟩) dl dc)) (ey : ev T y = some (.slice a2 sl sc)) (hM : Ext ((b, FB zs rest) :: M1) M) (hr : RdF ((b, FB zs rest) :: M1) a2 sl ys) (hfit : o + dl ≤ zs.length)
    (kk : Run P n ops st Q lo (putT n d (.int .i64 ((min sl dl : Nat) : Int)) T) ((b, FB (cpd zs ys o (min sl dl)) rest) :: M1)) :
    Run P n ops st Q ((⟨d, .call { callee := .builtin .copy, args := #[x, y], argTypes := #[t, t] }, ty, pos, after, none⟩, false) :: lo) T M :=
  run_step rfl (Step.ofExt (step_copy (t := t) 0 ex ey rfl hr hfit ⟨fun ks hs h => by simp [keeps, writer, hw ks hs] at h, kk⟩) hM)

/-- a product that is known as a natural number -/
theorem rMlk {t u : Nat} {x y : Operand} {a b : Int} {k : Nat} (ex : ev T x = some (.int .i64 a)) (ey : ev T y = some (.int .i64 b)) (hk : a * b = (k : Nat)) (h : k ≤ 9223372036854775807) (kk : Run P n ops st Q lo (putT n d (.int .i64 (k : Nat)) T) M) :
    Run P n ops st Q ((⟨d, .binOp .mul t x y u, ty, pos, after, none⟩, fl) :: lo) T M := rMl ex ey (by omega) (by omega) (by rw [hk]; exact kk)
theorem cutR {x : Operand} {b o c l m c' : Nat} (h : ev T x = some (.slice (cut1 (some ⟨b, o, none⟩) c l 1) m c')) (hne : l < c) : ev T x = some (.slice (some ⟨b, o + l, none⟩) m c') := by
  rw [h]; unfold cut1; rw [if_neg (by omega)]; simp [Addr.add_lit]
theorem OwF.capl {L : Mem} {a : Option Addr} {m c : Nat} {xs : List Nat} (h : OwF L (.slice a m c) xs) : m ≤ c := by
  rcases h with ⟨⟨a0, hv⟩, _, _⟩ | ⟨b, cap, rest, hv, hcap, rfl⟩
  · cases hv; exact Nat.le_refl _
  · obtain ⟨_, rfl, rfl⟩ := Value.slice.inj hv; omega

/-! the greater and the smaller of two whole numbers -/
theorem tame_max {ats : Array TypeId} {x y : Operand} {k k' : IntKind} {a b : Int} (ex : ev T x = some (.int k a)) (ey : ev T y = some (.int k' b)) :
    Tame P ⟨d, .call { callee := .builtin .max, args := #[x, y], argTypes := ats }, ty, pos, after, g⟩ T M (.int k (max a b)) :=
  tame_two (x := x) (y := y) (by simp [Op.operands, Call.operands]) (by simp [Op.operands, Call.operands]) ex ey fun ρ w hx hy => by
    refine ⟨.int k (max a b), w, ?_, .refl w, rfl⟩
    have e : (if b > a then b else a) = max a b := by split <;> omega
    simp [execOp, resolve, nf_int hx, nf_int hy, invoke, builtin, run_max_int2, e]
theorem tame_min {ats : Array TypeId} {x y : Operand} {k k' : IntKind} {a b : Int} (ex : ev T x = some (.int k a)) (ey : ev T y = some (.int k' b)) :
    Tame P ⟨d, .call { callee := .builtin .min, args := #[x, y], argTypes := ats }, ty, pos, after, g⟩ T M (.int k (min a b)) :=
  tame_two (x := x) (y := y) (by simp [Op.operands, Call.operands]) (by simp [Op.operands, Call.operands]) ex ey fun ρ w hx hy => by
    refine ⟨.int k (min a b), w, ?_, .refl w, rfl⟩
    have e : (if b < a then b else a) = min a b := by split <;> omega
    simp [execOp, resolve, nf_int hx, nf_int hy, invoke, builtin, run_min_int2, e]
theorem mxI {ats : Array TypeId} {x y : Operand} {k k' : IntKind} {a b : Int} (ex : ev T x = some (.int k a)) (ey : ev T y = some (.int k' b)) (kk : Run P n ops st Q lo (putT n d (.int k (max a b)) T) M) :
    Run P n ops st Q ((⟨d, .call { callee := .builtin .max, args := #[x, y], argTypes := ats }, ty, pos, after, none⟩, fl) :: lo) T M := run_tame rfl (tame_max ex ey) kk
theorem mnI {ats : Array TypeId} {x y : Operand} {k k' : IntKind} {a b : Int} (ex : ev T x = some (.int k a)) (ey : ev T y = some (.int k' b)) (kk : Run P n ops st Q lo (putT n d (.int k (min a b)) T) M) :
    Run P n ops st Q ((⟨d, .call { callee := .builtin .min, args := #[x, y], argTypes := ats }, ty, pos, after, none⟩, fl) :: lo) T M := run_tame rfl (tame_min ex ey) kk
end
/-- four results -/
theorem resv_4 {P : Program} {fn : Func} {T : Tm} {M : Mem} {t1 t2 t3 t4 : Nat} {v1 v2 v3 v4 : Value} (hr : fn.results = #[.tmp t1, .tmp t2, .tmp t3, .tmp t4]) (h1 : get T t1 = some v1) (h2 : get T t2 = some v2) (h3 : get T t3 = some v3) (h4 : get T t4 = some v4)
    (n1 : notTup v1 = true) (n2 : notTup v2 = true) (n3 : notTup v3 = true) (n4 : notTup v4 = true) : ResV P fn T M (.tuple #[v1, v2, v3, v4]) := by
  intro n tmps w0 B w ht hs
  refine ⟨.tuple #[tmps.getD t1 undef, tmps.getD t2 undef, tmps.getD t3 undef, tmps.getD t4 undef], by simp [results, hr], ?_⟩
  simp only [nf, List.map_toArray, List.map_cons, List.map_nil]
  rw [nfA_of_nf (ht.val t1 v1 h1) n1, nfA_of_nf (ht.val t2 v2 h2) n2, nfA_of_nf (ht.val t3 v3 h3) n3, nfA_of_nf (ht.val t4 v4 h4) n4]
theorem kE4 {P : Program} {fn : Func} {R : Value → Mem → Prop} {T : Tm} {M : Mem} {t1 t2 t3 t4 : Nat} {v1 v2 v3 v4 : Value} (hr : fn.results = #[.tmp t1, .tmp t2, .tmp t3, .tmp t4]) (h1 : get T t1 = some v1) (h2 : get T t2 = some v2) (h3 : get T t3 = some v3) (h4 : get T t4 = some v4)
    (n1 : notTup v1 = true) (n2 : notTup v2 = true) (n3 : notTup v3 = true) (n4 : notTup v4 = true) (k : ∃ M0, R (.tuple #[v1, v2, v3, v4]) M0 ∧ Ext M0 M) : Ret P fn R .ret T M := by
  obtain ⟨M0, k1, k2⟩ := k; exact ⟨_, M0, k2, resv_4 hr h1 h2 h3 h4 n1 n2 n3 n4, k1⟩
/-- the same value in other words -/
theorem ACall.eqv {P : Program} {f : Nat} {args : List Value} {M : Mem} {r r' : Value} (h : ACall P f args M fun v M' => v = r ∧ M' = M) (e : r = r') : ACall P f args M fun v M' => v = r' ∧ M' = M :=
  h.mono fun v M' hv => ⟨hv.1.trans e, hv.2⟩
/-! the memory in another order -/
theorem Run.ofPerm {P : Program} {n : Nat} {ops : Array Oper} {st : Option (List Nat)} {Q : Tm → Mem → Prop} {o : Oper} {l : List (Oper × Bool)} {T : Tm} {M1 M : Mem} (hg : o.guard = none) (hp : M1.Perm M) (h : Run P n ops st Q ((o, false) :: l) T M1) : Run P n ops st Q ((o, false) :: l) T M := by
  rcases h with ⟨h1, h2⟩ | ⟨h1, _⟩
  · exact .inl ⟨h1, (h2.ofExt (Ext.of_perm hp)).mono fun v M' hk => ⟨fun ks hs hx => Ext.trans (Ext.of_perm hp.symm) (hk.1 ks hs hx), hk.2⟩⟩
  · simp [wantedA, hg] at h1
theorem pmH {L M : Mem} : List.Perm (L ++ M) (L ++ M) := List.Perm.refl _
theorem pmT {L A M : Mem} {q : Nat × Blk} (h : List.Perm (L ++ A) M) : List.Perm (L ++ (q :: A)) (q :: M) := List.perm_middle.trans (h.cons q)
theorem pmL {L A M K : Mem} (h : List.Perm (L ++ A) M) : List.Perm (L ++ (K ++ A)) (K ++ M) := by
  have e : List.Perm (L ++ (K ++ A)) (K ++ (L ++ A)) := by
    rw [← List.append_assoc, ← List.append_assoc]; exact List.Perm.append_right A List.perm_append_comm
  exact e.trans (h.append_left K)
/-- append of one number to a list of the call's own, wherever it lies -/
theorem apFp {P : Program} {n : Nat} {T : Tm} {M : Mem} {ops : Array Oper} {st : Option (List Nat)} {Q : Tm → Mem → Prop} {l : List (Oper × Bool)} {d : Option Nat} {ty ty1 : Nat} {pos pos1 : String} {after after1 : Array Edge}
    {t e bytes : Nat} [hu : UnderT P t (.slice e)] [hi : InfoT P e 1 bytes (.float .f32 0)] {x y : Operand} {d1 : Nat} {v : Nat} {xs : List Nat} {sl : Value} {L M1 : Mem}
    (hw : ∀ ks, st = some ks → keptD ks d = false) (hd : Nat.blt d1 n = true) (hx : ∀ u, ev (putT n (some d1) u T) x = some sl) (ey : ev T y = some (.float .f32 v)) (ho : OwF L sl xs) (hM : List.Perm (L ++ M1) M) (hb : (xs.length + 1) * bytes ≤ 140737488355328) (h63 : xs.length + 1 ≤ 4611686018427387904)
    (hk : ∀ b sl' L', OwF L' sl' (xs ++ [v]) → Run P n ops st Q l (putT n d sl' (putT n (some d1) (.slice (some ⟨b, 0, none⟩) 1 1) T)) (L' ++ M1)) :
    Run P n ops st Q ((⟨some d1, .buildSlice t 1 ⟨[(0, y)]⟩, ty1, pos1, after1, none⟩, false) :: (⟨d, .call { callee := .builtin .append, args := #[x, .tmp d1], argTypes := #[t, t] }, ty, pos, after, none⟩, false) :: l) T M :=
  Run.ofPerm rfl hM (apF hw hd hx ey ho rfl hb h63 hk)
end Go.Proofs.Ytkbpdgacfeachaa.Ab
