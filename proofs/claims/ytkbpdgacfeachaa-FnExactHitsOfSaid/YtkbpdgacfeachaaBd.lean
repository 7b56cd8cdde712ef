/-
  The abstract layer: structs that are built.
-/
import Derived.Test.YtkbpdgacfeachaaExt
namespace Go.Proofs.Ytkbpdgacfeachaa.Ab
open Go Go.RowKit
set_option linter.unusedVariables false
set_option linter.unusedSimpArgs false

/-- a struct of three fields of one cell each -/
class Str3 (P : Program) (t : Nat) : Prop where
  out : ∃ f0 f1 f2 i0 i1 i2, P.underlying t = some (.struct #[f0, f1, f2]) ∧ f0.offset = 0 ∧ f1.offset = 1 ∧ f2.offset = 2 ∧ P.info? f0.type = some i0 ∧ P.info? f1.type = some i1 ∧ P.info? f2.type = some i2 ∧ i0.size = 1 ∧ i1.size = 1 ∧ i2.size = 1
def str3B (P : Program) (t : Nat) : Bool :=
  match P.underlying t with
  | some (.struct fs) => fs.size == 3 && (List.range 3).all fun i => match fs[i]? with
    | some f => f.offset == i && (match P.info? f.type with | some j => j.size == 1 | none => false)
    | none => false
  | _ => false
theorem mkStr3 {P : Program} {t : Nat} (h : str3B P t = true) : Str3 P t := by
  unfold str3B at h
  split at h
  · rename_i fs hfs
    rw [Bool.and_eq_true] at h
    obtain ⟨h1, h2⟩ := h
    have hs : fs.size = 3 := eq_of_beq h1
    obtain ⟨l⟩ := fs
    match l, hs with
    | [f0, f1, f2], _ =>
      simp only [List.range, List.range.loop, List.all_cons, List.all_nil, Bool.and_true, Bool.and_eq_true] at h2
      obtain ⟨a, b, c⟩ := h2
      simp at a b c
      obtain ⟨a1, a2⟩ := a
      obtain ⟨b1, b2⟩ := b
      obtain ⟨c1, c2⟩ := c
      cases ha : P.info? f0.type with
      | none => rw [ha] at a2; simp at a2
      | some i0 =>
        cases hb : P.info? f1.type with
        | none => rw [hb] at b2; simp at b2
        | some i1 =>
          cases hc : P.info? f2.type with
          | none => rw [hc] at c2; simp at c2
          | some i2 =>
            rw [ha] at a2; rw [hb] at b2; rw [hc] at c2
            simp at a2 b2 c2
            exact ⟨⟨f0, f1, f2, i0, i1, i2, hfs, a1, b1, c1, ha, hb, hc, a2, b2, c2⟩⟩
  · cases h

section
variable {P : Program} {n : Nat} {T : Tm} {M : Mem} {ops : Array Oper} {st : Option (List Nat)} {Q : Tm → Mem → Prop} {fl : Bool} {l : List (Oper × Bool)} {d : Option Nat} {ty : Nat} {pos : String} {after : Array Edge} {g : Option (Nat × Bool)}

theorem fill_at (place : Nat → Option (Nat × Nat)) : ∀ (ps : List (Nat × Value)) (cells : Array Value), (∀ p ∈ ps, flatV p.2 = true ∧ place p.1 = some (p.1, 1) ∧ p.1 < cells.size) →
    Instr.fill place cells ps = some (ps.foldl (fun cs p => cs.setIfInBounds p.1 p.2) cells) := by
  intro ps
  induction ps with
  | nil => intro cells _; simp [Instr.fill]
  | cons p ps ih =>
    intro cells h
    obtain ⟨i, v⟩ := p
    obtain ⟨h1, h2, h3⟩ := h (i, v) (by simp)
    simp only at h1 h2 h3
    simp only [Instr.fill, h2, cells_flat h1]
    rw [if_neg (by simp; omega)]
    have e : ((#[v] : Array Value).zipIdx.foldl (fun cs (p : Value × Nat) => cs.setIfInBounds (i + p.2) p.1) cells) = cells.setIfInBounds i v := by simp
    have := ih (cells.setIfInBounds i v) (fun q hq => by
      obtain ⟨k1, k2, k3⟩ := h q (by simp [hq])
      exact ⟨k1, k2, by simpa using k3⟩)
    rw [List.foldl_cons, ← this]
    congr 1

theorem run_build3 (w : World) {t bytes : Nat} {zs : List Value} [hs : Str3 P t] [hi : InfoT P t 3 bytes (.agg zs.toArray)] (ps : List (Nat × Value)) (hf : ∀ p ∈ ps, flatV p.2 = true ∧ p.1 < 3) :
    (Instr.build t ps.toArray).run P w = .ok (.agg (ps.foldl (fun cs p => cs.setIfInBounds p.1 p.2) zs.toArray)) w := by
  obtain ⟨f0, f1, f2, i0, i1, i2, hu, o0, o1, o2, t0, t1, t2, s0, s1, s2⟩ := hs.out
  obtain ⟨i, hi1, hi2, hi3, hi4⟩ := hi.out
  have hz : zs.length = 3 := by have := hi.cells_size; simpa [Value.cells] using this
  have hpl := fill_at (fun j => ([(f0.offset, 1), (f1.offset, 1), (f2.offset, 1)] : List (Nat × Nat))[j]?) ps zs.toArray (fun p hp => by
    obtain ⟨h1, h2⟩ := hf p hp
    refine ⟨h1, ?_, by simpa [hz] using h2⟩
    obtain ⟨j, v⟩ := p
    simp only at h2 ⊢
    match j, h2 with
    | 0, _ => simp [o0]
    | 1, _ => simp [o1]
    | 2, _ => simp [o2])
  unfold Instr.build
  simp only [Sem.run_bind, zeroValue, typeInfo, run_program, hi1, Sem.run_pure, Result.andThen_ok, hi4, run_underlying hu]
  simp [sizeOf, typeInfo, t0, t1, t2, s0, s1, s2, Value.cells]
  rw [hpl]
  rfl

/-- a new variable that holds a struct -/
theorem rXa {e : Nat} {x : Operand} {cs : List Value} (ex : ev T x = some (.agg ⟨cs⟩)) (kk : ∀ b, Run P n ops st Q l (putT n d (.pointer (some ⟨b, 0, none⟩)) T) ((b, ⟨cs, true⟩) :: M)) :
    Run P n ops st Q ((⟨d, .box e x, ty, pos, after, none⟩, false) :: l) T M := rX ex rfl kk

/-- all three parts -/
theorem bd3 {t bytes : Nat} {zs : List Value} [Str3 P t] [hi : InfoT P t 3 bytes (.agg zs.toArray)] {x y z : Operand} {u v w : Value} (ex : ev T x = some u) (ey : ev T y = some v) (ez : ev T z = some w) (hu : flatV u = true) (hv : flatV v = true) (hw : flatV w = true)
    (k : Run P n ops st Q l (putT n d (.agg #[u, v, w]) T) M) : Run P n ops st Q ((⟨d, .build t ⟨[(0, x), (1, y), (2, z)]⟩, ty, pos, after, none⟩, fl) :: l) T M :=
  run_tame rfl (tame_of fun T' M' he _ n w0 B a wd ht hs => by
    have e1 := ev_sound ht (he x _ (by simp [Op.operands]) ex)
    have e2 := ev_sound ht (he y _ (by simp [Op.operands]) ey)
    have e3 := ev_sound ht (he z _ (by simp [Op.operands]) ez)
    have f1 := flat_of_nf e1 hu
    have f2 := flat_of_nf e2 hv
    have f3 := flat_of_nf e3 hw
    have hz : zs.length = 3 := by have := hi.cells_size; simpa [Value.cells] using this
    have hr := run_build3 (P := P) wd (t := t) (zs := zs) [(0, a.eval x), (1, a.eval y), (2, a.eval z)] (by simp [f1, f2, f3])
    refine ⟨.agg #[a.eval x, a.eval y, a.eval z], wd, ?_, .refl wd, ?_⟩
    · match zs, hz with
      | [z0, z1, z2], _ =>
        simp only [execOp]
        have hr2 : (Instr.build t #[(0, a.eval x), (1, a.eval y), (2, a.eval z)]).run P wd = .ok (.agg #[a.eval x, a.eval y, a.eval z]) wd := by rw [hr]; simp
        simp [hr2]
    · simp only [nf, nfA]
      rw [show (#[a.eval x, a.eval y, a.eval z] : Array Value).map nfS = #[nfS (a.eval x), nfS (a.eval y), nfS (a.eval z)] from by simp]
      rw [nfS_of_nf e1 hu, nfS_of_nf e2 hv, nfS_of_nf e3 hw]) k

/-- the first two -/
theorem bd2 {t bytes : Nat} {z0 z1 z2 : Value} [Str3 P t] [hi : InfoT P t 3 bytes (.agg #[z0, z1, z2])] {x y : Operand} {u v : Value} (ex : ev T x = some u) (ey : ev T y = some v) (hu : flatV u = true) (hv : flatV v = true)
    (k : Run P n ops st Q l (putT n d (.agg #[u, v, z2]) T) M) : Run P n ops st Q ((⟨d, .build t ⟨[(0, x), (1, y)]⟩, ty, pos, after, none⟩, fl) :: l) T M :=
  run_tame rfl (tame_of fun T' M' he _ n w0 B a wd ht hs => by
    have e1 := ev_sound ht (he x _ (by simp [Op.operands]) ex)
    have e2 := ev_sound ht (he y _ (by simp [Op.operands]) ey)
    have f1 := flat_of_nf e1 hu
    have f2 := flat_of_nf e2 hv
    have hn := hi.norm
    simp [Value.cells] at hn
    haveI : InfoT P t 3 bytes (.agg [z0, z1, z2].toArray) := hi
    have hr := run_build3 (P := P) wd (t := t) (bytes := bytes) (zs := [z0, z1, z2]) [(0, a.eval x), (1, a.eval y)] (by simp [f1, f2])
    refine ⟨.agg #[a.eval x, a.eval y, z2], wd, ?_, .refl wd, ?_⟩
    · simp only [execOp]
      have hr2 : (Instr.build t #[(0, a.eval x), (1, a.eval y)]).run P wd = .ok (.agg #[a.eval x, a.eval y, z2]) wd := by rw [hr]; simp
      simp [hr2]
    · simp only [nf, nfA]
      rw [show (#[a.eval x, a.eval y, z2] : Array Value).map nfS = #[nfS (a.eval x), nfS (a.eval y), nfS z2] from by simp]
      rw [nfS_of_nf e1 hu, nfS_of_nf e2 hv, hn.2.2]) k

/-- none: the zero -/
theorem bd0 {t bytes : Nat} {z0 z1 z2 : Value} [Str3 P t] [hi : InfoT P t 3 bytes (.agg #[z0, z1, z2])]
    (k : Run P n ops st Q l (putT n d (.agg #[z0, z1, z2]) T) M) : Run P n ops st Q ((⟨d, .build t ⟨[]⟩, ty, pos, after, none⟩, fl) :: l) T M :=
  run_tame rfl (tame_of fun T' M' he _ n w0 B a wd ht hs => by
    have hn := hi.norm
    simp [Value.cells] at hn
    haveI : InfoT P t 3 bytes (.agg [z0, z1, z2].toArray) := hi
    have hr := run_build3 (P := P) wd (t := t) (bytes := bytes) (zs := [z0, z1, z2]) [] (by simp)
    refine ⟨.agg #[z0, z1, z2], wd, ?_, .refl wd, ?_⟩
    · simp only [execOp]
      have hr2 : (Instr.build t #[]).run P wd = .ok (.agg #[z0, z1, z2]) wd := by rw [hr]; simp
      simp [hr2]
    · simp only [nf, nfA]
      rw [show (#[z0, z1, z2] : Array Value).map nfS = #[nfS z0, nfS z1, nfS z2] from by simp]
      rw [hn.1, hn.2.1, hn.2.2]) k
end
end Go.Proofs.Ytkbpdgacfeachaa.Ab
