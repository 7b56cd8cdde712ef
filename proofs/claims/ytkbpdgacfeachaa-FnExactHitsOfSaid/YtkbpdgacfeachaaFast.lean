/-
  The abstract layer: one rule an operation, for walks that a program of ours writes; slices that are read; loops over a state.
-/
import Derived.Test.YtkbpdgacfeachaaFlt
namespace Go.Proofs.Ytkbpdgacfeachaa.Ab
open Go Go.RowKit
set_option linter.unusedVariables false
set_option linter.unusedSimpArgs false

theorem bnot_t {b : Bool} (h : b = true) : (!b) = false := by rw [h]; rfl
theorem bnot_f {b : Bool} (h : b = false) : (!b) = true := by rw [h]; rfl
theorem not_t {b : Bool} (h : (!b) = true) : b = false := by cases b <;> simp_all
theorem not_f {b : Bool} (h : (!b) = false) : b = true := by cases b <;> simp_all
theorem eq_of_beqI {a b : Int} (h : (a == b) = true) : a = b := eq_of_beq h
theorem ne_of_beqI {a b : Int} (h : (a == b) = false) : a ≠ b := by simpa using h
theorem ne_of_bneI {a b : Int} (h : (a != b) = true) : a ≠ b := by simpa using h
theorem eq_of_bneI {a b : Int} (h : (a != b) = false) : a = b := by simpa using h

/-- from low to high -/
def inB (n low high : Int) : Bool := decide (low ≤ n) && decide (n ≤ high)
theorem inB_true {n low high : Int} (h : low ≤ n ∧ n ≤ high) : inB n low high = true := by simp [inB, h]
theorem inB_iff {n low high : Int} : inB n low high = true ↔ low ≤ n ∧ n ≤ high := by simp [inB]
theorem inB_false {n low high : Int} (h : ¬ (low ≤ n ∧ n ≤ high)) : inB n low high = false := by
  cases hb : inB n low high
  · rfl
  · exact absurd (inB_iff.1 hb) h


/-! ## Slices that are read -/
/-- the address a leads to these cells -/
def RdA (M : Mem) (a : Option Addr) (cs : List Value) : Prop :=
  cs = [] ∨ ∃ b o k, a = some ⟨b, o, none⟩ ∧ (b, k) ∈ M ∧ ∀ i, i < cs.length → k.cells[o + i]? = cs[i]?
theorem RdA.mono {M M' : Mem} {a : Option Addr} {cs : List Value} (h : RdA M a cs) (e : Ext M M') : RdA M' a cs := by
  refine h.imp id ?_
  rintro ⟨b, o, k, h1, h2, h3⟩
  exact ⟨b, o, k, h1, e.mem h2, h3⟩
/-- a slice of n 32-bit floats -/
def RdF (M : Mem) (a : Option Addr) (n : Nat) (xs : List Nat) : Prop := xs.length = n ∧ RdA M a (xs.map fl)
theorem RdF.mono {M M' : Mem} {a : Option Addr} {n : Nat} {xs : List Nat} (h : RdF M a n xs) (e : Ext M M') : RdF M' a n xs := ⟨h.1, h.2.mono e⟩
theorem RdF.len {M : Mem} {a : Option Addr} {n : Nat} {xs : List Nat} (h : RdF M a n xs) : xs.length = n := h.1
theorem RdF.toRd {M : Mem} {a : Option Addr} {n c : Nat} {xs : List Nat} (h : RdF M a n xs) : Rd M (.slice a n c) (xs.map fl) := by
  obtain ⟨rfl, h⟩ := h
  refine ⟨a, c, by simp, ?_⟩
  rcases h with h | ⟨b, o, k, h1, h2, h3⟩
  · exact .inl h
  · exact .inr ⟨b, o, k, h1, h2, h3⟩
theorem RdF.ofRd {M : Mem} {v : Value} {xs : List Nat} (h : Rd M v (xs.map fl)) : ∃ a c, v = .slice a xs.length c ∧ RdF M a xs.length xs := by
  obtain ⟨a, c, hv, h⟩ := h
  exact ⟨a, c, by simpa using hv, rfl, h⟩
theorem RdF.ownm {M : Mem} {b n : Nat} {xs : List Nat} {rest : List Value} (hm : (b, FB xs rest) ∈ M) (hn : xs.length = n) : RdF M (some ⟨b, 0, none⟩) n xs := by
  refine ⟨hn, .inr ⟨b, 0, _, rfl, hm, fun i hi => ?_⟩⟩
  have hi' : i < xs.length := by simpa using hi
  simp [FB, List.getElem?_append_left, hi']
theorem RdF.nil (M : Mem) (a : Option Addr) : RdF M a 0 [] := ⟨rfl, .inl rfl⟩

/-- there is an address where there are elements -/
def AOk (a : Option Addr) (n : Nat) : Prop := n = 0 ∨ ∃ b o, a = some ⟨b, o, none⟩
theorem RdA.aok {M : Mem} {a : Option Addr} {cs : List Value} (h : RdA M a cs) : AOk a cs.length := by
  rcases h with rfl | ⟨b, o, _, h, _⟩
  · exact .inl rfl
  · exact .inr ⟨b, o, h⟩
theorem RdF.aok {M : Mem} {a : Option Addr} {n : Nat} {xs : List Nat} (h : RdF M a n xs) : AOk a n := by
  have := h.2.aok
  rw [List.length_map, h.1] at this
  exact this
theorem AOk.own {b o n : Nat} : AOk (some ⟨b, o, none⟩) n := .inr ⟨b, o, rfl⟩

/-- the address of the i-th cell -/
def pAt (a : Option Addr) (i : Nat) : Value := .pointer (some ⟨(a.getD ⟨0, 0, none⟩).block, (a.getD ⟨0, 0, none⟩).off + i, none⟩)

section
variable {P : Program} {n : Nat} {T : Tm} {M : Mem} {ops : Array Oper} {st : Option (List Nat)} {Q : Tm → Mem → Prop} {fl : Bool} {l : List (Oper × Bool)} {d : Option Nat} {ty : Nat} {pos : String} {after : Array Edge}

theorem mv {x : Operand} {v : Value} (ex : ev T x = some v) (k : Run P n ops st Q l (putT n d v T) M) : Run P n ops st Q ((⟨d, .move x, ty, pos, after, none⟩, fl) :: l) T M := run_tameR rfl (fun _ => tame_move ex) k
theorem asg {x : Operand} {v : Value} (ex : ev T x = some v) (k : Run P n ops st Q l (putT n d v T) M) : Run P n ops st Q ((⟨d, .assign x, ty, pos, after, none⟩, fl) :: l) T M := run_tameR rfl (fun _ => tame_assign ex) k
section int
variable {t u : Nat} {x y : Operand} {ik : IntKind} {a b : Int}
theorem bLss (ex : ev T x = some (.int ik a)) (ey : ev T y = some (.int ik b)) (k : Run P n ops st Q l (putT n d (.bool (decide (a < b))) T) M) : Run P n ops st Q ((⟨d, .binOp .lss t x y u, ty, pos, after, none⟩, fl) :: l) T M := run_tameR rfl (fun _ => tame_lss ex ey) k
theorem bLeq (ex : ev T x = some (.int ik a)) (ey : ev T y = some (.int ik b)) (k : Run P n ops st Q l (putT n d (.bool (decide (a ≤ b))) T) M) : Run P n ops st Q ((⟨d, .binOp .leq t x y u, ty, pos, after, none⟩, fl) :: l) T M := run_tameR rfl (fun _ => tame_leq ex ey) k
theorem bGtr (ex : ev T x = some (.int ik a)) (ey : ev T y = some (.int ik b)) (k : Run P n ops st Q l (putT n d (.bool (decide (b < a))) T) M) : Run P n ops st Q ((⟨d, .binOp .gtr t x y u, ty, pos, after, none⟩, fl) :: l) T M := run_tameR rfl (fun _ => tame_gtr ex ey) k
theorem bGeq (ex : ev T x = some (.int ik a)) (ey : ev T y = some (.int ik b)) (k : Run P n ops st Q l (putT n d (.bool (decide (b ≤ a))) T) M) : Run P n ops st Q ((⟨d, .binOp .geq t x y u, ty, pos, after, none⟩, fl) :: l) T M := run_tameR rfl (fun _ => tame_geq ex ey) k
theorem bEql (ex : ev T x = some (.int ik a)) (ey : ev T y = some (.int ik b)) (k : Run P n ops st Q l (putT n d (.bool (a == b)) T) M) : Run P n ops st Q ((⟨d, .binOp .eql t x y u, ty, pos, after, none⟩, fl) :: l) T M := run_tameR rfl (fun _ => tame_eql ex ey) k
theorem bNeq (ex : ev T x = some (.int ik a)) (ey : ev T y = some (.int ik b)) (k : Run P n ops st Q l (putT n d (.bool (a != b)) T) M) : Run P n ops st Q ((⟨d, .binOp .neq t x y u, ty, pos, after, none⟩, fl) :: l) T M := run_tameR rfl (fun _ => tame_neq ex ey) k
theorem bAdd (ex : ev T x = some (.int ik a)) (ey : ev T y = some (.int ik b)) (k : Run P n ops st Q l (putT n d (.int ik (ik.wrap (a + b))) T) M) : Run P n ops st Q ((⟨d, .binOp .add t x y u, ty, pos, after, none⟩, fl) :: l) T M := run_tameR rfl (fun _ => tame_add ex ey) k
theorem bSub (ex : ev T x = some (.int ik a)) (ey : ev T y = some (.int ik b)) (k : Run P n ops st Q l (putT n d (.int ik (ik.wrap (a - b))) T) M) : Run P n ops st Q ((⟨d, .binOp .sub t x y u, ty, pos, after, none⟩, fl) :: l) T M := run_tameR rfl (fun _ => tame_sub ex ey) k
theorem bMul (ex : ev T x = some (.int ik a)) (ey : ev T y = some (.int ik b)) (k : Run P n ops st Q l (putT n d (.int ik (ik.wrap (a * b))) T) M) : Run P n ops st Q ((⟨d, .binOp .mul t x y u, ty, pos, after, none⟩, fl) :: l) T M := run_tameR rfl (fun _ => tame_mul ex ey) k
theorem rAn {a b : Nat} (ex : ev T x = some (.int .i64 (a : Nat))) (ey : ev T y = some (.int .i64 (b : Nat))) (h : a + b ≤ 9223372036854775807) (k : Run P n ops st Q l (putT n d (.int .i64 ((a + b : Nat) : Int)) T) M) : Run P n ops st Q ((⟨d, .binOp .add t x y u, ty, pos, after, none⟩, fl) :: l) T M :=
  bAdd ex ey (by rw [wrap_i64_in (by omega) (by omega)]; exact_mod_cast k)
theorem rBn {a b : Nat} (ex : ev T x = some (.int .i64 (a : Nat))) (ey : ev T y = some (.int .i64 (b : Nat))) (h0 : b ≤ a) (h : a ≤ 9223372036854775807) (k : Run P n ops st Q l (putT n d (.int .i64 ((a - b : Nat) : Int)) T) M) : Run P n ops st Q ((⟨d, .binOp .sub t x y u, ty, pos, after, none⟩, fl) :: l) T M :=
  bSub ex ey (by rw [wrap_i64_in (by omega) (by omega), ← Int.ofNat_sub h0]; exact k)
theorem rMl (ex : ev T x = some (.int .i64 a)) (ey : ev T y = some (.int .i64 b)) (h1 : -9223372036854775808 ≤ a * b) (h2 : a * b ≤ 9223372036854775807) (k : Run P n ops st Q l (putT n d (.int .i64 (a * b)) T) M) : Run P n ops st Q ((⟨d, .binOp .mul t x y u, ty, pos, after, none⟩, fl) :: l) T M :=
  bMul ex ey (by rwa [wrap_i64_in h1 h2])
theorem bQuo (ex : ev T x = some (.int ik a)) (ey : ev T y = some (.int ik b)) (hb : b ≠ 0) (k : Run P n ops st Q l (putT n d (.int ik (ik.wrap (a.tdiv b))) T) M) : Run P n ops st Q ((⟨d, .binOp .quo t x y u, ty, pos, after, none⟩, fl) :: l) T M := run_tameR rfl (fun _ => tame_quo ex ey hb) k
theorem bRem (ex : ev T x = some (.int ik a)) (ey : ev T y = some (.int ik b)) (hb : b ≠ 0) (k : Run P n ops st Q l (putT n d (.int ik (a.tmod b)) T) M) : Run P n ops st Q ((⟨d, .binOp .rem t x y u, ty, pos, after, none⟩, fl) :: l) T M := run_tameR rfl (fun _ => tame_rem ex ey hb) k
theorem rQn (ex : ev T x = some (.int .i64 a)) (ey : ev T y = some (.int .i64 b)) (ha : 0 ≤ a ∧ a ≤ 9223372036854775807) (hb : 0 < b) (k : Run P n ops st Q l (putT n d (.int .i64 (a / b)) T) M) : Run P n ops st Q ((⟨d, .binOp .quo t x y u, ty, pos, after, none⟩, fl) :: l) T M :=
  bQuo ex ey (by omega) (by
    have h1 : a / b ≤ a := Int.ediv_le_self b ha.1
    have h2 : 0 ≤ a / b := Int.ediv_nonneg ha.1 (by omega)
    rw [Int.tdiv_eq_ediv_of_nonneg ha.1, wrap_i64_in (by omega) (by omega)]; exact k)
theorem rRn (ex : ev T x = some (.int .i64 a)) (ey : ev T y = some (.int .i64 b)) (ha : 0 ≤ a) (hb : 0 < b) (k : Run P n ops st Q l (putT n d (.int .i64 (a % b)) T) M) : Run P n ops st Q ((⟨d, .binOp .rem t x y u, ty, pos, after, none⟩, fl) :: l) T M :=
  bRem ex ey (by omega) (by rw [Int.tmod_eq_emod_of_nonneg ha]; exact k)
theorem uNegI (ex : ev T x = some (.int .i64 a)) (h1 : -9223372036854775807 ≤ a) (h2 : a ≤ 9223372036854775808) (k : Run P n ops st Q l (putT n d (.int .i64 (-a)) T) M) : Run P n ops st Q ((⟨d, .unOp .neg t x, ty, pos, after, none⟩, fl) :: l) T M :=
  run_tame rfl (by have := tame_neg (P := P) (T := T) (M := M) (d := d) (ty := ty) (pos := pos) (after := after) (g := none) (tx := t) ex; rwa [wrap_i64_in (by omega) (by omega), Int.zero_sub] at this) k
end int
section flt
variable {t u : Nat} {x y : Operand} {k : FloatKind} {a b : Nat}
theorem fAd (ex : ev T x = some (.float k a)) (ey : ev T y = some (.float k b)) (kk : Run P n ops st Q l (putT n d (.float k (fadd k a b)) T) M) : Run P n ops st Q ((⟨d, .binOp .add t x y u, ty, pos, after, none⟩, fl) :: l) T M := run_tameR rfl (fun _ => tame_fop rfl ex ey) kk
theorem fSb (ex : ev T x = some (.float k a)) (ey : ev T y = some (.float k b)) (kk : Run P n ops st Q l (putT n d (.float k (fsub k a b)) T) M) : Run P n ops st Q ((⟨d, .binOp .sub t x y u, ty, pos, after, none⟩, fl) :: l) T M := run_tameR rfl (fun _ => tame_fop rfl ex ey) kk
theorem fMl (ex : ev T x = some (.float k a)) (ey : ev T y = some (.float k b)) (kk : Run P n ops st Q l (putT n d (.float k (fmul k a b)) T) M) : Run P n ops st Q ((⟨d, .binOp .mul t x y u, ty, pos, after, none⟩, fl) :: l) T M := run_tameR rfl (fun _ => tame_fop rfl ex ey) kk
theorem fDv (ex : ev T x = some (.float k a)) (ey : ev T y = some (.float k b)) (kk : Run P n ops st Q l (putT n d (.float k (fdiv k a b)) T) M) : Run P n ops st Q ((⟨d, .binOp .quo t x y u, ty, pos, after, none⟩, fl) :: l) T M := run_tameR rfl (fun _ => tame_fop rfl ex ey) kk
theorem fCm {op : BinOp} (hop : compares op = true) (ex : ev T x = some (.float k a)) (ey : ev T y = some (.float k b)) (kk : Run P n ops st Q l (putT n d (.bool (fcmp op k a b)) T) M) : Run P n ops st Q ((⟨d, .binOp op t x y u, ty, pos, after, none⟩, fl) :: l) T M := run_tameR rfl (fun _ => tame_fcmp hop ex ey) kk
end flt
theorem uNot {t : Nat} {x : Operand} {b : Bool} (ex : ev T x = some (.bool b)) (k : Run P n ops st Q l (putT n d (.bool (!b)) T) M) : Run P n ops st Q ((⟨d, .unOp .not t x, ty, pos, after, none⟩, fl) :: l) T M := run_tame rfl (tame_not ex) k
theorem xt {x : Operand} {i : Nat} {vs : Array Value} {v : Value} (ex : ev T x = some (.tuple vs)) (hv : vs[i]? = some v) (hn : notTup v = true) (k : Run P n ops st Q l (putT n d v T) M) : Run P n ops st Q ((⟨d, .extract x i, ty, pos, after, none⟩, fl) :: l) T M := run_tameR rfl (fun _ => tame_extract ex hv hn) k
theorem nk {x : Operand} {a : Addr} (ex : ev T x = some (.pointer (some a))) (k : Run P n ops st Q l (putT n d (.pointer (some a)) T) M) : Run P n ops st Q ((⟨d, .nilCheck x, ty, pos, after, none⟩, fl) :: l) T M := run_tame rfl (tame_nilCheck ex) k
theorem fA {t f off : Nat} [FieldT P t f off] {x : Operand} {b o : Nat} (ex : ev T x = some (.pointer (some ⟨b, o, none⟩))) (k : Run P n ops st Q l (putT n d (.pointer (some ⟨b, o + off, none⟩)) T) M) : Run P n ops st Q ((⟨d, .fieldAddr t x f, ty, pos, after, none⟩, fl) :: l) T M := run_tameR rfl (fun _ => tame_fieldAddr ex) k
theorem ln {t e : Nat} [UnderT P t (.slice e)] {x : Operand} {a : Option Addr} {m c : Nat} (ex : ev T x = some (.slice a m c)) (k : Run P n ops st Q l (putT n d (.int .i64 (m : Nat)) T) M) : Run P n ops st Q ((⟨d, .call { callee := .builtin .len, args := #[x], argTypes := #[t] }, ty, pos, after, none⟩, fl) :: l) T M := run_tame rfl (tame_len ex) k
theorem lnS {t : Nat} [UnderT P t .string] {x : Operand} {s : ByteArray} (ex : ev T x = some (.string s)) (k : Run P n ops st Q l (putT n d (.int .i64 (s.size : Nat)) T) M) : Run P n ops st Q ((⟨d, .call { callee := .builtin .len, args := #[x], argTypes := #[t] }, ty, pos, after, none⟩, fl) :: l) T M := run_tame rfl (tame_lenS ex) k
theorem cvI {s t : Nat} {k : IntKind} [h1 : UnderT P s (.int k)] [h2 : UnderT P t (.int .i64)] {x : Operand} {a : Int} (ex : ev T x = some (.int k a)) (b1 : -9223372036854775808 ≤ a) (b2 : a ≤ 9223372036854775807) (kk : Run P n ops st Q l (putT n d (.int .i64 a) T) M) : Run P n ops st Q ((⟨d, .convert s t x, ty, pos, after, none⟩, fl) :: l) T M :=
  run_tame rfl (by have := tame_conv_ii (P := P) (T := T) (M := M) (d := d) (ty := ty) (pos := pos) (after := after) (g := none) (s := s) (t := t) (by rw [h1.out]; rfl) h2.out ex; rwa [wrap_i64_in b1 b2] at this) kk

theorem kSp {c x y : Operand} {b : Bool} (hc : ev T c = some (.bool b)) (h1 : b = true → Run P n ops st Q ((⟨d, .pick c x y, ty, pos, after, none⟩, fl) :: l) T M) (h2 : b = false → Run P n ops st Q ((⟨d, .pick c x y, ty, pos, after, none⟩, fl) :: l) T M) :
    Run P n ops st Q ((⟨d, .pick c x y, ty, pos, after, none⟩, fl) :: l) T M := by
  cases b
  · exact h2 rfl
  · exact h1 rfl

/-! indices and elements -/
theorem ixI {t e bytes : Nat} {z : Value} [UnderT P t (.slice e)] [InfoT P e 1 bytes z] {x y : Operand} {a : Option Addr} {m c : Nat} {ik : IntKind} {i : Int}
    (ex : ev T x = some (.slice a m c)) (ey : ev T y = some (.int ik i)) (ha : AOk a m) (h0 : 0 ≤ i) (h1 : i < m)
    (k : Run P n ops st Q l (putT n d (pAt a i.toNat) T) M) : Run P n ops st Q ((⟨d, .indexAddr t x y, ty, pos, after, none⟩, fl) :: l) T M := by
  rcases ha with rfl | ⟨b, o, rfl⟩
  · exfalso; omega
  · exact rI ex ey h0 h1 k
theorem ixN {t e bytes : Nat} {z : Value} [UnderT P t (.slice e)] [InfoT P e 1 bytes z] {x y : Operand} {a : Option Addr} {m c : Nat} {ik : IntKind} {i : Nat}
    (ex : ev T x = some (.slice a m c)) (ey : ev T y = some (.int ik (i : Nat))) (ha : AOk a m) (h1 : i < m)
    (k : Run P n ops st Q l (putT n d (pAt a i) T) M) : Run P n ops st Q ((⟨d, .indexAddr t x y, ty, pos, after, none⟩, fl) :: l) T M :=
  ixI ex ey ha (by omega) (by omega) (by rwa [Int.toNat_natCast])
theorem ixC {t e bytes : Nat} {z : Value} [UnderT P t (.slice e)] [InfoT P e 1 bytes z] {x y : Operand} {a : Option Addr} {m c : Nat} {ik : IntKind} {i : Int} (j : Nat)
    (ex : ev T x = some (.slice a m c)) (ey : ev T y = some (.int ik i)) (ha : AOk a m) (hj : i = (j : Nat)) (h1 : j < m)
    (k : Run P n ops st Q l (putT n d (pAt a j) T) M) : Run P n ops st Q ((⟨d, .indexAddr t x y, ty, pos, after, none⟩, fl) :: l) T M := by
  subst hj; exact ixN ex ey ha h1 k

theorem RdF.at {M : Mem} {a : Option Addr} {m : Nat} {xs : List Nat} (h : RdF M a m xs) {j : Nat} (hj : j < m) : ∃ b o k, a = some ⟨b, o, none⟩ ∧ (b, k) ∈ M ∧ k.cells[o + j]? = some (Ab.fl (xs.getD j 0)) := by
  obtain ⟨rfl, h | ⟨b, o, k, h1, h2, h3⟩⟩ := h
  · have : xs = [] := by simpa using h
    subst this; simp at hj
  · refine ⟨b, o, k, h1, h2, ?_⟩
    rw [h3 j (by simpa using hj)]
    simp [hj, List.getD]
theorem ldF {t : Nat} [PlainT P t] {x : Operand} {a : Option Addr} {m j : Nat} {xs : List Nat} (ex : ev T x = some (pAt a j)) (h : RdF M a m xs) (hj : j < m)
    (kk : Run P n ops st Q l (putT n d (.float .f32 (xs.getD j 0)) T) M) : Run P n ops st Q ((⟨d, .load t x, ty, pos, after, none⟩, fl) :: l) T M := by
  obtain ⟨b, o, k, rfl, hm, hc⟩ := h.at hj
  exact rL ex hm hc rfl kk
theorem stF {t bytes : Nat} {z : Value} [InfoT P t 1 bytes z] {x y : Operand} {b j v : Nat} {xs : List Nat} {rest : List Value} (p : Nat)
    (ex : ev T x = some (pAt (some ⟨b, 0, none⟩) j)) (ey : ev T y = some (.float .f32 v)) (hp : M[p]? = some (b, FB xs rest)) (ho : j < xs.length)
    (kk : Run P n ops st Q l T (M.set p (b, FB (xs.set j v) rest))) : Run P n ops st Q ((⟨none, .store t x y, ty, pos, after, none⟩, false) :: l) T M :=
  rSF (b := b) (o := j) p (by rw [ex]; simp [pAt]) ey hp ho kk
theorem mkF {t e bytes : Nat} [UnderT P t (.slice e)] [InfoT P e 1 bytes (.float .f32 0)] {x y : Operand} {kx ky : IntKind} {m : Nat} (ex : ev T x = some (.int kx (m : Nat))) (ey : ev T y = some (.int ky (m : Nat)))
    (hc : m * bytes ≤ 281474976710656) (hc2 : m ≤ 4611686018427387904) (kk : ∀ b, Run P n ops st Q l (putT n d (.slice (some ⟨b, 0, none⟩) m m) T) ((b, FB (List.replicate m 0) []) :: M)) :
    Run P n ops st Q ((⟨d, .makeSlice t x y, ty, pos, after, none⟩, false) :: l) T M :=
  rM ex ey rfl (by omega) (by omega) (by omega) (by omega) fun b => by
    have := kk b
    simp only [FB, List.map_replicate, List.append_nil] at this
    simpa using this
end

/-! ## Loops over a state -/
section
variable {P : Program} {n : Nat} {Q : Exit → Tm → Mem → Prop} {T : Tm} {M : Mem}
def LQ {σ : Type} (C : σ → Tm) (T0 : Tm) (Mm : σ → Mem) (mm : σ → Nat) (I : σ → Prop) (m : Nat) (Q : Exit → Tm → Mem → Prop) : Exit → Tm → Mem → Prop
  | .normal, T', M' => ∃ s, I s ∧ mm s < m ∧ Sub (C s ++ T0) T' ∧ Ext (Mm s) M'
  | e, T', M' => Q e T' M'
theorem cLs {σ : Type} {c : Code} (C : σ → Tm) (T0 : Tm) (Mm : σ → Mem) (mm : σ → Nat) (I : σ → Prop) (s0 : σ) (hs : Sub (C s0 ++ T0) T) (hx : Ext (Mm s0) M) (hi : I s0)
    (h : ∀ s, I s → AWp P n c (LQ C T0 Mm mm I (mm s) Q) (C s ++ T0) (Mm s)) : AWp P n (.loop c) Q T M :=
  (awp_loop (fun m T M => ∃ s, I s ∧ mm s = m ∧ T = C s ++ T0 ∧ M = Mm s) (mm s0) ⟨s0, hi, rfl, rfl, rfl⟩ (by
    rintro m T M ⟨s, hi, rfl, rfl, rfl⟩
    refine (h s hi).mono fun e T' M' hq => ?_
    cases e with
    | normal =>
      obtain ⟨s', h1, h2, h3, h4⟩ := hq
      exact ⟨mm s', _, _, h2, ⟨s', h1, rfl, rfl, rfl⟩, h3, h4⟩
    | _ => exact hq)).less hs hx
theorem qLs {σ : Type} {C : σ → Tm} {T0 : Tm} {Mm : σ → Mem} {mm : σ → Nat} {I : σ → Prop} {m : Nat} (s : σ) (hi : I s) (hm : mm s < m) (hs : Sub (C s ++ T0) T) (hx : Ext (Mm s) M) : LQ C T0 Mm mm I m Q .normal T M := ⟨s, hi, hm, hs, hx⟩
theorem qLqX {σ : Type} {C : σ → Tm} {T0 : Tm} {Mm : σ → Mem} {mm : σ → Nat} {I : σ → Prop} {m j : Nat} (h : Q (.exit j) T M) : LQ C T0 Mm mm I m Q (.exit j) T M := h
theorem qLqE {σ : Type} {C : σ → Tm} {T0 : Tm} {Mm : σ → Mem} {mm : σ → Nat} {I : σ → Prop} {m : Nat} (h : Q .ret T M) : LQ C T0 Mm mm I m Q .ret T M := h
theorem fineLQ {σ : Type} {C : σ → Tm} {T0 : Tm} {Mm : σ → Mem} {mm : σ → Nat} {I : σ → Prop} {m : Nat} : Fine (LQ C T0 Mm mm I m Q) := by
  intro T T' M gg h
  obtain ⟨s, h1, h2, h3, h4⟩ := h
  exact ⟨s, h1, h2, fun i v hv => by rw [← gg i]; exact h3 i v hv, h4⟩
theorem wT {c : Code} {T' : Tm} (h : T = T') (k : AWp P n c Q T' M) : AWp P n c Q T M := h ▸ k
section
variable {c : Code}
def LQ1 {α : Type} (C : α → Tm) (T0 : Tm) (Mm : α → Mem) (mm : α → Nat) (I : α → Prop) (m : Nat) (Q : Exit → Tm → Mem → Prop) : Exit → Tm → Mem → Prop
  | .normal, T', M' => ∃ a, I a ∧ mm a < m ∧ Sub (C a ++ T0) T' ∧ Ext (Mm a) M'
  | e, T', M' => Q e T' M'
theorem cL1 {α : Type} (C : α → Tm) (T0 : Tm) (Mm : α → Mem) (mm : α → Nat) (I : α → Prop) (a0 : α) (hs : Sub (C a0 ++ T0) T) (hx : Ext (Mm a0) M) (hi : I a0)
    (h : ∀ a, I a → AWp P n c (LQ1 C T0 Mm mm I (mm a) Q) (C a ++ T0) (Mm a)) : AWp P n (.loop c) Q T M :=
  cLs (fun s : α => C s) T0 (fun s => Mm s) (fun s => mm s) (fun s => I s) a0 hs hx hi fun s hI => (h s hI).mono fun e T' M' hq => by
    cases e with
    | normal => obtain ⟨a, h1, h2, h3, h4⟩ := hq; exact ⟨a, h1, h2, h3, h4⟩
    | _ => exact hq
theorem qL1 {α : Type} {C : α → Tm} {T0 : Tm} {Mm : α → Mem} {mm : α → Nat} {I : α → Prop} {m : Nat} (a : α) (hi : I a) (hm : mm a < m) (hs : Sub (C a ++ T0) T) (hx : Ext (Mm a) M) : LQ1 C T0 Mm mm I m Q .normal T M := ⟨a, hi, hm, hs, hx⟩
theorem qL1X {α : Type} {C : α → Tm} {T0 : Tm} {Mm : α → Mem} {mm : α → Nat} {I : α → Prop} {m j : Nat} (h : Q (.exit j) T M) : LQ1 C T0 Mm mm I m Q (.exit j) T M := h
theorem qL1E {α : Type} {C : α → Tm} {T0 : Tm} {Mm : α → Mem} {mm : α → Nat} {I : α → Prop} {m : Nat} (h : Q .ret T M) : LQ1 C T0 Mm mm I m Q .ret T M := h
theorem fineLQ1 {α : Type} {C : α → Tm} {T0 : Tm} {Mm : α → Mem} {mm : α → Nat} {I : α → Prop} {m : Nat} : Fine (LQ1 C T0 Mm mm I m Q) := by
  intro T T' M gg h
  obtain ⟨a, h1, h2, h3, h4⟩ := h
  exact ⟨a, h1, h2, fun i v hv => by rw [← gg i]; exact h3 i v hv, h4⟩
def LQ2 {α : Type} {β : Type} (C : α → β → Tm) (T0 : Tm) (Mm : α → β → Mem) (mm : α → β → Nat) (I : α → β → Prop) (m : Nat) (Q : Exit → Tm → Mem → Prop) : Exit → Tm → Mem → Prop
  | .normal, T', M' => ∃ a b, I a b ∧ mm a b < m ∧ Sub (C a b ++ T0) T' ∧ Ext (Mm a b) M'
  | e, T', M' => Q e T' M'
theorem cL2 {α : Type} {β : Type} (C : α → β → Tm) (T0 : Tm) (Mm : α → β → Mem) (mm : α → β → Nat) (I : α → β → Prop) (a0 : α) (b0 : β) (hs : Sub (C a0 b0 ++ T0) T) (hx : Ext (Mm a0 b0) M) (hi : I a0 b0)
    (h : ∀ a b, I a b → AWp P n c (LQ2 C T0 Mm mm I (mm a b) Q) (C a b ++ T0) (Mm a b)) : AWp P n (.loop c) Q T M :=
  cLs (fun s : α × β => C s.1 s.2) T0 (fun s => Mm s.1 s.2) (fun s => mm s.1 s.2) (fun s => I s.1 s.2) (a0, b0) hs hx hi fun s hI => (h s.1 s.2 hI).mono fun e T' M' hq => by
    cases e with
    | normal => obtain ⟨a, b, h1, h2, h3, h4⟩ := hq; exact ⟨(a, b), h1, h2, h3, h4⟩
    | _ => exact hq
theorem qL2 {α : Type} {β : Type} {C : α → β → Tm} {T0 : Tm} {Mm : α → β → Mem} {mm : α → β → Nat} {I : α → β → Prop} {m : Nat} (a : α) (b : β) (hi : I a b) (hm : mm a b < m) (hs : Sub (C a b ++ T0) T) (hx : Ext (Mm a b) M) : LQ2 C T0 Mm mm I m Q .normal T M := ⟨a, b, hi, hm, hs, hx⟩
theorem qL2X {α : Type} {β : Type} {C : α → β → Tm} {T0 : Tm} {Mm : α → β → Mem} {mm : α → β → Nat} {I : α → β → Prop} {m j : Nat} (h : Q (.exit j) T M) : LQ2 C T0 Mm mm I m Q (.exit j) T M := h
theorem qL2E {α : Type} {β : Type} {C : α → β → Tm} {T0 : Tm} {Mm : α → β → Mem} {mm : α → β → Nat} {I : α → β → Prop} {m : Nat} (h : Q .ret T M) : LQ2 C T0 Mm mm I m Q .ret T M := h
theorem fineLQ2 {α : Type} {β : Type} {C : α → β → Tm} {T0 : Tm} {Mm : α → β → Mem} {mm : α → β → Nat} {I : α → β → Prop} {m : Nat} : Fine (LQ2 C T0 Mm mm I m Q) := by
  intro T T' M gg h
  obtain ⟨a, b, h1, h2, h3, h4⟩ := h
  exact ⟨a, b, h1, h2, fun i v hv => by rw [← gg i]; exact h3 i v hv, h4⟩
def LQ3 {α : Type} {β : Type} {γ : Type} (C : α → β → γ → Tm) (T0 : Tm) (Mm : α → β → γ → Mem) (mm : α → β → γ → Nat) (I : α → β → γ → Prop) (m : Nat) (Q : Exit → Tm → Mem → Prop) : Exit → Tm → Mem → Prop
  | .normal, T', M' => ∃ a b g, I a b g ∧ mm a b g < m ∧ Sub (C a b g ++ T0) T' ∧ Ext (Mm a b g) M'
  | e, T', M' => Q e T' M'
theorem cL3 {α : Type} {β : Type} {γ : Type} (C : α → β → γ → Tm) (T0 : Tm) (Mm : α → β → γ → Mem) (mm : α → β → γ → Nat) (I : α → β → γ → Prop) (a0 : α) (b0 : β) (g0 : γ) (hs : Sub (C a0 b0 g0 ++ T0) T) (hx : Ext (Mm a0 b0 g0) M) (hi : I a0 b0 g0)
    (h : ∀ a b g, I a b g → AWp P n c (LQ3 C T0 Mm mm I (mm a b g) Q) (C a b g ++ T0) (Mm a b g)) : AWp P n (.loop c) Q T M :=
  cLs (fun s : α × β × γ => C s.1 s.2.1 s.2.2) T0 (fun s => Mm s.1 s.2.1 s.2.2) (fun s => mm s.1 s.2.1 s.2.2) (fun s => I s.1 s.2.1 s.2.2) (a0, b0, g0) hs hx hi fun s hI => (h s.1 s.2.1 s.2.2 hI).mono fun e T' M' hq => by
    cases e with
    | normal => obtain ⟨a, b, g, h1, h2, h3, h4⟩ := hq; exact ⟨(a, b, g), h1, h2, h3, h4⟩
    | _ => exact hq
theorem qL3 {α : Type} {β : Type} {γ : Type} {C : α → β → γ → Tm} {T0 : Tm} {Mm : α → β → γ → Mem} {mm : α → β → γ → Nat} {I : α → β → γ → Prop} {m : Nat} (a : α) (b : β) (g : γ) (hi : I a b g) (hm : mm a b g < m) (hs : Sub (C a b g ++ T0) T) (hx : Ext (Mm a b g) M) : LQ3 C T0 Mm mm I m Q .normal T M := ⟨a, b, g, hi, hm, hs, hx⟩
theorem qL3X {α : Type} {β : Type} {γ : Type} {C : α → β → γ → Tm} {T0 : Tm} {Mm : α → β → γ → Mem} {mm : α → β → γ → Nat} {I : α → β → γ → Prop} {m j : Nat} (h : Q (.exit j) T M) : LQ3 C T0 Mm mm I m Q (.exit j) T M := h
theorem qL3E {α : Type} {β : Type} {γ : Type} {C : α → β → γ → Tm} {T0 : Tm} {Mm : α → β → γ → Mem} {mm : α → β → γ → Nat} {I : α → β → γ → Prop} {m : Nat} (h : Q .ret T M) : LQ3 C T0 Mm mm I m Q .ret T M := h
theorem fineLQ3 {α : Type} {β : Type} {γ : Type} {C : α → β → γ → Tm} {T0 : Tm} {Mm : α → β → γ → Mem} {mm : α → β → γ → Nat} {I : α → β → γ → Prop} {m : Nat} : Fine (LQ3 C T0 Mm mm I m Q) := by
  intro T T' M gg h
  obtain ⟨a, b, g, h1, h2, h3, h4⟩ := h
  exact ⟨a, b, g, h1, h2, fun i v hv => by rw [← gg i]; exact h3 i v hv, h4⟩
def LQ4 {α : Type} {β : Type} {γ : Type} {δ : Type} (C : α → β → γ → δ → Tm) (T0 : Tm) (Mm : α → β → γ → δ → Mem) (mm : α → β → γ → δ → Nat) (I : α → β → γ → δ → Prop) (m : Nat) (Q : Exit → Tm → Mem → Prop) : Exit → Tm → Mem → Prop
  | .normal, T', M' => ∃ a b g d, I a b g d ∧ mm a b g d < m ∧ Sub (C a b g d ++ T0) T' ∧ Ext (Mm a b g d) M'
  | e, T', M' => Q e T' M'
theorem cL4 {α : Type} {β : Type} {γ : Type} {δ : Type} (C : α → β → γ → δ → Tm) (T0 : Tm) (Mm : α → β → γ → δ → Mem) (mm : α → β → γ → δ → Nat) (I : α → β → γ → δ → Prop) (a0 : α) (b0 : β) (g0 : γ) (d0 : δ) (hs : Sub (C a0 b0 g0 d0 ++ T0) T) (hx : Ext (Mm a0 b0 g0 d0) M) (hi : I a0 b0 g0 d0)
    (h : ∀ a b g d, I a b g d → AWp P n c (LQ4 C T0 Mm mm I (mm a b g d) Q) (C a b g d ++ T0) (Mm a b g d)) : AWp P n (.loop c) Q T M :=
  cLs (fun s : α × β × γ × δ => C s.1 s.2.1 s.2.2.1 s.2.2.2) T0 (fun s => Mm s.1 s.2.1 s.2.2.1 s.2.2.2) (fun s => mm s.1 s.2.1 s.2.2.1 s.2.2.2) (fun s => I s.1 s.2.1 s.2.2.1 s.2.2.2) (a0, b0, g0, d0) hs hx hi fun s hI => (h s.1 s.2.1 s.2.2.1 s.2.2.2 hI).mono fun e T' M' hq => by
    cases e with
    | normal => obtain ⟨a, b, g, d, h1, h2, h3, h4⟩ := hq; exact ⟨(a, b, g, d), h1, h2, h3, h4⟩
    | _ => exact hq
theorem qL4 {α : Type} {β : Type} {γ : Type} {δ : Type} {C : α → β → γ → δ → Tm} {T0 : Tm} {Mm : α → β → γ → δ → Mem} {mm : α → β → γ → δ → Nat} {I : α → β → γ → δ → Prop} {m : Nat} (a : α) (b : β) (g : γ) (d : δ) (hi : I a b g d) (hm : mm a b g d < m) (hs : Sub (C a b g d ++ T0) T) (hx : Ext (Mm a b g d) M) : LQ4 C T0 Mm mm I m Q .normal T M := ⟨a, b, g, d, hi, hm, hs, hx⟩
theorem qL4X {α : Type} {β : Type} {γ : Type} {δ : Type} {C : α → β → γ → δ → Tm} {T0 : Tm} {Mm : α → β → γ → δ → Mem} {mm : α → β → γ → δ → Nat} {I : α → β → γ → δ → Prop} {m j : Nat} (h : Q (.exit j) T M) : LQ4 C T0 Mm mm I m Q (.exit j) T M := h
theorem qL4E {α : Type} {β : Type} {γ : Type} {δ : Type} {C : α → β → γ → δ → Tm} {T0 : Tm} {Mm : α → β → γ → δ → Mem} {mm : α → β → γ → δ → Nat} {I : α → β → γ → δ → Prop} {m : Nat} (h : Q .ret T M) : LQ4 C T0 Mm mm I m Q .ret T M := h
theorem fineLQ4 {α : Type} {β : Type} {γ : Type} {δ : Type} {C : α → β → γ → δ → Tm} {T0 : Tm} {Mm : α → β → γ → δ → Mem} {mm : α → β → γ → δ → Nat} {I : α → β → γ → δ → Prop} {m : Nat} : Fine (LQ4 C T0 Mm mm I m Q) := by
  intro T T' M gg h
  obtain ⟨a, b, g, d, h1, h2, h3, h4⟩ := h
  exact ⟨a, b, g, d, h1, h2, fun i v hv => by rw [← gg i]; exact h3 i v hv, h4⟩
def LQ5 {α : Type} {β : Type} {γ : Type} {δ : Type} {ε : Type} (C : α → β → γ → δ → ε → Tm) (T0 : Tm) (Mm : α → β → γ → δ → ε → Mem) (mm : α → β → γ → δ → ε → Nat) (I : α → β → γ → δ → ε → Prop) (m : Nat) (Q : Exit → Tm → Mem → Prop) : Exit → Tm → Mem → Prop
  | .normal, T', M' => ∃ a b g d e, I a b g d e ∧ mm a b g d e < m ∧ Sub (C a b g d e ++ T0) T' ∧ Ext (Mm a b g d e) M'
  | e, T', M' => Q e T' M'
theorem cL5 {α : Type} {β : Type} {γ : Type} {δ : Type} {ε : Type} (C : α → β → γ → δ → ε → Tm) (T0 : Tm) (Mm : α → β → γ → δ → ε → Mem) (mm : α → β → γ → δ → ε → Nat) (I : α → β → γ → δ → ε → Prop) (a0 : α) (b0 : β) (g0 : γ) (d0 : δ) (e0 : ε) (hs : Sub (C a0 b0 g0 d0 e0 ++ T0) T) (hx : Ext (Mm a0 b0 g0 d0 e0) M) (hi : I a0 b0 g0 d0 e0)
    (h : ∀ a b g d e, I a b g d e → AWp P n c (LQ5 C T0 Mm mm I (mm a b g d e) Q) (C a b g d e ++ T0) (Mm a b g d e)) : AWp P n (.loop c) Q T M :=
  cLs (fun s : α × β × γ × δ × ε => C s.1 s.2.1 s.2.2.1 s.2.2.2.1 s.2.2.2.2) T0 (fun s => Mm s.1 s.2.1 s.2.2.1 s.2.2.2.1 s.2.2.2.2) (fun s => mm s.1 s.2.1 s.2.2.1 s.2.2.2.1 s.2.2.2.2) (fun s => I s.1 s.2.1 s.2.2.1 s.2.2.2.1 s.2.2.2.2) (a0, b0, g0, d0, e0) hs hx hi fun s hI => (h s.1 s.2.1 s.2.2.1 s.2.2.2.1 s.2.2.2.2 hI).mono fun e T' M' hq => by
    cases e with
    | normal => obtain ⟨a, b, g, d, e, h1, h2, h3, h4⟩ := hq; exact ⟨(a, b, g, d, e), h1, h2, h3, h4⟩
    | _ => exact hq
theorem qL5 {α : Type} {β : Type} {γ : Type} {δ : Type} {ε : Type} {C : α → β → γ → δ → ε → Tm} {T0 : Tm} {Mm : α → β → γ → δ → ε → Mem} {mm : α → β → γ → δ → ε → Nat} {I : α → β → γ → δ → ε → Prop} {m : Nat} (a : α) (b : β) (g : γ) (d : δ) (e : ε) (hi : I a b g d e) (hm : mm a b g d e < m) (hs : Sub (C a b g d e ++ T0) T) (hx : Ext (Mm a b g d e) M) : LQ5 C T0 Mm mm I m Q .normal T M := ⟨a, b, g, d, e, hi, hm, hs, hx⟩
theorem qL5X {α : Type} {β : Type} {γ : Type} {δ : Type} {ε : Type} {C : α → β → γ → δ → ε → Tm} {T0 : Tm} {Mm : α → β → γ → δ → ε → Mem} {mm : α → β → γ → δ → ε → Nat} {I : α → β → γ → δ → ε → Prop} {m j : Nat} (h : Q (.exit j) T M) : LQ5 C T0 Mm mm I m Q (.exit j) T M := h
theorem qL5E {α : Type} {β : Type} {γ : Type} {δ : Type} {ε : Type} {C : α → β → γ → δ → ε → Tm} {T0 : Tm} {Mm : α → β → γ → δ → ε → Mem} {mm : α → β → γ → δ → ε → Nat} {I : α → β → γ → δ → ε → Prop} {m : Nat} (h : Q .ret T M) : LQ5 C T0 Mm mm I m Q .ret T M := h
theorem fineLQ5 {α : Type} {β : Type} {γ : Type} {δ : Type} {ε : Type} {C : α → β → γ → δ → ε → Tm} {T0 : Tm} {Mm : α → β → γ → δ → ε → Mem} {mm : α → β → γ → δ → ε → Nat} {I : α → β → γ → δ → ε → Prop} {m : Nat} : Fine (LQ5 C T0 Mm mm I m Q) := by
  intro T T' M gg h
  obtain ⟨a, b, g, d, e, h1, h2, h3, h4⟩ := h
  exact ⟨a, b, g, d, e, h1, h2, fun i v hv => by rw [← gg i]; exact h3 i v hv, h4⟩
def LQ6 {α : Type} {β : Type} {γ : Type} {δ : Type} {ε : Type} {ζ : Type} (C : α → β → γ → δ → ε → ζ → Tm) (T0 : Tm) (Mm : α → β → γ → δ → ε → ζ → Mem) (mm : α → β → γ → δ → ε → ζ → Nat) (I : α → β → γ → δ → ε → ζ → Prop) (m : Nat) (Q : Exit → Tm → Mem → Prop) : Exit → Tm → Mem → Prop
  | .normal, T', M' => ∃ a b g d e z, I a b g d e z ∧ mm a b g d e z < m ∧ Sub (C a b g d e z ++ T0) T' ∧ Ext (Mm a b g d e z) M'
  | e, T', M' => Q e T' M'
theorem cL6 {α : Type} {β : Type} {γ : Type} {δ : Type} {ε : Type} {ζ : Type} (C : α → β → γ → δ → ε → ζ → Tm) (T0 : Tm) (Mm : α → β → γ → δ → ε → ζ → Mem) (mm : α → β → γ → δ → ε → ζ → Nat) (I : α → β → γ → δ → ε → ζ → Prop) (a0 : α) (b0 : β) (g0 : γ) (d0 : δ) (e0 : ε) (z0 : ζ) (hs : Sub (C a0 b0 g0 d0 e0 z0 ++ T0) T) (hx : Ext (Mm a0 b0 g0 d0 e0 z0) M) (hi : I a0 b0 g0 d0 e0 z0)
    (h : ∀ a b g d e z, I a b g d e z → AWp P n c (LQ6 C T0 Mm mm I (mm a b g d e z) Q) (C a b g d e z ++ T0) (Mm a b g d e z)) : AWp P n (.loop c) Q T M :=
  cLs (fun s : α × β × γ × δ × ε × ζ => C s.1 s.2.1 s.2.2.1 s.2.2.2.1 s.2.2.2.2.1 s.2.2.2.2.2) T0 (fun s => Mm s.1 s.2.1 s.2.2.1 s.2.2.2.1 s.2.2.2.2.1 s.2.2.2.2.2) (fun s => mm s.1 s.2.1 s.2.2.1 s.2.2.2.1 s.2.2.2.2.1 s.2.2.2.2.2) (fun s => I s.1 s.2.1 s.2.2.1 s.2.2.2.1 s.2.2.2.2.1 s.2.2.2.2.2) (a0, b0, g0, d0, e0, z0) hs hx hi fun s hI => (h s.1 s.2.1 s.2.2.1 s.2.2.2.1 s.2.2.2.2.1 s.2.2.2.2.2 hI).mono fun e T' M' hq => by
    cases e with
    | normal => obtain ⟨a, b, g, d, e, z, h1, h2, h3, h4⟩ := hq; exact ⟨(a, b, g, d, e, z), h1, h2, h3, h4⟩
    | _ => exact hq
theorem qL6 {α : Type} {β : Type} {γ : Type} {δ : Type} {ε : Type} {ζ : Type} {C : α → β → γ → δ → ε → ζ → Tm} {T0 : Tm} {Mm : α → β → γ → δ → ε → ζ → Mem} {mm : α → β → γ → δ → ε → ζ → Nat} {I : α → β → γ → δ → ε → ζ → Prop} {m : Nat} (a : α) (b : β) (g : γ) (d : δ) (e : ε) (z : ζ) (hi : I a b g d e z) (hm : mm a b g d e z < m) (hs : Sub (C a b g d e z ++ T0) T) (hx : Ext (Mm a b g d e z) M) : LQ6 C T0 Mm mm I m Q .normal T M := ⟨a, b, g, d, e, z, hi, hm, hs, hx⟩
theorem qL6X {α : Type} {β : Type} {γ : Type} {δ : Type} {ε : Type} {ζ : Type} {C : α → β → γ → δ → ε → ζ → Tm} {T0 : Tm} {Mm : α → β → γ → δ → ε → ζ → Mem} {mm : α → β → γ → δ → ε → ζ → Nat} {I : α → β → γ → δ → ε → ζ → Prop} {m j : Nat} (h : Q (.exit j) T M) : LQ6 C T0 Mm mm I m Q (.exit j) T M := h
theorem qL6E {α : Type} {β : Type} {γ : Type} {δ : Type} {ε : Type} {ζ : Type} {C : α → β → γ → δ → ε → ζ → Tm} {T0 : Tm} {Mm : α → β → γ → δ → ε → ζ → Mem} {mm : α → β → γ → δ → ε → ζ → Nat} {I : α → β → γ → δ → ε → ζ → Prop} {m : Nat} (h : Q .ret T M) : LQ6 C T0 Mm mm I m Q .ret T M := h
theorem fineLQ6 {α : Type} {β : Type} {γ : Type} {δ : Type} {ε : Type} {ζ : Type} {C : α → β → γ → δ → ε → ζ → Tm} {T0 : Tm} {Mm : α → β → γ → δ → ε → ζ → Mem} {mm : α → β → γ → δ → ε → ζ → Nat} {I : α → β → γ → δ → ε → ζ → Prop} {m : Nat} : Fine (LQ6 C T0 Mm mm I m Q) := by
  intro T T' M gg h
  obtain ⟨a, b, g, d, e, z, h1, h2, h3, h4⟩ := h
  exact ⟨a, b, g, d, e, z, h1, h2, fun i v hv => by rw [← gg i]; exact h3 i v hv, h4⟩
end
end

/-- memory reordered, or with more in front -/
theorem eL {A M L : Mem} (h : Ext A M) : Ext A (L ++ M) := Ext.trans h (ext_append L M)
theorem eLK {A M L : Mem} (h : Ext A M) : Ext (L ++ A) (L ++ M) := by
  obtain ⟨R, h⟩ := h
  exact ⟨R, by rw [List.append_assoc]; exact h.append_left L⟩
theorem eT {A B M : Mem} (h : Ext B M) (k : Ext A B) : Ext A M := Ext.trans k h
/-! ## Values that are read, and values of the call's own -/
def RdV (M : Mem) (v : Value) (xs : List Nat) : Prop := ∃ a c, v = .slice a xs.length c ∧ RdF M a xs.length xs
theorem RdV.mono {M M' : Mem} {v : Value} {xs : List Nat} (h : RdV M v xs) (e : Ext M M') : RdV M' v xs := by
  obtain ⟨a, c, hv, h⟩ := h; exact ⟨a, c, hv, h.mono e⟩
theorem RdV.toRd {M : Mem} {v : Value} {xs : List Nat} (h : RdV M v xs) : Rd M v (xs.map fl) := by
  obtain ⟨a, c, rfl, h⟩ := h; exact h.toRd
theorem RdV.ofRd {M : Mem} {v : Value} {xs : List Nat} (h : Rd M v (xs.map fl)) : RdV M v xs := RdF.ofRd h

def OwF (L : Mem) (v : Value) (xs : List Nat) : Prop :=
  ((∃ a, v = .slice a 0 0) ∧ xs = [] ∧ L = []) ∨ ∃ b cap rest, v = .slice (some ⟨b, 0, none⟩) xs.length cap ∧ xs.length + rest.length = cap ∧ L = [(b, FB xs rest)]
theorem OwF.own {L M : Mem} {v : Value} {xs : List Nat} (h : OwF L v xs) : Own M v xs (L ++ M) := by
  rcases h with ⟨⟨a, rfl⟩, rfl, rfl⟩ | ⟨b, cap, rest, rfl, h, rfl⟩
  · exact .inl ⟨⟨a, rfl⟩, rfl, rfl⟩
  · exact .inr ⟨b, cap, rest, rfl, h, rfl⟩
theorem OwF.ofOwn {M M' : Mem} {v : Value} {xs : List Nat} (h : Own M v xs M') : ∃ L, OwF L v xs ∧ M' = L ++ M := by
  rcases h with ⟨⟨a, rfl⟩, rfl, rfl⟩ | ⟨b, cap, rest, rfl, h, rfl⟩
  · exact ⟨[], .inl ⟨⟨a, rfl⟩, rfl, rfl⟩, rfl⟩
  · exact ⟨[(b, FB xs rest)], .inr ⟨b, cap, rest, rfl, h, rfl⟩, rfl⟩
theorem OwF.nil {a : Option Addr} : OwF [] (.slice a 0 0) [] := .inl ⟨⟨a, rfl⟩, rfl, rfl⟩
theorem OwF.blk {b cap : Nat} {xs : List Nat} {rest : List Value} (h : xs.length + rest.length = cap) : OwF [(b, FB xs rest)] (.slice (some ⟨b, 0, none⟩) xs.length cap) xs := .inr ⟨b, cap, rest, rfl, h, rfl⟩
theorem OwF.rd {L : Mem} {v : Value} {xs : List Nat} (h : OwF L v xs) : RdV L v xs := by
  rcases h with ⟨⟨a, rfl⟩, rfl, rfl⟩ | ⟨b, cap, rest, rfl, h, rfl⟩
  · exact ⟨a, 0, rfl, RdF.nil _ _⟩
  · exact ⟨_, _, rfl, RdF.ownm (List.Mem.head _) rfl⟩
theorem eA {L M : Mem} : Ext L (L ++ M) := Ext.of_sublist (List.sublist_append_left L M)
theorem OwF.notTup {L : Mem} {v : Value} {xs : List Nat} (h : OwF L v xs) : Ab.notTup v = true := by
  obtain ⟨a, c, rfl, _⟩ := h.rd; rfl


/-- append of one number to a slice of the call's own -/
theorem apF {P : Program} {n : Nat} {T : Tm} {M : Mem} {ops : Array Oper} {st : Option (List Nat)} {Q : Tm → Mem → Prop} {l : List (Oper × Bool)} {d : Option Nat} {ty ty1 : Nat} {pos pos1 : String} {after after1 : Array Edge}
    {t e bytes : Nat} [hu : UnderT P t (.slice e)] [hi : InfoT P e 1 bytes (.float .f32 0)] {x y : Operand} {d1 : Nat} {v : Nat} {xs : List Nat} {sl : Value} {L M1 : Mem}
    (hw : ∀ ks, st = some ks → keptD ks d = false) (hd : Nat.blt d1 n = true) (hx : ∀ u, ev (putT n (some d1) u T) x = some sl) (ey : ev T y = some (.float .f32 v)) (ho : OwF L sl xs) (hM : M = L ++ M1) (hb : (xs.length + 1) * bytes ≤ 140737488355328) (h63 : xs.length + 1 ≤ 4611686018427387904)
    (hk : ∀ b sl' L', OwF L' sl' (xs ++ [v]) → Run P n ops st Q l (putT n d sl' (putT n (some d1) (.slice (some ⟨b, 0, none⟩) 1 1) T)) (L' ++ M1)) :
    Run P n ops st Q ((⟨some d1, .buildSlice t 1 ⟨[(0, y)]⟩, ty1, pos1, after1, none⟩, false) :: (⟨d, .call { callee := .builtin .append, args := #[x, .tmp d1], argTypes := #[t, t] }, ty, pos, after, none⟩, false) :: l) T M := by
  refine rBS (vs := [.float .f32 v]) rfl (by simp [evs, ey]) rfl rfl rfl fun b => ?_
  refine rPO (xs := xs) (ys := [v]) (M0 := M1) (M1 := L ++ M1) [(b, ⟨[.float .f32 v], true⟩)] hw (hx _) (by simp only [putT, hd, cond_true]; show get _ d1 = _; rw [get_cons, if_pos rfl]) ho.own (by rw [hM]; rfl) ?_ (by simp) (by simpa using hb) (by simpa using h63) ?_
  · exact Rd.head (vs := [.float .f32 v])
  · intro sl' M1' ho'
    obtain ⟨L', h1, rfl⟩ := OwF.ofOwn ho'
    exact hk b sl' L' h1
section
variable {P : Program} {n : Nat} {T : Tm} {M : Mem} {ops : Array Oper} {st : Option (List Nat)} {Q : Tm → Mem → Prop} {fl : Bool} {l : List (Oper × Bool)} {d : Option Nat} {ty : Nat} {pos : String} {after : Array Edge}
/-- append of nothing -/
theorem step_append0 {K : Value → Mem → Prop} {g : Option (Nat × Bool)} {t e bytes : Nat} {z : Value} [hu : UnderT P t (.slice e)] [hi : InfoT P e 1 bytes z] {x y : Operand} {a a' : Option Addr} {len cap c : Nat}
    (ex : ev T x = some (.slice a len cap)) (ey : ev T y = some (.slice a' 0 c)) (hl : len ≤ cap) (hk : K (.slice a len cap) M) :
    Step P n ⟨d, .call { callee := .builtin .append, args := #[x, y], argTypes := #[t, t] }, ty, pos, after, g⟩ T M K := by
  intro w0 B ac w ht hs
  obtain ⟨i, hi1, hi2, hi3, hi4⟩ := hi.out
  have hx := nf_slice (ev_sound ht ex)
  have hy := nf_slice (ev_sound ht ey)
  have hrun : (execOp ac.eval ⟨d, .call { callee := .builtin .append, args := #[x, y], argTypes := #[t, t] }, ty, pos, after, g⟩).run P w = .ok (.value (.slice a len cap)) w := by
    cases a <;> cases a' <;> simp [execOp, resolve, hx, hy, invoke, builtin, Builtin.append_, run_underlying hu.out, sizeOf, typeInfo, hi1, Builtin.lenOf, hl, Builtin.firstCells, loadCells, loadCellsFrom, storeCells]
  rw [hrun]
  exact ⟨M, hs, hk⟩

theorem Own.cap {M0 M : Mem} {v : Value} {xs : List Nat} (h : Own M0 v xs M) : ∃ a c, v = .slice a xs.length c ∧ xs.length ≤ c := by
  rcases h with ⟨⟨a, rfl⟩, rfl, rfl⟩ | ⟨b, cap, rest, rfl, hc, rfl⟩
  · exact ⟨_, 0, rfl, by simp⟩
  · exact ⟨_, cap, rfl, by omega⟩

/-- append of floats, of none too -/
theorem rPA {t e bytes : Nat} {z : Value} [hu : UnderT P t (.slice e)] [hi : InfoT P e 1 bytes z] {x y : Operand} {xs ys : List Nat} {v sl : Value} {M0 M1 : Mem} (G : Mem) (hw : ∀ ks, st = some ks → keptD ks d = false)
    (ex : ev T x = some sl) (ey : ev T y = some v) (ho : Own M0 sl xs M1) (hM : M = G ++ M1) (hr : Rd M v (ys.map Ab.fl)) (hb : (xs.length + ys.length) * bytes ≤ 140737488355328) (h63 : xs.length + ys.length ≤ 4611686018427387904)
    (hk : ∀ sl' M1', Own M0 sl' (xs ++ ys) M1' → Run P n ops st Q l (putT n d sl' T) M1') :
    Run P n ops st Q ((⟨d, .call { callee := .builtin .append, args := #[x, y], argTypes := #[t, t] }, ty, pos, after, none⟩, false) :: l) T M := by
  by_cases h0 : 0 < ys.length
  · exact rPO G hw ex ey ho hM hr h0 hb h63 hk
  · have hy0 : ys = [] := by cases ys with | nil => rfl | cons a b => simp at h0
    subst hy0
    obtain ⟨a, c, rfl, hl⟩ := ho.cap
    obtain ⟨a', c', hv, _⟩ := hr
    simp only [List.map_nil, List.length_nil] at hv
    subst hv
    refine run_step rfl (Step.lessM (step_append0 (t := t) ex ey hl ?_))
    refine ⟨M1, by rw [hM]; exact ext_append G M1, fun ks hs h => by simp [keeps, writer, hw ks hs] at h, hk _ _ ?_⟩
    rw [List.append_nil]; exact ho

/-- append of a list that is read to an empty literal: all that was there stays -/
theorem apE {t e bytes : Nat} {z : Value} [hu : UnderT P t (.slice e)] [hi : InfoT P e 1 bytes z] {x y : Operand} {ys : List Nat} {a : Option Addr} {b0 m c : Nat}
    (ex : ev T x = some (.slice (some ⟨b0, 0, none⟩) 0 0)) (ey : ev T y = some (.slice a m c)) (hr : RdF M a m ys) (hb : m * bytes ≤ 140737488355328) (h63 : m ≤ 4611686018427387904)
    (hk : ∀ sl' L', OwF L' sl' ys → Run P n ops st Q l (putT n d sl' T) (L' ++ M)) :
    Run P n ops st Q ((⟨d, .call { callee := .builtin .append, args := #[x, y], argTypes := #[t, t] }, ty, pos, after, none⟩, false) :: l) T M := by
  have hl := hr.len
  have hfl : ∀ v ∈ ys.map Ab.fl, flatV v = true := by
    intro v hv; rw [List.mem_map] at hv; obtain ⟨w, _, rfl⟩ := hv; rfl
  by_cases h0 : 0 < m
  · refine run_step rfl (step_appendE (t := t) ex ey hr.toRd (by simpa using hl) h0 hfl hb (by simpa using h63) fun b' cap' rest' h => ?_)
    have := hk (.slice (some ⟨b', 0, none⟩) m cap') [(b', FB ys rest')] (.inr ⟨b', cap', rest', by rw [hl], by rw [hl]; exact h, rfl⟩)
    exact ⟨fun _ _ _ => Ext.cons _ _, this⟩
  · have hm : m = 0 := by omega
    subst hm
    have hy0 : ys = [] := by cases ys with | nil => rfl | cons a b => simp at hl
    subst hy0
    refine run_step rfl (step_append0 (t := t) ex ey (Nat.le_refl _) ?_)
    exact ⟨fun _ _ _ => Ext.refl _, hk _ [] OwF.nil⟩
/-- append of a list that is read to a slice of the call's own -/
theorem apS {t e bytes : Nat} {z : Value} [hu : UnderT P t (.slice e)] [hi : InfoT P e 1 bytes z] {x y : Operand} {xs ys : List Nat} {a : Option Addr} {m c : Nat} {sl : Value} {L M1 : Mem}
    (hw : ∀ ks, st = some ks → keptD ks d = false) (ex : ev T x = some sl) (ey : ev T y = some (.slice a m c)) (ho : OwF L sl xs) (hM : M = L ++ M1) (hr : RdF M a m ys) (hb : (xs.length + m) * bytes ≤ 140737488355328) (h63 : xs.length + m ≤ 4611686018427387904)
    (hk : ∀ sl' L', OwF L' sl' (xs ++ ys) → Run P n ops st Q l (putT n d sl' T) (L' ++ M1)) :
    Run P n ops st Q ((⟨d, .call { callee := .builtin .append, args := #[x, y], argTypes := #[t, t] }, ty, pos, after, none⟩, false) :: l) T M := by
  have hl := hr.len
  refine rPA (M0 := M1) (M1 := L ++ M1) [] hw ex ey ho.own (by rw [hM]; rfl) hr.toRd (by rw [hl]; exact hb) (by rw [hl]; exact h63) fun sl' M1' ho' => ?_
  obtain ⟨L', h1, rfl⟩ := OwF.ofOwn ho'
  exact hk sl' L' h1
end
/-- a list by a rule -/
def tab (n : Nat) (f : Nat → Nat) : List Nat := (List.range n).map f
theorem tab_len (n : Nat) (f : Nat → Nat) : (tab n f).length = n := by simp [tab]
theorem tab_succ (n : Nat) (f : Nat → Nat) : tab (n + 1) f = tab n f ++ [f n] := by simp [tab, List.range_succ]
theorem tab_getD {n i : Nat} {f : Nat → Nat} (h : i < n) : (tab n f).getD i 0 = f i := by simp [tab, List.getD, h]
theorem tab_zero (f : Nat → Nat) : tab 0 f = [] := rfl
theorem tab_self (xs : List Nat) : tab xs.length (fun i => xs.getD i 0) = xs := by
  apply List.ext_getElem
  · simp [tab]
  · intro i h1 h2; simp [tab, List.getD, h2]
theorem tab_congr {n : Nat} {f g : Nat → Nat} (h : ∀ i, i < n → f i = g i) : tab n f = tab n g := by
  unfold tab; apply List.map_congr_left; intro i hi; exact h i (by simpa using hi)
/-- a store into a slice of the call's own -/
theorem stO {P : Program} {n : Nat} {T : Tm} {M : Mem} {ops : Array Oper} {st : Option (List Nat)} {Q : Tm → Mem → Prop} {l : List (Oper × Bool)} {ty : Nat} {pos : String} {after : Array Edge}
    {t bytes : Nat} {z : Value} [InfoT P t 1 bytes z] {x y : Operand} {a : Option Addr} {m c j v : Nat} {xs : List Nat} {L M1 : Mem} (ex : ev T x = some (pAt a j)) (ey : ev T y = some (.float .f32 v)) (ho : OwF L (.slice a m c) xs) (hM : M = L ++ M1) (hj : j < m)
    (kk : ∀ L', OwF L' (.slice a m c) (xs.set j v) → Run P n ops st Q l T (L' ++ M1)) : Run P n ops st Q ((⟨none, .store t x y, ty, pos, after, none⟩, false) :: l) T M := by
  subst hM
  rcases ho with ⟨⟨a0, hv⟩, _, _⟩ | ⟨b, cap, rest, hv, hcap, rfl⟩
  · cases hv; omega
  · obtain ⟨rfl, rfl, rfl⟩ := Value.slice.inj hv
    exact stF 0 ex ey rfl hj (kk _ (.inr ⟨b, _, rest, by rw [List.length_set], by rw [List.length_set]; exact hcap, rfl⟩))
theorem OwF.len {L : Mem} {a : Option Addr} {m c : Nat} {xs : List Nat} (h : OwF L (.slice a m c) xs) : xs.length = m := by
  obtain ⟨_, _, hv, _⟩ := h.rd; exact (Value.slice.inj hv).2.1.symm
theorem OwF.rdF {L : Mem} {a : Option Addr} {m c : Nat} {xs : List Nat} (h : OwF L (.slice a m c) xs) : RdF L a m xs := by
  obtain ⟨_, _, hv, h⟩ := h.rd
  obtain ⟨rfl, h2, _⟩ := Value.slice.inj hv
  rw [h2]; exact h
theorem OwF.len1 {L : Mem} {v : Value} {xs : List Nat} {x : Nat} (h : OwF L v (xs ++ [x])) : (xs ++ [x]).length = xs.length + 1 := by simp
theorem OwF.len2 {L : Mem} {v : Value} {xs ys : List Nat} (h : OwF L v (xs ++ ys)) : (xs ++ ys).length = xs.length + ys.length := by simp
/-! the end of a function: what it hands back first, then what of the memory it keeps -/
section
variable {P : Program} {fn : Func} {R : Value → Mem → Prop} {T : Tm} {M : Mem}
theorem kE {t : Nat} {v : Value} (hr : fn.results = #[.tmp t]) (h : get T t = some v) (k : ∃ M0, R v M0 ∧ Ext M0 M) : Ret P fn R .ret T M := by
  obtain ⟨M0, h1, h2⟩ := k; exact fE hr h h2 h1
theorem kE0 (hr : fn.results = #[]) (k : ∃ M0, R (.tuple #[]) M0 ∧ Ext M0 M) : Ret P fn R .ret T M := by
  obtain ⟨M0, h1, h2⟩ := k; exact fE0 hr h2 h1
theorem kE2 {t1 t2 : Nat} {v1 v2 : Value} (hr : fn.results = #[.tmp t1, .tmp t2]) (h1 : get T t1 = some v1) (h2 : get T t2 = some v2) (n1 : notTup v1 = true) (n2 : notTup v2 = true) (k : ∃ M0, R (.tuple #[v1, v2]) M0 ∧ Ext M0 M) : Ret P fn R .ret T M := by
  obtain ⟨M0, k1, k2⟩ := k; exact fE2 hr h1 h2 n1 n2 k2 k1
theorem kE3 {t1 t2 t3 : Nat} {v1 v2 v3 : Value} (hr : fn.results = #[.tmp t1, .tmp t2, .tmp t3]) (h1 : get T t1 = some v1) (h2 : get T t2 = some v2) (h3 : get T t3 = some v3) (n1 : notTup v1 = true) (n2 : notTup v2 = true) (n3 : notTup v3 = true) (k : ∃ M0, R (.tuple #[v1, v2, v3]) M0 ∧ Ext M0 M) : Ret P fn R .ret T M := by
  obtain ⟨M0, k1, k2⟩ := k; exact fE3 hr h1 h2 h3 n1 n2 n3 k2 k1
theorem kC {r : ResultVar} {v : Value} (hr : fn.results = #[r]) (h : ResOne P T M r v) (k : ∃ M0, R v M0 ∧ Ext M0 M) : Ret P fn R .ret T M := by
  obtain ⟨M0, k1, k2⟩ := k; exact fC hr h k2 k1
theorem kC2 {r1 r2 : ResultVar} {v1 v2 : Value} (hr : fn.results = #[r1, r2]) (h1 : ResOne P T M r1 v1) (h2 : ResOne P T M r2 v2) (n1 : notTup v1 = true) (n2 : notTup v2 = true) (k : ∃ M0, R (.tuple #[v1, v2]) M0 ∧ Ext M0 M) : Ret P fn R .ret T M := by
  obtain ⟨M0, k1, k2⟩ := k; exact fC2 hr h1 h2 n1 n2 k2 k1
theorem kC3 {r1 r2 r3 : ResultVar} {v1 v2 v3 : Value} (hr : fn.results = #[r1, r2, r3]) (h1 : ResOne P T M r1 v1) (h2 : ResOne P T M r2 v2) (h3 : ResOne P T M r3 v3) (n1 : notTup v1 = true) (n2 : notTup v2 = true) (n3 : notTup v3 = true) (k : ∃ M0, R (.tuple #[v1, v2, v3]) M0 ∧ Ext M0 M) : Ret P fn R .ret T M := by
  obtain ⟨M0, k1, k2⟩ := k; exact fC3 hr h1 h2 h3 n1 n2 n3 k2 k1
end
/-! memory in any order -/
theorem pH {p : Nat × Blk} {M : Mem} : Ext (p :: M) (p :: M) := Ext.refl _
theorem pT {p q : Nat × Blk} {A M : Mem} (h : Ext (p :: A) M) : Ext (p :: (q :: A)) (q :: M) := Ext.trans (Ext.of_perm (List.Perm.swap q p A)) (eK h)
theorem pL {p : Nat × Blk} {A M L : Mem} (h : Ext (p :: A) M) : Ext (p :: (L ++ A)) (L ++ M) := Ext.trans (Ext.of_perm List.perm_middle.symm) (eLK h)
theorem lH {L M : Mem} : Ext (L ++ M) (L ++ M) := Ext.refl _
theorem lT {L A M : Mem} {q : Nat × Blk} (h : Ext (L ++ A) M) : Ext (L ++ (q :: A)) (q :: M) := Ext.trans (Ext.of_perm List.perm_middle) (eK h)
theorem lL {L A M K : Mem} (h : Ext (L ++ A) M) : Ext (L ++ (K ++ A)) (K ++ M) :=
  Ext.trans (Ext.of_perm (by rw [← List.append_assoc, ← List.append_assoc]; exact List.Perm.append_right A List.perm_append_comm)) (eLK h)
theorem xC {p : Nat × Blk} {A M1 M : Mem} (h : Ext (p :: M1) M) (k : Ext A M1) : Ext (p :: A) M := Ext.trans (eK k) h
theorem xA {L A M1 M : Mem} (h : Ext (L ++ M1) M) (k : Ext A M1) : Ext (L ++ A) M := Ext.trans (eLK k) h
/-- a step may be taken over the memory in another order, or over less of it -/
theorem Step.ofExt {P : Program} {n : Nat} {o : Oper} {T : Tm} {M M' : Mem} {K : Value → Mem → Prop} (h : Step P n o T M K) (e : Ext M M') : Step P n o T M' K :=
  fun w0 B a w ht hs => h w0 B a w ht (hs.weaken e)
section
variable {P : Program} {n : Nat} {T : Tm} {M : Mem} {ops : Array Oper} {st : Option (List Nat)} {Q : Tm → Mem → Prop} {l : List (Oper × Bool)} {ty : Nat} {pos : String} {after : Array Edge}
/-- a store into a list of the call's own, wherever it lies -/
theorem tO {t bytes : Nat} {z : Value} [InfoT P t 1 bytes z] {x y : Operand} {a : Option Addr} {m c j v : Nat} {xs : List Nat} {L M1 : Mem} (ex : ev T x = some (pAt a j)) (ey : ev T y = some (.float .f32 v)) (ho : OwF L (.slice a m c) xs) (hM : Ext (L ++ M1) M) (hj : j < m)
    (kk : ∀ L', OwF L' (.slice a m c) (xs.set j v) → Run P n ops st Q l T (L' ++ M1)) : Run P n ops st Q ((⟨none, .store t x y, ty, pos, after, none⟩, false) :: l) T M := by
  rcases ho with ⟨⟨a0, hv⟩, _, _⟩ | ⟨b, cap, rest, hv, hcap, rfl⟩
  · cases hv; omega
  · obtain ⟨rfl, rfl, rfl⟩ := Value.slice.inj hv
    refine run_step rfl (Step.ofExt (step_store (P := P) (M := (b, FB xs rest) :: M1) (tl := t) (v := .float .f32 v) (b := b) (o := j) (k := FB xs rest) 0 (by rw [ex]; simp [pAt]) ey rfl rfl rfl (by simp [FB]; omega) ⟨fun _ _ h => by simp [keeps, writer, keptD] at h, ?_⟩) hM)
    have e : (xs.map Ab.fl ++ rest).set j (.float .f32 v) = (xs.set j v).map Ab.fl ++ rest := by rw [List.set_append_left _ _ (by simpa using hj), List.map_set]
    have := kk [(b, FB (xs.set j v) rest)] (.inr ⟨b, _, rest, by rw [List.length_set], by rw [List.length_set]; exact hcap, rfl⟩)
    show Run P n ops st Q l T ((b, ⟨(xs.map Ab.fl ++ rest).set j (.float .f32 v), true⟩) :: M1)
    rw [e]; exact this
/-- a store of a value of one cell into a block, wherever it lies -/
theorem tS {t bytes : Nat} {z : Value} [InfoT P t 1 bytes z] {x y : Operand} {b o : Nat} {cs : List Value} {v : Value} {M1 : Mem}
    (ex : ev T x = some (.pointer (some ⟨b, o, none⟩))) (ey : ev T y = some v) (hf : flatV v = true) (hM : Ext ((b, ⟨cs, true⟩) :: M1) M) (ho : Nat.ble (o + 1) cs.length = true) {cs' : List Value} (hc : cs.set o v = cs')
    (kk : Run P n ops st Q l T ((b, ⟨cs', true⟩) :: M1)) : Run P n ops st Q ((⟨none, .store t x y, ty, pos, after, none⟩, false) :: l) T M := by
  subst hc
  exact run_step rfl (Step.ofExt (step_store (P := P) (M := (b, ⟨cs, true⟩) :: M1) (tl := t) (k := ⟨cs, true⟩) 0 ex ey hf rfl rfl (Nat.le_of_ble_eq_true ho) ⟨fun _ _ h => by simp [keeps, writer, keptD] at h, kk⟩) hM)
/-- a store of a struct over a whole block, wherever it lies -/
theorem tA {t size bytes : Nat} {z : Value} [InfoT P t size bytes z] {x y : Operand} {b : Nat} {cs vs : List Value} {M1 : Mem}
    (ex : ev T x = some (.pointer (some ⟨b, 0, none⟩))) (ey : ev T y = some (.agg ⟨vs⟩)) (hf : vs.all flatV = true) (hM : Ext ((b, ⟨cs, true⟩) :: M1) M) (hl : cs.length = vs.length) (hs : vs.length = size)
    (kk : Run P n ops st Q l T ((b, ⟨vs, true⟩) :: M1)) : Run P n ops st Q ((⟨none, .store t x y, ty, pos, after, none⟩, false) :: l) T M := by
  exact run_step rfl (Step.ofExt (step_storeAgg (P := P) (M := (b, ⟨cs, true⟩) :: M1) (tl := t) (size := size) (k := ⟨cs, true⟩) (vs := vs) (cs := vs) 0 ex ey hf hs rfl rfl (by show Nat.ble (0 + size) cs.length = true; rw [hl, hs, Nat.zero_add]; simp) (by show cs.take 0 ++ vs ++ cs.drop (0 + size) = vs; rw [Nat.zero_add, ← hs, ← hl]; simp) ⟨fun _ _ h => by simp [keeps, writer, keptD] at h, kk⟩) hM)
end
end Go.Proofs.Ytkbpdgacfeachaa.Ab
