/-
  Walks: a frame cut in two; the law FnExactSplitFrame.
-/
import Derived.Test.YtfjancbmecfjgaaFr
import Derived.Test.YtfjancbmecfjgaaDb
namespace Go.Proofs.Ytfjancbmecfjgaa.Ab
open Go Go.RowKit
/-- a region may be the last of a function -/
theorem fineR {P : Program} {fn : Func} {R : Value → Mem → Prop} : Fine (Ret P fn R) := by
  intro T T' M g h
  obtain ⟨v, M0, e, hr, k⟩ := h
  exact ⟨v, M0, e, fun n tmps w0 B w ht hs => hr n tmps w0 B w (ht.agree g.symm) hs, k⟩
attribute [local irreducible] Run Then InBlock LoopQ LQ1 LQ2 LQ3 LQ4 LQ5 LQ6 AWp Ret ACall
set_option linter.unusedVariables false
set_option linter.unusedSimpArgs false

section
variable {P : Program} {n : Nat} {ops : Array Oper} {st : Option (List Nat)} {Q : Tm → Mem → Prop} {fl : Bool} {lo : List (Oper × Bool)} {T : Tm} {M : Mem} {d : Option Nat} {ty : Nat} {pos : String} {after : Array Edge}
theorem slHi {t e size bytes : Nat} {z : Value} [hu : UnderT P t (.slice e)] [hi : InfoT P e size bytes z] {x y2 : Operand} {a : Option Addr} {m c : Nat} {k2 : IntKind} {h : Int}
    (ex : ev T x = some (.slice a m c)) (eh : ev T y2 = some (.int k2 h)) (h0 : 0 ≤ h) (h2 : h ≤ c)
    (kk : Run P n ops st Q lo (putT n d (.slice (cut1 a c 0 size) h.toNat c) T) M) : Run P n ops st Q ((⟨d, .slice t x none (some y2) none, ty, pos, after, none⟩, fl) :: lo) T M :=
  slH ex (by rw [eh, Int.toNat_of_nonneg h0]) (by omega) kk
theorem slLi {t e size bytes : Nat} {z : Value} [hu : UnderT P t (.slice e)] [hi : InfoT P e size bytes z] {x y1 : Operand} {a : Option Addr} {m c : Nat} {k1 : IntKind} {l : Int}
    (ex : ev T x = some (.slice a m c)) (el : ev T y1 = some (.int k1 l)) (h0 : 0 ≤ l) (h1 : l ≤ m) (h2 : m ≤ c)
    (kk : Run P n ops st Q lo (putT n d (.slice (cut1 a c l.toNat size) (m - l.toNat) (c - l.toNat)) T) M) : Run P n ops st Q ((⟨d, .slice t x (some y1) none none, ty, pos, after, none⟩, fl) :: lo) T M :=
  slL ex (by rw [el, Int.toNat_of_nonneg h0]) (by omega) h2 kk
end
/-- two frames and a bool -/
def ResSS (B : Bool) (w d w' d' : Int) (xs ys : List Nat) (r : Value) (La Lb : Mem) : Prop :=
  ∃ v v', r = .tuple #[.agg #[.int .i64 (bif B then w else 0), .int .i64 (bif B then d else 0), v], .agg #[.int .i64 (bif B then w' else 0), .int .i64 (bif B then d' else 0), v'], .bool B] ∧ OwF La v (bif B then xs else []) ∧ OwF Lb v' (bif B then ys else [])
theorem ResSS.no {B : Bool} {w d w' d' : Int} {xs ys : List Nat} (h : B = false) : ResSS B w d w' d' xs ys (.tuple #[.agg #[.int .i64 0, .int .i64 0, .slice none 0 0], .agg #[.int .i64 0, .int .i64 0, .slice none 0 0], .bool false]) [] [] := by subst h; exact ⟨_, _, rfl, OwF.nil, OwF.nil⟩
theorem ResSS.yes {B : Bool} {w d w' d' : Int} {v v' : Value} {xs ys : List Nat} {La Lb : Mem} (h : B = true) (ho : OwF La v xs) (ho' : OwF Lb v' ys) : ResSS B w d w' d' xs ys (.tuple #[.agg #[.int .i64 w, .int .i64 d, v], .agg #[.int .i64 w', .int .i64 d', v'], .bool true]) La Lb := by subst h; exact ⟨_, _, rfl, ho, ho'⟩
def spB (w d : Int) (xs : List Nat) (at' : Int) : Bool := vfB w d xs && inB at' 1 ((xs.length : Int) - 1) && decide (d + at' ≤ 100000)
abbrev spA (xs : List Nat) (at' : Int) : List Nat := xs.take at'.toNat
abbrev spC (xs : List Nat) (at' : Int) : List Nat := (xs.drop at'.toNat).take (xs.length - at'.toNat)
theorem fnA_sub {xs ys : List Nat} (h : fnA xs = true) (hs : ∀ x ∈ ys, x ∈ xs) : fnA ys = true := by
  unfold fnA at *
  rw [Bool.not_eq_true', List.any_eq_false] at *
  exact fun x hx => h x (hs x hx)
theorem vf_second {w d at' : Int} {xs : List Nat} (h : vfB w d xs = true) (ha : 1 ≤ at' ∧ at' ≤ (xs.length : Int) - 1) : vfB w (d + at') (spC xs at') = decide (d + at' ≤ 100000) := by
  obtain ⟨h1, h2, h3, h4⟩ := vfB_iff.1 h
  have hl : (spC xs at').length = xs.length - at'.toNat := by simp
  have hf : fnA (spC xs at') = true := fnA_sub h4 fun x hx => List.mem_of_mem_drop (List.mem_of_mem_take hx)
  rw [Bool.eq_iff_iff, vfB_iff, decide_eq_true_eq, hl]
  constructor
  · rintro ⟨_, k, _⟩; exact k.2
  · intro k; exact ⟨h1, ⟨by omega, k⟩, by omega, hf⟩
end Go.Proofs.Ytfjancbmecfjgaa.Ab
