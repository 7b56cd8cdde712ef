/-
  The facts on types and functions of this translation that the abstract layer asks for, written by our program gen.py.
-/
import Derived.Test.YtkbpdgacfeachaaOc
import Derived.Test.YtkbpdgacfeachaaRows
import Derived.KernelRfl
namespace Go.Proofs.Ytkbpdgacfeachaa.Ab
open Go
theorem mkInfo {P : Program} {t size bytes : Nat} {z : Value} (h : (P.info? t).map (fun i => (i.size, i.bytes, i.zero)) = some (size, bytes, some z)) (hn : z.cells.toList.map nfS = z.cells.toList) (hs : z.cells.size = size) : InfoT P t size bytes z := by
  cases hi : P.info? t with
  | none => rw [hi] at h; cases h
  | some i => rw [hi] at h; simp at h; exact ⟨⟨i, hi, h.1, h.2.1, h.2.2⟩, hn, hs⟩
theorem mkFunc {P : Program} {f : Nat} {fn : Func} (h : P.funcs[f]? = some fn) (h1 : (fn.name == "runtime.NumGoroutine") = false) (h2 : fn.body.isNone = false) : FuncT P f := ⟨fn, h, h1, h2⟩
theorem mkField {P : Program} {t f off : Nat} (h : (match P.underlying t with | some (.struct fs) => (match fs[f]? with | some fd => (match P.info? fd.type with | some i => i.size != 0 && fd.offset == off | none => false) | none => false) | _ => false) = true) : FieldT P t f off := by
  split at h
  · rename_i fs hfs
    split at h
    · rename_i fd hfd
      split at h
      · rename_i i hi
        simp only [Bool.and_eq_true, bne_iff_ne, beq_iff_eq] at h
        exact ⟨fs, fd, hfs, hfd, h.2, i, hi, by simpa using h.1⟩
      · cases h
    · cases h
  · cases h
instance : PlainT Try.prog 1 := ⟨by kernel_rfl⟩
instance : InfoT Try.prog 1 1 8 (.nilFunc) := mkInfo (by kernel_rfl) (by kernel_rfl) (by kernel_rfl)
instance : UnderT Try.prog 2 (.int .i64) := ⟨by kernel_rfl⟩
instance : PlainT Try.prog 2 := ⟨by kernel_rfl⟩
instance : InfoT Try.prog 2 1 8 (.int .i64 0) := mkInfo (by kernel_rfl) (by kernel_rfl) (by kernel_rfl)
instance : UnderT Try.prog 3 (.int .i64) := ⟨by kernel_rfl⟩
instance : PlainT Try.prog 3 := ⟨by kernel_rfl⟩
instance : InfoT Try.prog 3 1 8 (.int .i64 0) := mkInfo (by kernel_rfl) (by kernel_rfl) (by kernel_rfl)
instance : UnderT Try.prog 4 .bool := ⟨by kernel_rfl⟩
instance : PlainT Try.prog 4 := ⟨by kernel_rfl⟩
instance : InfoT Try.prog 4 1 1 (.bool false) := mkInfo (by kernel_rfl) (by kernel_rfl) (by kernel_rfl)
instance : UnderT Try.prog 5 (.int .u8) := ⟨by kernel_rfl⟩
instance : PlainT Try.prog 5 := ⟨by kernel_rfl⟩
instance : InfoT Try.prog 5 1 1 (.int .u8 0) := mkInfo (by kernel_rfl) (by kernel_rfl) (by kernel_rfl)
instance : UnderT Try.prog 6 (.int .u8) := ⟨by kernel_rfl⟩
instance : PlainT Try.prog 6 := ⟨by kernel_rfl⟩
instance : InfoT Try.prog 6 1 1 (.int .u8 0) := mkInfo (by kernel_rfl) (by kernel_rfl) (by kernel_rfl)
instance : AggT Try.prog 7 := ⟨by kernel_rfl⟩
instance : InfoT Try.prog 7 4 24 (.agg #[.int .i64 0, .int .i64 0, .bool false, .int .u8 0]) := mkInfo (by kernel_rfl) (by kernel_rfl) (by kernel_rfl)
instance : FieldT Try.prog 7 0 0 := mkField (by kernel_rfl)
instance : FieldT Try.prog 7 1 1 := mkField (by kernel_rfl)
instance : FieldT Try.prog 7 2 2 := mkField (by kernel_rfl)
instance : FieldT Try.prog 7 3 3 := mkField (by kernel_rfl)
instance : AggT Try.prog 8 := ⟨by kernel_rfl⟩
instance : InfoT Try.prog 8 4 24 (.agg #[.int .i64 0, .int .i64 0, .bool false, .int .u8 0]) := mkInfo (by kernel_rfl) (by kernel_rfl) (by kernel_rfl)
instance : FieldT Try.prog 8 0 0 := mkField (by kernel_rfl)
instance : FieldT Try.prog 8 1 1 := mkField (by kernel_rfl)
instance : FieldT Try.prog 8 2 2 := mkField (by kernel_rfl)
instance : FieldT Try.prog 8 3 3 := mkField (by kernel_rfl)
instance : UnderT Try.prog 9 .string := ⟨by kernel_rfl⟩
instance : PlainT Try.prog 9 := ⟨by kernel_rfl⟩
instance : InfoT Try.prog 9 1 16 (.string ByteArray.empty) := mkInfo (by kernel_rfl) (by kernel_rfl) (by kernel_rfl)
instance : UnderT Try.prog 10 .string := ⟨by kernel_rfl⟩
instance : PlainT Try.prog 10 := ⟨by kernel_rfl⟩
instance : InfoT Try.prog 10 1 16 (.string ByteArray.empty) := mkInfo (by kernel_rfl) (by kernel_rfl) (by kernel_rfl)
instance : UnderT Try.prog 11 .string := ⟨by kernel_rfl⟩
instance : PlainT Try.prog 11 := ⟨by kernel_rfl⟩
instance : InfoT Try.prog 11 1 16 (.string ByteArray.empty) := mkInfo (by kernel_rfl) (by kernel_rfl) (by kernel_rfl)
instance : UnderT Try.prog 12 (.int .u64) := ⟨by kernel_rfl⟩
instance : PlainT Try.prog 12 := ⟨by kernel_rfl⟩
instance : InfoT Try.prog 12 1 8 (.int .u64 0) := mkInfo (by kernel_rfl) (by kernel_rfl) (by kernel_rfl)
instance : AggT Try.prog 13 := ⟨by kernel_rfl⟩
instance : InfoT Try.prog 13 2 24 (.agg #[.string ByteArray.empty, .int .u64 0]) := mkInfo (by kernel_rfl) (by kernel_rfl) (by kernel_rfl)
instance : FieldT Try.prog 13 0 0 := mkField (by kernel_rfl)
instance : FieldT Try.prog 13 1 1 := mkField (by kernel_rfl)
instance : AggT Try.prog 14 := ⟨by kernel_rfl⟩
instance : InfoT Try.prog 14 2 24 (.agg #[.string ByteArray.empty, .int .u64 0]) := mkInfo (by kernel_rfl) (by kernel_rfl) (by kernel_rfl)
instance : FieldT Try.prog 14 0 0 := mkField (by kernel_rfl)
instance : FieldT Try.prog 14 1 1 := mkField (by kernel_rfl)
instance : UnderT Try.prog 15 (.pointer 125) := ⟨by kernel_rfl⟩
instance : PlainT Try.prog 15 := ⟨by kernel_rfl⟩
instance : InfoT Try.prog 15 1 8 (.pointer none) := mkInfo (by kernel_rfl) (by kernel_rfl) (by kernel_rfl)
instance : UnderT Try.prog 16 (.pointer 128) := ⟨by kernel_rfl⟩
instance : PlainT Try.prog 16 := ⟨by kernel_rfl⟩
instance : InfoT Try.prog 16 1 8 (.pointer none) := mkInfo (by kernel_rfl) (by kernel_rfl) (by kernel_rfl)
instance : UnderT Try.prog 17 (.pointer 137) := ⟨by kernel_rfl⟩
instance : PlainT Try.prog 17 := ⟨by kernel_rfl⟩
instance : InfoT Try.prog 17 1 8 (.pointer none) := mkInfo (by kernel_rfl) (by kernel_rfl) (by kernel_rfl)
instance : AggT Try.prog 18 := ⟨by kernel_rfl⟩
instance : InfoT Try.prog 18 1 8 (.agg #[.pointer none]) := mkInfo (by kernel_rfl) (by kernel_rfl) (by kernel_rfl)
instance : FieldT Try.prog 18 0 0 := mkField (by kernel_rfl)
instance : AggT Try.prog 19 := ⟨by kernel_rfl⟩
instance : InfoT Try.prog 19 1 8 (.agg #[.pointer none]) := mkInfo (by kernel_rfl) (by kernel_rfl) (by kernel_rfl)
instance : FieldT Try.prog 19 0 0 := mkField (by kernel_rfl)
instance : PlainT Try.prog 20 := ⟨by kernel_rfl⟩
instance : UnderT Try.prog 21 (.int .i32) := ⟨by kernel_rfl⟩
instance : PlainT Try.prog 21 := ⟨by kernel_rfl⟩
instance : InfoT Try.prog 21 1 4 (.int .i32 0) := mkInfo (by kernel_rfl) (by kernel_rfl) (by kernel_rfl)
instance : UnderT Try.prog 22 (.slice 51) := ⟨by kernel_rfl⟩
instance : PlainT Try.prog 22 := ⟨by kernel_rfl⟩
instance : InfoT Try.prog 22 1 24 (.slice none 0 0) := mkInfo (by kernel_rfl) (by kernel_rfl) (by kernel_rfl)
instance : AggT Try.prog 23 := ⟨by kernel_rfl⟩
instance : InfoT Try.prog 23 3 40 (.agg #[.int .i64 0, .int .i64 0, .slice none 0 0]) := mkInfo (by kernel_rfl) (by kernel_rfl) (by kernel_rfl)
instance : Str3 Try.prog 23 := mkStr3 (by kernel_rfl)
instance : FieldT Try.prog 23 0 0 := mkField (by kernel_rfl)
instance : FieldT Try.prog 23 1 1 := mkField (by kernel_rfl)
instance : FieldT Try.prog 23 2 2 := mkField (by kernel_rfl)
instance : AggT Try.prog 24 := ⟨by kernel_rfl⟩
instance : InfoT Try.prog 24 3 40 (.agg #[.int .i64 0, .int .i64 0, .slice none 0 0]) := mkInfo (by kernel_rfl) (by kernel_rfl) (by kernel_rfl)
instance : Str3 Try.prog 24 := mkStr3 (by kernel_rfl)
instance : FieldT Try.prog 24 0 0 := mkField (by kernel_rfl)
instance : FieldT Try.prog 24 1 1 := mkField (by kernel_rfl)
instance : FieldT Try.prog 24 2 2 := mkField (by kernel_rfl)
instance : UnderT Try.prog 25 (.slice 59) := ⟨by kernel_rfl⟩
instance : PlainT Try.prog 25 := ⟨by kernel_rfl⟩
instance : InfoT Try.prog 25 1 24 (.slice none 0 0) := mkInfo (by kernel_rfl) (by kernel_rfl) (by kernel_rfl)
instance : PlainT Try.prog 26 := ⟨by kernel_rfl⟩
instance : InfoT Try.prog 26 1 8 (.nilFunc) := mkInfo (by kernel_rfl) (by kernel_rfl) (by kernel_rfl)
instance : PlainT Try.prog 27 := ⟨by kernel_rfl⟩
instance : InfoT Try.prog 27 1 8 (.nilFunc) := mkInfo (by kernel_rfl) (by kernel_rfl) (by kernel_rfl)
instance : PlainT Try.prog 29 := ⟨by kernel_rfl⟩
instance : InfoT Try.prog 29 1 8 (.nilFunc) := mkInfo (by kernel_rfl) (by kernel_rfl) (by kernel_rfl)
instance : AggT Try.prog 30 := ⟨by kernel_rfl⟩
instance : InfoT Try.prog 30 3 40 (.agg #[.int .i64 0, .int .i64 0, .slice none 0 0]) := mkInfo (by kernel_rfl) (by kernel_rfl) (by kernel_rfl)
instance : Str3 Try.prog 30 := mkStr3 (by kernel_rfl)
instance : FieldT Try.prog 30 0 0 := mkField (by kernel_rfl)
instance : FieldT Try.prog 30 1 1 := mkField (by kernel_rfl)
instance : FieldT Try.prog 30 2 2 := mkField (by kernel_rfl)
instance : PlainT Try.prog 31 := ⟨by kernel_rfl⟩
instance : InfoT Try.prog 31 1 8 (.nilFunc) := mkInfo (by kernel_rfl) (by kernel_rfl) (by kernel_rfl)
instance : UnderT Try.prog 32 (.slice 56) := ⟨by kernel_rfl⟩
instance : PlainT Try.prog 32 := ⟨by kernel_rfl⟩
instance : InfoT Try.prog 32 1 24 (.slice none 0 0) := mkInfo (by kernel_rfl) (by kernel_rfl) (by kernel_rfl)
instance : PlainT Try.prog 33 := ⟨by kernel_rfl⟩
instance : InfoT Try.prog 33 1 8 (.nilFunc) := mkInfo (by kernel_rfl) (by kernel_rfl) (by kernel_rfl)
instance : PlainT Try.prog 34 := ⟨by kernel_rfl⟩
instance : InfoT Try.prog 34 1 8 (.nilFunc) := mkInfo (by kernel_rfl) (by kernel_rfl) (by kernel_rfl)
instance : PlainT Try.prog 35 := ⟨by kernel_rfl⟩
instance : InfoT Try.prog 35 1 8 (.nilFunc) := mkInfo (by kernel_rfl) (by kernel_rfl) (by kernel_rfl)
instance : PlainT Try.prog 36 := ⟨by kernel_rfl⟩
instance : InfoT Try.prog 36 1 8 (.nilFunc) := mkInfo (by kernel_rfl) (by kernel_rfl) (by kernel_rfl)
instance : PlainT Try.prog 37 := ⟨by kernel_rfl⟩
instance : InfoT Try.prog 37 1 8 (.nilFunc) := mkInfo (by kernel_rfl) (by kernel_rfl) (by kernel_rfl)
instance : PlainT Try.prog 38 := ⟨by kernel_rfl⟩
instance : InfoT Try.prog 38 1 8 (.nilFunc) := mkInfo (by kernel_rfl) (by kernel_rfl) (by kernel_rfl)
instance : PlainT Try.prog 39 := ⟨by kernel_rfl⟩
instance : InfoT Try.prog 39 1 8 (.nilFunc) := mkInfo (by kernel_rfl) (by kernel_rfl) (by kernel_rfl)
instance : PlainT Try.prog 40 := ⟨by kernel_rfl⟩
instance : InfoT Try.prog 40 1 8 (.nilFunc) := mkInfo (by kernel_rfl) (by kernel_rfl) (by kernel_rfl)
instance : UnderT Try.prog 41 (.slice 2) := ⟨by kernel_rfl⟩
instance : PlainT Try.prog 41 := ⟨by kernel_rfl⟩
instance : InfoT Try.prog 41 1 24 (.slice none 0 0) := mkInfo (by kernel_rfl) (by kernel_rfl) (by kernel_rfl)
instance : PlainT Try.prog 43 := ⟨by kernel_rfl⟩
instance : InfoT Try.prog 43 1 8 (.nilFunc) := mkInfo (by kernel_rfl) (by kernel_rfl) (by kernel_rfl)
instance : PlainT Try.prog 44 := ⟨by kernel_rfl⟩
instance : InfoT Try.prog 44 1 8 (.nilFunc) := mkInfo (by kernel_rfl) (by kernel_rfl) (by kernel_rfl)
instance : PlainT Try.prog 45 := ⟨by kernel_rfl⟩
instance : InfoT Try.prog 45 1 8 (.nilFunc) := mkInfo (by kernel_rfl) (by kernel_rfl) (by kernel_rfl)
instance : PlainT Try.prog 46 := ⟨by kernel_rfl⟩
instance : InfoT Try.prog 46 1 8 (.nilFunc) := mkInfo (by kernel_rfl) (by kernel_rfl) (by kernel_rfl)
instance : PlainT Try.prog 47 := ⟨by kernel_rfl⟩
instance : InfoT Try.prog 47 1 8 (.nilFunc) := mkInfo (by kernel_rfl) (by kernel_rfl) (by kernel_rfl)
instance : UnderT Try.prog 48 (.pointer 30) := ⟨by kernel_rfl⟩
instance : PlainT Try.prog 48 := ⟨by kernel_rfl⟩
instance : InfoT Try.prog 48 1 8 (.pointer none) := mkInfo (by kernel_rfl) (by kernel_rfl) (by kernel_rfl)
instance : PlainT Try.prog 49 := ⟨by kernel_rfl⟩
instance : InfoT Try.prog 49 1 8 (.nilFunc) := mkInfo (by kernel_rfl) (by kernel_rfl) (by kernel_rfl)
instance : PlainT Try.prog 50 := ⟨by kernel_rfl⟩
instance : InfoT Try.prog 50 1 8 (.nilFunc) := mkInfo (by kernel_rfl) (by kernel_rfl) (by kernel_rfl)
instance : UnderT Try.prog 51 (.float .f32) := ⟨by kernel_rfl⟩
instance : PlainT Try.prog 51 := ⟨by kernel_rfl⟩
instance : InfoT Try.prog 51 1 4 (.float .f32 0) := mkInfo (by kernel_rfl) (by kernel_rfl) (by kernel_rfl)
instance : PlainT Try.prog 52 := ⟨by kernel_rfl⟩
instance : InfoT Try.prog 52 1 8 (.nilFunc) := mkInfo (by kernel_rfl) (by kernel_rfl) (by kernel_rfl)
instance : PlainT Try.prog 53 := ⟨by kernel_rfl⟩
instance : InfoT Try.prog 53 1 8 (.nilFunc) := mkInfo (by kernel_rfl) (by kernel_rfl) (by kernel_rfl)
instance : UnderT Try.prog 54 (.pointer 56) := ⟨by kernel_rfl⟩
instance : PlainT Try.prog 54 := ⟨by kernel_rfl⟩
instance : InfoT Try.prog 54 1 8 (.pointer none) := mkInfo (by kernel_rfl) (by kernel_rfl) (by kernel_rfl)
instance : AggT Try.prog 55 := ⟨by kernel_rfl⟩
instance : InfoT Try.prog 55 4 16 (.agg #[.float .f32 0, .float .f32 0, .float .f32 0, .float .f32 0]) := mkInfo (by kernel_rfl) (by kernel_rfl) (by kernel_rfl)
instance : FieldT Try.prog 55 0 0 := mkField (by kernel_rfl)
instance : FieldT Try.prog 55 1 1 := mkField (by kernel_rfl)
instance : FieldT Try.prog 55 2 2 := mkField (by kernel_rfl)
instance : FieldT Try.prog 55 3 3 := mkField (by kernel_rfl)
instance : AggT Try.prog 56 := ⟨by kernel_rfl⟩
instance : InfoT Try.prog 56 4 16 (.agg #[.float .f32 0, .float .f32 0, .float .f32 0, .float .f32 0]) := mkInfo (by kernel_rfl) (by kernel_rfl) (by kernel_rfl)
instance : FieldT Try.prog 56 0 0 := mkField (by kernel_rfl)
instance : FieldT Try.prog 56 1 1 := mkField (by kernel_rfl)
instance : FieldT Try.prog 56 2 2 := mkField (by kernel_rfl)
instance : FieldT Try.prog 56 3 3 := mkField (by kernel_rfl)
instance : PlainT Try.prog 57 := ⟨by kernel_rfl⟩
instance : InfoT Try.prog 57 1 8 (.nilFunc) := mkInfo (by kernel_rfl) (by kernel_rfl) (by kernel_rfl)
instance : PlainT Try.prog 58 := ⟨by kernel_rfl⟩
instance : InfoT Try.prog 58 1 8 (.nilFunc) := mkInfo (by kernel_rfl) (by kernel_rfl) (by kernel_rfl)
instance : AggT Try.prog 59 := ⟨by kernel_rfl⟩
instance : InfoT Try.prog 59 4 16 (.agg #[.float .f32 0, .float .f32 0, .float .f32 0, .float .f32 0]) := mkInfo (by kernel_rfl) (by kernel_rfl) (by kernel_rfl)
instance : FieldT Try.prog 59 0 0 := mkField (by kernel_rfl)
instance : FieldT Try.prog 59 1 1 := mkField (by kernel_rfl)
instance : FieldT Try.prog 59 2 2 := mkField (by kernel_rfl)
instance : FieldT Try.prog 59 3 3 := mkField (by kernel_rfl)
instance : PlainT Try.prog 60 := ⟨by kernel_rfl⟩
instance : InfoT Try.prog 60 1 8 (.nilFunc) := mkInfo (by kernel_rfl) (by kernel_rfl) (by kernel_rfl)
instance : PlainT Try.prog 61 := ⟨by kernel_rfl⟩
instance : InfoT Try.prog 61 1 8 (.nilFunc) := mkInfo (by kernel_rfl) (by kernel_rfl) (by kernel_rfl)
instance : PlainT Try.prog 62 := ⟨by kernel_rfl⟩
instance : InfoT Try.prog 62 1 8 (.nilFunc) := mkInfo (by kernel_rfl) (by kernel_rfl) (by kernel_rfl)
instance : PlainT Try.prog 63 := ⟨by kernel_rfl⟩
instance : InfoT Try.prog 63 1 8 (.nilFunc) := mkInfo (by kernel_rfl) (by kernel_rfl) (by kernel_rfl)
instance : PlainT Try.prog 64 := ⟨by kernel_rfl⟩
instance : InfoT Try.prog 64 1 8 (.nilFunc) := mkInfo (by kernel_rfl) (by kernel_rfl) (by kernel_rfl)
instance : UnderT Try.prog 65 (.float .f64) := ⟨by kernel_rfl⟩
instance : PlainT Try.prog 65 := ⟨by kernel_rfl⟩
instance : InfoT Try.prog 65 1 8 (.float .f64 0) := mkInfo (by kernel_rfl) (by kernel_rfl) (by kernel_rfl)
instance : PlainT Try.prog 66 := ⟨by kernel_rfl⟩
instance : InfoT Try.prog 66 1 8 (.nilFunc) := mkInfo (by kernel_rfl) (by kernel_rfl) (by kernel_rfl)
instance : PlainT Try.prog 67 := ⟨by kernel_rfl⟩
instance : InfoT Try.prog 67 1 8 (.nilFunc) := mkInfo (by kernel_rfl) (by kernel_rfl) (by kernel_rfl)
instance : UnderT Try.prog 68 (.slice 4) := ⟨by kernel_rfl⟩
instance : PlainT Try.prog 68 := ⟨by kernel_rfl⟩
instance : InfoT Try.prog 68 1 24 (.slice none 0 0) := mkInfo (by kernel_rfl) (by kernel_rfl) (by kernel_rfl)
instance : PlainT Try.prog 69 := ⟨by kernel_rfl⟩
instance : InfoT Try.prog 69 1 8 (.nilFunc) := mkInfo (by kernel_rfl) (by kernel_rfl) (by kernel_rfl)
instance : PlainT Try.prog 71 := ⟨by kernel_rfl⟩
instance : InfoT Try.prog 71 1 8 (.nilFunc) := mkInfo (by kernel_rfl) (by kernel_rfl) (by kernel_rfl)
instance : PlainT Try.prog 72 := ⟨by kernel_rfl⟩
instance : InfoT Try.prog 72 1 8 (.nilFunc) := mkInfo (by kernel_rfl) (by kernel_rfl) (by kernel_rfl)
instance : PlainT Try.prog 73 := ⟨by kernel_rfl⟩
instance : InfoT Try.prog 73 1 8 (.nilFunc) := mkInfo (by kernel_rfl) (by kernel_rfl) (by kernel_rfl)
instance : PlainT Try.prog 74 := ⟨by kernel_rfl⟩
instance : InfoT Try.prog 74 1 8 (.nilFunc) := mkInfo (by kernel_rfl) (by kernel_rfl) (by kernel_rfl)
instance : PlainT Try.prog 75 := ⟨by kernel_rfl⟩
instance : InfoT Try.prog 75 1 8 (.nilFunc) := mkInfo (by kernel_rfl) (by kernel_rfl) (by kernel_rfl)
instance : PlainT Try.prog 76 := ⟨by kernel_rfl⟩
instance : InfoT Try.prog 76 1 8 (.nilFunc) := mkInfo (by kernel_rfl) (by kernel_rfl) (by kernel_rfl)
instance : PlainT Try.prog 77 := ⟨by kernel_rfl⟩
instance : InfoT Try.prog 77 1 8 (.nilFunc) := mkInfo (by kernel_rfl) (by kernel_rfl) (by kernel_rfl)
instance : PlainT Try.prog 78 := ⟨by kernel_rfl⟩
instance : InfoT Try.prog 78 1 8 (.nilFunc) := mkInfo (by kernel_rfl) (by kernel_rfl) (by kernel_rfl)
instance : PlainT Try.prog 79 := ⟨by kernel_rfl⟩
instance : InfoT Try.prog 79 1 8 (.nilFunc) := mkInfo (by kernel_rfl) (by kernel_rfl) (by kernel_rfl)
instance : PlainT Try.prog 80 := ⟨by kernel_rfl⟩
instance : InfoT Try.prog 80 1 8 (.nilFunc) := mkInfo (by kernel_rfl) (by kernel_rfl) (by kernel_rfl)
instance : PlainT Try.prog 81 := ⟨by kernel_rfl⟩
instance : InfoT Try.prog 81 1 8 (.nilFunc) := mkInfo (by kernel_rfl) (by kernel_rfl) (by kernel_rfl)
instance : PlainT Try.prog 82 := ⟨by kernel_rfl⟩
instance : InfoT Try.prog 82 1 8 (.nilFunc) := mkInfo (by kernel_rfl) (by kernel_rfl) (by kernel_rfl)
instance : PlainT Try.prog 83 := ⟨by kernel_rfl⟩
instance : InfoT Try.prog 83 1 8 (.nilFunc) := mkInfo (by kernel_rfl) (by kernel_rfl) (by kernel_rfl)
instance : PlainT Try.prog 84 := ⟨by kernel_rfl⟩
instance : InfoT Try.prog 84 1 8 (.nilFunc) := mkInfo (by kernel_rfl) (by kernel_rfl) (by kernel_rfl)
instance : PlainT Try.prog 85 := ⟨by kernel_rfl⟩
instance : InfoT Try.prog 85 1 8 (.nilFunc) := mkInfo (by kernel_rfl) (by kernel_rfl) (by kernel_rfl)
instance : PlainT Try.prog 86 := ⟨by kernel_rfl⟩
instance : InfoT Try.prog 86 1 8 (.nilFunc) := mkInfo (by kernel_rfl) (by kernel_rfl) (by kernel_rfl)
instance : PlainT Try.prog 87 := ⟨by kernel_rfl⟩
instance : InfoT Try.prog 87 1 8 (.nilFunc) := mkInfo (by kernel_rfl) (by kernel_rfl) (by kernel_rfl)
instance : PlainT Try.prog 88 := ⟨by kernel_rfl⟩
instance : InfoT Try.prog 88 1 8 (.nilFunc) := mkInfo (by kernel_rfl) (by kernel_rfl) (by kernel_rfl)
instance : PlainT Try.prog 89 := ⟨by kernel_rfl⟩
instance : InfoT Try.prog 89 1 8 (.nilFunc) := mkInfo (by kernel_rfl) (by kernel_rfl) (by kernel_rfl)
instance : PlainT Try.prog 90 := ⟨by kernel_rfl⟩
instance : InfoT Try.prog 90 1 8 (.nilFunc) := mkInfo (by kernel_rfl) (by kernel_rfl) (by kernel_rfl)
instance : PlainT Try.prog 91 := ⟨by kernel_rfl⟩
instance : InfoT Try.prog 91 1 8 (.nilFunc) := mkInfo (by kernel_rfl) (by kernel_rfl) (by kernel_rfl)
instance : PlainT Try.prog 92 := ⟨by kernel_rfl⟩
instance : InfoT Try.prog 92 1 8 (.nilFunc) := mkInfo (by kernel_rfl) (by kernel_rfl) (by kernel_rfl)
instance : UnderT Try.prog 93 (.int .u64) := ⟨by kernel_rfl⟩
instance : PlainT Try.prog 93 := ⟨by kernel_rfl⟩
instance : InfoT Try.prog 93 1 8 (.int .u64 0) := mkInfo (by kernel_rfl) (by kernel_rfl) (by kernel_rfl)
instance : PlainT Try.prog 94 := ⟨by kernel_rfl⟩
instance : InfoT Try.prog 94 1 8 (.nilFunc) := mkInfo (by kernel_rfl) (by kernel_rfl) (by kernel_rfl)
instance : PlainT Try.prog 95 := ⟨by kernel_rfl⟩
instance : InfoT Try.prog 95 1 8 (.nilFunc) := mkInfo (by kernel_rfl) (by kernel_rfl) (by kernel_rfl)
instance : PlainT Try.prog 96 := ⟨by kernel_rfl⟩
instance : InfoT Try.prog 96 1 8 (.nilFunc) := mkInfo (by kernel_rfl) (by kernel_rfl) (by kernel_rfl)
instance : PlainT Try.prog 98 := ⟨by kernel_rfl⟩
instance : InfoT Try.prog 98 1 8 (.nilFunc) := mkInfo (by kernel_rfl) (by kernel_rfl) (by kernel_rfl)
instance : PlainT Try.prog 99 := ⟨by kernel_rfl⟩
instance : InfoT Try.prog 99 1 8 (.nilFunc) := mkInfo (by kernel_rfl) (by kernel_rfl) (by kernel_rfl)
instance : UnderT Try.prog 100 (.int .i64) := ⟨by kernel_rfl⟩
instance : PlainT Try.prog 100 := ⟨by kernel_rfl⟩
instance : InfoT Try.prog 100 1 8 (.int .i64 0) := mkInfo (by kernel_rfl) (by kernel_rfl) (by kernel_rfl)
instance : PlainT Try.prog 102 := ⟨by kernel_rfl⟩
instance : InfoT Try.prog 102 1 8 (.nilFunc) := mkInfo (by kernel_rfl) (by kernel_rfl) (by kernel_rfl)
instance : PlainT Try.prog 103 := ⟨by kernel_rfl⟩
instance : InfoT Try.prog 103 1 8 (.nilFunc) := mkInfo (by kernel_rfl) (by kernel_rfl) (by kernel_rfl)
instance : PlainT Try.prog 104 := ⟨by kernel_rfl⟩
instance : InfoT Try.prog 104 1 8 (.nilFunc) := mkInfo (by kernel_rfl) (by kernel_rfl) (by kernel_rfl)
instance : PlainT Try.prog 106 := ⟨by kernel_rfl⟩
instance : InfoT Try.prog 106 1 8 (.nilFunc) := mkInfo (by kernel_rfl) (by kernel_rfl) (by kernel_rfl)
instance : PlainT Try.prog 107 := ⟨by kernel_rfl⟩
instance : InfoT Try.prog 107 1 8 (.nilFunc) := mkInfo (by kernel_rfl) (by kernel_rfl) (by kernel_rfl)
instance : UnderT Try.prog 108 (.int .u32) := ⟨by kernel_rfl⟩
instance : PlainT Try.prog 108 := ⟨by kernel_rfl⟩
instance : InfoT Try.prog 108 1 4 (.int .u32 0) := mkInfo (by kernel_rfl) (by kernel_rfl) (by kernel_rfl)
instance : PlainT Try.prog 109 := ⟨by kernel_rfl⟩
instance : InfoT Try.prog 109 1 8 (.nilFunc) := mkInfo (by kernel_rfl) (by kernel_rfl) (by kernel_rfl)
instance : UnderT Try.prog 110 (.int .u64) := ⟨by kernel_rfl⟩
instance : PlainT Try.prog 110 := ⟨by kernel_rfl⟩
instance : InfoT Try.prog 110 1 8 (.int .u64 0) := mkInfo (by kernel_rfl) (by kernel_rfl) (by kernel_rfl)
instance : PlainT Try.prog 111 := ⟨by kernel_rfl⟩
instance : InfoT Try.prog 111 1 8 (.nilFunc) := mkInfo (by kernel_rfl) (by kernel_rfl) (by kernel_rfl)
instance : UnderT Try.prog 112 (.int .u64) := ⟨by kernel_rfl⟩
instance : PlainT Try.prog 112 := ⟨by kernel_rfl⟩
instance : InfoT Try.prog 112 1 8 (.int .u64 0) := mkInfo (by kernel_rfl) (by kernel_rfl) (by kernel_rfl)
instance : PlainT Try.prog 113 := ⟨by kernel_rfl⟩
instance : InfoT Try.prog 113 1 8 (.nilFunc) := mkInfo (by kernel_rfl) (by kernel_rfl) (by kernel_rfl)
instance : PlainT Try.prog 114 := ⟨by kernel_rfl⟩
instance : InfoT Try.prog 114 1 8 (.nilFunc) := mkInfo (by kernel_rfl) (by kernel_rfl) (by kernel_rfl)
instance : PlainT Try.prog 115 := ⟨by kernel_rfl⟩
instance : InfoT Try.prog 115 1 8 (.nilFunc) := mkInfo (by kernel_rfl) (by kernel_rfl) (by kernel_rfl)
instance : UnderT Try.prog 116 (.pointer 3) := ⟨by kernel_rfl⟩
instance : PlainT Try.prog 116 := ⟨by kernel_rfl⟩
instance : InfoT Try.prog 116 1 8 (.pointer none) := mkInfo (by kernel_rfl) (by kernel_rfl) (by kernel_rfl)
instance : PlainT Try.prog 117 := ⟨by kernel_rfl⟩
instance : InfoT Try.prog 117 1 8 (.nilFunc) := mkInfo (by kernel_rfl) (by kernel_rfl) (by kernel_rfl)
instance : PlainT Try.prog 118 := ⟨by kernel_rfl⟩
instance : InfoT Try.prog 118 1 8 (.nilFunc) := mkInfo (by kernel_rfl) (by kernel_rfl) (by kernel_rfl)
instance : PlainT Try.prog 119 := ⟨by kernel_rfl⟩
instance : InfoT Try.prog 119 1 8 (.nilFunc) := mkInfo (by kernel_rfl) (by kernel_rfl) (by kernel_rfl)
instance : UnderT Try.prog 120 (.pointer 112) := ⟨by kernel_rfl⟩
instance : PlainT Try.prog 120 := ⟨by kernel_rfl⟩
instance : InfoT Try.prog 120 1 8 (.pointer none) := mkInfo (by kernel_rfl) (by kernel_rfl) (by kernel_rfl)
instance : PlainT Try.prog 122 := ⟨by kernel_rfl⟩
instance : InfoT Try.prog 122 1 8 (.nilFunc) := mkInfo (by kernel_rfl) (by kernel_rfl) (by kernel_rfl)
instance : PlainT Try.prog 123 := ⟨by kernel_rfl⟩
instance : InfoT Try.prog 123 1 8 (.nilFunc) := mkInfo (by kernel_rfl) (by kernel_rfl) (by kernel_rfl)
instance : AggT Try.prog 124 := ⟨by kernel_rfl⟩
instance : InfoT Try.prog 124 4 40 (.agg #[.pointer none, .pointer none, .pointer none, .string ByteArray.empty]) := mkInfo (by kernel_rfl) (by kernel_rfl) (by kernel_rfl)
instance : FieldT Try.prog 124 0 0 := mkField (by kernel_rfl)
instance : FieldT Try.prog 124 1 1 := mkField (by kernel_rfl)
instance : FieldT Try.prog 124 2 2 := mkField (by kernel_rfl)
instance : FieldT Try.prog 124 3 3 := mkField (by kernel_rfl)
instance : AggT Try.prog 125 := ⟨by kernel_rfl⟩
instance : InfoT Try.prog 125 4 40 (.agg #[.pointer none, .pointer none, .pointer none, .string ByteArray.empty]) := mkInfo (by kernel_rfl) (by kernel_rfl) (by kernel_rfl)
instance : FieldT Try.prog 125 0 0 := mkField (by kernel_rfl)
instance : FieldT Try.prog 125 1 1 := mkField (by kernel_rfl)
instance : FieldT Try.prog 125 2 2 := mkField (by kernel_rfl)
instance : FieldT Try.prog 125 3 3 := mkField (by kernel_rfl)
instance : AggT Try.prog 126 := ⟨by kernel_rfl⟩
instance : AggT Try.prog 127 := ⟨by kernel_rfl⟩
instance : ZeroT Try.prog 127 := ⟨by kernel_rfl⟩
instance : AggT Try.prog 128 := ⟨by kernel_rfl⟩
instance : ZeroT Try.prog 128 := ⟨by kernel_rfl⟩
instance : PlainT Try.prog 129 := ⟨by kernel_rfl⟩
instance : InfoT Try.prog 129 1 8 (.nilFunc) := mkInfo (by kernel_rfl) (by kernel_rfl) (by kernel_rfl)
instance : UnderT Try.prog 130 (.int .u8) := ⟨by kernel_rfl⟩
instance : PlainT Try.prog 130 := ⟨by kernel_rfl⟩
instance : InfoT Try.prog 130 1 1 (.int .u8 0) := mkInfo (by kernel_rfl) (by kernel_rfl) (by kernel_rfl)
instance : UnderT Try.prog 131 (.int .u8) := ⟨by kernel_rfl⟩
instance : PlainT Try.prog 131 := ⟨by kernel_rfl⟩
instance : InfoT Try.prog 131 1 1 (.int .u8 0) := mkInfo (by kernel_rfl) (by kernel_rfl) (by kernel_rfl)
instance : PlainT Try.prog 132 := ⟨by kernel_rfl⟩
instance : InfoT Try.prog 132 1 8 (.nilFunc) := mkInfo (by kernel_rfl) (by kernel_rfl) (by kernel_rfl)
instance : UnderT Try.prog 133 (.pointer 5) := ⟨by kernel_rfl⟩
instance : PlainT Try.prog 133 := ⟨by kernel_rfl⟩
instance : InfoT Try.prog 133 1 8 (.pointer none) := mkInfo (by kernel_rfl) (by kernel_rfl) (by kernel_rfl)
instance : UnderT Try.prog 134 (.int .i32) := ⟨by kernel_rfl⟩
instance : PlainT Try.prog 134 := ⟨by kernel_rfl⟩
instance : InfoT Try.prog 134 1 4 (.int .i32 0) := mkInfo (by kernel_rfl) (by kernel_rfl) (by kernel_rfl)
instance : UnderT Try.prog 135 (.int .i32) := ⟨by kernel_rfl⟩
instance : PlainT Try.prog 135 := ⟨by kernel_rfl⟩
instance : InfoT Try.prog 135 1 4 (.int .i32 0) := mkInfo (by kernel_rfl) (by kernel_rfl) (by kernel_rfl)
instance : AggT Try.prog 136 := ⟨by kernel_rfl⟩
instance : InfoT Try.prog 136 11 48 (.agg #[.int .u64 0, .int .u64 0, .int .u32 0, .int .u8 0, .int .u8 0, .int .u8 0, .int .u8 0, .nilFunc, .pointer none, .int .i32 0, .int .i32 0]) := mkInfo (by kernel_rfl) (by kernel_rfl) (by kernel_rfl)
instance : FieldT Try.prog 136 0 0 := mkField (by kernel_rfl)
instance : FieldT Try.prog 136 1 1 := mkField (by kernel_rfl)
instance : FieldT Try.prog 136 2 2 := mkField (by kernel_rfl)
instance : FieldT Try.prog 136 3 3 := mkField (by kernel_rfl)
instance : FieldT Try.prog 136 4 4 := mkField (by kernel_rfl)
instance : FieldT Try.prog 136 5 5 := mkField (by kernel_rfl)
instance : FieldT Try.prog 136 6 6 := mkField (by kernel_rfl)
instance : FieldT Try.prog 136 7 7 := mkField (by kernel_rfl)
instance : FieldT Try.prog 136 8 8 := mkField (by kernel_rfl)
instance : FieldT Try.prog 136 9 9 := mkField (by kernel_rfl)
instance : FieldT Try.prog 136 10 10 := mkField (by kernel_rfl)
instance : AggT Try.prog 137 := ⟨by kernel_rfl⟩
instance : InfoT Try.prog 137 11 48 (.agg #[.int .u64 0, .int .u64 0, .int .u32 0, .int .u8 0, .int .u8 0, .int .u8 0, .int .u8 0, .nilFunc, .pointer none, .int .i32 0, .int .i32 0]) := mkInfo (by kernel_rfl) (by kernel_rfl) (by kernel_rfl)
instance : FieldT Try.prog 137 0 0 := mkField (by kernel_rfl)
instance : FieldT Try.prog 137 1 1 := mkField (by kernel_rfl)
instance : FieldT Try.prog 137 2 2 := mkField (by kernel_rfl)
instance : FieldT Try.prog 137 3 3 := mkField (by kernel_rfl)
instance : FieldT Try.prog 137 4 4 := mkField (by kernel_rfl)
instance : FieldT Try.prog 137 5 5 := mkField (by kernel_rfl)
instance : FieldT Try.prog 137 6 6 := mkField (by kernel_rfl)
instance : FieldT Try.prog 137 7 7 := mkField (by kernel_rfl)
instance : FieldT Try.prog 137 8 8 := mkField (by kernel_rfl)
instance : FieldT Try.prog 137 9 9 := mkField (by kernel_rfl)
instance : FieldT Try.prog 137 10 10 := mkField (by kernel_rfl)
instance : PlainT Try.prog 138 := ⟨by kernel_rfl⟩
instance : InfoT Try.prog 138 1 8 (.nilFunc) := mkInfo (by kernel_rfl) (by kernel_rfl) (by kernel_rfl)
instance : ExtT Try.prog 64 (Extern.MathFloor.toIntegral "math.archFloor" .down) := mkExt Try.func64 (by kernel_rfl) (by kernel_rfl) (by kernel_rfl) (by kernel_rfl)
instance : ExtT Try.prog 69 Extern.MathSqrt.sqrt := mkExt Try.func69 (by kernel_rfl) (by kernel_rfl) (by kernel_rfl) (by kernel_rfl)
instance : ExtT Try.prog 94 Extern.MathFloatBits.float64frombits := mkExt Try.func94 (by kernel_rfl) (by kernel_rfl) (by kernel_rfl) (by kernel_rfl)
instance : ExtT Try.prog 95 Extern.MathFloatBits.float64bits := mkExt Try.func95 (by kernel_rfl) (by kernel_rfl) (by kernel_rfl) (by kernel_rfl)
instance : ExtT Try.prog 96 (Extern.MathFloor.toIntegral "math.archTrunc" .zero) := mkExt Try.func96 (by kernel_rfl) (by kernel_rfl) (by kernel_rfl) (by kernel_rfl)
-- 3 loop.example/g01231/laws.FnExactTimesAlong
instance : FuncT Try.prog 3 := mkFunc Try.func3 (by kernel_rfl) (by kernel_rfl)
-- 4 loop.example/g01231/laws.FnExactHitsOf
instance : FuncT Try.prog 4 := mkFunc Try.func4 (by kernel_rfl) (by kernel_rfl)
-- 5 loop.example/g01231/laws.szSection
instance : FuncT Try.prog 5 := mkFunc Try.func5 (by kernel_rfl) (by kernel_rfl)
-- 6 loop.example/g01231/laws.szPathS
instance : FuncT Try.prog 6 := mkFunc Try.func6 (by kernel_rfl) (by kernel_rfl)
-- 7 loop.example/g01231/spec.TimesAlong
instance : FuncT Try.prog 7 := mkFunc Try.func7 (by kernel_rfl) (by kernel_rfl)
-- 8 loop.example/g01231/laws.toSection
instance : FuncT Try.prog 8 := mkFunc Try.func8 (by kernel_rfl) (by kernel_rfl)
-- 9 loop.example/g01231/laws.toPathS
instance : FuncT Try.prog 9 := mkFunc Try.func9 (by kernel_rfl) (by kernel_rfl)
-- 10 loop.example/g01231/impl.TimesAlong
instance : FuncT Try.prog 10 := mkFunc Try.func10 (by kernel_rfl) (by kernel_rfl)
-- 11 loop.example/g01231/laws.eqFloat32S
instance : FuncT Try.prog 11 := mkFunc Try.func11 (by kernel_rfl) (by kernel_rfl)
-- 12 loop.example/g01231/laws.eqSection
instance : FuncT Try.prog 12 := mkFunc Try.func12 (by kernel_rfl) (by kernel_rfl)
-- 13 loop.example/g01231/laws.eqPathS
instance : FuncT Try.prog 13 := mkFunc Try.func13 (by kernel_rfl) (by kernel_rfl)
-- 14 loop.example/g01231/laws.markSection
instance : FuncT Try.prog 14 := mkFunc Try.func14 (by kernel_rfl) (by kernel_rfl)
-- 15 loop.example/g01231/laws.markPathS
instance : FuncT Try.prog 15 := mkFunc Try.func15 (by kernel_rfl) (by kernel_rfl)
-- 16 loop.example/g01231/laws.markFloat32S
instance : FuncT Try.prog 16 := mkFunc Try.func16 (by kernel_rfl) (by kernel_rfl)
-- 17 loop.example/g01231/laws.heldFloat32S
instance : FuncT Try.prog 17 := mkFunc Try.func17 (by kernel_rfl) (by kernel_rfl)
-- 18 loop.example/g01231/spec.HitsOf
instance : FuncT Try.prog 18 := mkFunc Try.func18 (by kernel_rfl) (by kernel_rfl)
-- 19 loop.example/g01231/impl.HitsOf
instance : FuncT Try.prog 19 := mkFunc Try.func19 (by kernel_rfl) (by kernel_rfl)
-- 20 loop.example/g01231/laws.eqInt64S
instance : FuncT Try.prog 20 := mkFunc Try.func20 (by kernel_rfl) (by kernel_rfl)
-- 21 loop.example/g01231/laws.markInt64S
instance : FuncT Try.prog 21 := mkFunc Try.func21 (by kernel_rfl) (by kernel_rfl)
-- 22 loop.example/g01231/laws.heldInt64S
instance : FuncT Try.prog 22 := mkFunc Try.func22 (by kernel_rfl) (by kernel_rfl)
-- 23 loop.example/g01231/laws.szFloat32S
instance : FuncT Try.prog 23 := mkFunc Try.func23 (by kernel_rfl) (by kernel_rfl)
-- 24 loop.example/g01231/spec.l06Is
instance : FuncT Try.prog 24 := mkFunc Try.func24 (by kernel_rfl) (by kernel_rfl)
-- 25 loop.example/g01231/spec.l06Paths
instance : FuncT Try.prog 25 := mkFunc Try.func25 (by kernel_rfl) (by kernel_rfl)
-- 26 loop.example/g01231/spec.l06Parts
instance : FuncT Try.prog 26 := mkFunc Try.func26 (by kernel_rfl) (by kernel_rfl)
-- 27 loop.example/g01231/spec.l06Time
instance : FuncT Try.prog 27 := mkFunc Try.func27 (by kernel_rfl) (by kernel_rfl)
-- 28 loop.example/g01231/spec.l06Lengths
instance : FuncT Try.prog 28 := mkFunc Try.func28 (by kernel_rfl) (by kernel_rfl)
-- 29 loop.example/g01231/laws.toFloat32S
instance : FuncT Try.prog 29 := mkFunc Try.func29 (by kernel_rfl) (by kernel_rfl)
-- 30 loop.example/g01231/laws.toPath
instance : FuncT Try.prog 30 := mkFunc Try.func30 (by kernel_rfl) (by kernel_rfl)
-- 31 loop.example/g01231/impl.ValidSection
instance : FuncT Try.prog 31 := mkFunc Try.func31 (by kernel_rfl) (by kernel_rfl)
-- 32 loop.example/g01231/impl.arePaths
instance : FuncT Try.prog 32 := mkFunc Try.func32 (by kernel_rfl) (by kernel_rfl)
-- 33 (loop.example/g01231/impl.Section).along
instance : FuncT Try.prog 33 := mkFunc Try.func33 (by kernel_rfl) (by kernel_rfl)
-- 34 (loop.example/g01231/impl.Path).lengths
instance : FuncT Try.prog 34 := mkFunc Try.func34 (by kernel_rfl) (by kernel_rfl)
-- 35 loop.example/g01231/laws.sameFloat
instance : FuncT Try.prog 35 := mkFunc Try.func35 (by kernel_rfl) (by kernel_rfl)
-- 36 loop.example/g01231/laws.eqPath
instance : FuncT Try.prog 36 := mkFunc Try.func36 (by kernel_rfl) (by kernel_rfl)
-- 37 loop.example/g01231/spec.l06Size
instance : FuncT Try.prog 37 := mkFunc Try.func37 (by kernel_rfl) (by kernel_rfl)
-- 38 loop.example/g01231/spec.l06Cell
instance : FuncT Try.prog 38 := mkFunc Try.func38 (by kernel_rfl) (by kernel_rfl)
-- 39 loop.example/g01231/impl.isSize
instance : FuncT Try.prog 39 := mkFunc Try.func39 (by kernel_rfl) (by kernel_rfl)
-- 40 (loop.example/g01231/impl.Path).cells
instance : FuncT Try.prog 40 := mkFunc Try.func40 (by kernel_rfl) (by kernel_rfl)
-- 41 slices.Compact[[]int64,int64]
instance : FuncT Try.prog 41 := mkFunc Try.func41 (by kernel_rfl) (by kernel_rfl)
-- 42 slices.Sorted[int64]
instance : FuncT Try.prog 42 := mkFunc Try.func42 (by kernel_rfl) (by kernel_rfl)
-- 43 slices.Values[[]int64,int64]
instance : FuncT Try.prog 43 := mkFunc Try.func43 (by kernel_rfl) (by kernel_rfl)
-- 44 loop.example/g01231/spec.l06Path
instance : FuncT Try.prog 44 := mkFunc Try.func44 (by kernel_rfl) (by kernel_rfl)
-- 45 loop.example/g01231/spec.l00In
instance : FuncT Try.prog 45 := mkFunc Try.func45 (by kernel_rfl) (by kernel_rfl)
-- 46 loop.example/g01231/spec.l01Sqrt
instance : FuncT Try.prog 46 := mkFunc Try.func46 (by kernel_rfl) (by kernel_rfl)
-- 47 loop.example/g01231/impl.length[float32]
instance : FuncT Try.prog 47 := mkFunc Try.func47 (by kernel_rfl) (by kernel_rfl)
-- 48 loop.example/g01231/impl.within
instance : FuncT Try.prog 48 := mkFunc Try.func48 (by kernel_rfl) (by kernel_rfl)
-- 49 loop.example/g01231/impl.length[loop.example/g01231/impl.Path]
instance : FuncT Try.prog 49 := mkFunc Try.func49 (by kernel_rfl) (by kernel_rfl)
-- 50 slices.ContainsFunc[[]loop.example/g01231/impl.Path,loop.example/g01231/impl.Path]
instance : FuncT Try.prog 50 := mkFunc Try.func50 (by kernel_rfl) (by kernel_rfl)
-- 51 loop.example/g01231/impl.arePaths$1
instance : FuncT Try.prog 51 := mkFunc Try.func51 (by kernel_rfl) (by kernel_rfl)
-- 52 loop.example/g01231/impl.IsPath
instance : FuncT Try.prog 52 := mkFunc Try.func52 (by kernel_rfl) (by kernel_rfl)
-- 53 math.Floor
instance : FuncT Try.prog 53 := mkFunc Try.func53 (by kernel_rfl) (by kernel_rfl)
-- 54 loop.example/g01231/impl.RootNumber
instance : FuncT Try.prog 54 := mkFunc Try.func54 (by kernel_rfl) (by kernel_rfl)
-- 55 slices.Collect[int64]
instance : FuncT Try.prog 55 := mkFunc Try.func55 (by kernel_rfl) (by kernel_rfl)
-- 56 slices.Sort[[]int64,int64]
instance : FuncT Try.prog 56 := mkFunc Try.func56 (by kernel_rfl) (by kernel_rfl)
-- 57 slices.Values[[]int64,int64]$1
instance : FuncT Try.prog 57 := mkFunc Try.func57 (by kernel_rfl) (by kernel_rfl)
-- 58 loop.example/g01231/spec.l06Place
instance : FuncT Try.prog 58 := mkFunc Try.func58 (by kernel_rfl) (by kernel_rfl)
-- 59 loop.example/g01231/spec.l01Narrow
instance : FuncT Try.prog 59 := mkFunc Try.func59 (by kernel_rfl) (by kernel_rfl)
-- 60 math.Sqrt
instance : FuncT Try.prog 60 := mkFunc Try.func60 (by kernel_rfl) (by kernel_rfl)
-- 61 slices.IndexFunc[[]loop.example/g01231/impl.Path,loop.example/g01231/impl.Path]
instance : FuncT Try.prog 61 := mkFunc Try.func61 (by kernel_rfl) (by kernel_rfl)
-- 62 slices.ContainsFunc[[]float32,float32]
instance : FuncT Try.prog 62 := mkFunc Try.func62 (by kernel_rfl) (by kernel_rfl)
-- 63 loop.example/g01231/impl.IsPath$1
instance : FuncT Try.prog 63 := mkFunc Try.func63 (by kernel_rfl) (by kernel_rfl)
-- 65 math.floor
instance : FuncT Try.prog 65 := mkFunc Try.func65 (by kernel_rfl) (by kernel_rfl)
-- 66 slices.AppendSeq[[]int64,int64]
instance : FuncT Try.prog 66 := mkFunc Try.func66 (by kernel_rfl) (by kernel_rfl)
-- 67 slices.pdqsortOrdered[int64]
instance : FuncT Try.prog 67 := mkFunc Try.func67 (by kernel_rfl) (by kernel_rfl)
-- 68 math/bits.Len
instance : FuncT Try.prog 68 := mkFunc Try.func68 (by kernel_rfl) (by kernel_rfl)
-- 70 slices.IndexFunc[[]float32,float32]
instance : FuncT Try.prog 70 := mkFunc Try.func70 (by kernel_rfl) (by kernel_rfl)
-- 71 math.IsNaN
instance : FuncT Try.prog 71 := mkFunc Try.func71 (by kernel_rfl) (by kernel_rfl)
-- 72 math.IsInf
instance : FuncT Try.prog 72 := mkFunc Try.func72 (by kernel_rfl) (by kernel_rfl)
-- 73 math.Modf
instance : FuncT Try.prog 73 := mkFunc Try.func73 (by kernel_rfl) (by kernel_rfl)
-- 74 slices.insertionSortOrdered[int64]
instance : FuncT Try.prog 74 := mkFunc Try.func74 (by kernel_rfl) (by kernel_rfl)
-- 75 slices.heapSortOrdered[int64]
instance : FuncT Try.prog 75 := mkFunc Try.func75 (by kernel_rfl) (by kernel_rfl)
-- 76 slices.breakPatternsOrdered[int64]
instance : FuncT Try.prog 76 := mkFunc Try.func76 (by kernel_rfl) (by kernel_rfl)
-- 77 slices.choosePivotOrdered[int64]
instance : FuncT Try.prog 77 := mkFunc Try.func77 (by kernel_rfl) (by kernel_rfl)
-- 78 slices.reverseRangeOrdered[int64]
instance : FuncT Try.prog 78 := mkFunc Try.func78 (by kernel_rfl) (by kernel_rfl)
-- 79 slices.partialInsertionSortOrdered[int64]
instance : FuncT Try.prog 79 := mkFunc Try.func79 (by kernel_rfl) (by kernel_rfl)
-- 80 cmp.Less[int64]
instance : FuncT Try.prog 80 := mkFunc Try.func80 (by kernel_rfl) (by kernel_rfl)
-- 81 slices.partitionEqualOrdered[int64]
instance : FuncT Try.prog 81 := mkFunc Try.func81 (by kernel_rfl) (by kernel_rfl)
-- 82 slices.partitionOrdered[int64]
instance : FuncT Try.prog 82 := mkFunc Try.func82 (by kernel_rfl) (by kernel_rfl)
-- 83 math/bits.Len32
instance : FuncT Try.prog 83 := mkFunc Try.func83 (by kernel_rfl) (by kernel_rfl)
-- 84 math/bits.Len64
instance : FuncT Try.prog 84 := mkFunc Try.func84 (by kernel_rfl) (by kernel_rfl)
-- 85 math.Abs
instance : FuncT Try.prog 85 := mkFunc Try.func85 (by kernel_rfl) (by kernel_rfl)
-- 86 math.Trunc
instance : FuncT Try.prog 86 := mkFunc Try.func86 (by kernel_rfl) (by kernel_rfl)
-- 87 math.Copysign
instance : FuncT Try.prog 87 := mkFunc Try.func87 (by kernel_rfl) (by kernel_rfl)
-- 88 slices.siftDownOrdered[int64]
instance : FuncT Try.prog 88 := mkFunc Try.func88 (by kernel_rfl) (by kernel_rfl)
-- 89 slices.nextPowerOfTwo
instance : FuncT Try.prog 89 := mkFunc Try.func89 (by kernel_rfl) (by kernel_rfl)
-- 90 (*slices.xorshift).Next
instance : FuncT Try.prog 90 := mkFunc Try.func90 (by kernel_rfl) (by kernel_rfl)
-- 91 slices.medianAdjacentOrdered[int64]
instance : FuncT Try.prog 91 := mkFunc Try.func91 (by kernel_rfl) (by kernel_rfl)
-- 92 slices.medianOrdered[int64]
instance : FuncT Try.prog 92 := mkFunc Try.func92 (by kernel_rfl) (by kernel_rfl)
-- 93 cmp.isNaN[int64]
instance : FuncT Try.prog 93 := mkFunc Try.func93 (by kernel_rfl) (by kernel_rfl)
-- 97 math.trunc
instance : FuncT Try.prog 97 := mkFunc Try.func97 (by kernel_rfl) (by kernel_rfl)
-- 98 slices.order2Ordered[int64]
instance : FuncT Try.prog 98 := mkFunc Try.func98 (by kernel_rfl) (by kernel_rfl)
instance : Mixed Try.prog := ⟨by kernel_rfl⟩
end Go.Proofs.Ytkbpdgacfeachaa.Ab
