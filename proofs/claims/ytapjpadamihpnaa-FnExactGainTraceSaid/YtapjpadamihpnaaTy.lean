/-
  The facts on types and functions of this translation that the abstract layer asks for, written by our program gen.py.
-/
import Derived.Test.YtapjpadamihpnaaOc
import Derived.Test.YtapjpadamihpnaaRows
import Derived.KernelRfl
namespace Go.Proofs.Ytapjpadamihpnaa.Ab
open Go
theorem mkInfo {P : Program} {t size bytes : Nat} {z : Value} (h : (P.info? t).map (fun i => (i.size, i.bytes, i.zero)) = some (size, bytes, some z)) (hn : z.cells.toList.map nfS = z.cells.toList) (hs : z.cells.size = size) : InfoT P t size bytes z := by
  cases hi : P.info? t with
  | none => rw [hi] at h; cases h
  | some i => rw [hi] at h; simp at h; exact ⟨⟨i, hi, h.1, h.2.1, h.2.2⟩, hn, hs⟩
theorem mkFunc {P : Program} {f : Nat} {fn : Func} (h : P.funcs[f]? = some fn) (h1 : (fn.name == "runtime.NumGoroutine") = false) (h2 : fn.body.isNone = false) : FuncT P f := ⟨fn, h, h1, h2⟩
theorem mkField {P : Program} {t f off : Nat} (h : (match P.underlying t with | some (.struct fs) => (match fs[f]? with | some fd => (match P.info? fd.type with | some i => i.size != 0 && fd.offset == off | none => false) | none => false) | _ => false) = true) : FieldT P t f off := by
  split at h
  · rename_i fs hfs
    split at h
    · rename_i fd hfd
      split at h
      · rename_i i hi
        simp only [Bool.and_eq_true, bne_iff_ne, beq_iff_eq] at h
        exact ⟨fs, fd, hfs, hfd, h.2, i, hi, by simpa using h.1⟩
      · cases h
    · cases h
  · cases h
instance : PlainT Try.prog 1 := ⟨by kernel_rfl⟩
instance : InfoT Try.prog 1 1 8 (.nilFunc) := mkInfo (by kernel_rfl) (by kernel_rfl) (by kernel_rfl)
instance : UnderT Try.prog 2 (.int .i64) := ⟨by kernel_rfl⟩
instance : PlainT Try.prog 2 := ⟨by kernel_rfl⟩
instance : InfoT Try.prog 2 1 8 (.int .i64 0) := mkInfo (by kernel_rfl) (by kernel_rfl) (by kernel_rfl)
instance : UnderT Try.prog 3 (.int .i64) := ⟨by kernel_rfl⟩
instance : PlainT Try.prog 3 := ⟨by kernel_rfl⟩
instance : InfoT Try.prog 3 1 8 (.int .i64 0) := mkInfo (by kernel_rfl) (by kernel_rfl) (by kernel_rfl)
instance : UnderT Try.prog 4 .bool := ⟨by kernel_rfl⟩
instance : PlainT Try.prog 4 := ⟨by kernel_rfl⟩
instance : InfoT Try.prog 4 1 1 (.bool false) := mkInfo (by kernel_rfl) (by kernel_rfl) (by kernel_rfl)
instance : UnderT Try.prog 5 (.int .u8) := ⟨by kernel_rfl⟩
instance : PlainT Try.prog 5 := ⟨by kernel_rfl⟩
instance : InfoT Try.prog 5 1 1 (.int .u8 0) := mkInfo (by kernel_rfl) (by kernel_rfl) (by kernel_rfl)
instance : UnderT Try.prog 6 (.int .u8) := ⟨by kernel_rfl⟩
instance : PlainT Try.prog 6 := ⟨by kernel_rfl⟩
instance : InfoT Try.prog 6 1 1 (.int .u8 0) := mkInfo (by kernel_rfl) (by kernel_rfl) (by kernel_rfl)
instance : AggT Try.prog 7 := ⟨by kernel_rfl⟩
instance : InfoT Try.prog 7 4 24 (.agg #[.int .i64 0, .int .i64 0, .bool false, .int .u8 0]) := mkInfo (by kernel_rfl) (by kernel_rfl) (by kernel_rfl)
instance : FieldT Try.prog 7 0 0 := mkField (by kernel_rfl)
instance : FieldT Try.prog 7 1 1 := mkField (by kernel_rfl)
instance : FieldT Try.prog 7 2 2 := mkField (by kernel_rfl)
instance : FieldT Try.prog 7 3 3 := mkField (by kernel_rfl)
instance : AggT Try.prog 8 := ⟨by kernel_rfl⟩
instance : InfoT Try.prog 8 4 24 (.agg #[.int .i64 0, .int .i64 0, .bool false, .int .u8 0]) := mkInfo (by kernel_rfl) (by kernel_rfl) (by kernel_rfl)
instance : FieldT Try.prog 8 0 0 := mkField (by kernel_rfl)
instance : FieldT Try.prog 8 1 1 := mkField (by kernel_rfl)
instance : FieldT Try.prog 8 2 2 := mkField (by kernel_rfl)
instance : FieldT Try.prog 8 3 3 := mkField (by kernel_rfl)
instance : UnderT Try.prog 9 .string := ⟨by kernel_rfl⟩
instance : PlainT Try.prog 9 := ⟨by kernel_rfl⟩
instance : InfoT Try.prog 9 1 16 (.string ByteArray.empty) := mkInfo (by kernel_rfl) (by kernel_rfl) (by kernel_rfl)
instance : UnderT Try.prog 10 .string := ⟨by kernel_rfl⟩
instance : PlainT Try.prog 10 := ⟨by kernel_rfl⟩
instance : InfoT Try.prog 10 1 16 (.string ByteArray.empty) := mkInfo (by kernel_rfl) (by kernel_rfl) (by kernel_rfl)
instance : UnderT Try.prog 11 .string := ⟨by kernel_rfl⟩
instance : PlainT Try.prog 11 := ⟨by kernel_rfl⟩
instance : InfoT Try.prog 11 1 16 (.string ByteArray.empty) := mkInfo (by kernel_rfl) (by kernel_rfl) (by kernel_rfl)
instance : UnderT Try.prog 12 (.int .u64) := ⟨by kernel_rfl⟩
instance : PlainT Try.prog 12 := ⟨by kernel_rfl⟩
instance : InfoT Try.prog 12 1 8 (.int .u64 0) := mkInfo (by kernel_rfl) (by kernel_rfl) (by kernel_rfl)
instance : AggT Try.prog 13 := ⟨by kernel_rfl⟩
instance : InfoT Try.prog 13 2 24 (.agg #[.string ByteArray.empty, .int .u64 0]) := mkInfo (by kernel_rfl) (by kernel_rfl) (by kernel_rfl)
instance : FieldT Try.prog 13 0 0 := mkField (by kernel_rfl)
instance : FieldT Try.prog 13 1 1 := mkField (by kernel_rfl)
instance : AggT Try.prog 14 := ⟨by kernel_rfl⟩
instance : InfoT Try.prog 14 2 24 (.agg #[.string ByteArray.empty, .int .u64 0]) := mkInfo (by kernel_rfl) (by kernel_rfl) (by kernel_rfl)
instance : FieldT Try.prog 14 0 0 := mkField (by kernel_rfl)
instance : FieldT Try.prog 14 1 1 := mkField (by kernel_rfl)
instance : UnderT Try.prog 15 (.pointer 43) := ⟨by kernel_rfl⟩
instance : PlainT Try.prog 15 := ⟨by kernel_rfl⟩
instance : InfoT Try.prog 15 1 8 (.pointer none) := mkInfo (by kernel_rfl) (by kernel_rfl) (by kernel_rfl)
instance : UnderT Try.prog 16 (.pointer 46) := ⟨by kernel_rfl⟩
instance : PlainT Try.prog 16 := ⟨by kernel_rfl⟩
instance : InfoT Try.prog 16 1 8 (.pointer none) := mkInfo (by kernel_rfl) (by kernel_rfl) (by kernel_rfl)
instance : UnderT Try.prog 17 (.pointer 56) := ⟨by kernel_rfl⟩
instance : PlainT Try.prog 17 := ⟨by kernel_rfl⟩
instance : InfoT Try.prog 17 1 8 (.pointer none) := mkInfo (by kernel_rfl) (by kernel_rfl) (by kernel_rfl)
instance : AggT Try.prog 18 := ⟨by kernel_rfl⟩
instance : InfoT Try.prog 18 1 8 (.agg #[.pointer none]) := mkInfo (by kernel_rfl) (by kernel_rfl) (by kernel_rfl)
instance : FieldT Try.prog 18 0 0 := mkField (by kernel_rfl)
instance : AggT Try.prog 19 := ⟨by kernel_rfl⟩
instance : InfoT Try.prog 19 1 8 (.agg #[.pointer none]) := mkInfo (by kernel_rfl) (by kernel_rfl) (by kernel_rfl)
instance : FieldT Try.prog 19 0 0 := mkField (by kernel_rfl)
instance : PlainT Try.prog 20 := ⟨by kernel_rfl⟩
instance : UnderT Try.prog 21 (.int .i32) := ⟨by kernel_rfl⟩
instance : PlainT Try.prog 21 := ⟨by kernel_rfl⟩
instance : InfoT Try.prog 21 1 4 (.int .i32 0) := mkInfo (by kernel_rfl) (by kernel_rfl) (by kernel_rfl)
instance : UnderT Try.prog 22 (.slice 32) := ⟨by kernel_rfl⟩
instance : PlainT Try.prog 22 := ⟨by kernel_rfl⟩
instance : InfoT Try.prog 22 1 24 (.slice none 0 0) := mkInfo (by kernel_rfl) (by kernel_rfl) (by kernel_rfl)
instance : PlainT Try.prog 24 := ⟨by kernel_rfl⟩
instance : InfoT Try.prog 24 1 8 (.nilFunc) := mkInfo (by kernel_rfl) (by kernel_rfl) (by kernel_rfl)
instance : PlainT Try.prog 25 := ⟨by kernel_rfl⟩
instance : InfoT Try.prog 25 1 8 (.nilFunc) := mkInfo (by kernel_rfl) (by kernel_rfl) (by kernel_rfl)
instance : PlainT Try.prog 26 := ⟨by kernel_rfl⟩
instance : InfoT Try.prog 26 1 8 (.nilFunc) := mkInfo (by kernel_rfl) (by kernel_rfl) (by kernel_rfl)
instance : PlainT Try.prog 27 := ⟨by kernel_rfl⟩
instance : InfoT Try.prog 27 1 8 (.nilFunc) := mkInfo (by kernel_rfl) (by kernel_rfl) (by kernel_rfl)
instance : PlainT Try.prog 28 := ⟨by kernel_rfl⟩
instance : InfoT Try.prog 28 1 8 (.nilFunc) := mkInfo (by kernel_rfl) (by kernel_rfl) (by kernel_rfl)
instance : PlainT Try.prog 29 := ⟨by kernel_rfl⟩
instance : InfoT Try.prog 29 1 8 (.nilFunc) := mkInfo (by kernel_rfl) (by kernel_rfl) (by kernel_rfl)
instance : PlainT Try.prog 30 := ⟨by kernel_rfl⟩
instance : InfoT Try.prog 30 1 8 (.nilFunc) := mkInfo (by kernel_rfl) (by kernel_rfl) (by kernel_rfl)
instance : PlainT Try.prog 31 := ⟨by kernel_rfl⟩
instance : InfoT Try.prog 31 1 8 (.nilFunc) := mkInfo (by kernel_rfl) (by kernel_rfl) (by kernel_rfl)
instance : UnderT Try.prog 32 (.float .f32) := ⟨by kernel_rfl⟩
instance : PlainT Try.prog 32 := ⟨by kernel_rfl⟩
instance : InfoT Try.prog 32 1 4 (.float .f32 0) := mkInfo (by kernel_rfl) (by kernel_rfl) (by kernel_rfl)
instance : PlainT Try.prog 33 := ⟨by kernel_rfl⟩
instance : InfoT Try.prog 33 1 8 (.nilFunc) := mkInfo (by kernel_rfl) (by kernel_rfl) (by kernel_rfl)
instance : PlainT Try.prog 34 := ⟨by kernel_rfl⟩
instance : InfoT Try.prog 34 1 8 (.nilFunc) := mkInfo (by kernel_rfl) (by kernel_rfl) (by kernel_rfl)
instance : PlainT Try.prog 35 := ⟨by kernel_rfl⟩
instance : InfoT Try.prog 35 1 8 (.nilFunc) := mkInfo (by kernel_rfl) (by kernel_rfl) (by kernel_rfl)
instance : PlainT Try.prog 36 := ⟨by kernel_rfl⟩
instance : InfoT Try.prog 36 1 8 (.nilFunc) := mkInfo (by kernel_rfl) (by kernel_rfl) (by kernel_rfl)
instance : UnderT Try.prog 37 (.float .f64) := ⟨by kernel_rfl⟩
instance : PlainT Try.prog 37 := ⟨by kernel_rfl⟩
instance : InfoT Try.prog 37 1 8 (.float .f64 0) := mkInfo (by kernel_rfl) (by kernel_rfl) (by kernel_rfl)
instance : PlainT Try.prog 38 := ⟨by kernel_rfl⟩
instance : InfoT Try.prog 38 1 8 (.nilFunc) := mkInfo (by kernel_rfl) (by kernel_rfl) (by kernel_rfl)
instance : PlainT Try.prog 39 := ⟨by kernel_rfl⟩
instance : InfoT Try.prog 39 1 8 (.nilFunc) := mkInfo (by kernel_rfl) (by kernel_rfl) (by kernel_rfl)
instance : PlainT Try.prog 40 := ⟨by kernel_rfl⟩
instance : InfoT Try.prog 40 1 8 (.nilFunc) := mkInfo (by kernel_rfl) (by kernel_rfl) (by kernel_rfl)
instance : PlainT Try.prog 41 := ⟨by kernel_rfl⟩
instance : InfoT Try.prog 41 1 8 (.nilFunc) := mkInfo (by kernel_rfl) (by kernel_rfl) (by kernel_rfl)
instance : AggT Try.prog 42 := ⟨by kernel_rfl⟩
instance : InfoT Try.prog 42 4 40 (.agg #[.pointer none, .pointer none, .pointer none, .string ByteArray.empty]) := mkInfo (by kernel_rfl) (by kernel_rfl) (by kernel_rfl)
instance : FieldT Try.prog 42 0 0 := mkField (by kernel_rfl)
instance : FieldT Try.prog 42 1 1 := mkField (by kernel_rfl)
instance : FieldT Try.prog 42 2 2 := mkField (by kernel_rfl)
instance : FieldT Try.prog 42 3 3 := mkField (by kernel_rfl)
instance : AggT Try.prog 43 := ⟨by kernel_rfl⟩
instance : InfoT Try.prog 43 4 40 (.agg #[.pointer none, .pointer none, .pointer none, .string ByteArray.empty]) := mkInfo (by kernel_rfl) (by kernel_rfl) (by kernel_rfl)
instance : FieldT Try.prog 43 0 0 := mkField (by kernel_rfl)
instance : FieldT Try.prog 43 1 1 := mkField (by kernel_rfl)
instance : FieldT Try.prog 43 2 2 := mkField (by kernel_rfl)
instance : FieldT Try.prog 43 3 3 := mkField (by kernel_rfl)
instance : AggT Try.prog 44 := ⟨by kernel_rfl⟩
instance : AggT Try.prog 45 := ⟨by kernel_rfl⟩
instance : AggT Try.prog 46 := ⟨by kernel_rfl⟩
instance : PlainT Try.prog 47 := ⟨by kernel_rfl⟩
instance : InfoT Try.prog 47 1 8 (.nilFunc) := mkInfo (by kernel_rfl) (by kernel_rfl) (by kernel_rfl)
instance : UnderT Try.prog 48 (.int .u32) := ⟨by kernel_rfl⟩
instance : PlainT Try.prog 48 := ⟨by kernel_rfl⟩
instance : InfoT Try.prog 48 1 4 (.int .u32 0) := mkInfo (by kernel_rfl) (by kernel_rfl) (by kernel_rfl)
instance : UnderT Try.prog 49 (.int .u8) := ⟨by kernel_rfl⟩
instance : PlainT Try.prog 49 := ⟨by kernel_rfl⟩
instance : InfoT Try.prog 49 1 1 (.int .u8 0) := mkInfo (by kernel_rfl) (by kernel_rfl) (by kernel_rfl)
instance : UnderT Try.prog 50 (.int .u8) := ⟨by kernel_rfl⟩
instance : PlainT Try.prog 50 := ⟨by kernel_rfl⟩
instance : InfoT Try.prog 50 1 1 (.int .u8 0) := mkInfo (by kernel_rfl) (by kernel_rfl) (by kernel_rfl)
instance : PlainT Try.prog 51 := ⟨by kernel_rfl⟩
instance : InfoT Try.prog 51 1 8 (.nilFunc) := mkInfo (by kernel_rfl) (by kernel_rfl) (by kernel_rfl)
instance : UnderT Try.prog 52 (.pointer 5) := ⟨by kernel_rfl⟩
instance : PlainT Try.prog 52 := ⟨by kernel_rfl⟩
instance : InfoT Try.prog 52 1 8 (.pointer none) := mkInfo (by kernel_rfl) (by kernel_rfl) (by kernel_rfl)
instance : UnderT Try.prog 53 (.int .i32) := ⟨by kernel_rfl⟩
instance : PlainT Try.prog 53 := ⟨by kernel_rfl⟩
instance : InfoT Try.prog 53 1 4 (.int .i32 0) := mkInfo (by kernel_rfl) (by kernel_rfl) (by kernel_rfl)
instance : UnderT Try.prog 54 (.int .i32) := ⟨by kernel_rfl⟩
instance : PlainT Try.prog 54 := ⟨by kernel_rfl⟩
instance : InfoT Try.prog 54 1 4 (.int .i32 0) := mkInfo (by kernel_rfl) (by kernel_rfl) (by kernel_rfl)
instance : AggT Try.prog 55 := ⟨by kernel_rfl⟩
instance : InfoT Try.prog 55 11 48 (.agg #[.int .u64 0, .int .u64 0, .int .u32 0, .int .u8 0, .int .u8 0, .int .u8 0, .int .u8 0, .nilFunc, .pointer none, .int .i32 0, .int .i32 0]) := mkInfo (by kernel_rfl) (by kernel_rfl) (by kernel_rfl)
instance : FieldT Try.prog 55 0 0 := mkField (by kernel_rfl)
instance : FieldT Try.prog 55 1 1 := mkField (by kernel_rfl)
instance : FieldT Try.prog 55 2 2 := mkField (by kernel_rfl)
instance : FieldT Try.prog 55 3 3 := mkField (by kernel_rfl)
instance : FieldT Try.prog 55 4 4 := mkField (by kernel_rfl)
instance : FieldT Try.prog 55 5 5 := mkField (by kernel_rfl)
instance : FieldT Try.prog 55 6 6 := mkField (by kernel_rfl)
instance : FieldT Try.prog 55 7 7 := mkField (by kernel_rfl)
instance : FieldT Try.prog 55 8 8 := mkField (by kernel_rfl)
instance : FieldT Try.prog 55 9 9 := mkField (by kernel_rfl)
instance : FieldT Try.prog 55 10 10 := mkField (by kernel_rfl)
instance : AggT Try.prog 56 := ⟨by kernel_rfl⟩
instance : InfoT Try.prog 56 11 48 (.agg #[.int .u64 0, .int .u64 0, .int .u32 0, .int .u8 0, .int .u8 0, .int .u8 0, .int .u8 0, .nilFunc, .pointer none, .int .i32 0, .int .i32 0]) := mkInfo (by kernel_rfl) (by kernel_rfl) (by kernel_rfl)
instance : FieldT Try.prog 56 0 0 := mkField (by kernel_rfl)
instance : FieldT Try.prog 56 1 1 := mkField (by kernel_rfl)
instance : FieldT Try.prog 56 2 2 := mkField (by kernel_rfl)
instance : FieldT Try.prog 56 3 3 := mkField (by kernel_rfl)
instance : FieldT Try.prog 56 4 4 := mkField (by kernel_rfl)
instance : FieldT Try.prog 56 5 5 := mkField (by kernel_rfl)
instance : FieldT Try.prog 56 6 6 := mkField (by kernel_rfl)
instance : FieldT Try.prog 56 7 7 := mkField (by kernel_rfl)
instance : FieldT Try.prog 56 8 8 := mkField (by kernel_rfl)
instance : FieldT Try.prog 56 9 9 := mkField (by kernel_rfl)
instance : FieldT Try.prog 56 10 10 := mkField (by kernel_rfl)
instance : ExtT Try.prog 25 Extern.MathSqrt.sqrt := mkExt Try.func25 (by kernel_rfl) (by kernel_rfl) (by kernel_rfl) (by kernel_rfl)
-- 3 loop.example/g01231/laws.FnExactGainTrace
instance : FuncT Try.prog 3 := mkFunc Try.func3 (by kernel_rfl) (by kernel_rfl)
-- 4 loop.example/g01231/spec.GainTrace
instance : FuncT Try.prog 4 := mkFunc Try.func4 (by kernel_rfl) (by kernel_rfl)
-- 5 loop.example/g01231/laws.toFloat32S
instance : FuncT Try.prog 5 := mkFunc Try.func5 (by kernel_rfl) (by kernel_rfl)
-- 6 loop.example/g01231/impl.GainTrace
instance : FuncT Try.prog 6 := mkFunc Try.func6 (by kernel_rfl) (by kernel_rfl)
-- 7 loop.example/g01231/laws.eqFloat32S
instance : FuncT Try.prog 7 := mkFunc Try.func7 (by kernel_rfl) (by kernel_rfl)
-- 8 loop.example/g01231/laws.markFloat32S
instance : FuncT Try.prog 8 := mkFunc Try.func8 (by kernel_rfl) (by kernel_rfl)
-- 9 loop.example/g01231/laws.heldFloat32S
instance : FuncT Try.prog 9 := mkFunc Try.func9 (by kernel_rfl) (by kernel_rfl)
-- 10 loop.example/g01231/spec.l03Is
instance : FuncT Try.prog 10 := mkFunc Try.func10 (by kernel_rfl) (by kernel_rfl)
-- 11 loop.example/g01231/spec.l00In
instance : FuncT Try.prog 11 := mkFunc Try.func11 (by kernel_rfl) (by kernel_rfl)
-- 12 loop.example/g01231/spec.l00Max
instance : FuncT Try.prog 12 := mkFunc Try.func12 (by kernel_rfl) (by kernel_rfl)
-- 13 loop.example/g01231/spec.l00Min
instance : FuncT Try.prog 13 := mkFunc Try.func13 (by kernel_rfl) (by kernel_rfl)
-- 14 loop.example/g01231/spec.l01Sqrt
instance : FuncT Try.prog 14 := mkFunc Try.func14 (by kernel_rfl) (by kernel_rfl)
-- 15 loop.example/g01231/spec.l03Energy
instance : FuncT Try.prog 15 := mkFunc Try.func15 (by kernel_rfl) (by kernel_rfl)
-- 16 loop.example/g01231/impl.IsTrace
instance : FuncT Try.prog 16 := mkFunc Try.func16 (by kernel_rfl) (by kernel_rfl)
-- 17 loop.example/g01231/impl.within
instance : FuncT Try.prog 17 := mkFunc Try.func17 (by kernel_rfl) (by kernel_rfl)
-- 18 loop.example/g01231/impl.length[float32]
instance : FuncT Try.prog 18 := mkFunc Try.func18 (by kernel_rfl) (by kernel_rfl)
-- 19 loop.example/g01231/impl.RootNumber
instance : FuncT Try.prog 19 := mkFunc Try.func19 (by kernel_rfl) (by kernel_rfl)
-- 20 loop.example/g01231/impl.energy
instance : FuncT Try.prog 20 := mkFunc Try.func20 (by kernel_rfl) (by kernel_rfl)
-- 21 loop.example/g01231/laws.sameFloat
instance : FuncT Try.prog 21 := mkFunc Try.func21 (by kernel_rfl) (by kernel_rfl)
-- 22 loop.example/g01231/spec.l01Narrow
instance : FuncT Try.prog 22 := mkFunc Try.func22 (by kernel_rfl) (by kernel_rfl)
-- 23 math.Sqrt
instance : FuncT Try.prog 23 := mkFunc Try.func23 (by kernel_rfl) (by kernel_rfl)
-- 24 loop.example/g01231/impl.isCount
instance : FuncT Try.prog 24 := mkFunc Try.func24 (by kernel_rfl) (by kernel_rfl)
instance : Mixed Try.prog := ⟨by kernel_rfl⟩
end Go.Proofs.Ytapjpadamihpnaa.Ab
