/-
  The abstract layer: functions without a body (bits of floats, whole numbers, roots), and narrowing.
-/
import Derived.Test.YtkbpdgacfeachaaFast
namespace Go.Proofs.Ytkbpdgacfeachaa.Ab
open Go Go.RowKit
set_option linter.unusedVariables false
set_option linter.unusedSimpArgs false

class ExtT (P : Program) (f : Nat) (e : outParam (Array Value → Sem Value)) : Prop where
  out : ∃ fn, P.funcs[f]? = some fn ∧ (fn.name == "runtime.NumGoroutine") = false ∧ fn.body.isNone = true ∧ (Extern.findNext fn).isNone = true ∧ Extern.find fn = some e
theorem mkExt {P : Program} {f : Nat} {e : Array Value → Sem Value} {fn : Func} (h : P.funcs[f]? = some fn) (h1 : (fn.name == "runtime.NumGoroutine") = false) (h2 : fn.body.isNone = true) (h3 : (Extern.findNext fn).isNone = true) (h4 : Extern.find fn = some e) : ExtT P f e := ⟨fn, h, h1, h2, h3, h4⟩

section
variable {P : Program} {n : Nat} {T : Tm} {M : Mem} {ops : Array Oper} {st : Option (List Nat)} {Q : Tm → Mem → Prop} {fl : Bool} {l : List (Oper × Bool)} {d : Option Nat} {ty : Nat} {pos : String} {after : Array Edge} {g : Option (Nat × Bool)}

theorem run_callExt {f : Nat} {e : Array Value → Sem Value} [hf : ExtT P f e] (args : Array Value) {w w' : World} {v : Value} (hr : (e args).run P w = .ok v w') : (callFunc f args).run P w = .ok (.value v) w' := by
  obtain ⟨fn, h1, h2, h3, h4, h5⟩ := hf.out
  have h2' : ¬ fn.name = "runtime.NumGoroutine" := by simpa using h2
  have h4' : Extern.findNext fn = none := by simpa using h4
  have h3' : fn.body = none := by simpa using h3
  simp [callFunc, h1, h2', h3', h4', h5, hr]

/-- a call of a function without a body, of one argument -/
theorem stepX {f : Nat} {e : Array Value → Sem Value} [hf : ExtT P f e] {x : Operand} {ats : Array TypeId} {v : Value} (ex : ev T x = some v) (S : Value → Prop)
    (hs : ∀ (u : Value) (w : World), nf u = v → ∃ r w', (e #[u]).run P w = .ok r w' ∧ Quiet w w' ∧ S (nf r))
    (hk : ∀ r, S r → Run P n ops st Q l (putT n d r T) M) :
    Run P n ops st Q ((⟨d, .call { callee := .value (.func f), args := #[x], argTypes := ats }, ty, pos, after, none⟩, false) :: l) T M := by
  refine run_step rfl ?_
  intro w0 B a w ht hsat
  obtain ⟨r, w', h1, h2, h3⟩ := hs (a.eval x) w (ev_sound ht ex)
  have hrun : (execOp a.eval ⟨d, .call { callee := .value (.func f), args := #[x], argTypes := ats }, ty, pos, after, none⟩).run P w = .ok (.value r) w' := by
    have he : a.eval (.func f) = .func (.func f) #[] #[] := rfl
    have hc := run_callExt (P := P) (f := f) _ h1
    simp [execOp, resolve, he, Deferred.ofValue, invoke, hc]
  rw [hrun]
  exact ⟨M, hsat.quiet h2, fun _ _ _ => Ext.refl M, hk _ h3⟩

open Go.Extern.MathFloatBits in
theorem xF32 {f : Nat} [ExtT P f float32bits] {x : Operand} {ats : Array TypeId} {b : Nat} (ex : ev T x = some (.float .f32 b)) (hn : nanB .f32 b = false) (k : Run P n ops st Q l (putT n d (.int .u32 b) T) M) :
    Run P n ops st Q ((⟨d, .call { callee := .value (.func f), args := #[x], argTypes := ats }, ty, pos, after, none⟩, false) :: l) T M :=
  stepX ex (fun r => r = .int .u32 b) (fun u w hu => by
    obtain ⟨c, rfl, hc⟩ := nf_float hu
    refine ⟨.int .u32 c, w, rfl, .refl w, ?_⟩
    have : c = b := by
      rcases cb_cases .f32 c with ⟨h1, h2⟩ | ⟨h1, h2⟩
      · rw [h2] at hc; rw [← hc, nanB_qn] at hn; cases hn
      · rw [← hc, h2]
    rw [this]; rfl) (fun r h => by rw [h]; exact k)

open Go.Extern.MathFloatBits in
theorem xB64 {f : Nat} [ExtT P f float64bits] {x : Operand} {ats : Array TypeId} {b : Nat} (ex : ev T x = some (.float .f64 b)) (k : ∀ c, cb .f64 c = b → Run P n ops st Q l (putT n d (.int .u64 (c : Nat)) T) M) :
    Run P n ops st Q ((⟨d, .call { callee := .value (.func f), args := #[x], argTypes := ats }, ty, pos, after, none⟩, false) :: l) T M :=
  stepX ex (fun r => ∃ c, cb .f64 c = b ∧ r = .int .u64 (c : Nat)) (fun u w hu => by
    obtain ⟨c, rfl, hc⟩ := nf_float hu
    exact ⟨.int .u64 c, w, rfl, .refl w, c, hc, rfl⟩) (fun r ⟨c, hc, h⟩ => by rw [h]; exact k c hc)

open Go.Extern.MathFloatBits in
theorem xFr64 {f : Nat} [ExtT P f float64frombits] {x : Operand} {ats : Array TypeId} {m : Int} (ex : ev T x = some (.int .u64 m)) (k : Run P n ops st Q l (putT n d (.float .f64 (cb .f64 m.toNat)) T) M) :
    Run P n ops st Q ((⟨d, .call { callee := .value (.func f), args := #[x], argTypes := ats }, ty, pos, after, none⟩, false) :: l) T M :=
  stepX ex (fun r => r = .float .f64 (cb .f64 m.toNat)) (fun u w hu => by
    obtain rfl := nf_int hu
    exact ⟨.float .f64 m.toNat, w, rfl, .refl w, rfl⟩) (fun r h => by rw [h]; exact k)

/-- to a whole number -/
def fint (way : Ieee.Toward) (b : Nat) : Nat := if nanB .f64 b then qn .f64 else cb .f64 (FloatKind.f64.encode ((FloatKind.f64.decode b).integral way))

theorem fint_cb (way : Ieee.Toward) (c : Nat) : fint way (cb .f64 c) = fint way c := by
  unfold fint
  rw [nanB_cb]
  rcases cb_cases .f64 c with ⟨h1, h2⟩ | ⟨h1, h2⟩
  · rw [if_pos h1, if_pos h1]
  · rw [h2]

theorem quiet_isNaN (s : Bool) (t : Nat) (h : t ≠ 0) (ht : t < 4503599627370496) : nanB .f64 (FloatKind.f64.encode (.nan s (FloatKind.f64.format.quiet t))) = true := by
  have e1 : Ieee.double.signWeight = 9223372036854775808 := by decide
  have e2 : Ieee.double.binade = 4503599627370496 := by decide
  have e3 : Ieee.double.infRung = 9218868437227405312 := by decide
  have e4 : Ieee.double.fractionBits = 52 := rfl
  show ((Ieee.double.read (Ieee.double.write (.nan s (Ieee.double.quiet t)))).isNaN) = true
  have hq : Ieee.double.quiet t < 4503599627370496 ∧ Ieee.double.quiet t ≠ 0 := by
    unfold Ieee.Format.quiet
    rw [e4]
    constructor
    · exact Nat.or_lt_two_pow (n := 52) ht (by decide)
    · intro h0
      have := Nat.or_eq_zero_iff.1 h0
      exact h this.1
  generalize Ieee.double.quiet t = q at hq
  unfold Ieee.Format.write Ieee.Format.word Ieee.Format.read
  simp only [e1, e2, e3]
  rw [Nat.mod_eq_of_lt hq.1]
  have hr : (if s = true then 9223372036854775808 + (9218868437227405312 + q) else 9218868437227405312 + q) % 9223372036854775808 = 9218868437227405312 + q := by
    cases s <;> simp <;> omega
  rw [hr, if_neg (by omega), if_neg (by omega), if_neg (by omega)]
  rfl

theorem nan_frac {c : Nat} {s : Bool} {t : Nat} (h : FloatKind.f64.decode c = .nan s t) : t ≠ 0 ∧ t < 4503599627370496 := by
  unfold FloatKind.decode FloatKind.format Ieee.Format.read at h
  have e1 : Ieee.double.signWeight = 9223372036854775808 := by decide
  have e2 : Ieee.double.binade = 4503599627370496 := by decide
  have e3 : Ieee.double.infRung = 9218868437227405312 := by decide
  simp only [e1, e2, e3] at h
  split at h
  · cases h
  · split at h
    · cases h
    · split at h
      · cases h
      · cases h; omega

theorem run_integral (name : String) (way : Ieee.Toward) (c : Nat) (w : World) : ∃ r w', (Extern.MathFloor.toIntegral name way #[.float .f64 c]).run P w = .ok r w' ∧ Quiet w w' ∧ nf r = .float .f64 (fint way c) := by
  have key : ∀ d, FloatKind.f64.decode c = d → Extern.MathFloor.toIntegral name way #[.float .f64 c] = (match d with
    | .nan s t =>
      if FloatKind.f64.format.quiet t = t then pure (.float .f64 c) else do
      let kept ← choose (.extern "math.Floor,Ceil,Trunc,RoundToEven.signallingNaN kept" 2)
      pure (.float .f64 (if kept == 1 then c else FloatKind.f64.encode (.nan s (FloatKind.f64.format.quiet t))))
    | d => pure (.float .f64 (FloatKind.f64.encode (d.integral way)))) := by rintro _ rfl; rfl
  unfold fint
  cases hd : FloatKind.f64.decode c with
  | nan s t =>
    have hn : nanB .f64 c = true := by unfold nanB; rw [hd]; rfl
    rw [if_pos hn, key _ hd]
    simp only
    split
    · exact ⟨_, w, rfl, .refl w, by simp [nf, nfA, nfS, cb, hn]⟩
    · obtain ⟨h1, h2⟩ := nan_frac hd
      have hq := quiet_isNaN s t h1 h2
      refine ⟨_, _, rfl, quiet_drew w, ?_⟩
      have hb : ∀ b : Bool, nanB .f64 (if b = true then c else FloatKind.f64.encode (.nan s (FloatKind.f64.format.quiet t))) = true := by
        intro b; cases b
        · exact hq
        · exact hn
      simp only [nf, nfA, nfS, cb, hb, if_true]
  | infinity s =>
    have hn : nanB .f64 c = false := by unfold nanB; rw [hd]; rfl
    rw [if_neg (by rw [hn]; decide), key _ hd]
    exact ⟨_, w, rfl, .refl w, rfl⟩
  | number s m e =>
    have hn : nanB .f64 c = false := by unfold nanB; rw [hd]; rfl
    rw [if_neg (by rw [hn]; decide), key _ hd]
    exact ⟨_, w, rfl, .refl w, rfl⟩

theorem xInt {f : Nat} {name : String} {way : Ieee.Toward} [ExtT P f (Extern.MathFloor.toIntegral name way)] {x : Operand} {ats : Array TypeId} {b : Nat} (ex : ev T x = some (.float .f64 b)) (k : Run P n ops st Q l (putT n d (.float .f64 (fint way b)) T) M) :
    Run P n ops st Q ((⟨d, .call { callee := .value (.func f), args := #[x], argTypes := ats }, ty, pos, after, none⟩, false) :: l) T M :=
  stepX ex (fun r => r = .float .f64 (fint way b)) (fun u w hu => by
    obtain ⟨c, rfl, hc⟩ := nf_float hu
    obtain ⟨r, w', h1, h2, h3⟩ := run_integral (P := P) name way c w
    exact ⟨r, w', h1, h2, by rw [h3, ← hc, fint_cb]⟩) (fun r h => by rw [h]; exact k)

/-- the square root -/
def fsqr (b : Nat) : Nat := match FloatKind.f64.format.sqrt b with | some r => cb .f64 r | none => qn .f64
theorem sqrt_nan {c : Nat} (h : nanB .f64 c = true) : FloatKind.f64.format.sqrt c = none := by
  obtain ⟨s, f, hr⟩ := nan_read h
  unfold Ieee.Format.sqrt; rw [hr]; rfl
theorem fsqr_cb (c : Nat) : fsqr (cb .f64 c) = fsqr c := by
  unfold fsqr
  rcases cb_cases .f64 c with ⟨h1, h2⟩ | ⟨h1, h2⟩
  · rw [sqrt_nan h1, sqrt_nan (by rw [nanB_cb]; exact h1)]
  · rw [h2]
theorem xSqrt {f : Nat} [ExtT P f Extern.MathSqrt.sqrt] {x : Operand} {ats : Array TypeId} {b : Nat} (ex : ev T x = some (.float .f64 b)) (k : Run P n ops st Q l (putT n d (.float .f64 (fsqr b)) T) M) :
    Run P n ops st Q ((⟨d, .call { callee := .value (.func f), args := #[x], argTypes := ats }, ty, pos, after, none⟩, false) :: l) T M :=
  stepX ex (fun r => r = .float .f64 (fsqr b)) (fun u w hu => by
    obtain ⟨c, rfl, hc⟩ := nf_float hu
    rw [← hc, fsqr_cb]
    have key : ∀ o, FloatKind.f64.format.sqrt c = o → Extern.MathSqrt.sqrt #[.float .f64 c] = (match o with
      | some r => pure (.float .f64 r)
      | none => do pure (.float .f64 (← choose (.nanBits .f64 c c)))) := by rintro _ rfl; rfl
    unfold fsqr
    cases hs : FloatKind.f64.format.sqrt c with
    | some r => exact ⟨_, w, by rw [key _ hs]; rfl, .refl w, rfl⟩
    | none =>
      obtain ⟨v, hv, hrun⟩ := run_nanBits (P := P) w .f64 c c (fun r => (Pure.pure (Value.float .f64 r) : Sem Value))
      refine ⟨.float .f64 v, _, ?_, quiet_drew w, by simp [nf, nfA, nfS, cb, hv]⟩
      rw [key _ hs]; exact hrun) (fun r h => by rw [h]; exact k)

/-! ## Narrowing -/
/-- a 64-bit number as a 32-bit one -/
def fnar (b : Nat) : Nat := if nanB .f64 b then qn .f32 else cb .f32 (FloatKind.f32.encode (FloatKind.f64.decode b))
/-- it is not too great for that -/
def narOk (b : Nat) : Bool := match FloatKind.f64.decode b with
  | .number s m e => !(FloatKind.f32.decode (FloatKind.f32.encode (.number s m e))).isInfinity
  | _ => true
theorem fnar_cb (c : Nat) : fnar (cb .f64 c) = fnar c := by
  unfold fnar
  rw [nanB_cb]
  rcases cb_cases .f64 c with ⟨h1, h2⟩ | ⟨h1, h2⟩
  · rw [if_pos h1, if_pos h1]
  · rw [h2]
theorem run_nanConv32 {α : Type} (w : World) (x : Nat) (f : Nat → Sem α) : ∃ c, nanB .f32 c = true ∧ (choose (.nanConv .f32 x) >>= f).run P w = (f c).run P { w with drawn := w.drawn + 1 } := by
  refine ⟨_, nan_cut32 (w.tape w.drawn (.nanConv .f32 x)), ?_⟩
  simp [Question.forced, Question.cut]
theorem tame_narrow {s t b : Nat} {x : Operand} [h1 : UnderT P s (.float .f64)] [h2 : UnderT P t (.float .f32)] (ex : ev T x = some (.float .f64 b)) (hok : narOk b = true) : Tame P ⟨d, .convert s t x, ty, pos, after, g⟩ T M (.float .f32 (fnar b)) :=
  tame_one (x := x) (by simp [Op.operands]) ex fun ρ w hx => by
    obtain ⟨c, hc, rfl⟩ := nf_float hx
    rw [fnar_cb]
    cases hn : nanB .f64 c
    · have hcb : cb .f64 c = c := by unfold cb; rw [hn]; rfl
      rw [hcb] at hok
      refine ⟨.float .f32 (FloatKind.f32.encode (FloatKind.f64.decode c)), w, ?_, .refl w, ?_⟩
      · simp only [execOp, hc]
        have : (convert s t (.float .f64 c)).run P w = .ok (.float .f32 (FloatKind.f32.encode (FloatKind.f64.decode c))) w := by
          cases hd : FloatKind.f64.decode c with
          | nan a b => unfold nanB at hn; rw [hd] at hn; cases hn
          | infinity a => simp [convert, run_underlying h1.out, run_underlying h2.out, Conv.floatToFloat, hd]
          | number a m e =>
            unfold narOk at hok
            rw [hd] at hok
            simp only [Bool.not_eq_true'] at hok
            simp [convert, run_underlying h1.out, run_underlying h2.out, Conv.floatToFloat, hd, hok]
        simp [this]
      · unfold fnar; rw [hn]; rfl
    · obtain ⟨v, hv, hrun⟩ := run_nanConv32 (P := P) w c (fun r => (Pure.pure (Value.float .f32 r) : Sem Value))
      refine ⟨.float .f32 v, _, ?_, quiet_drew w, ?_⟩
      · obtain ⟨sg, fr, hd⟩ := nan_read hn
        have hd' : FloatKind.f64.decode c = .nan sg fr := hd
        have : (convert s t (.float .f64 c)).run P w = .ok (.float .f32 v) { w with drawn := w.drawn + 1 } := by
          simp [convert, run_underlying h1.out, run_underlying h2.out, Conv.floatToFloat, hd']
          simpa using hrun
        simp [execOp, hc, this]
      · unfold fnar; rw [hn]
        simp [nf, nfA, nfS, cb, hv]
theorem rNw {s t b : Nat} {x : Operand} [h1 : UnderT P s (.float .f64)] [h2 : UnderT P t (.float .f32)] (ex : ev T x = some (.float .f64 b)) (hok : narOk b = true) (k : Run P n ops st Q l (putT n d (.float .f32 (fnar b)) T) M) :
    Run P n ops st Q ((⟨d, .convert s t x, ty, pos, after, none⟩, fl) :: l) T M := run_tame rfl (tame_narrow ex hok) k
end
end Go.Proofs.Ytkbpdgacfeachaa.Ab
