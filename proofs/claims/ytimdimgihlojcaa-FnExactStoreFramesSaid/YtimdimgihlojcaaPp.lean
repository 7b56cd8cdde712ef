/-
  Walks: the bytes of a block.
-/
import Derived.Test.YtimdimgihlojcaaPy
import Derived.Test.YtimdimgihlojcaaSr
namespace Go.Proofs.Ytimdimgihlojcaa.Ab
open Go Go.RowKit
attribute [local irreducible] Run Then InBlock LoopQ LQ1 LQ2 LQ3 LQ4 LQ5 LQ6 AWp Ret ACall
set_option linter.unusedVariables false
set_option linter.unusedSimpArgs false

theorem wrap_u8 (n : Int) : IntKind.u8.wrap n = n % 256 := by
  unfold IntKind.wrap
  simp only [IntKind.signed, IntKind.bits, Bool.false_and, Bool.false_eq_true, if_false]
  omega
theorem wrap_u16 (n : Int) : IntKind.u16.wrap n = n % 65536 := by
  unfold IntKind.wrap
  simp only [IntKind.signed, IntKind.bits, Bool.false_and, Bool.false_eq_true, if_false]
  omega
theorem bit_shr16 {n : Int} (h : 0 ≤ n) : ibit .shr .u16 n 8 = n / 256 := by
  show n.fdiv (2 ^ min ((8 : Int)).toNat 16) = _
  rw [show (2 : Int) ^ min ((8 : Int)).toNat 16 = 256 from by decide, Int.fdiv_eq_ediv_of_nonneg _ (by decide)]
section
variable {P : Program} {n : Nat} {T : Tm} {M : Mem} {ops : Array Oper} {st : Option (List Nat)} {Q : Tm → Mem → Prop} {fl : Bool} {l : List (Oper × Bool)} {d : Option Nat} {ty : Nat} {pos : String} {after : Array Edge}
theorem bl_own {b : Nat} {ns : List Int} (h : 0 < ns.length) : OwC 1 [(b, ⟨byL ns, true⟩)] (.slice (some ⟨b, 0, none⟩) ns.length ns.length) ns.length (byL ns) :=
  .inr ⟨b, ns.length, [], rfl, Nat.le_refl _, by rw [byL_len, Nat.mul_one], by rw [byL_len]; simp, by rw [List.append_nil]⟩
theorem bl_rd {b : Nat} {ns : List Int} {M : Mem} (h : 0 < ns.length) : RdC ((b, ⟨byL ns, true⟩) :: M) (.slice (some ⟨b, 0, none⟩) ns.length ns.length) ns.length 1 (byL ns) :=
  (bl_own h).rdC.mono (by refine ⟨M, ?_⟩; exact List.Perm.refl _)
end
theorem c_AppendUint16 (s : Value) (k : Nat) (ns : List Int) (m : Int) (hm : 0 ≤ m ∧ m < 65536) (L M : Mem) (ho : OwC 1 L s k (byL ns)) (hk : k ≤ 1000000) :
    ACall Try.prog 80 [.agg #[], s, .int .u16 m] (L ++ M) fun v M' => ∃ L', OwC 1 L' v (k + 2) (byL (ns ++ [m % 256, m / 256])) ∧ M' = L' ++ M := by
  obtain ⟨sa, sc, rfl, hsc, hsl⟩ := ho.shape
  refine acall_of_awp Try.func80 rfl Try.ntmps80 rfl ?_
  refine cS (cR ?_)
  first | (refine rXa rfl ?_; intro bk1) | (refine rX rfl rfl ?_; intro bk1)
  refine asg rfl ?_
  refine rN ?_
  refine qN ?_
  refine cS (cR ?_)
  refine mv rfl ?_
  refine mv rfl ?_
  refine rp rfl ?_
  refine mv rfl ?_
  refine rSh rfl rfl rfl (by omega) ?_
  refine rp rfl ?_
  refine rBS rfl rfl rfl rfl rfl ?_; intro bk2
  rw [wrap_u8, bit_shr16 hm.1, wrap_u8, show m / 256 % 256 = m / 256 from by omega]
  refine apC (M1 := (bk2, _) :: ((bk1, _) :: M)) (m := 2) (vs := byL [m % 256, m / 256]) (by decide) (by intro _ h; cases h <;> rfl) rfl rfl ho (by repeat first | with_reducible apply pmH | with_reducible apply pmT | with_reducible apply pmL) (bl_rd (ns := [m % 256, m / 256]) (by simp)) (byL_flat _) (by omega) (by omega) ?_
  intro sl' L' how'
  rw [← byL_app] at how'
  refine asg rfl ?_
  refine rN ?_
  refine qN ?_
  refine cE ?_
  refine kE rfl rfl  ?_
  first | (exfalso; contradiction) | exact ⟨_, ⟨_, how', rfl⟩, (by (try simp only [List.cons_append, List.nil_append, List.append_assoc]); repeat' first | with_reducible apply eR | with_reducible apply eA | ((with_reducible apply xA); · repeat first | with_reducible apply lH | with_reducible apply lT | with_reducible apply lL) | ((with_reducible apply xC); · repeat first | apply pH | with_reducible apply pT | with_reducible apply pL) | with_reducible assumption | with_reducible apply eS | with_reducible apply eL | exact eR)⟩ | (exfalso; first | contradiction | omega | (simp_all; done) | (simp_all; omega))
/-! ## bytes of a block -/
/-- a number as it stands in a block -/
abbrev pkF (x : Nat) (e : Int) : Nat := fint .even (fmul .f64 (fwid x) (twoB (15 - e)))
def pkN (x : Nat) (e : Int) : Int := ((FloatKind.f64.decode (pkF x e)).toInt .zero).getD 0
def pkB (x : Nat) (e : Int) : List Int := [pkN x e % 65536 % 256, pkN x e % 65536 / 256]
def pkK (xs : List Nat) (e : Int) : Nat → List Int
  | 0 => [(e + 100) % 256]
  | i + 1 => pkK xs e i ++ pkB (xs.getD i 0) e
theorem pkK_len (xs : List Nat) (e : Int) : ∀ i, (pkK xs e i).length = 1 + 2 * i
  | 0 => rfl
  | i + 1 => by
    show (pkK xs e i ++ [_, _]).length = _
    rw [List.length_append, pkK_len xs e i]; simp; omega
noncomputable def pkS (xs : List Nat) : ByteArray := bsS (pkK xs (exE xs) xs.length)
/-- rounding to the nearest whole number of a number that is not great -/
theorem cut_even_le {s : Bool} {N d Q : Nat} (h : N ≤ Q * 2 ^ d) : Ieee.Toward.even.cut s N d ≤ Q :=
  T.cut_le_of s (by rw [Nat.shiftLeft_eq]; exact h)
theorem sv_even {b : Nat} {a : Int} {Q : Nat} (h : sv .f64 b = some a) (hQ : Q < 2 ^ 24) (hle : a.natAbs ≤ Q * PU) : ∃ n : Int, sv .f64 (fint .even b) = some (n * PU) ∧ -(Q : Int) ≤ n ∧ n ≤ Q := by
  obtain ⟨s, m, e, h1, h2, rfl⟩ := sv_dec h
  obtain ⟨z, z1, z2, z3⟩ := cut_shape m e h2
  rw [signed_abs, z2, z1, ← Nat.mul_assoc] at hle
  have hc : Ieee.Toward.even.cut s (m <<< e.toNat) (-e).toNat ≤ Q := cut_even_le (Nat.le_of_mul_le_mul_right hle z3)
  generalize hK : Ieee.Toward.even.cut s (m <<< e.toNat) (-e).toNat = K at hc
  have hf : fint .even b = cb .f64 (FloatKind.f64.format.nearest s K 0) := by
    unfold fint
    rw [sv_notnan h, if_neg (by decide), h1, ← hK]
    rfl
  obtain ⟨c, e1, e2⟩ := near_Repx (k := .f64) (s := s) (m := K) (e := 0) (rep_int (show K < 2 ^ 24 by omega)) (-1074) (by omega) (by omega) (by
    rw [show (-1074 - (-1074) : Int).toNat = 0 from by decide, Nat.shiftLeft_zero, show (0 - (-1074 : Int)).toNat = 1074 from by decide, shl_PU])
  have e3 : sv .f64 (FloatKind.f64.format.nearest s K 0) = some c := e1
  refine ⟨if s then -(K : Int) else K, ?_, ?_⟩
  · rw [hf, sv_cb e3, e3, e2]
    cases s with
    | false => simp only [Bool.false_eq_true, if_false, Int.natCast_mul]
    | true => simp only [if_true, Int.natCast_mul, Int.neg_mul]
  · cases s <;> simp <;> omega
/-- the numbers of a block may be scaled without a loss -/
theorem fwid_lt {x : Nat} {a : Int} (h : sv .f32 x = some a) : fwid x < 18446744073709551616 := by
  obtain ⟨s, m, e, h1, h2, h3⟩ := sv_dec h
  rw [fwid_some (f2f_num h1), cb_notnan nan_num, encode_number]
  show FloatKind.f64.format.nearest s m e < _
  rw [T.nearest_rung]
  have := T.rung_le_inf FloatKind.f64.format m e
  rw [inf64] at this
  unfold Ieee.Format.word
  rw [sw64]
  cases s <;> simp <;> omega
theorem sv32_least {x : Nat} {a : Int} (h : sv .f32 x = some a) (h0 : a ≠ 0) : pow2 925 ≤ a.natAbs := by
  obtain ⟨s, m, e, h1, h2, rfl⟩ := sv_dec h
  obtain ⟨b1, b2, b3⟩ := read32_bounds h1
  rw [signed_abs, shl_pow2]
  have hm : m ≠ 0 := by
    rintro rfl; apply h0; unfold Ieee.signed; cases s <;> simp
  have : pow2 925 ≤ pow2 (e + 1074).toNat := pow2_mono (by omega)
  calc pow2 925 ≤ 1 * pow2 (e + 1074).toNat := by rw [Nat.one_mul]; exact this
    _ ≤ _ := Nat.mul_le_mul_right _ (by omega)
theorem ldOk_x {x : Nat} {e : Int} (hx : fnB x = true) (he : -100 ≤ e ∧ e ≤ 100) : LdOk (fwid x) (15 - e) := by
  obtain ⟨a, h1, h2, h3⟩ := fnB_sv hx
  have hw := sv_fwid h1
  obtain ⟨s, q, f, hd, hf, hq⟩ := dw_of hw (fwid_lt h1)
  refine ⟨by omega, s, q, f, hd, hf, ?_⟩
  rw [hd] at hw
  by_cases h0 : a = 0
  · subst h0
    exact .inl (dw_zero hw hq hf)
  · have := dw_field hw hq hf (sv32_least h1 h0) (by rw [← h2]; exact h3) (by decide)
    exact .inr ⟨by omega, by omega⟩
theorem pk_sv {x : Nat} {e : Int} (hx : fnB x = true) (he : -100 ≤ e ∧ e ≤ 100) (hm : mg x ≤ thr e) : sv .f64 (pkF x e) = some (pkN x e * PU) ∧ -32767 ≤ pkN x e ∧ pkN x e ≤ 32767 := by
  obtain ⟨a, h1, h2, h3⟩ := fnB_sv hx
  have hw := sv_fwid h1
  obtain ⟨hk, s, q, f, hd, hf, hc⟩ := ldOk_x hx he
  have key : ∃ c, sv .f64 (fmul .f64 (fwid x) (twoB (15 - e))) = some c ∧ c.natAbs ≤ 32767 * PU := by
    rcases hc with ⟨rfl, rfl⟩ | ⟨hq, hqk⟩
    · rw [hd, mul_two0 s hk]
      exact ⟨0, sv_dw0 s, by simp⟩
    · rw [hd, (mul_two hq hf hk hqk).1]
      refine ⟨_, sv_dw (by omega) hf, ?_⟩
      rw [signed_abs, Nat.shiftLeft_zero, Nat.shiftLeft_eq]
      have ha : a.natAbs = (4503599627370496 + f) * 2 ^ (q - 1) := by
        have := dw_abs (hd ▸ hw) hq.2 hf
        rw [rv_norm hq.1 hf, Nat.shiftLeft_eq] at this
        exact this
      rw [h2, ha] at hm
      have := scale_le (k := 15 - e) (p := q - 1) (t := (e + 1059).toNat) hm (by omega) (by omega)
      rw [show (((q - 1 : Nat) : Int) + (15 - e)).toNat = ((q : Int) + (15 - e)).toNat - 1 from by omega, show ((((e + 1059).toNat : Nat) : Int) + (15 - e)).toNat = 1074 from by omega] at this
      unfold PU
      exact this
  obtain ⟨c, hc1, hc2⟩ := key
  obtain ⟨n, hn1, hn2, hn3⟩ := sv_even hc1 (by decide) hc2
  have hpk : pkN x e = n := by
    unfold pkN pkF
    rw [toInt_sv hn1]; rfl
  rw [hpk]
  exact ⟨hn1, by omega, by omega⟩
theorem c_packBlock (a : Option Addr) (n c : Nat) (xs : List Nat) (M : Mem) (h : RdF M a n xs) (hB : blB xs = true) :
    ACall Try.prog 51 [.slice a n c] M fun v M' => v = .string (pkS xs) ∧ M' = M := by
  obtain ⟨rfl, _⟩ := id h
  obtain ⟨q1, q2⟩ := blB_iff hB
  have hfb := fnA_at q2
  refine acall_of_awp Try.func51 rfl Try.ntmps51 rfl ?_
  refine cS (cR ?_)
  refine asg rfl ?_
  refine rN ?_
  refine qN ?_
  refine cS (cR ?_)
  refine mv rfl ?_
  refine rC rfl (c_exponent _ _ _ xs _ (by first | with_reducible assumption | ((try first | with_reducible apply RdF.sub | with_reducible apply RdF.sub0) <;> first | with_reducible assumption | (apply RdF.mono; (· (with_reducible assumption)); · (try simp only [List.cons_append, List.nil_append, List.append_assoc]); repeat' first | with_reducible apply eR | with_reducible apply eA | ((with_reducible apply xA); · repeat first | with_reducible apply lH | with_reducible apply lT | with_reducible apply lL) | ((with_reducible apply xC); · repeat first | apply pH | with_reducible apply pT | with_reducible apply pL) | with_reducible assumption | with_reducible apply eS | with_reducible apply eL | exact eR) | (apply RdF.mono; (· (apply OwF.rdF; with_reducible assumption)); · (try simp only [List.cons_append, List.nil_append, List.append_assoc]); repeat' first | with_reducible apply eR | with_reducible apply eA | ((with_reducible apply xA); · repeat first | with_reducible apply lH | with_reducible apply lT | with_reducible apply lL) | ((with_reducible apply xC); · repeat first | apply pH | with_reducible apply pT | with_reducible apply pL) | with_reducible assumption | with_reducible apply eS | with_reducible apply eL | exact eR) | (apply RdF.ownm; (· repeat first | with_reducible assumption | with_reducible apply List.mem_cons_self | with_reducible apply List.mem_cons_of_mem | with_reducible apply List.mem_append_right | exact List.Mem.head _); · first | rfl | with_reducible assumption | omega | simp [*]) | with_reducible assumption | omega | (simp; done) | (simp; omega) | (simp only [Bool.and_eq_true, inB_iff] at *; omega))) (by omega) hfb) ?_
  rintro _ _ ⟨⟨hok, rfl⟩, hMM⟩; have hMM := hMM.symm; subst hMM
  refine ⟨fun _ => (by (try simp only [List.cons_append, List.nil_append, List.append_assoc]); repeat' first | with_reducible apply eR | with_reducible apply eA | ((with_reducible apply xA); · repeat first | with_reducible apply lH | with_reducible apply lT | with_reducible apply lL) | ((with_reducible apply xC); · repeat first | apply pH | with_reducible apply pT | with_reducible apply pL) | with_reducible assumption | with_reducible apply eS | with_reducible apply eL | exact eR), ?_⟩
  obtain ⟨he, hmg, _⟩ := id hok
  refine asg rfl ?_
  refine rN ?_
  refine qN ?_
  refine cS (cR ?_)
  refine mv rfl ?_
  first | refine rAn (b := 100) rfl rfl (by omega) ?_ | refine rA rfl rfl (by omega) (by omega) ?_ | refine bAdd rfl rfl ?_
  refine rp rfl ?_
  refine rBS rfl rfl rfl rfl rfl ?_; intro bk1
  refine asg rfl ?_
  refine rN ?_
  refine qN ?_
  refine cS ?_
  refine cS (cR ?_)
  refine mv rfl ?_
  refine ln rfl ?_
  refine mv rfl ?_
  refine rN ?_
  refine qN ?_
  refine cB ?_
  rw [wrap_u8]
  refine cL3 (fun (i : Nat) (s : Value) (L : Mem) => [(16, .int .i64 (i : Nat)), (4, s)]) [(3, _), (14, _), (15, _)] (fun (i : Nat) (s : Value) (L : Mem) => L ++ M) (fun (i : Nat) (s : Value) (L : Mem) => xs.length - i) (fun (i : Nat) (s : Value) (L : Mem) => i ≤ xs.length ∧ OwC 1 L s (1 + 2 * i) (byL (pkK xs (exE xs) i))) (0) (_) ([(bk1, ⟨[.int .u8 ((exE xs + 100) % 256)], true⟩)]) (by repeat first | exact Sub.nil _ | refine Sub.cons rfl ?_) (by (try simp only [List.cons_append, List.nil_append, List.append_assoc]); repeat' first | with_reducible apply eR | with_reducible apply eA | ((with_reducible apply xA); · repeat first | with_reducible apply lH | with_reducible apply lT | with_reducible apply lL) | ((with_reducible apply xC); · repeat first | apply pH | with_reducible apply pT | with_reducible apply pL) | with_reducible assumption | with_reducible apply eS | with_reducible apply eL | exact eR) (by exact ⟨Nat.zero_le _, bl_own (ns := [(exE xs + 100) % 256]) (by simp)⟩) ?_
  rintro i s L ⟨hi, hz⟩
  refine wT (T' := [(16, _), (4, _), (3, _), (14, _), (15, _)]) rfl ?_
  refine cS (cR ?_)
  refine bLss rfl rfl ?_
  refine rN ?_
  refine qN ?_
  refine cS ?_
  refine cC rfl (fun c1 => ?_) (fun c1 => ?_)
  · have c1' := c1; try simp only [inB_iff, Bool.and_eq_true, decide_eq_true_eq, decide_eq_false_iff_not, beq_iff_eq, beq_eq_false_iff_ne, bne_iff_ne, bne_eq_false_iff_eq, ne_eq] at c1'
    have hi2 : i < xs.length := by omega
    have hbi := hfb i hi2
    obtain ⟨hp1, hp2, hp3⟩ := pk_sv hbi he (hmg i hi2)
    refine cK ?_
    refine qN ?_
    refine cS ?_
    refine cB ?_
    refine cS (cR ?_)
    first
      | refine ixN rfl rfl (by first | (apply RdC.aok; with_reducible assumption) | exact AOk.own | (apply RdD.aok; with_reducible assumption) | (apply RdD.aok; apply OwD.rdD; with_reducible assumption) | (apply RdI.aok; with_reducible assumption) | (apply RdW.aok; with_reducible assumption) | (apply RdI.aok; apply OwI.rdI; with_reducible assumption) | with_reducible assumption | (apply RdF.aok; with_reducible assumption) | (apply RdF.aok; apply OwF.rdF; with_reducible assumption)) (by first | with_reducible assumption | omega) ?_
      | refine ixI rfl rfl (by first | (apply RdC.aok; with_reducible assumption) | exact AOk.own | (apply RdD.aok; with_reducible assumption) | (apply RdD.aok; apply OwD.rdD; with_reducible assumption) | (apply RdI.aok; with_reducible assumption) | (apply RdW.aok; with_reducible assumption) | (apply RdI.aok; apply OwI.rdI; with_reducible assumption) | with_reducible assumption | (apply RdF.aok; with_reducible assumption) | (apply RdF.aok; apply OwF.rdF; with_reducible assumption)) (by omega) (by omega) ?_
    refine ldF rfl (by first | with_reducible assumption | ((try first | with_reducible apply RdF.sub | with_reducible apply RdF.sub0) <;> first | with_reducible assumption | (apply RdF.mono; (· (with_reducible assumption)); · (try simp only [List.cons_append, List.nil_append, List.append_assoc]); repeat' first | with_reducible apply eR | with_reducible apply eA | ((with_reducible apply xA); · repeat first | with_reducible apply lH | with_reducible apply lT | with_reducible apply lL) | ((with_reducible apply xC); · repeat first | apply pH | with_reducible apply pT | with_reducible apply pL) | with_reducible assumption | with_reducible apply eS | with_reducible apply eL | exact eR) | (apply RdF.mono; (· (apply OwF.rdF; with_reducible assumption)); · (try simp only [List.cons_append, List.nil_append, List.append_assoc]); repeat' first | with_reducible apply eR | with_reducible apply eA | ((with_reducible apply xA); · repeat first | with_reducible apply lH | with_reducible apply lT | with_reducible apply lL) | ((with_reducible apply xC); · repeat first | apply pH | with_reducible apply pT | with_reducible apply pL) | with_reducible assumption | with_reducible apply eS | with_reducible apply eL | exact eR) | (apply RdF.ownm; (· repeat first | with_reducible assumption | with_reducible apply List.mem_cons_self | with_reducible apply List.mem_cons_of_mem | with_reducible apply List.mem_append_right | exact List.Mem.head _); · first | rfl | with_reducible assumption | omega | simp [*]) | with_reducible assumption | omega | (simp; done) | (simp; omega) | (simp only [Bool.and_eq_true, inB_iff] at *; omega))) (by first | with_reducible assumption | omega) ?_
    refine asg rfl ?_
    refine rN ?_
    refine qN ?_
    refine cS (cR ?_)
    refine mv rfl ?_
    refine rW rfl ?_
    refine mv rfl ?_
    first | refine rBn (a := 15) rfl rfl (by omega) (by omega) ?_ | refine rB rfl rfl (by omega) (by omega) ?_ | refine bSub rfl rfl ?_
    refine rCq rfl (c_Ldexp _ _ (ldOk_x hbi he) _) ?_
    refine xInt rfl ?_
    refine rFI rfl (by with_reducible assumption) (by omega) ?_
    refine asg rfl ?_
    refine rN ?_
    refine qN ?_
    refine cR ?_
    refine ldZ rfl ?_
    refine mv rfl ?_
    refine mv rfl ?_
    refine rp rfl ?_
    rw [wrap_u16]
    refine rC rfl (c_AppendUint16 _ _ (pkK xs (exE xs) i) _ (by omega) _ _ hz (by omega)) ?_
    rintro sv9 _ ⟨lk9, how9, rfl⟩
    refine ⟨nofun, ?_⟩
    refine asg rfl ?_
    refine rN ?_
    refine qBN ?_
    refine qN ?_
    refine cR ?_
    first | refine rAn (b := 1) rfl rfl (by omega) ?_ | refine rA rfl rfl (by omega) (by omega) ?_ | refine bAdd rfl rfl ?_
    refine mv rfl ?_
    refine rN ?_
    refine qL3 (i + 1) (_) (_) ?_ (by omega) (by repeat first | exact Sub.nil _ | refine Sub.cons rfl ?_) (by (try simp only [List.cons_append, List.nil_append, List.append_assoc]); repeat' first | with_reducible apply eR | with_reducible apply eA | ((with_reducible apply xA); · repeat first | with_reducible apply lH | with_reducible apply lT | with_reducible apply lL) | ((with_reducible apply xC); · repeat first | apply pH | with_reducible apply pT | with_reducible apply pL) | with_reducible assumption | with_reducible apply eS | with_reducible apply eL | exact eR)
    exact ⟨by omega, how9⟩
  · have c1' := c1; try simp only [inB_iff, Bool.and_eq_true, decide_eq_true_eq, decide_eq_false_iff_not, beq_iff_eq, beq_eq_false_iff_ne, bne_iff_ne, bne_eq_false_iff_eq, ne_eq] at c1'
    have : i = xs.length := by omega
    subst this
    refine cX ?_
    refine qX ?_
    refine qL3X ?_
    refine qBX ?_
    refine qN ?_
    refine cS (cR ?_)
    refine mv rfl ?_
    refine sBy rfl (by first | with_reducible assumption | (apply RdC.mono; (· with_reducible assumption); · (try simp only [List.cons_append, List.nil_append, List.append_assoc]); repeat' first | with_reducible apply eR | with_reducible apply eA | ((with_reducible apply xA); · repeat first | with_reducible apply lH | with_reducible apply lT | with_reducible apply lL) | ((with_reducible apply xC); · repeat first | apply pH | with_reducible apply pT | with_reducible apply pL) | with_reducible assumption | with_reducible apply eS | with_reducible apply eL | exact eR) | (apply RdC.mono; (· (apply OwC.rdC; with_reducible assumption)); · (try simp only [List.cons_append, List.nil_append, List.append_assoc]); repeat' first | with_reducible apply eR | with_reducible apply eA | ((with_reducible apply xA); · repeat first | with_reducible apply lH | with_reducible apply lT | with_reducible apply lL) | ((with_reducible apply xC); · repeat first | apply pH | with_reducible apply pT | with_reducible apply pL) | with_reducible assumption | with_reducible apply eS | with_reducible apply eL | exact eR)) ?_
    refine asg rfl ?_
    refine rN ?_
    refine qN ?_
    refine cE ?_
    refine kE rfl rfl  ?_
    first | (exfalso; contradiction) | exact ⟨_, ⟨rfl, rfl⟩, (by (try simp only [List.cons_append, List.nil_append, List.append_assoc]); repeat' first | with_reducible apply eR | with_reducible apply eA | ((with_reducible apply xA); · repeat first | with_reducible apply lH | with_reducible apply lT | with_reducible apply lL) | ((with_reducible apply xC); · repeat first | apply pH | with_reducible apply pT | with_reducible apply pL) | with_reducible assumption | with_reducible apply eS | with_reducible apply eL | exact eR)⟩ | (exfalso; first | contradiction | omega | (simp_all; done) | (simp_all; omega))
theorem c_l07Pack (a : Option Addr) (n c : Nat) (xs : List Nat) (M : Mem) (h : RdF M a n xs) (hB : blB xs = true) :
    ACall Try.prog 50 [.slice a n c] M fun v M' => v = .string (pkS xs) ∧ M' = M := by
  obtain ⟨rfl, _⟩ := id h
  obtain ⟨q1, q2⟩ := blB_iff hB
  have hfb := fnA_at q2
  refine acall_of_awp Try.func50 rfl Try.ntmps50 rfl ?_
  refine cS (cR ?_)
  refine asg rfl ?_
  refine rN ?_
  refine qN ?_
  refine cS (cR ?_)
  refine mv rfl ?_
  refine rC rfl (c_l07Exponent _ _ _ xs _ (by first | with_reducible assumption | ((try first | with_reducible apply RdF.sub | with_reducible apply RdF.sub0) <;> first | with_reducible assumption | (apply RdF.mono; (· (with_reducible assumption)); · (try simp only [List.cons_append, List.nil_append, List.append_assoc]); repeat' first | with_reducible apply eR | with_reducible apply eA | ((with_reducible apply xA); · repeat first | with_reducible apply lH | with_reducible apply lT | with_reducible apply lL) | ((with_reducible apply xC); · repeat first | apply pH | with_reducible apply pT | with_reducible apply pL) | with_reducible assumption | with_reducible apply eS | with_reducible apply eL | exact eR) | (apply RdF.mono; (· (apply OwF.rdF; with_reducible assumption)); · (try simp only [List.cons_append, List.nil_append, List.append_assoc]); repeat' first | with_reducible apply eR | with_reducible apply eA | ((with_reducible apply xA); · repeat first | with_reducible apply lH | with_reducible apply lT | with_reducible apply lL) | ((with_reducible apply xC); · repeat first | apply pH | with_reducible apply pT | with_reducible apply pL) | with_reducible assumption | with_reducible apply eS | with_reducible apply eL | exact eR) | (apply RdF.ownm; (· repeat first | with_reducible assumption | with_reducible apply List.mem_cons_self | with_reducible apply List.mem_cons_of_mem | with_reducible apply List.mem_append_right | exact List.Mem.head _); · first | rfl | with_reducible assumption | omega | simp [*]) | with_reducible assumption | omega | (simp; done) | (simp; omega) | (simp only [Bool.and_eq_true, inB_iff] at *; omega))) (by omega) hfb) ?_
  rintro _ _ ⟨⟨hok, rfl⟩, hMM⟩; have hMM := hMM.symm; subst hMM
  refine ⟨fun _ => (by (try simp only [List.cons_append, List.nil_append, List.append_assoc]); repeat' first | with_reducible apply eR | with_reducible apply eA | ((with_reducible apply xA); · repeat first | with_reducible apply lH | with_reducible apply lT | with_reducible apply lL) | ((with_reducible apply xC); · repeat first | apply pH | with_reducible apply pT | with_reducible apply pL) | with_reducible assumption | with_reducible apply eS | with_reducible apply eL | exact eR), ?_⟩
  obtain ⟨he, hmg, _⟩ := id hok
  refine asg rfl ?_
  refine rN ?_
  refine qN ?_
  refine cS (cR ?_)
  refine mv rfl ?_
  first | refine rAn (b := 100) rfl rfl (by omega) ?_ | refine rA rfl rfl (by omega) (by omega) ?_ | refine bAdd rfl rfl ?_
  refine rp rfl ?_
  refine rBS rfl rfl rfl rfl rfl ?_; intro bk1
  refine asg rfl ?_
  refine rN ?_
  refine qN ?_
  refine cS ?_
  refine cS (cR ?_)
  refine mv rfl ?_
  refine ln rfl ?_
  refine mv rfl ?_
  refine rN ?_
  refine qN ?_
  refine cB ?_
  rw [wrap_u8]
  refine cL3 (fun (i : Nat) (s : Value) (L : Mem) => [(15, .int .i64 (i : Nat)), (4, s)]) [(0, _), (3, _), (14, _)] (fun (i : Nat) (s : Value) (L : Mem) => L ++ M) (fun (i : Nat) (s : Value) (L : Mem) => xs.length - i) (fun (i : Nat) (s : Value) (L : Mem) => i ≤ xs.length ∧ OwC 1 L s (1 + 2 * i) (byL (pkK xs (exE xs) i))) (0) (_) ([(bk1, ⟨[.int .u8 ((exE xs + 100) % 256)], true⟩)]) (by repeat first | exact Sub.nil _ | refine Sub.cons rfl ?_) (by (try simp only [List.cons_append, List.nil_append, List.append_assoc]); repeat' first | with_reducible apply eR | with_reducible apply eA | ((with_reducible apply xA); · repeat first | with_reducible apply lH | with_reducible apply lT | with_reducible apply lL) | ((with_reducible apply xC); · repeat first | apply pH | with_reducible apply pT | with_reducible apply pL) | with_reducible assumption | with_reducible apply eS | with_reducible apply eL | exact eR) (by exact ⟨Nat.zero_le _, bl_own (ns := [(exE xs + 100) % 256]) (by simp)⟩) ?_
  rintro i s L ⟨hi, hz⟩
  refine wT (T' := [(15, _), (4, _), (0, _), (3, _), (14, _)]) rfl ?_
  refine cS (cR ?_)
  refine bLss rfl rfl ?_
  refine rN ?_
  refine qN ?_
  refine cS ?_
  refine cC rfl (fun c1 => ?_) (fun c1 => ?_)
  · have c1' := c1; try simp only [inB_iff, Bool.and_eq_true, decide_eq_true_eq, decide_eq_false_iff_not, beq_iff_eq, beq_eq_false_iff_ne, bne_iff_ne, bne_eq_false_iff_eq, ne_eq] at c1'
    have hi2 : i < xs.length := by omega
    have hbi := hfb i hi2
    obtain ⟨hp1, hp2, hp3⟩ := pk_sv hbi he (hmg i hi2)
    refine cK ?_
    refine qN ?_
    refine cS ?_
    refine cB ?_
    refine cS (cR ?_)
    refine mv rfl ?_
    refine asg rfl ?_
    refine rN ?_
    refine qN ?_
    refine cS ?_
    refine cD [] [(0, true), (1, true), (2, true), (3, true), (4, true), (5, false), (6, false), (7, false), (8, false), (9, false), (10, false), (11, false)] (by repeat first | exact fineT | exact fineL | exact fineLQ1 | exact fineLQ2 | exact fineLQ3 | exact fineLQ4 | exact fineLQ5 | exact fineLQ6 | exact fineR | refine fineB ?_) (by kernel_rfl) ?_
    simp only [pick, List.getElem?_toArray, List.getElem?_cons_zero, List.getElem?_cons_succ]
    refine mv rfl ?_
    refine mv rfl ?_
    first
      | refine ixN rfl rfl (by first | (apply RdC.aok; with_reducible assumption) | exact AOk.own | (apply RdD.aok; with_reducible assumption) | (apply RdD.aok; apply OwD.rdD; with_reducible assumption) | (apply RdI.aok; with_reducible assumption) | (apply RdW.aok; with_reducible assumption) | (apply RdI.aok; apply OwI.rdI; with_reducible assumption) | with_reducible assumption | (apply RdF.aok; with_reducible assumption) | (apply RdF.aok; apply OwF.rdF; with_reducible assumption)) (by first | with_reducible assumption | omega) ?_
      | refine ixI rfl rfl (by first | (apply RdC.aok; with_reducible assumption) | exact AOk.own | (apply RdD.aok; with_reducible assumption) | (apply RdD.aok; apply OwD.rdD; with_reducible assumption) | (apply RdI.aok; with_reducible assumption) | (apply RdW.aok; with_reducible assumption) | (apply RdI.aok; apply OwI.rdI; with_reducible assumption) | with_reducible assumption | (apply RdF.aok; with_reducible assumption) | (apply RdF.aok; apply OwF.rdF; with_reducible assumption)) (by omega) (by omega) ?_
    refine ldF rfl (by first | with_reducible assumption | ((try first | with_reducible apply RdF.sub | with_reducible apply RdF.sub0) <;> first | with_reducible assumption | (apply RdF.mono; (· (with_reducible assumption)); · (try simp only [List.cons_append, List.nil_append, List.append_assoc]); repeat' first | with_reducible apply eR | with_reducible apply eA | ((with_reducible apply xA); · repeat first | with_reducible apply lH | with_reducible apply lT | with_reducible apply lL) | ((with_reducible apply xC); · repeat first | apply pH | with_reducible apply pT | with_reducible apply pL) | with_reducible assumption | with_reducible apply eS | with_reducible apply eL | exact eR) | (apply RdF.mono; (· (apply OwF.rdF; with_reducible assumption)); · (try simp only [List.cons_append, List.nil_append, List.append_assoc]); repeat' first | with_reducible apply eR | with_reducible apply eA | ((with_reducible apply xA); · repeat first | with_reducible apply lH | with_reducible apply lT | with_reducible apply lL) | ((with_reducible apply xC); · repeat first | apply pH | with_reducible apply pT | with_reducible apply pL) | with_reducible assumption | with_reducible apply eS | with_reducible apply eL | exact eR) | (apply RdF.ownm; (· repeat first | with_reducible assumption | with_reducible apply List.mem_cons_self | with_reducible apply List.mem_cons_of_mem | with_reducible apply List.mem_append_right | exact List.Mem.head _); · first | rfl | with_reducible assumption | omega | simp [*]) | with_reducible assumption | omega | (simp; done) | (simp; omega) | (simp only [Bool.and_eq_true, inB_iff] at *; omega))) (by first | with_reducible assumption | omega) ?_
    refine rW rfl ?_
    refine mv rfl ?_
    first | refine rBn (a := 15) rfl rfl (by omega) (by omega) ?_ | refine rB rfl rfl (by omega) (by omega) ?_ | refine bSub rfl rfl ?_
    refine rCq rfl (c_l07Two _ (by omega) _) ?_
    refine fMl rfl rfl ?_
    refine xInt rfl ?_
    refine rFI rfl (by with_reducible assumption) (by omega) ?_
    refine asg rfl ?_
    refine rN ?_
    refine qN ?_
    refine cS (cR ?_)
    refine mv rfl ?_
    first | refine rAn (b := 65536) rfl rfl (by omega) ?_ | refine rA rfl rfl (by omega) (by omega) ?_ | refine bAdd rfl rfl ?_
    first | refine rRn rfl rfl (by omega) (by omega) ?_ | refine bRem rfl rfl (by omega) ?_
    refine asg rfl ?_
    refine rN ?_
    refine qN ?_
    refine cR ?_
    refine mv rfl ?_
    refine mv rfl ?_
    first | refine rRn rfl rfl (by omega) (by omega) ?_ | refine bRem rfl rfl (by omega) ?_
    refine rp rfl ?_
    refine mv rfl ?_
    first | refine rQn rfl rfl (by omega) (by omega) ?_ | refine bQuo rfl rfl (by omega) ?_
    refine rp rfl ?_
    refine rBS rfl rfl rfl rfl rfl ?_; intro bk2
    rw [wrap_u8, wrap_u8, show (pkN (xs.getD i 0) (exE xs) + 65536) % 65536 / 256 % 256 = pkN (xs.getD i 0) (exE xs) % 65536 / 256 from by omega, show (pkN (xs.getD i 0) (exE xs) + 65536) % 65536 % 256 % 256 = pkN (xs.getD i 0) (exE xs) % 65536 % 256 from by omega]
    refine apC (m := 2) (vs := byL (pkB (xs.getD i 0) (exE xs))) (by decide) (by intro _ h; cases h <;> rfl) rfl rfl hz (by repeat first | with_reducible apply pmH | with_reducible apply pmT | with_reducible apply pmL) (bl_rd (ns := pkB (xs.getD i 0) (exE xs)) (by simp [pkB])) (byL_flat _) (by omega) (by omega) ?_
    intro sl' L' how'
    rw [← byL_app] at how'
    refine asg rfl ?_
    refine rN ?_
    refine qBN ?_
    refine qN ?_
    refine cR ?_
    first | refine rAn (b := 1) rfl rfl (by omega) ?_ | refine rA rfl rfl (by omega) (by omega) ?_ | refine bAdd rfl rfl ?_
    refine mv rfl ?_
    refine rN ?_
    refine qL3 (i + 1) (_) (_) ?_ (by omega) (by repeat first | exact Sub.nil _ | refine Sub.cons rfl ?_) (by (try simp only [List.cons_append, List.nil_append, List.append_assoc]); repeat' first | with_reducible apply eR | with_reducible apply eA | ((with_reducible apply xA); · repeat first | with_reducible apply lH | with_reducible apply lT | with_reducible apply lL) | ((with_reducible apply xC); · repeat first | apply pH | with_reducible apply pT | with_reducible apply pL) | with_reducible assumption | with_reducible apply eS | with_reducible apply eL | exact eR)
    exact ⟨by omega, how'⟩
  · have c1' := c1; try simp only [inB_iff, Bool.and_eq_true, decide_eq_true_eq, decide_eq_false_iff_not, beq_iff_eq, beq_eq_false_iff_ne, bne_iff_ne, bne_eq_false_iff_eq, ne_eq] at c1'
    have : i = xs.length := by omega
    subst this
    refine cX ?_
    refine qX ?_
    refine qL3X ?_
    refine qBX ?_
    refine qN ?_
    refine cS (cR ?_)
    refine mv rfl ?_
    refine sBy rfl (by first | with_reducible assumption | (apply RdC.mono; (· with_reducible assumption); · (try simp only [List.cons_append, List.nil_append, List.append_assoc]); repeat' first | with_reducible apply eR | with_reducible apply eA | ((with_reducible apply xA); · repeat first | with_reducible apply lH | with_reducible apply lT | with_reducible apply lL) | ((with_reducible apply xC); · repeat first | apply pH | with_reducible apply pT | with_reducible apply pL) | with_reducible assumption | with_reducible apply eS | with_reducible apply eL | exact eR) | (apply RdC.mono; (· (apply OwC.rdC; with_reducible assumption)); · (try simp only [List.cons_append, List.nil_append, List.append_assoc]); repeat' first | with_reducible apply eR | with_reducible apply eA | ((with_reducible apply xA); · repeat first | with_reducible apply lH | with_reducible apply lT | with_reducible apply lL) | ((with_reducible apply xC); · repeat first | apply pH | with_reducible apply pT | with_reducible apply pL) | with_reducible assumption | with_reducible apply eS | with_reducible apply eL | exact eR)) ?_
    refine asg rfl ?_
    refine rN ?_
    refine qN ?_
    refine cE ?_
    refine kE rfl rfl  ?_
    first | (exfalso; contradiction) | exact ⟨_, ⟨rfl, rfl⟩, (by (try simp only [List.cons_append, List.nil_append, List.append_assoc]); repeat' first | with_reducible apply eR | with_reducible apply eA | ((with_reducible apply xA); · repeat first | with_reducible apply lH | with_reducible apply lT | with_reducible apply lL) | ((with_reducible apply xC); · repeat first | apply pH | with_reducible apply pT | with_reducible apply pL) | with_reducible assumption | with_reducible apply eS | with_reducible apply eL | exact eR)⟩ | (exfalso; first | contradiction | omega | (simp_all; done) | (simp_all; omega))
end Go.Proofs.Ytimdimgihlojcaa.Ab
