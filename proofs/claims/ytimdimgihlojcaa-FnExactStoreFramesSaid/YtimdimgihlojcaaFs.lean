/-
  Walks: the frame as bytes, the frame with some bytes.
-/
import Derived.Test.YtimdimgihlojcaaTr
namespace Go.Proofs.Ytimdimgihlojcaa.Ab
open Go Go.RowKit
attribute [local irreducible] Run Then InBlock LoopQ LQ1 LQ2 LQ3 LQ4 LQ5 LQ6 AWp Ret ACall
set_option linter.unusedVariables false
set_option linter.unusedSimpArgs false

abbrev fsH (w d : Int) : List Int := [71, 82, 68, 49, w % 256, d % 256 % 256, d / 256 % 256 % 256, d / 65536 % 256 % 256, d / 16777216 % 256]
noncomputable def fsO (w d : Int) (xs : List Nat) : ByteArray := bsS (fsH w d) ++ trS xs
/-- a frame as bytes -/
noncomputable def fsS (w d : Int) (xs : List Nat) : ByteArray := fsO w d xs ++ ckS (fsO w d xs)
theorem fsO_size (w d : Int) (xs : List Nat) : (fsO w d xs).size = 9 + utT xs.length := by
  unfold fsO trS
  rw [ByteArray.size_append, trK_size _ _ (Nat.le_refl _), utA_end, bsS_size]; rfl
theorem c_l07Store (b : Nat) (wr : Bool) (w d : Int) (a : Option Addr) (n c : Nat) (xs : List Nat) (M : Mem) (hm : (b, (⟨[.int .i64 w, .int .i64 d, .slice a n c], wr⟩ : Blk)) ∈ M) (h : RdF M a n xs) (hc : n ≤ c) (hv : vfB w d xs = true) :
    ACall Try.prog 66 [.pointer (some ⟨b, 0, none⟩)] M fun v M' => v = .string (fsS w d xs) ∧ M' = M := by
  obtain ⟨rfl, _⟩ := id h
  obtain ⟨hw, hd, hl, hf⟩ := vfB_iff.1 hv
  have hsz := trK_size xs (utK xs.length) (Nat.le_refl _)
  rw [utA_end] at hsz
  have hT : utT xs.length = 1 + 2 * xs.length + (xs.length + 7) / 8 := rfl
  have hso := fsO_size w d xs
  have hr := ckN_rng (fsO w d xs) (fsO w d xs).size
  skip
  skip
  skip
  skip
  skip
  refine acall_of_awp Try.func66 rfl Try.ntmps66 rfl ?_
  refine cS (cR ?_)
  refine asg rfl ?_
  refine rN ?_
  refine qN ?_
  refine cS (cR ?_)
  refine mv rfl ?_
  refine nk rfl ?_
  refine fA rfl ?_
  first | refine rL rfl (by repeat first | with_reducible assumption | with_reducible apply List.mem_cons_self | with_reducible apply List.mem_cons_of_mem | with_reducible apply List.mem_append_right | exact List.Mem.head _) rfl rfl ?_ | refine rL rfl (by repeat first | with_reducible assumption | with_reducible apply List.mem_cons_self | with_reducible apply List.mem_cons_of_mem | with_reducible apply List.mem_append_right | exact List.Mem.head _) (by with_reducible assumption) rfl ?_
  refine asg rfl ?_
  refine rN ?_
  refine qN ?_
  refine cS (cR ?_)
  refine mv rfl ?_
  refine nk rfl ?_
  refine fA rfl ?_
  first | refine rL rfl (by repeat first | with_reducible assumption | with_reducible apply List.mem_cons_self | with_reducible apply List.mem_cons_of_mem | with_reducible apply List.mem_append_right | exact List.Mem.head _) rfl rfl ?_ | refine rL rfl (by repeat first | with_reducible assumption | with_reducible apply List.mem_cons_self | with_reducible apply List.mem_cons_of_mem | with_reducible apply List.mem_append_right | exact List.Mem.head _) (by with_reducible assumption) rfl ?_
  refine rp rfl ?_
  refine mv rfl ?_
  first | refine rRn rfl rfl (by omega) (by omega) ?_ | refine bRem rfl rfl (by omega) ?_
  refine rp rfl ?_
  refine mv rfl ?_
  first | refine rQn rfl rfl (by omega) (by omega) ?_ | refine bQuo rfl rfl (by omega) ?_
  first | refine rRn rfl rfl (by omega) (by omega) ?_ | refine bRem rfl rfl (by omega) ?_
  refine rp rfl ?_
  refine mv rfl ?_
  first | refine rQn rfl rfl (by omega) (by omega) ?_ | refine bQuo rfl rfl (by omega) ?_
  first | refine rRn rfl rfl (by omega) (by omega) ?_ | refine bRem rfl rfl (by omega) ?_
  refine rp rfl ?_
  refine mv rfl ?_
  first | refine rQn rfl rfl (by omega) (by omega) ?_ | refine bQuo rfl rfl (by omega) ?_
  refine rp rfl ?_
  refine rBS rfl rfl rfl rfl rfl ?_; intro bk1
  refine sBy rfl (bl_rd (ns := fsH w d) (by simp)) ?_
  refine asg rfl ?_
  refine rN ?_
  refine qN ?_
  refine cS (cR ?_)
  refine mv rfl ?_
  refine mv rfl ?_
  refine nk rfl ?_
  refine fA rfl ?_
  first | refine rL rfl (by repeat first | with_reducible assumption | with_reducible apply List.mem_cons_self | with_reducible apply List.mem_cons_of_mem | with_reducible apply List.mem_append_right | exact List.Mem.head _) rfl rfl ?_ | refine rL rfl (by repeat first | with_reducible assumption | with_reducible apply List.mem_cons_self | with_reducible apply List.mem_cons_of_mem | with_reducible apply List.mem_append_right | exact List.Mem.head _) (by with_reducible assumption) rfl ?_
  rw [wrap_u8, wrap_u8, wrap_u8, wrap_u8, wrap_u8]
  refine rCq rfl (c_l07Trace _ _ _ xs _ (by first | with_reducible assumption | ((try first | with_reducible apply RdF.sub | with_reducible apply RdF.sub0) <;> first | with_reducible assumption | (apply RdF.mono; (· (with_reducible assumption)); · (try simp only [List.cons_append, List.nil_append, List.append_assoc]); repeat' first | with_reducible apply eR | with_reducible apply eA | ((with_reducible apply xA); · repeat first | with_reducible apply lH | with_reducible apply lT | with_reducible apply lL) | ((with_reducible apply xC); · repeat first | apply pH | with_reducible apply pT | with_reducible apply pL) | with_reducible assumption | with_reducible apply eS | with_reducible apply eL | exact eR) | (apply RdF.mono; (· (apply OwF.rdF; with_reducible assumption)); · (try simp only [List.cons_append, List.nil_append, List.append_assoc]); repeat' first | with_reducible apply eR | with_reducible apply eA | ((with_reducible apply xA); · repeat first | with_reducible apply lH | with_reducible apply lT | with_reducible apply lL) | ((with_reducible apply xC); · repeat first | apply pH | with_reducible apply pT | with_reducible apply pL) | with_reducible assumption | with_reducible apply eS | with_reducible apply eL | exact eR) | (apply RdF.ownm; (· repeat first | with_reducible assumption | with_reducible apply List.mem_cons_self | with_reducible apply List.mem_cons_of_mem | with_reducible apply List.mem_append_right | exact List.Mem.head _); · first | rfl | with_reducible assumption | omega | simp [*]) | with_reducible assumption | omega | (simp; done) | (simp; omega) | (simp only [Bool.and_eq_true, inB_iff] at *; omega))) (by omega) hc hf) ?_
  refine sAdd rfl rfl (by unfold trS; rw [bsS_size, hsz]; simp; omega) ?_
  refine asg rfl ?_
  refine rN ?_
  refine qN ?_
  refine cS (cR ?_)
  refine mv rfl ?_
  refine rCq rfl (c_l01Check (fsO w d xs) _ (by omega)) ?_
  refine asg rfl ?_
  refine rN ?_
  refine qN ?_
  refine cS (cR ?_)
  refine mv rfl ?_
  refine mv rfl ?_
  first | refine rRn rfl rfl (by omega) (by omega) ?_ | refine bRem rfl rfl (by omega) ?_
  refine rp rfl ?_
  refine mv rfl ?_
  first | refine rQn rfl rfl (by omega) (by omega) ?_ | refine bQuo rfl rfl (by omega) ?_
  refine rp rfl ?_
  refine rBS rfl rfl rfl rfl rfl ?_; intro bk2
  rw [wrap_u8, wrap_u8, Int.emod_emod (ckN (fsO w d xs) (fsO w d xs).size)]
  refine sBy rfl (bl_rd (ns := ckL (fsO w d xs)) (by simp)) ?_
  refine sAdd rfl rfl (by rw [bsS_size, show (bsS (fsH w d) ++ trS xs).size = 9 + utT xs.length from hso]; simp; omega) ?_
  refine asg rfl ?_
  refine rN ?_
  refine qN ?_
  refine cE ?_
  refine kE rfl rfl  ?_
  first | (exfalso; contradiction) | exact ⟨_, ⟨rfl, rfl⟩, (by (try simp only [List.cons_append, List.nil_append, List.append_assoc]); repeat' first | with_reducible apply eR | with_reducible apply eA | ((with_reducible apply xA); · repeat first | with_reducible apply lH | with_reducible apply lT | with_reducible apply lL) | ((with_reducible apply xC); · repeat first | apply pH | with_reducible apply pT | with_reducible apply pL) | with_reducible assumption | with_reducible apply eS | with_reducible apply eL | exact eR)⟩ | (exfalso; first | contradiction | omega | (simp_all; done) | (simp_all; omega))
theorem c_l07Long (s : ByteArray) (M : Mem) (hs : s.size ≤ 9223372036854775807) :
    ACall Try.prog 96 [.string s] M fun v M' => v = .int .i64 (if s.size < 10 then 0 else if s.size < 11 + utT (sAt s 9).toNat then 0 else ((11 + utT (sAt s 9).toNat : Nat) : Int)) ∧ M' = M := by
  have hr := sAt_rng s 9
  have hT : utT (sAt s 9).toNat = 1 + 2 * (sAt s 9).toNat + ((sAt s 9).toNat + 7) / 8 := rfl
  skip
  skip
  skip
  refine acall_of_awp Try.func96 rfl Try.ntmps96 rfl ?_
  refine cS (cR ?_)
  refine asg rfl ?_
  refine rN ?_
  refine qN ?_
  refine cS ?_
  refine cS (cR ?_)
  refine mv rfl ?_
  refine lnS rfl ?_
  refine bLss rfl rfl ?_
  refine rN ?_
  refine qN ?_
  refine cC rfl (fun h1 => ?_) (fun h1 => ?_)
  · have h1' := h1; try simp only [inB_iff, Bool.and_eq_true, decide_eq_true_eq, decide_eq_false_iff_not, beq_iff_eq, beq_eq_false_iff_ne, bne_iff_ne, bne_eq_false_iff_eq, ne_eq] at h1'
    refine cS (cR ?_)
    refine asg rfl ?_
    refine rN ?_
    refine qN ?_
    refine cE ?_
    refine qE ?_
    refine kE rfl rfl  ?_
    first | (exfalso; contradiction) | exact ⟨_, ⟨by rw [if_pos (show s.size < 10 by omega)], rfl⟩, (by (try simp only [List.cons_append, List.nil_append, List.append_assoc]); repeat' first | with_reducible apply eR | with_reducible apply eA | ((with_reducible apply xA); · repeat first | with_reducible apply lH | with_reducible apply lT | with_reducible apply lL) | ((with_reducible apply xC); · repeat first | apply pH | with_reducible apply pT | with_reducible apply pL) | with_reducible assumption | with_reducible apply eS | with_reducible apply eL | exact eR)⟩ | (exfalso; first | contradiction | omega | (simp_all; done) | (simp_all; omega))
  · have h1' := h1; try simp only [inB_iff, Bool.and_eq_true, decide_eq_true_eq, decide_eq_false_iff_not, beq_iff_eq, beq_eq_false_iff_ne, bne_iff_ne, bne_eq_false_iff_eq, ne_eq] at h1'
    refine cK ?_
    refine qN ?_
    refine cS (cR ?_)
    refine mv rfl ?_
    refine sIx (i := 9) rfl rfl (by omega) ?_
    refine rCi (c := ((sAt s 9).toNat : Int)) rfl (by rw [wrap_i64_in (by omega) (by omega)]; omega) ?_
    refine rCq rfl (c_l07Length _ _ (by omega)) ?_
    first | refine rAn (a := 9) rfl rfl (by omega) ?_ | refine rA rfl rfl (by omega) (by omega) ?_ | refine bAdd rfl rfl ?_
    first | refine rAn (b := 2) rfl rfl (by omega) ?_ | refine rA rfl rfl (by omega) (by omega) ?_ | refine bAdd rfl rfl ?_
    refine asg rfl ?_
    refine rN ?_
    refine qN ?_
    refine cS ?_
    refine cS (cR ?_)
    refine mv rfl ?_
    refine mv rfl ?_
    refine lnS rfl ?_
    refine bGtr rfl rfl ?_
    refine rN ?_
    refine qN ?_
    refine cC rfl (fun h2 => ?_) (fun h2 => ?_)
    · have h2' := h2; try simp only [inB_iff, Bool.and_eq_true, decide_eq_true_eq, decide_eq_false_iff_not, beq_iff_eq, beq_eq_false_iff_ne, bne_iff_ne, bne_eq_false_iff_eq, ne_eq] at h2'
      refine cS (cR ?_)
      refine asg rfl ?_
      refine rN ?_
      refine qN ?_
      refine cE ?_
      refine qE ?_
      refine kE rfl rfl  ?_
      first | (exfalso; contradiction) | exact ⟨_, ⟨by rw [if_neg (show ¬ s.size < 10 by omega), if_pos (show s.size < 11 + utT (sAt s 9).toNat by omega)], rfl⟩, (by (try simp only [List.cons_append, List.nil_append, List.append_assoc]); repeat' first | with_reducible apply eR | with_reducible apply eA | ((with_reducible apply xA); · repeat first | with_reducible apply lH | with_reducible apply lT | with_reducible apply lL) | ((with_reducible apply xC); · repeat first | apply pH | with_reducible apply pT | with_reducible apply pL) | with_reducible assumption | with_reducible apply eS | with_reducible apply eL | exact eR)⟩ | (exfalso; first | contradiction | omega | (simp_all; done) | (simp_all; omega))
    · have h2' := h2; try simp only [inB_iff, Bool.and_eq_true, decide_eq_true_eq, decide_eq_false_iff_not, beq_iff_eq, beq_eq_false_iff_ne, bne_iff_ne, bne_eq_false_iff_eq, ne_eq] at h2'
      refine cK ?_
      refine qN ?_
      refine cS (cR ?_)
      refine mv rfl ?_
      refine asg rfl ?_
      refine rN ?_
      refine qN ?_
      refine cE ?_
      refine kE rfl rfl  ?_
      first | (exfalso; contradiction) | exact ⟨_, ⟨by rw [if_neg (show ¬ s.size < 10 by omega), if_neg (show ¬ s.size < 11 + utT (sAt s 9).toNat by omega)]; congr 1; omega, rfl⟩, (by (try simp only [List.cons_append, List.nil_append, List.append_assoc]); repeat' first | with_reducible apply eR | with_reducible apply eA | ((with_reducible apply xA); · repeat first | with_reducible apply lH | with_reducible apply lT | with_reducible apply lL) | ((with_reducible apply xC); · repeat first | apply pH | with_reducible apply pT | with_reducible apply pL) | with_reducible assumption | with_reducible apply eS | with_reducible apply eL | exact eR)⟩ | (exfalso; first | contradiction | omega | (simp_all; done) | (simp_all; omega))
/-! ## four bytes as a number -/
theorem wrap_u32 (n : Int) : IntKind.u32.wrap n = n % 4294967296 := by
  unfold IntKind.wrap
  simp only [IntKind.signed, IntKind.bits, Bool.false_and, Bool.false_eq_true, if_false]
  omega
theorem bit_or32 {a b : Int} (k : Nat) (ha : 0 ≤ a ∧ a < 2 ^ k) (hb : 0 ≤ b ∧ b < 256) (hk : k ≤ 24) : ibit .or .u32 a (ibit .shl .u32 b k) = a + 2 ^ k * b := by
  obtain ⟨x, rfl⟩ : ∃ x : Nat, a = x := ⟨a.toNat, by omega⟩
  obtain ⟨y, rfl⟩ : ∃ y : Nat, b = y := ⟨b.toNat, by omega⟩
  have hp : 2 ^ k ≤ 2 ^ 24 := Nat.pow_le_pow_right (by decide) hk
  have hx : x < 2 ^ k := by have := ha.2; exact_mod_cast this
  have hy : y < 256 := by omega
  have hyk : y * 2 ^ k < 2 ^ 32 := by
    calc y * 2 ^ k ≤ 255 * 2 ^ 24 := Nat.mul_le_mul (by omega) hp
      _ < 2 ^ 32 := by decide
  have hor : x + 2 ^ k * y < 2 ^ 32 := by
    have : 2 ^ k * y ≤ 2 ^ 24 * 255 := Nat.mul_le_mul hp (by omega)
    have : x < 2 ^ 24 := Nat.lt_of_lt_of_le hx hp
    omega
  have e1 : ibit .shl .u32 (y : Int) k = ((y * 2 ^ k : Nat) : Int) := by
    show IntKind.u32.wrap ((y : Int) * 2 ^ min ((k : Int)).toNat 32) = _
    rw [wrap_u32, Int.toNat_natCast, Nat.min_eq_left (by omega)]
    have : ((y : Int) * 2 ^ k) = ((y * 2 ^ k : Nat) : Int) := by push_cast; rfl
    rw [this]
    omega
  rw [e1]
  have h1 : (BitVec.ofInt 32 (x : Int) ||| BitVec.ofInt 32 ((y * 2 ^ k : Nat) : Int)).toNat = x + 2 ^ k * y := by
    rw [BitVec.toNat_or, BitVec.ofInt_natCast, BitVec.ofInt_natCast, BitVec.toNat_ofNat, BitVec.toNat_ofNat, Nat.mod_eq_of_lt (by omega), Nat.mod_eq_of_lt (by omega)]
    have h := Nat.two_pow_add_eq_or_of_lt (i := k) (b := x) hx y
    rw [Nat.or_comm, Nat.mul_comm y, ← h, Nat.add_comm]
  show IntKind.u32.wrap (((BitVec.ofInt 32 (x : Int) ||| BitVec.ofInt 32 ((y * 2 ^ k : Nat) : Int)).toNat : Nat) : Int) = _
  rw [h1, wrap_u32]
  have : ((x + 2 ^ k * y : Nat) : Int) = x + 2 ^ k * (y : Int) := by push_cast; rfl
  rw [← this]
  omega
theorem c_Uint32 (a : Option Addr) (n c : Nat) (ns : List Int) (b0 b1 b2 b3 : Int) (M : Mem) (h : RdC M (.slice a n c) n 1 (byL ns)) (hn : 4 ≤ n ∧ n ≤ 1000000) (h0 : ns.getD 0 0 = b0) (h1 : ns.getD 1 0 = b1) (h2 : ns.getD 2 0 = b2) (h3 : ns.getD 3 0 = b3) (hb0 : 0 ≤ b0 ∧ b0 < 256) (hb1 : 0 ≤ b1 ∧ b1 < 256) (hb2 : 0 ≤ b2 ∧ b2 < 256) (hb3 : 0 ≤ b3 ∧ b3 < 256) :
    ACall Try.prog 98 [.agg #[], .slice a n c] M fun v M' => v = .int .u32 (b0 + 256 * b1 + 65536 * b2 + 16777216 * b3) ∧ M' = M := by
  subst h0 h1 h2 h3
  skip
  skip
  skip
  skip
  skip
  skip
  skip
  skip
  skip
  skip
  skip
  refine acall_of_awp Try.func98 rfl Try.ntmps98 rfl ?_
  refine cS (cR ?_)
  first | (refine rXa rfl ?_; intro bk1) | (refine rX rfl rfl ?_; intro bk1)
  refine asg rfl ?_
  refine rN ?_
  refine qN ?_
  refine cS (cR ?_)
  refine mv rfl ?_
  first
    | refine ixN rfl rfl (by first | (apply RdC.aok; with_reducible assumption) | exact AOk.own | (apply RdD.aok; with_reducible assumption) | (apply RdD.aok; apply OwD.rdD; with_reducible assumption) | (apply RdI.aok; with_reducible assumption) | (apply RdW.aok; with_reducible assumption) | (apply RdI.aok; apply OwI.rdI; with_reducible assumption) | with_reducible assumption | (apply RdF.aok; with_reducible assumption) | (apply RdF.aok; apply OwF.rdF; with_reducible assumption)) (by first | with_reducible assumption | omega) ?_
    | refine ixI rfl rfl (by first | (apply RdC.aok; with_reducible assumption) | exact AOk.own | (apply RdD.aok; with_reducible assumption) | (apply RdD.aok; apply OwD.rdD; with_reducible assumption) | (apply RdI.aok; with_reducible assumption) | (apply RdW.aok; with_reducible assumption) | (apply RdI.aok; apply OwI.rdI; with_reducible assumption) | with_reducible assumption | (apply RdF.aok; with_reducible assumption) | (apply RdF.aok; apply OwF.rdF; with_reducible assumption)) (by omega) (by omega) ?_
  refine ldB rfl (by first | with_reducible assumption | (apply RdC.mono; (· with_reducible assumption); · (try simp only [List.cons_append, List.nil_append, List.append_assoc]); repeat' first | with_reducible apply eR | with_reducible apply eA | ((with_reducible apply xA); · repeat first | with_reducible apply lH | with_reducible apply lT | with_reducible apply lL) | ((with_reducible apply xC); · repeat first | apply pH | with_reducible apply pT | with_reducible apply pL) | with_reducible assumption | with_reducible apply eS | with_reducible apply eL | exact eR) | (apply RdC.mono; (· (apply OwC.rdC; with_reducible assumption)); · (try simp only [List.cons_append, List.nil_append, List.append_assoc]); repeat' first | with_reducible apply eR | with_reducible apply eA | ((with_reducible apply xA); · repeat first | with_reducible apply lH | with_reducible apply lT | with_reducible apply lL) | ((with_reducible apply xC); · repeat first | apply pH | with_reducible apply pT | with_reducible apply pL) | with_reducible assumption | with_reducible apply eS | with_reducible apply eL | exact eR)) (by first | with_reducible assumption | omega) ?_
  refine rN ?_
  refine qN ?_
  refine cS ?_
  refine cD [] [(0, true), (1, true), (2, true), (3, true), (4, true), (5, true), (6, true), (7, true), (8, true), (9, true), (10, true), (11, true), (12, true), (13, true), (14, true), (15, true), (16, false), (17, false), (18, false), (19, false), (20, false), (21, false), (22, false)] (by repeat first | exact fineT | exact fineL | exact fineLQ1 | exact fineLQ2 | exact fineLQ3 | exact fineLQ4 | exact fineLQ5 | exact fineLQ6 | exact fineR | refine fineB ?_) (by kernel_rfl) ?_
  simp only [pick, List.getElem?_toArray, List.getElem?_cons_zero, List.getElem?_cons_succ]
  refine mv rfl ?_
  first
    | refine ixN rfl rfl (by first | (apply RdC.aok; with_reducible assumption) | exact AOk.own | (apply RdD.aok; with_reducible assumption) | (apply RdD.aok; apply OwD.rdD; with_reducible assumption) | (apply RdI.aok; with_reducible assumption) | (apply RdW.aok; with_reducible assumption) | (apply RdI.aok; apply OwI.rdI; with_reducible assumption) | with_reducible assumption | (apply RdF.aok; with_reducible assumption) | (apply RdF.aok; apply OwF.rdF; with_reducible assumption)) (by first | with_reducible assumption | omega) ?_
    | refine ixI rfl rfl (by first | (apply RdC.aok; with_reducible assumption) | exact AOk.own | (apply RdD.aok; with_reducible assumption) | (apply RdD.aok; apply OwD.rdD; with_reducible assumption) | (apply RdI.aok; with_reducible assumption) | (apply RdW.aok; with_reducible assumption) | (apply RdI.aok; apply OwI.rdI; with_reducible assumption) | with_reducible assumption | (apply RdF.aok; with_reducible assumption) | (apply RdF.aok; apply OwF.rdF; with_reducible assumption)) (by omega) (by omega) ?_
  refine ldB rfl (by first | with_reducible assumption | (apply RdC.mono; (· with_reducible assumption); · (try simp only [List.cons_append, List.nil_append, List.append_assoc]); repeat' first | with_reducible apply eR | with_reducible apply eA | ((with_reducible apply xA); · repeat first | with_reducible apply lH | with_reducible apply lT | with_reducible apply lL) | ((with_reducible apply xC); · repeat first | apply pH | with_reducible apply pT | with_reducible apply pL) | with_reducible assumption | with_reducible apply eS | with_reducible apply eL | exact eR) | (apply RdC.mono; (· (apply OwC.rdC; with_reducible assumption)); · (try simp only [List.cons_append, List.nil_append, List.append_assoc]); repeat' first | with_reducible apply eR | with_reducible apply eA | ((with_reducible apply xA); · repeat first | with_reducible apply lH | with_reducible apply lT | with_reducible apply lL) | ((with_reducible apply xC); · repeat first | apply pH | with_reducible apply pT | with_reducible apply pL) | with_reducible assumption | with_reducible apply eS | with_reducible apply eL | exact eR)) (by first | with_reducible assumption | omega) ?_
  refine rCi (c := ns.getD 0 0) rfl (by rw [wrap_u32]; show ns.getD 0 0 % 4294967296 = ns.getD 0 0; omega) ?_
  refine mv rfl ?_
  first
    | refine ixN rfl rfl (by first | (apply RdC.aok; with_reducible assumption) | exact AOk.own | (apply RdD.aok; with_reducible assumption) | (apply RdD.aok; apply OwD.rdD; with_reducible assumption) | (apply RdI.aok; with_reducible assumption) | (apply RdW.aok; with_reducible assumption) | (apply RdI.aok; apply OwI.rdI; with_reducible assumption) | with_reducible assumption | (apply RdF.aok; with_reducible assumption) | (apply RdF.aok; apply OwF.rdF; with_reducible assumption)) (by first | with_reducible assumption | omega) ?_
    | refine ixI rfl rfl (by first | (apply RdC.aok; with_reducible assumption) | exact AOk.own | (apply RdD.aok; with_reducible assumption) | (apply RdD.aok; apply OwD.rdD; with_reducible assumption) | (apply RdI.aok; with_reducible assumption) | (apply RdW.aok; with_reducible assumption) | (apply RdI.aok; apply OwI.rdI; with_reducible assumption) | with_reducible assumption | (apply RdF.aok; with_reducible assumption) | (apply RdF.aok; apply OwF.rdF; with_reducible assumption)) (by omega) (by omega) ?_
  refine ldB rfl (by first | with_reducible assumption | (apply RdC.mono; (· with_reducible assumption); · (try simp only [List.cons_append, List.nil_append, List.append_assoc]); repeat' first | with_reducible apply eR | with_reducible apply eA | ((with_reducible apply xA); · repeat first | with_reducible apply lH | with_reducible apply lT | with_reducible apply lL) | ((with_reducible apply xC); · repeat first | apply pH | with_reducible apply pT | with_reducible apply pL) | with_reducible assumption | with_reducible apply eS | with_reducible apply eL | exact eR) | (apply RdC.mono; (· (apply OwC.rdC; with_reducible assumption)); · (try simp only [List.cons_append, List.nil_append, List.append_assoc]); repeat' first | with_reducible apply eR | with_reducible apply eA | ((with_reducible apply xA); · repeat first | with_reducible apply lH | with_reducible apply lT | with_reducible apply lL) | ((with_reducible apply xC); · repeat first | apply pH | with_reducible apply pT | with_reducible apply pL) | with_reducible assumption | with_reducible apply eS | with_reducible apply eL | exact eR)) (by first | with_reducible assumption | omega) ?_
  refine rCi (c := ns.getD 1 0) rfl (by rw [wrap_u32]; show ns.getD 1 0 % 4294967296 = ns.getD 1 0; omega) ?_
  refine rSh rfl rfl rfl (by omega) ?_
  refine rBt rfl rfl rfl ?_
  refine mv rfl ?_
  first
    | refine ixN rfl rfl (by first | (apply RdC.aok; with_reducible assumption) | exact AOk.own | (apply RdD.aok; with_reducible assumption) | (apply RdD.aok; apply OwD.rdD; with_reducible assumption) | (apply RdI.aok; with_reducible assumption) | (apply RdW.aok; with_reducible assumption) | (apply RdI.aok; apply OwI.rdI; with_reducible assumption) | with_reducible assumption | (apply RdF.aok; with_reducible assumption) | (apply RdF.aok; apply OwF.rdF; with_reducible assumption)) (by first | with_reducible assumption | omega) ?_
    | refine ixI rfl rfl (by first | (apply RdC.aok; with_reducible assumption) | exact AOk.own | (apply RdD.aok; with_reducible assumption) | (apply RdD.aok; apply OwD.rdD; with_reducible assumption) | (apply RdI.aok; with_reducible assumption) | (apply RdW.aok; with_reducible assumption) | (apply RdI.aok; apply OwI.rdI; with_reducible assumption) | with_reducible assumption | (apply RdF.aok; with_reducible assumption) | (apply RdF.aok; apply OwF.rdF; with_reducible assumption)) (by omega) (by omega) ?_
  refine ldB rfl (by first | with_reducible assumption | (apply RdC.mono; (· with_reducible assumption); · (try simp only [List.cons_append, List.nil_append, List.append_assoc]); repeat' first | with_reducible apply eR | with_reducible apply eA | ((with_reducible apply xA); · repeat first | with_reducible apply lH | with_reducible apply lT | with_reducible apply lL) | ((with_reducible apply xC); · repeat first | apply pH | with_reducible apply pT | with_reducible apply pL) | with_reducible assumption | with_reducible apply eS | with_reducible apply eL | exact eR) | (apply RdC.mono; (· (apply OwC.rdC; with_reducible assumption)); · (try simp only [List.cons_append, List.nil_append, List.append_assoc]); repeat' first | with_reducible apply eR | with_reducible apply eA | ((with_reducible apply xA); · repeat first | with_reducible apply lH | with_reducible apply lT | with_reducible apply lL) | ((with_reducible apply xC); · repeat first | apply pH | with_reducible apply pT | with_reducible apply pL) | with_reducible assumption | with_reducible apply eS | with_reducible apply eL | exact eR)) (by first | with_reducible assumption | omega) ?_
  refine rCi (c := ns.getD 2 0) rfl (by rw [wrap_u32]; show ns.getD 2 0 % 4294967296 = ns.getD 2 0; omega) ?_
  refine rSh rfl rfl rfl (by omega) ?_
  refine rBt rfl rfl rfl ?_
  refine mv rfl ?_
  first
    | refine ixN rfl rfl (by first | (apply RdC.aok; with_reducible assumption) | exact AOk.own | (apply RdD.aok; with_reducible assumption) | (apply RdD.aok; apply OwD.rdD; with_reducible assumption) | (apply RdI.aok; with_reducible assumption) | (apply RdW.aok; with_reducible assumption) | (apply RdI.aok; apply OwI.rdI; with_reducible assumption) | with_reducible assumption | (apply RdF.aok; with_reducible assumption) | (apply RdF.aok; apply OwF.rdF; with_reducible assumption)) (by first | with_reducible assumption | omega) ?_
    | refine ixI rfl rfl (by first | (apply RdC.aok; with_reducible assumption) | exact AOk.own | (apply RdD.aok; with_reducible assumption) | (apply RdD.aok; apply OwD.rdD; with_reducible assumption) | (apply RdI.aok; with_reducible assumption) | (apply RdW.aok; with_reducible assumption) | (apply RdI.aok; apply OwI.rdI; with_reducible assumption) | with_reducible assumption | (apply RdF.aok; with_reducible assumption) | (apply RdF.aok; apply OwF.rdF; with_reducible assumption)) (by omega) (by omega) ?_
  refine ldB rfl (by first | with_reducible assumption | (apply RdC.mono; (· with_reducible assumption); · (try simp only [List.cons_append, List.nil_append, List.append_assoc]); repeat' first | with_reducible apply eR | with_reducible apply eA | ((with_reducible apply xA); · repeat first | with_reducible apply lH | with_reducible apply lT | with_reducible apply lL) | ((with_reducible apply xC); · repeat first | apply pH | with_reducible apply pT | with_reducible apply pL) | with_reducible assumption | with_reducible apply eS | with_reducible apply eL | exact eR) | (apply RdC.mono; (· (apply OwC.rdC; with_reducible assumption)); · (try simp only [List.cons_append, List.nil_append, List.append_assoc]); repeat' first | with_reducible apply eR | with_reducible apply eA | ((with_reducible apply xA); · repeat first | with_reducible apply lH | with_reducible apply lT | with_reducible apply lL) | ((with_reducible apply xC); · repeat first | apply pH | with_reducible apply pT | with_reducible apply pL) | with_reducible assumption | with_reducible apply eS | with_reducible apply eL | exact eR)) (by first | with_reducible assumption | omega) ?_
  refine rCi (c := ns.getD 3 0) rfl (by rw [wrap_u32]; show ns.getD 3 0 % 4294967296 = ns.getD 3 0; omega) ?_
  refine rSh rfl rfl rfl (by omega) ?_
  refine rBt rfl rfl rfl ?_
  refine asg rfl ?_
  refine rN ?_
  refine qN ?_
  refine cE ?_
  skip
  have e1 : ibit .or .u32 (ns.getD 0 0) (ibit .shl .u32 (ns.getD 1 0) 8) = ns.getD 0 0 + 256 * ns.getD 1 0 := bit_or32 8 ⟨hb0.1, hb0.2⟩ hb1 (by decide)
  have e2 : ibit .or .u32 (ns.getD 0 0 + 256 * ns.getD 1 0) (ibit .shl .u32 (ns.getD 2 0) 16) = ns.getD 0 0 + 256 * ns.getD 1 0 + 65536 * ns.getD 2 0 := bit_or32 16 ⟨by omega, by show _ < (65536 : Int); omega⟩ hb2 (by decide)
  have e3 : ibit .or .u32 (ns.getD 0 0 + 256 * ns.getD 1 0 + 65536 * ns.getD 2 0) (ibit .shl .u32 (ns.getD 3 0) 24) = ns.getD 0 0 + 256 * ns.getD 1 0 + 65536 * ns.getD 2 0 + 16777216 * ns.getD 3 0 := bit_or32 24 ⟨by omega, by show _ < (16777216 : Int); omega⟩ hb3 (by decide)
  refine kE rfl rfl  ?_
  first | (exfalso; contradiction) | exact ⟨_, ⟨by rw [e1, e2, e3], rfl⟩, (by (try simp only [List.cons_append, List.nil_append, List.append_assoc]); repeat' first | with_reducible apply eR | with_reducible apply eA | ((with_reducible apply xA); · repeat first | with_reducible apply lH | with_reducible apply lT | with_reducible apply lL) | ((with_reducible apply xC); · repeat first | apply pH | with_reducible apply pT | with_reducible apply pL) | with_reducible assumption | with_reducible apply eS | with_reducible apply eL | exact eR)⟩ | (exfalso; first | contradiction | omega | (simp_all; done) | (simp_all; omega))
end Go.Proofs.Ytimdimgihlojcaa.Ab
