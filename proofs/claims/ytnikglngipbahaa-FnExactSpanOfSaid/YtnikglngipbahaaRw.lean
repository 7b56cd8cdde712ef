/-
  Lists of frames of the call's own.
-/
import Derived.Test.YtnikglngipbahaaFl
import Derived.Test.YtnikglngipbahaaOw
import Derived.Test.YtnikglngipbahaaDl
import Derived.Test.YtnikglngipbahaaDn
namespace Go.Proofs.Ytnikglngipbahaa.Ab
open Go Go.RowKit
set_option linter.unusedVariables false
set_option linter.unusedSimpArgs false

/-- the cells of frames whose traces are these slices -/
def triL (fs : List Frm) (vs : List Value) : List Tri := List.zipWith (fun f v => (.int .i64 f.w, .int .i64 f.d, v)) fs vs
theorem triL_len {fs : List Frm} {vs : List Value} (h : vs.length = fs.length) : (triL fs vs).length = fs.length := by
  unfold triL; rw [List.length_zipWith, h, Nat.min_self]
theorem triL_get {fs : List Frm} {vs : List Value} {i : Nat} (h : vs.length = fs.length) (hi : i < fs.length) : (triL fs vs).getD i z3 = (.int .i64 (fs.getD i zR).w, .int .i64 (fs.getD i zR).d, vs.getD i zS) := by
  have h2 : i < vs.length := by omega
  simp [triL, List.getD, hi, h2, List.getElem?_zipWith]
theorem triL_snoc {fs : List Frm} {vs : List Value} {f : Frm} {v : Value} (h : vs.length = fs.length) : triL (fs ++ [f]) (vs ++ [v]) = triL fs vs ++ [(.int .i64 f.w, .int .i64 f.d, v)] := by
  unfold triL; rw [List.zipWith_append h.symm]; rfl
theorem triL_app {fs gs : List Frm} {vs us : List Value} (h : vs.length = fs.length) : triL (fs ++ gs) (vs ++ us) = triL fs vs ++ triL gs us := by
  unfold triL; rw [List.zipWith_append h.symm]
theorem triL_take {fs : List Frm} {vs : List Value} {k : Nat} : triL (fs.take k) (vs.take k) = (triL fs vs).take k := by
  unfold triL; rw [List.take_zipWith]
theorem triL_drop {fs : List Frm} {vs : List Value} {k : Nat} : triL (fs.drop k) (vs.drop k) = (triL fs vs).drop k := by
  unfold triL; rw [List.drop_zipWith]
theorem tcs_app (a b : List Tri) : tcs (a ++ b) = tcs a ++ tcs b := by
  induction a with
  | nil => rfl
  | cons p a ih => show t3 p ++ tcs (a ++ b) = (t3 p ++ tcs a) ++ tcs b; rw [ih, List.append_assoc]
theorem tcs_take : ∀ (a : List Tri) (k : Nat), (tcs a).take (k * 3) = tcs (a.take k)
  | [], k => by simp [tcs]
  | p :: a, 0 => by simp [tcs]
  | p :: a, k + 1 => by
    show (t3 p ++ tcs a).take ((k + 1) * 3) = t3 p ++ tcs (a.take k)
    rw [← tcs_take a k, show (k + 1) * 3 = (t3 p).length + k * 3 from by simp; omega, List.take_length_add_append]
theorem tcs_drop : ∀ (a : List Tri) (k : Nat), (tcs a).drop (k * 3) = tcs (a.drop k)
  | [], k => by simp [tcs]
  | p :: a, 0 => by simp [tcs]
  | p :: a, k + 1 => by
    show (t3 p ++ tcs a).drop ((k + 1) * 3) = tcs (a.drop k)
    rw [← tcs_drop a k, show (k + 1) * 3 = (t3 p).length + k * 3 from by simp; omega, List.drop_length_add_append]
theorem tcs_set0 : ∀ (a : List Tri) (i : Nat) (v : Value), i < a.length → (tcs a).set (i * 3 + 0) v = tcs (a.set i (v, (a.getD i z3).2.1, (a.getD i z3).2.2))
  | [], i, v, h => by simp at h
  | p :: a, 0, v, h => rfl
  | p :: a, i + 1, v, h => by
    show (t3 p ++ tcs a).set ((i + 1) * 3 + 0) v = t3 p ++ tcs (a.set i _)
    rw [List.set_append_right _ _ (by simp; omega), show (i + 1) * 3 + 0 - (t3 p).length = i * 3 + 0 from by simp; omega, tcs_set0 a i v (by simpa using h)]
    rfl
theorem tcs_set1 : ∀ (a : List Tri) (i : Nat) (v : Value), i < a.length → (tcs a).set (i * 3 + 1) v = tcs (a.set i ((a.getD i z3).1, v, (a.getD i z3).2.2))
  | [], i, v, h => by simp at h
  | p :: a, 0, v, h => rfl
  | p :: a, i + 1, v, h => by
    show (t3 p ++ tcs a).set ((i + 1) * 3 + 1) v = t3 p ++ tcs (a.set i _)
    rw [List.set_append_right _ _ (by simp; omega), show (i + 1) * 3 + 1 - (t3 p).length = i * 3 + 1 from by simp; omega, tcs_set1 a i v (by simpa using h)]
    rfl
theorem triL_flat {fs : List Frm} {vs : List Value} (hv : ∀ v ∈ vs, flatV v = true) : ∀ u ∈ tcs (triL fs vs), flatV u = true := by
  induction fs generalizing vs with
  | nil => intro u hu; simp [triL, tcs] at hu
  | cons f fs ih =>
    cases vs with
    | nil => intro u hu; simp [triL, tcs] at hu
    | cons v vs =>
      intro u hu
      have hu' : u ∈ t3 (.int .i64 f.w, .int .i64 f.d, v) ++ tcs (triL fs vs) := hu
      rcases List.mem_append.1 hu' with h | h
      · simp only [t3, List.mem_cons, List.not_mem_nil, or_false] at h
        rcases h with rfl | rfl | rfl
        · rfl
        · rfl
        · exact hv _ List.mem_cons_self
      · exact ih (fun w hw => hv w (List.mem_cons_of_mem _ hw)) u h
theorem OwL.flat : ∀ {vs : List Value} {xss : List (List Nat)} {L : Mem}, OwL L vs xss → ∀ v ∈ vs, flatV v = true
  | [], [], _, _ => fun v hv => by cases hv
  | u :: vs, xs :: xss, _, ⟨L1, L2, h1, h2, h3⟩ => fun v hv => by
    rcases List.mem_cons.1 hv with rfl | hv
    · obtain ⟨a, c, rfl, _⟩ := h1.rd; rfl
    · exact h2.flat v hv
theorem map_getD {fs : List Frm} {i : Nat} (hi : i < fs.length) : (fs.map Frm.xs).getD i [] = (fs.getD i zR).xs := by simp [List.getD, hi]
theorem take_succR {fs : List Frm} {i : Nat} (hi : i < fs.length) : fs.take (i + 1) = fs.take i ++ [fs.getD i zR] := by
  rw [List.take_succ_eq_append_getElem hi]; simp [List.getD, hi]
/-- a list of frames of the call's own, each trace in memory of its own -/
def OwR (L : Mem) (v : Value) (fs : List Frm) : Prop := ∃ Lo Li vs, OwC 3 Lo v fs.length (tcs (triL fs vs)) ∧ OwL Li vs (fs.map Frm.xs) ∧ L = Lo ++ Li
theorem OwR.nil {a : Option Addr} : OwR [] (.slice a 0 0) [] := ⟨[], [], [], OwC.nil, rfl, rfl⟩
theorem OwR.rd {L : Mem} {v : Value} {fs : List Frm} (h : OwR L v fs) : ∃ a c, v = .slice a fs.length c ∧ RdR L a fs.length fs := by
  obtain ⟨Lo, Li, vs, h1, h2, rfl⟩ := h
  have hvl : vs.length = fs.length := by rw [h2.len, List.length_map]
  have hrl := h2.rdL
  rcases h1 with ⟨⟨a, rfl⟩, h0, _, rfl⟩ | ⟨b, cap, rest, rfl, _, _, _, rfl⟩
  · exact ⟨a, 0, by rw [h0], rfl, .inl h0⟩
  · refine ⟨_, cap, rfl, rfl, .inr ⟨b, 0, rfl, fun i hi => ?_⟩⟩
    obtain ⟨a', c', e1, e2⟩ := hrl.2 i (by rw [List.length_map]; exact hi)
    rw [map_getD hi] at e1 e2
    have hil : i < (triL fs vs).length := by rw [triL_len hvl]; exact hi
    have hget : ∀ j, j < 3 → (tcs (triL fs vs) ++ rest)[0 + i * 3 + j]? = (t3 (.int .i64 (fs.getD i zR).w, .int .i64 (fs.getD i zR).d, vs.getD i zS))[j]? := by
      intro j hj
      rw [Nat.zero_add, List.getElem?_append_left (by rw [tcs_len]; omega), tcs_get _ i j hil hj, triL_get hvl hi]
    refine ⟨_, a', c', List.mem_append_left _ List.mem_cons_self, hget 0 (by decide), hget 1 (by decide), (hget 2 (by decide)).trans ?_, e2.mono (ext_append _ _)⟩
    rw [e1]; rfl
theorem OwR.rdR {L : Mem} {a : Option Addr} {m c : Nat} {fs : List Frm} (h : OwR L (.slice a m c) fs) : RdR L a m fs := by
  obtain ⟨_, _, hv, h⟩ := h.rd
  obtain ⟨rfl, h2, _⟩ := Value.slice.inj hv
  rw [h2]; exact h
theorem OwR.len {L : Mem} {a : Option Addr} {m c : Nat} {fs : List Frm} (h : OwR L (.slice a m c) fs) : fs.length = m := h.rdR.1
theorem OwR.capl {L : Mem} {a : Option Addr} {m c : Nat} {fs : List Frm} (h : OwR L (.slice a m c) fs) : m ≤ c := by
  obtain ⟨Lo, Li, vs, h1, h2, rfl⟩ := h
  obtain ⟨a', c', hv, hc, _⟩ := h1.shape
  obtain ⟨_, h2, h3⟩ := Value.slice.inj hv; omega
/-! ## sizes and marks -/
def totR (fs : List Frm) : Nat := 2 * fs.length + totL (fs.map Frm.xs)
def mkRs : Nat → List Frm → List Frm
  | _, [] => []
  | k, f :: fs => ⟨(k : Nat), ((k + 1 : Nat) : Int), marks (k + 2) f.xs.length⟩ :: mkRs (k + 2 + f.xs.length) fs
theorem mkRs_len : ∀ (fs : List Frm) (k : Nat), (mkRs k fs).length = fs.length
  | [], _ => rfl
  | f :: fs, k => by show (mkRs _ fs).length + 1 = _; rw [mkRs_len fs]; rfl
theorem totR_cons (f : Frm) (fs : List Frm) : totR (f :: fs) = 2 + f.xs.length + totR fs := by
  show 2 * (fs.length + 1) + (f.xs.length + totL (fs.map Frm.xs)) = 2 + f.xs.length + (2 * fs.length + totL (fs.map Frm.xs)); omega
theorem mkRs_get : ∀ (fs : List Frm) (k i : Nat), i < fs.length → (mkRs k fs).getD i zR = ⟨((k + totR (fs.take i) : Nat) : Int), ((k + totR (fs.take i) + 1 : Nat) : Int), marks (k + totR (fs.take i) + 2) (fs.getD i zR).xs.length⟩
  | [], _, _, h => by simp at h
  | f :: fs, k, 0, h => by simp [mkRs, totR, totL]
  | f :: fs, k, i + 1, h => by
    show (mkRs (k + 2 + f.xs.length) fs).getD i zR = _
    rw [mkRs_get fs _ i (by simpa using h)]
    have e : k + 2 + f.xs.length + totR (fs.take i) = k + totR ((f :: fs).take (i + 1)) := by
      show _ = k + totR (f :: fs.take i); rw [totR_cons]; omega
    rw [e]; rfl
theorem totR_succ : ∀ {fs : List Frm} {i : Nat}, i < fs.length → totR (fs.take (i + 1)) = totR (fs.take i) + 2 + (fs.getD i zR).xs.length
  | [], _, h => by simp at h
  | f :: fs, 0, h => by show totR [f] = totR [] + 2 + f.xs.length; simp [totR, totL]
  | f :: fs, i + 1, h => by
    show totR (f :: fs.take (i + 1)) = totR (f :: fs.take i) + 2 + (fs.getD i zR).xs.length
    rw [totR_cons, totR_cons, totR_succ (by simpa using h)]; omega
theorem totR_take : ∀ (fs : List Frm) (i : Nat), totR (fs.take i) ≤ totR fs
  | [], i => by simp
  | f :: fs, 0 => by simp [totR, totL]
  | f :: fs, i + 1 => by
    show totR (f :: fs.take i) ≤ totR (f :: fs)
    rw [totR_cons, totR_cons]; have := totR_take fs i; omega
theorem mkRs_xs : ∀ (fs : List Frm) (k : Nat), (mkRs k fs).map (fun f => f.xs.length) = fs.map (fun f => f.xs.length)
  | [], _ => rfl
  | f :: fs, k => by show (marks (k + 2) f.xs.length).length :: _ = _ :: _; rw [marks_len, mkRs_xs fs]
def cpR (xss yss : List Frm) (i : Nat) : List Frm := xss.take i ++ yss.drop i
theorem cpR_zero (xss yss : List Frm) : cpR xss yss 0 = yss := by simp [cpR]
theorem cpR_all {xss yss : List Frm} (h : yss.length = xss.length) : cpR xss yss xss.length = xss := by
  unfold cpR; rw [List.take_length, ← h, List.drop_length, List.append_nil]
theorem cpR_len {xss yss : List Frm} {k : Nat} (h : yss.length = xss.length) : (cpR xss yss k).length = xss.length := by simp [cpR]; omega
theorem cpR_get {xss yss : List Frm} {k : Nat} (h : yss.length = xss.length) (hk : k < xss.length) : (cpR xss yss k).getD k zR = yss.getD k zR := by
  unfold cpR
  have e : (xss.take k).length = k := by rw [List.length_take]; omega
  rw [List.getD_eq_getElem?_getD, List.getElem?_append_right (by omega), e, List.getElem?_drop, Nat.sub_self, Nat.add_zero]
  rfl
theorem cpR_set {xss yss : List Frm} {k : Nat} (h : yss.length = xss.length) (hk : k < xss.length) : (cpR xss yss k).set k (xss.getD k zR) = cpR xss yss (k + 1) := by
  unfold cpR
  have e : (xss.take k).length = k := by rw [List.length_take]; omega
  have hy : k < yss.length := by omega
  rw [List.set_append_right _ _ (by omega), e, Nat.sub_self, List.drop_eq_getElem_cons hy, List.set_cons_zero,
    List.take_succ_eq_append_getElem hk, List.append_assoc]
  simp [List.getD, hk]
theorem triL_set {fs : List Frm} {vs : List Value} {i : Nat} {f : Frm} (h : vs.length = fs.length) (hi : i < fs.length) : (triL fs vs).set i (.int .i64 f.w, .int .i64 f.d, vs.getD i zS) = triL (fs.set i f) vs := by
  have h2 : i < vs.length := by omega
  apply List.ext_getElem?
  intro j
  unfold triL
  rw [List.getElem?_set, List.getElem?_zipWith, List.getElem?_zipWith, List.getElem?_set]
  by_cases e : i = j
  · subst e
    simp [hi, h2, List.getD]; omega
  · simp [e]
end Go.Proofs.Ytnikglngipbahaa.Ab
