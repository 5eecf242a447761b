/- What makes configurations and boxes. No condition. -/
import Derived.Test.YtamghkoanamapaaGh
namespace Go.AM.Try
open Go.Proofs
set_option maxRecDepth 100000
set_option linter.unusedSimpArgs false
set_option linter.unusedVariables false
attribute [-simp] Bool.decide_and Bool.decide_or
set_option pp.deepTerms false
set_option pp.maxSteps 2500
theorem good22 : fnB Try.prog 22 = true := by kernel_rfl
theorem good27 : fnB Try.prog 27 = true := by kernel_rfl
theorem good33 : fnB Try.prog 33 = true := by kernel_rfl
theorem good60 : fnB Try.prog 60 = true := by kernel_rfl

/-- A fold over the first k. -/
def fdS {σ α : Type} (f : σ → α → σ) (s : σ) (xs : List α) (k : Nat) : σ := (xs.take k).foldl f s
theorem fdS_zero {σ α : Type} {f : σ → α → σ} {s : σ} {xs : List α} : fdS f s xs 0 = s := rfl
theorem fdS_succ {σ α : Type} {f : σ → α → σ} {s : σ} {xs : List α} {k : Nat} (hk : k < xs.length) : fdS f s xs (k + 1) = f (fdS f s xs k) xs[k] := by
  unfold fdS
  rw [List.take_succ_eq_append_getElem hk, List.foldl_append]
  rfl
theorem fdS_all {σ α : Type} {f : σ → α → σ} {s : σ} {xs : List α} : fdS f s xs xs.length = xs.foldl f s := by unfold fdS; rw [List.take_length]
theorem fdS_inv {σ α : Type} {f : σ → α → σ} {s : σ} {xs : List α} (I : Nat → σ → Prop) (h0 : I 0 s) (hs : ∀ i st (hi : i < xs.length), I i st → I (i + 1) (f st xs[i])) : ∀ k, k ≤ xs.length → I k (fdS f s xs k)
  | 0, _ => h0
  | k + 1, hk => by rw [fdS_succ (by omega)]; exact hs k _ (by omega) (fdS_inv I h0 hs k (by omega))

def LimOK (j : Jt) : Prop := j.lo ≤ j.hi ∧ -131072 ≤ j.lo ∧ j.hi ≤ 131072
def cfStep (L : List Int) (st : List Int × Nat) (j : Jt) : List Int × Nat :=
  if nx L st.2 6 = 0 then (st.1 ++ [j.lo], st.2 + 1) else if nx L st.2 6 = 1 then (st.1 ++ [j.hi], st.2 + 1) else (st.1 ++ [j.lo + nx L (st.2 + 1) (j.hi - j.lo + 1)], st.2 + 1 + 1)
/-- A configuration. -/
def cfF (L : List Int) (js : List Jt) : List Int := (js.foldl (cfStep L) ([], 0)).1
theorem cfS_len {L : List Int} {js : List Jt} (k : Nat) (hk : k ≤ js.length) : (fdS (cfStep L) ([], 0) js k).1.length = k :=
  fdS_inv (fun i (st : List Int × Nat) => st.1.length = i) rfl (fun i st hi h => by simp only [cfStep]; split <;> (try split) <;> simp [h]) k hk

theorem c22 {h : AH} {ja a : Option Addr} {jn jc n c : Nat} {ms : Value} {js : List Jt} {L : List Int} (SJ : Sl tJ h ja jn jc js) (S : Sl tZ h a n c L) (hjn : jn ≤ 1000000) (hn : n ≤ 4611686018427387904) (hl : ∀ j ∈ js, LimOK j) :
    callP Try.prog 22 [.agg #[.slice ja jn jc, ms], .slice a n c] h =
      some (if js.length = 0 then (.slice none 0 0, h) else (slV h.length (cfF L js), h ++ [.cells (tN.flat (cfF L js)) 2 false])) := by
  refine call_of good22 Try.func22 rfl rfl ?_
  obtain ⟨B, hB⟩ : ∃ B : Nat → AH, ∀ m, B m = h ++ [.cells [.slice ja jn jc, ms] 42 false, srcB a n c m] := ⟨_, fun _ => rfl⟩
  have hjl := SJ.len
  subst hjl
  have lB : ∀ m, (B m).length = h.length + 2 := fun m => by simp [hB]
  have cN : ∀ Y m (k : Int), 0 < k → k ≤ 9223372036854775807 → callP Try.prog 47 [.pointer (some ⟨h.length + 1, 0, none⟩), .int .i64 k] (B m ++ Y) = some (.int .i64 (nx L m k), B (m + 1) ++ Y) := fun Y m k hk hk' => by
    have := c47 (S.app [.cells [.slice ja js.length jc, ms] 42 false]) hn hk hk' (G := Y) (m := m)
    simpa [hB] using this
  have SB : ∀ Y m, Sl tJ (B m ++ Y) ja js.length jc js := fun Y m => by rw [hB, List.append_assoc]; exact SJ.app _
  have gB : ∀ m Y k, (B m ++ Y)[h.length + 2 + k]? = Y[k]? := fun m Y k => by rw [← lB m, get_off]
  have gX : ∀ m Y, (B m ++ Y)[h.length]? = some (.cells [.slice ja js.length jc, ms] 42 false) := fun m Y => by rw [hB, List.append_assoc, get_at]; rfl
  have hB0 : h ++ [.cells [.slice ja js.length jc, ms] 42 false, srcB a n c 0] = B 0 ++ [] := by rw [hB]; simp
  simp [c46, hB0]
  refine W_loop_up js.length (fun i s h' => ∃ X p, h' = B (fdS (cfStep L) ([], 0) js i).2 ++ X ∧ ((fdS (cfStep L) ([], 0) js i).1.length ≠ 0 → X[p]? = some (.cells (tN.flat (fdS (cfStep L) ([], 0) js i).1) 2 false)) ∧
    s 7 = .int .i64 i ∧ s 5 = .pointer (some ⟨h.length + 1, 0, none⟩) ∧ s 2 = .pointer (some ⟨h.length, 0, none⟩) ∧ s 6 = slV (h.length + 2 + p) (fdS (cfStep L) ([], 0) js i).1) ?_ ?_ 0 _ _ (Nat.zero_le _) ⟨[], 0, by simp [fdS_zero], by simp [fdS_zero], by simp, by simp, by simp, by simp [fdS_zero, slV]⟩
  · rintro i s h' hi ⟨X, p, rfl, hX, h7, h5, h2, h6⟩
    have hlen := cfS_len (L := L) (js := js) i (by omega)
    rw [fdS_succ hi]
    generalize fdS (cfStep L) ([], 0) js i = st at *
    obtain ⟨out, m⟩ := st
    dsimp only at *
    have hlim := hl js[i] (List.getElem_mem _)
    obtain ⟨l1, l2, l3⟩ := hlim
    have hap := fun m' x => append_2 (h := B m') (Y := []) (X := X) (p := p) (ys := out) (x := x) tN Try.underlying23 elem2 rfl hX (by decide) (by omega)
    have hb := fun h (x : Int) => build_1 (h := h) (x := x) tN Try.underlying23 elem2 rfl (by decide)
    have b1 := nx_bd (L := L) (m := m + 1) (k := js[i].hi - js[i].lo + 1) (by omega)
    have w1 : IntKind.i64.wrap (js[i].hi - js[i].lo) = js[i].hi - js[i].lo := wrap_id (by omega) (by omega)
    have w2 : IntKind.i64.wrap (js[i].hi - js[i].lo + 1) = js[i].hi - js[i].lo + 1 := wrap_id (by omega) (by omega)
    have w3 : IntKind.i64.wrap (js[i].lo + nx L (m + 1) (js[i].hi - js[i].lo + 1)) = js[i].lo + nx L (m + 1) (js[i].hi - js[i].lo + 1) := wrap_id (by omega) (by omega)
    have w4 : IntKind.i64.wrap ((i : Int) + 1) = i + 1 := wrap_id (by omega) (by omega)
    obtain ⟨jb, jo, rfl⟩ := SJ.some_ (by omega)
    obtain ⟨-, C, e, ro, hC, hCc⟩ := SJ.row
    have gJ : ∀ m Y, (B m ++ Y)[jb]? = some (.cells C e ro) := fun m Y => by rw [hB, List.append_assoc, List.getElem?_append_left (List.getElem?_eq_some_iff.1 hC).1]; exact hC
    have hC4 := hCc i hi 6 (by decide)
    have hC5 := hCc i hi 7 (by decide)
    simp [jtC] at hC4 hC5
    have hx := (SB X m).index Try.underlying39 (j := i) (kk := .i64) (Int.natCast_nonneg _) (by omega)
    simp [elemPtr_some] at hx
    simp [lB, gB, gX, gJ, hC4, hC5, cN, h7, h5, h2, h6, hi, hx]
    refine caseQ_intro (fun q0 => ?_) (fun q0 => ?_)
    · obtain ⟨X', hX', -, happ⟩ := hap (m + 1) js[i].lo
      simp [lB] at happ hb
      simp [lB, h7, h5, h2, h6, happ, hb, w4, cfStep, q0]
      exact ⟨X'.length, by simp, rfl⟩
    · simp [q0]
      refine caseQ_intro (fun q1 => ?_) (fun q1 => ?_)
      · obtain ⟨X', hX', -, happ⟩ := hap (m + 1) js[i].hi
        simp [lB] at happ hb
        simp [lB, h7, h5, h2, h6, happ, hb, w4, cfStep, q0, q1]
        exact ⟨X'.length, by simp, rfl⟩
      · obtain ⟨X', hX', -, happ⟩ := hap (m + 1 + 1) (js[i].lo + nx L (m + 1) (js[i].hi - js[i].lo + 1))
        simp [lB] at happ hb
        simp [lB, h7, h5, h2, h6, happ, hb, w1, w2, w3, w4, cN, cfStep, q0, q1, show 0 < js[i].hi - js[i].lo + 1 by omega, show js[i].hi - js[i].lo + 1 ≤ 9223372036854775807 by omega]
        exact ⟨X'.length, by simp, rfl⟩
  · rintro s h' ⟨X, p, rfl, hX, h7, h5, h2, h6⟩
    have hlen := cfS_len (L := L) (js := js) js.length (Nat.le_refl _)
    rw [fdS_all] at hX h6 hlen
    rw [show (js.foldl (cfStep L) ([], 0)).1 = cfF L js from rfl] at hX h6 hlen
    have hgc := gc_one (h := h) (Z := .cells [.slice ja js.length jc, ms] 42 false :: srcB a n c (fdS (cfStep L) ([], 0) js js.length).2 :: X) tN (b := p + 2) hX
    rw [hlen] at hgc
    simp [lB, gX, h7, h5, h2, h6]
    rw [show h.length + 2 + p = h.length + (p + 2) by omega, hB, List.append_assoc]
    simpa using hgc
end Go.AM.Try

