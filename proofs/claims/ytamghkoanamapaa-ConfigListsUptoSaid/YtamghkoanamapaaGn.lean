/- What makes boxes; the functions of boxes that make rows. No condition. -/
import Derived.Test.YtamghkoanamapaaGm
namespace Go.AM.Try
open Go.Proofs
set_option maxRecDepth 100000
set_option linter.unusedSimpArgs false
set_option linter.unusedVariables false
attribute [-simp] Bool.decide_and Bool.decide_or

def bxX (L : List Int) (m : Nat) (j : Jt) : Int := j.lo + nx L m (j.hi - j.lo + 1)
def bxW (L : List Int) (m : Nat) (j : Jt) : Int := if nx L (m + 1) 5 = 0 then j.hi - j.lo else if nx L (m + 1) 5 = 1 ∨ nx L (m + 1) 5 = 2 then nx L (m + 1 + 1) 3000 else if nx L (m + 1) 5 = 3 then nx L (m + 1 + 1) 200 else 0
def bxM (L : List Int) (m : Nat) : Nat := if nx L (m + 1) 5 = 1 ∨ nx L (m + 1) 5 = 2 ∨ nx L (m + 1) 5 = 3 then m + 1 + 1 + 1 else m + 1 + 1
def bxStep (L : List Int) (st : List (Int × Int) × Nat) (j : Jt) : List (Int × Int) × Nat := (st.1 ++ [(bxX L st.2 j, min j.hi (bxX L st.2 j + bxW L st.2 j))], bxM L st.2)
/-- A box. -/
def bxF (L : List Int) (js : List Jt) : List (Int × Int) := (js.foldl (bxStep L) ([], 0)).1
theorem bxS_len {L : List Int} {js : List Jt} (k : Nat) (hk : k ≤ js.length) : (fdS (bxStep L) ([], 0) js k).1.length = k :=
  fdS_inv (fun i (st : List (Int × Int) × Nat) => st.1.length = i) rfl (fun i st hi h => by simp [bxStep, h]) k hk
theorem bxF_len {L : List Int} {js : List Jt} : (bxF L js).length = js.length := by
  have := bxS_len (L := L) (js := js) js.length (Nat.le_refl _)
  rwa [fdS_all] at this

set_option maxHeartbeats 1600000 in
theorem c27 {h : AH} {ja a : Option Addr} {jn jc n c : Nat} {ms : Value} {js : List Jt} {L : List Int} (SJ : Sl tJ h ja jn jc js) (S : Sl tZ h a n c L) (hjn : jn ≤ 1000000) (hn : n ≤ 4611686018427387904) (hl : ∀ j ∈ js, LimOK j) :
    callP Try.prog 27 [.agg #[.slice ja jn jc, ms], .slice a n c] h = some (slV h.length (bxF L js), h ++ rowH tI (bxF L js)) := by
  refine call_of good27 Try.func27 rfl rfl ?_
  obtain ⟨B, hB⟩ : ∃ B : Nat → AH, ∀ m, B m = h ++ [.cells [.slice ja jn jc, ms] 42 false, srcB a n c m] := ⟨_, fun _ => rfl⟩
  have hjl := SJ.len
  subst hjl
  have lB : ∀ m, (B m).length = h.length + 2 := fun m => by simp [hB]
  have cN : ∀ Y m (k : Int), 0 < k → k ≤ 9223372036854775807 → callP Try.prog 47 [.pointer (some ⟨h.length + 1, 0, none⟩), .int .i64 k] (B m ++ Y) = some (.int .i64 (nx L m k), B (m + 1) ++ Y) := fun Y m k hk hk' => by
    have := c47 (S.app [.cells [.slice ja js.length jc, ms] 42 false]) hn hk hk' (G := Y) (m := m)
    simpa [hB] using this
  have SB : ∀ Y m, Sl tJ (B m ++ Y) ja js.length jc js := fun Y m => by rw [hB, List.append_assoc]; exact SJ.app _
  have gB : ∀ m Y k, (B m ++ Y)[h.length + 2 + k]? = Y[k]? := fun m Y k => by rw [← lB m, get_off]
  have gX : ∀ m Y, (B m ++ Y)[h.length]? = some (.cells [.slice ja js.length jc, ms] 42 false) := fun m Y => by rw [hB, List.append_assoc, get_at]; rfl
  have hB0 : h ++ [.cells [.slice ja js.length jc, ms] 42 false, srcB a n c 0] = B 0 ++ [] := by rw [hB]; simp
  simp [c46, hB0]
  refine W_loop_up js.length (fun i s h' => ∃ X p, h' = B (fdS (bxStep L) ([], 0) js i).2 ++ X ∧ ((fdS (bxStep L) ([], 0) js i).1.length ≠ 0 → X[p]? = some (.cells (tI.flat (fdS (bxStep L) ([], 0) js i).1) 37 false)) ∧
    s 7 = .int .i64 i ∧ s 5 = .pointer (some ⟨h.length + 1, 0, none⟩) ∧ s 2 = .pointer (some ⟨h.length, 0, none⟩) ∧ s 6 = slV (h.length + 2 + p) (fdS (bxStep L) ([], 0) js i).1) ?_ ?_ 0 _ _ (Nat.zero_le _) ⟨[], 0, by simp [fdS_zero], by simp [fdS_zero], by simp, by simp, by simp, by simp [fdS_zero, slV]⟩
  · rintro i s h' hi ⟨X, p, rfl, hX, h7, h5, h2, h6⟩
    have hlen := bxS_len (L := L) (js := js) i (by omega)
    rw [fdS_succ hi]
    generalize fdS (bxStep L) ([], 0) js i = st at *
    obtain ⟨out, m⟩ := st
    dsimp only at *
    obtain ⟨l1, l2, l3⟩ := hl js[i] (List.getElem_mem _)
    have hap := fun m' x => append_2 (h := B m') (Y := []) (X := X) (p := p) (ys := out) (x := x) tI Try.underlying26 elem37 rfl hX (by decide) (by omega)
    have hb := fun h (x y : Int) => build_1 (h := h) (x := (x, y)) tI Try.underlying26 elem37 rfl (by decide)
    obtain ⟨jb, jo, rfl⟩ := SJ.some_ (by omega)
    obtain ⟨-, C, e, ro, hC, hCc⟩ := SJ.row
    have gJ : ∀ m Y, (B m ++ Y)[jb]? = some (.cells C e ro) := fun m Y => by rw [hB, List.append_assoc, List.getElem?_append_left (List.getElem?_eq_some_iff.1 hC).1]; exact hC
    have hC4 := hCc i hi 6 (by decide)
    have hC5 := hCc i hi 7 (by decide)
    simp [jtC] at hC4 hC5
    have hx := (SB X m).index Try.underlying39 (j := i) (kk := .i64) (Int.natCast_nonneg _) (by omega)
    simp [elemPtr_some] at hx
    have bst : bxStep L (out, m) js[i] = (out ++ [(bxX L m js[i], min js[i].hi (bxX L m js[i] + bxW L m js[i]))], bxM L m) := rfl
    rw [bst]
    have b1 := nx_bd (L := L) (m := m) (k := js[i].hi - js[i].lo + 1) (by omega)
    have b2 := nx_bd (L := L) (m := m + 1) (k := 5) (by decide)
    have b3 := nx_bd (L := L) (m := m + 1 + 1) (k := 3000) (by decide)
    have b4 := nx_bd (L := L) (m := m + 1 + 1) (k := 200) (by decide)
    have w1 : IntKind.i64.wrap (js[i].hi - js[i].lo) = js[i].hi - js[i].lo := wrap_id (by omega) (by omega)
    have w2 : IntKind.i64.wrap (js[i].hi - js[i].lo + 1) = js[i].hi - js[i].lo + 1 := wrap_id (by omega) (by omega)
    have w3 : IntKind.i64.wrap (js[i].lo + nx L m (js[i].hi - js[i].lo + 1)) = bxX L m js[i] := wrap_id (by omega) (by omega)
    have w4 : IntKind.i64.wrap ((i : Int) + 1) = i + 1 := wrap_id (by omega) (by omega)
    have hX1 : js[i].lo ≤ bxX L m js[i] ∧ bxX L m js[i] ≤ js[i].hi := by unfold bxX; omega
    generalize hxx : bxX L m js[i] = x at *
    have hk : 0 < js[i].hi - js[i].lo + 1 := by omega
    have hk' : js[i].hi - js[i].lo + 1 ≤ 9223372036854775807 := by omega
    have ht : nx L (m + 1) 5 = 0 ∨ nx L (m + 1) 5 = 1 ∨ nx L (m + 1) 5 = 2 ∨ nx L (m + 1) 5 = 3 ∨ nx L (m + 1) 5 = 4 := by omega
    rcases ht with t | t | t | t | t
    · have e1 : bxW L m js[i] = js[i].hi - js[i].lo := by simp [bxW, t]
      have e2 : bxM L m = m + 1 + 1 := by simp [bxM, t]
      rw [e1, e2]
      have w5 : IntKind.i64.wrap (x + (js[i].hi - js[i].lo)) = x + (js[i].hi - js[i].lo) := wrap_id (by omega) (by omega)
      obtain ⟨X', hX', -, happ⟩ := hap (m + 1 + 1) (x, min js[i].hi (x + (js[i].hi - js[i].lo)))
      simp [lB] at happ hb
      simp [lB, gB, gX, gJ, hC4, hC5, cN, h7, h5, h2, h6, hi, hx, hb, happ, w1, w2, w3, w4, w5, t, hk, hk']
      exact ⟨X'.length, by simp, rfl⟩
    · have e1 : bxW L m js[i] = nx L (m + 1 + 1) 3000 := by simp [bxW, t]
      have e2 : bxM L m = m + 1 + 1 + 1 := by simp [bxM, t]
      rw [e1, e2]
      have w5 : IntKind.i64.wrap (x + nx L (m + 1 + 1) 3000) = x + nx L (m + 1 + 1) 3000 := wrap_id (by omega) (by omega)
      obtain ⟨X', hX', -, happ⟩ := hap (m + 1 + 1 + 1) (x, min js[i].hi (x + nx L (m + 1 + 1) 3000))
      simp [lB] at happ hb
      simp [lB, gB, gX, gJ, hC4, hC5, cN, h7, h5, h2, h6, hi, hx, hb, happ, w1, w2, w3, w4, w5, t, hk, hk']
      exact ⟨X'.length, by simp, rfl⟩
    · have e1 : bxW L m js[i] = nx L (m + 1 + 1) 3000 := by simp [bxW, t]
      have e2 : bxM L m = m + 1 + 1 + 1 := by simp [bxM, t]
      rw [e1, e2]
      have w5 : IntKind.i64.wrap (x + nx L (m + 1 + 1) 3000) = x + nx L (m + 1 + 1) 3000 := wrap_id (by omega) (by omega)
      obtain ⟨X', hX', -, happ⟩ := hap (m + 1 + 1 + 1) (x, min js[i].hi (x + nx L (m + 1 + 1) 3000))
      simp [lB] at happ hb
      simp [lB, gB, gX, gJ, hC4, hC5, cN, h7, h5, h2, h6, hi, hx, hb, happ, w1, w2, w3, w4, w5, t, hk, hk']
      exact ⟨X'.length, by simp, rfl⟩
    · have e1 : bxW L m js[i] = nx L (m + 1 + 1) 200 := by simp [bxW, t]
      have e2 : bxM L m = m + 1 + 1 + 1 := by simp [bxM, t]
      rw [e1, e2]
      have w5 : IntKind.i64.wrap (x + nx L (m + 1 + 1) 200) = x + nx L (m + 1 + 1) 200 := wrap_id (by omega) (by omega)
      obtain ⟨X', hX', -, happ⟩ := hap (m + 1 + 1 + 1) (x, min js[i].hi (x + nx L (m + 1 + 1) 200))
      simp [lB] at happ hb
      simp [lB, gB, gX, gJ, hC4, hC5, cN, h7, h5, h2, h6, hi, hx, hb, happ, w1, w2, w3, w4, w5, t, hk, hk']
      exact ⟨X'.length, by simp, rfl⟩
    · have e1 : bxW L m js[i] = 0 := by simp [bxW, t]
      have e2 : bxM L m = m + 1 + 1 := by simp [bxM, t]
      rw [e1, e2]
      have w5 : IntKind.i64.wrap x = x := wrap_id (by omega) (by omega)
      obtain ⟨X', hX', -, happ⟩ := hap (m + 1 + 1) (x, min js[i].hi (x + 0))
      simp [lB] at happ hb
      simp [lB, gB, gX, gJ, hC4, hC5, cN, h7, h5, h2, h6, hi, hx, hb, happ, w1, w2, w3, w4, w5, t, hk, hk']
      exact ⟨X'.length, by simp, rfl⟩
  · rintro s h' ⟨X, p, rfl, hX, h7, h5, h2, h6⟩
    have hlen := bxS_len (L := L) (js := js) js.length (Nat.le_refl _)
    rw [fdS_all] at hX h6 hlen
    rw [show (js.foldl (bxStep L) ([], 0)).1 = bxF L js from rfl] at hX h6 hlen
    have hgc := gc_row (h := h) (Z := .cells [.slice ja js.length jc, ms] 42 false :: srcB a n c (fdS (bxStep L) ([], 0) js js.length).2 :: X) tI (b := p + 2) hX
    simp [lB, gX, h7, h5, h2, h6]
    rw [show h.length + 2 + p = h.length + (p + 2) by omega, hB, List.append_assoc]
    simpa using hgc
end Go.AM.Try

