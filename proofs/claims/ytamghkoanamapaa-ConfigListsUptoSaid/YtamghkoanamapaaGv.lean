/- Distances. No condition. -/
import Derived.Test.YtamghkoanamapaaGu
namespace Go.AM.Try
open Go.Proofs
set_option maxRecDepth 100000
set_option linter.unusedSimpArgs false
set_option linter.unusedVariables false
attribute [-simp] Bool.decide_and Bool.decide_or
theorem good36 : fnB Try.prog 36 = true := by kernel_rfl
theorem good37 : fnB Try.prog 37 = true := by kernel_rfl
theorem good10 : fnB Try.prog 10 = true := by kernel_rfl

theorem cjF_ok {before : List Jt} {j : Jt} (h : cjF before j = 0) : nmdP before j ∧ limP j ∧ cstP j := by
  unfold cjF at h
  by_cases a : nmdP before j
  · rw [if_neg (by simpa using a)] at h
    split at h
    · cases h
    · split at h
      · cases h
      · split at h
        · cases h
        · by_cases b : limP j
          · rw [if_neg (by simpa using b)] at h
            by_cases c : cstP j
            · exact ⟨a, b, c⟩
            · rw [if_pos c] at h; cases h
          · rw [if_pos b] at h; cases h
  · rw [if_pos a] at h; cases h
theorem robE_ok {js : List Jt} {ms : List Ms} (h : robE js ms = 0) : (1 ≤ js.length ∧ js.length ≤ 10) ∧ ∀ (i : Nat) (hi : i < js.length), cjF (js.take i) js[i] = 0 := by
  unfold robE at h
  by_cases c : js.length < 1 ∨ 10 < js.length
  · rw [if_pos c] at h; cases h
  rw [if_neg c] at h
  by_cases e : jsE js js.length = 0
  · refine ⟨by omega, fun i hi => ?_⟩
    have z : ∀ k, k ≤ js.length → jsE js k = 0 := fun k hk => Classical.byContradiction fun q => q (by rw [← jsE_stay hk q]; exact e)
    rw [← jsE_succ hi (z i (by omega))]
    exact z (i + 1) (by omega)
  · rw [if_pos e] at h; exact absurd h e

def sumN (f : Nat → Int) : Nat → Int
  | 0 => 0
  | k + 1 => sumN f k + f k
def dTm (js : List Jt) (p q : List Int) (i : Nat) : Int := (js.getD i ⟨.empty, 0, 0, 0, 0, 0, 0, 0, 0, 0, 0, 0⟩).weight * max (q.getD i 0 - p.getD i 0) (p.getD i 0 - q.getD i 0)
def DistOK (js : List Jt) (ms : List Ms) (p q : List Int) : Prop := robE js ms = 0 ∧ smB p = true ∧ smB q = true ∧ p.length = js.length ∧ q.length = js.length
instance (js : List Jt) (ms : List Ms) (p q : List Int) : Decidable (DistOK js ms p q) := by unfold DistOK; infer_instance
def dist (js : List Jt) (ms : List Ms) (p q : List Int) : Int := if DistOK js ms p q then sumN (dTm js p q) js.length else 0
theorem dTm_bd {js : List Jt} {ms : List Ms} {p q : List Int} (h : DistOK js ms p q) {i : Nat} (hi : i < js.length) :
    ∃ (w x y : Int), js[i].weight = w ∧ p[i]'(by rw [h.2.2.2.1]; exact hi) = x ∧ q[i]'(by rw [h.2.2.2.2]; exact hi) = y ∧ dTm js p q i = w * max (y - x) (x - y) ∧ (-2147483648 ≤ x ∧ x ≤ 2147483648) ∧ (-2147483648 ≤ y ∧ y ≤ 2147483648) ∧ 0 ≤ w * max (y - x) (x - y) ∧ w * max (y - x) (x - y) ≤ 4398046511104 := by
  obtain ⟨h1, h2, h3, h4, h5⟩ := h
  have hw := (cjF_ok ((robE_ok h1).2 i hi)).2.2.1
  have hp := smB_iff.1 h2 (p[i]'(by omega)) (List.getElem_mem _)
  have hq := smB_iff.1 h3 (q[i]'(by omega)) (List.getElem_mem _)
  refine ⟨_, _, _, rfl, rfl, rfl, by simp [dTm, hi, h4, h5], hp, hq, ?_⟩
  have := mul_bd (i := js[i].weight) (d := max (q[i]'(by omega) - p[i]'(by omega)) (p[i]'(by omega) - q[i]'(by omega))) (A := 1024) (B := 4294967296) (by omega) hw.2 (by omega) (by omega)
  refine ⟨Int.mul_nonneg (by omega) (by omega), by omega⟩
theorem sumN_bd {js : List Jt} {ms : List Ms} {p q : List Int} (h : DistOK js ms p q) : ∀ (k : Nat), k ≤ js.length → 0 ≤ sumN (dTm js p q) k ∧ sumN (dTm js p q) k ≤ 4398046511104 * k
  | 0, _ => ⟨Int.le_refl _, by simp [sumN]⟩
  | k + 1, hk => by
    have ih := sumN_bd h k (by omega)
    obtain ⟨w, x, y, -, -, -, e, -, -, b1, b2⟩ := dTm_bd h (i := k) (by omega)
    simp only [sumN, e]
    omega

set_option maxHeartbeats 1600000 in
theorem c36 {h : AH} {ja ma a b : Option Addr} {jn jc mn mc n c m d : Nat} {js : List Jt} {ms : List Ms} {p q : List Int} (SJ : Sl tJ h ja jn jc js) (SM : Sl tM h ma mn mc ms) (S : Sl tN h a n c p) (S2 : Sl tN h b m d q) (hjn : jn ≤ 140737488351232) (hmn : mn ≤ 140737488351232) (hn : n ≤ 140737488351232) (hm : m ≤ 140737488351232) (hz : ∀ j ∈ js, j.name.size ≤ 9223372036854775807) :
    callP Try.prog 36 [.agg #[.slice ja jn jc, .slice ma mn mc], .slice a n c, .slice b m d] h = some (.int .i64 (dist js ms p q), h) := by
  refine call_of good36 Try.func36 rfl rfl ?_
  have hjl := SJ.len
  have hpl := S.len
  have hql := S2.len
  have e0 := fun G => c64 (SJ.app G) (SM.app G) hjn hmn hz
  have e1 := fun G => c65 (S.app G) (by omega)
  have e2 := fun G => c65 (S2.app G) (by omega)
  by_cases hD : DistOK js ms p q
  · have hd : dist js ms p q = sumN (dTm js p q) js.length := if_pos hD
    obtain ⟨h1, h2, h3, h4, h5⟩ := hD
    have hmn : n = jn := by omega
    have hmn2 : m = jn := by omega
    subst hmn
    subst hmn2
    have hD : DistOK js ms p q := ⟨h1, h2, h3, h4, h5⟩
    rw [hd]
    simp [e0, e1, e2, h1, h2, h3]
    refine W_loop_up m (fun i s h' => (∃ X, h' = h ++ X) ∧ s 42 = .int .i64 i ∧ s 41 = .int .i64 m ∧ s 40 = .slice ja m jc ∧ s 1 = .slice a m c ∧ s 2 = .slice b m d ∧ s 7 = .int .i64 (sumN (dTm js p q) i)) ?_ ?_ 0 _ _ (Nat.zero_le _) ⟨⟨_, rfl⟩, by simp [sumN]⟩
    · rintro i s h' hi ⟨⟨X, rfl⟩, g1, g2, g3, g4, g5, g6⟩
      have hij : i < js.length := by omega
      have hii : (i : Int) < m := by omega
      have w1 : IntKind.i64.wrap ((i : Int) + 1) = i + 1 := wrap_id (by omega) (by omega)
      obtain ⟨w, x, y, ew, ex, ey, et, bx, b_y, b1, b2⟩ := dTm_bd hD hij
      have bs := sumN_bd hD i (by omega)
      have hten := (robE_ok hD.1).1
      have w2 : IntKind.i64.wrap (y - x) = y - x := wrap_id (by omega) (by omega)
      have w3 : IntKind.i64.wrap (x - y) = x - y := wrap_id (by omega) (by omega)
      have w4 : IntKind.i64.wrap (w * max (y - x) (x - y)) = w * max (y - x) (x - y) := wrap_id (by omega) (by omega)
      have w5 : IntKind.i64.wrap (sumN (dTm js p q) i + w * max (y - x) (x - y)) = sumN (dTm js p q) (i + 1) := by
        rw [sumN, et]; exact wrap_id (by omega) (by omega)
      have ix := SJ.index Try.underlying39 (j := i) (kk := .i64) (Int.natCast_nonneg _) (by omega)
      have ld := fun G => (SJ.app G).load hij
      have ix1 := S.index Try.underlying23 (j := i) (kk := .i64) (Int.natCast_nonneg _) (by omega)
      have ix2 := S2.index Try.underlying23 (j := i) (kk := .i64) (Int.natCast_nonneg _) (by omega)
      have ld1 := fun G => (S.app G).load (j := i) (by omega)
      have ld2 := fun G => (S2.app G).load (j := i) (by omega)
      simp [jtC, ew] at ix ld
      simp [ex] at ix1 ld1
      simp [ey] at ix2 ld2
      simp [g1, g2, g3, g4, g5, g6, hi, hii, w1, ix, ld, ix1, ix2, ld1, ld2, w2, w3, w4, w5]
    · rintro s h' ⟨⟨X, rfl⟩, g1, g2, g3, g4, g5, g6⟩
      simp [g1, g2, g3, g4, g5, g6, hjl]
  · have hd : dist js ms p q = 0 := if_neg hD
    rw [hd]
    by_cases h1 : robE js ms = 0
    · by_cases h2 : smB p = true
      · by_cases h3 : smB q = true
        · by_cases h4 : (n : Int) = jn
          · have h5 : ¬ ((m : Int) = jn) := fun g => hD ⟨h1, h2, h3, by omega, by omega⟩
            simp [e0, e1, e2, h1, h2, h3, h4, h5]
          · simp [e0, e1, e2, h1, h2, h3, h4]
        · simp [e0, e1, e2, h1, h2, h3]
      · simp [e0, e1, e2, h1, h2]
    · simp [e0, e1, e2, h1]
set_option maxHeartbeats 1600000 in
theorem c37 {h : AH} {ja ma a b : Option Addr} {jn jc mn mc n c m d : Nat} {js : List Jt} {ms : List Ms} {p q : List Int} (SJ : Sl tJ h ja jn jc js) (SM : Sl tM h ma mn mc ms) (S : Sl tN h a n c p) (S2 : Sl tN h b m d q) (hjn : jn ≤ 140737488351232) (hmn : mn ≤ 140737488351232) (hn : n ≤ 140737488351232) (hm : m ≤ 140737488351232) (hz : ∀ j ∈ js, j.name.size ≤ 9223372036854775807) :
    callP Try.prog 37 [.agg #[.slice ja jn jc, .slice ma mn mc], .slice a n c, .slice b m d] h = some (.int .i64 (dist js ms p q), h) := by
  refine call_of good37 Try.func37 rfl rfl ?_
  have hjl := SJ.len
  have hpl := S.len
  have hql := S2.len
  have e0 := fun G => c66 (SJ.app G) (SM.app G) hjn hmn hz
  have e1 := fun G => c44 (S.app G) (by omega)
  have e2 := fun G => c44 (S2.app G) (by omega)
  by_cases hD : DistOK js ms p q
  · have hd : dist js ms p q = sumN (dTm js p q) js.length := if_pos hD
    obtain ⟨h1, h2, h3, h4, h5⟩ := hD
    have hmn : n = jn := by omega
    have hmn2 : m = jn := by omega
    subst hmn
    subst hmn2
    have hD : DistOK js ms p q := ⟨h1, h2, h3, h4, h5⟩
    rw [hd]
    simp [e0, e1, e2, h1, h2, h3]
    refine W_loop_up m (fun i s h' => (∃ X, h' = h ++ .cells [.slice ja m jc, .slice ma mn mc] 42 false :: X) ∧ s 8 = .int .i64 i ∧ s 3 = .pointer (some ⟨h.length, 0, none⟩) ∧ s 1 = .slice a m c ∧ s 2 = .slice b m d ∧ s 7 = .int .i64 (sumN (dTm js p q) i)) ?_ ?_ 0 _ _ (Nat.zero_le _) ⟨⟨[], rfl⟩, by simp [sumN]⟩
    · rintro i s h' hi ⟨⟨X, rfl⟩, g1, g2, g4, g5, g6⟩
      have hij : i < js.length := by omega
      have hii : (i : Int) < m := by omega
      have w1 : IntKind.i64.wrap ((i : Int) + 1) = i + 1 := wrap_id (by omega) (by omega)
      obtain ⟨w, x, y, ew, ex, ey, et, bx, b_y, b1, b2⟩ := dTm_bd hD hij
      have bs := sumN_bd hD i (by omega)
      have hten := (robE_ok hD.1).1
      have w2 : IntKind.i64.wrap (y - x) = y - x := wrap_id (by omega) (by omega)
      have w3 : IntKind.i64.wrap (x - y) = x - y := wrap_id (by omega) (by omega)
      have w4 : IntKind.i64.wrap (w * max (y - x) (x - y)) = w * max (y - x) (x - y) := wrap_id (by omega) (by omega)
      have w5 : IntKind.i64.wrap (sumN (dTm js p q) i + w * max (y - x) (x - y)) = sumN (dTm js p q) (i + 1) := by
        rw [sumN, et]; exact wrap_id (by omega) (by omega)
      obtain ⟨jb, jo, rfl⟩ := SJ.some_ (by omega)
      obtain ⟨-, C, e, ro, hC, hCc⟩ := SJ.row
      have gJ : ∀ G, (h ++ G)[jb]? = some (.cells C e ro) := fun G => by rw [List.getElem?_append_left (List.getElem?_eq_some_iff.1 hC).1]; exact hC
      have ix := SJ.index Try.underlying39 (j := i) (kk := .i64) (Int.natCast_nonneg _) (by omega)
      have ld := hCc i hij 8 (by decide)
      have ix1 := S.index Try.underlying23 (j := i) (kk := .i64) (Int.natCast_nonneg _) (by omega)
      have ix2 := S2.index Try.underlying23 (j := i) (kk := .i64) (Int.natCast_nonneg _) (by omega)
      have ld1 := fun G => (S.app G).load (j := i) (by omega)
      have ld2 := fun G => (S2.app G).load (j := i) (by omega)
      simp [jtC, ew, elemPtr_some] at ix ld
      simp [ex] at ix1 ld1
      simp [ey] at ix2 ld2
      have w5' := w5
      have w4' := w4
      rw [Int.max_comm] at w5' w4'
      simp [g1, g2, g4, g5, g6, w4', w5', hi, hii, w1, ix, gJ, ld, ix1, ix2, ld1, ld2, w2, w3, w4, w5]
    · rintro s h' ⟨⟨X, rfl⟩, g1, g2, g4, g5, g6⟩
      simp [g1, g2, g4, g5, g6, hjl]
  · have hd : dist js ms p q = 0 := if_neg hD
    rw [hd]
    by_cases h1 : robE js ms = 0
    · by_cases h2 : smB p = true
      · by_cases h3 : smB q = true
        · by_cases h4 : (n : Int) = jn
          · have h5 : ¬ ((m : Int) = jn) := fun g => hD ⟨h1, h2, h3, by omega, by omega⟩
            have h6 : ¬ ((m : Int) = n) := fun g => h5 (by omega)
            simp [e0, e1, e2, h1, h2, h3, h4, h5, h6]
          · simp [e0, e1, e2, h1, h2, h3, h4]
        · simp [e0, e1, e2, h1, h2, h3]
      · simp [e0, e1, e2, h1, h2]
    · simp [e0, e1, e2, h1]

theorem letB_ok : ∀ i, i < 10 → nmB (letB i) = true := by
  intro i hi
  have : i = 0 ∨ i = 1 ∨ i = 2 ∨ i = 3 ∨ i = 4 ∨ i = 5 ∨ i = 6 ∨ i = 7 ∨ i = 8 ∨ i = 9 := by omega
  rcases this with rfl | rfl | rfl | rfl | rfl | rfl | rfl | rfl | rfl | rfl
  all_goals (show _ = _; decide +kernel)
theorem letB_inj {i j : Nat} (hi : i < 10) (hj : j < 10) (h : letB i = letB j) : i = j := by
  have k : ∀ a, a < 10 → ∀ b, b < 10 → letB a = letB b → a = b := by decide +kernel
  exact k i hi j hj h
theorem letB_sz {i : Nat} (hi : i < 10) : (letB i).size = 1 := by
  have k : ∀ a, a < 10 → (letB a).size = 1 := by decide +kernel
  exact k i hi

theorem rJ_cj {L : List Int} {i : Nat} (hi : i < (rJ L).length) : cjF ((rJ L).take i) (rJ L)[i] = 0 := by
  have hl := rJ_len L
  have ok := rJ_ok (List.getElem?_eq_getElem hi)
  have hn : nmdP ((rJ L).take i) (rJ L)[i] := by
    refine ⟨by rw [ok.name]; exact letB_ok i (by omega), ?_⟩
    rw [List.any_eq_false]
    intro x hx q
    rw [List.mem_take_iff_getElem] at hx
    obtain ⟨m, hm, rfl⟩ := hx
    have ok2 := rJ_ok (List.getElem?_eq_getElem (show m < (rJ L).length by omega))
    have q' := of_decide_eq_true q
    rw [ok.name, ok2.name] at q'
    have := letB_inj (by omega) (by omega) q'
    omega
  have hlim : limP (rJ L)[i] := by
    have h1 := ok.lim
    have h2 := ok.bound
    have h3 := ok.fixed
    have h4 := ok.kind
    unfold limP bndF
    by_cases k0 : (rJ L)[i].kind = 0
    · rw [if_pos k0]
      have := h3 k0
      omega
    · rw [if_neg k0]
      repeat' split
      all_goals omega
  have hlng : ¬ lngP (rJ L)[i].ox (rJ L)[i].oy (rJ L)[i].oz := by
    have := ok.off
    unfold lngP farP
    omega
  have hcst : cstP (rJ L)[i] := by
    have h1 := ok.weight
    have h2 := ok.speed
    have h3 := ok.accel
    have h4 := ok.torque
    unfold cstP
    omega
  have hk := ok.kind
  have hp := ok.parent
  have htl : ((rJ L).take i).length = i := by simp; omega
  unfold cjF
  rw [if_neg (by simpa using hn), if_neg (by omega), if_neg (by rw [htl]; omega), if_neg hlng, if_neg (by simpa using hlim), if_neg (by simpa using hcst)]
theorem msL_ok {L : List Int} {n : Nat} {m : Nat} (hn : 0 < n) : ∀ k, ∀ x ∈ (msL L n m k).1, msP n x
  | 0, x, hx => by simp [msL] at hx
  | k + 1, x, hx => by
    simp only [msL, List.mem_append, List.mem_singleton] at hx
    rcases hx with hx | rfl
    · exact msL_ok hn k x hx
    · have a := nx_bd (L := L) (m := (msL L n m k).2) (show (0 : Int) < n by omega)
      have b := nx_bd (L := L) (m := (msL L n m k).2 + 1) (show (0 : Int) < 9000 by decide)
      have c := nx_bd (L := L) (m := (msL L n m k).2 + 1 + 1) (show (0 : Int) < 7 by decide)
      have d := nx_bd (L := L) (m := (msL L n m k).2 + 1 + 1 + 1) (show (0 : Int) < 5 by decide)
      unfold msP msF lngP farP
      dsimp only
      omega
theorem rM_len (L : List Int) : (rM L).length ≤ 2 := by
  have := nx_bd (L := L) (m := (jsF L (0 + 1) (1 + nx L 0 3).toNat).2) (show (0 : Int) < 3 by decide)
  simp only [rM, robF, msL_len]
  omega
theorem rob_ok (L : List Int) : robE (rJ L) (rM L) = 0 := by
  have hl := rJ_len L
  have hm := rM_len L
  have z : ∀ k, k ≤ (rJ L).length → jsE (rJ L) k = 0 := by
    intro k
    induction k with
    | zero => intro _; rfl
    | succ k ih => intro hk; rw [jsE_succ (by omega) (ih (by omega))]; exact rJ_cj (by omega)
  unfold robE
  rw [if_neg (by omega), if_neg (by rw [z _ (Nat.le_refl _)]; simp), if_neg (by omega), if_pos]
  rw [List.all_eq_true]
  intro x hx
  have hn := nx_bd (L := L) (m := 0) (show (0 : Int) < 3 by decide)
  have e : (1 + nx L 0 3) = (((rJ L).length : Nat) : Int) := by simp only [rJ, robF, jsF_len]; omega
  simp only [rM, robF] at hx
  rw [e] at hx
  exact decide_eq_true (msL_ok (by omega) _ x hx)
theorem rJ_nm {L : List Int} : ∀ j ∈ rJ L, j.name.size ≤ 9223372036854775807 := by
  intro j hj
  obtain ⟨i, hi, rfl⟩ := List.getElem_of_mem hj
  have hl := rJ_len L
  have := (rJ_ok (List.getElem?_eq_getElem hi)).name
  rw [this, letB_sz (by omega)]
  omega
end Go.AM.Try

