/- The law ConfigReverse over the abstract machine. No condition. -/
import Derived.Test.YtamghkoanamapaaGj
namespace Go.AM.Try
open Go.Proofs
set_option maxRecDepth 100000
set_option linter.unusedSimpArgs false
set_option linter.unusedVariables false
attribute [-simp] Bool.decide_and Bool.decide_or
set_option pp.deepTerms false
set_option pp.maxSteps 2500
theorem good4 : fnB Try.prog 4 = true := by kernel_rfl

theorem cfS_bd {L : List Int} {js : List Jt} (hl : ∀ j ∈ js, LimOK j) (k : Nat) (hk : k ≤ js.length) : (fdS (cfStep L) ([], 0) js k).1.length = k ∧ ∀ (i : Nat) (x : Int) (j : Jt), (fdS (cfStep L) ([], 0) js k).1[i]? = some x → js[i]? = some j → j.lo ≤ x ∧ x ≤ j.hi := by
  refine fdS_inv (fun k (st : List Int × Nat) => st.1.length = k ∧ ∀ (i : Nat) (x : Int) (j : Jt), st.1[i]? = some x → js[i]? = some j → j.lo ≤ x ∧ x ≤ j.hi) ⟨rfl, fun i x j h => by simp at h⟩ (fun k st hk ⟨h1, h2⟩ => ?_) k hk
  obtain ⟨l1, -, -⟩ := hl js[k] (List.getElem_mem _)
  have b := nx_bd (L := L) (m := st.2 + 1) (k := js[k].hi - js[k].lo + 1) (by omega)
  have key : ∀ (y : Int), js[k].lo ≤ y → y ≤ js[k].hi → ∀ (i : Nat) (x : Int) (j : Jt), (st.1 ++ [y])[i]? = some x → js[i]? = some j → j.lo ≤ x ∧ x ≤ j.hi := by
    intro y hy1 hy2 i x j hx hj
    by_cases hi : i < k
    · rw [List.getElem?_append_left (by omega)] at hx
      exact h2 i x j hx hj
    · rw [List.getElem?_append_right (by omega), h1] at hx
      have : i = k := by
        have := (List.getElem?_eq_some_iff.1 hx).1
        simp at this; omega
      subst this
      rw [Nat.sub_self] at hx
      simp at hx
      rw [List.getElem?_eq_getElem hk] at hj
      cases hj
      omega
  simp only [cfStep]
  split
  · exact ⟨by simp [h1], key _ (Int.le_refl _) l1⟩
  · split
    · exact ⟨by simp [h1], key _ l1 (Int.le_refl _)⟩
    · exact ⟨by simp [h1], key _ (by omega) (by omega)⟩
theorem mP_bd {L M : List Int} {i : Nat} {x : Int} {j : Jt} (hx : (mP L M)[i]? = some x) (hj : (rJ L)[i]? = some j) : j.lo ≤ x ∧ x ≤ j.hi := by
  have := (cfS_bd (L := M) (js := rJ L) rJ_lim (rJ L).length (Nat.le_refl _)).2 i x j
  rw [fdS_all] at this
  exact this hx hj
theorem mP_sm {L M : List Int} : smB (mP L M) = true := by
  rw [smB_iff]
  intro x hx
  obtain ⟨i, hi, rfl⟩ := List.getElem_of_mem hx
  have hl := mP_len (L := L) (M := M)
  have hj := List.getElem?_eq_getElem (l := rJ L) (i := i) (by omega)
  have := mP_bd (List.getElem?_eq_getElem hi) hj
  have l := (rJ_ok hj).bound
  omega
theorem mP_str {L M N : List Int} {k : Int} (h0 : 0 ≤ k) (h1 : k ≤ 20) : Str (mP L M) (mP L N) k := ⟨mP_sm, mP_sm, by rw [mP_len, mP_len], h0, h1⟩

theorem pce_rev {D i p q : Int} (hD : 0 < D) : pce D (D - 1 - i) q p = pce D i p q := by
  have e1 : (D - 1 - i) * (p - q) = (i + 1) * (q - p) - D * (q - p) := by grind
  have e2 : (D - 1 - i + 1) * (p - q) = i * (q - p) - D * (q - p) := by grind
  unfold pce
  rw [e1, e2]
  generalize i * (q - p) = x
  generalize (i + 1) * (q - p) = y
  have m1 : min (y - D * (q - p)) (x - D * (q - p)) = min x y + D * (-(q - p)) := by rw [Int.mul_neg]; omega
  have m2 : -max (y - D * (q - p)) (x - D * (q - p)) = -max x y + D * (q - p) := by omega
  rw [m1, m2, Int.add_mul_ediv_left _ _ (by omega), Int.add_mul_ediv_left _ _ (by omega)]
  ext
  · dsimp only; omega
  · dsimp only; omega

theorem c4 {h : AH} {a b d : Option Addr} {n c m c1 k c2 : Nat} {L M N : List Int} (S : Sl tZ h a n c L) (S1 : Sl tZ h b m c1 M) (S2 : Sl tZ h d k c2 N) (hn : n ≤ 4611686018427387904) (hm : m ≤ 4611686018427387904) (hk : k ≤ 4611686018427387904) (depth : Int) (_ : I64 depth) (index : Int) (_ : I64 index) :
    callP Try.prog 4 [.slice a n c, .slice b m c1, .slice d k c2, .int .i64 depth, .int .i64 index] h = some (.bool true, h) := by
  refine call_of good4 Try.func4 rfl rfl ?_
  have mo := c13 (depth := depth) (index := index) S S1 S2 hn hm hk
  have hjl := rJ_len L
  have hp1 : (mP L M).length ≠ 0 := by rw [mP_len]; omega
  have hp2 : (mP L N).length ≠ 0 := by rw [mP_len]; omega
  have hq1 : (mP L M).length ≤ 3 := by rw [mP_len]; omega
  have hq2 : (mP L N).length ≤ 3 := by rw [mP_len]; omega
  rw [slV_pos hp1, slV_pos hp2] at mo
  have d0 := Int.emod_nonneg depth (show (20 : Int) ≠ 0 by decide)
  have d1 := Int.emod_lt_of_pos depth (show (0 : Int) < 20 by decide)
  obtain ⟨q1, q2, q3⟩ := pow20 d0 (by omega)
  have hmin : min (depth % 20).toNat 64 = (depth % 20).toNat := by omega
  rw [hmin] at q1
  have hw : IntKind.u64.wrap (depth % 20) = depth % 20 := by rw [IntKind.wrap_u64]; omega
  have i0 := Int.emod_nonneg index (show (2 : Int) ^ (depth % 20).toNat ≠ 0 by omega)
  have i1 := Int.emod_lt_of_pos index q3
  generalize hP : mP L M = P at *
  generalize hQ : mP L N = Q at *
  have st1 : Str P Q (depth % 20) := by rw [← hP, ← hQ]; exact mP_str d0 (by omega)
  have st2 : Str Q P (depth % 20) := by rw [← hP, ← hQ]; exact mP_str d0 (by omega)
  generalize depth % 20 = dd at *
  generalize hD : (2 : Int) ^ dd.toNat = D at *
  generalize index % D = ii at *
  have SP : ∀ X, Sl tN (h ++ .cells (tN.flat P) 2 false :: X) (some ⟨h.length, 0, none⟩) P.length P.length P := fun X => Sl.of_row (by rw [get_at]; rfl)
  have SQ : ∀ Y X, Sl tN (h ++ Y :: .cells (tN.flat Q) 2 false :: X) (some ⟨h.length + 1, 0, none⟩) Q.length Q.length Q := fun Y X => Sl.of_row (by rw [get_off]; rfl)
  have p1 := fun X => c14 (SP (.cells (tN.flat Q) 2 false :: X)) (SQ (.cells (tN.flat P) 2 false) X) (by omega) (by omega) st1 i0 (by rw [hD]; exact i1)
  have p2 := fun X => c14 (i := D - 1 - ii) (SQ (.cells (tN.flat P) 2 false) X) (SP (.cells (tN.flat Q) 2 false :: X)) (by omega) (by omega) st2 (by omega) (by rw [hD]; omega)
  have hPQ : P.length = Q.length := st1.2.2.1
  have e : List.zipWith (pce D (D - 1 - ii)) Q P = List.zipWith (pce D ii) P Q := by
    rw [List.zipWith_comm]
    congr 1
    funext p q
    exact pce_rev q3
  rw [hD] at p1 p2
  simp only [e, ← hPQ] at p1 p2 mo
  have hzl : (List.zipWith (pce D ii) P Q).length = P.length := by simp [hPQ]
  generalize List.zipWith (pce D ii) P Q = Z at *
  have s1 := c20 (h := h ++ [.cells (tN.flat P) 2 false, .cells (tN.flat Q) 2 false, .cells (tI.flat Z) 37 false, .cells (tI.flat Z) 37 false]) (Sl.of_row (b := h.length + 2) (T := tI) (xs := Z) (by rw [get_off]; rfl)) (Sl.of_row (b := h.length + 3) (T := tI) (xs := Z) (by rw [get_off]; rfl)) (by omega)
  rw [hzl] at s1
  simp at mo p1 p2 s1
  have w1 : IntKind.i64.wrap D = D := q1
  have w2 : IntKind.i64.wrap (D - 1) = D - 1 := wrap_id (by omega) (by omega)
  have w3 : IntKind.i64.wrap (D - 1 - ii) = D - 1 - ii := wrap_id (by omega) (by omega)
  simp [mo, p1, p2, s1, hw, convA, show ¬ dd < 0 by omega, w1, w2, w3, hmin, c16, hD]
end Go.AM.Try

