/- The law ConfigHalves over the abstract machine. No condition. -/
import Derived.Test.YtamghkoanamapaaGp
namespace Go.AM.Try
open Go.Proofs
set_option maxRecDepth 100000
set_option linter.unusedSimpArgs false
set_option linter.unusedVariables false
attribute [-simp] Bool.decide_and Bool.decide_or
theorem good8 : fnB Try.prog 8 = true := by kernel_rfl

theorem partF_ok {x : Int × Int} {m n : Int} (hv : Vld x) : wth (partF x m n) x := by
  obtain ⟨v1, v2, v3⟩ := hv
  have b1 := Int.emod_nonneg m (show x.2 - x.1 + 1 ≠ 0 by omega)
  have b2 := Int.emod_lt_of_pos m (show 0 < x.2 - x.1 + 1 by omega)
  have b3 := Int.emod_nonneg (n / 2) (show x.2 - x.1 + 1 ≠ 0 by omega)
  have b4 := Int.emod_lt_of_pos (n / 2) (show 0 < x.2 - x.1 + 1 by omega)
  unfold partF
  split <;> (unfold wth Vld; dsimp only; omega)
theorem wnS_ok {L : List Int} {xs : List (Int × Int)} (hv : vlB xs = true) (k : Nat) (hk : k ≤ xs.length) : (fdS (wnStep L) ([], 0) xs k).1.length = k ∧ ∀ (i : Nat) (w x : Int × Int), (fdS (wnStep L) ([], 0) xs k).1[i]? = some w → xs[i]? = some x → wth w x := by
  refine fdS_inv (fun k (st : List (Int × Int) × Nat) => st.1.length = k ∧ ∀ (i : Nat) (w x : Int × Int), st.1[i]? = some w → xs[i]? = some x → wth w x) ⟨rfl, fun i x j h => by simp at h⟩ (fun k st hk ⟨h1, h2⟩ => ?_) k hk
  refine ⟨by simp [wnStep, h1], fun i w x hw hx => ?_⟩
  simp only [wnStep] at hw
  by_cases hi : i < k
  · rw [List.getElem?_append_left (by omega)] at hw
    exact h2 i w x hw hx
  · rw [List.getElem?_append_right (by omega), h1] at hw
    have : i = k := by
      have := (List.getElem?_eq_some_iff.1 hw).1
      simp at this; omega
    subst this
    rw [Nat.sub_self] at hw
    simp at hw
    rw [List.getElem?_eq_getElem hk] at hx
    cases hx
    rw [← hw]
    exact partF_ok (vlB_iff.1 hv _ (List.getElem_mem _))
theorem wnF_ok {L : List Int} {xs : List (Int × Int)} (hv : vlB xs = true) {i : Nat} {w x : Int × Int} (hw : (wnF L xs)[i]? = some w) (hx : xs[i]? = some x) : wth w x := by
  have := (wnS_ok (L := L) hv xs.length (Nat.le_refl _)).2 i w x
  rw [fdS_all] at this
  exact this hw hx
theorem wnF_vl {L : List Int} {xs : List (Int × Int)} (hv : vlB xs = true) : vlB (wnF L xs) = true := by
  rw [vlB_iff]
  intro w hw
  obtain ⟨i, hi, rfl⟩ := List.getElem_of_mem hw
  have hl := wnF_len (L := L) (js := xs)
  exact (wnF_ok hv (List.getElem?_eq_getElem hi) (List.getElem?_eq_getElem (show i < xs.length by omega))).1

theorem half_key {A : List (Int × Int)} {N : List Int} {k : Nat} (hv : vlB A = true) (hk : k < A.length) (h2 : 2 ≤ A[k].2 - A[k].1) :
    ∀ (i : Nat) (hi : i < A.length), ∃ xl xh : Int × Int, ∃ cc : Int, (lowH A k)[i]? = some xl ∧ (highH A k)[i]? = some xh ∧ ((wnF N A).map mid)[i]? = some cc ∧
      Vld xl ∧ Vld xh ∧ met xl xh ∧ hul xl xh = A[i] ∧ has A[i] cc ∧ wth xl A[i] ∧ wth xh A[i] ∧ (i ≠ k → has xl cc ∧ has xh cc) ∧ (i = k → has xl cc ∨ has xh cc) := by
  intro i hi
  have hg : A.getD k (0, 0) = A[k] := by simp [hk]
  have hwl := wnF_len (L := N) (js := A)
  have hw := wnF_ok (L := N) hv (List.getElem?_eq_getElem (show i < (wnF N A).length by omega)) (List.getElem?_eq_getElem hi)
  have hm := mid_bd hw.1
  have hva := vlB_iff.1 hv A[i] (List.getElem_mem _)
  have hcc : has A[i] (mid ((wnF N A)[i]'(by omega))) := ⟨hva, by have := hw.2.2; omega⟩
  by_cases e : k = i
  · subst e
    have mm := mid_bd hva
    refine ⟨(A[k].1, mid A[k]), (mid A[k], A[k].2), mid ((wnF N A)[k]'(by omega)), by simp [lowH, hk], by simp [highH, hk], by simp [hwl, hk], ?_⟩
    obtain ⟨v1, v2, v3⟩ := hva
    obtain ⟨m0, m1, m2⟩ := mm
    obtain ⟨c1, c2, c3⟩ := hcc
    generalize mid A[k] = M at *
    generalize mid ((wnF N A)[k]'(by omega)) = cc at *
    clear hw hm hg
    generalize A[k] = a at *
    obtain ⟨a1, a2⟩ := a
    simp only at *
    unfold hul met wth has Vld
    dsimp only
    refine ⟨by omega, by omega, by omega, ?_, by omega, by omega, by omega, by omega, by omega⟩
    rw [if_pos (by omega)]
    ext <;> dsimp only <;> omega
  · refine ⟨A[i], A[i], mid ((wnF N A)[i]'(by omega)), by simp [lowH, e, hi], by simp [highH, e, hi], by simp [hwl, hi], hva, hva, ?_, ?_, hcc, ?_, ?_, fun _ => ⟨hcc, hcc⟩, fun q => absurd q.symm e⟩
    · unfold met Vld at *; omega
    · unfold hul
      rw [if_pos ⟨hva, hva⟩]
      ext <;> dsimp only <;> omega
    · exact ⟨hva, hva, by omega, by omega⟩
    · exact ⟨hva, hva, by omega, by omega⟩

set_option maxHeartbeats 1600000 in
theorem c8 {h : AH} {a b d : Option Addr} {n c m c1 k c2 : Nat} {L M N : List Int} (S : Sl tZ h a n c L) (S1 : Sl tZ h b m c1 M) (S2 : Sl tZ h d k c2 N) (hn : n ≤ 4611686018427387904) (hm : m ≤ 4611686018427387904) (hk : k ≤ 4611686018427387904) (joint : Int) (_ : I64 joint) :
    callP Try.prog 8 [.slice a n c, .slice b m c1, .slice d k c2, .int .i64 joint] h = some (.bool true, h) := by
  refine call_of good8 Try.func8 rfl rfl ?_
  have hr := c21 S hn
  rw [show (robF L 0).1 = rJ L from rfl, show (robF L 0).2.1 = rM L from rfl] at hr
  have hjl := rJ_len L
  have hjs : (rJ L).length ≠ 0 := by omega
  simp only [robV, slV_pos hjs] at hr
  obtain ⟨H1, hH1⟩ : ∃ H1 : AH, h ++ (robH (rJ L) (rM L) ++ [.cells [.slice (some ⟨h.length, 0, none⟩) (rJ L).length (rJ L).length, slV (h.length + 1) (rM L)] 42 false]) = H1 := ⟨_, rfl⟩
  have SJ : ∀ Y, Sl tJ (H1 ++ Y) (some ⟨h.length, 0, none⟩) (rJ L).length (rJ L).length (rJ L) := fun Y => by rw [← hH1, List.append_assoc]; exact Sl.of_row (by rw [get_at]; rfl)
  have SM : ∀ Y, Sl tZ (H1 ++ Y) b m c1 M := fun Y => by rw [← hH1, List.append_assoc]; exact S1.app _
  have SN : ∀ Y, Sl tZ (H1 ++ Y) d k c2 N := fun Y => by rw [← hH1, List.append_assoc]; exact S2.app _
  have hcell : ∀ Y, (H1 ++ Y)[h.length + (robH (rJ L) (rM L)).length]? = some (.cells [.slice (some ⟨h.length, 0, none⟩) (rJ L).length (rJ L).length, slV (h.length + 1) (rM L)] 42 false) := fun Y => by
    rw [← hH1, List.append_assoc, get_off, List.append_assoc, get_at]; rfl
  have hcell0 := hcell []
  rw [List.append_nil] at hcell0
  have x1 := c27 (ms := slV (h.length + 1) (rM L)) (SJ []) (SM []) (by omega) hm rJ_lim
  have hb1 : (bxP L M).length ≠ 0 := by rw [bxP_len]; exact hjs
  rw [show bxF M (rJ L) = bxP L M from rfl, slV_pos hb1, rowH_pos hb1] at x1
  have hgc : ∀ Y, gcA h (.bool true) (H1 ++ Y) = (.bool true, h) := fun Y => by rw [← hH1, List.append_assoc]; exact gc_app (.bool _)
  have vA : vlB (bxP L M) = true := bxP_vl
  have lA : (bxP L M).length = (rJ L).length := bxP_len
  generalize bxP L M = A at *
  rw [lA] at x1
  generalize (rJ L).length = r at *
  have r0 := Int.emod_nonneg joint (show (r : Int) ≠ 0 by omega)
  have r1 := Int.emod_lt_of_pos joint (show 0 < (r : Int) by omega)
  have ck := fun H => c15 (h := H) (a := joint) (b := (r : Int)) (by omega) (by omega)
  obtain ⟨j, hj, hjr⟩ : ∃ j : Nat, joint % r = j ∧ j < r := ⟨(joint % r).toNat, by omega, by omega⟩
  rw [hj] at ck
  have SA : ∀ Y, Sl tI (H1 ++ .cells (tI.flat A) 37 false :: Y) (some ⟨H1.length, 0, none⟩) r r A := fun Y => row_n lA (by rw [get_at]; rfl)
  have hjA : j < A.length := by omega
  have hvj := vlB_iff.1 vA A[j] (List.getElem_mem _)
  have ix := index_at (i := H1.length) (o := 0) (n := r) (c := r) Try.underlying26 sz37 (j := j) (kk := .i64) (Int.natCast_nonneg _) (by omega)
  simp [elemPtr_some] at ix
  obtain ⟨-, C, e, ro, hC, hCc⟩ := (SA []).row
  rw [get_at] at hC
  simp at hC
  obtain ⟨hC1, hC2, hC3⟩ := hC
  have f0 := hCc j hjA 0 (by decide)
  have f1 := hCc j hjA 1 (by decide)
  rw [← hC1] at f0 f1
  simp at f0 f1
  clear hC1 hC2 hC3 hCc
  have w1 : IntKind.i64.wrap (A[j].2 - A[j].1) = A[j].2 - A[j].1 := by unfold Vld at hvj; exact wrap_id (by omega) (by omega)
  have hv := c32 (k := (j : Int)) (SA []) (by omega)
  have hgd : A.getD j (0, 0) = A[j] := by simp [hjA]
  by_cases h2 : 2 ≤ A[j].2 - A[j].1
  · have hok : HalfOK A j := ⟨vA, by omega, by omega, by rw [Int.toNat_natCast, hgd]; exact h2⟩
    rw [if_pos hok, Int.toNat_natCast] at hv
    have key := half_key (N := N) vA hjA h2
    have lL : (lowH A j).length = r := by simp [lowH, lA]
    have lH : (highH A j).length = r := by simp [highH, lA]
    have lW : (wnF N A).length = r := by rw [wnF_len, lA]
    have vW := wnF_vl (L := N) vA
    have lC : ((wnF N A).map mid).length = r := by simp [lW]
    have vL : vlB (lowH A j) = true := by
      rw [vlB_iff]
      intro x hx
      obtain ⟨i, hi, rfl⟩ := List.getElem_of_mem hx
      obtain ⟨xl, xh, cc, g1, g2, g3, p1, p2, p3, p4, p5, p6, p7, p8, p9⟩ := key i (by omega)
      rw [List.getElem?_eq_getElem hi] at g1; cases g1; exact p1
    have vH : vlB (highH A j) = true := by
      rw [vlB_iff]
      intro x hx
      obtain ⟨i, hi, rfl⟩ := List.getElem_of_mem hx
      obtain ⟨xl, xh, cc, g1, g2, g3, p1, p2, p3, p4, p5, p6, p7, p8, p9⟩ := key i (by omega)
      rw [List.getElem?_eq_getElem hi] at g2; cases g2; exact p2
    have q1 : allB (fun x y => decide (met x y)) (lowH A j) (highH A j) = true := by
      rw [allB_iff (by omega)]
      intro i hi
      obtain ⟨xl, xh, cc, g1, g2, g3, p1, p2, p3, p4, p5, p6, p7, p8, p9⟩ := key i (by omega)
      rw [List.getElem?_eq_getElem (by omega)] at g1 g2; cases g1; cases g2; exact decide_eq_true p3
    have q2 : List.zipWith hul (lowH A j) (highH A j) = A := by
      apply List.ext_getElem
      · simp [lL, lH, lA]
      · intro i hi hi'
        obtain ⟨xl, xh, cc, g1, g2, g3, p1, p2, p3, p4, p5, p6, p7, p8, p9⟩ := key i (by omega)
        rw [List.getElem?_eq_getElem (by omega)] at g1 g2; cases g1; cases g2
        rw [List.getElem_zipWith]; exact p4
    have q3 : allB (fun x y => decide (has x y)) A ((wnF N A).map mid) = true := by
      rw [allB_iff (by omega)]
      intro i hi
      obtain ⟨xl, xh, cc, g1, g2, g3, p1, p2, p3, p4, p5, p6, p7, p8, p9⟩ := key i (by omega)
      rw [List.getElem?_eq_getElem (by omega)] at g3; cases g3; exact decide_eq_true p5
    have q4 : allB (fun x y => decide (has x y)) (lowH A j) ((wnF N A).map mid) = true ∨ allB (fun x y => decide (has x y)) (highH A j) ((wnF N A).map mid) = true := by
      obtain ⟨xl, xh, cc, g1, g2, g3, p1, p2, p3, p4, p5, p6, p7, p8, p9⟩ := key j hjA
      rcases p9 rfl with g | g
      · left
        rw [allB_iff (by omega)]
        intro i hi
        by_cases e : i = j
        · subst e
          rw [List.getElem?_eq_getElem (by omega)] at g1 g3; cases g1; cases g3; exact decide_eq_true g
        · obtain ⟨yl, yh, dd, g1, g2, g3, p1, p2, p3, p4, p5, p6, p7, p8, p9⟩ := key i (by omega)
          rw [List.getElem?_eq_getElem (by omega)] at g1 g3; cases g1; cases g3; exact decide_eq_true (p8 e).1
      · right
        rw [allB_iff (by omega)]
        intro i hi
        by_cases e : i = j
        · subst e
          rw [List.getElem?_eq_getElem (by omega)] at g2 g3; cases g2; cases g3; exact decide_eq_true g
        · obtain ⟨yl, yh, dd, g1, g2, g3, p1, p2, p3, p4, p5, p6, p7, p8, p9⟩ := key i (by omega)
          rw [List.getElem?_eq_getElem (by omega)] at g2 g3; cases g2; cases g3; exact decide_eq_true (p8 e).2
    have q5 : allB (fun x y => decide (wth x y)) (lowH A j) A = true := by
      rw [allB_iff (by omega)]
      intro i hi
      obtain ⟨xl, xh, cc, g1, g2, g3, p1, p2, p3, p4, p5, p6, p7, p8, p9⟩ := key i (by omega)
      rw [List.getElem?_eq_getElem (by omega)] at g1; cases g1; exact decide_eq_true p6
    have q6 : allB (fun x y => decide (wth x y)) (highH A j) A = true := by
      rw [allB_iff (by omega)]
      intro i hi
      obtain ⟨xl, xh, cc, g1, g2, g3, p1, p2, p3, p4, p5, p6, p7, p8, p9⟩ := key i (by omega)
      rw [List.getElem?_eq_getElem (by omega)] at g2; cases g2; exact decide_eq_true p7
    clear key
    have u1 := c33 (SA [.cells (tI.flat (lowH A j)) 37 false, .cells (tI.flat (highH A j)) 37 false]) (SN (.cells (tI.flat A) 37 false :: [.cells (tI.flat (lowH A j)) 37 false, .cells (tI.flat (highH A j)) 37 false])) (by omega) hk vA
    rw [slV_pos (by omega), rowH_pos (by omega), lW] at u1
    have u2 := c29 (row_n (T := tI) (h := H1 ++ [.cells (tI.flat A) 37 false, .cells (tI.flat (lowH A j)) 37 false, .cells (tI.flat (highH A j)) 37 false, .cells (tI.flat (wnF N A)) 37 false]) (b := H1.length + 3) lW (by rw [get_off]; rfl)) (by omega)
    rw [if_pos vW] at u2
    generalize lowH A j = X at *
    generalize highH A j = Y at *
    generalize wnF N A = U at *
    generalize U.map mid = V at *
    obtain ⟨Z, hZ⟩ : ∃ Z : AH, Z = [.cells (tI.flat A) 37 false, .cells (tI.flat X) 37 false, .cells (tI.flat Y) 37 false, .cells (tI.flat U) 37 false, .cells (tN.flat V) 2 false] := ⟨_, rfl⟩
    have TA : Sl tI (H1 ++ Z) (some ⟨H1.length, 0, none⟩) r r A := by rw [hZ]; exact SA _
    have TX : Sl tI (H1 ++ Z) (some ⟨H1.length + 1, 0, none⟩) r r X := row_n lL (by rw [hZ, get_off]; rfl)
    have TY : Sl tI (H1 ++ Z) (some ⟨H1.length + 2, 0, none⟩) r r Y := row_n lH (by rw [hZ, get_off]; rfl)
    have TV : Sl tN (H1 ++ Z) (some ⟨H1.length + 4, 0, none⟩) r r V := row_n lC (by rw [hZ, get_off]; rfl)
    have e1 := c31 TX TY (by omega) (by omega)
    have e2 := c34 TX TY (by omega) vL vH
    simp only [Option.isNone_some, Bool.false_eq_true, if_false, q2] at e2
    have T6 : Sl tI (H1 ++ Z ++ [.cells (tI.flat A) 37 false]) (some ⟨H1.length + 5, 0, none⟩) r r A := row_n lA (by rw [hZ, List.append_assoc, get_off]; rfl)
    have e3 := c20 T6 (TA.app _) (by omega)
    have e4 := c30 (TA.app [.cells (tI.flat A) 37 false]) (TV.app _) (by omega)
    have e5 := c30 (TX.app [.cells (tI.flat A) 37 false]) (TV.app _) (by omega)
    have e6 := c30 (TY.app [.cells (tI.flat A) 37 false]) (TV.app _) (by omega)
    have e7 := c35 (TX.app [.cells (tI.flat A) 37 false]) (TA.app _) (by omega) (by omega)
    have e8 := c35 (TY.app [.cells (tI.flat A) 37 false]) (TA.app _) (by omega) (by omega)
    rw [vL, vH, q1] at e1
    rw [vA, q3] at e4
    rw [vL] at e5
    rw [vH] at e6
    rw [vL, vA, q5] at e7
    rw [vH, vA, q6] at e8
    rw [hZ] at e1 e2 e3 e4 e5 e6 e7 e8
    simp [Nat.add_assoc] at x1 hv u1 u2 e1 e2 e3 e4 e5 e6 e7 e8
    rcases q4 with q4 | q4
    · rw [q4] at e5
      simp [hr, hH1, hcell, hcell0, x1, ck, hv, ix, f0, f1, w1, h2, show ¬ A[j].2 - A[j].1 < 2 by omega, u1, u2, c16, e1, e2, e3, e4, e5, e7, e8, hgc]
    · rw [q4] at e6
      cases q5' : allB (fun x y => decide (has x y)) X V <;> rw [q5'] at e5 <;> simp [hr, hH1, hcell, hcell0, x1, ck, hv, ix, f0, f1, w1, h2, show ¬ A[j].2 - A[j].1 < 2 by omega, u1, u2, c16, e1, e2, e3, e4, e5, e6, e7, e8, hgc]
  · have hno : ¬ HalfOK A j := fun q => by have := q.2.2.2; rw [Int.toNat_natCast, hgd] at this; exact h2 this
    rw [if_neg hno] at hv
    simp at x1 hv
    simp [hr, hH1, hcell, hcell0, x1, ck, hv, ix, f0, f1, w1, show A[j].2 - A[j].1 < 2 by omega, c16, hgc]
end Go.AM.Try

