/- The laws ConfigEnds and ConfigNested over the abstract machine. No condition. -/
import Derived.Test.YtamghkoanamapaaGl
namespace Go.AM.Try
open Go.Proofs
set_option maxRecDepth 100000
set_option linter.unusedSimpArgs false
set_option linter.unusedVariables false
attribute [-simp] Bool.decide_and Bool.decide_or
theorem good6 : fnB Try.prog 6 = true := by kernel_rfl
theorem good3 : fnB Try.prog 3 = true := by kernel_rfl

theorem div_le {x y D : Int} (hD : 0 < D) (h : x ≤ y) : x / D ≤ y / D := Int.ediv_le_ediv hD h
/-- Floor and ceiling. -/
theorem fl_ce {x y D : Int} (hD : 0 < D) (h : x ≤ y) : x / D ≤ -(-y / D) := by
  have h1 := Int.ediv_mul_le (-y) (b := D) (by omega)
  have h2 := Int.ediv_mul_le x (b := D) (by omega)
  have h3 : (-y / D) * D ≤ (-(x / D)) * D := by rw [Int.neg_mul]; omega
  have h4 := Int.le_of_mul_le_mul_right h3 hD
  omega
theorem pce_mul {i d D : Int} (h0 : 0 ≤ i) (hi : i ≤ D) : min 0 (D * d) ≤ i * d ∧ i * d ≤ max 0 (D * d) := by
  by_cases hd : 0 ≤ d
  · have h1 := Int.mul_nonneg h0 hd
    have h2 := Int.mul_le_mul_of_nonneg_right hi hd
    omega
  · have h1 := Int.mul_nonneg h0 (show 0 ≤ -d by omega)
    have h2 := Int.mul_le_mul_of_nonneg_right hi (show 0 ≤ -d by omega)
    rw [Int.mul_neg] at h1
    rw [Int.mul_neg, Int.mul_neg] at h2
    omega
/-- A piece lies within the hull of both ends. -/
theorem pce_hull {D i p q : Int} (hD : 0 < D) (h0 : 0 ≤ i) (hi : i < D) : min p q ≤ (pce D i p q).1 ∧ (pce D i p q).1 ≤ (pce D i p q).2 ∧ (pce D i p q).2 ≤ max p q := by
  obtain ⟨a1, a2⟩ := pce_mul (d := q - p) h0 (show i ≤ D by omega)
  obtain ⟨b1, b2⟩ := pce_mul (d := q - p) (show 0 ≤ i + 1 by omega) (show i + 1 ≤ D by omega)
  have hfc := fl_ce hD (show min (i * (q - p)) ((i + 1) * (q - p)) ≤ max (i * (q - p)) ((i + 1) * (q - p)) by omega)
  unfold pce
  dsimp only
  generalize i * (q - p) = x at *
  generalize (i + 1) * (q - p) = y at *
  have e1 : D * (q - p) / D = q - p := Int.mul_ediv_cancel_left _ (by omega)
  have e2 : -(D * (q - p)) / D = -(q - p) := by rw [← Int.mul_neg]; exact Int.mul_ediv_cancel_left _ (by omega)
  have l1 := div_le hD (show min 0 (D * (q - p)) ≤ min x y by omega)
  have l2 := div_le hD (show -max 0 (D * (q - p)) ≤ -max x y by omega)
  have z : (0 : Int) / D = 0 := Int.zero_ediv _
  generalize D * (q - p) = w at *
  have l1' : min 0 (q - p) ≤ min x y / D := by
    by_cases hw : w ≤ 0
    · rw [show min 0 w = w by omega, e1] at l1; omega
    · rw [show min 0 w = 0 by omega, z] at l1; omega
  have l2' : -max 0 (q - p) ≤ -max x y / D := by
    by_cases hw : w ≤ 0
    · rw [show max 0 w = 0 by omega, Int.neg_zero, z] at l2; omega
    · rw [show max 0 w = w by omega, e2] at l2; omega
  omega
theorem pce_vld {D i p q : Int} (hD : 0 < D) (h0 : 0 ≤ i) (hi : i < D) (hp : -2147483648 ≤ p ∧ p ≤ 2147483648) (hq : -2147483648 ≤ q ∧ q ≤ 2147483648) : Vld (pce D i p q) := by
  have := pce_hull (p := p) (q := q) hD h0 hi
  unfold Vld
  omega
/-- Both ends of a piece lie within it. -/
theorem pce_ends {D i p q : Int} (hD : 0 < D) (h0 : 0 ≤ i) (hi : i < D) (hp : -2147483648 ≤ p ∧ p ≤ 2147483648) (hq : -2147483648 ≤ q ∧ q ≤ 2147483648) : has (pce D i p q) (ins D i p q) ∧ has (pce D i p q) (ins D (i + 1) p q) := by
  have hv := pce_vld hD h0 hi hp hq
  unfold has
  refine ⟨⟨hv, ?_⟩, hv, ?_⟩
  · unfold pce ins
    dsimp only
    have l1 := div_le hD (show min (i * (q - p)) ((i + 1) * (q - p)) ≤ i * (q - p) by omega)
    have l2 := fl_ce hD (show i * (q - p) ≤ max (i * (q - p)) ((i + 1) * (q - p)) by omega)
    omega
  · unfold pce ins
    dsimp only
    have l1 := div_le hD (show min (i * (q - p)) ((i + 1) * (q - p)) ≤ (i + 1) * (q - p) by omega)
    have l2 := fl_ce hD (show (i + 1) * (q - p) ≤ max (i * (q - p)) ((i + 1) * (q - p)) by omega)
    omega
theorem ins_zero {D p q : Int} : ins D 0 p q = p := by simp [ins]
theorem ins_all {D p q : Int} (hD : 0 < D) : ins D D p q = q := by
  unfold ins
  rw [Int.mul_ediv_cancel_left _ (by omega)]
  omega
theorem zip_left {P Q : List Int} (h : P.length = Q.length) {f : Int → Int → Int} (hf : ∀ p q, f p q = p) : List.zipWith f P Q = P := by
  apply List.ext_getElem
  · simp [h]
  · intro i h1 h2; simp [hf]
theorem zip_right {P Q : List Int} (h : P.length = Q.length) {f : Int → Int → Int} (hf : ∀ p q, f p q = q) : List.zipWith f P Q = Q := by
  apply List.ext_getElem
  · simp [h]
  · intro i h1 h2; simp [hf]
theorem zip_vl {P Q : List Int} {D i : Int} (hP : smB P = true) (hQ : smB Q = true) (hD : 0 < D) (h0 : 0 ≤ i) (hi : i < D) : vlB (List.zipWith (pce D i) P Q) = true := by
  rw [vlB_iff]
  intro x hx
  obtain ⟨j, hj, rfl⟩ := List.getElem_of_mem hx
  simp at hj
  rw [List.getElem_zipWith]
  exact pce_vld hD h0 hi (smB_iff.1 hP _ (List.getElem_mem _)) (smB_iff.1 hQ _ (List.getElem_mem _))
theorem zip_has {P Q : List Int} {D i k : Int} (hP : smB P = true) (hQ : smB Q = true) (hh : ∀ p q, (-2147483648 ≤ p ∧ p ≤ 2147483648) → (-2147483648 ≤ q ∧ q ≤ 2147483648) → has (pce D i p q) (ins D k p q)) :
    allB (fun x y => decide (has x y)) (List.zipWith (pce D i) P Q) (List.zipWith (ins D k) P Q) = true := by
  rw [allB_iff (by simp)]
  intro j hj
  simp at hj
  rw [List.getElem_zipWith, List.getElem_zipWith]
  exact decide_eq_true (hh _ _ (smB_iff.1 hP _ (List.getElem_mem _)) (smB_iff.1 hQ _ (List.getElem_mem _)))

theorem c6 {h : AH} {a b d : Option Addr} {n c m c1 k c2 : Nat} {L M N : List Int} (S : Sl tZ h a n c L) (S1 : Sl tZ h b m c1 M) (S2 : Sl tZ h d k c2 N) (hn : n ≤ 4611686018427387904) (hm : m ≤ 4611686018427387904) (hk : k ≤ 4611686018427387904) (depth : Int) (_ : I64 depth) (index : Int) (_ : I64 index) :
    callP Try.prog 6 [.slice a n c, .slice b m c1, .slice d k c2, .int .i64 depth, .int .i64 index] h = some (.bool true, h) := by
  refine call_of good6 Try.func6 rfl rfl ?_
  have mo := c13 (depth := depth) (index := index) S S1 S2 hn hm hk
  have hjl := rJ_len L
  have hp1 : (mP L M).length ≠ 0 := by rw [mP_len]; omega
  have hp2 : (mP L N).length ≠ 0 := by rw [mP_len]; omega
  have hq1 : (mP L M).length ≤ 3 := by rw [mP_len]; omega
  rw [slV_pos hp1, slV_pos hp2] at mo
  have d0 := Int.emod_nonneg depth (show (20 : Int) ≠ 0 by decide)
  have d1 := Int.emod_lt_of_pos depth (show (0 : Int) < 20 by decide)
  obtain ⟨q1, q2, q3⟩ := pow20 d0 (by omega)
  have hmin : min (depth % 20).toNat 64 = (depth % 20).toNat := by omega
  rw [hmin] at q1
  have hw : IntKind.u64.wrap (depth % 20) = depth % 20 := by rw [IntKind.wrap_u64]; omega
  have i0 := Int.emod_nonneg index (show (2 : Int) ^ (depth % 20).toNat ≠ 0 by omega)
  have i1 := Int.emod_lt_of_pos index q3
  have sP : smB (mP L M) = true := mP_sm
  have sQ : smB (mP L N) = true := mP_sm
  generalize hP : mP L M = P at *
  generalize hQ : mP L N = Q at *
  have st1 : Str P Q (depth % 20) := by rw [← hP, ← hQ]; exact mP_str d0 (by omega)
  generalize depth % 20 = dd at *
  generalize hD : (2 : Int) ^ dd.toNat = D at *
  generalize index % D = ii at *
  have hPQ : P.length = Q.length := st1.2.2.1
  rw [← hPQ] at mo
  have SP : ∀ X, Sl tN (h ++ .cells (tN.flat P) 2 false :: X) (some ⟨h.length, 0, none⟩) P.length P.length P := fun X => Sl.of_row (by rw [get_at]; rfl)
  have SQ : ∀ Y X, Sl tN (h ++ Y :: .cells (tN.flat Q) 2 false :: X) (some ⟨h.length + 1, 0, none⟩) P.length P.length Q := fun Y X => by rw [hPQ]; exact Sl.of_row (by rw [get_off]; rfl)
  have p1 := fun X => c14 (SP (.cells (tN.flat Q) 2 false :: X)) (SQ (.cells (tN.flat P) 2 false) X) (by omega) (by omega) st1 i0 (by rw [hD]; exact i1)
  have at_ := fun X (j : Int) (h1 : 0 ≤ j) (h2 : j ≤ D) => c24 (SP (.cells (tN.flat Q) 2 false :: X)) (SQ (.cells (tN.flat P) 2 false) X) (by omega) (by omega) st1 (i := j) h1 (by rw [hD]; exact h2)
  simp only [hD] at p1 at_
  have a1 := fun X => at_ X ii i0 (by omega)
  have a2 := fun X => at_ X (ii + 1) (by omega) (by omega)
  have a3 := fun X => at_ X 0 (by omega) (by omega)
  have a4 := fun X => at_ X D (by omega) (by omega)
  have e3 : List.zipWith (ins D 0) P Q = P := zip_left hPQ fun _ _ => ins_zero
  have e4 : List.zipWith (ins D D) P Q = Q := zip_right hPQ fun _ _ => ins_all q3
  rw [e3] at a3
  rw [e4] at a4
  have hv := zip_vl (i := ii) sP sQ q3 i0 i1
  have g1 := zip_has (D := D) (i := ii) (k := ii) sP sQ fun p q hp hq => (pce_ends q3 i0 i1 hp hq).1
  have g2 := zip_has (D := D) (i := ii) (k := ii + 1) sP sQ fun p q hp hq => (pce_ends q3 i0 i1 hp hq).2
  have z1 : (List.zipWith (pce D ii) P Q).length = P.length := by simp [hPQ]
  have z2 : (List.zipWith (ins D ii) P Q).length = P.length := by simp [hPQ]
  have z3 : (List.zipWith (ins D (ii + 1)) P Q).length = P.length := by simp [hPQ]
  clear at_ e3 e4
  generalize List.zipWith (pce D ii) P Q = A at *
  generalize List.zipWith (ins D ii) P Q = U at *
  generalize List.zipWith (ins D (ii + 1)) P Q = V at *
  obtain ⟨Z, hZ⟩ : ∃ Z : AH, Z = [.cells (tN.flat P) 2 false, .cells (tN.flat Q) 2 false, .cells (tI.flat A) 37 false, .cells (tN.flat U) 2 false, .cells (tN.flat V) 2 false, .cells (tN.flat P) 2 false, .cells (tN.flat Q) 2 false] := ⟨_, rfl⟩
  have TP : Sl tN (h ++ Z) (some ⟨h.length, 0, none⟩) P.length P.length P := by rw [hZ]; exact SP _
  have TQ : Sl tN (h ++ Z) (some ⟨h.length + 1, 0, none⟩) P.length P.length Q := by rw [hZ]; exact SQ _ _
  have TA : Sl tI (h ++ Z) (some ⟨h.length + 2, 0, none⟩) P.length P.length A := by rw [← z1, hZ]; exact Sl.of_row (by rw [get_off]; rfl)
  have TU : Sl tN (h ++ Z) (some ⟨h.length + 3, 0, none⟩) P.length P.length U := by rw [← z2, hZ]; exact Sl.of_row (by rw [get_off]; rfl)
  have TV : Sl tN (h ++ Z) (some ⟨h.length + 4, 0, none⟩) P.length P.length V := by rw [← z3, hZ]; exact Sl.of_row (by rw [get_off]; rfl)
  have T5 : Sl tN (h ++ Z) (some ⟨h.length + 5, 0, none⟩) P.length P.length P := by rw [hZ]; exact Sl.of_row (by rw [get_off]; rfl)
  have T6 : Sl tN (h ++ Z) (some ⟨h.length + 6, 0, none⟩) P.length P.length Q := by rw [hPQ, hZ]; exact Sl.of_row (by rw [get_off]; rfl)
  have k1 := c25' TA TU (by omega)
  have k2 := c25' TA TV (by omega)
  have k3 := c26 T5 TP (by omega)
  have k4 := c26 T6 TQ (by omega)
  rw [hv, g1] at k1
  rw [hv, g2] at k2
  rw [hZ] at k1 k2 k3 k4
  simp at mo p1 a1 a2 a3 a4 k1 k2 k3 k4
  have w1 : IntKind.i64.wrap D = D := q1
  have w2 : IntKind.i64.wrap (ii + 1) = ii + 1 := wrap_id (by omega) (by omega)
  simp [mo, p1, a1, a2, a3, a4, k1, k2, k3, k4, hw, convA, show ¬ dd < 0 by omega, w1, w2, hmin, c16, hD]

/-- Pieces of greater depth lie within the piece. -/
theorem pce_nest {D i p q K r : Int} (hD : 0 < D) (hK : 0 < K) (r0 : 0 ≤ r) (r1 : r < K) : (pce D i p q).1 ≤ (pce (D * K) (i * K + r) p q).1 ∧ (pce (D * K) (i * K + r) p q).2 ≤ (pce D i p q).2 := by
  have a := pce_mul (d := q - p) r0 (show r ≤ K by omega)
  have b := pce_mul (d := q - p) (show 0 ≤ r + 1 by omega) (show r + 1 ≤ K by omega)
  have e0 : (i + 1) * (q - p) = i * (q - p) + (q - p) := by rw [Int.add_mul, Int.one_mul]
  have e1 : (i * K + r) * (q - p) = K * (i * (q - p)) + r * (q - p) := by grind
  have e2 : (i * K + r + 1) * (q - p) = K * (i * (q - p)) + (r + 1) * (q - p) := by grind
  have hmin : K * min (i * (q - p)) ((i + 1) * (q - p)) = K * (i * (q - p)) + min 0 (K * (q - p)) := by
    rw [e0]
    by_cases g : 0 ≤ q - p
    · have := Int.mul_nonneg (show 0 ≤ K by omega) g
      rw [show min (i * (q - p)) (i * (q - p) + (q - p)) = i * (q - p) by omega]; omega
    · have := Int.mul_nonneg (show 0 ≤ K by omega) (show 0 ≤ -(q - p) by omega)
      rw [Int.mul_neg] at this
      rw [show min (i * (q - p)) (i * (q - p) + (q - p)) = i * (q - p) + (q - p) by omega, Int.mul_add]; omega
  have hmax : K * max (i * (q - p)) ((i + 1) * (q - p)) = K * (i * (q - p)) + max 0 (K * (q - p)) := by
    rw [e0]
    by_cases g : 0 ≤ q - p
    · have := Int.mul_nonneg (show 0 ≤ K by omega) g
      rw [show max (i * (q - p)) (i * (q - p) + (q - p)) = i * (q - p) + (q - p) by omega, Int.mul_add]; omega
    · have := Int.mul_nonneg (show 0 ≤ K by omega) (show 0 ≤ -(q - p) by omega)
      rw [Int.mul_neg] at this
      rw [show max (i * (q - p)) (i * (q - p) + (q - p)) = i * (q - p) by omega]; omega
  unfold pce
  dsimp only
  rw [e1, e2]
  have hDK : 0 < D * K := Int.mul_pos hD hK
  have l1 := div_le hDK (show K * min (i * (q - p)) ((i + 1) * (q - p)) ≤ min (K * (i * (q - p)) + r * (q - p)) (K * (i * (q - p)) + (r + 1) * (q - p)) by omega)
  have l2 := div_le hDK (show -(K * max (i * (q - p)) ((i + 1) * (q - p))) ≤ -max (K * (i * (q - p)) + r * (q - p)) (K * (i * (q - p)) + (r + 1) * (q - p)) by omega)
  rw [Int.mul_comm D K, Int.mul_ediv_mul_of_pos _ _ hK] at l1
  rw [← Int.mul_neg, Int.mul_comm D K, Int.mul_ediv_mul_of_pos _ _ hK] at l2
  rw [Int.mul_comm D K]
  omega
theorem zip_nest {P Q : List Int} {D i K r : Int} (hP : smB P = true) (hQ : smB Q = true) (hD : 0 < D) (h0 : 0 ≤ i) (hi : i < D) (hK : 0 < K) (r0 : 0 ≤ r) (r1 : r < K) :
    allB (fun x y => decide (wth x y)) (List.zipWith (pce (D * K) (i * K + r)) P Q) (List.zipWith (pce D i) P Q) = true := by
  rw [allB_iff (by simp)]
  intro j hj
  simp at hj
  rw [List.getElem_zipWith, List.getElem_zipWith]
  have sp := smB_iff.1 hP (P[j]'(by omega)) (List.getElem_mem _)
  have sq := smB_iff.1 hQ (Q[j]'(by omega)) (List.getElem_mem _)
  have hb : i * K + r < D * K := by
    have := Int.mul_le_mul_of_nonneg_right (show i + 1 ≤ D by omega) (show 0 ≤ K by omega)
    rw [Int.add_mul, Int.one_mul] at this
    omega
  have hb0 : 0 ≤ i * K + r := by
    have := Int.mul_nonneg h0 (show 0 ≤ K by omega)
    omega
  refine decide_eq_true ⟨pce_vld (Int.mul_pos hD hK) hb0 hb sp sq, pce_vld hD h0 hi sp sq, ?_⟩
  exact pce_nest hD hK r0 r1
theorem zip_hull {P Q : List Int} {D i : Int} (hP : smB P = true) (hQ : smB Q = true) (hl : P.length = Q.length) (hD : 0 < D) (h0 : 0 ≤ i) (hi : i < D) :
    vlB (List.zipWith hul (P.map fun z => (z, z)) (Q.map fun z => (z, z))) = true ∧ allB (fun x y => decide (wth x y)) (List.zipWith (pce D i) P Q) (List.zipWith hul (P.map fun z => (z, z)) (Q.map fun z => (z, z))) = true := by
  have key : ∀ (p q : Int), (-2147483648 ≤ p ∧ p ≤ 2147483648) → (-2147483648 ≤ q ∧ q ≤ 2147483648) → hul (p, p) (q, q) = (min p q, max p q) := by
    intro p q hp hq
    unfold hul Vld
    rw [if_pos ⟨by dsimp only; omega, by dsimp only; omega⟩]
  constructor
  · rw [vlB_iff]
    intro x hx
    obtain ⟨j, hj, rfl⟩ := List.getElem_of_mem hx
    simp at hj
    have sp := smB_iff.1 hP (P[j]'(by omega)) (List.getElem_mem _)
    have sq := smB_iff.1 hQ (Q[j]'(by omega)) (List.getElem_mem _)
    rw [List.getElem_zipWith, List.getElem_map, List.getElem_map, key _ _ sp sq]
    unfold Vld
    dsimp only
    omega
  · rw [allB_iff (by simp)]
    intro j hj
    simp at hj
    have sp := smB_iff.1 hP (P[j]'(by omega)) (List.getElem_mem _)
    have sq := smB_iff.1 hQ (Q[j]'(by omega)) (List.getElem_mem _)
    rw [List.getElem_zipWith, List.getElem_zipWith, List.getElem_map, List.getElem_map, key _ _ sp sq]
    have b := pce_hull (p := P[j]'(by omega)) (q := Q[j]'(by omega)) hD h0 hi
    refine decide_eq_true ⟨pce_vld hD h0 hi sp sq, ?_, b.1, b.2.2⟩
    unfold Vld
    dsimp only
    omega
theorem box_vl {P : List Int} (hP : smB P = true) : vlB (P.map fun z => (z, z)) = true := by
  rw [vlB_iff]
  intro x hx
  obtain ⟨j, hj, rfl⟩ := List.getElem_of_mem hx
  simp at hj
  have sp := smB_iff.1 hP (P[j]'(by omega)) (List.getElem_mem _)
  rw [List.getElem_map]
  unfold Vld
  dsimp only
  omega
set_option maxHeartbeats 1600000 in
theorem c3 {h : AH} {a b d : Option Addr} {n c m c1 k c2 : Nat} {L M N : List Int} (S : Sl tZ h a n c L) (S1 : Sl tZ h b m c1 M) (S2 : Sl tZ h d k c2 N) (hn : n ≤ 4611686018427387904) (hm : m ≤ 4611686018427387904) (hk : k ≤ 4611686018427387904) (depth : Int) (_ : I64 depth) (index : Int) (_ : I64 index) (more : Int) (_ : I64 more) (at_ : Int) (_ : I64 at_) :
    callP Try.prog 3 [.slice a n c, .slice b m c1, .slice d k c2, .int .i64 depth,   .int .i64 index, .int .i64 more, .int .i64 at_] h = some (.bool true, h) := by
  refine call_of good3 Try.func3 rfl rfl ?_
  have mo := c13 (depth := depth) (index := index) S S1 S2 hn hm hk
  have hjl := rJ_len L
  have hp1 : (mP L M).length ≠ 0 := by rw [mP_len]; omega
  have hp2 : (mP L N).length ≠ 0 := by rw [mP_len]; omega
  have hq1 : (mP L M).length ≤ 3 := by rw [mP_len]; omega
  rw [slV_pos hp1, slV_pos hp2] at mo
  have d0 := Int.emod_nonneg depth (show (20 : Int) ≠ 0 by decide)
  have d1 := Int.emod_lt_of_pos depth (show (0 : Int) < 20 by decide)
  obtain ⟨q1, q2, q3⟩ := pow20 d0 (by omega)
  have hmin : min (depth % 20).toNat 64 = (depth % 20).toNat := by omega
  rw [hmin] at q1
  have hw : IntKind.u64.wrap (depth % 20) = depth % 20 := by rw [IntKind.wrap_u64]; omega
  have i0 := Int.emod_nonneg index (show (2 : Int) ^ (depth % 20).toNat ≠ 0 by omega)
  have i1 := Int.emod_lt_of_pos index q3
  have sP : smB (mP L M) = true := mP_sm
  have sQ : smB (mP L N) = true := mP_sm
  generalize hP : mP L M = P at *
  generalize hQ : mP L N = Q at *
  have st_ : ∀ j, 0 ≤ j → j ≤ 20 → Str P Q j := fun j h0 h1 => by rw [← hP, ← hQ]; exact mP_str h0 h1
  have st1 := st_ (depth % 20) d0 (by omega)
  generalize depth % 20 = dd at *
  generalize hD : (2 : Int) ^ dd.toNat = D at *
  generalize index % D = ii at *
  have hPQ : P.length = Q.length := st1.2.2.1
  rw [← hPQ] at mo
  have k0 := Int.emod_nonneg more (show 20 - dd + 1 ≠ 0 by omega)
  have k1 := Int.emod_lt_of_pos more (show 0 < 20 - dd + 1 by omega)
  obtain ⟨u1, u2, u3⟩ := pow20 k0 (by omega)
  have ck := fun H => c15 (h := H) (a := more) (b := 20 - dd + 1) (by omega) (by omega)
  have cr := fun H => c15 (h := H) (a := at_) u3 (by omega)
  have hw2 : IntKind.u64.wrap (more % (20 - dd + 1)) = more % (20 - dd + 1) := by rw [IntKind.wrap_u64]; omega
  have hmin2 : min (more % (20 - dd + 1)).toNat 64 = (more % (20 - dd + 1)).toNat := by omega
  rw [hmin2] at u1
  have r0 := Int.emod_nonneg at_ (show (2 : Int) ^ (more % (20 - dd + 1)).toNat ≠ 0 by omega)
  have r1 := Int.emod_lt_of_pos at_ u3
  generalize more % (20 - dd + 1) = kk at *
  have hDK : (2 : Int) ^ (dd + kk).toNat = D * 2 ^ kk.toNat := by
    rw [← hD, show (dd + kk).toNat = dd.toNat + kk.toNat by omega, Int.pow_add]
  have hD2 : (2 : Int) ^ (dd + 1).toNat = D * 2 := by
    rw [← hD, show (dd + 1).toNat = dd.toNat + 1 by omega, Int.pow_succ]
  have hDK20 := (pow20 (show 0 ≤ dd + kk by omega) (show dd + kk ≤ 20 by omega)).2.1
  rw [hDK] at hDK20
  generalize hK : (2 : Int) ^ kk.toNat = K at *
  generalize at_ % K = rr at *
  have hiK := Int.mul_le_mul_of_nonneg_right (show ii + 1 ≤ D by omega) (show 0 ≤ K by omega)
  rw [Int.add_mul, Int.one_mul] at hiK
  have hiK0 := Int.mul_nonneg i0 (show 0 ≤ K by omega)
  have SP : ∀ X, Sl tN (h ++ .cells (tN.flat P) 2 false :: X) (some ⟨h.length, 0, none⟩) P.length P.length P := fun X => Sl.of_row (by rw [get_at]; rfl)
  have SQ : ∀ Y X, Sl tN (h ++ Y :: .cells (tN.flat Q) 2 false :: X) (some ⟨h.length + 1, 0, none⟩) P.length P.length Q := fun Y X => by rw [hPQ]; exact Sl.of_row (by rw [get_off]; rfl)
  have pc := fun X (j x : Int) (h1 : 0 ≤ j) (h2 : j ≤ 20) (h3 : 0 ≤ x) (h4 : x < 2 ^ j.toNat) => c14 (SP (.cells (tN.flat Q) 2 false :: X)) (SQ (.cells (tN.flat P) 2 false) X) (by omega) (by omega) (st_ j h1 h2) h3 h4
  have p1 := fun X => pc X dd ii d0 (by omega) i0 (by rw [hD]; exact i1)
  have p2 := fun X => pc X (dd + 1) (2 * ii) (by omega) (by omega) (by omega) (by rw [hD2]; omega)
  have p3 := fun X => pc X (dd + 1) (2 * ii + 1) (by omega) (by omega) (by omega) (by rw [hD2]; omega)
  have p4 := fun X => pc X (dd + kk) (ii * K + rr) (by omega) (by omega) (by omega) (by rw [hDK]; omega)
  have v1 := zip_vl (i := ii) sP sQ q3 i0 i1
  have v2 := zip_vl (D := D * 2) (i := ii * 2 + 0) sP sQ (by omega) (by omega) (by omega)
  have v3 := zip_vl (D := D * 2) (i := ii * 2 + 1) sP sQ (by omega) (by omega) (by omega)
  have v4 := zip_vl (D := D * K) (i := ii * K + rr) sP sQ (Int.mul_pos q3 u3) (by omega) (by omega)
  have g2 := zip_nest (i := ii) (K := 2) (r := 0) sP sQ q3 i0 i1 (by decide) (by decide) (by decide)
  have g3 := zip_nest (i := ii) (K := 2) (r := 1) sP sQ q3 i0 i1 (by decide) (by decide) (by decide)
  have g4 := zip_nest (i := ii) sP sQ q3 i0 i1 u3 r0 r1
  obtain ⟨v5, g5⟩ := zip_hull (i := ii) sP sQ hPQ q3 i0 i1
  have vP := box_vl sP
  have vQ := box_vl sQ
  simp only [hD] at p1
  simp only [hD2, show 2 * ii = ii * 2 + 0 by omega] at p2
  simp only [hD2, show 2 * ii = ii * 2 by omega] at p3
  simp only [hDK] at p4
  have z1 : (List.zipWith (pce D ii) P Q).length = P.length := by simp [hPQ]
  have z2 : (List.zipWith (pce (D * 2) (ii * 2 + 0)) P Q).length = P.length := by simp [hPQ]
  have z3 : (List.zipWith (pce (D * 2) (ii * 2 + 1)) P Q).length = P.length := by simp [hPQ]
  have z4 : (List.zipWith (pce (D * K) (ii * K + rr)) P Q).length = P.length := by simp [hPQ]
  have z5 : (List.zipWith hul (P.map fun z => (z, z)) (Q.map fun z => (z, z))).length = P.length := by simp [hPQ]
  have z6 : (P.map fun z => (z, z)).length = P.length := by simp
  have z7 : (Q.map fun z => (z, z)).length = P.length := by simp [hPQ]
  clear pc
  generalize hBP : (P.map fun z => (z, z)) = BP at *
  generalize hBQ : (Q.map fun z => (z, z)) = BQ at *
  generalize List.zipWith (pce D ii) P Q = A at *
  generalize List.zipWith (pce (D * 2) (ii * 2 + 0)) P Q = X at *
  generalize List.zipWith (pce (D * 2) (ii * 2 + 1)) P Q = Y at *
  generalize List.zipWith (pce (D * K) (ii * K + rr)) P Q = W at *
  obtain ⟨Z, hZ⟩ : ∃ Z : AH, Z = [.cells (tN.flat P) 2 false, .cells (tN.flat Q) 2 false, .cells (tI.flat A) 37 false, .cells (tI.flat X) 37 false, .cells (tI.flat Y) 37 false, .cells (tI.flat W) 37 false] := ⟨_, rfl⟩
  have hZl : Z.length = 6 := by rw [hZ]; rfl
  have TP : Sl tN (h ++ Z) (some ⟨h.length, 0, none⟩) P.length P.length P := by rw [hZ]; exact SP _
  have TQ : Sl tN (h ++ Z) (some ⟨h.length + 1, 0, none⟩) P.length P.length Q := by rw [hZ]; exact SQ _ _
  have TA : Sl tI (h ++ Z) (some ⟨h.length + 2, 0, none⟩) P.length P.length A := by rw [← z1, hZ]; exact Sl.of_row (by rw [get_off]; rfl)
  have TX : Sl tI (h ++ Z) (some ⟨h.length + 3, 0, none⟩) P.length P.length X := by rw [← z2, hZ]; exact Sl.of_row (by rw [get_off]; rfl)
  have TY : Sl tI (h ++ Z) (some ⟨h.length + 4, 0, none⟩) P.length P.length Y := by rw [← z3, hZ]; exact Sl.of_row (by rw [get_off]; rfl)
  have TW : Sl tI (h ++ Z) (some ⟨h.length + 5, 0, none⟩) P.length P.length W := by rw [← z4, hZ]; exact Sl.of_row (by rw [get_off]; rfl)
  have n1 := c17' TX TA (by omega) (by omega)
  have n2 := c17' TY TA (by omega) (by omega)
  have n3 := c17' TW TA (by omega) (by omega)
  rw [v1, v2, g2] at n1
  rw [v1, v3, g3] at n2
  rw [v1, v4, g4] at n3
  have b1 := c19' TP (by omega) sP
  rw [hBP, rowH_pos (by omega), slV_pos (by omega), z6] at b1
  have b2 := c19' (TQ.app [.cells (tI.flat BP) 37 false]) (by omega) sQ
  rw [hBQ, rowH_pos (by omega), slV_pos (by omega), z7] at b2
  have TBP : Sl tI (h ++ Z ++ [.cells (tI.flat BP) 37 false, .cells (tI.flat BQ) 37 false]) (some ⟨h.length + 6, 0, none⟩) P.length P.length BP := by
    rw [← z6]; exact Sl.of_row (by rw [List.append_assoc, get_off, List.getElem?_append_right (by omega), hZl]; rfl)
  have TBQ : Sl tI (h ++ Z ++ [.cells (tI.flat BP) 37 false, .cells (tI.flat BQ) 37 false]) (some ⟨h.length + 7, 0, none⟩) P.length P.length BQ := by
    rw [← z7]; exact Sl.of_row (by rw [List.append_assoc, get_off, List.getElem?_append_right (by omega), hZl]; rfl)
  have b3 := c18' TBP TBQ (by omega) vP vQ
  rw [rowH_pos (by omega), slV_pos (by omega), z5] at b3
  generalize List.zipWith hul BP BQ = HH at *
  have THH : Sl tI (h ++ Z ++ [.cells (tI.flat BP) 37 false, .cells (tI.flat BQ) 37 false, .cells (tI.flat HH) 37 false]) (some ⟨h.length + 8, 0, none⟩) P.length P.length HH := by
    rw [← z5]; exact Sl.of_row (by rw [List.append_assoc, get_off, List.getElem?_append_right (by omega), hZl]; rfl)
  have n4 := c17' (TA.app _) THH (by omega) (by omega)
  rw [v1, v5, g5] at n4
  clear TP TQ TA TX TY TW TBP TBQ THH
  subst hZ
  simp [Nat.add_assoc] at mo p1 p2 p3 p4 n1 n2 n3 n4 b1 b2 b3
  have w1 : IntKind.i64.wrap (dd + 1) = dd + 1 := wrap_id (by omega) (by omega)
  have w2 : IntKind.i64.wrap (2 * ii) = ii * 2 := by rw [wrap_id (by omega) (by omega)]; omega
  have w3 : IntKind.i64.wrap (ii * 2 + 1) = ii * 2 + 1 := wrap_id (by omega) (by omega)
  have w4 : IntKind.i64.wrap (20 - dd) = 20 - dd := wrap_id (by omega) (by omega)
  have w5 : IntKind.i64.wrap (20 - dd + 1) = 20 - dd + 1 := wrap_id (by omega) (by omega)
  have w6 : IntKind.i64.wrap (dd + kk) = dd + kk := wrap_id (by omega) (by omega)
  have w7 : IntKind.i64.wrap (ii * K) = ii * K := wrap_id (by omega) (by omega)
  have w8 : IntKind.i64.wrap (ii * K + rr) = ii * K + rr := wrap_id (by omega) (by omega)
  have w9 : IntKind.i64.wrap K = K := u1
  simp [mo, p1, p2, p3, p4, n1, n2, n3, n4, b1, b2, b3, ck, cr, hw2, hK, convA, show ¬ kk < 0 by omega, w1, w2, w3, w4, w5, w6, w7, w8, w9, hmin2, c16]
end Go.AM.Try

