/- The law ConfigGeodesic over the abstract machine. No condition. -/
import Derived.Test.YtamghkoanamapaaGv
namespace Go.AM.Try
open Go.Proofs
set_option maxRecDepth 100000
set_option linter.unusedSimpArgs false
set_option linter.unusedVariables false
attribute [-simp] Bool.decide_and Bool.decide_or

theorem ins_mid {D i p q : Int} (hD : 0 < D) (h0 : 0 ≤ i) (hi : i ≤ D) : min p q ≤ ins D i p q ∧ ins D i p q ≤ max p q := by
  obtain ⟨a1, a2⟩ := pce_mul (d := q - p) h0 hi
  unfold ins
  generalize i * (q - p) = x at *
  have e1 : D * (q - p) / D = q - p := Int.mul_ediv_cancel_left _ (by omega)
  have z : (0 : Int) / D = 0 := Int.zero_ediv _
  have l1 := div_le hD a1
  have l2 := div_le hD a2
  generalize D * (q - p) = w at *
  have l1' : min 0 (q - p) ≤ x / D := by
    by_cases hw : w ≤ 0
    · rw [show min 0 w = w by omega, e1] at l1; omega
    · rw [show min 0 w = 0 by omega, z] at l1; omega
  have l2' : x / D ≤ max 0 (q - p) := by
    by_cases hw : w ≤ 0
    · rw [show max 0 w = 0 by omega, z] at l2; omega
    · rw [show max 0 w = w by omega, e1] at l2; omega
  omega
theorem sumN_add {f g : Nat → Int} {n : Nat} {k : Nat → Int} (h : ∀ i, i < n → f i + g i = k i) : sumN f n + sumN g n = sumN k n := by
  induction n with
  | zero => rfl
  | succ n ih =>
    have := ih fun i hi => h i (by omega)
    have := h n (by omega)
    simp only [sumN]
    omega
theorem mP_dist {L M N : List Int} : DistOK (rJ L) (rM L) (mP L M) (mP L N) := ⟨rob_ok L, mP_sm, mP_sm, mP_len, mP_len⟩

set_option maxHeartbeats 1600000 in
theorem c10 {h : AH} {a b d : Option Addr} {n c m c1 k c2 : Nat} {L M N : List Int} (S : Sl tZ h a n c L) (S1 : Sl tZ h b m c1 M) (S2 : Sl tZ h d k c2 N) (hn : n ≤ 4611686018427387904) (hm : m ≤ 4611686018427387904) (hk : k ≤ 4611686018427387904) (depth : Int) (_ : I64 depth) (index : Int) (_ : I64 index) :
    callP Try.prog 10 [.slice a n c, .slice b m c1, .slice d k c2, .int .i64 depth, .int .i64 index] h = some (.bool true, h) := by
  refine call_of good10 Try.func10 rfl rfl ?_
  have hr := c21 S hn
  rw [show (robF L 0).1 = rJ L from rfl, show (robF L 0).2.1 = rM L from rfl] at hr
  have hjl := rJ_len L
  have hml := rM_len L
  have hjs : (rJ L).length ≠ 0 := by omega
  have hms0 : (rM L).length ≠ 0 → (robH (rJ L) (rM L))[1]? = some (.cells (tM.flat (rM L)) 96 false) := fun q => by unfold robH; rw [if_neg q]; rfl
  obtain ⟨ma, hma, _⟩ := slV_Sl (T := tM) (h := h ++ robH (rJ L) (rM L)) (b := h.length + 1) (xs := rM L) fun q => by rw [get_off]; exact hms0 q
  simp only [robV, slV_pos hjs, hma] at hr
  obtain ⟨H1, hH1⟩ : ∃ H1 : AH, h ++ (robH (rJ L) (rM L) ++ [.cells [.slice (some ⟨h.length, 0, none⟩) (rJ L).length (rJ L).length, .slice ma (rM L).length (rM L).length] 42 false]) = H1 := ⟨_, rfl⟩
  have SJ : ∀ Y, Sl tJ (H1 ++ Y) (some ⟨h.length, 0, none⟩) (rJ L).length (rJ L).length (rJ L) := fun Y => by rw [← hH1, List.append_assoc]; exact Sl.of_row (by rw [get_at]; rfl)
  have SM : ∀ Y, Sl tM (H1 ++ Y) ma (rM L).length (rM L).length (rM L) := fun Y => by
    rw [← hH1, List.append_assoc, List.append_assoc]
    obtain ⟨ma', q1, q2⟩ := slV_Sl (T := tM) (h := h ++ (robH (rJ L) (rM L) ++ ([.cells [.slice (some ⟨h.length, 0, none⟩) (rJ L).length (rJ L).length, .slice ma (rM L).length (rM L).length] 42 false] ++ Y))) (b := h.length + 1) (xs := rM L) fun q => by rw [get_off, List.getElem?_append_left (List.getElem?_eq_some_iff.1 (hms0 q)).1]; exact hms0 q
    rw [hma] at q1
    cases q1
    exact q2
  have T0 : ∀ Y, Sl tZ (H1 ++ Y) a n c L := fun Y => by rw [← hH1, List.append_assoc]; exact S.app _
  have T1 : ∀ Y, Sl tZ (H1 ++ Y) b m c1 M := fun Y => by rw [← hH1, List.append_assoc]; exact S1.app _
  have T2 : ∀ Y, Sl tZ (H1 ++ Y) d k c2 N := fun Y => by rw [← hH1, List.append_assoc]; exact S2.app _
  have hcell : ∀ Y, (H1 ++ Y)[h.length + (robH (rJ L) (rM L)).length]? = some (.cells [.slice (some ⟨h.length, 0, none⟩) (rJ L).length (rJ L).length, .slice ma (rM L).length (rM L).length] 42 false) := fun Y => by
    rw [← hH1, List.append_assoc, get_off, List.append_assoc, get_at]; rfl
  have mo := c13 (depth := depth) (index := index) (T0 []) (T1 []) (T2 []) hn hm hk
  have hgc : ∀ Y, gcA h (.bool true) (H1 ++ Y) = (.bool true, h) := fun Y => by rw [← hH1, List.append_assoc]; exact gc_app (.bool _)
  have hp1 : (mP L M).length ≠ 0 := by rw [mP_len]; omega
  have hp2 : (mP L N).length ≠ 0 := by rw [mP_len]; omega
  rw [slV_pos hp1, slV_pos hp2] at mo
  have d0 := Int.emod_nonneg depth (show (20 : Int) ≠ 0 by decide)
  have d1 := Int.emod_lt_of_pos depth (show (0 : Int) < 20 by decide)
  obtain ⟨q1, q2, q3⟩ := pow20 d0 (by omega)
  have i0 := Int.emod_nonneg index (show (2 : Int) ^ (depth % 20).toNat ≠ 0 by omega)
  have i1 := Int.emod_lt_of_pos index q3
  have st1 : Str (mP L M) (mP L N) (depth % 20) := mP_str d0 (by omega)
  have hz := rJ_nm (L := L)
  have D1 := mP_dist (L := L) (M := M) (N := N)
  have lP : (mP L M).length = (rJ L).length := mP_len
  have lQ : (mP L N).length = (rJ L).length := mP_len
  rw [lP, lQ] at mo
  generalize mP L M = P at *
  generalize mP L N = Q at *
  generalize rJ L = J at *
  generalize rM L = K at *
  generalize depth % 20 = dd at *
  generalize hD : (2 : Int) ^ dd.toNat = D at *
  generalize index % D = ii at *
  have SP : ∀ X, Sl tN (H1 ++ .cells (tN.flat P) 2 false :: X) (some ⟨H1.length, 0, none⟩) J.length J.length P := fun X => row_n lP (by rw [get_at]; rfl)
  have SQ : ∀ Y X, Sl tN (H1 ++ Y :: .cells (tN.flat Q) 2 false :: X) (some ⟨H1.length + 1, 0, none⟩) J.length J.length Q := fun Y X => row_n lQ (by rw [get_off]; rfl)
  have a1 := c24 (SP [.cells (tN.flat Q) 2 false]) (SQ (.cells (tN.flat P) 2 false) []) (by omega) (by omega) st1 i0 (by rw [hD]; omega)
  rw [hD] at a1
  have hx : ∀ (i : Nat) (p q : Int), P[i]? = some p → Q[i]? = some q → (List.zipWith (ins D ii) P Q)[i]? = some (ins D ii p q) := fun i p q h1 h2 => by simp [List.getElem?_zipWith, h1, h2]
  have lX : (List.zipWith (ins D ii) P Q).length = J.length := by simp [lP, lQ]
  have sX : smB (List.zipWith (ins D ii) P Q) = true := by
    rw [smB_iff]
    intro x hx
    obtain ⟨i, hi, rfl⟩ := List.getElem_of_mem hx
    rw [List.getElem_zipWith]
    have b1 := smB_iff.1 D1.2.1 (P[i]'(by omega)) (List.getElem_mem _)
    have b2 := smB_iff.1 D1.2.2.1 (Q[i]'(by omega)) (List.getElem_mem _)
    have := ins_mid (p := P[i]'(by omega)) (q := Q[i]'(by omega)) q3 i0 (show ii ≤ D by omega)
    omega
  have D2 : DistOK J K P (List.zipWith (ins D ii) P Q) := ⟨D1.1, D1.2.1, sX, D1.2.2.2.1, lX⟩
  have D3 : DistOK J K (List.zipWith (ins D ii) P Q) Q := ⟨D1.1, sX, D1.2.2.1, lX, D1.2.2.2.2⟩
  have key : dist J K P (List.zipWith (ins D ii) P Q) + dist J K (List.zipWith (ins D ii) P Q) Q = dist J K P Q := by
    unfold dist
    rw [if_pos D1, if_pos D2, if_pos D3]
    refine sumN_add fun i hi => ?_
    have hx := hx i (P[i]'(by omega)) (Q[i]'(by omega)) (List.getElem?_eq_getElem _) (List.getElem?_eq_getElem _)
    have := ins_mid (p := P[i]'(by omega)) (q := Q[i]'(by omega)) q3 i0 (show ii ≤ D by omega)
    unfold dTm
    rw [List.getD_eq_getElem?_getD, List.getD_eq_getElem?_getD (l := List.zipWith _ _ _), hx, List.getD_eq_getElem?_getD, List.getElem?_eq_getElem (l := P) (by omega), List.getD_eq_getElem?_getD, List.getElem?_eq_getElem (l := Q) (by omega)]
    simp only [Option.getD_some]
    rw [← Int.mul_add]
    congr 1
    omega
  have bd := fun (p q : List Int) (h : DistOK J K p q) => sumN_bd h J.length (Nat.le_refl _)
  have b1 : 0 ≤ dist J K P Q ∧ dist J K P Q ≤ 4398046511104 * J.length := by unfold dist; rw [if_pos D1]; exact bd _ _ D1
  generalize List.zipWith (ins D ii) P Q = X at *
  have SX : Sl tN (H1 ++ [.cells (tN.flat P) 2 false, .cells (tN.flat Q) 2 false, .cells (tN.flat X) 2 false]) (some ⟨H1.length + 2, 0, none⟩) J.length J.length X := row_n lX (by rw [get_off]; rfl)
  have e1 := c36 (SJ _) (SM _) (SP [.cells (tN.flat Q) 2 false, .cells (tN.flat X) 2 false]) SX (by omega) (by omega) (by omega) (by omega) hz
  have e2 := c36 (SJ _) (SM _) SX (SQ (.cells (tN.flat P) 2 false) [.cells (tN.flat X) 2 false]) (by omega) (by omega) (by omega) (by omega) hz
  have e3 := c36 (SJ _) (SM _) (SP [.cells (tN.flat Q) 2 false, .cells (tN.flat X) 2 false]) (SQ (.cells (tN.flat P) 2 false) [.cells (tN.flat X) 2 false]) (by omega) (by omega) (by omega) (by omega) hz
  have w1 : IntKind.i64.wrap (dist J K P X + dist J K X Q) = dist J K P Q := by rw [key]; exact wrap_id (by omega) (by omega)
  simp at mo a1
  simp [hr, hH1, hcell, mo, a1, c16, e1, e2, e3, w1, hgc]
end Go.AM.Try

