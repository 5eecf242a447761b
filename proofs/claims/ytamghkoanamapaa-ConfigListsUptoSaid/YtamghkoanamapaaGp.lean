/- The law ConfigTouches over the abstract machine. No condition. -/
import Derived.Test.YtamghkoanamapaaGo
namespace Go.AM.Try
open Go.Proofs
set_option maxRecDepth 100000
set_option linter.unusedSimpArgs false
set_option linter.unusedVariables false
attribute [-simp] Bool.decide_and Bool.decide_or
theorem good7 : fnB Try.prog 7 = true := by kernel_rfl

theorem binB {x y : Bool} : binA Try.prog .eql 4 (.bool x) (.bool y) = some (.bool (x == y)) := by
  unfold binA
  simp only []
  rw [if_pos (.inl trivial), if_pos ⟨.bool _, .bool _⟩]
  refine still_pure ?_
  have hg : Try.prog.eqGuardType Try.prog.depth 4 = false := by kernel_rfl
  have he : ∀ w, (Op.equal 4 (.bool x) (.bool y)).run Try.prog w = .ok (x == y) w := fun w => run_equalIn_bool w 9999 4 x y Try.underlying4
  simp [eqGuard, hg, he, eqRes]
attribute [simp] binB

theorem bxS_ok {L : List Int} {js : List Jt} (hl : ∀ j ∈ js, LimOK j) (k : Nat) (hk : k ≤ js.length) : (fdS (bxStep L) ([], 0) js k).1.length = k ∧ ∀ (i : Nat) (x : Int × Int) (j : Jt), (fdS (bxStep L) ([], 0) js k).1[i]? = some x → js[i]? = some j → j.lo ≤ x.1 ∧ x.1 ≤ x.2 ∧ x.2 ≤ j.hi := by
  refine fdS_inv (fun k (st : List (Int × Int) × Nat) => st.1.length = k ∧ ∀ (i : Nat) (x : Int × Int) (j : Jt), st.1[i]? = some x → js[i]? = some j → j.lo ≤ x.1 ∧ x.1 ≤ x.2 ∧ x.2 ≤ j.hi) ⟨rfl, fun i x j h => by simp at h⟩ (fun k st hk ⟨h1, h2⟩ => ?_) k hk
  obtain ⟨l1, -, -⟩ := hl js[k] (List.getElem_mem _)
  have b := nx_bd (L := L) (m := st.2) (k := js[k].hi - js[k].lo + 1) (by omega)
  have c1 := nx_bd (L := L) (m := st.2 + 1 + 1) (k := 3000) (by decide)
  have c2 := nx_bd (L := L) (m := st.2 + 1 + 1) (k := 200) (by decide)
  have hw : 0 ≤ bxW L st.2 js[k] := by
    unfold bxW
    repeat' split
    all_goals omega
  refine ⟨by simp [bxStep, h1], fun i x j hx hj => ?_⟩
  simp only [bxStep] at hx
  by_cases hi : i < k
  · rw [List.getElem?_append_left (by omega)] at hx
    exact h2 i x j hx hj
  · rw [List.getElem?_append_right (by omega), h1] at hx
    have : i = k := by
      have := (List.getElem?_eq_some_iff.1 hx).1
      simp at this; omega
    subst this
    rw [Nat.sub_self] at hx
    simp at hx
    rw [List.getElem?_eq_getElem hk] at hj
    cases hj
    rw [← hx]
    unfold bxX
    dsimp only
    omega
/-- A box that is made. -/
def bxP (L M : List Int) : List (Int × Int) := bxF M (rJ L)
theorem bxP_len {L M : List Int} : (bxP L M).length = (rJ L).length := bxF_len
theorem bxP_bd {L M : List Int} {i : Nat} {x : Int × Int} {j : Jt} (hx : (bxP L M)[i]? = some x) (hj : (rJ L)[i]? = some j) : j.lo ≤ x.1 ∧ x.1 ≤ x.2 ∧ x.2 ≤ j.hi := by
  have := (bxS_ok (L := M) (js := rJ L) rJ_lim (rJ L).length (Nat.le_refl _)).2 i x j
  rw [fdS_all] at this
  exact this hx hj
theorem bxP_vl {L M : List Int} : vlB (bxP L M) = true := by
  rw [vlB_iff]
  intro x hx
  obtain ⟨i, hi, rfl⟩ := List.getElem_of_mem hx
  have hl := bxP_len (L := L) (M := M)
  have hj := List.getElem?_eq_getElem (l := rJ L) (i := i) (by omega)
  have := bxP_bd (List.getElem?_eq_getElem hi) hj
  have l := (rJ_ok hj).bound
  unfold Vld
  omega

/-- The nearest point of the one that is nearest to the other's middle. -/
theorem met_iff {x y : Int × Int} (hx : Vld x) (hy : Vld y) : has y (clI y (clI x (mid y))) ∧ (met x y ↔ has x (clI y (clI x (mid y)))) ∧ (met x y ↔ met y x) ∧ met x x := by
  obtain ⟨e, m1, m2⟩ := mid_bd hy
  clear e
  generalize mid y = m at *
  unfold has met clI Vld at *
  omega

theorem allB_congr {α β : Type} {p q : α → β → Bool} {xs : List α} {ys : List β} (h : ∀ (i : Nat) (x : α) (y : β), xs[i]? = some x → ys[i]? = some y → p x y = q x y) : allB p xs ys = allB q xs ys := by
  by_cases hl : xs.length = ys.length
  · rw [Bool.eq_iff_iff, allB_iff hl, allB_iff hl]
    constructor
    · intro g j hj
      rw [← h j _ _ (List.getElem?_eq_getElem hj) (List.getElem?_eq_getElem (hl ▸ hj))]
      exact g j hj
    · intro g j hj
      rw [h j _ _ (List.getElem?_eq_getElem hj) (List.getElem?_eq_getElem (hl ▸ hj))]
      exact g j hj
  · rw [allB_ne hl, allB_ne hl]

theorem c7 {h : AH} {a b d : Option Addr} {n c m c1 k c2 : Nat} {L M N : List Int} (S : Sl tZ h a n c L) (S1 : Sl tZ h b m c1 M) (S2 : Sl tZ h d k c2 N) (hn : n ≤ 4611686018427387904) (hm : m ≤ 4611686018427387904) (hk : k ≤ 4611686018427387904) :
    callP Try.prog 7 [.slice a n c, .slice b m c1, .slice d k c2] h = some (.bool true, h) := by
  refine call_of good7 Try.func7 rfl rfl ?_
  have hr := c21 S hn
  rw [show (robF L 0).1 = rJ L from rfl, show (robF L 0).2.1 = rM L from rfl] at hr
  have hjl := rJ_len L
  have hjs : (rJ L).length ≠ 0 := by omega
  simp only [robV, slV_pos hjs] at hr
  obtain ⟨H1, hH1⟩ : ∃ H1 : AH, h ++ (robH (rJ L) (rM L) ++ [.cells [.slice (some ⟨h.length, 0, none⟩) (rJ L).length (rJ L).length, slV (h.length + 1) (rM L)] 42 false]) = H1 := ⟨_, rfl⟩
  have SJ : ∀ Y, Sl tJ (H1 ++ Y) (some ⟨h.length, 0, none⟩) (rJ L).length (rJ L).length (rJ L) := fun Y => by rw [← hH1, List.append_assoc]; exact Sl.of_row (by rw [get_at]; rfl)
  have SM : ∀ Y, Sl tZ (H1 ++ Y) b m c1 M := fun Y => by rw [← hH1, List.append_assoc]; exact S1.app _
  have SN : ∀ Y, Sl tZ (H1 ++ Y) d k c2 N := fun Y => by rw [← hH1, List.append_assoc]; exact S2.app _
  have hcell : ∀ Y, (H1 ++ Y)[h.length + (robH (rJ L) (rM L)).length]? = some (.cells [.slice (some ⟨h.length, 0, none⟩) (rJ L).length (rJ L).length, slV (h.length + 1) (rM L)] 42 false) := fun Y => by
    rw [← hH1, List.append_assoc, get_off, List.append_assoc, get_at]; rfl
  have hcell0 := hcell []
  rw [List.append_nil] at hcell0
  have x1 := c27 (ms := slV (h.length + 1) (rM L)) (SJ []) (SM []) (by omega) hm rJ_lim
  have hb1 : (bxP L M).length ≠ 0 := by rw [bxP_len]; exact hjs
  have hb2 : (bxP L N).length ≠ 0 := by rw [bxP_len]; exact hjs
  rw [show bxF M (rJ L) = bxP L M from rfl, slV_pos hb1, rowH_pos hb1] at x1
  have x2 := c27 (ms := slV (h.length + 1) (rM L)) (SJ [.cells (tI.flat (bxP L M)) 37 false]) (SN [.cells (tI.flat (bxP L M)) 37 false]) (by omega) hk rJ_lim
  rw [show bxF N (rJ L) = bxP L N from rfl, slV_pos hb2, rowH_pos hb2] at x2
  have hgc : ∀ Y, gcA h (.bool true) (H1 ++ Y) = (.bool true, h) := fun Y => by rw [← hH1, List.append_assoc]; exact gc_app (.bool _)
  have vA : vlB (bxP L M) = true := bxP_vl
  have vB : vlB (bxP L N) = true := bxP_vl
  have lA : (bxP L M).length = (rJ L).length := bxP_len
  have lB : (bxP L N).length = (rJ L).length := bxP_len
  generalize bxP L M = A at *
  generalize bxP L N = B at *
  rw [lA] at x1
  rw [lB] at x2
  generalize (rJ L).length = r at *
  obtain ⟨Z, hZ⟩ : ∃ Z : AH, Z = [.cells (tI.flat A) 37 false, .cells (tI.flat B) 37 false, .cells (tN.flat (B.map mid)) 2 false, .cells (tN.flat (List.zipWith clI A (B.map mid))) 2 false, .cells (tN.flat (List.zipWith clI B (List.zipWith clI A (B.map mid)))) 2 false] := ⟨_, rfl⟩
  have SA : ∀ Y, Sl tI (H1 ++ .cells (tI.flat A) 37 false :: Y) (some ⟨H1.length, 0, none⟩) r r A := fun Y => by rw [← lA]; exact Sl.of_row (by rw [get_at]; rfl)
  have SB : ∀ X Y, Sl tI (H1 ++ X :: .cells (tI.flat B) 37 false :: Y) (some ⟨H1.length + 1, 0, none⟩) r r B := fun X Y => by rw [← lB]; exact Sl.of_row (by rw [get_off]; rfl)
  have m1 := c29 (SB (.cells (tI.flat A) 37 false) []) (by omega)
  rw [if_pos vB] at m1
  have k1 := c28 (SA [.cells (tI.flat B) 37 false, .cells (tN.flat (B.map mid)) 2 false]) (row_n (T := tN) (b := H1.length + 2) (xs := B.map mid) (by simp [lB]) (by rw [get_off]; rfl)) (by omega) vA
  have k2 := c28 (SB (.cells (tI.flat A) 37 false) [.cells (tN.flat (B.map mid)) 2 false, .cells (tN.flat (List.zipWith clI A (B.map mid))) 2 false]) (row_n (T := tN) (b := H1.length + 3) (xs := List.zipWith clI A (B.map mid)) (by simp [lA, lB]) (by rw [get_off]; rfl)) (by omega) vB
  have hC : (List.zipWith clI B (List.zipWith clI A (B.map mid))).length = r := by simp [lA, lB]
  have TA : Sl tI (H1 ++ Z) (some ⟨H1.length, 0, none⟩) r r A := by rw [hZ]; exact SA _
  have TB : Sl tI (H1 ++ Z) (some ⟨H1.length + 1, 0, none⟩) r r B := by rw [hZ]; exact SB _ _
  have TC : Sl tN (H1 ++ Z) (some ⟨H1.length + 4, 0, none⟩) r r (List.zipWith clI B (List.zipWith clI A (B.map mid))) := by rw [← hC]; exact Sl.of_row (by rw [hZ, get_off]; rfl)
  have e1 := c30 TB TC (by omega)
  have e2 := c31 TA TB (by omega) (by omega)
  have e3 := c30 TA TC (by omega)
  have e4 := c31 TB TA (by omega) (by omega)
  have e5 := c31 TA TA (by omega) (by omega)
  have key : ∀ (i : Nat) (x y : Int × Int) (z : Int), A[i]? = some x → B[i]? = some y → (List.zipWith clI B (List.zipWith clI A (B.map mid)))[i]? = some z → has y z ∧ (met x y ↔ has x z) ∧ (met x y ↔ met y x) ∧ met x x := by
    intro i x y z hx hy hz
    have := met_iff (vlB_iff.1 vA x (List.mem_of_getElem? hx)) (vlB_iff.1 vB y (List.mem_of_getElem? hy))
    simp [List.getElem?_zipWith, hx, hy] at hz
    rw [← hz]; exact this
  have q1 : allB (fun x y => decide (has x y)) B (List.zipWith clI B (List.zipWith clI A (B.map mid))) = true := by
    rw [allB_iff (by rw [hC, lB])]
    intro j hj
    exact decide_eq_true (key j (A[j]'(by omega)) B[j] _ (List.getElem?_eq_getElem _) (List.getElem?_eq_getElem _) (List.getElem?_eq_getElem (by omega))).1
  have q2 : allB (fun x y => decide (met x y)) A B = allB (fun x y => decide (has x y)) A (List.zipWith clI B (List.zipWith clI A (B.map mid))) := by
    rw [Bool.eq_iff_iff, allB_iff (by omega), allB_iff (by omega)]
    refine forall_congr' fun j => forall_congr' fun hj => ?_
    rw [decide_eq_true_iff, decide_eq_true_iff]
    exact (key j A[j] (B[j]'(by omega)) _ (List.getElem?_eq_getElem _) (List.getElem?_eq_getElem _) (List.getElem?_eq_getElem (by omega))).2.1
  have q3 : allB (fun x y => decide (met x y)) A B = allB (fun x y => decide (met x y)) B A := by
    rw [Bool.eq_iff_iff, allB_iff (by omega), allB_iff (by omega)]
    have p := fun (j : Nat) (hj : j < A.length) => (key j A[j] (B[j]'(by omega)) _ (List.getElem?_eq_getElem _) (List.getElem?_eq_getElem _) (List.getElem?_eq_getElem (by omega))).2.2.1
    exact ⟨fun g j hj => decide_eq_true ((p j (by omega)).1 (of_decide_eq_true (g j (by omega)))), fun g j hj => decide_eq_true ((p j hj).2 (of_decide_eq_true (g j (by omega))))⟩
  have q5 : allB (fun x y => decide (met x y)) A A = true := by
    rw [allB_iff rfl]
    intro j hj
    exact decide_eq_true (key j A[j] (B[j]'(by omega)) _ (List.getElem?_eq_getElem _) (List.getElem?_eq_getElem _) (List.getElem?_eq_getElem (by omega))).2.2.2
  rw [vB, q1] at e1
  rw [vA, vB, q2] at e2
  rw [vA] at e3
  rw [vA, vB, ← q3, q2] at e4
  rw [vA, q5] at e5
  generalize allB (fun x y => decide (has x y)) A (List.zipWith clI B (List.zipWith clI A (B.map mid))) = T at *
  generalize List.zipWith clI B (List.zipWith clI A (B.map mid)) = C at *
  generalize List.zipWith clI A (B.map mid) = D at *
  rw [hZ] at e1 e2 e3 e4 e5
  simp at x1 x2 m1 k1 k2 e1 e2 e3 e4 e5
  simp [hr, hH1, hcell, hcell0, x1, x2, m1, k1, k2, c16, e1, e2, e3, e4, e5, hgc]
end Go.AM.Try

