/- Halving a box; the example; a motion. No condition. -/
import Derived.Test.YtamghkoanamapaaGi
namespace Go.AM.Try
open Go.Proofs
set_option maxRecDepth 100000
set_option linter.unusedSimpArgs false
set_option linter.unusedVariables false
attribute [-simp] Bool.decide_and Bool.decide_or
set_option pp.deepTerms false
set_option pp.maxSteps 2500
theorem good32 : fnB Try.prog 32 = true := by kernel_rfl
theorem good16 : fnB Try.prog 16 = true := by kernel_rfl
theorem good13 : fnB Try.prog 13 = true := by kernel_rfl

theorem mid_bd {x : Int × Int} (h : Vld x) : mid x = (x.1 + x.2) / 2 ∧ x.1 ≤ mid x ∧ mid x ≤ x.2 := by
  have e : mid x = (x.1 + x.2) / 2 := if_pos h
  obtain ⟨h1, h2, h3⟩ := h
  omega

def HalfOK (xs : List (Int × Int)) (k : Int) : Prop := vlB xs = true ∧ 0 ≤ k ∧ k < xs.length ∧ 2 ≤ (xs.getD k.toNat (0, 0)).2 - (xs.getD k.toNat (0, 0)).1
instance (xs : List (Int × Int)) (k : Int) : Decidable (HalfOK xs k) := by unfold HalfOK; infer_instance
def lowH (xs : List (Int × Int)) (k : Nat) : List (Int × Int) := xs.set k ((xs.getD k (0, 0)).1, mid (xs.getD k (0, 0)))
def highH (xs : List (Int × Int)) (k : Nat) : List (Int × Int) := xs.set k (mid (xs.getD k (0, 0)), (xs.getD k (0, 0)).2)

theorem c32 {h : AH} {a : Option Addr} {n c : Nat} {xs : List (Int × Int)} {k : Int} (S : Sl tI h a n c xs) (hn : n ≤ 8796093022208) :
    callP Try.prog 32 [.slice a n c, .int .i64 k] h = some (if HalfOK xs k then (.tuple #[.slice (some ⟨h.length, 0, none⟩) n n, .slice (some ⟨h.length + 1, 0, none⟩) n n, .bool true], h ++ [.cells (tI.flat (lowH xs k.toNat)) 37 false, .cells (tI.flat (highH xs k.toNat)) 37 false])
      else (.tuple #[.slice none 0 0, .slice none 0 0, .bool false], h)) := by
  refine call_of good32 Try.func32 rfl rfl ?_
  have hl := S.len
  subst hl
  by_cases hv : vlB xs = true
  · by_cases h0 : k < 0
    · have hno : ¬ HalfOK xs k := fun q => by have := q.2.1; omega
      simp [c51 S (by omega), hv, h0, hno]
    · by_cases h1 : (xs.length : Int) ≤ k
      · have hno : ¬ HalfOK xs k := fun q => by have := q.2.2.1; omega
        simp [c51 S (by omega), hv, h0, h1, hno]
      · obtain ⟨j, rfl⟩ : ∃ j : Nat, k = j := ⟨k.toNat, by omega⟩
        have hj : j < xs.length := by omega
        have hx := S.index Try.underlying26 (j := j) (kk := .i64) (Int.natCast_nonneg _) (by omega)
        have hld := S.load hj
        have hvj := vlB_iff.1 hv xs[j] (List.getElem_mem _)
        have hgd : xs.getD j (0, 0) = xs[j] := by simp [hj]
        have hwid : wid xs[j] = xs[j].2 - xs[j].1 := if_pos hvj
        simp at hx
        by_cases h2 : 2 ≤ xs[j].2 - xs[j].1
        · have hok : HalfOK xs j := ⟨hv, by omega, by omega, by rw [Int.toNat_natCast, hgd]; exact h2⟩
          have mk := fun h => make_T (h := h) (k := .i64) (k' := .i64) tI ((0 : Int), (0 : Int)) Try.underlying26 elem37 (show 16 * xs.length ≤ 281474976710656 by omega) (show xs.length ≤ 281474976710656 by omega)
          have r0 : (List.replicate xs.length ((0 : Int), (0 : Int))).length = xs.length := by simp
          generalize List.replicate xs.length ((0 : Int), (0 : Int)) = zs at mk r0
          have cp1 := copy_T tI Try.underlying26 (xt := 26) (h := h) (g := [.cells (tI.flat zs) 37 false, .cells (tI.flat zs) 37 false]) (b := 0) (ys := zs) rfl (S.app _) (c' := xs.length) r0 (by omega)
          have cp2 := copy_T tI Try.underlying26 (xt := 26) (h := h) (g := [.cells (tI.flat xs) 37 false, .cells (tI.flat zs) 37 false]) (b := 1) (ys := zs) rfl (S.app _) (c' := xs.length) r0 (by omega)
          have st1 := store_F (ft := 2) tI (h := h) (g := [.cells (tI.flat xs) 37 false, .cells (tI.flat xs) 37 false]) (b := 0) (j := j) (f := 1) (y := (xs[j].1, mid xs[j])) (v := .int .i64 (mid xs[j])) sz2 rfl rfl rfl hj (by decide) rfl
          have st2 := store_F (ft := 2) tI (h := h) (g := [.cells (tI.flat (xs.set j (xs[j].1, mid xs[j]))) 37 false, .cells (tI.flat xs) 37 false]) (b := 1) (j := j) (f := 0) (y := (mid xs[j], xs[j].2)) (v := .int .i64 (mid xs[j])) sz2 rfl rfl rfl hj (by decide) rfl
          have hgc := gc_TTB (h := h) (Z := [.cells (tI.flat (xs.set j (xs[j].1, mid xs[j]))) 37 false, .cells (tI.flat (xs.set j (mid xs[j], xs[j].2))) 37 false]) (v := true) (n1 := xs.length) (n2 := xs.length) (c1 := xs.length) (c2 := xs.length) tI tI (b1 := 0) (b2 := 1) rfl (by decide) rfl
          have ix := fun b => index_at (i := b) (o := 0) (n := xs.length) (c := xs.length) Try.underlying26 sz37 (j := j) (kk := .i64) (Int.natCast_nonneg _) (by omega)
          simp [elemPtr_some] at ix
          simp [-store_at] at mk cp1 cp2 st1 st2
          simp only [Nat.add_zero] at hgc
          simp [-store_at, c51 S (by omega), hv, h0, h1, hj, hok, hx, hld, c59, hwid, show ¬ xs[j].2 - xs[j].1 < 2 by omega, mk, cp1, cp2, st1, st2, fun Z => (S.app Z).load hj, c54, ix, lowH, highH]
          exact hgc
        · have hno : ¬ HalfOK xs j := fun q => by have := q.2.2.2; rw [Int.toNat_natCast, hgd] at this; exact h2 this
          simp [c51 S (by omega), hv, h0, h1, hj, hno, hx, hld, c59, hwid, show xs[j].2 - xs[j].1 < 2 by omega]
  · have hno : ¬ HalfOK xs k := fun q => hv q.1
    simp [c51 S (by omega), hv, hno]

theorem c16 {h : AH} : callP Try.prog 16 [] h = some (.bool true, h) := by
  refine call_of good16 Try.func16 rfl rfl ?_
  have bN := fun h (x : Int) => build_1 (h := h) (x := x) tN Try.underlying23 elem2 rfl (by decide)
  have bI := fun h (x y : Int) => build_1 (h := h) (x := (x, y)) tI Try.underlying26 elem37 rfl (by decide)
  have S1 : Sl tN (h ++ [.cells [.int .i64 0] 2 false, .cells [.int .i64 3] 2 false]) (some ⟨h.length, 0, none⟩) 1 1 [0] := Sl.of_row (T := tN) (xs := [0]) (by rw [get_at]; rfl)
  have S2 : Sl tN (h ++ [.cells [.int .i64 0] 2 false, .cells [.int .i64 3] 2 false]) (some ⟨h.length + 1, 0, none⟩) 1 1 [3] := Sl.of_row (T := tN) (xs := [3]) (by rw [get_off]; rfl)
  have p := c14 S1 S2 (by decide) (by decide) (k := 1) (i := 1) (by decide) (by decide) (by decide)
  have r : ∀ (X : AH) (i : Nat) (x : Int × Int), X[i]? = some (.cells [.int .i64 x.1, .int .i64 x.2] 37 false) → Sl tI (h ++ X) (some ⟨h.length + i, 0, none⟩) 1 1 [x] := fun X i x hx => Sl.of_row (T := tI) (xs := [x]) (by rw [get_off]; exact hx)
  have hv := c32 (r [.cells [.int .i64 0] 2 false, .cells [.int .i64 3] 2 false, .cells [.int .i64 1, .int .i64 3] 37 false, .cells [.int .i64 0, .int .i64 5] 37 false] 3 (0, 5) rfl) (by decide) (k := 0)
  rw [if_pos (by decide)] at hv
  have s := fun X i j x y h1 h2 => c20 (r X i x h1) (r X j y h2) (by decide)
  have s1 := s [.cells [.int .i64 0] 2 false, .cells [.int .i64 3] 2 false, .cells [.int .i64 1, .int .i64 3] 37 false, .cells [.int .i64 0, .int .i64 5] 37 false, .cells [.int .i64 0, .int .i64 2] 37 false, .cells [.int .i64 2, .int .i64 5] 37 false,
    .cells [.int .i64 1, .int .i64 3] 37 false] 2 6 (1, 3) (1, 3) rfl rfl
  have s2 := s [.cells [.int .i64 0] 2 false, .cells [.int .i64 3] 2 false, .cells [.int .i64 1, .int .i64 3] 37 false, .cells [.int .i64 0, .int .i64 5] 37 false, .cells [.int .i64 0, .int .i64 2] 37 false, .cells [.int .i64 2, .int .i64 5] 37 false,
    .cells [.int .i64 1, .int .i64 3] 37 false, .cells [.int .i64 0, .int .i64 2] 37 false] 4 7 (0, 2) (0, 2) rfl rfl
  have s3 := s [.cells [.int .i64 0] 2 false, .cells [.int .i64 3] 2 false, .cells [.int .i64 1, .int .i64 3] 37 false, .cells [.int .i64 0, .int .i64 5] 37 false, .cells [.int .i64 0, .int .i64 2] 37 false, .cells [.int .i64 2, .int .i64 5] 37 false,
    .cells [.int .i64 1, .int .i64 3] 37 false, .cells [.int .i64 0, .int .i64 2] 37 false, .cells [.int .i64 2, .int .i64 5] 37 false] 5 8 (2, 5) (2, 5) rfl rfl
  have e1 : tI.flat (List.zipWith (pce (2 ^ Int.toNat 1) 1) [0] [3]) = [.int .i64 1, .int .i64 3] := rfl
  have e2 : tI.flat (lowH [(0, 5)] (Int.toNat 0)) = [.int .i64 0, .int .i64 2] := rfl
  have e3 : tI.flat (highH [(0, 5)] (Int.toNat 0)) = [.int .i64 2, .int .i64 5] := rfl
  rw [e1] at p
  rw [e2, e3] at hv
  clear s r e1 e2 e3
  simp [Nat.add_assoc] at p hv s1 s2 s3 bI
  simp [bN, bI, p, hv, s1, s2, s3]

theorem jsF_ok {L : List Int} {m : Nat} : ∀ (k i : Nat) (j : Jt), (jsF L m k).1[i]? = some j → JOK i j
  | 0, i, j, h => by simp [jsF] at h
  | k + 1, i, j, h => by
    have hl := jsF_len (L := L) (m := m) k
    simp only [jsF] at h
    by_cases hi : i < k
    · rw [List.getElem?_append_left (by omega)] at h
      exact jsF_ok k i j h
    · rw [List.getElem?_append_right (by omega), hl] at h
      have hik : i - k = 0 := by
        have := (List.getElem?_eq_some_iff.1 h).1
        simp at this; omega
      rw [hik] at h
      have : i = k := by omega
      subst this
      simp at h
      rw [← h]
      exact jtF_ok _ _ _
def rJ (L : List Int) : List Jt := (robF L 0).1
def rM (L : List Int) : List Ms := (robF L 0).2.1
theorem rJ_len (L : List Int) : 1 ≤ (rJ L).length ∧ (rJ L).length ≤ 3 := by
  have := nx_bd (L := L) (m := 0) (show (0 : Int) < 3 by decide)
  simp only [rJ, robF, jsF_len]
  omega
theorem rJ_ok {L : List Int} {i : Nat} {j : Jt} (h : (rJ L)[i]? = some j) : JOK i j := jsF_ok _ _ _ h
theorem rJ_lim {L : List Int} : ∀ j ∈ rJ L, LimOK j := by
  intro j hj
  obtain ⟨i, hi, rfl⟩ := List.getElem_of_mem hj
  have := rJ_ok (List.getElem?_eq_getElem hi)
  exact ⟨this.lim, this.bound⟩
theorem cfF_len {L : List Int} {js : List Jt} : (cfF L js).length = js.length := by
  have := cfS_len (L := L) (js := js) js.length (Nat.le_refl _)
  rwa [fdS_all] at this
/-- The ends of a motion. -/
def mP (L M : List Int) : List Int := cfF M (rJ L)
theorem mP_len {L M : List Int} : (mP L M).length = (rJ L).length := cfF_len

theorem c13 {h : AH} {a b d : Option Addr} {n c m c1 k c2 : Nat} {L M N : List Int} {depth index : Int} (S : Sl tZ h a n c L) (S1 : Sl tZ h b m c1 M) (S2 : Sl tZ h d k c2 N) (hn : n ≤ 4611686018427387904) (hm : m ≤ 4611686018427387904) (hk : k ≤ 4611686018427387904) :
    callP Try.prog 13 [.slice a n c, .slice b m c1, .slice d k c2, .int .i64 depth, .int .i64 index] h =
      some (.tuple #[slV h.length (mP L M), slV (h.length + 1) (mP L N), .int .i64 (depth % 20), .int .i64 (index % 2 ^ (depth % 20).toNat)], h ++ [.cells (tN.flat (mP L M)) 2 false, .cells (tN.flat (mP L N)) 2 false]) := by
  refine call_of good13 Try.func13 rfl rfl ?_
  have hr := c21 S hn
  rw [show (robF L 0).1 = rJ L from rfl, show (robF L 0).2.1 = rM L from rfl] at hr
  have hjl := rJ_len L
  have hjs : (rJ L).length ≠ 0 := by omega
  simp only [robV, slV_pos hjs] at hr
  have hR0 : (robH (rJ L) (rM L))[0]? = some (.cells (tJ.flat (rJ L)) 76 false) := rfl
  have SJ : ∀ Y, Sl tJ (h ++ (robH (rJ L) (rM L) ++ Y)) (some ⟨h.length, 0, none⟩) (rJ L).length (rJ L).length (rJ L) := fun Y => Sl.of_row (by rw [get_at]; rfl)
  generalize robH (rJ L) (rM L) = R at *
  have d0 := Int.emod_nonneg depth (show (20 : Int) ≠ 0 by decide)
  have d1 := Int.emod_lt_of_pos depth (show (0 : Int) < 20 by decide)
  obtain ⟨q1, q2, q3⟩ := pow20 d0 (by omega)
  have hmin : min (depth % 20).toNat 64 = (depth % 20).toNat := by omega
  have hw : IntKind.u64.wrap (depth % 20) = depth % 20 := by rw [IntKind.wrap_u64]; omega
  have k1 := fun Y => c22 (ms := slV (h.length + 1) (rM L)) (SJ Y) (S1.app _) (by omega) hm rJ_lim
  have k2 := fun Y => c22 (ms := slV (h.length + 1) (rM L)) (SJ Y) (S2.app _) (by omega) hk rJ_lim
  simp only [if_neg hjs] at k1 k2
  rw [show cfF M (rJ L) = mP L M from rfl] at k1
  rw [show cfF N (rJ L) = mP L N from rfl] at k2
  have c20 : ∀ H, callP Try.prog 15 [.int .i64 depth, .int .i64 20] H = some (.int .i64 (depth % 20), H) := fun H => c15 (by decide) (by decide)
  have hgc := gc_TTII (h := h) (Z := R ++ [.cells [.slice (some ⟨h.length, 0, none⟩) (rJ L).length (rJ L).length, slV (h.length + 1) (rM L)] 42 false, .cells (tN.flat (mP L M)) 2 false, .cells (tN.flat (mP L N)) 2 false]) (v := depth % 20) (w := index % 2 ^ (depth % 20).toNat)
     (n1 := (mP L M).length) (n2 := (mP L N).length) (c1 := (mP L M).length) (c2 := (mP L N).length) tN tN (b1 := R.length + 1) (b2 := R.length + 2) (by rw [get_off]; rfl) (by omega) (by rw [get_off]; rfl)
  have c15' := fun H => c15 (h := H) (a := index) q3 (by omega)
  rw [hmin] at q1
  have hp1 : (mP L M).length ≠ 0 := by rw [mP_len]; exact hjs
  have hp2 : (mP L N).length ≠ 0 := by rw [mP_len]; exact hjs
  simp [hr, c20, k1, k2, hw, hmin, q1, c15', convA, show ¬ depth % 20 < 0 by omega]
  simp only [slV_pos hp1, slV_pos hp2]
  rw [show h.length + (R.length + 1 + 1) = h.length + (R.length + 2) by omega]
  exact hgc
end Go.AM.Try

