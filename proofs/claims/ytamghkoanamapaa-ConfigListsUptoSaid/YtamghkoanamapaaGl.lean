/- The references' functions of boxes. No condition. -/
import Derived.Test.YtamghkoanamapaaGk
namespace Go.AM.Try
open Go.Proofs
set_option maxRecDepth 100000
set_option linter.unusedSimpArgs false
set_option linter.unusedVariables false
attribute [-simp] Bool.decide_and Bool.decide_or

theorem good41 : fnB Try.prog 41 = true := by kernel_rfl
theorem c41 {h : AH} {a : Option Addr} {n c : Nat} {xs : List (Int × Int)} (S : Sl tI h a n c xs) (hn : n ≤ 4611686018427387904) :
    callP Try.prog 41 [.slice a n c] h = some (.bool (allN (fun i => decide (Vld (xs.getD i (0, 0)))) (xs.length)), h) := by
  refine call_of good41 Try.func41 rfl rfl ?_
  have hl := S.len; subst hl
  generalize hQQ : (fun i => decide (Vld (xs.getD i (0, 0)))) = q
  simp
  refine W_loop_up (xs.length) (fun i s h' => h' = h ∧ s 3 = .int .i64 i ∧ s 0 = .slice a xs.length c ∧ allN q i = true) ?_ ?_ 0 _ _ (Nat.zero_le _) (by simp [allN])
  · rintro i s h' hi ⟨rfl, hI, g0, hb⟩
    have hii : (i : Int) < ((xs.length : Nat) : Int) := by omega
    have w1 : IntKind.i64.wrap ((i : Int) + 1) = i + 1 := wrap_id (by omega) (by omega)
    have hq : q i = (decide (Vld xs[i])) := by rw [← hQQ]; simp [hi]
    cases hp : (decide (Vld xs[i])) with
    | true =>
      simp [hI, g0, hi, hii, w1, S.index Try.underlying26 (j := i) (Int.natCast_nonneg _) (by omega), S.load (j := i) (by omega), c80, hp]
      exact allN_true hb (hq.trans hp)
    | false =>
      simp [hI, g0, hi, hii, w1, S.index Try.underlying26 (j := i) (Int.natCast_nonneg _) (by omega), S.load (j := i) (by omega), c80, hp]
      exact allN_false hi (hq.trans hp)
  · rintro s h' ⟨rfl, hI, g0, hb⟩
    simp [hI, g0]
    exact hb
theorem allN_vl {xs : List (Int × Int)} : allN (fun i => decide (Vld (xs.getD i (0, 0)))) xs.length = vlB xs := by
  rw [Bool.eq_iff_iff, allN_iff, vlB_iff]
  constructor
  · intro h x hx
    obtain ⟨i, hi, rfl⟩ := List.getElem_of_mem hx
    have := h i hi
    simpa [hi] using this
  · intro h i hi
    have := h xs[i] (List.getElem_mem _)
    simpa [hi] using this
theorem c41' {h : AH} {a : Option Addr} {n c : Nat} {xs : List (Int × Int)} (S : Sl tI h a n c xs) (hn : n ≤ 4611686018427387904) : callP Try.prog 41 [.slice a n c] h = some (.bool (vlB xs), h) := by
  rw [c41 S hn, allN_vl]

theorem good44 : fnB Try.prog 44 = true := by kernel_rfl
theorem c44 {h : AH} {a : Option Addr} {n c : Nat} {xs : List Int} (S : Sl tN h a n c xs) (hn : n ≤ 4611686018427387904) :
    callP Try.prog 44 [.slice a n c] h = some (.bool (smB xs), h) := by
  refine call_of good44 Try.func44 rfl rfl ?_
  have hl := S.len
  subst hl
  simp
  refine W_loop_up xs.length (fun i s h' => h' = h ∧ s 3 = .int .i64 i ∧ s 0 = .slice a xs.length c ∧ ∀ j (hj : j < xs.length), j < i → -2147483648 ≤ xs[j] ∧ xs[j] ≤ 2147483648) ?_ ?_ 0 _ _ (Nat.zero_le _) (by simp)
  · rintro i s h' hi ⟨rfl, hI, h0, hb⟩
    have w1 : IntKind.i64.wrap ((i : Int) + 1) = i + 1 := wrap_id (by omega) (by omega)
    have hno : ¬ (-2147483648 ≤ xs[i] ∧ xs[i] ≤ 2147483648) → smB xs = false := fun q => by
      rw [Bool.eq_false_iff]
      intro g
      exact q (smB_iff.1 g _ (List.getElem_mem _))
    by_cases e1 : xs[i] < -2147483648
    · simp [hI, h0, hi, w1, S.index Try.underlying23 (j := i) (Int.natCast_nonneg _) (by omega), S.load (j := i) (by omega), e1]
      exact hno (by omega)
    · by_cases e2 : 2147483648 < xs[i]
      · simp [hI, h0, hi, w1, S.index Try.underlying23 (j := i) (Int.natCast_nonneg _) (by omega), S.load (j := i) (by omega), e1, e2]
        exact hno (by omega)
      · simp [hI, h0, hi, w1, S.index Try.underlying23 (j := i) (Int.natCast_nonneg _) (by omega), S.load (j := i) (by omega), e1, e2]
        intro j hj hji
        rcases Nat.lt_or_ge j i with g | g
        · exact hb j hj g
        · have : j = i := by omega
          subst this
          omega
  · rintro s h' ⟨rfl, hI, h0, hb⟩
    simp [hI, h0]
    rw [smB_iff]
    intro x hx
    obtain ⟨j, hj, rfl⟩ := List.getElem_of_mem hx
    exact hb j hj hj

/-- Two lists of one length, place by place. -/
theorem allN_zip {α β : Type} {p : α → β → Bool} {xs : List α} {ys : List β} {d : α} {e : β} (hl : xs.length = ys.length) {n : Nat} (hn : n = xs.length) : allN (fun i => p (xs.getD i d) (ys.getD i e)) n = allB p xs ys := by
  subst hn
  rw [Bool.eq_iff_iff, allN_iff, allB_iff hl]
  constructor
  · intro h j hj
    have := h j hj
    simpa [hj, hl ▸ hj] using this
  · intro h j hj
    have := h j hj
    simpa [hj, hl ▸ hj] using this
theorem range_zip {α β γ : Type} {f : α → β → γ} {xs : List α} {ys : List β} {d : α} {e : β} (hl : xs.length = ys.length) {n : Nat} (hn : n = xs.length) : (List.range n).map (fun i => f (xs.getD i d) (ys.getD i e)) = List.zipWith f xs ys := by
  subst hn
  apply List.ext_getElem
  · simp [hl]
  · intro i h1 h2
    simp at h1 h2
    simp [h1, show i < ys.length by omega]
theorem range_map {α γ : Type} {f : α → γ} {xs : List α} {d : α} : (List.range xs.length).map (fun i => f (xs.getD i d)) = xs.map f := by
  apply List.ext_getElem
  · simp
  · intro i h1 h2
    simp at h1
    simp [h1]

theorem good25 : fnB Try.prog 25 = true := by kernel_rfl
theorem c25 {h : AH} {a b : Option Addr} {n c d : Nat} {xs : List (Int × Int)} {zs : List Int} (S : Sl tI h a n c xs) (S2 : Sl tN h b n d zs) (hn : n ≤ 4611686018427387904) (hv : vlB xs = true) :
    callP Try.prog 25 [.slice a n c, .slice b n d] h = some (.bool (allN (fun i => decide (has (xs.getD i (0, 0)) (zs.getD i 0))) (n)), h) := by
  refine call_of good25 Try.func25 rfl rfl ?_
  have hl := S.len; have hl2 := S2.len
  generalize hQQ : (fun i => decide (has (xs.getD i (0, 0)) (zs.getD i 0))) = q
  simp [c41' S hn, hv]
  refine W_loop_up (n) (fun i s h' => h' = h ∧ s 5 = .int .i64 i ∧ s 0 = .slice a n c ∧ s 1 = .slice b n d ∧ allN q i = true) ?_ ?_ 0 _ _ (Nat.zero_le _) (by simp [allN])
  · rintro i s h' hi ⟨rfl, hI, g0, g1, hb⟩
    have hii : (i : Int) < ((n : Nat) : Int) := by omega
    have w1 : IntKind.i64.wrap ((i : Int) + 1) = i + 1 := wrap_id (by omega) (by omega)
    have hq : q i = (decide (has (xs[i]'(by omega)) (zs[i]'(by omega)))) := by rw [← hQQ]; simp [hi, show i < xs.length by omega, show i < zs.length by omega]
    cases hp : (decide (has (xs[i]'(by omega)) (zs[i]'(by omega)))) with
    | true =>
      simp [hI, g0, g1, hi, hii, w1, S.index Try.underlying26 (j := i) (Int.natCast_nonneg _) (by omega), S.load (j := i) (by omega), S2.index Try.underlying23 (j := i) (Int.natCast_nonneg _) (by omega), S2.load (j := i) (by omega), c50, hp]
      exact allN_true hb (hq.trans hp)
    | false =>
      simp [hI, g0, g1, hi, hii, w1, S.index Try.underlying26 (j := i) (Int.natCast_nonneg _) (by omega), S.load (j := i) (by omega), S2.index Try.underlying23 (j := i) (Int.natCast_nonneg _) (by omega), S2.load (j := i) (by omega), c50, hp]
      exact allN_false hi (hq.trans hp)
  · rintro s h' ⟨rfl, hI, g0, g1, hb⟩
    simp [hI, g0, g1]
    exact hb
theorem c25' {h : AH} {a b : Option Addr} {n c m d : Nat} {xs : List (Int × Int)} {zs : List Int} (S : Sl tI h a n c xs) (S2 : Sl tN h b m d zs) (hn : n ≤ 4611686018427387904) :
    callP Try.prog 25 [.slice a n c, .slice b m d] h = some (.bool (vlB xs && allB (fun x y => decide (has x y)) xs zs), h) := by
  by_cases hv : vlB xs = true
  · by_cases hlen : xs.length = zs.length
    · have hmn : m = n := by rw [S.len, S2.len, hlen]
      subst hmn
      rw [c25 S S2 hn hv, hv, Bool.true_and, ← allN_zip (p := fun x y => decide (has x y)) (d := (0, 0)) (e := 0) hlen S.len]
    · rw [allB_ne hlen, Bool.and_false]
      refine call_of good25 Try.func25 rfl rfl ?_
      have hl := S.len
      subst hl
      have hl2 := S2.len
      subst hl2
      simp [c41' S hn, hv, show ¬ ((xs.length : Int) = zs.length) by omega]
  · refine call_of good25 Try.func25 rfl rfl ?_
    simp [c41' S hn, hv]

theorem good17 : fnB Try.prog 17 = true := by kernel_rfl
theorem c17 {h : AH} {a b : Option Addr} {n c d : Nat} {xs ys : List (Int × Int)} (S : Sl tI h a n c xs) (S2 : Sl tI h b n d ys) (hn : n ≤ 4611686018427387904) (hv : vlB xs = true) (hv2 : vlB ys = true) :
    callP Try.prog 17 [.slice a n c, .slice b n d] h = some (.bool (allN (fun i => decide (wth (xs.getD i (0, 0)) (ys.getD i (0, 0)))) (n)), h) := by
  refine call_of good17 Try.func17 rfl rfl ?_
  have hl := S.len; have hl2 := S2.len
  generalize hQQ : (fun i => decide (wth (xs.getD i (0, 0)) (ys.getD i (0, 0)))) = q
  simp [c41' S hn, c41' S2 hn, hv, hv2]
  refine W_loop_up (n) (fun i s h' => h' = h ∧ s 5 = .int .i64 i ∧ s 0 = .slice a n c ∧ s 1 = .slice b n d ∧ allN q i = true) ?_ ?_ 0 _ _ (Nat.zero_le _) (by simp [allN])
  · rintro i s h' hi ⟨rfl, hI, g0, g1, hb⟩
    have hii : (i : Int) < ((n : Nat) : Int) := by omega
    have w1 : IntKind.i64.wrap ((i : Int) + 1) = i + 1 := wrap_id (by omega) (by omega)
    have hq : q i = (decide (wth (xs[i]'(by omega)) (ys[i]'(by omega)))) := by rw [← hQQ]; simp [hi, show i < xs.length by omega, show i < ys.length by omega]
    cases hp : (decide (wth (xs[i]'(by omega)) (ys[i]'(by omega)))) with
    | true =>
      simp [hI, g0, g1, hi, hii, w1, S.index Try.underlying26 (j := i) (Int.natCast_nonneg _) (by omega), S.load (j := i) (by omega), S2.index Try.underlying26 (j := i) (Int.natCast_nonneg _) (by omega), S2.load (j := i) (by omega), c42, hp]
      exact allN_true hb (hq.trans hp)
    | false =>
      simp [hI, g0, g1, hi, hii, w1, S.index Try.underlying26 (j := i) (Int.natCast_nonneg _) (by omega), S.load (j := i) (by omega), S2.index Try.underlying26 (j := i) (Int.natCast_nonneg _) (by omega), S2.load (j := i) (by omega), c42, hp]
      exact allN_false hi (hq.trans hp)
  · rintro s h' ⟨rfl, hI, g0, g1, hb⟩
    simp [hI, g0, g1]
    exact hb
theorem c17' {h : AH} {a b : Option Addr} {n c m d : Nat} {xs ys : List (Int × Int)} (S : Sl tI h a n c xs) (S2 : Sl tI h b m d ys) (hn : n ≤ 4611686018427387904) (hm : m ≤ 4611686018427387904) :
    callP Try.prog 17 [.slice a n c, .slice b m d] h = some (.bool (vlB xs && vlB ys && allB (fun x y => decide (wth x y)) xs ys), h) := by
  by_cases hv : vlB xs = true
  · by_cases hv2 : vlB ys = true
    · by_cases hlen : xs.length = ys.length
      · have hmn : m = n := by rw [S.len, S2.len, hlen]
        subst hmn
        rw [c17 S S2 hn hv hv2, hv, hv2, Bool.true_and, Bool.true_and, ← allN_zip (p := fun x y => decide (wth x y)) (d := (0, 0)) (e := (0, 0)) hlen S.len]
      · rw [allB_ne hlen, Bool.and_false]
        refine call_of good17 Try.func17 rfl rfl ?_
        have hl := S.len
        subst hl
        have hl2 := S2.len
        subst hl2
        simp [c41' S hn, c41' S2 hm, hv, hv2, show ¬ ((xs.length : Int) = ys.length) by omega]
    · refine call_of good17 Try.func17 rfl rfl ?_
      simp [c41' S hn, c41' S2 hm, hv, hv2]
  · refine call_of good17 Try.func17 rfl rfl ?_
    simp [c41' S hn, hv]

theorem good19 : fnB Try.prog 19 = true := by kernel_rfl
theorem c19 {h : AH} {a : Option Addr} {n c : Nat} {zs : List Int} (S : Sl tN h a n c zs) (hn : n ≤ 8796093022207) (hv : smB zs = true) :
    callP Try.prog 19 [.slice a n c] h = some (if zs.length = 0 then (.slice none 0 0, h) else (slV h.length ((List.range (zs.length)).map (fun i => (zs.getD i 0, zs.getD i 0))), h ++ [.cells ((tI).flat ((List.range (zs.length)).map (fun i => (zs.getD i 0, zs.getD i 0)))) 37 false])) := by
  refine call_of good19 Try.func19 rfl rfl ?_
  have hl := S.len; subst hl
  generalize hFF : (fun i => (zs.getD i 0, zs.getD i 0)) = f
  simp [c44 S (by omega), hv]
  refine W_loop_up (zs.length) (fun i s h' => ∃ X p, h' = h ++ X ∧ (((List.range i).map f).length ≠ 0 → X[p]? = some (.cells ((tI).flat ((List.range i).map f)) 37 false)) ∧ s 4 = .int .i64 i ∧ s 3 = slV (h.length + p) ((List.range i).map f) ∧ s 0 = .slice a zs.length c) ?_ ?_ 0 _ _ (Nat.zero_le _) ⟨[], 0, by simp, by simp, by simp, by simp [slV], by simp⟩
  · rintro i s h' hi ⟨X, p, rfl, hX, hI, hO, g0⟩
    have hii : (i : Int) < ((zs.length : Nat) : Int) := by omega
    have w1 : IntKind.i64.wrap ((i : Int) + 1) = i + 1 := wrap_id (by omega) (by omega)
    rw [List.range_succ, List.map_append, List.map_cons, List.map_nil]
    have hF : f i = ((zs[i], zs[i])) := by rw [← hFF]; simp [hi]
    rw [hF]
    have hlen : ((List.range i).map f).length = i := by simp
    have hbb := fun h (x y : Int) => build_1 (h := h) (x := (x, y)) tI Try.underlying26 elem37 rfl (by decide); simp at hbb
    obtain ⟨X', hX', -, happ⟩ := append_2 (h := h) (Y := []) (X := X) (p := p) (ys := (List.range i).map f) (x := ((zs[i], zs[i]))) (tI) Try.underlying26 elem37 rfl hX (by decide) (by omega)
    generalize (List.range i).map f = out at *
    simp at happ
    simp [hI, hO, g0, hi, hii, w1, S.index Try.underlying23 (j := i) (kk := .i64) (Int.natCast_nonneg _) (by omega), fun g => (S.app g).load (j := i) (by omega), hbb, happ]
    refine ⟨.inr (.inl (by kernel_rfl)), ?_⟩
    exact ⟨X'.length, by simp, rfl⟩
  · rintro s h' ⟨X, p, rfl, hX, hI, hO, g0⟩
    have hgc := gc_one (h := h) (Z := X) (tI) (b := p) hX
    simp [hI, hO, g0]
    simpa using hgc
theorem c19' {h : AH} {a : Option Addr} {n c : Nat} {zs : List Int} (S : Sl tN h a n c zs) (hn : n ≤ 8796093022207) (hv : smB zs = true) :
    callP Try.prog 19 [.slice a n c] h = some (slV h.length (zs.map fun z => (z, z)), h ++ rowH tI (zs.map fun z => (z, z))) := by
  rw [c19 S hn hv, range_map (f := fun z => (z, z)) (d := 0)]
  by_cases hz : zs.length = 0
  · rw [if_pos hz, rowH_nil (by simpa using hz), List.append_nil]
    simp [slV, hz]
  · rw [if_neg hz, rowH_pos (by simpa using hz)]

theorem good18 : fnB Try.prog 18 = true := by kernel_rfl
theorem c18 {h : AH} {a b : Option Addr} {n c d : Nat} {xs ys : List (Int × Int)} (S : Sl tI h a n c xs) (S2 : Sl tI h b n d ys) (hn : n ≤ 8796093022207) (hv : vlB xs = true) (hv2 : vlB ys = true) :
    callP Try.prog 18 [.slice a n c, .slice b n d] h = some (if n = 0 then (.slice none 0 0, h) else (slV h.length ((List.range (n)).map (fun i => hul (xs.getD i (0, 0)) (ys.getD i (0, 0)))), h ++ [.cells ((tI).flat ((List.range (n)).map (fun i => hul (xs.getD i (0, 0)) (ys.getD i (0, 0))))) 37 false])) := by
  refine call_of good18 Try.func18 rfl rfl ?_
  have hl := S.len; have hl2 := S2.len
  generalize hFF : (fun i => hul (xs.getD i (0, 0)) (ys.getD i (0, 0))) = f
  simp [c41' S (by omega), c41' S2 (by omega), hv, hv2]
  refine W_loop_up (n) (fun i s h' => ∃ X p, h' = h ++ X ∧ (((List.range i).map f).length ≠ 0 → X[p]? = some (.cells ((tI).flat ((List.range i).map f)) 37 false)) ∧ s 6 = .int .i64 i ∧ s 5 = slV (h.length + p) ((List.range i).map f) ∧ s 0 = .slice a n c ∧ s 1 = .slice b n d) ?_ ?_ 0 _ _ (Nat.zero_le _) ⟨[], 0, by simp, by simp, by simp, by simp [slV], by simp, by simp⟩
  · rintro i s h' hi ⟨X, p, rfl, hX, hI, hO, g0, g1⟩
    have hx1 : i < xs.length := (by omega); have hy1 : i < ys.length := (by omega)
    have hii : (i : Int) < ((n : Nat) : Int) := by omega
    have w1 : IntKind.i64.wrap ((i : Int) + 1) = i + 1 := wrap_id (by omega) (by omega)
    rw [List.range_succ, List.map_append, List.map_cons, List.map_nil]
    have hF : f i = (hul xs[i] ys[i]) := by rw [← hFF]; simp [hi, hx1, hy1]
    rw [hF]
    have hlen : ((List.range i).map f).length = i := by simp
    have hbb := fun h (x y : Int) => build_1 (h := h) (x := (x, y)) tI Try.underlying26 elem37 rfl (by decide); simp at hbb
    obtain ⟨X', hX', -, happ⟩ := append_2 (h := h) (Y := []) (X := X) (p := p) (ys := (List.range i).map f) (x := (hul xs[i] ys[i])) (tI) Try.underlying26 elem37 rfl hX (by decide) (by omega)
    generalize (List.range i).map f = out at *
    simp at happ
    simp [hI, hO, g0, g1, hi, hii, w1, S.index Try.underlying26 (j := i) (kk := .i64) (Int.natCast_nonneg _) (by omega), fun g => (S.app g).load (j := i) (by omega), S2.index Try.underlying26 (j := i) (kk := .i64) (Int.natCast_nonneg _) (by omega), fun g => (S2.app g).load (j := i) (by omega), c43, hbb, happ]
    refine ⟨.inr (.inl (by kernel_rfl)), ?_⟩
    exact ⟨X'.length, by simp, rfl⟩
  · rintro s h' ⟨X, p, rfl, hX, hI, hO, g0, g1⟩
    have hgc := gc_one (h := h) (Z := X) (tI) (b := p) hX
    simp [hI, hO, g0, g1]
    simpa using hgc
theorem c18' {h : AH} {a b : Option Addr} {n c d : Nat} {xs ys : List (Int × Int)} (S : Sl tI h a n c xs) (S2 : Sl tI h b n d ys) (hn : n ≤ 8796093022207) (hv : vlB xs = true) (hv2 : vlB ys = true) :
    callP Try.prog 18 [.slice a n c, .slice b n d] h = some (slV h.length (List.zipWith hul xs ys), h ++ rowH tI (List.zipWith hul xs ys)) := by
  have hl := S.len
  have hl2 := S2.len
  have hz : (List.zipWith hul xs ys).length = n := by simp; omega
  rw [c18 S S2 hn hv hv2, range_zip (f := hul) (d := (0, 0)) (e := (0, 0)) (by omega) hl]
  by_cases h0 : n = 0
  · rw [if_pos h0, rowH_nil (by omega), List.append_nil]
    simp only [slV, hz, if_pos h0]
  · rw [if_neg h0, rowH_pos (by omega)]
end Go.AM.Try

