/- The references' pieces and instants. No condition. -/
import Derived.Test.YtamghkoanamapaaGq
namespace Go.AM.Try
open Go.Proofs
set_option maxRecDepth 100000
set_option linter.unusedSimpArgs false
set_option linter.unusedVariables false
attribute [-simp] Bool.decide_and Bool.decide_or
theorem good83 : fnB Try.prog 83 = true := by kernel_rfl
theorem good84 : fnB Try.prog 84 = true := by kernel_rfl
theorem good85 : fnB Try.prog 85 = true := by kernel_rfl
theorem good23 : fnB Try.prog 23 = true := by kernel_rfl
theorem good5 : fnB Try.prog 5 = true := by kernel_rfl

theorem c83 {h : AH} {a b : Option Addr} {n c m d : Nat} {zs ws : List Int} {k : Int} (S : Sl tN h a n c zs) (S2 : Sl tN h b m d ws) (hn : n ≤ 4611686018427387904) (hm : m ≤ 4611686018427387904) : callP Try.prog 83 [.slice a n c, .slice b m d, .int .i64 k] h = some (.bool (decide (Str zs ws k)), h) := by
  refine call_of good83 Try.func83 rfl rfl ?_
  have hl := S.len
  subst hl
  have hl2 := S2.len
  subst hl2
  by_cases hv : smB zs = true <;> by_cases hw : smB ws = true <;> simp [c44 S hn, c44 S2 hm, hv, hw]
  all_goals repeat' (refine caseQ_intro (fun hp => ?_) (fun hp => ?_) <;> simp [*])
  all_goals simp [Str, hv, hw]
  all_goals omega

theorem tdiv_floor {x D : Int} (hD : 0 < D) : x / D = if x.tmod D < 0 then x.tdiv D - 1 else x.tdiv D := by
  have h1 := Int.tmod_eq_emod (a := x) (b := D)
  have h2 := Int.emod_nonneg x (show D ≠ 0 by omega)
  have h3 := Int.emod_lt_of_pos x hD
  have h4 := Int.tdiv_eq_ediv (a := x) (b := D)
  have hs : D.sign = 1 := Int.sign_eq_one_of_pos hD
  have hn : (D.natAbs : Int) = D := by omega
  by_cases hd : 0 ≤ x ∨ D ∣ x
  · rw [if_pos hd] at h1 h4
    rw [if_neg (by omega)]; omega
  · rw [if_neg hd] at h1 h4
    have : x % D ≠ 0 := fun q => hd (.inr (Int.dvd_of_emod_eq_zero q))
    rw [if_pos (by omega)]; omega
theorem tdiv_ceil {x D : Int} (hD : 0 < D) : -(-x / D) = if 0 < x.tmod D then x.tdiv D + 1 else x.tdiv D := by
  have h := tdiv_floor (x := -x) hD
  rw [Int.neg_tmod, Int.neg_tdiv] at h
  rw [h]
  by_cases g : 0 < x.tmod D
  · rw [if_pos g, if_pos (by omega)]; omega
  · rw [if_neg g, if_neg (by omega)]; omega
theorem c84 {h : AH} {x D : Int} (hD : 0 < D) (hx : -4611686018427387904 ≤ x ∧ x ≤ 4611686018427387904) : callP Try.prog 84 [.int .i64 x, .int .i64 D] h = some (.int .i64 (x / D), h) := by
  refine call_of good84 Try.func84 rfl rfl ?_
  have e := tdiv_floor (x := x) hD
  have b1 : -4611686018427387904 ≤ x.tdiv D ∧ x.tdiv D ≤ 4611686018427387904 := by
    have h1 := Int.natAbs_tdiv_le_natAbs x D
    omega
  have w1 : IntKind.i64.wrap (x.tdiv D) = x.tdiv D := wrap_id (by omega) (by omega)
  have w2 : IntKind.i64.wrap (x.tdiv D - 1) = x.tdiv D - 1 := wrap_id (by omega) (by omega)
  rw [e]
  by_cases g : x.tmod D < 0 <;> simp [show D ≠ 0 by omega, w1, w2, g]
theorem c85 {h : AH} {x D : Int} (hD : 0 < D) (hx : -4611686018427387904 ≤ x ∧ x ≤ 4611686018427387904) : callP Try.prog 85 [.int .i64 x, .int .i64 D] h = some (.int .i64 (-(-x / D)), h) := by
  refine call_of good85 Try.func85 rfl rfl ?_
  have e := tdiv_ceil (x := x) hD
  have b1 : -4611686018427387904 ≤ x.tdiv D ∧ x.tdiv D ≤ 4611686018427387904 := by
    have h1 := Int.natAbs_tdiv_le_natAbs x D
    omega
  have w1 : IntKind.i64.wrap (x.tdiv D) = x.tdiv D := wrap_id (by omega) (by omega)
  have w2 : IntKind.i64.wrap (x.tdiv D + 1) = x.tdiv D + 1 := wrap_id (by omega) (by omega)
  rw [e]
  by_cases g : 0 < x.tmod D <;> simp [show D ≠ 0 by omega, w1, w2, g]

theorem good48 : fnB Try.prog 48 = true := by kernel_rfl
theorem c48 {h : AH} {a b : Option Addr} {n c d : Nat} {zs ws : List Int} {k j : Int} (S : Sl tN h a n c zs) (S2 : Sl tN h b n d ws) (hn : n ≤ 8796093022207) (hs : Str zs ws k) (h0 : 0 ≤ j) (hj : j < 2 ^ k.toNat) :
    callP Try.prog 48 [.slice a n c, .slice b n d, .int .i64 k, .int .i64 j] h = some (.tuple #[slV h.length ((List.range (n)).map (fun i => pce (2 ^ k.toNat) j (zs.getD i 0) (ws.getD i 0))), .bool true], h ++ rowH (tI) ((List.range (n)).map (fun i => pce (2 ^ k.toNat) j (zs.getD i 0) (ws.getD i 0)))) := by
  refine call_of good48 Try.func48 rfl rfl ?_
  have hl := S.len; have hl2 := S2.len; obtain ⟨e1, e2, e3⟩ := pow20 hs.2.2.2.1 hs.2.2.2.2; have hk : ¬ k < 0 := (by have := hs.2.2.2.1; omega); have hw : IntKind.u64.wrap k = k := (by rw [IntKind.wrap_u64]; have := hs.2.2.2.2; omega); have hmin : min k.toNat 64 = k.toNat := (by have := hs.2.2.2.2; omega); rw [hmin] at e1
  generalize hFF : (fun i => pce (2 ^ k.toNat) j (zs.getD i 0) (ws.getD i 0)) = f
  simp [c83 S S2 (by omega) (by omega), hs, show ¬ j < 0 by omega, show ¬ (2 : Int) ^ k.toNat ≤ j by omega, hk, hw, hmin, e1, convA]
  refine W_loop_up (n) (fun i s h' => ∃ X p, h' = h ++ X ∧ (((List.range i).map f).length ≠ 0 → X[p]? = some (.cells ((tI).flat ((List.range i).map f)) 37 false)) ∧ s 12 = .int .i64 i ∧ s 11 = slV (h.length + p) ((List.range i).map f) ∧ s 0 = .slice a n c ∧ s 1 = .slice b n d ∧ s 3 = .int .i64 j ∧ s 10 = .int .i64 (2 ^ k.toNat)) ?_ ?_ 0 _ _ (Nat.zero_le _) ⟨[], 0, by simp, by simp, by simp, by simp [slV], by simp, by simp, by simp, by simp⟩
  · rintro i s h' hi ⟨X, p, rfl, hX, hI, hO, g0, g1, g2, g3⟩
    have hx1 : i < zs.length := (by omega); have hy1 : i < ws.length := (by omega); obtain ⟨w11, w12, w13, w14, w15, w16, w17⟩ := pce_bd (smB_iff.1 hs.1 zs[i] (List.getElem_mem _)) (smB_iff.1 hs.2.1 ws[i] (List.getElem_mem _)) h0 hj e2; have b1 := mul_bd (i := j) (d := ws[i] - zs[i]) (A := 1048576) (B := 4294967296) h0 (by omega) (by have a := smB_iff.1 hs.1 zs[i] (List.getElem_mem _); have b := smB_iff.1 hs.2.1 ws[i] (List.getElem_mem _); omega) (by have a := smB_iff.1 hs.1 zs[i] (List.getElem_mem _); have b := smB_iff.1 hs.2.1 ws[i] (List.getElem_mem _); omega); have b2 := mul_bd (i := j + 1) (d := ws[i] - zs[i]) (A := 1048576) (B := 4294967296) (by omega) (by omega) (by have a := smB_iff.1 hs.1 zs[i] (List.getElem_mem _); have b := smB_iff.1 hs.2.1 ws[i] (List.getElem_mem _); omega) (by have a := smB_iff.1 hs.1 zs[i] (List.getElem_mem _); have b := smB_iff.1 hs.2.1 ws[i] (List.getElem_mem _); omega); have f84 := (fun H => c84 (h := H) (x := min (j * (ws[i] - zs[i])) ((j + 1) * (ws[i] - zs[i]))) e3 (by omega)); have f85 := (fun H => c85 (h := H) (x := max (j * (ws[i] - zs[i])) ((j + 1) * (ws[i] - zs[i]))) e3 (by omega)); have w18 := w17; rw [Int.sub_eq_add_neg] at w18
    have hii : (i : Int) < ((n : Nat) : Int) := by omega
    have w1 : IntKind.i64.wrap ((i : Int) + 1) = i + 1 := wrap_id (by omega) (by omega)
    rw [List.range_succ, List.map_append, List.map_cons, List.map_nil]
    have hF : f i = ((zs[i] + min (j * (ws[i] - zs[i])) ((j + 1) * (ws[i] - zs[i])) / 2 ^ k.toNat, zs[i] + -(-max (j * (ws[i] - zs[i])) ((j + 1) * (ws[i] - zs[i])) / 2 ^ k.toNat))) := by rw [← hFF]; simp [hi, hx1, hy1, pce, Int.sub_eq_add_neg]
    rw [hF]
    have hlen : ((List.range i).map f).length = i := by simp
    have hbb := fun h (x y : Int) => build_1 (h := h) (x := (x, y)) tI Try.underlying26 elem37 rfl (by decide); simp at hbb
    obtain ⟨X', hX', -, happ⟩ := append_2 (h := h) (Y := []) (X := X) (p := p) (ys := (List.range i).map f) (x := ((zs[i] + min (j * (ws[i] - zs[i])) ((j + 1) * (ws[i] - zs[i])) / 2 ^ k.toNat, zs[i] + -(-max (j * (ws[i] - zs[i])) ((j + 1) * (ws[i] - zs[i])) / 2 ^ k.toNat)))) (tI) Try.underlying26 elem37 rfl hX (by decide) (by omega)
    generalize (List.range i).map f = out at *
    simp at happ
    simp [hI, hO, g0, g1, g2, g3, hi, hii, w1, S.index Try.underlying23 (j := i) (kk := .i64) (Int.natCast_nonneg _) (by omega), fun g => (S.app g).load (j := i) (by omega), S2.index Try.underlying23 (j := i) (kk := .i64) (Int.natCast_nonneg _) (by omega), fun g => (S2.app g).load (j := i) (by omega), w11, w12, w13, w14, w16, w18, f84, f85, hbb, happ]
    refine ⟨.inr (.inl (by kernel_rfl)), ?_⟩
    exact ⟨X'.length, by simp, rfl⟩
  · rintro s h' ⟨X, p, rfl, hX, hI, hO, g0, g1, g2, g3⟩
    have hgc := gc_rowB (h := h) (Z := X) (tI) (b := p) (v := true) hX
    simp [hI, hO, g0, g1, g2, g3]
    simpa using hgc

theorem good49 : fnB Try.prog 49 = true := by kernel_rfl
theorem c49 {h : AH} {a b : Option Addr} {n c d : Nat} {zs ws : List Int} {k j : Int} (S : Sl tN h a n c zs) (S2 : Sl tN h b n d ws) (hn : n ≤ 8796093022207) (hs : Str zs ws k) (h0 : 0 ≤ j) (hj : j ≤ 2 ^ k.toNat) :
    callP Try.prog 49 [.slice a n c, .slice b n d, .int .i64 k, .int .i64 j] h = some (.tuple #[slV h.length ((List.range (n)).map (fun i => ins (2 ^ k.toNat) j (zs.getD i 0) (ws.getD i 0))), .bool true], h ++ rowH (tN) ((List.range (n)).map (fun i => ins (2 ^ k.toNat) j (zs.getD i 0) (ws.getD i 0)))) := by
  refine call_of good49 Try.func49 rfl rfl ?_
  have hl := S.len; have hl2 := S2.len; obtain ⟨e1, e2, e3⟩ := pow20 hs.2.2.2.1 hs.2.2.2.2; have hk : ¬ k < 0 := (by have := hs.2.2.2.1; omega); have hw : IntKind.u64.wrap k = k := (by rw [IntKind.wrap_u64]; have := hs.2.2.2.2; omega); have hmin : min k.toNat 64 = k.toNat := (by have := hs.2.2.2.2; omega); rw [hmin] at e1
  generalize hFF : (fun i => ins (2 ^ k.toNat) j (zs.getD i 0) (ws.getD i 0)) = f
  simp [c83 S S2 (by omega) (by omega), hs, show ¬ j < 0 by omega, show ¬ (2 : Int) ^ k.toNat < j by omega, hk, hw, hmin, e1, convA]
  refine W_loop_up (n) (fun i s h' => ∃ X p, h' = h ++ X ∧ (((List.range i).map f).length ≠ 0 → X[p]? = some (.cells ((tN).flat ((List.range i).map f)) 2 false)) ∧ s 11 = .int .i64 i ∧ s 10 = slV (h.length + p) ((List.range i).map f) ∧ s 0 = .slice a n c ∧ s 1 = .slice b n d ∧ s 3 = .int .i64 j ∧ s 2 = .int .i64 k) ?_ ?_ 0 _ _ (Nat.zero_le _) ⟨[], 0, by simp, by simp, by simp, by simp [slV], by simp, by simp, by simp, by simp⟩
  · rintro i s h' hi ⟨X, p, rfl, hX, hI, hO, g0, g1, g2, g3⟩
    have hx1 : i < zs.length := (by omega); have hy1 : i < ws.length := (by omega); obtain ⟨w11, w12, w13⟩ := ins_bd (smB_iff.1 hs.1 zs[i] (List.getElem_mem _)) (smB_iff.1 hs.2.1 ws[i] (List.getElem_mem _)) h0 hj e2 e3; have b1 := mul_bd (i := j) (d := ws[i] - zs[i]) (A := 1048576) (B := 4294967296) h0 (by omega) (by have a := smB_iff.1 hs.1 zs[i] (List.getElem_mem _); have b := smB_iff.1 hs.2.1 ws[i] (List.getElem_mem _); omega) (by have a := smB_iff.1 hs.1 zs[i] (List.getElem_mem _); have b := smB_iff.1 hs.2.1 ws[i] (List.getElem_mem _); omega); have f84 := (fun H => c84 (h := H) (x := j * (ws[i] - zs[i])) e3 (by omega))
    have hii : (i : Int) < ((n : Nat) : Int) := by omega
    have w1 : IntKind.i64.wrap ((i : Int) + 1) = i + 1 := wrap_id (by omega) (by omega)
    rw [List.range_succ, List.map_append, List.map_cons, List.map_nil]
    have hF : f i = (zs[i] + j * (ws[i] - zs[i]) / 2 ^ k.toNat) := by rw [← hFF]; simp [hi, hx1, hy1, ins]
    rw [hF]
    have hlen : ((List.range i).map f).length = i := by simp
    have hbb := fun h x => build_1 (h := h) (x := x) tN Try.underlying23 elem2 rfl (by decide)
    obtain ⟨X', hX', -, happ⟩ := append_2 (h := h) (Y := []) (X := X) (p := p) (ys := (List.range i).map f) (x := (zs[i] + j * (ws[i] - zs[i]) / 2 ^ k.toNat)) (tN) Try.underlying23 elem2 rfl hX (by decide) (by omega)
    generalize (List.range i).map f = out at *
    simp at happ
    simp [hI, hO, g0, g1, g2, g3, hi, hii, w1, S.index Try.underlying23 (j := i) (kk := .i64) (Int.natCast_nonneg _) (by omega), fun g => (S.app g).load (j := i) (by omega), S2.index Try.underlying23 (j := i) (kk := .i64) (Int.natCast_nonneg _) (by omega), fun g => (S2.app g).load (j := i) (by omega), w11, w12, w13, hk, hw, hmin, e1, convA, f84, hbb, happ]
    refine ⟨.inr (.inl (by kernel_rfl)), ?_⟩
    exact ⟨X'.length, by simp, rfl⟩
  · rintro s h' ⟨X, p, rfl, hX, hI, hO, g0, g1, g2, g3⟩
    have hgc := gc_rowB (h := h) (Z := X) (tN) (b := p) (v := true) hX
    simp [hI, hO, g0, g1, g2, g3]
    simpa using hgc
theorem c48_no {h : AH} {a b : Option Addr} {n c m d : Nat} {zs ws : List Int} {k i : Int} (S : Sl tN h a n c zs) (S2 : Sl tN h b m d ws) (hn : n ≤ 4611686018427387904) (hm : m ≤ 4611686018427387904) (hno : ¬ (Str zs ws k ∧ 0 ≤ i ∧ i < 2 ^ k.toNat)) :
    callP Try.prog 48 [.slice a n c, .slice b m d, .int .i64 k, .int .i64 i] h = some (.tuple #[.slice none 0 0, .bool false], h) := by
  refine call_of good48 Try.func48 rfl rfl ?_
  by_cases hs : Str zs ws k
  · obtain ⟨e1, e2, e3⟩ := pow20 hs.2.2.2.1 hs.2.2.2.2
    have hk : ¬ k < 0 := by have := hs.2.2.2.1; omega
    have hw : IntKind.u64.wrap k = k := by rw [IntKind.wrap_u64]; have := hs.2.2.2.2; omega
    by_cases h0 : i < 0
    · simp [c83 S S2 hn hm, hs, h0, hk, e1]
    · have hi : 2 ^ k.toNat ≤ i := Int.not_lt.1 fun g => hno ⟨hs, by omega, g⟩
      simp [c83 S S2 hn hm, hs, h0, hk, e1, hi, convA, hw]
  · simp [c83 S S2 hn hm, hs]
theorem c49_no {h : AH} {a b : Option Addr} {n c m d : Nat} {zs ws : List Int} {k i : Int} (S : Sl tN h a n c zs) (S2 : Sl tN h b m d ws) (hn : n ≤ 4611686018427387904) (hm : m ≤ 4611686018427387904) (hno : ¬ (Str zs ws k ∧ 0 ≤ i ∧ i ≤ 2 ^ k.toNat)) :
    callP Try.prog 49 [.slice a n c, .slice b m d, .int .i64 k, .int .i64 i] h = some (.tuple #[.slice none 0 0, .bool false], h) := by
  refine call_of good49 Try.func49 rfl rfl ?_
  by_cases hs : Str zs ws k
  · obtain ⟨e1, e2, e3⟩ := pow20 hs.2.2.2.1 hs.2.2.2.2
    have hk : ¬ k < 0 := by have := hs.2.2.2.1; omega
    have hw : IntKind.u64.wrap k = k := by rw [IntKind.wrap_u64]; have := hs.2.2.2.2; omega
    by_cases h0 : i < 0
    · simp [c83 S S2 hn hm, hs, h0, hk, e1]
    · have hi : 2 ^ k.toNat < i := Int.not_le.1 fun g => hno ⟨hs, by omega, g⟩
      simp [c83 S S2 hn hm, hs, h0, hk, e1, hi, convA, hw]
  · simp [c83 S S2 hn hm, hs]


theorem range_zip2 {zs ws : List Int} {f : Int → Int → Int × Int} {n : Nat} (h1 : n = zs.length) (h2 : n = ws.length) : (List.range n).map (fun i => f (zs.getD i 0) (ws.getD i 0)) = List.zipWith f zs ws := range_zip (f := f) (d := 0) (e := 0) (by omega) h1
theorem range_zip1 {zs ws : List Int} {f : Int → Int → Int} {n : Nat} (h1 : n = zs.length) (h2 : n = ws.length) : (List.range n).map (fun i => f (zs.getD i 0) (ws.getD i 0)) = List.zipWith f zs ws := range_zip (f := f) (d := 0) (e := 0) (by omega) h1
theorem c48' {h : AH} {a b : Option Addr} {n c d : Nat} {zs ws : List Int} {k j : Int} (S : Sl tN h a n c zs) (S2 : Sl tN h b n d ws) (hn : n ≤ 8796093022207) (hs : Str zs ws k) (h0 : 0 ≤ j) (hj : j < 2 ^ k.toNat) :
    callP Try.prog 48 [.slice a n c, .slice b n d, .int .i64 k, .int .i64 j] h = some (.tuple #[slV h.length (List.zipWith (pce (2 ^ k.toNat) j) zs ws), .bool true], h ++ rowH tI (List.zipWith (pce (2 ^ k.toNat) j) zs ws)) := by
  rw [c48 S S2 hn hs h0 hj, range_zip2 S.len S2.len]
theorem c49' {h : AH} {a b : Option Addr} {n c d : Nat} {zs ws : List Int} {k j : Int} (S : Sl tN h a n c zs) (S2 : Sl tN h b n d ws) (hn : n ≤ 8796093022207) (hs : Str zs ws k) (h0 : 0 ≤ j) (hj : j ≤ 2 ^ k.toNat) :
    callP Try.prog 49 [.slice a n c, .slice b n d, .int .i64 k, .int .i64 j] h = some (.tuple #[slV h.length (List.zipWith (ins (2 ^ k.toNat) j) zs ws), .bool true], h ++ rowH tN (List.zipWith (ins (2 ^ k.toNat) j) zs ws)) := by
  rw [c49 S S2 hn hs h0 hj, range_zip1 S.len S2.len]

/-- Piece of the program and of the reference, one after the other: the same. -/
theorem both_pc {h : AH} {a b : Option Addr} {n c m d : Nat} {zs ws : List Int} {k j : Int} (S : Sl tN h a n c zs) (S2 : Sl tN h b m d ws) (hn : n ≤ 1048576) (hm : m ≤ 1048576) :
    ∃ (v w : Value) (x : Bool) (G : AH) (G2 : AH), callP Try.prog 14 [.slice a n c, .slice b m d, .int .i64 k, .int .i64 j] h = some (.tuple #[v, .bool x], h ++ G) ∧
      callP Try.prog 48 [.slice a n c, .slice b m d, .int .i64 k, .int .i64 j] (h ++ G) = some (.tuple #[w, .bool x], h ++ (G ++ G2)) ∧
      ∀ X, callP Try.prog 20 [v, w] (h ++ (G ++ (G2 ++ X))) = some (.bool true, h ++ (G ++ (G2 ++ X))) := by
  by_cases hs : Str zs ws k ∧ 0 ≤ j ∧ j < 2 ^ k.toNat
  · obtain ⟨hs, h0, hj⟩ := hs
    have hnm : n = m := by rw [S.len, S2.len]; exact hs.2.2.1
    subst hnm
    have hz : (List.zipWith (pce (2 ^ k.toNat) j) zs ws).length = n := by have := S.len; have := S2.len; simp; omega
    have e1 := c14 S S2 (by omega) (by omega) hs h0 hj
    have e2 := c48' (S.app [.cells (tI.flat (List.zipWith (pce (2 ^ k.toNat) j) zs ws)) 37 false]) (S2.app _) (by omega) hs h0 hj
    generalize List.zipWith (pce (2 ^ k.toNat) j) zs ws = Z at *
    refine ⟨_, _, true, _, rowH tI Z, e1, e2.trans (by rw [List.append_assoc]), fun X => ?_⟩
    obtain ⟨a2, q1, q2⟩ := row_sl (P := Try.prog) tI (xs := Z) (h := h ++ [.cells (tI.flat Z) 37 false]) (X := X)
    rw [q1]
    have s1 : Sl tI (h ++ ([.cells (tI.flat Z) 37 false] ++ (rowH tI Z ++ X))) (some ⟨h.length, 0, none⟩) n n Z := row_n hz (by rw [get_at]; rfl)
    rw [List.append_assoc] at q2
    rw [hz] at q2 ⊢
    rw [c20 s1 q2 (by omega), decide_eq_true rfl]
  · refine ⟨.slice none 0 0, .slice none 0 0, false, [], [], (c14_no S S2 (by omega) (by omega) hs).trans (by rw [List.append_nil]), (c48_no (S.app _) (S2.app _) (by omega) (by omega) hs).trans (by simp), fun X => ?_⟩
    rw [c20 (xs := []) (ys := []) .none_ .none_ (by omega), decide_eq_true rfl]
theorem both_at {h : AH} {a b : Option Addr} {n c m d : Nat} {zs ws : List Int} {k j : Int} (S : Sl tN h a n c zs) (S2 : Sl tN h b m d ws) (hn : n ≤ 1048576) (hm : m ≤ 1048576) :
    ∃ (v w : Value) (x : Bool) (G : AH) (G2 : AH), callP Try.prog 24 [.slice a n c, .slice b m d, .int .i64 k, .int .i64 j] h = some (.tuple #[v, .bool x], h ++ G) ∧
      callP Try.prog 49 [.slice a n c, .slice b m d, .int .i64 k, .int .i64 j] (h ++ G) = some (.tuple #[w, .bool x], h ++ (G ++ G2)) ∧
      ∀ X, callP Try.prog 26 [v, w] (h ++ (G ++ (G2 ++ X))) = some (.bool true, h ++ (G ++ (G2 ++ X))) := by
  by_cases hs : Str zs ws k ∧ 0 ≤ j ∧ j ≤ 2 ^ k.toNat
  · obtain ⟨hs, h0, hj⟩ := hs
    have hnm : n = m := by rw [S.len, S2.len]; exact hs.2.2.1
    subst hnm
    have hz : (List.zipWith (ins (2 ^ k.toNat) j) zs ws).length = n := by have := S.len; have := S2.len; simp; omega
    have e1 := c24 S S2 (by omega) (by omega) hs h0 hj
    have e2 := c49' (S.app [.cells (tN.flat (List.zipWith (ins (2 ^ k.toNat) j) zs ws)) 2 false]) (S2.app _) (by omega) hs h0 hj
    generalize List.zipWith (ins (2 ^ k.toNat) j) zs ws = Z at *
    refine ⟨_, _, true, _, rowH tN Z, e1, e2.trans (by rw [List.append_assoc]), fun X => ?_⟩
    obtain ⟨a2, q1, q2⟩ := row_sl (P := Try.prog) tN (xs := Z) (h := h ++ [.cells (tN.flat Z) 2 false]) (X := X)
    rw [q1]
    have s1 : Sl tN (h ++ ([.cells (tN.flat Z) 2 false] ++ (rowH tN Z ++ X))) (some ⟨h.length, 0, none⟩) n n Z := row_n hz (by rw [get_at]; rfl)
    rw [List.append_assoc] at q2
    rw [hz] at q2 ⊢
    rw [c26 s1 q2 (by omega), decide_eq_true rfl]
  · refine ⟨.slice none 0 0, .slice none 0 0, false, [], [], (c24_no S S2 (by omega) (by omega) hs).trans (by rw [List.append_nil]), (c49_no (S.app _) (S2.app _) (by omega) (by omega) hs).trans (by simp), fun X => ?_⟩
    rw [c26 (xs := []) (ys := []) .none_ .none_ (by omega), decide_eq_true rfl]

theorem c23 {h : AH} {a b : Option Addr} {n c m d : Nat} {zs ws : List Int} {k j : Int} (S : Sl tN h a n c zs) (S2 : Sl tN h b m d ws) (hn : n ≤ 1048576) (hm : m ≤ 1048576) :
    callP Try.prog 23 [.slice a n c, .slice b m d, .int .i64 k, .int .i64 j] h = some (.bool true, h) := by
  refine call_of good23 Try.func23 rfl rfl ?_
  obtain ⟨v, w, x, G, G2, e1, e2, e3⟩ := both_pc (k := k) (j := j) S S2 hn hm
  obtain ⟨v', w', x', G', G2', e1', e2', e3'⟩ := both_at (k := k) (j := j) (S.app (G ++ G2)) (S2.app (G ++ G2)) hn hm
  simp only [List.append_assoc] at e1' e2' e3'
  have e3a := e3 (G' ++ G2')
  have e3b := e3' []
  simp only [List.append_nil] at e3b
  simp [e1, e2, e1', e2', e3a, e3b]

theorem c5 {h : AH} {a b d e f : Option Addr} {n c m c1 k c2 u c3 v c4 : Nat} {zs ws L M N : List Int} (S : Sl tN h a n c zs) (S1 : Sl tN h b m c1 ws) (S2 : Sl tZ h d k c2 L) (S3 : Sl tZ h e u c3 M) (S4 : Sl tZ h f v c4 N)
    (hn : n ≤ 1048576) (hm : m ≤ 1048576) (hk : k ≤ 1048576) (hu : u ≤ 1048576) (hv : v ≤ 1048576) (depth : Int) (_ : I64 depth) (index : Int) (_ : I64 index) :
    callP Try.prog 5 [.slice a n c, .slice b m c1, .int .i64 depth, .int .i64 index, .slice d k c2, .slice e u c3, .slice f v c4] h = some (.bool true, h) := by
  refine call_of good5 Try.func5 rfl rfl ?_
  have hr := c21 S2 (by omega)
  rw [show (robF L 0).1 = rJ L from rfl, show (robF L 0).2.1 = rM L from rfl] at hr
  have hjl := rJ_len L
  have hjs : (rJ L).length ≠ 0 := by omega
  simp only [robV, slV_pos hjs] at hr
  obtain ⟨H1, hH1⟩ : ∃ H1 : AH, h ++ (robH (rJ L) (rM L) ++ [.cells [.slice (some ⟨h.length, 0, none⟩) (rJ L).length (rJ L).length, slV (h.length + 1) (rM L)] 42 false]) = H1 := ⟨_, rfl⟩
  have SJ : ∀ Y, Sl tJ (H1 ++ Y) (some ⟨h.length, 0, none⟩) (rJ L).length (rJ L).length (rJ L) := fun Y => by rw [← hH1, List.append_assoc]; exact Sl.of_row (by rw [get_at]; rfl)
  have SM : ∀ Y, Sl tZ (H1 ++ Y) e u c3 M := fun Y => by rw [← hH1, List.append_assoc]; exact S3.app _
  have SN : ∀ Y, Sl tZ (H1 ++ Y) f v c4 N := fun Y => by rw [← hH1, List.append_assoc]; exact S4.app _
  have SZ : ∀ Y, Sl tN (H1 ++ Y) a n c zs := fun Y => by rw [← hH1, List.append_assoc]; exact S.app _
  have SW : ∀ Y, Sl tN (H1 ++ Y) b m c1 ws := fun Y => by rw [← hH1, List.append_assoc]; exact S1.app _
  have hcell : ∀ Y, (H1 ++ Y)[h.length + (robH (rJ L) (rM L)).length]? = some (.cells [.slice (some ⟨h.length, 0, none⟩) (rJ L).length (rJ L).length, slV (h.length + 1) (rM L)] 42 false) := fun Y => by
    rw [← hH1, List.append_assoc, get_off, List.append_assoc, get_at]; rfl
  have hcell0 := hcell []
  rw [List.append_nil] at hcell0
  have x1 := c22 (ms := slV (h.length + 1) (rM L)) (SJ []) (SM []) (by omega) (by omega) rJ_lim
  have x2 := c22 (ms := slV (h.length + 1) (rM L)) (SJ [.cells (tN.flat (mP L M)) 2 false]) (SN [.cells (tN.flat (mP L M)) 2 false]) (by omega) (by omega) rJ_lim
  simp only [if_neg hjs] at x1 x2
  rw [show cfF M (rJ L) = mP L M from rfl] at x1
  rw [show cfF N (rJ L) = mP L N from rfl] at x2
  have hgc : ∀ Y, gcA h (.bool true) (H1 ++ Y) = (.bool true, h) := fun Y => by rw [← hH1, List.append_assoc]; exact gc_app (.bool _)
  have lP : (mP L M).length = (rJ L).length := mP_len
  have lQ : (mP L N).length = (rJ L).length := mP_len
  rw [slV_pos (xs := mP L M) (by omega), lP] at x1
  rw [slV_pos (xs := mP L N) (by omega), lQ] at x2
  generalize mP L M = P at *
  generalize mP L N = Q at *
  generalize (rJ L).length = r at *
  have SP : Sl tN (H1 ++ [.cells (tN.flat P) 2 false, .cells (tN.flat Q) 2 false]) (some ⟨H1.length, 0, none⟩) r r P := row_n lP (by rw [get_at]; rfl)
  have SQ : Sl tN (H1 ++ [.cells (tN.flat P) 2 false, .cells (tN.flat Q) 2 false]) (some ⟨H1.length + 1, 0, none⟩) r r Q := row_n lQ (by rw [get_off]; rfl)
  have d0 := Int.emod_nonneg depth (show (23 : Int) ≠ 0 by decide)
  have d1 := Int.emod_lt_of_pos depth (show (0 : Int) < 23 by decide)
  have ck := fun H => c15 (h := H) (a := depth) (b := 23) (by decide) (by decide)
  obtain ⟨dd, hdd⟩ : ∃ dd : Int, dd = depth % 23 - 1 := ⟨_, rfl⟩
  have w1 : IntKind.i64.wrap (depth % 23 - 1) = dd := by rw [← hdd]; exact wrap_id (by omega) (by omega)
  obtain ⟨mx, hmx'⟩ : ∃ mx : Int, mx = max 0 dd := ⟨_, rfl⟩
  have hmx : 0 ≤ mx ∧ mx ≤ 21 := by omega
  have hw : IntKind.u64.wrap (max 0 dd) = mx := by rw [IntKind.wrap_u64]; omega
  clear hmx' hdd d0 d1
  have hmin : min mx.toNat 64 = mx.toNat := by omega
  have hp : (2 : Int) ^ mx.toNat ≤ 2097152 ∧ 0 < (2 : Int) ^ mx.toNat := by
    refine ⟨?_, Int.pow_pos (by decide)⟩
    have e0 : ((2 ^ mx.toNat : Nat) : Int) = (2 : Int) ^ mx.toNat := by simp
    have h1 : 2 ^ mx.toNat ≤ 2097152 := Nat.le_trans (Nat.pow_le_pow_right (by decide) (show mx.toNat ≤ 21 by omega)) (by decide)
    rw [← e0]
    exact Int.ofNat_le.2 h1
  have w2 : IntKind.i64.wrap (2 ^ mx.toNat) = 2 ^ mx.toNat := wrap_id (by omega) (by omega)
  have w3 : IntKind.i64.wrap (2 ^ mx.toNat + 3) = 2 ^ mx.toNat + 3 := wrap_id (by omega) (by omega)
  have cr := fun H => c15 (h := H) (a := index) (b := 2 ^ mx.toNat + 3) (by omega) (by omega)
  have i0 := Int.emod_nonneg index (show 2 ^ mx.toNat + 3 ≠ (0 : Int) by omega)
  have i1 := Int.emod_lt_of_pos index (show 0 < (2 : Int) ^ mx.toNat + 3 by omega)
  have w4 : IntKind.i64.wrap (index % (2 ^ mx.toNat + 3) - 1) = index % (2 ^ mx.toNat + 3) - 1 := wrap_id (by omega) (by omega)
  have e1 := c23 (k := depth) (j := index) (SZ [.cells (tN.flat P) 2 false, .cells (tN.flat Q) 2 false]) (SW _) hn hm
  have e2 := c23 (k := dd) (j := index % (2 ^ mx.toNat + 3) - 1) SP SQ (by omega) (by omega)
  have e3 := c23 (k := dd) (j := index % (2 ^ mx.toNat + 3) - 1) (SZ [.cells (tN.flat P) 2 false, .cells (tN.flat Q) 2 false]) SQ hn (by omega)
  simp at x1 x2
  simp [hr, hH1, hcell, hcell0, x1, x2, ck, cr, w1, w2, w3, w4, hw, hmin, convA, show ¬ mx < 0 by omega, c16, e1, e2, e3, hgc]
end Go.AM.Try

