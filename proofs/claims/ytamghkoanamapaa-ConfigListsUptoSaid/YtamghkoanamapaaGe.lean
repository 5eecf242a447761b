/- Straight motions: pieces and instants. No condition. -/
import Derived.Test.YtamghkoanamapaaGd
namespace Go.AM.Try
open Go.Proofs
set_option maxRecDepth 100000
set_option linter.unusedSimpArgs false
set_option linter.unusedVariables false
attribute [-simp] Bool.decide_and Bool.decide_or
set_option pp.deepTerms false
set_option pp.maxSteps 1500

theorem mul_bd {i d A B : Int} (h0 : 0 ≤ i) (hA : i ≤ A) (h1 : -B ≤ d) (h2 : d ≤ B) : -(A * B) ≤ i * d ∧ i * d ≤ A * B := by
  have hB : 0 ≤ B := by omega
  have e1 := Int.mul_le_mul_of_nonneg_left h2 h0
  have e2 := Int.mul_le_mul_of_nonneg_right hA hB
  have e3 := Int.mul_le_mul_of_nonneg_left h1 h0
  rw [Int.mul_neg] at e3
  omega

def Str (zs ws : List Int) (k : Int) : Prop := smB zs = true ∧ smB ws = true ∧ zs.length = ws.length ∧ 0 ≤ k ∧ k ≤ 20
instance (zs ws : List Int) (k : Int) : Decidable (Str zs ws k) := by unfold Str; infer_instance
/-- A piece of one joint's motion: D = 2 ^ depth. -/
def pce (D i p q : Int) : Int × Int := (p + min (i * (q - p)) ((i + 1) * (q - p)) / D, p - (-max (i * (q - p)) ((i + 1) * (q - p))) / D)
/-- An instant of one joint's motion. -/
def ins (D i p q : Int) : Int := p + i * (q - p) / D

section
variable {a b : Option Addr} {n c m d : Nat} {h : AH} {xs ys : List (Int × Int)} {zs ws : List Int}
theorem good40 : fnB Try.prog 40 = true := by kernel_rfl
theorem good14 : fnB Try.prog 14 = true := by kernel_rfl
theorem good24 : fnB Try.prog 24 = true := by kernel_rfl
theorem c40 {k : Int} (S : Sl tN h a n c zs) (S2 : Sl tN h b m d ws) (hn : n ≤ 4611686018427387904) (hm : m ≤ 4611686018427387904) : callP Try.prog 40 [.slice a n c, .slice b m d, .int .i64 k] h = some (.bool (decide (Str zs ws k)), h) := by
  refine call_of good40 Try.func40 rfl rfl ?_
  have hl := S.len
  subst hl
  have hl2 := S2.len
  subst hl2
  by_cases hv : smB zs = true <;> by_cases hw : smB ws = true <;> simp [c65 S hn, c65 S2 hm, hv, hw]
  all_goals repeat' (refine caseQ_intro (fun hp => ?_) (fun hp => ?_) <;> simp [*])
  all_goals simp [Str, hv, hw]
  all_goals omega

theorem pow20 {k : Int} (h0 : 0 ≤ k) (h1 : k ≤ 20) : IntKind.i64.wrap (2 ^ min k.toNat 64) = 2 ^ k.toNat ∧ (2 : Int) ^ k.toNat ≤ 1048576 ∧ 0 < (2 : Int) ^ k.toNat := by
  obtain ⟨j, rfl⟩ : ∃ j : Nat, k = j := ⟨k.toNat, by omega⟩
  have hj : j ≤ 20 := by omega
  have e : min (j : Int).toNat 64 = j := by simp; omega
  rw [e, Int.toNat_natCast]
  have h1 : 2 ^ j ≤ 1048576 := Nat.le_trans (Nat.pow_le_pow_right (by decide) hj) (by decide)
  have e0 : ((2 ^ j : Nat) : Int) = (2 : Int) ^ j := by simp
  have h2 : (2 : Int) ^ j ≤ 1048576 := by
    rw [← e0]
    exact Int.ofNat_le.2 h1
  have h3 : (0 : Int) < 2 ^ j := Int.pow_pos (by decide)
  refine ⟨wrap_id (by omega) (by omega), by omega, h3⟩

theorem c14_no {k i : Int} (S : Sl tN h a n c zs) (S2 : Sl tN h b m d ws) (hn : n ≤ 17592186044416) (hm : m ≤ 17592186044416) (hno : ¬ (Str zs ws k ∧ 0 ≤ i ∧ i < 2 ^ k.toNat)) :
    callP Try.prog 14 [.slice a n c, .slice b m d, .int .i64 k, .int .i64 i] h = some (.tuple #[.slice none 0 0, .bool false], h) := by
  refine call_of good14 Try.func14 rfl rfl ?_
  by_cases hs : Str zs ws k
  · obtain ⟨e1, e2, e3⟩ := pow20 hs.2.2.2.1 hs.2.2.2.2
    have hk : ¬ k < 0 := by have := hs.2.2.2.1; omega
    by_cases h0 : i < 0
    · simp [c40 S S2 (by omega) (by omega), hs, h0, hk, e1]
    · have hi : 2 ^ k.toNat ≤ i := Int.not_lt.1 fun g => hno ⟨hs, by omega, g⟩
      simp [c40 S S2 (by omega) (by omega), hs, h0, hk, e1, hi]
  · simp [c40 S S2 (by omega) (by omega), hs]

theorem pce_bd {D i p q : Int} (hp : -2147483648 ≤ p ∧ p ≤ 2147483648) (hq : -2147483648 ≤ q ∧ q ≤ 2147483648) (h0 : 0 ≤ i) (hi : i < D) (hD : D ≤ 1048576) :
    IntKind.i64.wrap (q - p) = q - p ∧ IntKind.i64.wrap (i * (q - p)) = i * (q - p) ∧ IntKind.i64.wrap (i + 1) = i + 1 ∧ IntKind.i64.wrap ((i + 1) * (q - p)) = (i + 1) * (q - p) ∧
    IntKind.i64.wrap (-max (i * (q - p)) ((i + 1) * (q - p))) = -max (i * (q - p)) ((i + 1) * (q - p)) ∧
    IntKind.i64.wrap (p + min (i * (q - p)) ((i + 1) * (q - p)) / D) = p + min (i * (q - p)) ((i + 1) * (q - p)) / D ∧
    IntKind.i64.wrap (p - -max (i * (q - p)) ((i + 1) * (q - p)) / D) = p - -max (i * (q - p)) ((i + 1) * (q - p)) / D := by
  have b1 := mul_bd (i := i) (d := q - p) (A := 1048576) (B := 4294967296) h0 (by omega) (by omega) (by omega)
  have b2 := mul_bd (i := i + 1) (d := q - p) (A := 1048576) (B := 4294967296) (by omega) (by omega) (by omega) (by omega)
  generalize hx : i * (q - p) = x at *
  generalize hy : (i + 1) * (q - p) = y at *
  have hd : ∀ z : Int, -4503599627370496 ≤ z → z ≤ 4503599627370496 → -4503599627370496 ≤ z / D ∧ z / D ≤ 4503599627370496 := by
    intro z hz1 hz2
    have hDp : 0 < D := by omega
    constructor
    · rw [Int.le_ediv_iff_mul_le hDp]
      have : (-4503599627370496) * D ≤ (-4503599627370496) * 1 := Int.mul_le_mul_of_nonpos_left (by omega) (by omega)
      omega
    · by_cases g : z < 0
      · have := Int.ediv_neg_of_neg_of_pos g hDp; omega
      · have := Int.ediv_le_self (b := D) (Int.not_lt.1 g); omega
  have d1 := hd (min x y) (by omega) (by omega)
  have d2 := hd (-max x y) (by omega) (by omega)
  refine ⟨wrap_id (by omega) (by omega), wrap_id (by omega) (by omega), wrap_id (by omega) (by omega), wrap_id (by omega) (by omega), wrap_id (by omega) (by omega), wrap_id (by omega) (by omega), wrap_id (by omega) (by omega)⟩

theorem c14 {k i : Int} (S : Sl tN h a n c zs) (S2 : Sl tN h b m d ws) (hn : n ≤ 8796093022208) (hm : m ≤ 8796093022208) (hs : Str zs ws k) (h0 : 0 ≤ i) (hi : i < 2 ^ k.toNat) :
    callP Try.prog 14 [.slice a n c, .slice b m d, .int .i64 k, .int .i64 i] h = some (.tuple #[.slice (some ⟨h.length, 0, none⟩) n n, .bool true], h ++ [.cells (tI.flat (List.zipWith (pce (2 ^ k.toNat) i) zs ws)) 37 false]) := by
  refine call_of good14 Try.func14 rfl rfl ?_
  obtain ⟨e1, e2, e3⟩ := pow20 hs.2.2.2.1 hs.2.2.2.2
  have hk : ¬ k < 0 := by have := hs.2.2.2.1; omega
  have hlt : ¬ i < 0 := by omega
  have hge : ¬ (2 : Int) ^ k.toNat ≤ i := by omega
  have hl := S.len
  subst hl
  have hl2 := S2.len
  subst hl2
  have hlen : zs.length = ws.length := hs.2.2.1
  have hzl : (List.zipWith (pce (2 ^ k.toNat) i) zs ws).length = zs.length := by simp [hlen]
  simp [c40 S S2 (by omega) (by omega), hs, hlt, hk, e1, hge, make_T tI ((0 : Int), (0 : Int)) Try.underlying26 elem37 (show 16 * zs.length ≤ 281474976710656 by omega) (show zs.length ≤ 281474976710656 by omega)]
  refine W_loop_up zs.length (fun j s h' => ∃ g ys, ys = (List.zipWith (pce (2 ^ k.toNat) i) zs ws).take j ++ List.replicate (zs.length - j) (0, 0) ∧ h' = h ++ .cells (tI.flat ys) 37 false :: g ∧ s 35 = .int .i64 j ∧ s 34 = .int .i64 zs.length ∧ s 0 = .slice a zs.length c ∧
    s 1 = .slice b ws.length d ∧ s 2 = .int .i64 k ∧ s 3 = .int .i64 i ∧ s 10 = .slice (some ⟨h.length, 0, none⟩) zs.length zs.length) ?_ ?_ 0 _ _ (Nat.zero_le _) ⟨[], List.replicate zs.length (0, 0), by simp, by simp, by simp, by simp, by simp, by simp, by simp, by simp, by simp⟩
  · rintro j s h' hj ⟨g, ys, hys, rfl, h35, h34, hs0, hs1, hs2, hs3, hs10⟩
    have hj' : j < ws.length := hlen ▸ hj
    have hp := smB_iff.1 hs.1 (zs[j]'hj) (List.getElem_mem _)
    have hq := smB_iff.1 hs.2.1 (ws[j]'hj') (List.getElem_mem _)
    obtain ⟨w1, w2, w3, w4, w5, w6, w7⟩ := pce_bd hp hq h0 hi e2
    have hmin : min k.toNat 64 = k.toNat := by have := hs.2.2.2.2; omega
    have hst := fun g => store_T0 (h := h) (g := g) tI (x := pce (2 ^ k.toNat) i zs[j] ws[j]) (show j < ys.length by simp [hys, hzl]; omega)
    simp only [pce] at hst
    simp [hst, index_at Try.underlying26 sz37 (j := j) (Int.natCast_nonneg _) (show (j : Int) < zs.length by omega), h35, h34, hs0, hs1, hs2, hs3, hs10, hj, hj', hk, hmin, w1, w2, w3, w4, w5, w6, w7,
      S.index Try.underlying23 (j := j) (Int.natCast_nonneg _) (by omega), fun g => (S.app g).load (j := j) (by omega), S2.index Try.underlying23 (j := j) (Int.natCast_nonneg _) (by omega), fun g => (S2.app g).load (j := j) (by omega)]
    refine ⟨.inr (by kernel_rfl), ?_, wrap_id (by omega) (by omega)⟩
    subst hys
    exact congrArg tI.flat (fill_at hzl (by omega) fun _ => by rw [List.getElem_zipWith]; rfl)
  · rintro s h' ⟨g, ys, hys, rfl, h35, h34, hs0, hs1, hs2, hs3, hs10⟩
    have hys' : ys = List.zipWith (pce (2 ^ k.toNat) i) zs ws := by rw [hys, Nat.sub_self, List.replicate_zero, List.append_nil, List.take_of_length_le (by omega)]
    subst hys'
    simp [h35, h34, hs10]

theorem ins_bd {D i p q : Int} (hp : -2147483648 ≤ p ∧ p ≤ 2147483648) (hq : -2147483648 ≤ q ∧ q ≤ 2147483648) (h0 : 0 ≤ i) (hi : i ≤ D) (hD : D ≤ 1048576) (hD0 : 0 < D) :
    IntKind.i64.wrap (q - p) = q - p ∧ IntKind.i64.wrap (i * (q - p)) = i * (q - p) ∧ IntKind.i64.wrap (p + i * (q - p) / D) = p + i * (q - p) / D := by
  have b1 := mul_bd (i := i) (d := q - p) (A := 1048576) (B := 4294967296) h0 (by omega) (by omega) (by omega)
  generalize hx : i * (q - p) = x at *
  have hd : -4503599627370496 ≤ x / D ∧ x / D ≤ 4503599627370496 := by
    constructor
    · rw [Int.le_ediv_iff_mul_le hD0]
      have : (-4503599627370496) * D ≤ (-4503599627370496) * 1 := Int.mul_le_mul_of_nonpos_left (by omega) (by omega)
      omega
    · by_cases g : x < 0
      · have := Int.ediv_neg_of_neg_of_pos g hD0; omega
      · have := Int.ediv_le_self (b := D) (Int.not_lt.1 g); omega
  exact ⟨wrap_id (by omega) (by omega), wrap_id (by omega) (by omega), wrap_id (by omega) (by omega)⟩

theorem c24_no {k i : Int} (S : Sl tN h a n c zs) (S2 : Sl tN h b m d ws) (hn : n ≤ 17592186044416) (hm : m ≤ 17592186044416) (hno : ¬ (Str zs ws k ∧ 0 ≤ i ∧ i ≤ 2 ^ k.toNat)) :
    callP Try.prog 24 [.slice a n c, .slice b m d, .int .i64 k, .int .i64 i] h = some (.tuple #[.slice none 0 0, .bool false], h) := by
  refine call_of good24 Try.func24 rfl rfl ?_
  by_cases hs : Str zs ws k
  · obtain ⟨e1, e2, e3⟩ := pow20 hs.2.2.2.1 hs.2.2.2.2
    have hk : ¬ k < 0 := by have := hs.2.2.2.1; omega
    by_cases h0 : i < 0
    · simp [c40 S S2 (by omega) (by omega), hs, h0, hk, e1]
    · have hi : 2 ^ k.toNat < i := Int.not_le.1 fun g => hno ⟨hs, by omega, g⟩
      simp [c40 S S2 (by omega) (by omega), hs, h0, hk, e1, hi]
  · simp [c40 S S2 (by omega) (by omega), hs]

theorem c24 {k i : Int} (S : Sl tN h a n c zs) (S2 : Sl tN h b m d ws) (hn : n ≤ 8796093022208) (hm : m ≤ 8796093022208) (hs : Str zs ws k) (h0 : 0 ≤ i) (hi : i ≤ 2 ^ k.toNat) :
    callP Try.prog 24 [.slice a n c, .slice b m d, .int .i64 k, .int .i64 i] h = some (.tuple #[.slice (some ⟨h.length, 0, none⟩) n n, .bool true], h ++ [.cells (tN.flat (List.zipWith (ins (2 ^ k.toNat) i) zs ws)) 2 false]) := by
  refine call_of good24 Try.func24 rfl rfl ?_
  obtain ⟨e1, e2, e3⟩ := pow20 hs.2.2.2.1 hs.2.2.2.2
  have hk : ¬ k < 0 := by have := hs.2.2.2.1; omega
  have hlt : ¬ i < 0 := by omega
  have hge : ¬ (2 : Int) ^ k.toNat < i := by omega
  have hl := S.len
  subst hl
  have hl2 := S2.len
  subst hl2
  have hlen : zs.length = ws.length := hs.2.2.1
  have hzl : (List.zipWith (ins (2 ^ k.toNat) i) zs ws).length = zs.length := by simp [hlen]
  simp [c40 S S2 (by omega) (by omega), hs, hlt, hk, e1, hge, make_T tN (0 : Int) Try.underlying23 elem2 (show 8 * zs.length ≤ 281474976710656 by omega) (show zs.length ≤ 281474976710656 by omega)]
  refine W_loop_up zs.length (fun j s h' => ∃ g ys, ys = (List.zipWith (ins (2 ^ k.toNat) i) zs ws).take j ++ List.replicate (zs.length - j) 0 ∧ h' = h ++ .cells (tN.flat ys) 2 false :: g ∧ s 32 = .int .i64 j ∧ s 31 = .int .i64 zs.length ∧ s 0 = .slice a zs.length c ∧
    s 1 = .slice b ws.length d ∧ s 2 = .int .i64 k ∧ s 3 = .int .i64 i ∧ s 10 = .slice (some ⟨h.length, 0, none⟩) zs.length zs.length) ?_ ?_ 0 _ _ (Nat.zero_le _) ⟨[], List.replicate zs.length 0, by simp, by simp, by simp, by simp, by simp, by simp, by simp, by simp, by simp⟩
  · rintro j s h' hj ⟨g, ys, hys, rfl, h35, h34, hs0, hs1, hs2, hs3, hs10⟩
    have hj' : j < ws.length := hlen ▸ hj
    have hp := smB_iff.1 hs.1 (zs[j]'hj) (List.getElem_mem _)
    have hq := smB_iff.1 hs.2.1 (ws[j]'hj') (List.getElem_mem _)
    obtain ⟨w1, w2, w3⟩ := ins_bd hp hq h0 hi e2 e3
    have hmin : min k.toNat 64 = k.toNat := by have := hs.2.2.2.2; omega
    have hst := fun g => store_T0 (h := h) (g := g) tN (x := ins (2 ^ k.toNat) i zs[j] ws[j]) (show j < ys.length by simp [hys, hzl]; omega)
    simp only [ins] at hst
    simp [hst, index_at Try.underlying23 sz2 (j := j) (Int.natCast_nonneg _) (show (j : Int) < zs.length by omega), h35, h34, hs0, hs1, hs2, hs3, hs10, hj, hj', hk, hmin, w1, w2, w3,
      S.index Try.underlying23 (j := j) (Int.natCast_nonneg _) (by omega), fun g => (S.app g).load (j := j) (by omega), S2.index Try.underlying23 (j := j) (Int.natCast_nonneg _) (by omega), fun g => (S2.app g).load (j := j) (by omega)]
    refine ⟨.inr (by kernel_rfl), ?_, wrap_id (by omega) (by omega)⟩
    subst hys
    exact congrArg tN.flat (fill_at hzl (by omega) fun _ => by rw [List.getElem_zipWith]; rfl)
  · rintro s h' ⟨g, ys, hys, rfl, h35, h34, hs0, hs1, hs2, hs3, hs10⟩
    have hys' : ys = List.zipWith (ins (2 ^ k.toNat) i) zs ws := by rw [hys, Nat.sub_self, List.replicate_zero, List.append_nil, List.take_of_length_le (by omega)]
    subst hys'
    simp [h35, h34, hs10]
end
end Go.AM.Try

