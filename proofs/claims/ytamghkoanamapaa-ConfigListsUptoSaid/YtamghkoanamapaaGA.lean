/- Lists of configurations and boxes, program and reference. No condition. -/
import Derived.Test.YtamghkoanamapaaGz
namespace Go.AM.Try
open Go.Proofs
set_option maxRecDepth 100000
set_option linter.unusedSimpArgs false
set_option linter.unusedVariables false
attribute [-simp] Bool.decide_and Bool.decide_or
theorem good71 : fnB Try.prog 71 = true := by kernel_rfl
theorem good72 : fnB Try.prog 72 = true := by kernel_rfl
theorem good73 : fnB Try.prog 73 = true := by kernel_rfl
theorem good74 : fnB Try.prog 74 = true := by kernel_rfl
theorem good75 : fnB Try.prog 75 = true := by kernel_rfl
theorem good76 : fnB Try.prog 76 = true := by kernel_rfl
theorem good103 : fnB Try.prog 103 = true := by kernel_rfl
theorem good104 : fnB Try.prog 104 = true := by kernel_rfl
theorem good106 : fnB Try.prog 106 = true := by kernel_rfl

def limI (j : Jt) : Int × Int := (j.lo, j.hi)
theorem c104 {j : Jt} {h : AH} : callP Try.prog 104 [tJ.v j] h = some (tI.v (limI j), h) := by
  refine call_of good104 Try.func104 rfl rfl ?_
  simp [jtC, limI]
theorem c103 {j : Jt} {x : Int} {h : AH} : callP Try.prog 103 [tJ.v j, .int .i64 x] h = some (.bool (decide (has (limI j) x)), h) := by
  refine call_of good103 Try.func103 rfl rfl ?_
  have e := fun H => c104 (j := j) (h := H)
  simp [jtC] at e
  simp [jtC, e, c56]
theorem c106 {j : Jt} {x : Int × Int} {h : AH} : callP Try.prog 106 [tJ.v j, (.agg #[.int .i64 (x).1, .int .i64 (x).2])] h = some (.bool (decide (wth x (limI j))), h) := by
  refine call_of good106 Try.func106 rfl rfl ?_
  have e := fun H => c104 (j := j) (h := H)
  simp [jtC] at e
  simp [jtC, e, c63]
theorem good102 : fnB Try.prog 102 = true := by kernel_rfl
theorem c102 {a b : Option Addr} {n c m d : Nat} {xs : List Jt} {ys : List Int} {h : AH} (S : Sl tJ h a n c xs) (S2 : Sl tN h b m d ys) (hn : n ≤ 4611686018427387904) {f : FuncId} (p : Jt → Int → Bool) (hf : ∀ x ∈ xs, ∀ y ∈ ys, callP Try.prog f [tJ.v x, .int .i64 y] h = some (.bool (p x y), h)) :
    callP Try.prog 102 [.slice a n c, .slice b m d, .func (.func f) #[] #[]] h = some (.bool (allB p xs ys), h) := by
  refine call_of good102 Try.func102 rfl rfl ?_
  have hl := S.len
  subst hl
  have hl2 := S2.len
  subst hl2
  simp
  by_cases hlen : xs.length = ys.length
  · refine W_loop_up xs.length (fun i s h' => h' = h ∧ s 7 = .int .i64 i ∧ s 0 = .slice a xs.length c ∧ s 1 = .slice b ys.length d ∧ s 2 = .func (.func f) #[] #[] ∧ ∀ (j : Nat) (hj : j < xs.length), j < i → p xs[j] (ys[j]'(hlen ▸ hj)) = true) ?_ ?_ 0 _ _ (Nat.zero_le _) (by simp)
    · rintro i s h' hi ⟨rfl, h7, h0, h1, h2, hb⟩
      have hi' : i < ys.length := hlen ▸ hi
      have hx := hf (xs[i]'(by omega)) (List.getElem_mem _) (ys[i]'(by omega)) (List.getElem_mem _)
      have hii : (i : Int) < (ys.length : Int) := by omega
      simp [h7, h0, h1, h2, hx, hlen, hi, hi', S.index Try.underlying39 (j := i) (Int.natCast_nonneg _) (by omega), S.load (j := i) (by omega), hlen ▸ S.index Try.underlying39 (j := i) (Int.natCast_nonneg _) (by omega), S2.index Try.underlying23 (j := i) (Int.natCast_nonneg _) (by omega), S2.load (j := i) (by omega)]
      refine caseQ_intro (fun hp => ?_) (fun hp => ?_)
      · simp [*]
        refine ⟨wrap_id (by omega) (by omega), fun j hj hji => ?_⟩
        rcases Nat.lt_or_ge j i with g | g
        · exact hb j (by omega) g
        · have : j = i := by omega
          subst this
          exact hp
      · simp [*]
        exact allB_false hlen (by omega) (by simpa using hp)
    · rintro s h' ⟨rfl, h7, h0, h1, h2, hb⟩
      simp [h7, h0, h1, h2, hlen]
      exact allB_true hlen fun j hj => hb j hj hj
  · have hli : ¬ ((xs.length : Int) = ys.length) := by omega
    rw [W_loop]
    simp [hli]
    exact allB_ne hlen

theorem good105 : fnB Try.prog 105 = true := by kernel_rfl
theorem c105 {a b : Option Addr} {n c m d : Nat} {xs : List Jt} {ys : List (Int × Int)} {h : AH} (S : Sl tJ h a n c xs) (S2 : Sl tI h b m d ys) (hn : n ≤ 4611686018427387904) {f : FuncId} (p : Jt → (Int × Int) → Bool) (hf : ∀ x ∈ xs, ∀ y ∈ ys, callP Try.prog f [tJ.v x, (.agg #[.int .i64 (y).1, .int .i64 (y).2])] h = some (.bool (p x y), h)) :
    callP Try.prog 105 [.slice a n c, .slice b m d, .func (.func f) #[] #[]] h = some (.bool (allB p xs ys), h) := by
  refine call_of good105 Try.func105 rfl rfl ?_
  have hl := S.len
  subst hl
  have hl2 := S2.len
  subst hl2
  simp
  by_cases hlen : xs.length = ys.length
  · refine W_loop_up xs.length (fun i s h' => h' = h ∧ s 7 = .int .i64 i ∧ s 0 = .slice a xs.length c ∧ s 1 = .slice b ys.length d ∧ s 2 = .func (.func f) #[] #[] ∧ ∀ (j : Nat) (hj : j < xs.length), j < i → p xs[j] (ys[j]'(hlen ▸ hj)) = true) ?_ ?_ 0 _ _ (Nat.zero_le _) (by simp)
    · rintro i s h' hi ⟨rfl, h7, h0, h1, h2, hb⟩
      have hi' : i < ys.length := hlen ▸ hi
      have hx := hf (xs[i]'(by omega)) (List.getElem_mem _) (ys[i]'(by omega)) (List.getElem_mem _)
      have hii : (i : Int) < (ys.length : Int) := by omega
      simp [h7, h0, h1, h2, hx, hlen, hi, hi', S.index Try.underlying39 (j := i) (Int.natCast_nonneg _) (by omega), S.load (j := i) (by omega), hlen ▸ S.index Try.underlying39 (j := i) (Int.natCast_nonneg _) (by omega), S2.index Try.underlying26 (j := i) (Int.natCast_nonneg _) (by omega), S2.load (j := i) (by omega)]
      refine caseQ_intro (fun hp => ?_) (fun hp => ?_)
      · simp [*]
        refine ⟨wrap_id (by omega) (by omega), fun j hj hji => ?_⟩
        rcases Nat.lt_or_ge j i with g | g
        · exact hb j (by omega) g
        · have : j = i := by omega
          subst this
          exact hp
      · simp [*]
        exact allB_false hlen (by omega) (by simpa using hp)
    · rintro s h' ⟨rfl, h7, h0, h1, h2, hb⟩
      simp [h7, h0, h1, h2, hlen]
      exact allB_true hlen fun j hj => hb j hj hj
  · have hli : ¬ ((xs.length : Int) = ys.length) := by omega
    rw [W_loop]
    simp [hli]
    exact allB_ne hlen

theorem good107 : fnB Try.prog 107 = true := by kernel_rfl
theorem c107 {h : AH} {a : Option Addr} {n c : Nat} {xs : List Jt} (S : Sl tJ h a n c xs) (hn : n ≤ 17592186044416) {f : FuncId} (F : Jt → (Int × Int)) (hf : ∀ (g : AH) (x : Jt), x ∈ xs → callP Try.prog f [tJ.v x] (h ++ g) = some ((.agg #[.int .i64 ((F x)).1, .int .i64 ((F x)).2]), h ++ g)) :
    callP Try.prog 107 [.slice a n c, .func (.func f) #[] #[]] h = some (.slice (some ⟨h.length, 0, none⟩) n n, h ++ [.cells ((tI).flat (xs.map F)) 37 false]) := by
  refine call_of good107 Try.func107 rfl rfl ?_
  have hl := S.len
  subst hl
  simp [make_T tI ((0 : Int), (0 : Int)) Try.underlying26 elem37 (show 16 * xs.length ≤ 281474976710656 by omega) (show xs.length ≤ 281474976710656 by omega)]
  refine W_loop_up xs.length (fun i s h' => ∃ g ys, ys = (xs.take i).map F ++ List.replicate (xs.length - i) ((0 : Int), (0 : Int)) ∧ h' = h ++ .cells ((tI).flat ys) 37 false :: g ∧ s 13 = .int .i64 i ∧ s 12 = .int .i64 xs.length ∧ s 11 = .slice a xs.length c ∧
    s 5 = .slice (some ⟨h.length, 0, none⟩) xs.length xs.length ∧ s 1 = .func (.func f) #[] #[]) ?_ ?_ 0 _ _ (Nat.zero_le _) ⟨[], List.replicate xs.length ((0 : Int), (0 : Int)), by simp, by simp, by simp, by simp, by simp, by simp, by simp⟩
  · rintro i s h' hi ⟨g, ys, hys, rfl, h13, h12, h11, h5, h1⟩
    have hx := fun g => hf g (xs[i]'(by omega)) (List.getElem_mem _)
    have hld := fun g => (S.app g).load (j := i) (by omega)
    simp [jtC] at hx hld
    simp [hx, store_T0 tI (x := F xs[i]) (show i < ys.length by simp [hys]; omega), index_at Try.underlying26 sz37 (j := i) (Int.natCast_nonneg _) (show (i : Int) < xs.length by omega), h13, h12, h11, h5, h1, hi, S.index Try.underlying39 (j := i) (Int.natCast_nonneg _) (by omega), hld]
    have hw : IntKind.i64.wrap (i + 1) = i + 1 := wrap_id (by omega) (by omega)
    refine ⟨?_, hw⟩
    subst hys
    have := fill_step (zs := xs.map F) (z := ((0 : Int), (0 : Int))) (i := i) (by simp; omega)
    simp only [List.length_map, List.getElem_map, ← List.map_take] at this
    rw [this, List.map_take]
  · rintro s h' ⟨g, ys, hys, rfl, h13, h12, h11, h5, h1⟩
    have hys' : ys = xs.map F := by rw [hys, Nat.sub_self, List.replicate_zero, List.append_nil, List.take_of_length_le (by omega)]
    subst hys'
    simp [h13, h12, h5]


section
variable {h : AH} {ra rb a : Option Addr} {rn rc sn sc n c : Nat} {RJ : List Jt} {RM : List Ms} {zs : List Int} {xs : List (Int × Int)}
def insB (RJ : List Jt) (RM : List Ms) (zs : List Int) : Bool := decide (robE RJ RM = 0) && allB (fun j z => decide (has (limI j) z)) RJ zs
theorem c71 (SR : Sl tJ h ra rn rc RJ) (SS : Sl tM h rb sn sc RM) (S : Sl tN h a n c zs) (hrn : rn ≤ 140737488351232) (hsn : sn ≤ 140737488351232) (hz : ∀ j ∈ RJ, j.name.size ≤ 9223372036854775807) :
    callP Try.prog 71 [.agg #[.slice ra rn rc, .slice rb sn sc], .slice a n c] h = some (.bool (insB RJ RM zs), h) := by
  refine call_of good71 Try.func71 rfl rfl ?_
  have e0 := fun G => c64 (SR.app G) (SS.app G) hrn hsn hz
  have e1 := fun G => c102 (SR.app G) (S.app G) (by omega) _ (fun x _ y _ => c103)
  by_cases h1 : robE RJ RM = 0
  · simp [e0, e1, h1, insB]
  · simp [e0, e1, h1, insB]
theorem c73 (SR : Sl tJ h ra rn rc RJ) (SS : Sl tM h rb sn sc RM) (S : Sl tI h a n c xs) (hrn : rn ≤ 140737488351232) (hsn : sn ≤ 140737488351232) (hz : ∀ j ∈ RJ, j.name.size ≤ 9223372036854775807) :
    callP Try.prog 73 [.agg #[.slice ra rn rc, .slice rb sn sc], .slice a n c] h = some (.bool (decide (robE RJ RM = 0) && allB (fun j x => decide (wth x (limI j))) RJ xs), h) := by
  refine call_of good73 Try.func73 rfl rfl ?_
  have e0 := fun G => c64 (SR.app G) (SS.app G) hrn hsn hz
  have e1 := fun G => c105 (SR.app G) (S.app G) (by omega) _ (fun x _ y _ => c106)
  by_cases h1 : robE RJ RM = 0
  · simp [e0, e1, h1]
  · simp [e0, e1, h1]
theorem c75 (SR : Sl tJ h ra rn rc RJ) (SS : Sl tM h rb sn sc RM) (hrn : rn ≤ 140737488351232) (hsn : sn ≤ 140737488351232) (hz : ∀ j ∈ RJ, j.name.size ≤ 9223372036854775807) :
    callP Try.prog 75 [.agg #[.slice ra rn rc, .slice rb sn sc]] h = some (if robE RJ RM = 0 then (.slice (some ⟨h.length, 0, none⟩) rn rn, h ++ [.cells (tI.flat (RJ.map limI)) 37 false]) else (.slice none 0 0, h)) := by
  refine call_of good75 Try.func75 rfl rfl ?_
  have e0 := fun G => c64 (SR.app G) (SS.app G) (by omega) hsn hz
  by_cases h1 : robE RJ RM = 0
  · have e1 := fun G => c107 (SR.app G) (by have := (robE_ok h1).1; have := SR.len; omega) limI (fun g x _ => c104)
    simp [e0, e1, h1]
    exact gc_T tI (b := 1) rfl
  · simp [e0, h1]
end

theorem lim_vld {RJ : List Jt} {RM : List Ms} (h : robE RJ RM = 0) {i : Nat} (hi : i < RJ.length) : Vld (limI RJ[i]) := by
  have := (cjF_ok ((robE_ok h).2 i hi)).2.1
  have b := bndF_bd RJ[i].kind
  unfold limP at this
  unfold Vld limI
  dsimp only
  omega

section
variable {h : AH} {ra rb a : Option Addr} {rn rc sn sc n c : Nat} {RJ : List Jt} {RM : List Ms} {zs : List Int} {xs : List (Int × Int)}
set_option maxHeartbeats 1600000 in
theorem c72 (SR : Sl tJ h ra rn rc RJ) (SS : Sl tM h rb sn sc RM) (S : Sl tN h a n c zs) (hrn : rn ≤ 140737488351232) (hsn : sn ≤ 140737488351232) (hn : n ≤ 140737488351232) (hz : ∀ j ∈ RJ, j.name.size ≤ 9223372036854775807) :
    callP Try.prog 72 [.agg #[.slice ra rn rc, .slice rb sn sc], .slice a n c] h = some (.bool (insB RJ RM zs), h) := by
  refine call_of good72 Try.func72 rfl rfl ?_
  have hl := S.len
  have hrl := SR.len
  have e0 := fun G => c66 (SR.app G) (SS.app G) hrn hsn hz
  by_cases h1 : robE RJ RM = 0
  · by_cases h2 : n = rn
    · subst h2
      have hten := (robE_ok h1).1
      have hlen : RJ.length = zs.length := by omega
      have hI : insB RJ RM zs = allB (fun j z => decide (has (limI j) z)) RJ zs := by simp [insB, h1]
      simp [e0, h1]
      obtain ⟨jb, jo, rfl⟩ := SR.some_ (by omega)
      obtain ⟨-, C, e, ro, hC, hCc⟩ := SR.row
      have gJ : ∀ G, (h ++ G)[jb]? = some (.cells C e ro) := fun G => by rw [List.getElem?_append_left (List.getElem?_eq_some_iff.1 hC).1]; exact hC
      refine W_loop_up n (fun i s h' => (∃ X, h' = h ++ .cells [.slice (some ⟨jb, jo, none⟩) n rc, .slice rb sn sc] 42 false :: X) ∧ s 5 = .int .i64 i ∧ s 1 = .slice a n c ∧ s 2 = .pointer (some ⟨h.length, 0, none⟩) ∧ ∀ (k : Nat) (hk : k < RJ.length), k < i → has (limI RJ[k]) (zs[k]'(hlen ▸ hk))) ?_ ?_ 0 _ _ (Nat.zero_le _) ⟨⟨[], rfl⟩, by simp⟩
      · rintro i s h' hi ⟨⟨X, rfl⟩, g1, g2, g3, hb⟩
        have hij : i < RJ.length := by omega
        have hiz : i < zs.length := by omega
        have hii : (i : Int) < n := by omega
        have w1 : IntKind.i64.wrap ((i : Int) + 1) = i + 1 := wrap_id (by omega) (by omega)
        have hv := lim_vld h1 hij
        have yes : has (limI RJ[i]) zs[i] → ∀ (k : Nat) (hk : k < RJ.length), k < i + 1 → has (limI RJ[k]) (zs[k]'(hlen ▸ hk)) := fun q k hk hki => by
          by_cases e : k = i
          · subst e; exact q
          · exact hb k hk (by omega)
        have no : ¬ has (limI RJ[i]) zs[i] → insB RJ RM zs = false := fun q => by
          rw [hI]
          exact allB_false hlen hij (decide_eq_false q)
        have ix := SR.index Try.underlying39 (j := i) (kk := .i64) (Int.natCast_nonneg _) (by omega)
        have l6 := hCc i hij 6 (by decide)
        have l7 := hCc i hij 7 (by decide)
        have ix1 := S.index Try.underlying23 (j := i) (kk := .i64) (Int.natCast_nonneg _) (by omega)
        have ld1 := fun G => (S.app G).load hiz
        simp [jtC, elemPtr_some] at ix l6 l7
        simp at ix1 ld1
        unfold has limI at yes no
        unfold limI at hv
        dsimp only at yes no
        generalize zs[i] = z at *
        by_cases a1 : z < RJ[i].lo
        · simp [g1, g2, g3, hi, hii, w1, ix, gJ, l6, l7, ix1, ld1, a1]
          exact no fun q => by omega
        · by_cases a2 : RJ[i].hi < z
          · simp [g1, g2, g3, hi, hii, w1, ix, gJ, l6, l7, ix1, ld1, a1, a2]
            exact no fun q => by omega
          · simp [g1, g2, g3, hi, hii, w1, ix, gJ, l6, l7, ix1, ld1, a1, a2]
            exact yes ⟨hv, by omega, by omega⟩
      · rintro s h' ⟨⟨X, rfl⟩, g1, g2, g3, hb⟩
        simp [g1, g2, g3]
        rw [hI]
        exact allB_true hlen fun k hk => decide_eq_true (hb k hk (by omega))
    · have : insB RJ RM zs = false := by
        rw [insB, allB_ne (by omega), Bool.and_false]
      simp [e0, h1, show ¬ ((n : Int) = rn) by omega, this]
  · have : insB RJ RM zs = false := by simp [insB, h1]
    simp [e0, h1, this]

theorem limS_len {RJ : List Jt} {i : Nat} (hi : i ≤ RJ.length) : ((RJ.take i).map limI).length = i := by simp; omega
set_option maxHeartbeats 1600000 in
theorem c76 (SR : Sl tJ h ra rn rc RJ) (SS : Sl tM h rb sn sc RM) (hrn : rn ≤ 140737488351232) (hsn : sn ≤ 140737488351232) (hz : ∀ j ∈ RJ, j.name.size ≤ 9223372036854775807) :
    callP Try.prog 76 [.agg #[.slice ra rn rc, .slice rb sn sc]] h = some (if robE RJ RM = 0 then (slV h.length (RJ.map limI), h ++ rowH tI (RJ.map limI)) else (.slice none 0 0, h)) := by
  refine call_of good76 Try.func76 rfl rfl ?_
  have hrl := SR.len
  have e0 := fun G => c66 (SR.app G) (SS.app G) hrn hsn hz
  by_cases h1 : robE RJ RM = 0
  · have hten := (robE_ok h1).1
    simp [e0, h1]
    obtain ⟨jb, jo, rfl⟩ := SR.some_ (by omega)
    obtain ⟨-, C, e, ro, hC, hCc⟩ := SR.row
    have gJ : ∀ G, (h ++ G)[jb]? = some (.cells C e ro) := fun G => by rw [List.getElem?_append_left (List.getElem?_eq_some_iff.1 hC).1]; exact hC
    refine W_loop_up rn (fun i s h' => ∃ X p, h' = h ++ .cells [.slice (some ⟨jb, jo, none⟩) rn rc, .slice rb sn sc] 42 false :: X ∧ (((RJ.take i).map limI).length ≠ 0 → X[p]? = some (.cells (tI.flat ((RJ.take i).map limI)) 37 false)) ∧ s 4 = .int .i64 i ∧ s 1 = .pointer (some ⟨h.length, 0, none⟩) ∧ s 3 = slV (h.length + (p + 1)) ((RJ.take i).map limI)) ?_ ?_ 0 _ _ (Nat.zero_le _) ⟨[], 0, rfl, by simp, by simp, by simp, by simp [slV]⟩
    · rintro i s h' hi ⟨X, p, rfl, hX, g1, g2, g3⟩
      have hij : i < RJ.length := by omega
      have hii : (i : Int) < rn := by omega
      have w1 : IntKind.i64.wrap ((i : Int) + 1) = i + 1 := wrap_id (by omega) (by omega)
      have hlen := limS_len (RJ := RJ) (i := i) (by omega)
      rw [List.take_succ_eq_append_getElem hij, List.map_append, List.map_cons, List.map_nil]
      have ix := SR.index Try.underlying39 (j := i) (kk := .i64) (Int.natCast_nonneg _) (by omega)
      have l6 := hCc i hij 6 (by decide)
      have l7 := hCc i hij 7 (by decide)
      simp [jtC, elemPtr_some] at ix l6 l7
      have hbb := fun h (x y : Int) => build_1 (h := h) (x := (x, y)) tI Try.underlying26 elem37 rfl (by decide)
      obtain ⟨X', hX', -, happ⟩ := append_2 (h := h) (Y := [.cells [.slice (some ⟨jb, jo, none⟩) rn rc, .slice rb sn sc] 42 false]) (X := X) (p := p) (ys := (RJ.take i).map limI) (x := limI RJ[i]) tI Try.underlying26 elem37 rfl hX (by decide) (by omega)
      generalize (RJ.take i).map limI = out at *
      simp [limI] at happ hbb
      simp [g1, g2, g3, hi, hii, w1, ix, gJ, l6, l7, hbb, happ, limI]
      refine ⟨.inr (.inl (by kernel_rfl)), ?_⟩
      exact ⟨X'.length, by simp, rfl⟩
    · rintro s h' ⟨X, p, rfl, hX, g1, g2, g3⟩
      rw [show RJ.take rn = RJ by rw [hrl, List.take_length]] at hX g3
      have hgc := gc_row (h := h) (Z := .cells [.slice (some ⟨jb, jo, none⟩) rn rc, .slice rb sn sc] 42 false :: X) tI (b := p + 1) hX
      simp [g1, g2, g3]
      simpa using hgc
  · simp [e0, h1]

theorem c74 (SR : Sl tJ h ra rn rc RJ) (SS : Sl tM h rb sn sc RM) (S : Sl tI h a n c xs) (hrn : rn ≤ 140737488351232) (hsn : sn ≤ 140737488351232) (hn : n ≤ 140737488351232) (hz : ∀ j ∈ RJ, j.name.size ≤ 9223372036854775807) :
    callP Try.prog 74 [.agg #[.slice ra rn rc, .slice rb sn sc], .slice a n c] h = some (.bool (decide (robE RJ RM = 0) && allB (fun j x => decide (wth x (limI j))) RJ xs), h) := by
  refine call_of good74 Try.func74 rfl rfl ?_
  have hl := S.len
  have hrl := SR.len
  have e0 := fun G => c76 (SR.app G) (SS.app G) hrn hsn hz
  by_cases h1 : robE RJ RM = 0
  · have hten := (robE_ok h1).1
    have hll : (RJ.map limI).length = rn := by simp [hrl]
    simp only [h1, if_true, slV_pos (xs := RJ.map limI) (by omega), rowH_pos (xs := RJ.map limI) (T := tI) (by omega), hll] at e0
    have e1 := c17' (S.app [.cells [.slice ra rn rc, .slice rb sn sc] 42 false, .cells (tI.flat (RJ.map limI)) 37 false]) (row_n (T := tI) (b := h.length + 1) hll (by rw [get_off]; rfl)) (by omega) (by omega)
    have key : (vlB xs && vlB (RJ.map limI) && allB (fun x y => decide (wth x y)) xs (RJ.map limI)) = allB (fun j x => decide (wth x (limI j))) RJ xs := by
      by_cases hlen : RJ.length = xs.length
      · rw [Bool.eq_iff_iff, Bool.and_eq_true, Bool.and_eq_true, allB_iff (by rw [hll]; omega), allB_iff hlen]
        constructor
        · rintro ⟨-, g⟩ j hj
          have := g j (by omega)
          simpa using this
        · intro g
          refine ⟨⟨?_, ?_⟩, fun j hj => by have := g j (by omega); simpa using this⟩
          · rw [vlB_iff]
            intro x hx
            obtain ⟨j, hj, rfl⟩ := List.getElem_of_mem hx
            exact (of_decide_eq_true (g j (by omega))).1
          · rw [vlB_iff]
            intro x hx
            obtain ⟨j, hj, rfl⟩ := List.getElem_of_mem hx
            rw [List.getElem_map]
            exact lim_vld h1 (by simpa using hj)
      · rw [allB_ne hlen, allB_ne (by rw [hll]; omega), Bool.and_false]
    rw [key] at e1
    have nz : allB (fun j x => decide (wth x (limI j))) RJ xs = true → 0 < (n : Int) := fun g => by
      have : RJ.length = xs.length := Classical.byContradiction fun q => by rw [allB_ne q] at g; cases g
      omega
    cases hB : allB (fun j x => decide (wth x (limI j))) RJ xs with
    | true =>
      rw [hB] at e1
      have := nz hB
      simp at e0 e1
      simp [e0, e1, h1, this, show 0 < n by omega]
    | false =>
      rw [hB] at e1
      simp at e0 e1
      simp [e0, e1, h1]
  · simp only [h1, if_false] at e0
    have e1 := c17' (S.app [.cells [.slice ra rn rc, .slice rb sn sc] 42 false]) (Sl.none_ (T := tI)) (by omega) (by omega)
    by_cases h0 : n = 0
    · have hx : xs = [] := List.length_eq_zero_iff.1 (by omega)
      subst hx
      subst h0
      cases hB : (vlB [] && vlB [] && allB (fun x y => decide (wth x y)) ([] : List (Int × Int)) []) <;> rw [hB] at e1 <;> simp [e0, e1, h1]
    · have : allB (fun x y => decide (wth x y)) xs [] = false := allB_ne (by simp; intro q; rw [q] at hl; simp at hl; omega)
      rw [this, Bool.and_false] at e1
      simp [e0, e1, h1]
end

theorem good79 : fnB Try.prog 79 = true := by kernel_rfl
theorem c79 {h : AH} {a : Option Addr} {n c : Nat} {xs : List (Int × Int)} (S : Sl tI h a n c xs) (hn : n ≤ 8796093022207) (hv : vlB xs = true) :
    callP Try.prog 79 [.slice a n c] h = some (if n = 0 then (.slice none 0 0, h) else (slV h.length ((List.range (n)).map (fun i => mid (xs.getD i (0, 0)))), h ++ [.cells ((tN).flat ((List.range (n)).map (fun i => mid (xs.getD i (0, 0))))) 2 false])) := by
  refine call_of good79 Try.func79 rfl rfl ?_
  have hl := S.len
  generalize hFF : (fun i => mid (xs.getD i (0, 0))) = f
  simp [c41' S (by omega), hv]
  refine W_loop_up (n) (fun i s h' => ∃ X p, h' = h ++ X ∧ (((List.range i).map f).length ≠ 0 → X[p]? = some (.cells ((tN).flat ((List.range i).map f)) 2 false)) ∧ s 4 = .int .i64 i ∧ s 3 = slV (h.length + p) ((List.range i).map f) ∧ s 0 = .slice a n c) ?_ ?_ 0 _ _ (Nat.zero_le _) ⟨[], 0, by simp, by simp, by simp, by simp [slV], by simp⟩
  · rintro i s h' hi ⟨X, p, rfl, hX, hI, hO, g0⟩
    have hx1 : i < xs.length := (by omega)
    have hii : (i : Int) < ((n : Nat) : Int) := by omega
    have w1 : IntKind.i64.wrap ((i : Int) + 1) = i + 1 := wrap_id (by omega) (by omega)
    rw [List.range_succ, List.map_append, List.map_cons, List.map_nil]
    have hF : f i = (mid xs[i]) := by rw [← hFF]; simp [hi, hx1]
    rw [hF]
    have hlen : ((List.range i).map f).length = i := by simp
    have hbb := fun h x => build_1 (h := h) (x := x) tN Try.underlying23 elem2 rfl (by decide)
    obtain ⟨X', hX', -, happ⟩ := append_2 (h := h) (Y := []) (X := X) (p := p) (ys := (List.range i).map f) (x := (mid xs[i])) (tN) Try.underlying23 elem2 rfl hX (by decide) (by omega)
    generalize (List.range i).map f = out at *
    simp at happ
    simp [hI, hO, g0, hi, hii, w1, S.index Try.underlying26 (j := i) (kk := .i64) (Int.natCast_nonneg _) (by omega), fun g => (S.app g).load (j := i) (by omega), c99, hbb, happ]
    exact ⟨X'.length, by simp, rfl⟩
  · rintro s h' ⟨X, p, rfl, hX, hI, hO, g0⟩
    have hgc := gc_one (h := h) (Z := X) (tN) (b := p) hX
    simp [hI, hO, g0]
    simpa using hgc
theorem good78 : fnB Try.prog 78 = true := by kernel_rfl
theorem c78 {h : AH} {a b : Option Addr} {n c d : Nat} {xs : List (Int × Int)} {zs : List Int} (S : Sl tI h a n c xs) (S2 : Sl tN h b n d zs) (hn : n ≤ 8796093022207) (hv : vlB xs = true) :
    callP Try.prog 78 [.slice a n c, .slice b n d] h = some (if n = 0 then (.slice none 0 0, h) else (slV h.length ((List.range (n)).map (fun i => clI (xs.getD i (0, 0)) (zs.getD i 0))), h ++ [.cells ((tN).flat ((List.range (n)).map (fun i => clI (xs.getD i (0, 0)) (zs.getD i 0)))) 2 false])) := by
  refine call_of good78 Try.func78 rfl rfl ?_
  have hl := S.len; have hl2 := S2.len
  generalize hFF : (fun i => clI (xs.getD i (0, 0)) (zs.getD i 0)) = f
  simp [c41' S (by omega), hv]
  refine W_loop_up (n) (fun i s h' => ∃ X p, h' = h ++ X ∧ (((List.range i).map f).length ≠ 0 → X[p]? = some (.cells ((tN).flat ((List.range i).map f)) 2 false)) ∧ s 6 = .int .i64 i ∧ s 5 = slV (h.length + p) ((List.range i).map f) ∧ s 0 = .slice a n c ∧ s 1 = .slice b n d) ?_ ?_ 0 _ _ (Nat.zero_le _) ⟨[], 0, by simp, by simp, by simp, by simp [slV], by simp, by simp⟩
  · rintro i s h' hi ⟨X, p, rfl, hX, hI, hO, g0, g1⟩
    have hx1 : i < xs.length := (by omega); have hy1 : i < zs.length := (by omega); have hvx := vlB_iff.1 hv xs[i] (List.getElem_mem _); obtain ⟨ab, ao, rfl⟩ := S.some_ (by omega); obtain ⟨-, C, e, ro, hC, hCc⟩ := S.row; have gJ : ∀ G, (h ++ G)[ab]? = some (.cells C e ro) := (fun G => by rw [List.getElem?_append_left (List.getElem?_eq_some_iff.1 hC).1]; exact hC); have f0 := hCc i hx1 0 (by decide); have f1 := hCc i hx1 1 (by decide); have ixx := S.index Try.underlying26 (j := i) (kk := .i64) (Int.natCast_nonneg _) (by omega); simp [elemPtr_some] at ixx f0 f1; have hcl : max xs[i].1 (min zs[i] xs[i].2) = clI xs[i] zs[i] := (by unfold clI; unfold Vld at hvx; omega)
    have hii : (i : Int) < ((n : Nat) : Int) := by omega
    have w1 : IntKind.i64.wrap ((i : Int) + 1) = i + 1 := wrap_id (by omega) (by omega)
    rw [List.range_succ, List.map_append, List.map_cons, List.map_nil]
    have hF : f i = (clI xs[i] zs[i]) := by rw [← hFF]; simp [hi, hx1, hy1]
    rw [hF]
    have hlen : ((List.range i).map f).length = i := by simp
    have hbb := fun h x => build_1 (h := h) (x := x) tN Try.underlying23 elem2 rfl (by decide)
    obtain ⟨X', hX', -, happ⟩ := append_2 (h := h) (Y := []) (X := X) (p := p) (ys := (List.range i).map f) (x := (clI xs[i] zs[i])) (tN) Try.underlying23 elem2 rfl hX (by decide) (by omega)
    generalize (List.range i).map f = out at *
    simp at happ
    simp [hI, hO, g0, g1, hi, hii, w1, ixx, gJ, f0, f1, hcl, S2.index Try.underlying23 (j := i) (kk := .i64) (Int.natCast_nonneg _) (by omega), fun g => (S2.app g).load (j := i) (by omega), hbb, happ]
    refine ⟨.inr (.inl (by kernel_rfl)), ?_⟩
    exact ⟨X'.length, by simp, rfl⟩
  · rintro s h' ⟨X, p, rfl, hX, hI, hO, g0, g1⟩
    have hgc := gc_one (h := h) (Z := X) (tN) (b := p) hX
    simp [hI, hO, g0, g1]
    simpa using hgc
end Go.AM.Try

