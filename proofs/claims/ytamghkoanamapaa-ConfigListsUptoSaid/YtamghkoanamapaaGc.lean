/- Loops over lists of intervals and of whole numbers. No condition. -/
import Derived.Test.YtamghkoanamapaaGb
import Derived.Laws.StructEq
namespace Go.AM.Try
open Go.Proofs
set_option maxRecDepth 100000
set_option linter.unusedSimpArgs false
set_option linter.unusedVariables false
attribute [-simp] Bool.decide_and Bool.decide_or
set_option pp.deepTerms false
set_option pp.maxSteps 1500

theorem good115 : fnB Try.prog 115 = true := by kernel_rfl
theorem c115 {a : Option Addr} {n c : Nat} {xs : List Int} {h : AH} (S : Sl tN h a n c xs) (hn : n ≤ 4611686018427387904) {f : FuncId} (p : Int → Bool) (hf : ∀ x ∈ xs, callP Try.prog f [.int .i64 x] h = some (.bool (p x), h)) :
    callP Try.prog 115 [.slice a n c, .func (.func f) #[] #[]] h = some (.int .i64 (fstI p xs), h) := by
  refine call_of good115 Try.func115 rfl rfl ?_
  have hl := S.len
  subst hl
  simp
  refine W_loop_up xs.length (fun i s h' => h' = h ∧ s 8 = .int .i64 i ∧ s 7 = .int .i64 xs.length ∧ s 0 = .slice a xs.length c ∧ s 1 = .func (.func f) #[] #[] ∧ ∀ (j : Nat) (hj : j < xs.length), j < i → p xs[j] = false) ?_ ?_ 0 _ _ (Nat.zero_le _) (by simp)
  · rintro i s h' hi ⟨rfl, h8, h7, h0, h1, hb⟩
    have hx := hf (xs[i]'(by omega)) (List.getElem_mem _)
    simp [*, S.index Try.underlying23 (j := i) (Int.natCast_nonneg _) (by omega), S.load (j := i) (by omega)]
    refine caseQ_intro (fun hp => ?_) (fun hp => ?_)
    · simp [*]
      exact (fstI_at (by omega) hp hb).symm
    · simp [*]
      refine ⟨wrap_id (by omega) (by omega), fun j hj hji => ?_⟩
      rcases Nat.lt_or_ge j i with g | g
      · exact hb j hj g
      · have : j = i := by omega
        subst this
        simpa using hp
  · rintro s h' ⟨rfl, h8, h7, h0, h1, hb⟩
    simp [*]
    exact (fstI_none fun j hj => hb j hj (by omega)).symm

theorem good111 : fnB Try.prog 111 = true := by kernel_rfl
theorem c111 {a : Option Addr} {n c : Nat} {xs : List (Int × Int)} {h : AH} (S : Sl tI h a n c xs) (hn : n ≤ 4611686018427387904) {f : FuncId} (p : (Int × Int) → Bool) (hf : ∀ x ∈ xs, callP Try.prog f [(.agg #[.int .i64 (x).1, .int .i64 (x).2])] h = some (.bool (p x), h)) :
    callP Try.prog 111 [.slice a n c, .func (.func f) #[] #[]] h = some (.int .i64 (fstI p xs), h) := by
  refine call_of good111 Try.func111 rfl rfl ?_
  have hl := S.len
  subst hl
  simp
  refine W_loop_up xs.length (fun i s h' => h' = h ∧ s 8 = .int .i64 i ∧ s 7 = .int .i64 xs.length ∧ s 0 = .slice a xs.length c ∧ s 1 = .func (.func f) #[] #[] ∧ ∀ (j : Nat) (hj : j < xs.length), j < i → p xs[j] = false) ?_ ?_ 0 _ _ (Nat.zero_le _) (by simp)
  · rintro i s h' hi ⟨rfl, h8, h7, h0, h1, hb⟩
    have hx := hf (xs[i]'(by omega)) (List.getElem_mem _)
    simp [*, S.index Try.underlying26 (j := i) (Int.natCast_nonneg _) (by omega), S.load (j := i) (by omega)]
    refine caseQ_intro (fun hp => ?_) (fun hp => ?_)
    · simp [*]
      exact (fstI_at (by omega) hp hb).symm
    · simp [*]
      refine ⟨wrap_id (by omega) (by omega), fun j hj hji => ?_⟩
      rcases Nat.lt_or_ge j i with g | g
      · exact hb j hj g
      · have : j = i := by omega
        subst this
        simpa using hp
  · rintro s h' ⟨rfl, h8, h7, h0, h1, hb⟩
    simp [*]
    exact (fstI_none fun j hj => hb j hj (by omega)).symm

theorem good94 : fnB Try.prog 94 = true := by kernel_rfl
theorem c94 {a : Option Addr} {n c : Nat} {xs : List Int} {h : AH} (S : Sl tN h a n c xs) (hn : n ≤ 4611686018427387904) {f : FuncId} (p : Int → Bool) (hf : ∀ x ∈ xs, callP Try.prog f [.int .i64 x] h = some (.bool (p x), h)) :
    callP Try.prog 94 [.slice a n c, .func (.func f) #[] #[]] h = some (.bool (xs.any p), h) := by
  refine call_of good94 Try.func94 rfl rfl ?_
  simp [c115 S hn p hf]
  rw [Bool.eq_iff_iff, decide_eq_true_iff]
  exact fstI_nonneg

theorem good86 : fnB Try.prog 86 = true := by kernel_rfl
theorem c86 {a : Option Addr} {n c : Nat} {xs : List (Int × Int)} {h : AH} (S : Sl tI h a n c xs) (hn : n ≤ 4611686018427387904) {f : FuncId} (p : (Int × Int) → Bool) (hf : ∀ x ∈ xs, callP Try.prog f [(.agg #[.int .i64 (x).1, .int .i64 (x).2])] h = some (.bool (p x), h)) :
    callP Try.prog 86 [.slice a n c, .func (.func f) #[] #[]] h = some (.bool (xs.any p), h) := by
  refine call_of good86 Try.func86 rfl rfl ?_
  simp [c111 S hn p hf]
  rw [Bool.eq_iff_iff, decide_eq_true_iff]
  exact fstI_nonneg

theorem eqI (x y : Int × Int) (w : World) : (Op.equal 37 (.agg #[.int .i64 x.1, .int .i64 x.2]) (.agg #[.int .i64 y.1, .int .i64 y.2])).run Try.prog w = .ok (decide (x = y)) w := by
  have ht : Try.prog.underlying 37 = some (.struct (Try.prog.fieldsOf 37)) := by kernel_rfl
  have hp : Try.prog.stoodInHeld 37 = false := by kernel_rfl
  show (Op.equalIn (9999 + 1) 37 _ _).run Try.prog w = _
  rw [run_equalIn_struct w 9999 37 _ _ ht hp]
  simp [Program.fieldsOf, Op.eqFields]
  have e : ∀ (a b : Int) (w : World), (Op.equalIn 9999 2 (.int .i64 a) (.int .i64 b)).run Try.prog w = .ok (a == b) w := fun a b w => run_equalIn_int w 9998 2 .i64 .i64 a b Try.underlying2
  have p : ∀ (a b : Int) (w : World), (part 2 #[.int .i64 a, .int .i64 b] 0).run Try.prog w = .ok (.int .i64 a) w ∧ (part 2 #[.int .i64 a, .int .i64 b] 1).run Try.prog w = .ok (.int .i64 b) w := by
    intro a b w
    constructor <;> kernel_rfl
  simp only [(p _ _ _).1, (p _ _ _).2, Result.andThen_ok, e]
  obtain ⟨x1, x2⟩ := x
  obtain ⟨y1, y2⟩ := y
  by_cases h1 : x1 = y1 <;> by_cases h2 : x2 = y2 <;> simp [h1, h2]
theorem binI {op : BinOp} (hop : op = .eql ∨ op = .neq) {x y : Int × Int} : binA Try.prog op 37 (.agg #[.int .i64 (x).1, .int .i64 (x).2]) (.agg #[.int .i64 (y).1, .int .i64 (y).2]) = some (.bool (eqRes op (decide (x = y)))) := by
  unfold binA
  simp only []
  rw [if_pos hop, if_pos ⟨by simp, by simp⟩]
  refine still_pure ?_
  have hg : Try.prog.eqGuardType Try.prog.depth 37 = false := by kernel_rfl
  rcases hop with rfl | rfl <;> simp [eqGuard, hg, eqI]
theorem binI_neq {x y : Int × Int} : binA Try.prog .neq 37 (.agg #[.int .i64 (x).1, .int .i64 (x).2]) (.agg #[.int .i64 (y).1, .int .i64 (y).2]) = some (.bool (!decide (x = y))) := binI (.inr rfl)
theorem binI_eql {x y : Int × Int} : binA Try.prog .eql 37 (.agg #[.int .i64 (x).1, .int .i64 (x).2]) (.agg #[.int .i64 (y).1, .int .i64 (y).2]) = some (.bool (decide (x = y))) := binI (.inl rfl)
attribute [simp] binI_neq binI_eql

theorem good57 : fnB Try.prog 57 = true := by kernel_rfl
theorem c57 {a b : Option Addr} {n c m d : Nat} {xs : List (Int × Int)} {ys : List (Int × Int)} {h : AH} (S : Sl tI h a n c xs) (S2 : Sl tI h b m d ys) (hn : n ≤ 4611686018427387904) {f : FuncId} (p : (Int × Int) → (Int × Int) → Bool) (hf : ∀ x ∈ xs, ∀ y ∈ ys, callP Try.prog f [(.agg #[.int .i64 (x).1, .int .i64 (x).2]), (.agg #[.int .i64 (y).1, .int .i64 (y).2])] h = some (.bool (p x y), h)) :
    callP Try.prog 57 [.slice a n c, .slice b m d, .func (.func f) #[] #[]] h = some (.bool (allB p xs ys), h) := by
  refine call_of good57 Try.func57 rfl rfl ?_
  have hl := S.len
  subst hl
  have hl2 := S2.len
  subst hl2
  simp
  by_cases hlen : xs.length = ys.length
  · refine W_loop_up xs.length (fun i s h' => h' = h ∧ s 7 = .int .i64 i ∧ s 0 = .slice a xs.length c ∧ s 1 = .slice b ys.length d ∧ s 2 = .func (.func f) #[] #[] ∧ ∀ (j : Nat) (hj : j < xs.length), j < i → p xs[j] (ys[j]'(hlen ▸ hj)) = true) ?_ ?_ 0 _ _ (Nat.zero_le _) (by simp)
    · rintro i s h' hi ⟨rfl, h7, h0, h1, h2, hb⟩
      have hi' : i < ys.length := hlen ▸ hi
      have hx := hf (xs[i]'(by omega)) (List.getElem_mem _) (ys[i]'(by omega)) (List.getElem_mem _)
      have hii : (i : Int) < (ys.length : Int) := by omega
      simp [h7, h0, h1, h2, hx, hlen, hi, hi', S.index Try.underlying26 (j := i) (Int.natCast_nonneg _) (by omega), S.load (j := i) (by omega), hlen ▸ S.index Try.underlying26 (j := i) (Int.natCast_nonneg _) (by omega), S2.index Try.underlying26 (j := i) (Int.natCast_nonneg _) (by omega), S2.load (j := i) (by omega)]
      refine caseQ_intro (fun hp => ?_) (fun hp => ?_)
      · simp [*]
        refine ⟨wrap_id (by omega) (by omega), fun j hj hji => ?_⟩
        rcases Nat.lt_or_ge j i with g | g
        · exact hb j (by omega) g
        · have : j = i := by omega
          subst this
          exact hp
      · simp [*]
        exact allB_false hlen (by omega) (by simpa using hp)
    · rintro s h' ⟨rfl, h7, h0, h1, h2, hb⟩
      simp [h7, h0, h1, h2, hlen]
      exact allB_true hlen fun j hj => hb j hj hj
  · have hli : ¬ ((xs.length : Int) = ys.length) := by omega
    rw [W_loop]
    simp [hli]
    exact allB_ne hlen

theorem good55 : fnB Try.prog 55 = true := by kernel_rfl
theorem c55 {a b : Option Addr} {n c m d : Nat} {xs : List (Int × Int)} {ys : List Int} {h : AH} (S : Sl tI h a n c xs) (S2 : Sl tN h b m d ys) (hn : n ≤ 4611686018427387904) {f : FuncId} (p : (Int × Int) → Int → Bool) (hf : ∀ x ∈ xs, ∀ y ∈ ys, callP Try.prog f [(.agg #[.int .i64 (x).1, .int .i64 (x).2]), .int .i64 y] h = some (.bool (p x y), h)) :
    callP Try.prog 55 [.slice a n c, .slice b m d, .func (.func f) #[] #[]] h = some (.bool (allB p xs ys), h) := by
  refine call_of good55 Try.func55 rfl rfl ?_
  have hl := S.len
  subst hl
  have hl2 := S2.len
  subst hl2
  simp
  by_cases hlen : xs.length = ys.length
  · refine W_loop_up xs.length (fun i s h' => h' = h ∧ s 7 = .int .i64 i ∧ s 0 = .slice a xs.length c ∧ s 1 = .slice b ys.length d ∧ s 2 = .func (.func f) #[] #[] ∧ ∀ (j : Nat) (hj : j < xs.length), j < i → p xs[j] (ys[j]'(hlen ▸ hj)) = true) ?_ ?_ 0 _ _ (Nat.zero_le _) (by simp)
    · rintro i s h' hi ⟨rfl, h7, h0, h1, h2, hb⟩
      have hi' : i < ys.length := hlen ▸ hi
      have hx := hf (xs[i]'(by omega)) (List.getElem_mem _) (ys[i]'(by omega)) (List.getElem_mem _)
      have hii : (i : Int) < (ys.length : Int) := by omega
      simp [h7, h0, h1, h2, hx, hlen, hi, hi', S.index Try.underlying26 (j := i) (Int.natCast_nonneg _) (by omega), S.load (j := i) (by omega), hlen ▸ S.index Try.underlying26 (j := i) (Int.natCast_nonneg _) (by omega), S2.index Try.underlying23 (j := i) (Int.natCast_nonneg _) (by omega), S2.load (j := i) (by omega)]
      refine caseQ_intro (fun hp => ?_) (fun hp => ?_)
      · simp [*]
        refine ⟨wrap_id (by omega) (by omega), fun j hj hji => ?_⟩
        rcases Nat.lt_or_ge j i with g | g
        · exact hb j (by omega) g
        · have : j = i := by omega
          subst this
          exact hp
      · simp [*]
        exact allB_false hlen (by omega) (by simpa using hp)
    · rintro s h' ⟨rfl, h7, h0, h1, h2, hb⟩
      simp [h7, h0, h1, h2, hlen]
      exact allB_true hlen fun j hj => hb j hj hj
  · have hli : ¬ ((xs.length : Int) = ys.length) := by omega
    rw [W_loop]
    simp [hli]
    exact allB_ne hlen

theorem good20 : fnB Try.prog 20 = true := by kernel_rfl
theorem c20 {a b : Option Addr} {n c m d : Nat} {xs ys : List (Int × Int)} {h : AH} (S : Sl tI h a n c xs) (S2 : Sl tI h b m d ys) (hn : n ≤ 4611686018427387904) :
    callP Try.prog 20 [.slice a n c, .slice b m d] h = some (.bool (decide (xs = ys)), h) := by
  refine call_of good20 Try.func20 rfl rfl ?_
  have hl := S.len
  subst hl
  have hl2 := S2.len
  subst hl2
  simp
  refine caseQ_intro (fun hq => ?_) (fun hq => ?_)
  · have hlen : xs.length = ys.length := by omega
    simp [hlen]
    refine W_loop_up xs.length (fun i s h' => h' = h ∧ s 5 = .int .i64 i ∧ s 0 = .slice a xs.length c ∧ s 1 = .slice b ys.length d ∧ ∀ (j : Nat) (hj : j < xs.length), j < i → xs[j] = ys[j]'(hlen ▸ hj)) ?_ ?_ 0 _ _ (Nat.zero_le _) (by simp [hlen])
    · rintro i s h' hi ⟨rfl, h5, h0, h1, hb⟩
      have hi' : i < ys.length := hlen ▸ hi
      simp [h5, h0, h1, hlen, hi, hi', S.load (j := i) (by omega), hlen ▸ S.index Try.underlying26 (j := i) (Int.natCast_nonneg _) (by omega), S2.index Try.underlying26 (j := i) (Int.natCast_nonneg _) (by omega), S2.load (j := i) (by omega)]
      refine caseQ_intro (fun hp => ?_) (fun hp => ?_)
      · simp [*]
        refine ⟨wrap_id (by omega) (by omega), fun j hj hji => ?_⟩
        rcases Nat.lt_or_ge j i with g | g
        · exact hb j (by omega) g
        · have : j = i := by omega
          subst this
          exact hp
      · simp [*]
        rintro rfl
        exact hp rfl
    · rintro s h' ⟨rfl, h5, h0, h1, hb⟩
      simp [h5, h0, h1, hlen]
      exact List.ext_getElem hlen fun j hj _ => hb j hj hj
  · simp [hq]
    rintro rfl
    exact hq rfl

theorem good26 : fnB Try.prog 26 = true := by kernel_rfl
theorem c26 {a b : Option Addr} {n c m d : Nat} {xs ys : List Int} {h : AH} (S : Sl tN h a n c xs) (S2 : Sl tN h b m d ys) (hn : n ≤ 4611686018427387904) :
    callP Try.prog 26 [.slice a n c, .slice b m d] h = some (.bool (decide (xs = ys)), h) := by
  refine call_of good26 Try.func26 rfl rfl ?_
  have hl := S.len
  subst hl
  have hl2 := S2.len
  subst hl2
  simp
  refine caseQ_intro (fun hq => ?_) (fun hq => ?_)
  · have hlen : xs.length = ys.length := by omega
    simp [hlen]
    refine W_loop_up xs.length (fun i s h' => h' = h ∧ s 5 = .int .i64 i ∧ s 0 = .slice a xs.length c ∧ s 1 = .slice b ys.length d ∧ ∀ (j : Nat) (hj : j < xs.length), j < i → xs[j] = ys[j]'(hlen ▸ hj)) ?_ ?_ 0 _ _ (Nat.zero_le _) (by simp [hlen])
    · rintro i s h' hi ⟨rfl, h5, h0, h1, hb⟩
      have hi' : i < ys.length := hlen ▸ hi
      simp [h5, h0, h1, hlen, hi, hi', S.load (j := i) (by omega), hlen ▸ S.index Try.underlying23 (j := i) (Int.natCast_nonneg _) (by omega), S2.index Try.underlying23 (j := i) (Int.natCast_nonneg _) (by omega), S2.load (j := i) (by omega)]
      refine caseQ_intro (fun hp => ?_) (fun hp => ?_)
      · simp [*]
        refine ⟨wrap_id (by omega) (by omega), fun j hj hji => ?_⟩
        rcases Nat.lt_or_ge j i with g | g
        · exact hb j (by omega) g
        · have : j = i := by omega
          subst this
          exact hp
      · simp [*]
        rintro rfl
        exact hp rfl
    · rintro s h' ⟨rfl, h5, h0, h1, hb⟩
      simp [h5, h0, h1, hlen]
      exact List.ext_getElem hlen fun j hj _ => hb j hj hj
  · simp [hq]
    rintro rfl
    exact hq rfl

end Go.AM.Try

