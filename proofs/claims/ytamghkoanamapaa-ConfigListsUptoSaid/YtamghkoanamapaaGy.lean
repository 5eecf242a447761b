/- The functions of boxes, program and reference. No condition. -/
import Derived.Test.YtamghkoanamapaaGx
namespace Go.AM.Try
open Go.Proofs
set_option maxRecDepth 100000
set_option linter.unusedSimpArgs false
set_option linter.unusedVariables false
attribute [-simp] Bool.decide_and Bool.decide_or
theorem good67 : fnB Try.prog 67 = true := by kernel_rfl
theorem good69 : fnB Try.prog 69 = true := by kernel_rfl
theorem good70 : fnB Try.prog 70 = true := by kernel_rfl
theorem good101 : fnB Try.prog 101 = true := by kernel_rfl

theorem good100 : fnB Try.prog 100 = true := by kernel_rfl
theorem c100 {x y : Int × Int} {h : AH} : callP Try.prog 100 [(.agg #[.int .i64 (x).1, .int .i64 (x).2]), (.agg #[.int .i64 (y).1, .int .i64 (y).2])] h = some (.tuple #[(.agg #[.int .i64 ((mt x y)).1, .int .i64 ((mt x y)).2]), .bool (decide (met x y))], h) := by
  refine call_of good100 Try.func100 rfl rfl ?_
  simp [c80]
  repeat' (refine caseQ_intro (fun hp => ?_) (fun hp => ?_) <;> simp [c80, *])
  all_goals (unfold mt met; grind [Vld])
theorem good99 : fnB Try.prog 99 = true := by kernel_rfl
theorem c99 {x : Int × Int} {h : AH} : callP Try.prog 99 [(.agg #[.int .i64 (x).1, .int .i64 (x).2])] h = some ((.int .i64 (mid x)), h) := by
  refine call_of good99 Try.func99 rfl rfl ?_
  by_cases hv : Vld x
  · obtain ⟨v1, v2, v3⟩ := hv
    have hv : Vld x := ⟨v1, v2, v3⟩
    have w : IntKind.i64.wrap (x.1 + x.2) = x.1 + x.2 := wrap_id (by omega) (by omega)
    have e := fun H => c84 (h := H) (x := x.1 + x.2) (D := 2) (by decide) (by omega)
    simp [c80, hv, w, e, mid]
  · simp [c80, hv, mid]

theorem good68 : fnB Try.prog 68 = true := by kernel_rfl
theorem c68 {h : AH} {a b : Option Addr} {n c d : Nat} {xs ys : List (Int × Int)} (S : Sl tI h a n c xs) (S2 : Sl tI h b n d ys) (hn : n ≤ 4611686018427387904) (hv : vlB xs = true) (hv2 : vlB ys = true) :
    callP Try.prog 68 [.slice a n c, .slice b n d] h = some (.bool (allN (fun i => decide (met (xs.getD i (0, 0)) (ys.getD i (0, 0)))) (n)), h) := by
  refine call_of good68 Try.func68 rfl rfl ?_
  have hl := S.len; have hl2 := S2.len
  generalize hQQ : (fun i => decide (met (xs.getD i (0, 0)) (ys.getD i (0, 0)))) = q
  simp [c41' S hn, c41' S2 hn, hv, hv2]
  refine W_loop_up (n) (fun i s h' => (∃ X, h' = h ++ X) ∧ s 5 = .int .i64 i ∧ s 0 = .slice a n c ∧ s 1 = .slice b n d ∧ allN q i = true) ?_ ?_ 0 _ _ (Nat.zero_le _) ⟨⟨[], by simp⟩, by simp [allN]⟩
  · rintro i s h' hi ⟨⟨X, rfl⟩, hI, g0, g1, hb⟩
    have hii : (i : Int) < ((n : Nat) : Int) := by omega
    have w1 : IntKind.i64.wrap ((i : Int) + 1) = i + 1 := wrap_id (by omega) (by omega)
    have hq : q i = (decide (met (xs[i]'(by omega)) (ys[i]'(by omega)))) := by rw [← hQQ]; simp [hi, show i < xs.length by omega, show i < ys.length by omega]
    cases hp : (decide (met (xs[i]'(by omega)) (ys[i]'(by omega)))) with
    | true =>
      simp [hI, g0, g1, hi, hii, w1, S.index Try.underlying26 (j := i) (Int.natCast_nonneg _) (by omega), fun g => (S.app g).load (j := i) (by omega), S2.index Try.underlying26 (j := i) (Int.natCast_nonneg _) (by omega), fun g => (S2.app g).load (j := i) (by omega), c100, hp]
      refine ⟨.inr (by kernel_rfl), ?_⟩
      exact allN_true hb (hq.trans hp)
    | false =>
      simp [hI, g0, g1, hi, hii, w1, S.index Try.underlying26 (j := i) (Int.natCast_nonneg _) (by omega), fun g => (S.app g).load (j := i) (by omega), S2.index Try.underlying26 (j := i) (Int.natCast_nonneg _) (by omega), fun g => (S2.app g).load (j := i) (by omega), c100, hp]
      refine ⟨.inr (by kernel_rfl), ?_⟩
      exact allN_false hi (hq.trans hp)
  · rintro s h' ⟨⟨X, rfl⟩, hI, g0, g1, hb⟩
    simp [hI, g0, g1]
    exact hb
theorem c68' {h : AH} {a b : Option Addr} {n c m d : Nat} {xs ys : List (Int × Int)} (S : Sl tI h a n c xs) (S2 : Sl tI h b m d ys) (hn : n ≤ 4611686018427387904) (hm : m ≤ 4611686018427387904) :
    callP Try.prog 68 [.slice a n c, .slice b m d] h = some (.bool (vlB xs && vlB ys && allB (fun x y => decide (met x y)) xs ys), h) := by
  by_cases hv : vlB xs = true
  · by_cases hv2 : vlB ys = true
    · by_cases hlen : xs.length = ys.length
      · have hmn : m = n := by rw [S.len, S2.len, hlen]
        subst hmn
        rw [c68 S S2 hn hv hv2, hv, hv2, Bool.true_and, Bool.true_and, ← allN_zip (p := fun x y => decide (met x y)) (d := (0, 0)) (e := (0, 0)) hlen S.len]
      · rw [allB_ne hlen, Bool.and_false]
        refine call_of good68 Try.func68 rfl rfl ?_
        have hl := S.len
        subst hl
        have hl2 := S2.len
        subst hl2
        simp [c41' S hn, c41' S2 hm, hv, hv2, show ¬ ((xs.length : Int) = ys.length) by omega]
    · refine call_of good68 Try.func68 rfl rfl ?_
      simp [c41' S hn, c41' S2 hm, hv, hv2]
  · refine call_of good68 Try.func68 rfl rfl ?_
    simp [c41' S hn, hv]

theorem c67 {h : AH} {a : Option Addr} {n c : Nat} {xs : List (Int × Int)} {k : Int} (S : Sl tI h a n c xs) (hn : n ≤ 8796093022208) :
    callP Try.prog 67 [.slice a n c, .int .i64 k] h = some (if HalfOK xs k then (.tuple #[.slice (some ⟨h.length, 0, none⟩) n n, .slice (some ⟨h.length + 1, 0, none⟩) n n, .bool true], h ++ [.cells (tI.flat (lowH xs k.toNat)) 37 false, .cells (tI.flat (highH xs k.toNat)) 37 false])
      else (.tuple #[.slice none 0 0, .slice none 0 0, .bool false], h)) := by
  refine call_of good67 Try.func67 rfl rfl ?_
  have hl := S.len
  subst hl
  by_cases hv : vlB xs = true
  · by_cases h0 : k < 0
    · have hno : ¬ HalfOK xs k := fun q => by have := q.2.1; omega
      simp [c41' S (by omega), hv, h0, hno]
    · by_cases h1 : (xs.length : Int) ≤ k
      · have hno : ¬ HalfOK xs k := fun q => by have := q.2.2.1; omega
        simp [c41' S (by omega), hv, h0, h1, hno]
      · obtain ⟨j, rfl⟩ : ∃ j : Nat, k = j := ⟨k.toNat, by omega⟩
        have hj : j < xs.length := by omega
        obtain ⟨ab, ao, rfl⟩ := S.some_ (by omega)
        obtain ⟨-, C, e, ro, hC, hCc⟩ := S.row
        have gJ : ∀ G, (h ++ G)[ab]? = some (.cells C e ro) := fun G => by rw [List.getElem?_append_left (List.getElem?_eq_some_iff.1 hC).1]; exact hC
        have f0 := hCc j hj 0 (by decide)
        have f1 := hCc j hj 1 (by decide)
        have hx := S.index Try.underlying26 (j := j) (kk := .i64) (Int.natCast_nonneg _) (by omega)
        have hld := S.load hj
        have hvj := vlB_iff.1 hv xs[j] (List.getElem_mem _)
        have hgd : xs.getD j (0, 0) = xs[j] := by simp [hj]
        have ww : IntKind.i64.wrap (xs[j].2 - xs[j].1) = xs[j].2 - xs[j].1 := by unfold Vld at hvj; exact wrap_id (by omega) (by omega)
        simp [elemPtr_some] at hx f0 f1 hld hC
        by_cases h2 : 2 ≤ xs[j].2 - xs[j].1
        · have hok : HalfOK xs j := ⟨hv, by omega, by omega, by rw [Int.toNat_natCast, hgd]; exact h2⟩
          have ap := fun G => append_new (s := none) tI Try.underlying26 (xt := 26) Try.underlying26 elem37 rfl (fun _ q => by cases q) (S.app G) (by decide) (show xs.length * 16 ≤ 140737488355328 by omega)
          have st1 := store_F (ft := 2) tI (h := h) (g := [.cells (tI.flat xs) 37 false, .cells (tI.flat xs) 37 false]) (b := 0) (j := j) (f := 1) (y := (xs[j].1, mid xs[j])) (v := .int .i64 (mid xs[j])) sz2 rfl rfl rfl hj (by decide) rfl
          have st2 := store_F (ft := 2) tI (h := h) (g := [.cells (tI.flat (xs.set j (xs[j].1, mid xs[j]))) 37 false, .cells (tI.flat xs) 37 false]) (b := 1) (j := j) (f := 0) (y := (mid xs[j], xs[j].2)) (v := .int .i64 (mid xs[j])) sz2 rfl rfl rfl hj (by decide) rfl
          have hgc := gc_TTB (h := h) (Z := [.cells (tI.flat (xs.set j (xs[j].1, mid xs[j]))) 37 false, .cells (tI.flat (xs.set j (mid xs[j], xs[j].2))) 37 false]) (v := true) (n1 := xs.length) (n2 := xs.length) (c1 := xs.length) (c2 := xs.length) tI tI (b1 := 0) (b2 := 1) rfl (by decide) rfl
          have ix := fun b => index_at (i := b) (o := 0) (n := xs.length) (c := xs.length) Try.underlying26 sz37 (j := j) (kk := .i64) (Int.natCast_nonneg _) (by omega)
          have ap0 := ap []
          rw [List.append_nil] at ap0
          have hld' : ∀ G, loadA Try.prog (h ++ G) 37 (.pointer (some ⟨ab, ao + j * 2, none⟩)) = some (.agg #[.int .i64 xs[j].1, .int .i64 xs[j].2]) := fun G => (S.app G).load hj
          have hne : xs ≠ [] := fun q => by rw [q] at hj; simp at hj
          simp [elemPtr_some] at ix
          simp [-store_at, hne] at ap ap0 st1 st2
          simp only [Nat.add_zero] at hgc
          have hld0 : loadA Try.prog h 37 (.pointer (some ⟨ab, ao + j * 2, none⟩)) = some (.agg #[.int .i64 xs[j].1, .int .i64 xs[j].2]) := S.load hj
          have l0 : loadA Try.prog h 2 (.pointer (some ⟨ab, ao + j * 2, none⟩)) = some (.int .i64 xs[j].1) := by simp [hC, f0]
          have l1 : loadA Try.prog h 2 (.pointer (some ⟨ab, ao + j * 2 + 1, none⟩)) = some (.int .i64 xs[j].2) := by simp [hC, f1]
          simp [-store_at, -load_ptr, c41' S (by omega), hv, h0, h1, hj, hok, hx, hld', hld0, l0, l1, ww, show ¬ xs[j].2 - xs[j].1 < 2 by omega, ap, ap0, st1, st2, c99, ix, lowH, highH]
          exact hgc
        · have hno : ¬ HalfOK xs j := fun q => by have := q.2.2.2; rw [Int.toNat_natCast, hgd] at this; exact h2 this
          have l0 : loadA Try.prog h 2 (.pointer (some ⟨ab, ao + j * 2, none⟩)) = some (.int .i64 xs[j].1) := by simp [hC, f0]
          have l1 : loadA Try.prog h 2 (.pointer (some ⟨ab, ao + j * 2 + 1, none⟩)) = some (.int .i64 xs[j].2) := by simp [hC, f1]
          simp [-load_ptr, c41' S (by omega), hv, h0, h1, hj, hno, hx, l0, l1, ww, show xs[j].2 - xs[j].1 < 2 by omega]
  · have hno : ¬ HalfOK xs k := fun q => hv q.1
    simp [c41' S (by omega), hv, hno]

theorem c101 {h : AH} {ja a : Option Addr} {jn jc n c : Nat} {ms : Value} {xs : List (Int × Int)} (S : Sl tI h a n c xs) (hn : n ≤ 4611686018427387904) :
    callP Try.prog 101 [.agg #[.slice ja jn jc, ms], .slice a n c] h = some (.bool (decide (n = jn) && vlB xs), h) := by
  refine call_of good101 Try.func101 rfl rfl ?_
  have e := fun G => c41' (S.app G) hn
  by_cases q : n = jn
  · subst q
    simp [e]
  · have q' : ¬ ((n : Int) = jn) := by omega
    simp [e, q, q']

/-- The widest interval so far: where, and how wide by weight. -/
def wdS (i : Nat) (x w : Int) (st : Int × Int) : Int × Int := if 2 ≤ x ∧ st.2 < x * w then ((i : Int), x * w) else st
def wdN (js : List Jt) (xs : List (Int × Int)) : Nat → Int × Int
  | 0 => (-1, 0)
  | k + 1 => wdS k ((xs.getD k (0, 0)).2 - (xs.getD k (0, 0)).1) (js.getD k ⟨.empty, 0, 0, 0, 0, 0, 0, 0, 0, 0, 0, 0⟩).weight (wdN js xs k)
def wdF (js : List Jt) (ms : List Ms) (xs : List (Int × Int)) : Int := if robE js ms = 0 ∧ vlB xs = true ∧ xs.length = js.length then (wdN js xs xs.length).1 else -1

set_option maxHeartbeats 1600000 in
theorem c69 {h : AH} {ja ma a : Option Addr} {jn jc mn mc n c : Nat} {js : List Jt} {ms : List Ms} {xs : List (Int × Int)} (SJ : Sl tJ h ja jn jc js) (SM : Sl tM h ma mn mc ms) (S : Sl tI h a n c xs) (hjn : jn ≤ 140737488351232) (hmn : mn ≤ 140737488351232) (hn : n ≤ 140737488351232) (hz : ∀ j ∈ js, j.name.size ≤ 9223372036854775807) :
    callP Try.prog 69 [.agg #[.slice ja jn jc, .slice ma mn mc], .slice a n c] h = some (.int .i64 (wdF js ms xs), h) := by
  refine call_of good69 Try.func69 rfl rfl ?_
  have hjl := SJ.len
  have hl := S.len
  have e0 := fun G => c64 (SJ.app G) (SM.app G) hjn hmn hz
  have e1 := fun G => c51 (S.app G) (by omega)
  by_cases hD : robE js ms = 0 ∧ vlB xs = true ∧ xs.length = js.length
  · have hd : wdF js ms xs = (wdN js xs xs.length).1 := if_pos hD
    obtain ⟨h1, h2, h3⟩ := hD
    have hten := (robE_ok h1).1
    have hmn' : n = jn := by omega
    subst hmn'
    rw [hd]
    simp [e0, e1, h1, h2]
    obtain ⟨jb, jo, rfl⟩ := SJ.some_ (by omega)
    obtain ⟨-, C, e, ro, hC, hCc⟩ := SJ.row
    have gJ : ∀ G, (h ++ G)[jb]? = some (.cells C e ro) := fun G => by rw [List.getElem?_append_left (List.getElem?_eq_some_iff.1 hC).1]; exact hC
    refine W_loop_up n (fun i s h' => (∃ X, h' = h ++ .cells [.slice (some ⟨jb, jo, none⟩) n jc, .slice ma mn mc] 42 false :: X) ∧ s 28 = .int .i64 i ∧ s 27 = .int .i64 n ∧ s 26 = .slice a n c ∧ s 2 = .pointer (some ⟨h.length, 0, none⟩) ∧ s 5 = .int .i64 (wdN js xs i).1 ∧ s 6 = .int .i64 (wdN js xs i).2) ?_ ?_ 0 _ _ (Nat.zero_le _) ⟨⟨[], rfl⟩, by simp [wdN]⟩
    · rintro i s h' hi ⟨⟨X, rfl⟩, g1, g2, g3, g4, g5, g6⟩
      have hij : i < js.length := by omega
      have hix : i < xs.length := by omega
      have hii : (i : Int) < n := by omega
      have w1 : IntKind.i64.wrap ((i : Int) + 1) = i + 1 := wrap_id (by omega) (by omega)
      have hv := vlB_iff.1 h2 xs[i] (List.getElem_mem _)
      have hw := (cjF_ok ((robE_ok h1).2 i hij)).2.2.1
      have hwi : wid xs[i] = xs[i].2 - xs[i].1 := if_pos hv
      have hst : wdN js xs (i + 1) = wdS i (xs[i].2 - xs[i].1) js[i].weight (wdN js xs i) := by simp [wdN, hij, hix]
      rw [hst]
      generalize wdN js xs i = st at *
      obtain ⟨best, most⟩ := st
      have ix := SJ.index Try.underlying39 (j := i) (kk := .i64) (Int.natCast_nonneg _) (by omega)
      have lw := hCc i hij 8 (by decide)
      have ix1 := S.index Try.underlying26 (j := i) (kk := .i64) (Int.natCast_nonneg _) (by omega)
      have ld1 := fun G => (S.app G).load hix
      simp [jtC, elemPtr_some] at ix lw
      simp at ix1 ld1

      obtain ⟨v1, v2, v3⟩ := hv
      have wx : IntKind.i64.wrap (xs[i].2 - xs[i].1) = xs[i].2 - xs[i].1 := wrap_id (by omega) (by omega)
      generalize hx : xs[i].2 - xs[i].1 = x at *
      generalize js[i].weight = w at *
      have hb := mul_bd (i := w) (d := x) (A := 1024) (B := 4294967296) (by omega) hw.2 (by omega) (by omega)
      have w2 : IntKind.i64.wrap (x * w) = x * w := by rw [Int.mul_comm]; exact wrap_id (by omega) (by omega)
      unfold wdS
      dsimp only at *
      by_cases a1 : 2 ≤ x
      · by_cases a2 : most < x * w
        · simp [g1, g2, g3, g4, g5, g6, hi, hii, w1, ix, gJ, lw, ix1, ld1, c59, hwi, hx, wx, w2, a1, a2]
        · simp [g1, g2, g3, g4, g5, g6, hi, hii, w1, ix, gJ, lw, ix1, ld1, c59, hwi, hx, wx, w2, a1, a2]
      · simp [g1, g2, g3, g4, g5, g6, hi, hii, w1, ix, gJ, lw, ix1, ld1, c59, hwi, hx, wx, w2, a1]
    · rintro s h' ⟨⟨X, rfl⟩, g1, g2, g3, g4, g5, g6⟩
      simp [g1, g2, g3, g4, g5, g6, hl]
  · have hd : wdF js ms xs = -1 := if_neg hD
    rw [hd]
    by_cases h1 : robE js ms = 0
    · by_cases h2 : vlB xs = true
      · have h3 : ¬ ((n : Int) = jn) := fun g => hD ⟨h1, h2, by omega⟩
        have h4 : ¬ n = jn := by omega
        simp [e0, e1, h1, h2, h3, h4]
      · have h2' : vlB xs = false := by simpa using h2
        simp [e0, e1, h1, h2']
    · simp [e0, e1, h1]

set_option maxHeartbeats 1600000 in
theorem c70 {h : AH} {ja ma a : Option Addr} {jn jc mn mc n c : Nat} {js : List Jt} {ms : List Ms} {xs : List (Int × Int)} (SJ : Sl tJ h ja jn jc js) (SM : Sl tM h ma mn mc ms) (S : Sl tI h a n c xs) (hjn : jn ≤ 140737488351232) (hmn : mn ≤ 140737488351232) (hn : n ≤ 140737488351232) (hz : ∀ j ∈ js, j.name.size ≤ 9223372036854775807) :
    callP Try.prog 70 [.agg #[.slice ja jn jc, .slice ma mn mc], .slice a n c] h = some (.int .i64 (wdF js ms xs), h) := by
  refine call_of good70 Try.func70 rfl rfl ?_
  have hjl := SJ.len
  have hl := S.len
  have e0 := fun G => c66 (SJ.app G) (SM.app G) hjn hmn hz
  have e1 := fun G => c101 (ja := ja) (jn := jn) (jc := jc) (ms := .slice ma mn mc) (S.app G) (by omega)
  by_cases hD : robE js ms = 0 ∧ vlB xs = true ∧ xs.length = js.length
  · have hd : wdF js ms xs = (wdN js xs xs.length).1 := if_pos hD
    obtain ⟨h1, h2, h3⟩ := hD
    have hten := (robE_ok h1).1
    have hmn' : n = jn := by omega
    subst hmn'
    rw [hd]
    simp [e0, e1, h1, h2]
    obtain ⟨jb, jo, rfl⟩ := SJ.some_ (by omega)
    obtain ⟨-, C, e, ro, hC, hCc⟩ := SJ.row
    have gJ : ∀ G, (h ++ G)[jb]? = some (.cells C e ro) := fun G => by rw [List.getElem?_append_left (List.getElem?_eq_some_iff.1 hC).1]; exact hC
    refine W_loop_up n (fun i s h' => (∃ X, h' = h ++ .cells [.slice (some ⟨jb, jo, none⟩) n jc, .slice ma mn mc] 42 false :: X) ∧ s 7 = .int .i64 i ∧ s 1 = .slice a n c ∧ s 2 = .pointer (some ⟨h.length, 0, none⟩) ∧ s 5 = .int .i64 (wdN js xs i).1 ∧ s 6 = .int .i64 (wdN js xs i).2) ?_ ?_ 0 _ _ (Nat.zero_le _) ⟨⟨[], rfl⟩, by simp [wdN]⟩
    · rintro i s h' hi ⟨⟨X, rfl⟩, g1, g2, g4, g5, g6⟩
      have hij : i < js.length := by omega
      have hix : i < xs.length := by omega
      have hii : (i : Int) < n := by omega
      have w1 : IntKind.i64.wrap ((i : Int) + 1) = i + 1 := wrap_id (by omega) (by omega)
      have hv := vlB_iff.1 h2 xs[i] (List.getElem_mem _)
      have hw := (cjF_ok ((robE_ok h1).2 i hij)).2.2.1
      have hwi : wid xs[i] = xs[i].2 - xs[i].1 := if_pos hv
      have hst : wdN js xs (i + 1) = wdS i (xs[i].2 - xs[i].1) js[i].weight (wdN js xs i) := by simp [wdN, hij, hix]
      rw [hst]
      generalize wdN js xs i = st at *
      obtain ⟨best, most⟩ := st
      have ix := SJ.index Try.underlying39 (j := i) (kk := .i64) (Int.natCast_nonneg _) (by omega)
      have lw := hCc i hij 8 (by decide)
      have ix1 := S.index Try.underlying26 (j := i) (kk := .i64) (Int.natCast_nonneg _) (by omega)
      have ld1 := fun G => (S.app G).load hix
      simp [jtC, elemPtr_some] at ix lw
      simp at ix1 ld1
      obtain ⟨ab, ao, rfl⟩ := S.some_ (by omega)
      obtain ⟨-, C', e', ro', hC', hCc'⟩ := S.row
      have gI : ∀ G, (h ++ G)[ab]? = some (.cells C' e' ro') := fun G => by rw [List.getElem?_append_left (List.getElem?_eq_some_iff.1 hC').1]; exact hC'
      have f0 := hCc' i hix 0 (by decide)
      have f1 := hCc' i hix 1 (by decide)
      simp [elemPtr_some] at ix1 f0 f1
      obtain ⟨v1, v2, v3⟩ := hv
      have wx : IntKind.i64.wrap (xs[i].2 - xs[i].1) = xs[i].2 - xs[i].1 := wrap_id (by omega) (by omega)
      generalize hx : xs[i].2 - xs[i].1 = x at *
      generalize js[i].weight = w at *
      have hb := mul_bd (i := w) (d := x) (A := 1024) (B := 4294967296) (by omega) hw.2 (by omega) (by omega)
      have w2 : IntKind.i64.wrap (x * w) = x * w := by rw [Int.mul_comm]; exact wrap_id (by omega) (by omega)
      unfold wdS
      dsimp only at *
      by_cases a1 : 2 ≤ x
      · by_cases a2 : most < x * w
        · simp [g1, g2, g4, g5, g6, hi, hii, w1, ix, gJ, lw, ix1, ld1, c59, hwi, hx, wx, w2, a1, a2, f0, f1, gI]
        · simp [g1, g2, g4, g5, g6, hi, hii, w1, ix, gJ, lw, ix1, ld1, c59, hwi, hx, wx, w2, a1, a2, f0, f1, gI]
      · simp [g1, g2, g4, g5, g6, hi, hii, w1, ix, gJ, lw, ix1, ld1, c59, hwi, hx, wx, w2, a1, f0, f1, gI]
    · rintro s h' ⟨⟨X, rfl⟩, g1, g2, g4, g5, g6⟩
      simp [g1, g2, g4, g5, g6, hl]
  · have hd : wdF js ms xs = -1 := if_neg hD
    rw [hd]
    by_cases h1 : robE js ms = 0
    · by_cases h2 : vlB xs = true
      · have h3 : ¬ ((n : Int) = jn) := fun g => hD ⟨h1, h2, by omega⟩
        have h4 : ¬ n = jn := by omega
        simp [e0, e1, h1, h2, h3, h4]
      · have h2' : vlB xs = false := by simpa using h2
        simp [e0, e1, h1, h2']
    · simp [e0, e1, h1]
end Go.AM.Try

