/- The errors of robots. No condition. -/
import Derived.Test.YtamghkoanamapaaGt
namespace Go.AM.Try
open Go.Proofs
set_option maxRecDepth 100000
set_option linter.unusedSimpArgs false
set_option linter.unusedVariables false
attribute [-simp] Bool.decide_and Bool.decide_or
theorem good64 : fnB Try.prog 64 = true := by kernel_rfl
theorem good66 : fnB Try.prog 66 = true := by kernel_rfl

def nmdP (before : List Jt) (j : Jt) : Prop := nmB j.name = true ∧ before.any (fun x => decide (x.name = j.name)) = false
instance (before : List Jt) (j : Jt) : Decidable (nmdP before j) := by unfold nmdP; infer_instance
def limP (j : Jt) : Prop := j.lo ≤ j.hi ∧ -bndF j.kind ≤ j.lo ∧ j.hi ≤ bndF j.kind
instance (j : Jt) : Decidable (limP j) := by unfold limP; infer_instance
def cstP (j : Jt) : Prop := (1 ≤ j.weight ∧ j.weight ≤ 1024) ∧ (1 ≤ j.speed ∧ j.speed ≤ 1048576) ∧ (1 ≤ j.accel ∧ j.accel ≤ 1048576) ∧ (1 ≤ j.torque ∧ j.torque ≤ 1099511627776)
instance (j : Jt) : Decidable (cstP j) := by unfold cstP; infer_instance
/-- The first error of a joint behind others. -/
def cjF (before : List Jt) (j : Jt) : Int :=
  if ¬ nmdP before j then 802 else if j.kind < 0 ∨ 6 < j.kind then 803 else if j.parent < -1 ∨ (before.length : Int) ≤ j.parent then 804 else if lngP j.ox j.oy j.oz then 805 else if ¬ limP j then 806 else if ¬ cstP j then 807 else 0

set_option maxHeartbeats 3200000 in
theorem c91 {h : AH} {a : Option Addr} {n c : Nat} {xs : List Jt} {j : Jt} (S : Sl tJ h a n c xs) (hn : n ≤ 140737488351232) (hz : j.name.size ≤ 9223372036854775807) :
    callP Try.prog 91 [.slice a n c, tJ.v j] h = some (.int .i64 (cjF xs j), h) := by
  refine call_of good91 Try.func91 rfl rfl ?_
  have hl := S.len
  have e1 := fun G => c114 (nm := j.name) (S.app G) (by omega)
  have hb := bndF_bd j.kind
  have wb : IntKind.i64.wrap (-bndF j.kind) = -bndF j.kind := wrap_id (by omega) (by omega)
  have e2 := fun H => c113 (h := H) hz
  by_cases q1 : nmB j.name = true
  · have hf : (0 ≤ fstI (fun x : Jt => decide (x.name = j.name)) xs) ↔ _ := fstI_nonneg
    by_cases q2 : xs.any (fun x => decide (x.name = j.name)) = true
    · have hq : ¬ nmdP xs j := fun q => by rw [q.2] at q2; cases q2
      simp [jtC, e1, e2, q1, hf.2 q2, cjF, hq, c112]
    · have hq : nmdP xs j := ⟨q1, by simpa using q2⟩
      have hf' : ¬ 0 ≤ fstI (fun x : Jt => decide (x.name = j.name)) xs := fun q => q2 (hf.1 q)
      by_cases k1 : j.kind < 0
      · simp [jtC, e1, e2, q1, hf', cjF, hq, c112, k1]
      · by_cases k2 : 6 < j.kind
        · simp [jtC, e1, e2, q1, hf', cjF, hq, c112, k1, k2]
        · by_cases p1 : j.parent < -1
          · simp [jtC, e1, e2, q1, hf', cjF, hq, c112, k1, k2, p1]
          · by_cases p2 : (n : Int) ≤ j.parent
            · simp [jtC, e1, e2, q1, hf', cjF, hq, c112, k1, k2, p1, p2, ← hl]
            · by_cases l1 : lngP j.ox j.oy j.oz
              · simp [jtC, e1, e2, q1, hf', cjF, hq, c112, k1, k2, p1, p2, ← hl, c93, l1]
              · by_cases m1 : j.hi < j.lo
                · have hm : ¬ limP j := fun q => by have := q.1; omega
                  simp [jtC, e1, e2, q1, hf', cjF, hq, c112, k1, k2, p1, p2, ← hl, c93, l1, m1, hm]
                · by_cases m2 : j.lo < -bndF j.kind
                  · have hm : ¬ limP j := fun q => by have := q.2.1; omega
                    simp [jtC, e1, e2, q1, hf', cjF, hq, c112, k1, k2, p1, p2, ← hl, c93, l1, m1, m2, hm, wb]
                  · by_cases m3 : bndF j.kind < j.hi
                    · have hm : ¬ limP j := fun q => by have := q.2.2; omega
                      simp [jtC, e1, e2, q1, hf', cjF, hq, c112, k1, k2, p1, p2, ← hl, c93, l1, m1, m2, m3, hm, wb]
                    · have hm : limP j := ⟨by omega, by omega, by omega⟩
                      obtain ⟨b1, h1⟩ : ∃ b, decide (1 ≤ j.weight ∧ j.weight ≤ 1024) = b := ⟨_, rfl⟩
                      obtain ⟨b2, h2⟩ : ∃ b, decide (1 ≤ j.speed ∧ j.speed ≤ 1048576) = b := ⟨_, rfl⟩
                      obtain ⟨b3, h3⟩ : ∃ b, decide (1 ≤ j.accel ∧ j.accel ≤ 1048576) = b := ⟨_, rfl⟩
                      obtain ⟨b4, h4⟩ : ∃ b, decide (1 ≤ j.torque ∧ j.torque ≤ 1099511627776) = b := ⟨_, rfl⟩
                      have hc : decide (cstP j) = (b1 && (b2 && (b3 && b4))) := by
                        rw [← h1, ← h2, ← h3, ← h4, Bool.eq_iff_iff]
                        simp only [decide_eq_true_iff, Bool.and_eq_true]
                        exact Iff.rfl
                      cases b1 with
                      | false =>
                        have hc' : ¬ cstP j := of_decide_eq_false hc
                        simp [jtC, e1, e2, q1, hf', cjF, hq, c112, k1, k2, p1, p2, ← hl, c93, l1, m1, m2, m3, hm, wb, c92, h1, hc']
                      | true =>
                        cases b2 with
                        | false =>
                          have hc' : ¬ cstP j := of_decide_eq_false hc
                          simp [jtC, e1, e2, q1, hf', cjF, hq, c112, k1, k2, p1, p2, ← hl, c93, l1, m1, m2, m3, hm, wb, c92, h1, h2, hc']
                        | true =>
                          cases b3 with
                          | false =>
                            have hc' : ¬ cstP j := of_decide_eq_false hc
                            simp [jtC, e1, e2, q1, hf', cjF, hq, c112, k1, k2, p1, p2, ← hl, c93, l1, m1, m2, m3, hm, wb, c92, h1, h2, h3, hc']
                          | true =>
                            cases b4 with
                            | false =>
                              have hc' : ¬ cstP j := of_decide_eq_false hc
                              simp [jtC, e1, e2, q1, hf', cjF, hq, c112, k1, k2, p1, p2, ← hl, c93, l1, m1, m2, m3, hm, wb, c92, h1, h2, h3, h4, hc']
                            | true =>
                              have hc' : cstP j := of_decide_eq_true hc
                              simp [jtC, e1, e2, q1, hf', cjF, hq, c112, k1, k2, p1, p2, ← hl, c93, l1, m1, m2, m3, hm, wb, c92, h1, h2, h3, h4, hc']
  · have hq : ¬ nmdP xs j := fun q => q1 q.1
    simp [jtC, e1, e2, q1, cjF, hq, c112]

set_option maxHeartbeats 3200000 in
theorem c96 {h : AH} {a : Option Addr} {n c i : Nat} {xs : List Jt} (S : Sl tJ h a n c xs) (hn : n ≤ 140737488351232) (hi : i < xs.length) (hz : xs[i].name.size ≤ 9223372036854775807) :
    callP Try.prog 96 [.slice a n c, .int .i64 (i : Int)] h = some (.int .i64 (cjF (xs.take i) xs[i]), h) := by
  refine call_of good96 Try.func96 rfl rfl ?_
  have hl := S.len
  have htl : (xs.take i).length = i := by simp; omega
  have htl1 : min i n = i := by omega
  have htl2 : min i xs.length = i := by omega
  have hx := S.index Try.underlying39 (j := i) (kk := .i64) (Int.natCast_nonneg _) (by omega)
  simp at hx
  have hld := S.load hi
  have e2 := fun H => c116 (h := H) hz
  generalize hj : xs[i] = j at *
  have hb := bndF_bd j.kind
  have wb : IntKind.i64.wrap (-bndF j.kind) = -bndF j.kind := wrap_id (by omega) (by omega)
  by_cases q1 : nmB j.name = true
  · simp [jtC] at hld
    simp [jtC, hx, hld, e2, q1]
    obtain ⟨jb, jo, rfl⟩ := S.some_ (by omega)
    obtain ⟨-, C, e, ro, hC, hCc⟩ := S.row
    have hC0 : ∀ G, (h ++ G)[jb]? = some (.cells C e ro) := fun G => by rw [List.getElem?_append_left (List.getElem?_eq_some_iff.1 hC).1]; exact hC
    refine W_loop_up i (fun k s h' => h' = h ++ [.cells (jtC j) 76 false] ∧ s 6 = .int .i64 k ∧ s 5 = .pointer (some ⟨h.length, 0, none⟩) ∧ s 1 = .int .i64 i ∧ s 0 = .slice (some ⟨jb, jo, none⟩) n c ∧ ∀ (m : Nat) (hm : m < xs.length), m < k → xs[m].name ≠ j.name) ?_ ?_ 0 _ _ (Nat.zero_le _) (by simp [jtC])
    · rintro k s h' hk ⟨rfl, h6, h5, h1', h0, hbb⟩
      have w1 : IntKind.i64.wrap ((k : Int) + 1) = k + 1 := wrap_id (by omega) (by omega)
      have hk' : k < xs.length := by omega
      have hx2 := S.index Try.underlying39 (j := k) (kk := .i64) (Int.natCast_nonneg _) (by omega)
      simp [elemPtr_some] at hx2
      have hc0 := hCc k hk' 0 (by decide)
      simp [jtC] at hc0
      by_cases e : xs[k].name = j.name
      · have hq : ¬ nmdP (xs.take i) j := fun q => by
          have := List.any_eq_false.1 q.2 xs[k] (by rw [List.mem_take_iff_getElem]; exact ⟨k, by omega, rfl⟩)
          exact this (decide_eq_true e)
        simp [h6, h5, h1', h0, hk, hx2, hC0, hc0, jtC, e, cjF, hq]
      · simp [h6, h5, h1', h0, hk, hx2, hC0, hc0, jtC, e, w1]
        intro m hm hmk
        by_cases e2 : m = k
        · subst e2; exact e
        · exact hbb m hm (by omega)
    · rintro s h' ⟨rfl, h6, h5, h1', h0, hbb⟩
      have hq : nmdP (xs.take i) j := by
        refine ⟨q1, ?_⟩
        rw [List.any_eq_false]
        intro x hx q
        rw [List.mem_take_iff_getElem] at hx
        obtain ⟨m, hm, rfl⟩ := hx
        exact hbb m (by omega) (by omega) (of_decide_eq_true q)
      have hcell : ∀ G, (h ++ .cells (jtC j) 76 false :: G)[h.length]? = some (.cells (jtC j) 76 false) := fun G => by rw [get_at]; rfl
      by_cases k1 : j.kind < 0
      · simp [h6, h5, h1', hcell, jtC, cjF, hq, c117, k1]
      · by_cases k2 : 6 < j.kind
        · simp [h6, h5, h1', hcell, jtC, cjF, hq, c117, k1, k2]
        · by_cases p1 : j.parent < -1
          · simp [h6, h5, h1', hcell, jtC, cjF, hq, c117, k1, k2, p1]
          · by_cases p2 : (i : Int) ≤ j.parent
            · simp [h6, h5, h1', hcell, jtC, cjF, hq, c117, k1, k2, p1, p2, htl, htl1, htl2]
            · by_cases l1 : lngP j.ox j.oy j.oz
              · simp [h6, h5, h1', hcell, jtC, cjF, hq, c117, k1, k2, p1, p2, htl, htl1, htl2, c98, l1]
              · by_cases m1 : j.hi < j.lo
                · have hm : ¬ limP j := fun q => by have := q.1; omega
                  simp [h6, h5, h1', hcell, jtC, cjF, hq, c117, k1, k2, p1, p2, htl, htl1, htl2, c98, l1, m1, hm]
                · by_cases m2 : j.lo < -bndF j.kind
                  · have hm : ¬ limP j := fun q => by have := q.2.1; omega
                    simp [h6, h5, h1', hcell, jtC, cjF, hq, c117, k1, k2, p1, p2, htl, htl1, htl2, c98, l1, m1, m2, hm, wb]
                  · by_cases m3 : bndF j.kind < j.hi
                    · have hm : ¬ limP j := fun q => by have := q.2.2; omega
                      simp [h6, h5, h1', hcell, jtC, cjF, hq, c117, k1, k2, p1, p2, htl, htl1, htl2, c98, l1, m1, m2, m3, hm, wb]
                    · have hm : limP j := ⟨by omega, by omega, by omega⟩
                      obtain ⟨b1, h1⟩ : ∃ b, decide (1 ≤ j.weight ∧ j.weight ≤ 1024) = b := ⟨_, rfl⟩
                      obtain ⟨b2, h2⟩ : ∃ b, decide (1 ≤ j.speed ∧ j.speed ≤ 1048576) = b := ⟨_, rfl⟩
                      obtain ⟨b3, h3⟩ : ∃ b, decide (1 ≤ j.accel ∧ j.accel ≤ 1048576) = b := ⟨_, rfl⟩
                      obtain ⟨b4, h4⟩ : ∃ b, decide (1 ≤ j.torque ∧ j.torque ≤ 1099511627776) = b := ⟨_, rfl⟩
                      have hc : decide (cstP j) = (b1 && (b2 && (b3 && b4))) := by
                        rw [← h1, ← h2, ← h3, ← h4, Bool.eq_iff_iff]
                        simp only [decide_eq_true_iff, Bool.and_eq_true]
                        exact Iff.rfl
                      cases b1 with
                      | false =>
                        have hc' : ¬ cstP j := of_decide_eq_false hc
                        simp [h6, h5, h1', hcell, jtC, cjF, hq, c117, k1, k2, p1, p2, htl, htl1, htl2, c98, l1, m1, m2, m3, hm, wb, c97, h1, hc']
                      | true =>
                        cases b2 with
                        | false =>
                          have hc' : ¬ cstP j := of_decide_eq_false hc
                          simp [h6, h5, h1', hcell, jtC, cjF, hq, c117, k1, k2, p1, p2, htl, htl1, htl2, c98, l1, m1, m2, m3, hm, wb, c97, h1, h2, hc']
                        | true =>
                          cases b3 with
                          | false =>
                            have hc' : ¬ cstP j := of_decide_eq_false hc
                            simp [h6, h5, h1', hcell, jtC, cjF, hq, c117, k1, k2, p1, p2, htl, htl1, htl2, c98, l1, m1, m2, m3, hm, wb, c97, h1, h2, h3, hc']
                          | true =>
                            cases b4 with
                            | false =>
                              have hc' : ¬ cstP j := of_decide_eq_false hc
                              simp [h6, h5, h1', hcell, jtC, cjF, hq, c117, k1, k2, p1, p2, htl, htl1, htl2, c98, l1, m1, m2, m3, hm, wb, c97, h1, h2, h3, h4, hc']
                            | true =>
                              have hc' : cstP j := of_decide_eq_true hc
                              simp [h6, h5, h1', hcell, jtC, cjF, hq, c117, k1, k2, p1, p2, htl, htl1, htl2, c98, l1, m1, m2, m3, hm, wb, c97, h1, h2, h3, h4, hc']
  · have hq : ¬ nmdP (xs.take i) j := fun q => q1 q.1
    simp [jtC] at hld
    simp [jtC, hx, hld, e2, q1, cjF, hq]

/-- The first error of the joints from place i on. -/
def jsE (js : List Jt) (n : Nat) : Int := ((List.range n).map fun i => cjF (js.take i) (js.getD i ⟨.empty, 0, 0, 0, 0, 0, 0, 0, 0, 0, 0, 0⟩)).find? (fun e => decide (e ≠ 0)) |>.getD 0
def msP (n : Nat) (x : Ms) : Prop := 0 ≤ x.link ∧ x.link < n ∧ (1 ≤ x.mass ∧ x.mass ≤ 65536) ∧ ¬ lngP x.px x.py x.pz
instance (n : Nat) (x : Ms) : Decidable (msP n x) := by unfold msP; infer_instance
/-- The first error of a robot. -/
def robE (js : List Jt) (ms : List Ms) : Int :=
  if js.length < 1 ∨ 10 < js.length then 801 else if jsE js js.length ≠ 0 then jsE js js.length else if 32 < ms.length then 808 else if ms.all (fun x => decide (msP js.length x)) then 0 else 808
theorem jsE_zero {js : List Jt} : jsE js 0 = 0 := rfl
theorem jsE_succ {js : List Jt} {k : Nat} (hk : k < js.length) (h0 : jsE js k = 0) : jsE js (k + 1) = cjF (js.take k) js[k] := by
  unfold jsE at *
  rw [List.range_succ, List.map_append, List.find?_append]
  generalize hL : ((List.range k).map fun i => cjF (js.take i) (js.getD i ⟨.empty, 0, 0, 0, 0, 0, 0, 0, 0, 0, 0, 0⟩)).find? (fun e => decide (e ≠ 0)) = o at *
  have ho : o = none := by
    cases o with
    | none => rfl
    | some e =>
      have := List.find?_some hL
      simp at h0 this
      exact absurd h0 this
  subst ho
  by_cases e : cjF (js.take k) js[k] = 0 <;> simp [hk, e]
theorem jsE_stay {js : List Jt} {k n : Nat} (hkn : k ≤ n) (h0 : jsE js k ≠ 0) : jsE js n = jsE js k := by
  unfold jsE at *
  obtain ⟨d, rfl⟩ : ∃ d, n = k + d := ⟨n - k, by omega⟩
  rw [List.range_add, List.map_append, List.find?_append]
  generalize ((List.range k).map fun i => cjF (js.take i) (js.getD i ⟨.empty, 0, 0, 0, 0, 0, 0, 0, 0, 0, 0, 0⟩)).find? (fun e => decide (e ≠ 0)) = o at *
  cases o with
  | none => simp at h0
  | some e => rfl

theorem slice_to {P : Program} {t e : TypeId} {α : Type} {T : Ty P e α} {h : AH} {a : Option Addr} {n c i : Nat} {xs : List α} (S : Sl T h a n c xs) (hu : P.underlying t = some (.slice e)) (hi : i ≤ n) (hn : n ≠ 0) {kk : IntKind} :
    sliceA P h t (.slice a n c) none (some (.int kk (i : Int))) none = some (.slice a i c) ∧ Sl T h a i c (xs.take i) := by
  have hl := S.len
  have hc := S.cap
  obtain ⟨b, o, rfl⟩ := S.some_ (by omega)
  obtain ⟨-, C, e', ro, h2, h3, h4⟩ := S.at_ _ rfl
  constructor
  · have hf : fits h b e = true := by
      simp only [fits, h2]
      rcases h4 with h4 | h4 <;> simp [h4]
    simp [sliceA, hu, boundA, T.size, hf, show i ≤ c by omega, show ¬ c < i by omega, show ¬ c = 0 by omega]
  · refine ⟨by simp; omega, by omega, (fun q => by cases q), fun b' hb' => ?_⟩
    cases hb'
    refine ⟨rfl, C, e', ro, h2, ?_, h4⟩
    have : (C.drop o).take (i * T.k) = ((C.drop o).take (n * T.k)).take (i * T.k) := by
      rw [List.take_take, Nat.min_eq_left (Nat.mul_le_mul_right _ hi)]
    rw [this, h3, flat_take]

set_option maxHeartbeats 1600000 in
theorem c64 {h : AH} {ja ma : Option Addr} {jn jc mn mc : Nat} {js : List Jt} {ms : List Ms} (SJ : Sl tJ h ja jn jc js) (SM : Sl tM h ma mn mc ms) (hjn : jn ≤ 140737488351232) (hmn : mn ≤ 140737488351232) (hz : ∀ j ∈ js, j.name.size ≤ 9223372036854775807) :
    callP Try.prog 64 [.agg #[.slice ja jn jc, .slice ma mn mc]] h = some (.int .i64 (robE js ms), h) := by
  refine call_of good64 Try.func64 rfl rfl ?_
  have hjl := SJ.len
  have hml := SM.len
  by_cases c1 : (jn : Int) < 1
  · have : robE js ms = 801 := if_pos (by omega)
    simp [c1, this]
  by_cases c2 : 10 < (jn : Int)
  · have : robE js ms = 801 := if_pos (by omega)
    simp [c1, c2, this]
  have hR : robE js ms = if jsE js js.length ≠ 0 then jsE js js.length else if 32 < ms.length then 808 else if ms.all (fun x => decide (msP js.length x)) then 0 else 808 := if_neg (by omega)
  simp [c1, c2]
  refine W_loop_up jn (fun i s h' => (∃ X, h' = h ++ .cells [.slice ja jn jc, .slice ma mn mc] 42 false :: X) ∧ s 21 = .int .i64 i ∧ s 20 = .int .i64 jn ∧ s 19 = .slice ja jn jc ∧ s 1 = .pointer (some ⟨h.length, 0, none⟩) ∧ jsE js i = 0) ?_ ?_ 0 _ _ (Nat.zero_le _) ⟨⟨[], rfl⟩, by simp [jsE_zero]⟩
  · rintro i s h' hi ⟨⟨X, rfl⟩, g1, g2, g3, g4, hz0⟩
    have hij : i < js.length := by omega
    have hii : (i : Int) < jn := by omega
    have w1 : IntKind.i64.wrap ((i : Int) + 1) = i + 1 := wrap_id (by omega) (by omega)
    have hs := jsE_succ hij hz0
    have ix := SJ.index Try.underlying39 (j := i) (kk := .i64) (Int.natCast_nonneg _) (by omega)
    have ld := fun G => (SJ.app G).load hij
    simp [jtC] at ix ld
    have sl := fun G => slice_to (SJ.app G) Try.underlying39 (i := i) (kk := .i64) (by omega) (by omega)
    have sl1 := fun G => (sl G).1
    have cl := fun G => c91 (sl G).2 (by omega) (hz js[i] (List.getElem_mem _))
    simp [jtC] at cl
    by_cases e : cjF (js.take i) js[i] = 0
    · rw [e] at hs
      simp [g1, g2, g3, g4, hi, hii, w1, cl, e, hs, ix, ld, sl1]
    · have hst := jsE_stay (js := js) (k := i + 1) (n := js.length) (by omega) (by rw [hs]; exact e)
      rw [if_pos (by rw [hst, hs]; exact e), hst, hs] at hR
      simp [g1, g2, g3, g4, hi, hii, w1, cl, e, hR, ix, ld, sl1]
  · rintro s h' ⟨⟨X, rfl⟩, g1, g2, g3, g4, hz0⟩
    rw [show jn = js.length from hjl] at hz0
    rw [if_neg (by rw [hz0]; simp)] at hR
    by_cases c3 : 32 < (mn : Int)
    · have : robE js ms = 808 := by rw [hR, if_pos (by omega)]
      simp [g1, g2, g3, g4, c3, this]
    rw [if_neg (by omega)] at hR
    simp [g1, g2, g3, g4, c3]
    refine W_loop_up mn (fun i s h' => (∃ X, h' = h ++ .cells [.slice ja jn jc, .slice ma mn mc] 42 false :: X) ∧ s 43 = .int .i64 i ∧ s 42 = .int .i64 mn ∧ s 41 = .slice ma mn mc ∧ s 1 = .pointer (some ⟨h.length, 0, none⟩) ∧ ∀ (k : Nat) (hk : k < ms.length), k < i → msP js.length ms[k]) ?_ ?_ 0 _ _ (Nat.zero_le _) ⟨⟨X, rfl⟩, by simp [g4]⟩
    · clear g1 g2 g3 g4 s X
      rintro i s h' hi ⟨⟨X, rfl⟩, g1, g2, g3, g4, hb⟩
      have him : i < ms.length := by omega
      have hii : (i : Int) < mn := by omega
      have w1 : IntKind.i64.wrap ((i : Int) + 1) = i + 1 := wrap_id (by omega) (by omega)
      have mx := SM.index Try.underlying40 (j := i) (kk := .i64) (Int.natCast_nonneg _) (by omega)
      have ml := fun G => (SM.app G).load him
      simp [msC] at mx ml
      have yes : msP js.length ms[i] → ∀ (k : Nat) (hk : k < ms.length), k < i + 1 → msP js.length ms[k] := fun q k hk hki => by
        by_cases e : k = i
        · subst e; exact q
        · exact hb k hk (by omega)
      have no : ¬ msP js.length ms[i] → robE js ms = 808 := fun q => by
        rw [hR, if_neg]
        intro g
        exact q (of_decide_eq_true (List.all_eq_true.1 g _ (List.getElem_mem _)))
      generalize ms[i] = x at *
      by_cases a1 : x.link < 0
      · simp [g1, g2, g3, g4, hi, hii, w1, mx, ml, a1]
        exact (no fun q => by have := q.1; omega).symm
      by_cases a2 : (jn : Int) ≤ x.link
      · simp [g1, g2, g3, g4, hi, hii, w1, mx, ml, a1, a2]
        exact (no fun q => by have := q.2.1; omega).symm
      by_cases a3 : 1 ≤ x.mass ∧ x.mass ≤ 65536
      · by_cases a4 : lngP x.px x.py x.pz
        · simp [g1, g2, g3, g4, hi, hii, w1, mx, ml, a1, a2, a3, a4, c92, c93, c97, c98]
          exact (no fun q => q.2.2.2 a4).symm
        · simp [g1, g2, g3, g4, hi, hii, w1, mx, ml, a1, a2, a3, a4, c92, c93, c97, c98]
          exact yes ⟨by omega, by omega, a3, a4⟩
      · simp [g1, g2, g3, g4, hi, hii, w1, mx, ml, a1, a2, show decide (1 ≤ x.mass ∧ x.mass ≤ 65536) = false from decide_eq_false a3, c92, c93, c97, c98]
        exact (no fun q => a3 q.2.2.1).symm
    · clear g1 g2 g3 g4 s X
      rintro s h' ⟨⟨X, rfl⟩, g1, g2, g3, g4, hb⟩
      have : robE js ms = 0 := by
        rw [hR, if_pos]
        rw [List.all_eq_true]
        intro x hx
        obtain ⟨k, hk, rfl⟩ := List.getElem_of_mem hx
        exact decide_eq_true (hb k hk (by omega))
      simp [g1, g2, g3, g4, this]

set_option maxHeartbeats 1600000 in
theorem c66 {h : AH} {ja ma : Option Addr} {jn jc mn mc : Nat} {js : List Jt} {ms : List Ms} (SJ : Sl tJ h ja jn jc js) (SM : Sl tM h ma mn mc ms) (hjn : jn ≤ 140737488351232) (hmn : mn ≤ 140737488351232) (hz : ∀ j ∈ js, j.name.size ≤ 9223372036854775807) :
    callP Try.prog 66 [.agg #[.slice ja jn jc, .slice ma mn mc]] h = some (.int .i64 (robE js ms), h) := by
  refine call_of good66 Try.func66 rfl rfl ?_
  have hjl := SJ.len
  have hml := SM.len
  by_cases c1 : (jn : Int) < 1
  · have : robE js ms = 801 := if_pos (by omega)
    simp [c1, this]
  by_cases c2 : 10 < (jn : Int)
  · have : robE js ms = 801 := if_pos (by omega)
    simp [c1, c2, this]
  have hR : robE js ms = if jsE js js.length ≠ 0 then jsE js js.length else if 32 < ms.length then 808 else if ms.all (fun x => decide (msP js.length x)) then 0 else 808 := if_neg (by omega)
  simp [c1, c2]
  refine W_loop_up jn (fun i s h' => (∃ X, h' = h ++ .cells [.slice ja jn jc, .slice ma mn mc] 42 false :: X) ∧ s 3 = .int .i64 i ∧  s 1 = .pointer (some ⟨h.length, 0, none⟩) ∧ jsE js i = 0) ?_ ?_ 0 _ _ (Nat.zero_le _) ⟨⟨[], rfl⟩, by simp [jsE_zero]⟩
  · rintro i s h' hi ⟨⟨X, rfl⟩, g1, g4, hz0⟩
    have hij : i < js.length := by omega
    have hii : (i : Int) < jn := by omega
    have w1 : IntKind.i64.wrap ((i : Int) + 1) = i + 1 := wrap_id (by omega) (by omega)
    have hs := jsE_succ hij hz0
    have cl := fun G => c96 (SJ.app G) hjn hij (hz js[i] (List.getElem_mem _))
    by_cases e : cjF (js.take i) js[i] = 0
    · rw [e] at hs
      simp [g1, g4, hi, hii, w1, cl, e, hs]
    · have hst := jsE_stay (js := js) (k := i + 1) (n := js.length) (by omega) (by rw [hs]; exact e)
      rw [if_pos (by rw [hst, hs]; exact e), hst, hs] at hR
      simp [g1, g4, hi, hii, w1, cl, e, hR]
  · rintro s h' ⟨⟨X, rfl⟩, g1, g4, hz0⟩
    rw [show jn = js.length from hjl] at hz0
    rw [if_neg (by rw [hz0]; simp)] at hR
    by_cases c3 : 32 < (mn : Int)
    · have : robE js ms = 808 := by rw [hR, if_pos (by omega)]
      simp [g1, g4, c3, this]
    rw [if_neg (by omega)] at hR
    simp [g1, g4, c3]
    refine W_loop_up mn (fun i s h' => (∃ X, h' = h ++ .cells [.slice ja jn jc, .slice ma mn mc] 42 false :: X) ∧ s 5 = .int .i64 i ∧  s 1 = .pointer (some ⟨h.length, 0, none⟩) ∧ ∀ (k : Nat) (hk : k < ms.length), k < i → msP js.length ms[k]) ?_ ?_ 0 _ _ (Nat.zero_le _) ⟨⟨X, rfl⟩, by simp [g4]⟩
    · clear g1  g4 s X
      rintro i s h' hi ⟨⟨X, rfl⟩, g1, g4, hb⟩
      have him : i < ms.length := by omega
      have hii : (i : Int) < mn := by omega
      have w1 : IntKind.i64.wrap ((i : Int) + 1) = i + 1 := wrap_id (by omega) (by omega)
      have mx := SM.index Try.underlying40 (j := i) (kk := .i64) (Int.natCast_nonneg _) (by omega)
      have ml := fun G => (SM.app G).load him
      simp [msC] at mx ml
      have yes : msP js.length ms[i] → ∀ (k : Nat) (hk : k < ms.length), k < i + 1 → msP js.length ms[k] := fun q k hk hki => by
        by_cases e : k = i
        · subst e; exact q
        · exact hb k hk (by omega)
      have no : ¬ msP js.length ms[i] → robE js ms = 808 := fun q => by
        rw [hR, if_neg]
        intro g
        exact q (of_decide_eq_true (List.all_eq_true.1 g _ (List.getElem_mem _)))
      generalize ms[i] = x at *
      by_cases a1 : x.link < 0
      · simp [g1, g4, hi, hii, w1, mx, ml, a1]
        exact (no fun q => by have := q.1; omega).symm
      by_cases a2 : (jn : Int) ≤ x.link
      · simp [g1, g4, hi, hii, w1, mx, ml, a1, a2]
        exact (no fun q => by have := q.2.1; omega).symm
      by_cases a3 : 1 ≤ x.mass ∧ x.mass ≤ 65536
      · by_cases a4 : lngP x.px x.py x.pz
        · simp [g1, g4, hi, hii, w1, mx, ml, a1, a2, a3, a4, c92, c93, c97, c98]
          exact (no fun q => q.2.2.2 a4).symm
        · simp [g1, g4, hi, hii, w1, mx, ml, a1, a2, a3, a4, c92, c93, c97, c98]
          exact yes ⟨by omega, by omega, a3, a4⟩
      · simp [g1, g4, hi, hii, w1, mx, ml, a1, a2, show decide (1 ≤ x.mass ∧ x.mass ≤ 65536) = false from decide_eq_false a3, c92, c93, c97, c98]
        exact (no fun q => a3 q.2.2.1).symm
    · clear g1  g4 s X
      rintro s h' ⟨⟨X, rfl⟩, g1, g4, hb⟩
      have : robE js ms = 0 := by
        rw [hR, if_pos]
        rw [List.all_eq_true]
        intro x hx
        obtain ⟨k, hk, rfl⟩ := List.getElem_of_mem hx
        exact decide_eq_true (hb k hk (by omega))
      simp [g1, g4, this]
end Go.AM.Try

