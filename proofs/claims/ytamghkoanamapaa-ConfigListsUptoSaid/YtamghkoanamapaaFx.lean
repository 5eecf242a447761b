/- Appending to a row of the call's own; a slice of one element. No condition. -/
import Derived.Test.YtamghkoanamapaaFd
namespace Go.AM
open Go.RowKit
section
variable {P : Program}
/-- append(s, x...), where s fills a row of the call's own: a new row, and the old one dies. -/
theorem append_own {t xt e : TypeId} {α : Type} (T : Ty P e α) {bt : Nat} {z : Value} (hu : P.underlying t = some (.slice e)) (hx : P.underlying xt = some (.slice e)) (he : elemA P e = some (T.k, bt, z)) (hz : z.cells.size = T.k) {h g : AH} {b : Nat} {ys : List α}
    (hb : g[b]? = some (.cells (T.flat ys) e false)) (hy : ys ≠ []) {a : Option Addr} {m c : Nat} {xs : List α} (S : Sl T (h ++ g) a m c xs) (ha : a.map (·.block) ≠ some (h.length + b)) (hm : m ≠ 0) (h0 : 0 < bt) (hbt : (ys.length + m) * bt ≤ 140737488355328) :
    appendA P (h ++ g) t xt (.slice (some ⟨h.length + b, 0, none⟩) ys.length ys.length) (.slice a m c) =
      some (.slice (some ⟨h.length + g.length, 0, none⟩) (ys.length + m) (ys.length + m), h ++ (g.set b .dead ++ [.cells (T.flat (ys ++ xs)) e false])) := by
  obtain ⟨i, hi, hk, hbb, hz'⟩ := elemA_some he
  have hp := T.pos
  have hl := S.len
  have hyl : ys.length ≠ 0 := fun q => hy (List.length_eq_zero_iff.1 q)
  have hbtl : badTail P xt = false := by simp [badTail, hx]
  have hg : (h ++ g)[h.length + b]? = some (.cells (T.flat ys) e false) := by rw [get_off]; exact hb
  simp only [appendA, hu, hi, Option.bind_some]
  rw [if_neg (by rw [hk, hbb, hbtl]; simp; omega), hk, S.first, Option.bind_some, hz', Option.bind_some, if_pos ⟨flat_ones T xs, hz⟩]
  rw [if_neg (by omega), if_neg hyl]
  simp only [hg]
  rw [if_pos ⟨by simp, Nat.le_refl _, ha, trivial⟩]
  rw [set_off, List.drop_zero, List.take_of_length_le (by simp), List.length_append, flat_append, List.append_assoc]

theorem fold_set (vs : List Value) : ∀ (pre post : List Value) (off : Nat), pre.length = off → vs.length ≤ post.length →
    (vs.zipIdx.foldl (fun (cs : Array Value) (q : Value × Nat) => cs.setIfInBounds (off + q.2) q.1) (pre ++ post).toArray).toList = pre ++ vs ++ post.drop vs.length := by
  suffices h : ∀ (vs : List Value) (k : Nat) (pre post : List Value) (off : Nat), pre.length = off + k → vs.length ≤ post.length →
      ((vs.zipIdx k).foldl (fun (cs : Array Value) (q : Value × Nat) => cs.setIfInBounds (off + q.2) q.1) (pre ++ post).toArray).toList = pre ++ vs ++ post.drop vs.length by
    intro pre post off h1 h2
    exact h vs 0 pre post off (by omega) h2
  intro vs
  induction vs with
  | nil => intro k pre post off h1 h2; simp
  | cons v vs ih =>
    intro k pre post off h1 h2
    cases post with
    | nil => simp at h2
    | cons q post =>
      rw [List.zipIdx_cons, List.foldl_cons]
      have e : ((pre ++ q :: post).toArray.setIfInBounds (off + k) v) = ((pre ++ [v]) ++ post).toArray := by
        apply Array.ext'
        simp [List.set_append_right, ← h1]
      simp only [e]
      rw [ih (k + 1) (pre ++ [v]) post off (by simp; omega) (by simp at h2; omega)]
      simp

/-- []T{x}. -/
theorem build_1 {t e : TypeId} {α : Type} (T : Ty P e α) {bt : Nat} {z : Value} (hu : P.underlying t = some (.slice e)) (he : elemA P e = some (T.k, bt, z)) (hz : z.cells.size = T.k) (hk : T.k ≤ 16777216) {h : AH} {x : α} :
    buildSliceA P h t 1 [(0, T.v x)] = some (.slice (some ⟨h.length, 0, none⟩) 1 1, h ++ [.cells (T.v x).cells.toList e false]) := by
  obtain ⟨i, hi, hk', hbb, hz'⟩ := elemA_some he
  have hp := T.pos
  have hc := T.cells x
  have hl := cells_length T x
  have hm : (madeCells z.cells (1 * T.k)).size = T.k := by simp [madeCells]
  have hm1 : (madeCells z.cells T.k).size = T.k := by simp [madeCells]
  simp only [buildSliceA, hu, hi, Option.bind_some, hk']
  rw [if_pos ⟨by omega, hp⟩, hz', Option.bind_some, if_pos hz]
  simp only [Instr.fill, Nat.zero_mul]
  rw [if_neg (by simp [hc, hm1])]
  simp only [Option.map_some]
  congr 4
  have := fold_set (T.v x).cells.toList [] (madeCells z.cells (1 * T.k)).toList 0 rfl (by rw [hl]; simp [hm1])
  rw [hl] at this
  rw [List.nil_append, List.drop_of_length_le (by simp [hm1])] at this
  simp only [List.nil_append, List.append_nil] at this
  rw [← Array.foldl_toList, Array.toList_zipIdx]
  simpa using this

/-- A slice of a row that lies at a block, or nil if the list is empty. -/
def slV {α : Type} (b : Nat) (xs : List α) : Value := if xs.length = 0 then .slice none 0 0 else .slice (some ⟨b, 0, none⟩) xs.length xs.length
theorem slV_nil {α : Type} (b : Nat) : slV b ([] : List α) = .slice none 0 0 := rfl
theorem slV_pos {α : Type} {b : Nat} {xs : List α} (h : xs.length ≠ 0) : slV b xs = .slice (some ⟨b, 0, none⟩) xs.length xs.length := by simp only [slV, if_neg h]
theorem slV_Sl {t : TypeId} {α : Type} {T : Ty P t α} {h : AH} {b : Nat} {xs : List α} (hb : xs.length ≠ 0 → h[b]? = some (.cells (T.flat xs) t false)) :
    ∃ a, slV b xs = .slice a xs.length xs.length ∧ Sl T h a xs.length xs.length xs := by
  by_cases hx : xs.length = 0
  · refine ⟨none, by simp [slV, hx], ?_⟩
    have : xs = [] := List.length_eq_zero_iff.1 hx
    subst this
    exact .none_
  · refine ⟨_, slV_pos hx, rfl, Nat.le_refl _, (fun q => by cases q), fun b' hb' => ?_⟩
    cases hb'
    exact ⟨rfl, _, t, false, hb hx, by rw [List.drop_zero]; exact List.take_of_length_le (by simp), .inr rfl⟩
/-- append(s, x): s is nil, or fills a row of the call's own; x lies in the last row, by itself. -/
theorem append_1 {t e : TypeId} {α : Type} (T : Ty P e α) {bt : Nat} {z : Value} (hu : P.underlying t = some (.slice e)) (he : elemA P e = some (T.k, bt, z)) (hz : z.cells.size = T.k) {h g : AH} {b : Nat} {ys : List α} {x : α}
    (hb : ys.length ≠ 0 → g[b]? = some (.cells (T.flat ys) e false)) (h0 : 0 < bt) (hbt : (ys.length + 1) * bt ≤ 140737488355328) :
    appendA P (h ++ (g ++ [.cells (T.v x).cells.toList e false])) t t (slV (h.length + b) ys) (.slice (some ⟨h.length + g.length, 0, none⟩) 1 1) =
      some (slV (h.length + (g.length + 1)) (ys ++ [x]), h ++ ((if ys.length = 0 then g else g.set b .dead) ++ [.cells (T.v x).cells.toList e false, .cells (T.flat (ys ++ [x])) e false])) := by
  have S : Sl T (h ++ (g ++ [.cells (T.v x).cells.toList e false])) (some ⟨h.length + g.length, 0, none⟩) 1 1 [x] := by
    have := Sl.new (T := T) (h ++ g) [] [x] false
    simpa [flat_one] using this
  by_cases hy : ys.length = 0
  · have : ys = [] := List.length_eq_zero_iff.1 hy
    subst this
    have q := append_new (s := none) T hu hu he hz (fun _ q => by cases q) S h0 (by simp at hbt; omega)
    simp only [slV, List.length_nil, if_true]
    rw [q]
    simp [flat_one]
  · have hlt : b < g.length := (List.getElem?_eq_some_iff.1 (hb hy)).1
    have q := append_own (h := h) (g := g ++ [.cells (T.v x).cells.toList e false]) (b := b) (ys := ys) T hu hu he hz (by rw [List.getElem?_append_left hlt]; exact hb hy) (fun q => hy (by simp [q])) S (by simp; omega) (by decide) h0 hbt
    rw [slV_pos hy, if_neg hy, q]
    simp [slV, List.set_append_left _ _ hlt]

theorem slV_cells {α : Type} {b : Nat} {xs : List α} : (slV b xs).cells = #[slV b xs] := by unfold slV; split <;> rfl
theorem slV_one {α : Type} {b : Nat} {xs : List α} : (slV b xs).oneCell' = true := by unfold slV; split <;> rfl
/-- The same: Y stands ahead; what has become of the rest is not told. -/
theorem append_2 {t e : TypeId} {α : Type} (T : Ty P e α) {bt : Nat} {z : Value} (hu : P.underlying t = some (.slice e)) (he : elemA P e = some (T.k, bt, z)) (hz : z.cells.size = T.k) {h : AH} (Y : AH) {X : AH} {p : Nat} {ys : List α} {x : α}
    (hb : ys.length ≠ 0 → X[p]? = some (.cells (T.flat ys) e false)) (h0 : 0 < bt) (hbt : (ys.length + 1) * bt ≤ 140737488355328) :
    ∃ X' : AH, X'.length = X.length + 1 ∧ (∀ j, j < X.length → j ≠ p → X'[j]? = X[j]?) ∧ appendA P (h ++ (Y ++ (X ++ [.cells (T.v x).cells.toList e false]))) t t (slV (h.length + (p + Y.length)) ys) (.slice (some ⟨h.length + (Y ++ X).length, 0, none⟩) 1 1) =
      some (slV (h.length + (X'.length + Y.length)) (ys ++ [x]), h ++ (Y ++ (X' ++ [.cells (T.flat (ys ++ [x])) e false]))) := by
  have q := append_1 (h := h) (g := Y ++ X) (b := p + Y.length) (x := x) T hu he hz (fun hy => by rw [Nat.add_comm, get_off]; exact hb hy) h0 hbt
  refine ⟨(if ys.length = 0 then X else X.set p .dead) ++ [.cells (T.v x).cells.toList e false], by split <;> simp, fun j hj hjp => ?_, ?_⟩
  · split
    · rw [List.getElem?_append_left hj]
    · rw [List.getElem?_append_left (by simpa using hj), List.getElem?_set_ne (by omega)]
  simp only [List.append_assoc] at q
  rw [q]
  have e1 : ((if ys.length = 0 then X else X.set p .dead) ++ [Blk.cells (T.v x).cells.toList e false]).length = X.length + 1 := by split <;> simp
  rw [e1, show (Y ++ X).length + 1 = X.length + 1 + Y.length by simp; omega]
  congr 2
  by_cases hy : ys.length = 0
  · simp [hy]
  · rw [if_neg hy, if_neg hy, Nat.add_comm p, set_off]
    simp

theorem slV_af {α : Type} {b : Nat} {xs : List α} (hx : xs.length = 0) : Af (slV b xs) := by simp only [slV, if_pos hx]; exact .slice0 _ _
/-- Two rows in one struct are handed back. -/
theorem gc_two {h0 h0' Z : AH} (hs : Stable h0 (h0' ++ Z)) (hl : h0'.length = h0.length) {α β : Type} {e1 e2 : TypeId} (T1 : Ty P e1 α) (T2 : Ty P e2 β) {b1 b2 : Nat} {xs : List α} {ys : List β} (hx : xs.length ≠ 0) (h1 : Z[b1]? = some (.cells (T1.flat xs) e1 false)) (hb : b2 ≠ b1)
    (h2 : ys.length ≠ 0 → Z[b2]? = some (.cells (T2.flat ys) e2 false)) :
    gcA h0 (.agg #[slV (h0.length + b1) xs, slV (h0.length + b2) ys]) (h0' ++ Z) = (.agg #[slV h0.length xs, slV (h0.length + 1) ys], h0' ++ (.cells (T1.flat xs) e1 false :: if ys.length = 0 then [] else [.cells (T2.flat ys) e2 false])) := by
  have hC1 := flat_af T1 xs
  have hC2 := flat_af T2 ys
  have g1 : (h0' ++ Z)[h0.length + b1]? = some (.cells (T1.flat xs) e1 false) := by rw [← hl, get_off]; exact h1
  have hn : ¬ Af (.agg #[slV (h0.length + b1) xs, slV (h0.length + b2) ys]) := by
    rw [slV_pos hx]
    intro q
    cases q with | agg q => exact not_af_slice (q (.slice (some ⟨h0.length + b1, 0, none⟩) xs.length xs.length) (by simp))
  unfold gcA
  rw [if_pos hs, if_neg hn, ← hl, List.take_left']
  · rw [slV_pos hx, slV_pos hx, hl]
    by_cases hy : ys.length = 0
    · have hy' : ys = [] := List.length_eq_zero_iff.1 hy
      subst hy'
      simp [layA, partsA, partA1, leavesA, leafA, g1, slV, Af.slice0]
      rw [if_pos hC1]
      simp [hl]
    · have g2 : (h0' ++ Z)[h0.length + b2]? = some (.cells (T2.flat ys) e2 false) := by rw [← hl, get_off]; exact h2 hy
      rw [slV_pos hy, slV_pos hy]
      simp [layA, partsA, partA1, leavesA, leafA, g1, g2, hb]
      rw [if_pos hC1]
      simp only [Option.bind_some, Function.comp]
      rw [if_neg (by simpa using hb), if_pos hC2]
      have hy' : ys ≠ [] := fun q => hy (by simp [q])
      simp [hl, hy']
  · rfl

theorem gc_one {h Z : AH} {α : Type} {e : TypeId} (T : Ty P e α) {b : Nat} {xs : List α} (hb : xs.length ≠ 0 → Z[b]? = some (.cells (T.flat xs) e false)) :
    gcA h (slV (h.length + b) xs) (h ++ Z) = if xs.length = 0 then (.slice none 0 0, h) else (slV h.length xs, h ++ [.cells (T.flat xs) e false]) := by
  by_cases hx : xs.length = 0
  · rw [if_pos hx]
    simp only [slV, if_pos hx]
    exact gc_app (.slice0 _ _)
  · rw [if_neg hx, slV_pos hx, slV_pos hx]
    exact gc_T T (hb hx)

theorem splice_one {c : List Value} {o : Nat} {v : Value} (ho : o < c.length) : splice c o [v] = c.set o v := by
  rw [List.set_eq_take_append_cons_drop, if_pos ho]
  simp [splice]
theorem flat_field {e : TypeId} {α : Type} (T : Ty P e α) {xs : List α} {j f : Nat} {y : α} {v : Value} (hj : j < xs.length) (hf : f < T.k) (hy : (T.v y).cells.toList = (T.v xs[j]).cells.toList.set f v) :
    splice (T.flat xs) (j * T.k + f) [v] = T.flat (xs.set j y) := by
  have hl : j * T.k + f < (T.flat xs).length := by
    have : (j + 1) * T.k ≤ xs.length * T.k := Nat.mul_le_mul_right _ hj
    rw [Nat.add_mul, Nat.one_mul] at this
    rw [flat_length]; omega
  rw [splice_one hl, ← flat_set T xs j y hj, hy]
  apply List.ext_getElem?
  intro i
  have hc := cells_length T xs[j]
  have hd := flat_part T xs j xs[j] (List.getElem?_eq_getElem hj)
  unfold splice
  rw [List.length_set, hc, List.getElem?_set]
  have ht : ((T.flat xs).take (j * T.k)).length = j * T.k := by rw [List.length_take]; omega
  rcases Nat.lt_or_ge i (j * T.k) with g | g
  · rw [if_neg (by omega), List.append_assoc, List.getElem?_append_left (by omega), List.getElem?_take_of_lt g]
  · rw [List.append_assoc, List.getElem?_append_right (by omega), ht]
    obtain ⟨d, rfl⟩ : ∃ d, i = j * T.k + d := ⟨i - j * T.k, by omega⟩
    rw [Nat.add_sub_cancel_left]
    rcases Nat.lt_or_ge d T.k with g2 | g2
    · rw [List.getElem?_append_left (by rw [List.length_set, hc]; exact g2), List.getElem?_set]
      by_cases hdf : f = d
      · subst hdf
        rw [if_pos rfl, if_pos rfl, if_pos hl, if_pos (by omega)]
      · rw [if_neg (by omega), if_neg hdf]
        have e := congrArg (fun l => l[d]?) hd
        simp only [List.getElem?_take, g2, if_true, List.getElem?_drop] at e
        exact e
    · rw [if_neg (by omega), List.getElem?_append_right (by rw [List.length_set, hc]; exact g2), List.length_set, hc, List.getElem?_drop]
      congr 1
      omega
/-- A field of an element is written. -/
theorem store_F {e ft : TypeId} {α : Type} (T : Ty P e α) {h g : AH} {b j f : Nat} {xs : List α} {y : α} {v : Value} (hs : sizeA P ft = some 1) (hv : v.cells = #[v]) (ho : v.oneCell' = true) (hb : g[b]? = some (.cells (T.flat xs) e false)) (hj : j < xs.length) (hf : f < T.k)
    (hy : (T.v y).cells.toList = (T.v xs[j]).cells.toList.set f v) :
    storeA P (h ++ g) ft (.pointer (some ⟨h.length + b, j * T.k + f, none⟩)) v = some (h ++ g.set b (.cells (T.flat (xs.set j y)) e false)) := by
  have hg : (h ++ g)[h.length + b]? = some (.cells (T.flat xs) e false) := by rw [get_off]; exact hb
  have : (j + 1) * T.k ≤ xs.length * T.k := Nat.mul_le_mul_right _ hj
  rw [Nat.add_mul, Nat.one_mul] at this
  simp only [storeA, hs, Option.bind_some, hv, storeRow, hg]
  rw [if_pos (by rfl), if_pos ⟨by rw [flat_length]; simp; omega, by simp [ho]⟩, set_off]
  congr 4
  exact flat_field T hj hf hy
/-- copy(x, y): both of one length, x a row of the call's own. -/
theorem copy_T {t xt e : TypeId} {α : Type} (T : Ty P e α) (hu : P.underlying t = some (.slice e)) {h g : AH} {b : Nat} {ys xs : List α} (hb : g[b]? = some (.cells (T.flat ys) e false)) {a : Option Addr} {c c' n : Nat} (S : Sl T (h ++ g) a n c xs) (hl : ys.length = xs.length) (hn : n ≠ 0) :
    copyA P (h ++ g) t (.slice (some ⟨h.length + b, 0, none⟩) n c') (.slice a n c) = some (.int .i64 n, h ++ g.set b (.cells (T.flat xs) e false)) := by
  have hg : (h ++ g)[h.length + b]? = some (.cells (T.flat ys) e false) := by rw [get_off]; exact hb
  have hnl := S.len
  have hp := T.pos
  have hlen : (T.flat xs).length = n * T.k := by rw [flat_length, hnl]
  have hne : T.flat xs ≠ [] := by
    intro q
    rw [q] at hlen
    have : n * T.k ≠ 0 := Nat.mul_ne_zero hn (by omega)
    simp at hlen; omega
  simp only [copyA, hu, T.size, Option.bind_some, Nat.min_self, S.first]
  rw [if_neg hne]
  simp only [storeRow, hg]
  rw [if_pos ⟨by rw [flat_length, flat_length, hl]; omega, flat_ones T xs⟩, Option.map_some, set_off]
  congr 5
  simp [splice, hl]
/-- Two rows and a scalar are handed back. -/
theorem gc_TTB {α β : Type} {e1 e2 : TypeId} (T1 : Ty P e1 α) (T2 : Ty P e2 β) {h Z : AH} {b1 b2 n1 n2 c1 c2 : Nat} {xs : List α} {ys : List β} {v : Bool} (h1 : Z[b1]? = some (.cells (T1.flat xs) e1 false)) (hb : b2 ≠ b1) (h2 : Z[b2]? = some (.cells (T2.flat ys) e2 false)) :
    gcA h (.tuple #[.slice (some ⟨h.length + b1, 0, none⟩) n1 c1, .slice (some ⟨h.length + b2, 0, none⟩) n2 c2, .bool v]) (h ++ Z) =
      (.tuple #[.slice (some ⟨h.length, 0, none⟩) n1 c1, .slice (some ⟨h.length + 1, 0, none⟩) n2 c2, .bool v], h ++ [.cells (T1.flat xs) e1 false, .cells (T2.flat ys) e2 false]) := by
  have hC1 := flat_af T1 xs
  have hC2 := flat_af T2 ys
  have g1 : (h ++ Z)[h.length + b1]? = some (.cells (T1.flat xs) e1 false) := by rw [get_off]; exact h1
  have g2 : (h ++ Z)[h.length + b2]? = some (.cells (T2.flat ys) e2 false) := by rw [get_off]; exact h2
  unfold gcA
  rw [if_pos (.app _ _), if_neg not_af_tuple, List.take_left']
  · simp [layA, partsA, partA1, leafA, g1, g2]
    rw [if_pos hC1]
    simp only [Option.bind_some, Function.comp]
    rw [if_neg (by simpa using hb), if_pos hC2]
    simp [Af.bool]
  · rfl
/-- Two rows and two scalars are handed back. -/
theorem gc_TTII {α β : Type} {e1 e2 : TypeId} (T1 : Ty P e1 α) (T2 : Ty P e2 β) {h Z : AH} {b1 b2 n1 n2 c1 c2 : Nat} {xs : List α} {ys : List β} {v w : Int} (h1 : Z[b1]? = some (.cells (T1.flat xs) e1 false)) (hb : b2 ≠ b1) (h2 : Z[b2]? = some (.cells (T2.flat ys) e2 false)) :
    gcA h (.tuple #[.slice (some ⟨h.length + b1, 0, none⟩) n1 c1, .slice (some ⟨h.length + b2, 0, none⟩) n2 c2, .int .i64 v, .int .i64 w]) (h ++ Z) =
      (.tuple #[.slice (some ⟨h.length, 0, none⟩) n1 c1, .slice (some ⟨h.length + 1, 0, none⟩) n2 c2, .int .i64 v, .int .i64 w], h ++ [.cells (T1.flat xs) e1 false, .cells (T2.flat ys) e2 false]) := by
  have hC1 := flat_af T1 xs
  have hC2 := flat_af T2 ys
  have g1 : (h ++ Z)[h.length + b1]? = some (.cells (T1.flat xs) e1 false) := by rw [get_off]; exact h1
  have g2 : (h ++ Z)[h.length + b2]? = some (.cells (T2.flat ys) e2 false) := by rw [get_off]; exact h2
  unfold gcA
  rw [if_pos (.app _ _), if_neg not_af_tuple, List.take_left']
  · simp [layA, partsA, partA1, leafA, g1, g2]
    rw [if_pos hC1]
    simp only [Option.bind_some, Function.comp]
    rw [if_neg (by simpa using hb), if_pos hC2]
    simp [Af.int]
  · rfl

/-- A row, if the list is not empty. -/
def rowH {t : TypeId} {α : Type} (T : Ty P t α) (xs : List α) : AH := if xs.length = 0 then [] else [.cells (T.flat xs) t false]
theorem rowH_nil {t : TypeId} {α : Type} {T : Ty P t α} {xs : List α} (h : xs.length = 0) : rowH T xs = [] := if_pos h
theorem rowH_pos {t : TypeId} {α : Type} {T : Ty P t α} {xs : List α} (h : xs.length ≠ 0) : rowH T xs = [.cells (T.flat xs) t false] := if_neg h
/-- What a slice that may be nil reads as. -/
theorem row_sl {t : TypeId} {α : Type} (T : Ty P t α) {xs : List α} {h X : AH} : ∃ a, slV h.length xs = .slice a xs.length xs.length ∧ Sl T (h ++ (rowH T xs ++ X)) a xs.length xs.length xs :=
  slV_Sl fun hx => by rw [rowH_pos hx, get_at]; rfl
theorem gc_row {h Z : AH} {α : Type} {e : TypeId} (T : Ty P e α) {b : Nat} {xs : List α} (hb : xs.length ≠ 0 → Z[b]? = some (.cells (T.flat xs) e false)) :
    gcA h (slV (h.length + b) xs) (h ++ Z) = (slV h.length xs, h ++ rowH T xs) := by
  rw [gc_one T hb]
  by_cases hx : xs.length = 0
  · rw [if_pos hx, rowH_nil hx, List.append_nil]
    simp only [slV, if_pos hx]
  · rw [if_neg hx, rowH_pos hx]

theorem row_n {t : TypeId} {α : Type} {T : Ty P t α} {h : AH} {b n : Nat} {ro : Bool} {xs : List α} (hn : xs.length = n) (hb : h[b]? = some (.cells (T.flat xs) t ro)) : Sl T h (some ⟨b, 0, none⟩) n n xs := by
  subst hn; exact Sl.of_row hb

theorem gc_rowB {h Z : AH} {α : Type} {e : TypeId} (T : Ty P e α) {b : Nat} {xs : List α} {v : Bool} (hb : xs.length ≠ 0 → Z[b]? = some (.cells (T.flat xs) e false)) :
    gcA h (.tuple #[slV (h.length + b) xs, .bool v]) (h ++ Z) = (.tuple #[slV h.length xs, .bool v], h ++ rowH T xs) := by
  by_cases hx : xs.length = 0
  · rw [rowH_nil hx, List.append_nil]
    simp only [slV, if_pos hx]
    exact gc_app (.tuple (by simp [Af.slice0, Af.bool]))
  · rw [rowH_pos hx, slV_pos hx, slV_pos hx]
    exact gc_TB T (hb hx)

/-- append(s, x...), where x is empty. -/
theorem append_0 {t xt e : TypeId} {α : Type} (T : Ty P e α) {bt : Nat} {z : Value} (hu : P.underlying t = some (.slice e)) (hx : P.underlying xt = some (.slice e)) (he : elemA P e = some (T.k, bt, z)) (hz : z.cells.size = T.k) {h : AH} {b n c : Nat} {a : Option Addr} {c' : Nat} {xs : List α} (S : Sl T h a 0 c' xs) (hn : n ≤ c) (h0 : 0 < bt) (hbt : n * bt ≤ 140737488355328) :
    appendA P h t xt (.slice (some ⟨b, 0, none⟩) n c) (.slice a 0 c') = some (.slice (some ⟨b, 0, none⟩) n c, h) := by
  obtain ⟨i, hi, hk, hbb, hz'⟩ := elemA_some he
  have hp := T.pos
  have hbtl : badTail P xt = false := by simp [badTail, hx]
  simp only [appendA, hu, hi, Option.bind_some]
  rw [if_neg (by rw [hk, hbb, hbtl]; simp; omega), hk, S.first, Option.bind_some, hz', Option.bind_some, if_pos ⟨flat_ones T xs, hz⟩]
  rw [if_pos (by omega)]
  simp
end
end Go.AM
