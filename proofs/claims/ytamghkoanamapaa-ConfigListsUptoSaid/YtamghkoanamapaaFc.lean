/- Rows of elements of one type in the abstract heap: reading, writing, making, appending, as lists. No condition. -/
import Derived.Test.YtamghkoanamapaaFb
namespace Go.AM
open Go.RowKit

/-- How the elements of a Lean type stand for values of a Go type: each takes k cells, without addresses. -/
structure Ty (P : Program) (t : TypeId) (α : Type) where
  v : α → Value
  k : Nat
  pos : 0 < k
  size : sizeA P t = some k
  cells : ∀ x, (v x).cells.size = k
  part : ∀ (x : α) (cs : List Value) (o : Nat), (cs.drop o).take k = (v x).cells.toList → partA P t cs o = some (v x)
  af : ∀ x, Af (v x)
  one : ∀ x, (v x).cells.toList.all Value.oneCell' = true

section
variable {P : Program} {t : TypeId} {α : Type}

abbrev Ty.scalar (v : α → Value) (hs : sizeA P t = some 1) (ha : isAggA P t = some false) (hc : ∀ x, (v x).cells = #[v x]) (haf : ∀ x, Af (v x)) (ho : ∀ x, (v x).oneCell' = true) : Ty P t α where
  v := v
  k := 1
  pos := by decide
  size := hs
  cells x := by simp [hc]
  part x cs o h := by
    simp only [partA, ha, Option.bind_some, Bool.false_eq_true, if_false]
    rw [hc] at h
    have := congrArg (fun l => l[0]?) h
    simpa [List.getElem?_take, List.getElem?_drop] using this
  af := haf
  one x := by simp [hc, ho]

abbrev Ty.agg (c : α → List Value) (k : Nat) (hk : 0 < k) (hs : sizeA P t = some k) (ha : isAggA P t = some true) (hc : ∀ x, (c x).length = k) (haf : ∀ x, ∀ y ∈ c x, Af y) (ho : ∀ x, (c x).all Value.oneCell' = true) : Ty P t α where
  v x := .agg (c x).toArray
  k := k
  pos := hk
  size := hs
  cells x := by simp [Value.cells, hc]
  part x cs o h := by
    have hl : ((cs.drop o).take k).length = k := by rw [h]; simp [Value.cells, hc]
    simp only [partA, ha, Option.bind_some, if_true, hs]
    rw [if_pos (by simp at hl; omega), h]
    simp [Value.cells]
  af x := .agg (by simpa using haf x)
  one x := by simpa [Value.cells] using ho x

variable (T : Ty P t α)

def Ty.flat (xs : List α) : List Value := xs.flatMap fun x => (T.v x).cells.toList

@[simp] theorem flat_nil : T.flat [] = [] := rfl
theorem flat_cons (x : α) (xs : List α) : T.flat (x :: xs) = (T.v x).cells.toList ++ T.flat xs := by simp [Ty.flat]
theorem flat_append (xs ys : List α) : T.flat (xs ++ ys) = T.flat xs ++ T.flat ys := by simp [Ty.flat]
@[simp] theorem cells_length (x : α) : (T.v x).cells.toList.length = T.k := by simp [T.cells]
@[simp] theorem flat_length (xs : List α) : (T.flat xs).length = xs.length * T.k := by
  induction xs with
  | nil => simp
  | cons x xs ih => simp [flat_cons, ih, T.cells, Nat.add_mul, Nat.add_comm]
theorem flat_one (x : α) : T.flat [x] = (T.v x).cells.toList := by simp [Ty.flat]
theorem flat_part : ∀ (xs : List α) (j : Nat) (x : α), xs[j]? = some x → ((T.flat xs).drop (j * T.k)).take T.k = (T.v x).cells.toList
  | [], j, x, h => by simp at h
  | y :: ys, 0, x, h => by
    simp only [List.getElem?_cons_zero, Option.some.injEq] at h
    subst h
    rw [flat_cons, Nat.zero_mul, List.drop_zero]
    have := cells_length T y
    rw [List.take_append_of_le_length (by omega), List.take_of_length_le (by omega)]
  | y :: ys, j + 1, x, h => by
    simp only [List.getElem?_cons_succ] at h
    have hl := cells_length T y
    rw [flat_cons, Nat.add_mul, Nat.one_mul, Nat.add_comm, List.drop_append, hl, Nat.add_sub_cancel_left, List.drop_of_length_le (by omega), List.nil_append]
    exact flat_part ys j x h
theorem flat_take (xs : List α) (j : Nat) : (T.flat xs).take (j * T.k) = T.flat (xs.take j) := by
  induction xs generalizing j with
  | nil => simp
  | cons x xs ih =>
    cases j with
    | zero => simp
    | succ j =>
      have hl := cells_length T x
      rw [flat_cons, List.take_succ_cons, flat_cons, Nat.add_mul, Nat.one_mul, Nat.add_comm, List.take_append, hl, Nat.add_sub_cancel_left, List.take_of_length_le (by omega), ih]
theorem flat_drop (xs : List α) (j : Nat) : (T.flat xs).drop (j * T.k) = T.flat (xs.drop j) := by
  induction xs generalizing j with
  | nil => simp
  | cons x xs ih =>
    cases j with
    | zero => simp
    | succ j =>
      have hl := cells_length T x
      rw [flat_cons, List.drop_succ_cons, Nat.add_mul, Nat.one_mul, Nat.add_comm, List.drop_append, hl, Nat.add_sub_cancel_left, List.drop_of_length_le (by omega), List.nil_append, ih]
theorem flat_af (xs : List α) : ∀ y ∈ T.flat xs, Af y := by
  intro y hy
  simp only [Ty.flat, List.mem_flatMap] at hy
  obtain ⟨x, -, hy⟩ := hy
  exact af_cells (T.af x) y hy
theorem flat_ones (xs : List α) : (T.flat xs).all Value.oneCell' = true := by
  rw [List.all_eq_true]
  intro y hy
  simp only [Ty.flat, List.mem_flatMap] at hy
  obtain ⟨x, -, hy⟩ := hy
  exact List.all_eq_true.1 (T.one x) y hy
theorem flat_set (xs : List α) (j : Nat) (x : α) (hj : j < xs.length) : splice (T.flat xs) (j * T.k) (T.v x).cells.toList = T.flat (xs.set j x) := by
  unfold splice
  rw [flat_take, cells_length, show j * T.k + T.k = (j + 1) * T.k by rw [Nat.add_mul, Nat.one_mul], flat_drop, List.set_eq_take_append_cons_drop, if_pos hj, flat_append, flat_cons, List.append_assoc]
@[simp] theorem part_self (x : α) : partA P t (T.v x).cells.toList 0 = some (T.v x) := T.part x _ 0 (by
  rw [List.drop_zero, List.take_of_length_le (by have := T.cells x; simp; omega)])

theorem madeCells_flat (x : α) (n : Nat) : (madeCells (T.v x).cells (n * T.k)).toList = T.flat (List.replicate n x) := by
  apply List.ext_getElem?
  intro i
  have hp := T.pos
  have hc := T.cells x
  by_cases hi : i < n * T.k
  · have h1 : i / T.k < n := by rw [Nat.div_lt_iff_lt_mul hp]; exact hi
    have hx : (List.replicate n x)[i / T.k]? = some x := by simp [h1]
    have := flat_part T (List.replicate n x) (i / T.k) x hx
    have h2 := congrArg (fun l => l[i % T.k]?) this
    have hm : i % T.k < T.k := Nat.mod_lt _ hp
    have hd : i / T.k * T.k + i % T.k = i := by rw [Nat.mul_comm]; exact Nat.div_add_mod i T.k
    simp only [List.getElem?_take, List.getElem?_drop, hd, hm, if_true] at h2
    rw [h2]
    have hm' : i % T.k < (T.v x).cells.size := by omega
    simp only [madeCells, Array.toList_map, Array.toList_range, List.getElem?_map, List.getElem?_range hi, Option.map_some, hc, Array.getElem?_toList]
    rw [getElem!_pos (T.v x).cells _ hm', Array.getElem?_eq_getElem hm']
  · rw [List.getElem?_eq_none (by simp [madeCells]; omega), List.getElem?_eq_none (by simp; omega)]

/-! ### Slices -/
/-- Where a slice's element lies. -/
def elemPtr : Option Addr → Nat → Nat → Value
  | some a, j, k => .pointer (some ⟨a.block, a.off + j * k, none⟩)
  | none, _, _ => .pointer none

/-- A slice value and the list it reads as. -/
structure Sl (h : AH) (a : Option Addr) (n c : Nat) (xs : List α) : Prop where
  len : n = xs.length
  cap : n ≤ c
  nil : a = none → n = 0 ∧ c = 0
  at_ : ∀ b, a = some b → b.spot = none ∧ ∃ C e ro, h[b.block]? = some (.cells C e ro) ∧ (C.drop b.off).take (n * T.k) = T.flat xs ∧ (ro = true ∨ e = t)

variable {T} {h : AH} {a : Option Addr} {n c : Nat} {xs : List α}
theorem Sl.none_ : Sl T h none 0 0 [] := ⟨rfl, Nat.le_refl _, fun _ => ⟨rfl, rfl⟩, fun _ h => by cases h⟩
theorem Sl.app (S : Sl T h a n c xs) (g : AH) : Sl T (h ++ g) a n c xs := by
  refine ⟨S.len, S.cap, S.nil, fun b hb => ?_⟩
  obtain ⟨h1, C, e, ro, h2, h3, h4⟩ := S.at_ b hb
  exact ⟨h1, C, e, ro, by rw [List.getElem?_append_left (List.getElem?_eq_some_iff.1 h2).1]; exact h2, h3, h4⟩
theorem Sl.new (h g : AH) (xs : List α) (ro : Bool) : Sl T (h ++ .cells (T.flat xs) t ro :: g) (some ⟨h.length, 0, none⟩) xs.length xs.length xs := by
  refine ⟨rfl, Nat.le_refl _, fun q => (by cases q), fun b hb => ?_⟩
  cases hb
  exact ⟨rfl, T.flat xs, t, ro, by simp, by rw [List.drop_zero]; exact List.take_of_length_le (by simp), .inr rfl⟩

theorem Sl.load (S : Sl T h a n c xs) {j : Nat} (hj : j < xs.length) : loadA P h t (elemPtr a j T.k) = some (T.v xs[j]) := by
  cases ha : a with
  | none => have := (S.nil ha).1; have := S.len; omega
  | some b =>
    obtain ⟨h1, C, e, ro, h2, h3, h4⟩ := S.at_ b ha
    simp only [elemPtr, loadA, rowA, h2, Option.bind_some]
    refine T.part _ _ _ ?_
    have := flat_part T xs j xs[j] (List.getElem?_eq_getElem hj)
    rw [← this, ← h3]
    have hn := S.len
    have hk : j * T.k + T.k ≤ n * T.k := by rw [hn, ← Nat.succ_mul]; exact Nat.mul_le_mul_right _ hj
    rw [List.drop_take, List.take_take, List.drop_drop, Nat.min_eq_left (by omega)]
theorem Sl.index (S : Sl T h a n c xs) {ty : TypeId} (hu : P.underlying ty = some (.slice t)) {j : Int} {kk : IntKind} (h0 : 0 ≤ j) (hj : j < xs.length) :
    indexAddrA P ty (.slice a n c) (.int kk j) = some (elemPtr a j.toNat T.k) := by
  have hn := S.len
  cases ha : a with
  | none => have := (S.nil ha).1; omega
  | some b =>
    obtain ⟨h1, -⟩ := S.at_ b ha
    obtain ⟨bb, bo, bs⟩ := b
    simp only at h1
    subst h1
    simp only [indexAddrA, hu, elemPtr]
    rw [if_pos (by omega), T.size]
    rfl
theorem Sl.first (S : Sl T h a n c xs) : firstA h T.k n (.slice a n c) = some (T.flat xs) := by
  have hn := S.len
  have hp := T.pos
  by_cases h0 : n = 0
  · have hx : xs = [] := List.length_eq_zero_iff.1 (by omega)
    subst hx
    cases a <;> simp [firstA, h0]
  · cases ha : a with
    | none => exact absurd (S.nil ha).1 h0
    | some b =>
      obtain ⟨h1, C, e, ro, h2, h3, h4⟩ := S.at_ b ha
      obtain ⟨bb, bo, bs⟩ := b
      simp only at h1
      subst h1
      have hnz : n * T.k ≠ 0 := Nat.mul_ne_zero h0 (by omega)
      simp only [firstA, if_neg hnz, ne_eq, not_true, if_false, rowA, h2, Option.bind_some]
      have hl := congrArg List.length h3
      simp only [List.length_take, List.length_drop, flat_length] at hl
      rw [← hn] at hl
      simp only at h3
      rw [if_pos (by omega), h3]
/-- The row of a slice, and its elements' cells. -/
theorem Sl.row {b : Addr} (S : Sl T h (some b) n c xs) : b.spot = none ∧ ∃ C e ro, h[b.block]? = some (.cells C e ro) ∧ ∀ (j : Nat) (hj : j < xs.length) (f : Nat), f < T.k → C[b.off + j * T.k + f]? = (T.v xs[j]).cells.toList[f]? := by
  obtain ⟨h1, C, e, ro, h2, h3, h4⟩ := S.at_ b rfl
  refine ⟨h1, C, e, ro, h2, fun j hj f hf => ?_⟩
  have e1 := flat_part T xs j xs[j] (List.getElem?_eq_getElem hj)
  have e2 := congrArg (fun l => l[f]?) e1
  simp only [List.getElem?_take, List.getElem?_drop, hf, if_true] at e2
  rw [← e2, ← h3, List.getElem?_take, if_pos, List.getElem?_drop, Nat.add_assoc]
  rw [S.len]
  have : (j + 1) * T.k ≤ xs.length * T.k := Nat.mul_le_mul_right _ hj
  rw [Nat.add_mul, Nat.one_mul] at this
  omega
theorem elemPtr_some {b : Addr} {j k : Nat} : elemPtr (some b) j k = .pointer (some ⟨b.block, b.off + j * k, none⟩) := rfl
theorem Sl.some_ (S : Sl T h a n c xs) (hx : xs.length ≠ 0) : ∃ b o, a = some ⟨b, o, none⟩ := by
  cases ha : a with
  | none => exact absurd (S.nil ha).1 (by have := S.len; omega)
  | some b =>
    obtain ⟨h1, -⟩ := S.at_ b ha
    exact ⟨b.block, b.off, by cases b; simp only at h1; subst h1; rfl⟩
theorem Sl.of_row {b : Nat} {ro : Bool} (hb : h[b]? = some (.cells (T.flat xs) t ro)) : Sl T h (some ⟨b, 0, none⟩) xs.length xs.length xs :=
  ⟨rfl, Nat.le_refl _, (fun q => by cases q), fun b' hb' => by cases hb'; exact ⟨rfl, _, t, ro, hb, by rw [List.drop_zero]; exact List.take_of_length_le (by simp), .inr rfl⟩⟩
/-- An element's place, in a slice whose address is told. -/
theorem index_at {ty e : TypeId} {k : Nat} (hu : P.underlying ty = some (.slice e)) (hk : sizeA P e = some k) {i o n c : Nat} {j : Int} {kk : IntKind} (h0 : 0 ≤ j) (hj : j < n) :
    indexAddrA P ty (.slice (some ⟨i, o, none⟩) n c) (.int kk j) = some (elemPtr (some ⟨i, o, none⟩) j.toNat k) := by
  simp only [indexAddrA, hu, elemPtr]
  rw [if_pos ⟨h0, hj⟩, hk]
  rfl
theorem load_ptr {h : AH} {i o : Nat} {t : TypeId} : loadA P h t (.pointer (some ⟨i, o, none⟩)) = (rowA h i).bind fun c => partA P t c o := rfl
theorem len_slice {ty e : TypeId} (hu : P.underlying ty = some (.slice e)) : lenA P ty (.slice a n c) h = some (.int .i64 n) := by simp [lenA, hu]
end
end Go.AM
