/- Calls, and what is left of a call's memory; the operations on memory, for simp. No condition. -/
import Derived.Test.YtamghkoanamapaaFc
import Derived.Laws.Cover3
namespace Go.AM
open Go.RowKit

section
variable {P : Program}

/-- A type's size in cells, in bytes, and its zero. -/
def elemA (P : Program) (e : TypeId) : Option (Nat × Nat × Value) := (P.info? e).bind fun i => (zeroI i).map fun z => (i.size, i.bytes, z)

theorem Stable.app (h g : AH) : Stable h (h ++ g) := ⟨by simp, fun i hi => .inl (by rw [List.getElem?_append_left hi])⟩
theorem Stable.self (h : AH) : Stable h h := ⟨Nat.le_refl _, fun _ _ => .inl rfl⟩
theorem gc_same {h : AH} {v : Value} (hv : Af v) : gcA h v h = (v, h) := by
  unfold gcA; rw [if_pos (Stable.self h), if_pos hv, List.take_length]
theorem gc_app {h g : AH} {v : Value} (hv : Af v) : gcA h v (h ++ g) = (v, h) := by
  unfold gcA; rw [if_pos (Stable.app h g), if_pos hv, List.take_left']; rfl
theorem not_af_slice {a : Addr} {n c : Nat} : ¬ Af (.slice (some a) n c) := fun h => by cases h
theorem gc_slice {h g : AH} {b n c : Nat} {C : List Value} {e : TypeId} (hb : g[b]? = some (.cells C e false)) (hC : ∀ v ∈ C, Af v) :
    gcA h (.slice (some ⟨h.length + b, 0, none⟩) n c) (h ++ g) = (.slice (some ⟨h.length, 0, none⟩) n c, h ++ [.cells C e false]) := by
  have hg : (h ++ g)[h.length + b]? = some (.cells C e false) := by rw [List.getElem?_append_right (by omega), Nat.add_sub_cancel_left]; exact hb
  unfold gcA
  rw [if_pos (Stable.app h g), if_neg not_af_slice, List.take_left']
  · simp [layA, partsA, partA1, leafA, hg]
    rw [if_pos hC]
    simp
  · rfl

theorem gc_T {α : Type} {e : TypeId} (T : Ty P e α) {h g : AH} {b n c : Nat} {xs : List α} (hb : g[b]? = some (.cells (T.flat xs) e false)) :
    gcA h (.slice (some ⟨h.length + b, 0, none⟩) n c) (h ++ g) = (.slice (some ⟨h.length, 0, none⟩) n c, h ++ [.cells (T.flat xs) e false]) := gc_slice hb (flat_af T xs)
theorem gc_T0 {α : Type} {e : TypeId} (T : Ty P e α) {h g : AH} {n c : Nat} {xs : List α} :
    gcA h (.slice (some ⟨h.length, 0, none⟩) n c) (h ++ .cells (T.flat xs) e false :: g) = (.slice (some ⟨h.length, 0, none⟩) n c, h ++ [.cells (T.flat xs) e false]) := gc_T T (b := 0) rfl

theorem not_af_tuple {a : Addr} {n c : Nat} {l : List Value} : ¬ Af (.tuple (.slice (some a) n c :: l).toArray) := fun h => by
  cases h with | tuple h => exact not_af_slice (h (.slice (some a) n c) (by simp))
/-- A row and a scalar are handed back. -/
theorem gc_TB {α : Type} {e : TypeId} (T : Ty P e α) {h g : AH} {b n c : Nat} {xs : List α} {v : Bool} (hb : g[b]? = some (.cells (T.flat xs) e false)) :
    gcA h (.tuple #[.slice (some ⟨h.length + b, 0, none⟩) n c, .bool v]) (h ++ g) = (.tuple #[.slice (some ⟨h.length, 0, none⟩) n c, .bool v], h ++ [.cells (T.flat xs) e false]) := by
  have hg : (h ++ g)[h.length + b]? = some (.cells (T.flat xs) e false) := by rw [List.getElem?_append_right (by omega), Nat.add_sub_cancel_left]; exact hb
  have hC := flat_af T xs
  unfold gcA
  rw [if_pos (Stable.app h g), if_neg not_af_tuple, List.take_left']
  · simp [layA, partsA, partA1, leafA, hg]
    rw [if_pos hC]
    simp [Af.bool]
  · rfl
theorem gc_TB0 {α : Type} {e : TypeId} (T : Ty P e α) {h g : AH} {n c : Nat} {xs : List α} {v : Bool} :
    gcA h (.tuple #[.slice (some ⟨h.length, 0, none⟩) n c, .bool v]) (h ++ .cells (T.flat xs) e false :: g) = (.tuple #[.slice (some ⟨h.length, 0, none⟩) n c, .bool v], h ++ [.cells (T.flat xs) e false]) := gc_TB T (b := 0) rfl

/-- What a function hands back. -/
def endQ (P : Program) (rs : List ResultVar) (h : AH) (r : Value × AH) : AExit → Slots → AH → Prop
  | .exit _, _, _ => False
  | _, s, h' => bindQ (rs.mapM (resA P s h')) fun vs => gcA h (oneOf vs) h' = r
theorem endQ_ret {rs : List ResultVar} {h h' : AH} {r : Value × AH} {s : Slots} : endQ P rs h r .ret s h' = bindQ (rs.mapM (resA P s h')) fun vs => gcA h (oneOf vs) h' = r := rfl
theorem endQ_normal {rs : List ResultVar} {h h' : AH} {r : Value × AH} {s : Slots} : endQ P rs h r .normal s h' = bindQ (rs.mapM (resA P s h')) fun vs => gcA h (oneOf vs) h' = r := rfl
theorem endQ_exit {rs : List ResultVar} {h h' : AH} {r : Value × AH} {s : Slots} {id : Nat} : endQ P rs h r (.exit id) s h' = False := rfl

/-- A call, by its code. -/
theorem call_of {f : FuncId} {fn : Func} {c : Code} {args : List Value} {h : AH} {r : Value × AH} {rs : List ResultVar} (hg : fnB P f = true) (hf : P.funcs[f]? = some fn) (hb : fn.body = some c) (hr : fn.results = rs.toArray)
    (w : W P (fnB P) c (startA args) h (endQ P rs h r)) : callP P f args h = some r := by
  unfold callP
  rw [call_eq hg hf hb]
  obtain ⟨e, s', h', h1, h2⟩ := w
  rw [h1, Option.bind_some]
  have k : ∀ {s' h'}, bindQ (rs.mapM (resA P s' h')) (fun vs => gcA h (oneOf vs) h' = r) → (resultsA P fn s' h').map (fun v => gcA h v h') = some r := by
    rintro s' h' ⟨vs, q1, q2⟩
    simp [resultsA, hr, q1, q2]
  cases e with
  | exit => exact h2.elim
  | normal => exact k h2
  | ret => exact k h2

theorem mapM_res_one {s : Slots} {h : AH} {x : ResultVar} : [x].mapM (resA P s h) = (resA P s h x).map fun v => [v] := by
  cases e : resA P s h x <;> simp [e]
theorem resA_tmp {s : Slots} {h : AH} {x : Nat} : resA P s h (.tmp x) = some (s x) := rfl
theorem resA_cell {s : Slots} {h : AH} {x : Nat} {t : TypeId} : resA P s h (.cell x t) = loadA P h t (s x) := rfl
theorem oneOf_one {v : Value} : oneOf [v] = v := rfl

theorem elemA_some {e : TypeId} {k b : Nat} {z : Value} (h : elemA P e = some (k, b, z)) : ∃ i, P.info? e = some i ∧ i.size = k ∧ i.bytes = b ∧ zeroI i = some z := by
  unfold elemA at h
  rw [Option.bind_eq_some_iff] at h
  obtain ⟨i, hi, h⟩ := h
  rw [Option.map_eq_some_iff] at h
  obtain ⟨y, hy, h⟩ := h
  cases h
  exact ⟨i, hi, rfl, rfl, hy⟩

/-- make([]T, n). -/
theorem make_T {t e : TypeId} {α : Type} (T : Ty P e α) (z : α) {b : Nat} (hu : P.underlying t = some (.slice e)) (he : elemA P e = some (T.k, b, T.v z)) {h : AH} {n : Nat} {k k' : IntKind} (hb : b * n ≤ 281474976710656) (hn : n ≤ 281474976710656) :
    makeSliceA P h t (.int k n) (.int k' n) = some (.slice (some ⟨h.length, 0, none⟩) n n, h ++ [.cells (T.flat (List.replicate n z)) e false]) := by
  obtain ⟨i, hi, hk, hbb, hz⟩ := elemA_some he
  subst hbb
  have hp := T.pos
  have hc := T.cells z
  simp only [makeSliceA, hu, hi, Option.bind_some]
  rw [if_pos ⟨by omega, Int.le_refl _, by exact_mod_cast hb, by exact_mod_cast hn, by omega⟩]
  rw [hz, Option.bind_some, if_pos (by omega), hk]
  simp only [Int.toNat_natCast]
  rw [madeCells_flat]

theorem build_0 {t e : TypeId} {k b : Nat} {z : Value} (hu : P.underlying t = some (.slice e)) (he : elemA P e = some (k, b, z)) (hz : z.cells.size = k) (hk : 0 < k) {h : AH} :
    buildSliceA P h t 0 [] = some (.slice (some ⟨h.length, 0, none⟩) 0 0, h ++ [.cells [] e false]) := by
  obtain ⟨i, hi, rfl, hbb, hz'⟩ := elemA_some he
  simp [buildSliceA, hu, hi, hk, hz', hz, Instr.fill, madeCells]

/-- A slice held against nil. -/
theorem slice_nil {t e : TypeId} (hu : P.underlying t = some (.slice e)) {op : BinOp} (hop : op = .eql ∨ op = .neq) {a : Option Addr} {n c : Nat} : binA P op t (.slice a n c) (.slice none 0 0) = some (.bool (eqRes op a.isNone)) := by
  unfold binA
  simp only []
  rw [if_pos hop]
  cases a with
  | none =>
    rw [if_pos ⟨.slice0 _ _, .slice0 _ _⟩]
    refine still_pure ?_
    have he : (Op.equal t (.slice none n c) (.slice none 0 0)).run P default = .ok true default := by
      exact run_equalIn_slice_nil default 9999 t e none n c hu
    rcases hop with rfl | rfl <;> simp [eqGuard, he]
  | some x =>
    rw [if_neg (fun h => not_af_slice h.1), if_pos (by simp [oneNil, hu])]
    rcases hop with rfl | rfl <;> simp [isNil, eqRes]

/-- append(s, x...), where s has no room at all: the elements of x in a new row. -/
theorem append_new {t xt e : TypeId} {α : Type} (T : Ty P e α) {b : Nat} {z : Value} (hu : P.underlying t = some (.slice e)) (hx : P.underlying xt = some (.slice e)) (he : elemA P e = some (T.k, b, z)) (hz : z.cells.size = T.k) {h : AH} {s a : Option Addr} {m c : Nat} {xs : List α}
    (hs : ∀ x, s = some x → x.spot = none) (S : Sl T h a m c xs) (h0 : 0 < b) (hb : m * b ≤ 140737488355328) :
    appendA P h t xt (.slice s 0 0) (.slice a m c) = some (if m = 0 then (.slice s 0 0, h) else (.slice (some ⟨h.length, 0, none⟩) m m, h ++ [.cells (T.flat xs) e false])) := by
  obtain ⟨i, hi, hk, hbb, hz'⟩ := elemA_some he
  have hp := T.pos
  have hl := S.len
  have hbt : badTail P xt = false := by simp [badTail, hx]
  simp only [appendA, hu, hi, Option.bind_some]
  rw [if_neg (by rw [hk, hbb, hbt]; simp; omega), hk, S.first, Option.bind_some, hz', Option.bind_some, if_pos ⟨flat_ones T xs, hz⟩]
  cases s with
  | none => by_cases hm : m = 0 <;> simp [hm]
  | some x =>
    obtain ⟨xb, xo, xs'⟩ := x
    have := hs _ rfl
    simp only at this
    subst this
    by_cases hm : m = 0 <;> simp [hm]

/-- An element is written: x[j] = v, where x is a row of the call's own. -/
theorem store_T {e : TypeId} {α : Type} (T : Ty P e α) {h g : AH} {b j : Nat} {xs : List α} {x : α} (hb : g[b]? = some (.cells (T.flat xs) e false)) (hj : j < xs.length) :
    storeA P (h ++ g) e (elemPtr (some ⟨h.length + b, 0, none⟩) j T.k) (T.v x) = some (h ++ g.set b (.cells (T.flat (xs.set j x)) e false)) := by
  have hg : (h ++ g)[h.length + b]? = some (.cells (T.flat xs) e false) := by rw [List.getElem?_append_right (by omega), Nat.add_sub_cancel_left]; exact hb
  simp only [storeA, elemPtr, T.size, Option.bind_some, T.cells, if_true, storeRow, hg, Nat.zero_add]
  have hl := cells_length T x
  have hk : j * T.k + T.k ≤ xs.length * T.k := by rw [← Nat.succ_mul]; exact Nat.mul_le_mul_right _ hj
  rw [if_pos ⟨by rw [hl, flat_length]; exact hk, T.one x⟩, flat_set T xs j x hj, List.set_append_right _ _ (by omega), Nat.add_sub_cancel_left]

/-- The same, where the row is the call's first. -/
theorem store_T0 {e : TypeId} {α : Type} (T : Ty P e α) {h g : AH} {j : Nat} {xs : List α} {x : α} (hj : j < xs.length) :
    storeA P (h ++ .cells (T.flat xs) e false :: g) e (elemPtr (some ⟨h.length, 0, none⟩) j T.k) (T.v x) = some (h ++ .cells (T.flat (xs.set j x)) e false :: g) := by
  have := store_T T (h := h) (g := .cells (T.flat xs) e false :: g) (b := 0) (x := x) rfl hj
  simpa using this

/-- A cell of the call's own is written over. -/
theorem store_ptr {h : AH} {t : TypeId} {i : Nat} {v : Value} {k : Nat} {c : List Value} {e : TypeId} (hk : sizeA P t = some k) (hr : h[i]? = some (.cells c e false)) (hc : c.length = k) (hv : v.cells.size = k) (ho : v.cells.toList.all Value.oneCell' = true) :
    storeA P h t (.pointer (some ⟨i, 0, none⟩)) v = some (h.set i (.cells v.cells.toList e false)) := by
  simp only [storeA, hk, Option.bind_some, hv, if_true, storeRow, hr, Nat.zero_add]
  rw [if_pos ⟨by simp [hv, hc], ho⟩]
  congr 2
  simp [splice, hv, hc]

/-! Places in a heap, told from the base on. -/
theorem get_off {α : Type} {h G : List α} {n : Nat} : (h ++ G)[h.length + n]? = G[n]? := by rw [List.getElem?_append_right (by omega), Nat.add_sub_cancel_left]
theorem get_at {α : Type} {h G : List α} : (h ++ G)[h.length]? = G[0]? := get_off (n := 0)
theorem set_off {α : Type} {h G : List α} {n : Nat} {y : α} : (h ++ G).set (h.length + n) y = h ++ G.set n y := by rw [List.set_append_right _ _ (by omega), Nat.add_sub_cancel_left]
theorem set_end {α : Type} {h G : List α} {y : α} : (h ++ G).set h.length y = h ++ G.set 0 y := set_off (n := 0)
theorem store_at {h : AH} {t : TypeId} {i o : Nat} {v : Value} : storeA P h t (.pointer (some ⟨i, o, none⟩)) v = (sizeA P t).bind fun n => if v.cells.size = n then storeRow h i o v.cells.toList else none := rfl

variable {good : FuncId → Bool} {c : Code} {s : Slots} {h : AH} {Q : AExit → Slots → AH → Prop}
/-- Nothing in it is looked at by simp. -/
theorem W_still : W P good c s h Q = W P good c s h Q := rfl

theorem opA_move {x : Operand} {cl : Call} : opA P cl (.move x) s h = some (ev s x, h) := rfl
theorem opA_assign {x : Operand} {cl : Call} : opA P cl (.assign x) s h = some (ev s x, h) := rfl

/-- The machine's own reckoning of a row at an address. -/
theorem row_new {h g : AH} {n : Nat} : rowA (h ++ g) (h.length + n) = rowA g n := by unfold rowA; rw [List.getElem?_append_right (by omega), Nat.add_sub_cancel_left]
theorem row_new0 {h g : AH} : rowA (h ++ g) h.length = rowA g 0 := row_new (n := 0)
theorem row_cons {x : Blk} {g : AH} {n : Nat} : rowA (x :: g) (n + 1) = rowA g n := rfl
theorem row_cons0 {c : List Value} {e : TypeId} {r : Bool} {g : AH} : rowA (.cells c e r :: g) 0 = some c := rfl
/-- A row that is filled from the front. -/
theorem fill_step {β : Type} {zs : List β} {z : β} {i : Nat} (hi : i < zs.length) : (zs.take i ++ List.replicate (zs.length - i) z).set i zs[i] = zs.take (i + 1) ++ List.replicate (zs.length - (i + 1)) z := by
  apply List.ext_getElem?
  intro j
  have hl : (zs.take i).length = i := by simp; omega
  have hl' : (zs.take (i + 1)).length = i + 1 := by simp; omega
  simp only [List.getElem?_set, List.length_append, hl, List.length_replicate]
  rcases Nat.lt_trichotomy j i with h | h | h
  · rw [if_neg (by omega), List.getElem?_append_left (by omega), List.getElem?_append_left (by omega), List.getElem?_take_of_lt h, List.getElem?_take_of_lt (by omega)]
  · subst h
    rw [if_pos rfl, if_pos (by omega), List.getElem?_append_left (by omega), List.getElem?_take_of_lt (by omega), List.getElem?_eq_getElem hi]
  · rw [if_neg (by omega), List.getElem?_append_right (by omega), List.getElem?_append_right (by omega), List.getElem?_replicate, List.getElem?_replicate, hl, hl']
    by_cases hj : j - i < zs.length - i
    · rw [if_pos hj, if_pos (by omega)]
    · rw [if_neg hj, if_neg (by omega)]
end
end Go.AM
