/- What the primitives of the machine do to the relation: a load, a new block, a store. No condition. -/
import Derived.Test.YtamghkoanamapaaEb
namespace Go.AM
open Go.RowKit

theorem list_getD_of_get? {α : Type} {c : List α} {j : Nat} {v d : α} (h : c[j]? = some v) : c.getD j d = v := by
  simp [List.getD_eq_getElem?_getD, h]

theorem rowA_some {h : AH} {i : Nat} {C : List Value} (e : rowA h i = some C) : ∃ t r, h[i]? = some (.cells C t r) := by
  unfold rowA at e
  split at e
  · rename_i c t r hh; cases e; exact ⟨t, r, hh⟩
  · cases e

section
variable {w0 : Ctx} {μ : Mp} {h : AH} {w : World}

theorem HR.row (H : HR w0 μ h w) {i : Nat} {l : Loc} (hi : μ i = some l) {C : List Value} {t : TypeId} {r : Bool} (hC : h[i]? = some (.cells C t r)) :
    r = l.ro ∧ (r = false → t = l.e) ∧ ∃ C' e' fr, w.heap[l.b]? = some (.cells C' e' fr) ∧ C'.size = l.n ∧ l.base + C.length ≤ l.n ∧
      (∀ j, j < C.length → VR μ (C.getD j undef) (C'.getD (l.base + j) undef)) ∧ (r = false → fr = (0, 0)) ∧ (r = false → C = [] → l.n = 0) :=
  H.obj i l _ hi hC

theorem HR.cell (H : HR w0 μ h w) {i : Nat} {l : Loc} (hi : μ i = some l) {C : List Value} (hC : rowA h i = some C) {j : Nat} {v : Value} (hj : C[j]? = some v) :
    ∃ v', w.cell? ⟨l.b, l.base + j, none⟩ = some v' ∧ VR μ v v' := by
  obtain ⟨t, r, hC⟩ := rowA_some hC
  obtain ⟨-, -, C', e', fr, hw, hn, hs, hv, -⟩ := H.row hi hC
  have hj' : j < C.length := by
    rcases Nat.lt_or_ge j C.length with h | h
    · exact h
    · rw [List.getElem?_eq_none h] at hj; cases hj
  have := hv j hj'
  rw [list_getD_of_get? hj] at this
  have hlt : l.base + j < C'.size := by omega
  refine ⟨C'[l.base + j], ?_, ?_⟩
  · simp [World.cell?, hw, hlt]
  · simpa [Array.getD, hlt] using this

/-- n cells, read one after another. -/
theorem run_loadCellsFrom {P : Program} {w : World} {b o : Nat} (c : List Value) : ∀ (i : Nat) (acc : Array Value), (∀ j v, c[j]? = some v → w.cell? ⟨b, o + i + j, none⟩ = some v) →
    (loadCellsFrom ⟨b, o, none⟩ i c.length acc).run P w = .ok (acc ++ c.toArray) w := by
  induction c with
  | nil => intro i acc _; simp [loadCellsFrom]
  | cons v c ih =>
    intro i acc g
    have h0 := g 0 v rfl
    have ha : (Addr.add ⟨b, o, none⟩ i) = ⟨b, o + i, none⟩ := by unfold Addr.add; split <;> simp_all
    simp only [List.length_cons, loadCellsFrom, Sem.run_bind, ha]
    rw [run_load]
    simp only [Nat.add_zero] at h0
    rw [h0]
    simp only [Result.andThen_ok]
    rw [ih (i + 1) (acc.push v) (fun j v' hj => by have := g (j + 1) v' (by simpa using hj); rw [show o + (i + 1) + j = o + i + (j + 1) by omega]; exact this)]
    simp

theorem run_loadCells {P : Program} {w : World} {b o : Nat} {n : Nat} (c : List Value) (hn : c.length = n) (g : ∀ j v, c[j]? = some v → w.cell? ⟨b, o + j, none⟩ = some v) :
    (loadCells ⟨b, o, none⟩ n).run P w = .ok c.toArray w := by
  subst hn
  have := run_loadCellsFrom (P := P) (w := w) (b := b) (o := o) c 0 #[] (fun j v hj => by simpa using g j v hj)
  simpa [loadCells] using this

/-- What the cells of a living block read as, a part of it. -/
theorem HR.cells (H : HR w0 μ h w) {i : Nat} {l : Loc} (hi : μ i = some l) {C : List Value} (hC : rowA h i = some C) (o n : Nat) (hn : o + n ≤ C.length) :
    ∃ c : List Value, c.length = n ∧ (∀ j v, c[j]? = some v → w.cell? ⟨l.b, l.base + o + j, none⟩ = some v) ∧ VL μ ((C.drop o).take n) c := by
  induction n with
  | zero => exact ⟨[], rfl, by simp, by simp [VL]; exact .undef⟩
  | succ n ih =>
    obtain ⟨c, hc, hg, hv⟩ := ih (by omega)
    have hlt : o + n < C.length := by omega
    obtain ⟨v', h1, h2⟩ := H.cell hi hC (j := o + n) (v := C[o + n]) (by simp [hlt])
    refine ⟨c ++ [v'], by simp [hc], ?_, ?_, ?_⟩
    · intro j v hj
      rcases Nat.lt_or_ge j c.length with hl | hl
      · exact hg j v (by rw [List.getElem?_append_left hl] at hj; exact hj)
      · rw [List.getElem?_append_right hl] at hj
        have : j = c.length := by
          rcases Nat.lt_or_ge (j - c.length) 1 with q | q
          · omega
          · rw [List.getElem?_eq_none (by simpa using q)] at hj; cases hj
        subst this
        simp at hj; subst hj
        rw [hc]; rw [show l.base + o + n = l.base + (o + n) by omega]; exact h1
    · simp [hc]; omega
    · intro j
      rcases Nat.lt_trichotomy j n with hl | hl | hl
      · have := hv.2 j
        have e1 : ((C.drop o).take (n + 1)).getD j undef = ((C.drop o).take n).getD j undef := by
          simp only [List.getD_eq_getElem?_getD, List.getElem?_take]; rw [if_pos (by omega), if_pos hl]
        have e2 : (c ++ [v']).getD j undef = c.getD j undef := by
          simp only [List.getD_eq_getElem?_getD]; rw [List.getElem?_append_left (by omega)]
        rw [e1, e2]; exact this
      · subst hl
        have e1 : ((C.drop o).take (j + 1)).getD j undef = C[o + j] := by
          simp only [List.getD_eq_getElem?_getD, List.getElem?_take]; rw [if_pos (by omega), List.getElem?_drop]; simp [hlt]
        have e2 : (c ++ [v']).getD j undef = v' := by
          simp only [List.getD_eq_getElem?_getD]; rw [List.getElem?_append_right (by omega)]; simp [hc]
        rw [e1, e2]; exact h2
      · have e1 : ((C.drop o).take (n + 1)).getD j undef = undef := by
          simp only [List.getD_eq_getElem?_getD, List.getElem?_take]; rw [if_neg (by omega)]; rfl
        have e2 : (c ++ [v']).getD j undef = undef := by
          simp only [List.getD_eq_getElem?_getD]; rw [List.getElem?_eq_none (by simp [hc]; omega)]; rfl
        rw [e1, e2]; exact .undef

theorem VL.arr {μ : Mp} {a b : List Value} (h : VL μ a b) : VR μ (.agg a.toArray) (.agg b.toArray) :=
  .agg (by simpa using h.1) (fun i => by have := h.2 i; simp only [Array.getD_eq_getD_getElem?, List.getElem?_toArray, ← List.getD_eq_getElem?_getD]; exact this)

theorem VL.of_arr {μ : Mp} {a b : Array Value} (hs : a.size = b.size) (g : ∀ i, VR μ (a.getD i undef) (b.getD i undef)) : VL μ a.toList b.toList :=
  ⟨by simpa using hs, fun i => by have := g i; simpa [List.getD_eq_getElem?_getD, Array.getD_eq_getD_getElem?] using this⟩

theorem VL.mono {μ ν : Mp} (hm : μ.le ν) {a b : List Value} (h : VL μ a b) : VL ν a b := ⟨h.1, fun i => (h.2 i).mono hm⟩

theorem VL.get {μ : Mp} {a b : List Value} (h : VL μ a b) {i : Nat} {v : Value} (hi : a[i]? = some v) : ∃ v', b[i]? = some v' ∧ VR μ v v' := by
  have hl : i < a.length := by
    rcases Nat.lt_or_ge i a.length with q | q
    · exact q
    · rw [List.getElem?_eq_none q] at hi; cases hi
  have hb : i < b.length := h.1 ▸ hl
  refine ⟨b[i], by simp [hb], ?_⟩
  have := h.2 i
  rw [list_getD_of_get? hi] at this
  simpa [List.getD_eq_getElem?_getD, hb] using this

theorem VL.cons {μ : Mp} {x y : Value} {a b : List Value} (h : VR μ x y) (k : VL μ a b) : VL μ (x :: a) (y :: b) :=
  ⟨by simp [k.1], fun i => by cases i with | zero => simpa using h | succ i => simpa using k.2 i⟩
theorem VL.nil {μ : Mp} : VL μ [] [] := ⟨rfl, fun i => by simp; exact .undef⟩
theorem VL.inv {μ : Mp} {x : Value} {a b : List Value} (h : VL μ (x :: a) b) : ∃ y b', b = y :: b' ∧ VR μ x y ∧ VL μ a b' := by
  obtain ⟨hl, g⟩ := h
  cases b with
  | nil => simp at hl
  | cons y b' => exact ⟨y, b', rfl, by simpa using g 0, by simpa using hl, fun i => by simpa using g (i + 1)⟩
theorem VL.inv_nil {μ : Mp} {b : List Value} (h : VL μ [] b) : b = [] := List.length_eq_zero_iff.mp h.1.symm
theorem VL.append {μ : Mp} {a b c d : List Value} (h : VL μ a b) (k : VL μ c d) : VL μ (a ++ c) (b ++ d) := by
  induction a generalizing b with
  | nil => have := h.inv_nil; subst this; simpa using k
  | cons x a ih => obtain ⟨y, b', rfl, h1, h2⟩ := h.inv; simpa using VL.cons h1 (ih h2)
theorem VL.take {μ : Mp} {a b : List Value} (n : Nat) (h : VL μ a b) : VL μ (a.take n) (b.take n) := by
  induction a generalizing b n with
  | nil => have := h.inv_nil; subst this; simpa using VL.nil
  | cons x a ih => obtain ⟨y, b', rfl, h1, h2⟩ := h.inv; cases n with | zero => simpa using VL.nil | succ n => simpa using VL.cons h1 (ih n h2)
theorem VL.drop {μ : Mp} {a b : List Value} (n : Nat) (h : VL μ a b) : VL μ (a.drop n) (b.drop n) := by
  induction a generalizing b n with
  | nil => have := h.inv_nil; subst this; simpa using VL.nil
  | cons x a ih => obtain ⟨y, b', rfl, h1, h2⟩ := h.inv; cases n with | zero => simpa using VL.cons h1 h2 | succ n => simpa using ih n h2

theorem VR.cells {μ : Mp} {v v' : Value} (h : VR μ v v') : VL μ v.cells.toList v'.cells.toList := by
  cases h with
  | agg ha ga => exact VL.of_arr ha ga
  | slice a b c d e => exact VL.cons (.slice a b c d e) .nil
  | empty a => exact VL.cons (.empty a) .nil
  | _ => first | exact VL.cons (by constructor <;> assumption) .nil

def Mp.upd (μ : Mp) (i : Nat) (l : Loc) : Mp := fun j => if j = i then some l else μ j
theorem Mp.le_upd {μ : Mp} {i : Nat} {l : Loc} (hi : μ i = none) : μ.le (μ.upd i l) := fun j k hj => by
  unfold Mp.upd; split
  · rename_i e; subst e; rw [hi] at hj; cases hj
  · exact hj

theorem ObjR.mono {μ ν : Mp} (hm : μ.le ν) {l : Loc} {b : Blk} {o : Option Obj} (k : ObjR μ l b o) : ObjR ν l b o := by
  cases b with
  | cells C t r => obtain ⟨h1, h0, C', e', fr, h2, h2', h3, h4, h5⟩ := k; exact ⟨h1, h0, C', e', fr, h2, h2', h3, fun j hj => (h4 j hj).mono hm, h5⟩
  | map es => obtain ⟨h1, es', cl, h2, h3, h4⟩ := k; exact ⟨h1, es', cl, h2, h3, fun j hj => by obtain ⟨e', a, kv, b, c, d, e⟩ := h4 j hj; exact ⟨e', a, kv, b, c, d, e.mono hm⟩⟩
  | iter s p => exact k
  | dead => trivial

/-- A new block on both sides. -/
theorem HR.alloc (H : HR w0 μ h w) (blk : Blk) (o : Obj) (e : TypeId) (n : Nat) (hb : ObjR μ ⟨w.heap.size, 0, false, e, w0.sz e, n⟩ blk (some o)) :
    HR w0 (μ.upd h.length ⟨w.heap.size, 0, false, e, w0.sz e, n⟩) (h ++ [blk]) (w.alloc o) ∧ μ.le (μ.upd h.length ⟨w.heap.size, 0, false, e, w0.sz e, n⟩) := by
  have hn : μ h.length = none := by
    cases e : μ h.length with
    | none => rfl
    | some l => exact absurd (H.dom _ _ e).1 (by omega)
  have hle := Mp.le_upd (l := ⟨w.heap.size, 0, false, e, w0.sz e, n⟩) hn
  have old : ∀ i l, μ.upd h.length ⟨w.heap.size, 0, false, e, w0.sz e, n⟩ i = some l → (i = h.length ∧ l = ⟨w.heap.size, 0, false, e, w0.sz e, n⟩) ∨ (i < h.length ∧ l.b < w.heap.size ∧ μ i = some l) := by
    intro i l hi
    unfold Mp.upd at hi
    split at hi
    · rename_i e; cases hi; exact .inl ⟨e, rfl⟩
    · exact .inr ⟨(H.dom _ _ hi).1, (H.dom _ _ hi).2, hi⟩
  refine ⟨⟨H.below.alloc H.below.size o, ?_, ?_, ?_, ?_⟩, hle⟩
  · intro i l hi
    rcases old i l hi with ⟨rfl, rfl⟩ | ⟨h1, h2, -⟩
    · simp
    · simp; omega
  · intro i l b hi hbk
    rcases old i l hi with ⟨rfl, rfl⟩ | ⟨h1, h2, h3⟩
    · simp at hbk; subst hbk
      have : (w.alloc o).heap[w.heap.size]? = some o := by show (w.heap.push o)[w.heap.size]? = _; simp
      show ObjR _ _ _ (w.alloc o).heap[w.heap.size]?
      rw [this]; exact hb.mono hle
    · rw [List.getElem?_append_left h1] at hbk
      rw [Below.heap_alloc w o l.b h2]
      exact (H.obj i l b h3 hbk).mono hle
  · intro i l hi hr
    rcases old i l hi with ⟨rfl, rfl⟩ | ⟨h1, h2, h3⟩
    · exact ⟨H.below.size, rfl⟩
    · exact H.own i l h3 hr
  · intro i j l k hi hj hlk hr hdi hdj
    rcases old i l hi with ⟨rfl, rfl⟩ | ⟨h1, h2, h3⟩
    · rcases old j k hj with ⟨rfl, rfl⟩ | ⟨q1, q2, q3⟩
      · rfl
      · simp at hlk; omega
    · rcases old j k hj with ⟨rfl, rfl⟩ | ⟨q1, q2, q3⟩
      · simp at hlk; omega
      · refine H.one i j l k h3 q3 hlk hr ?_ ?_
        · rwa [List.getElem?_append_left h1] at hdi
        · rwa [List.getElem?_append_left q1] at hdj

theorem HR.none_at (H : HR w0 μ h w) : μ h.length = none := by
  cases e : μ h.length with
  | none => rfl
  | some l => exact absurd (H.dom _ _ e).1 (by omega)

theorem Post.alloc (H : HR w0 μ h w) (blk : Blk) (o : Obj) (e : TypeId) (n : Nat) (hb : ObjR μ ⟨w.heap.size, 0, false, e, w0.sz e, n⟩ blk (some o)) {v v' : Value}
    (hv : VR (μ.upd h.length ⟨w.heap.size, 0, false, e, w0.sz e, n⟩) v v') :
    Post w0 μ h w v (h ++ [blk]) v' (w.alloc o) (μ.upd h.length ⟨w.heap.size, 0, false, e, w0.sz e, n⟩) := by
  obtain ⟨a, b⟩ := H.alloc blk o e n hb
  refine ⟨b, a, hv, by simp, by simp, fun k hk _ => Below.heap_alloc w o k hk, ?_, fun i hi => ?_⟩
  rotate_left
  · rcases Nat.lt_or_ge i h.length with q | q
    · rw [List.getElem?_append_left q]; exact hi
    · rw [List.getElem?_eq_none q] at hi; cases hi
  intro i l hi
  unfold Mp.upd at hi
  split at hi
  · rename_i e; cases hi; subst e; exact .inr ⟨Nat.le_refl _, rfl, .inl (Nat.le_refl _)⟩
  · exact .inl ⟨(H.dom _ _ hi).1, hi⟩

/-- One cell stored into a living block of the call's own. -/
theorem HR.setCell (H : HR w0 μ h w) {i : Nat} {l : Loc} (hi : μ i = some l) {C : List Value} {e : TypeId} (hC : h[i]? = some (.cells C e false)) {o : Nat} (ho : o < C.length) {v v' : Value} (hv : VR μ v v') :
    HR w0 μ (h.set i (.cells (C.set o v) e false)) (w.setCell ⟨l.b, l.base + o, none⟩ v') := by
  obtain ⟨hro, het, C', e', fr, hw, hn, hs, hvr, hfr, -⟩ := H.row hi hC
  have hih : i < h.length := (H.dom i l hi).1
  have hset : ∀ b, (w.setCell ⟨l.b, l.base + o, none⟩ v').heap[b]? = if b = l.b then some (.cells (C'.setIfInBounds (l.base + o) v') e' fr) else w.heap[b]? := by
    intro b
    simp only [World.setCell, Array.getElem?_modify]
    by_cases hb : b = l.b
    · subst hb; simp [hw]
    · rw [if_neg (by simpa using fun h => hb h.symm), if_neg hb]
  refine ⟨H.below.setCell (H.own i l hi hro.symm).1 v', ?_, ?_, ?_, ?_⟩
  · intro j k hj; simpa using H.dom j k hj
  · intro j k b hj hb
    rw [hset]
    by_cases hji : j = i
    · subst hji
      have : l = k := by rw [hi] at hj; cases hj; rfl
      subst this
      rw [List.getElem?_set_self hih] at hb
      cases hb
      rw [if_pos rfl]
      refine ⟨hro, het, _, e', fr, rfl, by simpa using hn, by simpa using hs, ?_, fun _ => hfr rfl, fun _ hc => ?_⟩
      · intro q hq
        simp only [List.length_set] at hq
        by_cases hqo : q = o
        · subst hqo
          have h1 : (C.set q v).getD q undef = v := by simp [List.getD_eq_getElem?_getD, hq]
          have h2 : (C'.setIfInBounds (l.base + q) v').getD (l.base + q) undef = v' := by
            have : l.base + q < C'.size := by omega
            simp [Array.getD_eq_getD_getElem?, this]
          rw [h1, h2]; exact hv
        · have h1 : (C.set o v).getD q undef = C.getD q undef := by
            simp only [List.getD_eq_getElem?_getD]; rw [List.getElem?_set_ne (by omega)]
          have h2 : (C'.setIfInBounds (l.base + o) v').getD (l.base + q) undef = C'.getD (l.base + q) undef := by
            simp only [Array.getD_eq_getD_getElem?]; rw [Array.getElem?_setIfInBounds_ne (by omega)]
          rw [h1, h2]; exact hvr q hq
      · have : C.length = 0 := by simpa using congrArg List.length hc
        omega
    · rw [List.getElem?_set_ne (by omega)] at hb
      by_cases hbk : k.b = l.b
      · rcases Classical.em (b = .dead) with hd | hd
        · subst hd; trivial
        · exact absurd (H.one i j l k hi hj hbk.symm hro.symm (by rw [hC]; simp) (by rw [hb]; simpa using hd)).symm hji
      · rw [if_neg hbk]; exact H.obj j k b hj hb
  · exact H.own
  · intro a c la lc ha hc hb hr hda hdc
    refine H.one a c la lc ha hc hb hr ?_ ?_
    · intro hd; apply hda
      by_cases hai : a = i
      · subst hai; rw [hC] at hd; cases hd
      · rw [List.getElem?_set_ne (by omega)]; exact hd
    · intro hd; apply hdc
      by_cases hai : c = i
      · subst hai; rw [hC] at hd; cases hd
      · rw [List.getElem?_set_ne (by omega)]; exact hd

theorem splice_cons {C : List Value} {o : Nat} {v : Value} {vs : List Value} (h : o < C.length) : splice C o (v :: vs) = splice (C.set o v) (o + 1) vs := by
  unfold splice
  rw [List.take_set, List.drop_set_of_lt (by omega)]
  have : (C.take (o + 1)).set o v = C.take o ++ [v] := by
    rw [List.take_succ_eq_append_getElem h, List.set_append, if_neg (by simp; omega)]
    simp [Nat.min_eq_left (Nat.le_of_lt h)]
  rw [this]
  simp [Nat.add_comm, Nat.add_left_comm]

theorem splice_nil {C : List Value} {o : Nat} : splice C o [] = C := by simp [splice]

theorem VR.one {μ : Mp} {v v' : Value} (h : VR μ v v') (k : v.oneCell' = true) : v'.oneCell' = true := by
  cases h <;> first | rfl | simp [Value.oneCell'] at k

theorem cell_frozen_own (H : HR w0 μ h w) {i : Nat} {l : Loc} (hi : μ i = some l) {C : List Value} {e : TypeId} (hC : h[i]? = some (.cells C e false)) (o : Nat) : w.frozen? ⟨l.b, o, none⟩ = false := by
  obtain ⟨-, -, C', e', fr, hw, -, -, -, hfr, -⟩ := H.row hi hC
  have := hfr rfl; subst this
  simp [World.frozen?, hw]

/-- Cells stored one after another into a living block of the call's own. -/
theorem HR.storeCells {P : Program} (vs : List Value) : ∀ {h : AH} {w : World} (_ : HR w0 μ h w) {i : Nat} {l : Loc} (_ : μ i = some l) {C : List Value} {e : TypeId} (_ : h[i]? = some (.cells C e false)) (o j : Nat) (_ : o + j + vs.length ≤ C.length)
    (_ : vs.all Value.oneCell' = true) {vs' : List Value} (_ : VL μ vs vs'),
    ∃ w', (storeCells ⟨l.b, l.base + o, none⟩ vs' j).run P w = .ok () w' ∧ HR w0 μ (h.set i (.cells (splice C (o + j) vs) e false)) w' ∧ w'.heap.size = w.heap.size ∧
      ∀ b, b ≠ l.b → w'.heap[b]? = w.heap[b]? := by
  induction vs with
  | nil =>
    intro h w H i l hi C e hC o j _ _ vs' hv
    have := hv.inv_nil; subst this
    refine ⟨w, by simp [Go.storeCells], ?_, rfl, fun _ _ => rfl⟩
    rw [splice_nil]
    rw [show h.set i (.cells C e false) = h from by
      apply List.ext_getElem?; intro q
      by_cases hq : q = i
      · subst hq; rw [List.getElem?_set_self (H.dom _ _ hi).1, hC]
      · rw [List.getElem?_set_ne (by omega)]]
    exact H
  | cons v vs ih =>
    intro h w H i l hi C e hC o j hlen hone vs' hv
    obtain ⟨v', vs'', rfl, hv1, hv2⟩ := hv.inv
    simp only [List.all_cons, Bool.and_eq_true] at hone
    have hlt : o + j < C.length := by simp at hlen; omega
    have hih : i < h.length := (H.dom i l hi).1
    have H1 := H.setCell hi hC hlt hv1
    obtain ⟨cv, hcv, -⟩ := H.cell hi (C := C) (by simp [rowA, hC]) (j := o + j) (v := C[o + j]) (by simp [hlt])
    have hcv' : w.cell? ⟨l.b, l.base + o + j, none⟩ = some cv := by rw [← hcv]; congr 2; omega
    have ha : (Addr.add ⟨l.b, l.base + o, none⟩ j) = ⟨l.b, l.base + o + j, none⟩ := by unfold Addr.add; split <;> simp_all
    have hC1 : (h.set i (.cells (C.set (o + j) v) e false))[i]? = some (.cells (C.set (o + j) v) e false) := List.getElem?_set_self hih
    obtain ⟨w', hw', H', hsz, hfr⟩ := ih H1 hi hC1 o (j + 1) (by simp at hlen ⊢; omega) hone.2 hv2
    refine ⟨w', ?_, ?_, ?_, ?_⟩
    · simp only [Go.storeCells, Sem.run_bind, ha]
      rw [run_store P w _ _ _ (hv1.one hone.1), hcv']
      simp only [cell_frozen_own H hi hC, Result.andThen_ok, Bool.false_eq_true, if_false]
      rw [show l.base + o + j = l.base + (o + j) by omega]
      exact hw'
    · rw [List.set_set] at H'
      rw [splice_cons hlt]; exact H'
    · rw [hsz]; simp
    · intro b hb; rw [hfr b hb]; exact Below.heap_setCell w _ v' b hb

end
end Go.AM
