/- The relation between the abstract heap and the machine's memory; that it is kept by what writes. No condition. -/
import Derived.Test.YtamghkoanamapaaEa
namespace Go.AM
open Go.RowKit

/-- Where the call began, and the sizes of the types. -/
structure Ctx where
  w : World
  sz : TypeId → Nat

/-- Where an abstract block lies: the machine's block, the first cell; did it come in with the arguments? The elements' type and size, and how many cells the machine's block has. -/
structure Loc where
  b : Nat
  base : Nat
  ro : Bool
  e : TypeId
  k : Nat
  n : Nat

abbrev Mp := Nat → Option Loc

/-- Two values of one shape: the addresses go by the map. -/
inductive VR (μ : Mp) : Value → Value → Prop where
  | bool (b) : VR μ (.bool b) (.bool b)
  | int (k n) : VR μ (.int k n) (.int k n)
  | float (k n) : VR μ (.float k n) (.float k n)
  | complex (k a b) : VR μ (.complex k a b) (.complex k a b)
  | string (s) : VR μ (.string s) (.string s)
  | ptr0 : VR μ (.pointer none) (.pointer none)
  | ptr {i o l} (h : μ i = some l) : VR μ (.pointer (some ⟨i, o, none⟩)) (.pointer (some ⟨l.b, l.base + o, none⟩))
  | slice0 (n c) : VR μ (.slice none n c) (.slice none n c)
  | slice {i o n c c' l} (h : μ i = some l) (h0 : 0 < c) (hc : c ≤ c') (hr : l.ro = true → c' = c) (hn : c' = c ∨ l.base + o + c' * l.k ≤ l.n) :
      VR μ (.slice (some ⟨i, o, none⟩) n c) (.slice (some ⟨l.b, l.base + o, none⟩) n c')
  | empty {i o l} (h : μ i = some l) : VR μ (.slice (some ⟨i, o, none⟩) 0 0) (.slice (some ⟨l.b, l.base + o, none⟩) 0 0)
  | vague {i o a c} : VR μ (.slice (some ⟨i, o, some 1⟩) 0 0) (.slice (some a) 0 c)
  | map0 : VR μ (.map none) (.map none)
  | map {i l} (h : μ i = some l) : VR μ (.map (some i)) (.map (some l.b))
  | func0 : VR μ .nilFunc .nilFunc
  | func (f) {a a' b b' : Array Value} (ha : a.size = a'.size) (ga : ∀ i, VR μ (a.getD i undef) (a'.getD i undef))
      (hb : b.size = b'.size) (gb : ∀ i, VR μ (b.getD i undef) (b'.getD i undef)) : VR μ (.func (.func f) a b) (.func (.func f) a' b')
  | iface0 : VR μ .nilIface .nilIface
  | iface (t) {v v'} (h : VR μ v v') : VR μ (.iface t v) (.iface t v')
  | agg {a a' : Array Value} (ha : a.size = a'.size) (ga : ∀ i, VR μ (a.getD i undef) (a'.getD i undef)) : VR μ (.agg a) (.agg a')
  | undef : VR μ (.tuple #[]) (.tuple #[])
  | tuple {a a' : Array Value} (ha : a.size = a'.size) (ga : ∀ i, VR μ (a.getD i undef) (a'.getD i undef)) : VR μ (.tuple a) (.tuple a')

def VL (μ : Mp) (a b : List Value) : Prop := a.length = b.length ∧ ∀ i, VR μ (a.getD i Go.undef) (b.getD i Go.undef)

def Mp.le (μ ν : Mp) : Prop := ∀ i l, μ i = some l → ν i = some l
theorem Mp.le_refl (μ : Mp) : μ.le μ := fun _ _ h => h
theorem Mp.le_trans {a b c : Mp} (h : a.le b) (k : b.le c) : a.le c := fun i l x => k i l (h i l x)

theorem VR.mono {μ ν : Mp} (hm : μ.le ν) {v v' : Value} (h : VR μ v v') : VR ν v v' := by
  induction h with
  | bool => exact .bool _
  | int => exact .int _ _
  | float => exact .float _ _
  | complex => exact .complex _ _ _
  | string => exact .string _
  | ptr0 => exact .ptr0
  | ptr h => exact .ptr (hm _ _ h)
  | slice0 => exact .slice0 _ _
  | slice h h0 hc hr hn => exact .slice (hm _ _ h) h0 hc hr hn
  | empty h => exact .empty (hm _ _ h)
  | vague => exact .vague
  | map0 => exact .map0
  | map h => exact .map (hm _ _ h)
  | func0 => exact .func0
  | func f ha _ hb _ ia ib => exact .func f ha ia hb ib
  | iface0 => exact .iface0
  | iface t _ ih => exact .iface t ih
  | agg ha _ ih => exact .agg ha ih
  | undef => exact .undef
  | tuple ha _ ih => exact .tuple ha ih

/-- What has been seen under one map, and again under a greater one, holds of the first. -/
theorem VR.back {μ ν : Mp} (hm : μ.le ν) {v v' : Value} (h : VR μ v v') : ∀ {v'' : Value}, VR ν v v'' → VR μ v v'' := by
  induction h with
  | bool => intro _ k; cases k; exact .bool _
  | int => intro _ k; cases k; exact .int _ _
  | float => intro _ k; cases k; exact .float _ _
  | complex => intro _ k; cases k; exact .complex _ _ _
  | string => intro _ k; cases k; exact .string _
  | ptr0 => intro _ k; cases k; exact .ptr0
  | ptr h =>
    intro _ k; cases k with
    | ptr h' => have := hm _ _ h; rw [h'] at this; cases this; exact .ptr h
  | slice0 => intro _ k; cases k; exact .slice0 _ _
  | slice h h0 hc hr hn =>
    intro _ k; cases k with
    | slice h' _ hc' hr' hn' => have := hm _ _ h; rw [h'] at this; cases this; exact .slice h h0 hc' hr' hn'
    | empty h' => exact absurd h0 (by omega)
  | empty h =>
    intro _ k; cases k with
    | slice h' h0 hc' hr' hn' => exact absurd h0 (by omega)
    | empty h' => have := hm _ _ h; rw [h'] at this; cases this; exact .empty h
  | vague => intro _ k; cases k; exact .vague
  | map0 => intro _ k; cases k; exact .map0
  | map h => intro _ k; cases k with
    | map h' => have := hm _ _ h; rw [h'] at this; cases this; exact .map h
  | func0 => intro _ k; cases k; exact .func0
  | func f ha _ hb _ ia ib => intro _ k; cases k with
    | func _ ha' ga' hb' gb' => exact .func f ha' (fun i => ia i (ga' i)) hb' (fun i => ib i (gb' i))
  | iface0 => intro _ k; cases k; exact .iface0
  | iface t _ ih => intro _ k; cases k with
    | iface _ h' => exact .iface t (ih h')
  | agg ha _ ih => intro _ k; cases k with
    | agg ha' ga' => exact .agg ha' (fun i => ih i (ga' i))
  | undef => intro _ k; cases k with
    | undef => exact .undef
    | tuple ha' _ =>
      have e := Array.eq_empty_of_size_eq_zero ha'.symm
      subst e; exact .undef
  | tuple ha _ ih => intro _ k; cases k with
    | undef => exact .undef
    | tuple ha' ga' => exact .tuple ha' (fun i => ih i (ga' i))

theorem getD_mem {a : Array Value} {i : Nat} (h : i < a.size) : a.getD i Go.undef ∈ a := by
  simp [Array.getD, h]

theorem array_ext_getD {a b : Array Value} (h : a.size = b.size) (g : ∀ i, i < a.size → a.getD i Go.undef = b.getD i Go.undef) : a = b := by
  apply Array.ext h
  intro i h1 h2
  have := g i h1
  simpa [Array.getD, h1, h2] using this

theorem VR.eq_of_af {v : Value} (h : Af v) : ∀ {μ : Mp} {v' : Value}, VR μ v v' → v' = v := by
  induction h with
  | bool => intro _ _ k; cases k; rfl
  | int => intro _ _ k; cases k; rfl
  | string => intro _ _ k; cases k; rfl
  | ptr0 => intro _ _ k; cases k; rfl
  | slice0 => intro _ _ k; cases k; rfl
  | map0 => intro _ _ k; cases k; rfl
  | func0 => intro _ _ k; cases k; rfl
  | iface0 => intro _ _ k; cases k; rfl
  | iface t _ ih => intro _ _ k; cases k with | iface _ h => rw [ih h]
  | func f ha hb ia ib => intro _ _ k; cases k with
    | func _ sa ga sb gb =>
      rw [array_ext_getD sa fun i hi => (ia _ (getD_mem hi) (ga i)).symm, array_ext_getD sb fun i hi => (ib _ (getD_mem hi) (gb i)).symm]
  | agg ha ia => intro _ _ k; cases k with
    | agg sa ga => rw [array_ext_getD sa fun i hi => (ia _ (getD_mem hi) (ga i)).symm]
  | tuple ha ia => intro _ _ k; cases k with
    | undef => rfl
    | tuple sa ga => rw [array_ext_getD sa fun i hi => (ia _ (getD_mem hi) (ga i)).symm]

theorem VR.of_undef (μ : Mp) : VR μ Go.undef Go.undef := .undef

theorem VR.of_af {μ : Mp} {v : Value} (h : Af v) : VR μ v v := by
  have arr : ∀ (a : Array Value), (∀ v ∈ a, VR μ v v) → ∀ i, VR μ (a.getD i Go.undef) (a.getD i Go.undef) := by
    intro a g i
    by_cases hi : i < a.size
    · exact g _ (getD_mem hi)
    · simp [Array.getD, hi]; exact .undef
  induction h with
  | bool => exact .bool _
  | int => exact .int _ _
  | string => exact .string _
  | ptr0 => exact .ptr0
  | slice0 => exact .slice0 _ _
  | map0 => exact .map0
  | func0 => exact .func0
  | iface0 => exact .iface0
  | iface t _ ih => exact .iface t ih
  | func f ha hb ia ib => exact .func f rfl (arr _ ia) rfl (arr _ ib)
  | agg ha ia => exact .agg rfl (arr _ ia)
  | tuple ha ia => exact .tuple rfl (arr _ ia)

def ObjR (μ : Mp) (l : Loc) : Blk → Option Obj → Prop
  | .cells C e ro, o => ro = l.ro ∧ (ro = false → e = l.e) ∧ ∃ C' e' fr, o = some (.cells C' e' fr) ∧ C'.size = l.n ∧ l.base + C.length ≤ l.n ∧
      (∀ j, j < C.length → VR μ (C.getD j undef) (C'.getD (l.base + j) undef)) ∧ (ro = false → fr = (0, 0)) ∧ (ro = false → C = [] → l.n = 0)
  | .map es, o => l.ro = false ∧ ∃ es' clock, o = some (.map es' clock) ∧ es.length = es'.size ∧
      ∀ j, j < es.length → ∃ e', es'[j]? = some e' ∧ ∃ kv, es[j]? = some kv ∧ e'.key = kv.1 ∧ Af kv.1 ∧ VR μ kv.2 e'.val
  | .iter s pos, o => l.ro = false ∧ l.base = 0 ∧ o = some (.stringIter s pos)
  | .dead, _ => True

/-- The memory reads as the abstract heap says. 'w0': where the call began: of its blocks nothing has turned. -/
structure HR (w0 : Ctx) (μ : Mp) (h : AH) (w : World) : Prop where
  below : Below w0.w.heap.size w0.w w
  dom : ∀ i l, μ i = some l → i < h.length ∧ l.b < w.heap.size
  obj : ∀ i l b, μ i = some l → h[i]? = some b → ObjR μ l b w.heap[l.b]?
  own : ∀ i l, μ i = some l → l.ro = false → w0.w.heap.size ≤ l.b ∧ l.k = w0.sz l.e
  one : ∀ i j l k, μ i = some l → μ j = some k → l.b = k.b → l.ro = false → h[i]? ≠ some .dead → h[j]? ≠ some .dead → i = j

/-- What a step of the machine leaves alone: the blocks that are no living block of the call's own. -/
def Leaves (μ : Mp) (h : AH) (w w' : World) : Prop :=
  ∀ b, b < w.heap.size → (∀ i l, μ i = some l → l.ro = false → l.b = b → h[i]? = some .dead) → w'.heap[b]? = w.heap[b]?

/-- Where the new blocks lie: in new memory, or where a living block of the call's own lay. -/
def Fresh (μ ν : Mp) (h : AH) (w : World) : Prop :=
  ∀ i l, ν i = some l → (i < h.length ∧ μ i = some l) ∨ (h.length ≤ i ∧ l.ro = false ∧ (w.heap.size ≤ l.b ∨ ∃ j k, μ j = some k ∧ k.ro = false ∧ k.b = l.b ∧ h[j]? ≠ some .dead))

/-- What holds behind a step. -/
structure Post (w0 : Ctx) (μ : Mp) (h : AH) (w : World) (v : Value) (h' : AH) (v' : Value) (w' : World) (ν : Mp) : Prop where
  le : μ.le ν
  hr : HR w0 ν h' w'
  vr : VR ν v v'
  len : h.length ≤ h'.length
  size : w.heap.size ≤ w'.heap.size
  leaves : Leaves μ h w w'
  fresh : Fresh μ ν h w
  dead : ∀ i : Nat, h[i]? = some .dead → h'[i]? = some .dead

theorem Leaves.refl (μ : Mp) (h : AH) (w : World) : Leaves μ h w w := fun _ _ _ => rfl
theorem Fresh.refl {w0 : Ctx} {μ : Mp} {h : AH} {w : World} (H : HR w0 μ h w) : Fresh μ μ h w := fun i l hi => .inl ⟨(H.dom i l hi).1, hi⟩

theorem Post.same {w0 : Ctx} {μ : Mp} {h : AH} {w : World} {v v' : Value} (H : HR w0 μ h w) (hv : VR μ v v') : Post w0 μ h w v h v' w μ :=
  ⟨Mp.le_refl _, H, hv, Nat.le_refl _, Nat.le_refl _, .refl _ _ _, .refl H, fun _ h => h⟩

end Go.AM
