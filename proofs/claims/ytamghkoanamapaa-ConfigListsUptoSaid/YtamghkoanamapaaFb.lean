/- The single operations, for simp. No condition. -/
import Derived.Test.YtamghkoanamapaaFa
namespace Go.AM
open Go.RowKit

section
variable {P : Program} {t : TypeId} {k : IntKind} {a b : Int}

theorem still_pure {v : Value} {x : Sem Value} (h : x.run P default = .ok v default) : still P x = some v := by simp [still, h]

theorem bin_add : binA P .add t (.int k a) (.int k b) = some (.int k (k.wrap (a + b))) := by simp [binA, still, binOp, Op.intArith]
theorem bin_sub : binA P .sub t (.int k a) (.int k b) = some (.int k (k.wrap (a - b))) := by simp [binA, still, binOp, Op.intArith]
theorem bin_mul : binA P .mul t (.int k a) (.int k b) = some (.int k (k.wrap (a * b))) := by simp [binA, still, binOp, Op.intArith]
theorem bin_quo : binA P .quo t (.int k a) (.int k b) = if b = 0 then none else some (.int k (k.wrap (a.tdiv b))) := by
  by_cases h : b = 0 <;> simp [binA, still, binOp, Op.intDiv, h, runtimePanic]
theorem bin_rem : binA P .rem t (.int k a) (.int k b) = if b = 0 then none else some (.int k (a.tmod b)) := by
  by_cases h : b = 0 <;> simp [binA, still, binOp, Op.intDiv, h, runtimePanic]
theorem bin_shl {k' : IntKind} : binA P .shl t (.int k a) (.int k' b) = if b < 0 then none else some (.int k (k.wrap (a * 2 ^ (min b.toNat k.bits)))) := by
  by_cases h : b < 0 <;> simp [binA, still, binOp, Op.shift, h, runtimePanic]
theorem bin_shr {k' : IntKind} : binA P .shr t (.int k a) (.int k' b) = if b < 0 then none else some (.int k (a / (2 ^ (min b.toNat k.bits)))) := by
  by_cases h : b < 0 <;> simp [binA, still, binOp, Op.shift, h, runtimePanic]
  exact Int.fdiv_eq_ediv_of_nonneg _ (Int.pow_nonneg (by decide))
theorem bits_i64 : IntKind.i64.bits = 64 := rfl
theorem bin_and : binA P .and t (.int k a) (.int k b) = some (.int k (k.wrap (BitVec.ofInt k.bits a &&& BitVec.ofInt k.bits b).toNat)) := by simp [binA, still, binOp, Op.intBits]
theorem bin_xor : binA P .xor t (.int k a) (.int k b) = some (.int k (k.wrap (BitVec.ofInt k.bits a ^^^ BitVec.ofInt k.bits b).toNat)) := by simp [binA, still, binOp, Op.intBits]
theorem bin_or : binA P .or t (.int k a) (.int k b) = some (.int k (k.wrap (BitVec.ofInt k.bits a ||| BitVec.ofInt k.bits b).toNat)) := by simp [binA, still, binOp, Op.intBits]
theorem bin_eql : binA P .eql t (.int k a) (.int k b) = some (.bool (decide (a = b))) := by
  simp [binA, still, binOp, Op.intCmp]; rfl
theorem bin_neq : binA P .neq t (.int k a) (.int k b) = some (.bool (!decide (a = b))) := by
  simp [binA, still, binOp, Op.intCmp]; rfl
theorem bin_lss : binA P .lss t (.int k a) (.int k b) = some (.bool (decide (a < b))) := by simp [binA, still, binOp, Op.intCmp]
theorem bin_leq : binA P .leq t (.int k a) (.int k b) = some (.bool (decide (a ≤ b))) := by simp [binA, still, binOp, Op.intCmp]
theorem bin_gtr : binA P .gtr t (.int k a) (.int k b) = some (.bool (decide (b < a))) := by simp [binA, still, binOp, Op.intCmp]
theorem bin_geq : binA P .geq t (.int k a) (.int k b) = some (.bool (decide (b ≤ a))) := by simp [binA, still, binOp, Op.intCmp]
theorem un_neg : unA P .neg (.int k a) = some (.int k (k.wrap (-a))) := by simp [unA, still, Op.unary, Op.intArith, Af.int]
theorem un_not {x : Bool} : unA P .not (.bool x) = some (.bool (!x)) := by simp [unA, still, Op.unary, Af.bool]

theorem oneCell_int : Value.oneCell' (.int k a) = true := rfl

/-- Small whole numbers are not wrapped. -/
theorem wrap_id {n : Int} (h1 : -9223372036854775808 ≤ n) (h2 : n ≤ 9223372036854775807) : IntKind.i64.wrap n = n := by
  rw [IntKind.wrap_i64]; omega

theorem min_2 : minA [.int k a, .int k b] = some (.int k (min a b)) := by
  simp only [minA, List.foldlM_cons, List.foldlM_nil, Option.bind_eq_bind, Option.bind_some, Option.pure_def]
  congr 2
  rw [Int.min_def]
  split <;> split <;> omega
theorem max_2 : maxA [.int k a, .int k b] = some (.int k (max a b)) := by
  simp only [maxA, List.foldlM_cons, List.foldlM_nil, Option.bind_eq_bind, Option.bind_some, Option.pure_def]
  congr 2
  rw [Int.max_def]
  split <;> split <;> omega

theorem ev_tmp {s : Slots} {x : Nat} : ev s (.tmp x) = s x := rfl
theorem ev_const {s : Slots} {v : Value} : ev s (.const v) = v := rfl
theorem ev_func {s : Slots} {f : Nat} : ev s (.func f) = .func (.func f) #[] #[] := rfl
theorem set_at {s : Slots} {d x : Nat} {v : Value} : s.set d v x = if x = d then v else s x := rfl
theorem put_some {s : Slots} {d : Nat} {v : Value} : s.put (some d) v = s.set d v := rfl
theorem put_none {s : Slots} {v : Value} : s.put none v = s := rfl

/-- A store over a store. -/
theorem set_set {s : Slots} {d : Nat} {u v : Value} : (s.set d u).set d v = s.set d v := by funext t; simp [Slots.set]; split <;> rfl
end
end Go.AM
