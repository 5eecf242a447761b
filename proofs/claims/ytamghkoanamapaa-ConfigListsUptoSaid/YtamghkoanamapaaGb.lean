/- Intervals and whole numbers: the functions without loops. No condition. -/
import Derived.Test.YtamghkoanamapaaGa
namespace Go.AM.Try
open Go.Proofs
set_option maxRecDepth 100000
set_option linter.unusedSimpArgs false
set_option linter.unusedVariables false
attribute [-simp] Bool.decide_and Bool.decide_or
set_option pp.deepTerms false
set_option pp.maxSteps 1500

abbrev tI : Ty Try.prog 37 (Int × Int) := Ty.agg (fun x => [.int .i64 x.1, .int .i64 x.2]) 2 (by decide) sz37 agg37 (fun _ => rfl) (fun x y hy => by simp at hy; rcases hy with rfl | rfl <;> constructor) (fun _ => rfl)
abbrev tN : Ty Try.prog 2 Int := Ty.scalar (fun x => .int .i64 x) sz2 agg2 (fun _ => rfl) (fun _ => .int _ _) (fun _ => rfl)
abbrev tZ : Ty Try.prog 3 Int := Ty.scalar (fun x => .int .i64 x) sz3 agg3 (fun _ => rfl) (fun _ => .int _ _) (fun _ => rfl)

def Vld (x : Int × Int) : Prop := -2147483648 ≤ x.1 ∧ x.1 ≤ x.2 ∧ x.2 ≤ 2147483648
instance (x : Int × Int) : Decidable (Vld x) := by unfold Vld; infer_instance

theorem good15 : fnB Try.prog 15 = true := by kernel_rfl
theorem c15 {a b : Int} {h : AH} (hb : 0 < b) (hb' : b ≤ 9223372036854775807) : callP Try.prog 15 [.int .i64 a, .int .i64 b] h = some (.int .i64 (a % b), h) := by
  refine call_of good15 Try.func15 rfl rfl ?_
  simp [show b ≠ 0 by omega]
  have h1 := Int.tmod_eq_emod (a := a) (b := b)
  have h2 := Int.emod_nonneg a (show b ≠ 0 by omega)
  have h3 := Int.emod_lt_of_pos a hb
  by_cases hd : 0 ≤ a ∨ b ∣ a
  · rw [if_pos hd] at h1
    refine caseQ_intro (fun hp => by omega) fun _ => ?_
    simp; omega
  · rw [if_neg hd] at h1
    refine caseQ_intro (fun _ => ?_) fun hp => by omega
    simp
    rw [show a.tmod b + b = a % b by omega, wrap_id (by omega) (by omega)]

def mid (x : Int × Int) : Int := if Vld x then (x.1 + x.2) / 2 else 0
def wid (x : Int × Int) : Int := if Vld x then x.2 - x.1 else 0
def hul (x y : Int × Int) : Int × Int := if Vld x ∧ Vld y then (min x.1 y.1, max x.2 y.2) else (0, 0)
def wth (x y : Int × Int) : Prop := Vld x ∧ Vld y ∧ y.1 ≤ x.1 ∧ x.2 ≤ y.2
instance (x y : Int × Int) : Decidable (wth x y) := by unfold wth; infer_instance
def has (x : Int × Int) (n : Int) : Prop := Vld x ∧ x.1 ≤ n ∧ n ≤ x.2
instance (x : Int × Int) (n : Int) : Decidable (has x n) := by unfold has; infer_instance
def met (x y : Int × Int) : Prop := Vld x ∧ Vld y ∧ x.1 ≤ y.2 ∧ y.1 ≤ x.2
instance (x y : Int × Int) : Decidable (met x y) := by unfold met; infer_instance
def mt (x y : Int × Int) : Int × Int := if met x y then (max x.1 y.1, min x.2 y.2) else (0, 0)
def clp (n : Int) : Int := min (max n (-2147483648)) 2147483648
theorem build37 {k k' : IntKind} {x y : Int} : buildA Try.prog 37 [(0, .int k x), (1, .int k' y)] = some (.agg #[.int k x, .int k' y]) := by kernel_rfl
theorem build37' : buildA Try.prog 37 [] = some (.agg #[.int .i64 0, .int .i64 0]) := by kernel_rfl
attribute [simp] build37 build37'

theorem good88 : fnB Try.prog 88 = true := by kernel_rfl
theorem c88 {x : Int × Int} {h : AH} : callP Try.prog 88 [(.agg #[.int .i64 (x).1, .int .i64 (x).2])] h = some (.bool (decide (Vld x)), h) := by
  refine call_of good88 Try.func88 rfl rfl ?_
  simp [Vld]
  repeat' (refine caseQ_intro (fun hp => ?_) (fun hp => ?_) <;> simp [Vld, *])
theorem good80 : fnB Try.prog 80 = true := by kernel_rfl
theorem c80 {x : Int × Int} {h : AH} : callP Try.prog 80 [(.agg #[.int .i64 (x).1, .int .i64 (x).2])] h = some (.bool (decide (Vld x)), h) := by
  refine call_of good80 Try.func80 rfl rfl ?_
  simp [Vld]
  repeat' (refine caseQ_intro (fun hp => ?_) (fun hp => ?_) <;> simp [Vld, *])
theorem good90 : fnB Try.prog 90 = true := by kernel_rfl
theorem c90 {x y : Int × Int} {h : AH} : callP Try.prog 90 [(.agg #[.int .i64 (x).1, .int .i64 (x).2]), (.agg #[.int .i64 (y).1, .int .i64 (y).2])] h = some (.bool (decide (Vld x ∧ Vld y)), h) := by
  refine call_of good90 Try.func90 rfl rfl ?_
  simp [c88]
  repeat' (refine caseQ_intro (fun hp => ?_) (fun hp => ?_) <;> simp [c88, *])
theorem good54 : fnB Try.prog 54 = true := by kernel_rfl
theorem c54 {x : Int × Int} {h : AH} : callP Try.prog 54 [(.agg #[.int .i64 (x).1, .int .i64 (x).2])] h = some (.int .i64 (mid x), h) := by
  refine call_of good54 Try.func54 rfl rfl ?_
  simp [c88, mid]
  repeat' (refine caseQ_intro (fun hp => ?_) (fun hp => ?_) <;> simp [c88, mid, *])
  unfold Vld at hp; rw [wrap_id (by omega) (by omega)]
theorem good59 : fnB Try.prog 59 = true := by kernel_rfl
theorem c59 {x : Int × Int} {h : AH} : callP Try.prog 59 [(.agg #[.int .i64 (x).1, .int .i64 (x).2])] h = some (.int .i64 (wid x), h) := by
  refine call_of good59 Try.func59 rfl rfl ?_
  simp [c88, wid]
  repeat' (refine caseQ_intro (fun hp => ?_) (fun hp => ?_) <;> simp [c88, wid, *])
  unfold Vld at hp; rw [wrap_id (by omega) (by omega)]
theorem good56 : fnB Try.prog 56 = true := by kernel_rfl
theorem c56 {x : Int × Int} {n : Int} {h : AH} : callP Try.prog 56 [(.agg #[.int .i64 (x).1, .int .i64 (x).2]), (.int .i64 (n))] h = some (.bool (decide (has x n)), h) := by
  refine call_of good56 Try.func56 rfl rfl ?_
  simp [c88, has]
  repeat' (refine caseQ_intro (fun hp => ?_) (fun hp => ?_) <;> simp [c88, has, *])
theorem good50 : fnB Try.prog 50 = true := by kernel_rfl
theorem c50 {x : Int × Int} {n : Int} {h : AH} : callP Try.prog 50 [(.agg #[.int .i64 (x).1, .int .i64 (x).2]), (.int .i64 (n))] h = some (.bool (decide (has x n)), h) := by
  refine call_of good50 Try.func50 rfl rfl ?_
  simp [c80, has]
  repeat' (refine caseQ_intro (fun hp => ?_) (fun hp => ?_) <;> simp [c80, has, *])
theorem good63 : fnB Try.prog 63 = true := by kernel_rfl
theorem c63 {x y : Int × Int} {h : AH} : callP Try.prog 63 [(.agg #[.int .i64 (x).1, .int .i64 (x).2]), (.agg #[.int .i64 (y).1, .int .i64 (y).2])] h = some (.bool (decide (wth x y)), h) := by
  refine call_of good63 Try.func63 rfl rfl ?_
  simp [c90, wth]
  repeat' (refine caseQ_intro (fun hp => ?_) (fun hp => ?_) <;> simp [c90, wth, *])
  exact decide_eq_false fun q => hp ⟨q.1, q.2.1⟩
theorem good42 : fnB Try.prog 42 = true := by kernel_rfl
theorem c42 {x y : Int × Int} {h : AH} : callP Try.prog 42 [(.agg #[.int .i64 (x).1, .int .i64 (x).2]), (.agg #[.int .i64 (y).1, .int .i64 (y).2])] h = some (.bool (decide (wth x y)), h) := by
  refine call_of good42 Try.func42 rfl rfl ?_
  simp [c80, wth]
  repeat' (refine caseQ_intro (fun hp => ?_) (fun hp => ?_) <;> simp [c80, wth, *])
theorem good62 : fnB Try.prog 62 = true := by kernel_rfl
theorem c62 {x y : Int × Int} {h : AH} : callP Try.prog 62 [(.agg #[.int .i64 (x).1, .int .i64 (x).2]), (.agg #[.int .i64 (y).1, .int .i64 (y).2])] h = some ((.agg #[.int .i64 ((hul x y)).1, .int .i64 ((hul x y)).2]), h) := by
  refine call_of good62 Try.func62 rfl rfl ?_
  simp [c90, hul]
  repeat' (refine caseQ_intro (fun hp => ?_) (fun hp => ?_) <;> simp [c90, hul, *])
theorem good43 : fnB Try.prog 43 = true := by kernel_rfl
theorem c43 {x y : Int × Int} {h : AH} : callP Try.prog 43 [(.agg #[.int .i64 (x).1, .int .i64 (x).2]), (.agg #[.int .i64 (y).1, .int .i64 (y).2])] h = some ((.agg #[.int .i64 ((hul x y)).1, .int .i64 ((hul x y)).2]), h) := by
  refine call_of good43 Try.func43 rfl rfl ?_
  simp [c80, hul]
  repeat' (refine caseQ_intro (fun hp => ?_) (fun hp => ?_) <;> simp [c80, hul, *])
theorem good121 : fnB Try.prog 121 = true := by kernel_rfl
theorem c121 {n : Int} {h : AH} : callP Try.prog 121 [(.int .i64 (n))] h = some ((.int .i64 ((clp n))), h) := by
  refine call_of good121 Try.func121 rfl rfl ?_
  simp [clp]
  repeat' (refine caseQ_intro (fun hp => ?_) (fun hp => ?_) <;> simp [clp, *])
theorem good118 : fnB Try.prog 118 = true := by kernel_rfl
theorem c118 {m n : Int} {h : AH} : callP Try.prog 118 [(.int .i64 (m)), (.int .i64 (n))] h = some ((.agg #[.int .i64 ((clp m, clp n)).1, .int .i64 ((clp m, clp n)).2]), h) := by
  refine call_of good118 Try.func118 rfl rfl ?_
  simp [c121]
  repeat' (refine caseQ_intro (fun hp => ?_) (fun hp => ?_) <;> simp [c121, *])
theorem good109 : fnB Try.prog 109 = true := by kernel_rfl
theorem c109 {n : Int} {h : AH} : callP Try.prog 109 [(.int .i64 (n))] h = some ((.agg #[.int .i64 ((clp n, clp n)).1, .int .i64 ((clp n, clp n)).2]), h) := by
  refine call_of good109 Try.func109 rfl rfl ?_
  simp [c118]
  repeat' (refine caseQ_intro (fun hp => ?_) (fun hp => ?_) <;> simp [c118, *])
theorem good95 : fnB Try.prog 95 = true := by kernel_rfl
theorem c95 {n : Int} {h : AH} : callP Try.prog 95 [(.int .i64 (n))] h = some (.bool (decide (n < -2147483648 ∨ 2147483648 < n)), h) := by
  refine call_of good95 Try.func95 rfl rfl ?_
  simp []
  repeat' (refine caseQ_intro (fun hp => ?_) (fun hp => ?_) <;> simp [*])
  all_goals (exfalso; omega)
theorem good87 : fnB Try.prog 87 = true := by kernel_rfl
theorem c87 {x : Int × Int} {h : AH} : callP Try.prog 87 [(.agg #[.int .i64 (x).1, .int .i64 (x).2])] h = some (.bool (!decide (Vld x)), h) := by
  refine call_of good87 Try.func87 rfl rfl ?_
  simp [c88]
  repeat' (refine caseQ_intro (fun hp => ?_) (fun hp => ?_) <;> simp [c88, *])
theorem good89 : fnB Try.prog 89 = true := by kernel_rfl
theorem c89 {x y : Int × Int} {h : AH} : callP Try.prog 89 [(.agg #[.int .i64 (x).1, .int .i64 (x).2]), (.agg #[.int .i64 (y).1, .int .i64 (y).2])] h = some (.tuple #[(.agg #[.int .i64 ((mt x y)).1, .int .i64 ((mt x y)).2]), .bool (decide (met x y))], h) := by
  refine call_of good89 Try.func89 rfl rfl ?_
  simp [c90]
  repeat' (refine caseQ_intro (fun hp => ?_) (fun hp => ?_) <;> simp [c90, *])
  all_goals (unfold mt met; grind [Vld])
theorem good58 : fnB Try.prog 58 = true := by kernel_rfl
theorem c58 {x y : Int × Int} {h : AH} : callP Try.prog 58 [(.agg #[.int .i64 (x).1, .int .i64 (x).2]), (.agg #[.int .i64 (y).1, .int .i64 (y).2])] h = some (.bool (decide (met x y)), h) := by
  refine call_of good58 Try.func58 rfl rfl ?_
  simp [c89]
  repeat' (refine caseQ_intro (fun hp => ?_) (fun hp => ?_) <;> simp [c89, *])
end Go.AM.Try

