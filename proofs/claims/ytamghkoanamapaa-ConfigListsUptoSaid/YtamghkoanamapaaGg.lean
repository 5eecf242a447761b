/- What makes joints and robots. No condition. -/
import Derived.Test.YtamghkoanamapaaGf
namespace Go.AM.Try
open Go.Proofs
set_option maxRecDepth 100000
set_option linter.unusedSimpArgs false
set_option linter.unusedVariables false
attribute [-simp] Bool.decide_and Bool.decide_or
set_option pp.deepTerms false
set_option pp.maxSteps 1500

theorem good81 : fnB Try.prog 81 = true := by kernel_rfl

structure Jt where
  name : ByteArray
  kind : Int
  parent : Int
  ox : Int
  oy : Int
  oz : Int
  lo : Int
  hi : Int
  weight : Int
  speed : Int
  accel : Int
  torque : Int

def jtC (j : Jt) : List Value := [.string j.name, .int .i64 j.kind, .int .i64 j.parent, .int .i64 j.ox, .int .i64 j.oy, .int .i64 j.oz, .int .i64 j.lo, .int .i64 j.hi, .int .i64 j.weight, .int .i64 j.speed, .int .i64 j.accel, .int .i64 j.torque]
abbrev tJ : Ty Try.prog 76 Jt := Ty.agg jtC 12 (by decide) sz76 agg76 (fun _ => rfl) (fun x y hy => by simp [jtC] at hy; rcases hy with rfl | rfl | rfl | rfl | rfl | rfl | rfl | rfl | rfl | rfl | rfl | rfl <;> constructor) (fun _ => rfl)

/-- What holds of a joint that is made at place i. -/
structure JOK (i : Nat) (j : Jt) : Prop where
  name : j.name = letB i
  kind : 0 ≤ j.kind ∧ j.kind ≤ 5
  parent : j.parent = i - 1 ∨ j.parent = -1
  off : (-131072 ≤ j.ox ∧ j.ox ≤ 131072) ∧ (-131072 ≤ j.oy ∧ j.oy ≤ 131072) ∧ (-131072 ≤ j.oz ∧ j.oz ≤ 131072)
  lim : j.lo ≤ j.hi
  fixed : j.kind = 0 → j.lo = 0 ∧ j.hi = 0
  bound : -131072 ≤ j.lo ∧ j.hi ≤ 131072
  weight : 1 ≤ j.weight ∧ j.weight ≤ 4
  speed : j.speed = 65536
  accel : 65536 ≤ j.accel ∧ j.accel ≤ 65538
  torque : j.torque = 327680

theorem build76 {s : ByteArray} {a b c d e : Int} : buildA Try.prog 76 [(0, .string s), (2, .int .i64 a), (6, .int .i64 b), (7, .int .i64 c), (8, .int .i64 d), (9, .int .i64 e)] =
    some (.agg #[.string s, .int .i64 0, .int .i64 a, .int .i64 0, .int .i64 0, .int .i64 0, .int .i64 0, .int .i64 0, .int .i64 b, .int .i64 c, .int .i64 d, .int .i64 e]) := by kernel_rfl
theorem build74 {a b c : Int} : buildA Try.prog 74 [(0, .int .i64 a), (1, .int .i64 b), (2, .int .i64 c)] = some (.agg #[.int .i64 a, .int .i64 b, .int .i64 c]) := by kernel_rfl
theorem build119 {a b c d e f g h : Int} : buildA Try.prog 119 [(0, .int .i64 a), (1, .int .i64 b), (2, .int .i64 c), (3, .int .i64 d), (4, .int .i64 e), (5, .int .i64 f), (6, .int .i64 g), (7, .int .i64 h)] =
    some (.agg #[.int .i64 a, .int .i64 b, .int .i64 c, .int .i64 d, .int .i64 e, .int .i64 f, .int .i64 g, .int .i64 h]) := by kernel_rfl
attribute [simp] build76 build74 build119

/-- Joint i, and how many numbers have been used. -/
def knd (v : Int) : Int := if v = 0 then 3 else if v = 1 then 3 else if v = 2 then 1 else if v = 3 then 2 else if v = 4 then 4 else if v = 5 then 5 else if v = 6 then 3 else 0
def jtF (L : List Int) (m i : Nat) : Jt × Nat :=
  let w := 1 + nx L m 4
  let ac := 65536 + nx L (m + 1) 3
  let k := knd (nx L (m + 2) 8)
  let pa : Int := if nx L (m + 3) 4 = 1 then -1 else (i : Int) - 1
  let off : Int × Int × Int := if 0 < i then (131072, (nx L (m + 4) 5 - 2) * 32768, (nx L (m + 5) 3 - 1) * 32768) else (0, 0, 0)
  let m' := if 0 < i then m + 6 else m + 4
  let lim : Int × Int × Nat := if k = 0 then (0, 0, m') else if k = 4 ∨ k = 5 then (-nx L m' 3 * 65536, nx L (m' + 1) 4 * 32768, m' + 2)
    else (-nx L m' 5 * 8192, (1 + nx L (m' + 1) 4) * 8192 + nx L (m' + 2) 3, m' + 3)
  (⟨letB i, k, pa, off.1, off.2.1, off.2.2, lim.1, lim.2.1, w, 65536, ac, 327680⟩, lim.2.2)

theorem knd_bd (v : Int) : 0 ≤ knd v ∧ knd v ≤ 5 := by unfold knd; repeat' split <;> omega
theorem jtF_ok (L : List Int) (m i : Nat) : JOK i (jtF L m i).1 := by
  have nb := fun m (k : Int) (hk : 0 < k) => nx_bd (L := L) (m := m) hk
  have b0 := nb m 4 (by decide)
  have b1 := nb (m + 1) 3 (by decide)
  have b2 := knd_bd (nx L (m + 2) 8)
  have b4 := nb (m + 4) 5 (by decide)
  have b5 := nb (m + 5) 3 (by decide)
  unfold jtF
  generalize hm' : (if 0 < i then m + 6 else m + 4) = m'
  have c3 := nb m' 3 (by decide)
  have c5 := nb m' 5 (by decide)
  have d4 := nb (m' + 1) 4 (by decide)
  have e3 := nb (m' + 2) 3 (by decide)
  generalize knd (nx L (m + 2) 8) = k at *
  refine ⟨rfl, ?_, ?_, ?_, ?_, ?_, ?_, ?_, ?_, ?_, ?_⟩ <;> dsimp only
  · omega
  · split <;> simp
  · split <;> dsimp only <;> omega
  · split
    · dsimp only; omega
    · split <;> dsimp only <;> omega
  · intro hk
    rw [if_pos hk]; exact ⟨rfl, rfl⟩
  · split
    · dsimp only; omega
    · split <;> dsimp only <;> omega
  · omega
  · omega

theorem index119 {v : Int} (h0 : 0 ≤ v) (h1 : v < 8) : indexA Try.prog 119 (.agg #[.int .i64 3, .int .i64 3, .int .i64 1, .int .i64 2, .int .i64 4, .int .i64 5, .int .i64 3, .int .i64 0]) (.int .i64 v) = some (.int .i64 (knd v)) := by
  have : v = 0 ∨ v = 1 ∨ v = 2 ∨ v = 3 ∨ v = 4 ∨ v = 5 ∨ v = 6 ∨ v = 7 := by omega
  rcases this with rfl | rfl | rfl | rfl | rfl | rfl | rfl | rfl
  all_goals (show _ = _; kernel_rfl)

theorem c81 {h G : AH} {a : Option Addr} {n c : Nat} {L : List Int} (S : Sl tZ h a n c L) (hn : n ≤ 4611686018427387904) {m : Nat} {i : Nat} (hi : i < 10) :
    callP Try.prog 81 [.pointer (some ⟨h.length, 0, none⟩), .int .i64 (i : Int)] (h ++ srcB a n c m :: G) = some (tJ.v (jtF L m i).1, h ++ srcB a n c (jtF L m i).2 :: G) := by
  refine call_of good81 Try.func81 rfl rfl ?_
  have nb := fun m (k : Int) (hk : 0 < k) => nx_bd (L := L) (m := m) hk
  have b1 := nb m 4 (by decide)
  have b2 := nb (m + 1) 3 (by decide)
  have w0 : IntKind.i64.wrap ((i : Int) - 1) = i - 1 := wrap_id (by omega) (by omega)
  have w1 : IntKind.i64.wrap (1 + nx L m 4) = 1 + nx L m 4 := wrap_id (by omega) (by omega)
  have w2 : IntKind.i64.wrap (65536 + nx L (m + 1) 3) = 65536 + nx L (m + 1) 3 := wrap_id (by omega) (by omega)
  have cn := fun G m (k : Int) (hk : 0 < k) (hk' : k ≤ 9223372036854775807) => c47 S hn (G := G) (m := m) hk hk'
  have b3 := nb (m + 1 + 1) 8 (by decide)
  have hK := index119 b3.1 b3.2
  have sn := fun G m (k : Int) (hk : 0 ≤ k) (hk' : k ≤ 2147483648) => c82 S hn (G := G) (m := m) hk hk'
  have q1 : ∀ m, IntKind.i64.wrap ((nx L m 5 - 2) * 32768) = (nx L m 5 - 2) * 32768 := fun m => by have := nb m 5 (by decide); exact wrap_id (by omega) (by omega)
  have q2 : ∀ m, IntKind.i64.wrap ((nx L m 3 - 1) * 32768) = (nx L m 3 - 1) * 32768 := fun m => by have := nb m 3 (by decide); exact wrap_id (by omega) (by omega)
  have q3 : ∀ m, IntKind.i64.wrap (-nx L m 3) = -nx L m 3 := fun m => by have := nb m 3 (by decide); exact wrap_id (by omega) (by omega)
  have q4 : ∀ m, IntKind.i64.wrap (-nx L m 3 * 65536) = -nx L m 3 * 65536 := fun m => by have := nb m 3 (by decide); exact wrap_id (by omega) (by omega)
  have q5 : ∀ m, IntKind.i64.wrap (nx L m 4 * 32768) = nx L m 4 * 32768 := fun m => by have := nb m 4 (by decide); exact wrap_id (by omega) (by omega)
  have q6 : ∀ m, IntKind.i64.wrap (-nx L m 5) = -nx L m 5 := fun m => by have := nb m 5 (by decide); exact wrap_id (by omega) (by omega)
  have q7 : ∀ m, IntKind.i64.wrap ((IntKind.i64.wrap (-nx L m 5 * 65536)).tdiv 8) = -nx L m 5 * 8192 := fun m => by
    have := nb m 5 (by decide)
    rw [wrap_id (n := -nx L m 5 * 65536) (by omega) (by omega), show -nx L m 5 * 65536 = (-nx L m 5 * 8192) * 8 by omega, Int.mul_tdiv_cancel _ (by decide), wrap_id (by omega) (by omega)]
  have q8 : ∀ m, IntKind.i64.wrap (1 + nx L m 4) = 1 + nx L m 4 := fun m => by have := nb m 4 (by decide); exact wrap_id (by omega) (by omega)
  have q9 : ∀ m, IntKind.i64.wrap ((1 + nx L m 4) * 65536) = (1 + nx L m 4) * 65536 := fun m => by have := nb m 4 (by decide); exact wrap_id (by omega) (by omega)
  have q10 : ∀ m m', IntKind.i64.wrap (IntKind.i64.wrap (((1 + nx L m 4) * 65536).tdiv 8) + nx L m' 3) = (1 + nx L m 4) * 8192 + nx L m' 3 := fun m m' => by
    have := nb m 4 (by decide)
    have := nb m' 3 (by decide)
    rw [show (1 + nx L m 4) * 65536 = ((1 + nx L m 4) * 8192) * 8 by omega, Int.mul_tdiv_cancel _ (by decide), wrap_id (n := (1 + nx L m 4) * 8192) (by omega) (by omega), wrap_id (by omega) (by omega)]
  have hk5 := knd_bd (nx L (m + 2) 8)
  generalize hKK : knd (nx L (m + 1 + 1) 8) = K at hK
  simp [w0, w1, w2, c110 hi, cn, hK]
  repeat' (refine caseQ_intro (fun hp => ?_) (fun hp => ?_) <;> simp [cn, sn, q1, q2, q3, q4, q5, q6, q7, q8, q9, q10, *])
  all_goals clear q1 q2 q3 q4 q5 q6 q7 q8 q9 q10 sn cn hK S
  all_goals have hKK' : knd (nx L (m + 2) 8) = K := hKK
  all_goals refine (gc_src (by simp)).trans ?_
  all_goals simp [jtF, jtC, hKK', *]
end Go.AM.Try

