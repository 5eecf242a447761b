/- What makes robots and configurations out of lists of numbers. No condition. -/
import Derived.Test.YtamghkoanamapaaGe
namespace Go.AM.Try
open Go.Proofs
set_option maxRecDepth 100000
set_option linter.unusedSimpArgs false
set_option linter.unusedVariables false
attribute [-simp] Bool.decide_and Bool.decide_or
set_option pp.deepTerms false
set_option pp.maxSteps 1500

theorem good46 : fnB Try.prog 46 = true := by kernel_rfl
theorem good47 : fnB Try.prog 47 = true := by kernel_rfl
theorem good82 : fnB Try.prog 82 = true := by kernel_rfl
theorem good110 : fnB Try.prog 110 = true := by kernel_rfl

/-- A source's block: the list, and how many numbers have been used. -/
def srcB (a : Option Addr) (n c : Nat) (m : Nat) : Blk := .cells [.slice a n c, .int .i64 ((min m n : Nat) : Int)] 98 false
/-- The next number. -/
def nx (L : List Int) (m : Nat) (k : Int) : Int := L.getD m 0 % k
theorem nx_bd {L : List Int} {m : Nat} {k : Int} (hk : 0 < k) : 0 ≤ nx L m k ∧ nx L m k < k := ⟨Int.emod_nonneg _ (by omega), Int.emod_lt_of_pos _ hk⟩

theorem build98 {a : Option Addr} {n c : Nat} : buildA Try.prog 98 [(0, .slice a n c)] = some (.agg #[.slice a n c, .int .i64 0]) := by kernel_rfl
attribute [simp] build98

theorem gc_src {h G X : AH} {a : Option Addr} {n c m m' : Nat} {v : Value} (hv : Af v) : gcA (h ++ srcB a n c m :: G) v (h ++ srcB a n c m' :: (G ++ X)) = (v, h ++ srcB a n c m' :: G) := by
  have hs : Stable (h ++ srcB a n c m :: G) (h ++ srcB a n c m' :: (G ++ X)) := by
    refine ⟨by simp, fun i hi => ?_⟩
    rcases Nat.lt_trichotomy i h.length with g | g | g
    · exact .inl (by rw [List.getElem?_append_left g, List.getElem?_append_left g])
    · subst g
      refine .inr ⟨[.slice a n c, .int .i64 ((min m n : Nat) : Int)], [.slice a n c, .int .i64 ((min m' n : Nat) : Int)], 98, false, by rw [get_at]; rfl, by rw [get_at]; rfl, rfl, fun j => ?_⟩
      match j with
      | 0 => exact .inl rfl
      | 1 => exact .inr ⟨_, rfl, .int _ _⟩
      | j + 2 => exact .inl rfl
    · obtain ⟨k, rfl⟩ : ∃ k, i = h.length + (k + 1) := ⟨i - h.length - 1, by omega⟩
      refine .inl ?_
      rw [get_off, get_off, List.getElem?_cons_succ, List.getElem?_cons_succ, List.getElem?_append_left (by simp at hi; omega)]
  unfold gcA
  rw [if_pos hs, if_pos hv]
  congr 1
  rw [List.take_append]
  simp
  exact List.take_of_length_le (by omega)
theorem gc_src0 {h G : AH} {a : Option Addr} {n c m m' : Nat} {v : Value} (hv : Af v) : gcA (h ++ srcB a n c m :: G) v (h ++ srcB a n c m' :: G) = (v, h ++ srcB a n c m' :: G) := by
  have := gc_src (h := h) (G := G) (X := []) (a := a) (n := n) (c := c) (m := m) (m' := m') hv
  simpa using this

theorem gc_ptr {h h' : AH} {a : Addr} : gcA h (.pointer (some a)) h' = (.pointer (some a), h') := by
  have hn : ¬ Af (.pointer (some a)) := fun q => by cases q
  unfold gcA
  split
  · simp [layA, partsA, partA1, leafA, hn]
  · rfl
theorem c46 {h : AH} {a : Option Addr} {n c : Nat} : callP Try.prog 46 [.slice a n c] h = some (.pointer (some ⟨h.length, 0, none⟩), h ++ [srcB a n c 0]) := by
  refine call_of good46 Try.func46 rfl rfl ?_
  simp [srcB, gc_ptr]

theorem c47 {h G : AH} {a : Option Addr} {n c : Nat} {L : List Int} (S : Sl tZ h a n c L) (hn : n ≤ 4611686018427387904) {m : Nat} {k : Int} (hk : 0 < k) (hk' : k ≤ 9223372036854775807) :
    callP Try.prog 47 [.pointer (some ⟨h.length, 0, none⟩), .int .i64 k] (h ++ srcB a n c m :: G) = some (.int .i64 (nx L m k), h ++ srcB a n c (m + 1) :: G) := by
  refine call_of good47 Try.func47 rfl rfl ?_
  have hl := S.len
  subst hl
  rcases Nat.lt_or_ge m L.length with g | g
  · have e1 : min m L.length = m := by omega
    have e2 : min (m + 1) L.length = m + 1 := by omega
    have w1 : IntKind.i64.wrap ((m : Int) + 1) = m + 1 := wrap_id (by omega) (by omega)
    have w2 : IntKind.i64.wrap (m : Int) = m := wrap_id (by omega) (by omega)
    have hS := S.index Try.underlying22 (kk := .i64) (j := (m : Int)) (Int.natCast_nonneg _) (by omega)
    have hgc := gc_src0 (h := h) (G := G) (a := a) (n := L.length) (c := c) (m := m) (m' := m + 1) (v := .int .i64 (nx L m k)) (.int _ _)
    simp only [srcB, e1, e2] at hgc
    have hnx : L[m] % k = nx L m k := by simp [nx, g]
    simp [srcB, e1, e2, show ¬ (L.length : Int) ≤ m by omega, w1, w2, hS, fun G' => (S.app G').load g, c15 hk hk', hnx]
    simpa using hgc
  · have e1 : min m L.length = L.length := by omega
    have e2 : min (m + 1) L.length = L.length := by omega
    have hgc := gc_src0 (h := h) (G := G) (a := a) (n := L.length) (c := c) (m := m) (m' := m + 1) (v := .int .i64 0) (.int _ _)
    simp only [srcB, e1, e2] at hgc
    have hnx : nx L m k = 0 := by simp [nx, g]
    simp [srcB, e1, e2, hnx]

theorem c82 {h G : AH} {a : Option Addr} {n c : Nat} {L : List Int} (S : Sl tZ h a n c L) (hn : n ≤ 4611686018427387904) {m : Nat} {k : Int} (hk : 0 ≤ k) (hk' : k ≤ 2147483648) :
    callP Try.prog 82 [.pointer (some ⟨h.length, 0, none⟩), .int .i64 k] (h ++ srcB a n c m :: G) = some (.int .i64 (nx L m (2 * k + 1) - k), h ++ srcB a n c (m + 1) :: G) := by
  refine call_of good82 Try.func82 rfl rfl ?_
  have w1 : IntKind.i64.wrap (2 * k) = 2 * k := wrap_id (by omega) (by omega)
  have w2 : IntKind.i64.wrap (2 * k + 1) = 2 * k + 1 := wrap_id (by omega) (by omega)
  have b := nx_bd (L := L) (m := m) (show 0 < 2 * k + 1 by omega)
  have w3 : IntKind.i64.wrap (nx L m (2 * k + 1) - k) = nx L m (2 * k + 1) - k := wrap_id (by omega) (by omega)
  simp [w1, w2, w3, c47 S hn (show 0 < 2 * k + 1 by omega) (by omega), gc_src0]

/-- The letters. -/
def letB (i : Nat) : ByteArray := ByteArray.extract ⟨#[97, 98, 99, 100, 101, 102, 103, 104, 105, 106]⟩ i (i + 1)
theorem c110 {h : AH} {i : Nat} (hi : i < 10) : callP Try.prog 110 [.int .i64 (i : Int)] h = some (.string (letB i), h) := by
  refine call_of good110 Try.func110 rfl rfl ?_
  have w1 : IntKind.i64.wrap ((i : Int) + 1) = i + 1 := wrap_id (by omega) (by omega)
  have h10 : (⟨#[97, 98, 99, 100, 101, 102, 103, 104, 105, 106]⟩ : ByteArray).size = 10 := rfl
  have hc : (0 : Int) ≤ (i : Int) + 1 ∧ (i : Int) + 1 ≤ 10 := by omega
  simp [w1, sliceA, boundA, h10, hc, letB]
end Go.AM.Try

