/- The errors of a joint. No condition. -/
import Derived.Test.YtamghkoanamapaaGs
namespace Go.AM.Try
open Go.Proofs
set_option maxRecDepth 100000
set_option linter.unusedSimpArgs false
set_option linter.unusedVariables false
attribute [-simp] Bool.decide_and Bool.decide_or
theorem good93 : fnB Try.prog 93 = true := by kernel_rfl
theorem good98 : fnB Try.prog 98 = true := by kernel_rfl
theorem good91 : fnB Try.prog 91 = true := by kernel_rfl
theorem good96 : fnB Try.prog 96 = true := by kernel_rfl
theorem good114 : fnB Try.prog 114 = true := by kernel_rfl
theorem good119 : fnB Try.prog 119 = true := by kernel_rfl
theorem good120 : fnB Try.prog 120 = true := by kernel_rfl

theorem good92 : fnB Try.prog 92 = true := by kernel_rfl
theorem c92 {a x b : Int} {h : AH} : callP Try.prog 92 [(.int .i64 (a)), (.int .i64 (x)), (.int .i64 (b))] h = some (.bool (decide (a ≤ x ∧ x ≤ b)), h) := by
  refine call_of good92 Try.func92 rfl rfl ?_
  simp []
  repeat' (refine caseQ_intro (fun hp => ?_) (fun hp => ?_) <;> simp [*])
theorem good97 : fnB Try.prog 97 = true := by kernel_rfl
theorem c97 {a x b : Int} {h : AH} : callP Try.prog 97 [(.int .i64 (x)), (.int .i64 (a)), (.int .i64 (b))] h = some (.bool (decide (a ≤ x ∧ x ≤ b)), h) := by
  refine call_of good97 Try.func97 rfl rfl ?_
  simp []
  repeat' (refine caseQ_intro (fun hp => ?_) (fun hp => ?_) <;> simp [*])
def bndF (k : Int) : Int := if k = 0 then 0 else if k = 1 then 524288 else if k = 2 then 524288 else if k = 3 then 524288 else 4194304
theorem good112 : fnB Try.prog 112 = true := by kernel_rfl
theorem c112 {k : Int} {h : AH} : callP Try.prog 112 [(.int .i64 (k))] h = some ((.int .i64 ((bndF k))), h) := by
  refine call_of good112 Try.func112 rfl rfl ?_
  simp [bndF]
  repeat' (refine caseQ_intro (fun hp => ?_) (fun hp => ?_) <;> simp [bndF, *])
theorem good117 : fnB Try.prog 117 = true := by kernel_rfl
theorem c117 {k : Int} {h : AH} : callP Try.prog 117 [(.int .i64 (k))] h = some ((.int .i64 ((bndF k))), h) := by
  refine call_of good117 Try.func117 rfl rfl ?_
  simp [bndF]
  repeat' (refine caseQ_intro (fun hp => ?_) (fun hp => ?_) <;> simp [bndF, *])
theorem bndF_bd (k : Int) : 0 ≤ bndF k ∧ bndF k ≤ 4194304 := by unfold bndF; repeat' split <;> omega

def vget (a b c : Int) (i : Nat) : Int := if i = 0 then a else if i = 1 then b else c
def farP (x : Int) : Prop := x < -4194304 ∨ 4194304 < x
instance (x : Int) : Decidable (farP x) := by unfold farP; infer_instance
def lngP (a b c : Int) : Prop := farP a ∨ farP b ∨ farP c
instance (a b c : Int) : Decidable (lngP a b c) := by unfold lngP; infer_instance
theorem lng_get {a b c : Int} {i : Nat} (hi : i < 3) (h : farP (vget a b c i)) : lngP a b c := by
  have : i = 0 ∨ i = 1 ∨ i = 2 := by omega
  unfold lngP
  rcases this with rfl | rfl | rfl <;> simp [vget] at h <;> simp [h]
theorem lng_no {a b c : Int} (h : ∀ j, j < 3 → ¬ farP (vget a b c j)) : ¬ lngP a b c := by
  have h0 := h 0 (by omega)
  have h1 := h 1 (by omega)
  have h2 := h 2 (by omega)
  simp [vget] at h0 h1 h2
  simp [lngP, h0, h1, h2]
theorem c93 {h : AH} {a b c : Int} : callP Try.prog 93 [.agg #[.int .i64 a, .int .i64 b, .int .i64 c]] h = some (.bool (decide (lngP a b c)), h) := by
  refine call_of good93 Try.func93 rfl rfl ?_
  simp
  refine W_loop_up 3 (fun i s h' => (∃ g, h' = h ++ g) ∧ s 6 = .int .i64 i ∧ s 5 = .agg #[.int .i64 a, .int .i64 b, .int .i64 c] ∧ ∀ j, j < i → ¬ farP (vget a b c j)) ?_ ?_ 0 _ _ (Nat.zero_le _) ⟨⟨_, rfl⟩, by simp, by simp, by simp⟩
  · rintro i s h' hi ⟨⟨g, rfl⟩, h6, h5, hb⟩
    have hix : indexA Try.prog 74 (.agg #[.int .i64 a, .int .i64 b, .int .i64 c]) (.int .i64 i) = some (.int .i64 (vget a b c i)) := by
      have : i = 0 ∨ i = 1 ∨ i = 2 := by omega
      rcases this with rfl | rfl | rfl
      all_goals (show _ = _; kernel_rfl)
    have w1 : IntKind.i64.wrap ((i : Int) + 1) = i + 1 := wrap_id (by omega) (by omega)
    have yes : farP (vget a b c i) → lngP a b c := lng_get hi
    have no : ¬ farP (vget a b c i) → ∀ j, j < i + 1 → ¬ farP (vget a b c j) := fun q j hj => by
      by_cases e : j = i
      · subst e; exact q
      · exact hb j (by omega)
    generalize vget a b c i = x at *
    have hii : (i : Int) < 3 := by omega
    by_cases a1 : x < -4194304 <;> by_cases a2 : 4194304 < x
    all_goals simp [h6, h5, hii, hix, w1, a1, a2]
    all_goals first
      | exact yes (by unfold farP; omega)
      | exact no (by unfold farP; omega)
      | trace_state
  · rintro s h' ⟨⟨g, rfl⟩, h6, h5, hb⟩
    simp [h6, h5]
    exact lng_no hb
theorem c98 {h : AH} {a b c : Int} : callP Try.prog 98 [.agg #[.int .i64 a, .int .i64 b, .int .i64 c], .int .i64 4194304] h = some (.bool (!decide (lngP a b c)), h) := by
  refine call_of good98 Try.func98 rfl rfl ?_
  simp
  refine W_loop_up 3 (fun i s h' => h' = h ++ [.cells [.int .i64 a, .int .i64 b, .int .i64 c] 74 false] ∧ s 5 = .int .i64 i ∧ s 2 = .pointer (some ⟨h.length, 0, none⟩) ∧ s 1 = .int .i64 4194304 ∧ ∀ j, j < i → ¬ farP (vget a b c j)) ?_ ?_ 0 _ _ (Nat.zero_le _) ⟨rfl, by simp, by simp, by simp, by simp⟩
  · rintro i s h' hi ⟨rfl, h5, h2, h1, hb⟩
    have hix : indexAddrA Try.prog 74 (.pointer (some ⟨h.length, 0, none⟩)) (.int .i64 i) = some (.pointer (some ⟨h.length, i, none⟩)) := by
      have : i = 0 ∨ i = 1 ∨ i = 2 := by omega
      rcases this with rfl | rfl | rfl
      all_goals (show _ = _; kernel_rfl)
    have hld : [Value.int .i64 a, .int .i64 b, .int .i64 c][i]? = some (.int .i64 (vget a b c i)) := by
      have : i = 0 ∨ i = 1 ∨ i = 2 := by omega
      rcases this with rfl | rfl | rfl <;> rfl
    have w1 : IntKind.i64.wrap ((i : Int) + 1) = i + 1 := wrap_id (by omega) (by omega)
    have w2 : IntKind.i64.wrap (-4194304) = -4194304 := wrap_id (by omega) (by omega)
    have yes : farP (vget a b c i) → lngP a b c := lng_get hi
    have no : ¬ farP (vget a b c i) → ∀ j, j < i + 1 → ¬ farP (vget a b c j) := fun q j hj => by
      by_cases e : j = i
      · subst e; exact q
      · exact hb j (by omega)
    generalize vget a b c i = x at *
    have hii : (i : Int) < 3 := by omega
    by_cases a1 : x < -4194304 <;> by_cases a2 : 4194304 < x
    all_goals simp [h5, h2, h1, hii, hix, hld, w1, w2, a1, a2]
    all_goals first
      | exact yes (by unfold farP; omega)
      | exact no (by unfold farP; omega)
      | trace_state
  · rintro s h' ⟨rfl, h5, h2, h1, hb⟩
    simp [h5, h2, h1]
    exact lng_no hb

theorem c120 {h : AH} {j : Jt} {nm : ByteArray} {b : Nat} (hb : h[b]? = some (.cells [.string nm] 9 false)) : callP Try.prog 120 [tJ.v j, .pointer (some ⟨b, 0, none⟩)] h = some (.bool (decide (j.name = nm)), h) := by
  refine call_of good120 Try.func120 rfl rfl ?_
  have hb2 : ∀ g, (h ++ g)[b]? = some (.cells [.string nm] 9 false) := fun g => by rw [List.getElem?_append_left (List.getElem?_eq_some_iff.1 hb).1]; exact hb
  simp [jtC, hb2]
theorem c119 {a : Option Addr} {n c : Nat} {xs : List Jt} {h : AH} (S : Sl tJ h a n c xs) (hn : n ≤ 4611686018427387904) {f : FuncId} {v : Value} (p : Jt → Bool) (hf : ∀ x ∈ xs, callP Try.prog f [tJ.v x, v] h = some (.bool (p x), h)) :
    callP Try.prog 119 [.slice a n c, .func (.func f) #[] #[v]] h = some (.int .i64 (fstI p xs), h) := by
  refine call_of good119 Try.func119 rfl rfl ?_
  have hl := S.len
  subst hl
  simp
  refine W_loop_up xs.length (fun i s h' => h' = h ∧ s 8 = .int .i64 i ∧ s 7 = .int .i64 xs.length ∧ s 0 = .slice a xs.length c ∧ s 1 = .func (.func f) #[] #[v] ∧ ∀ (j : Nat) (hj : j < xs.length), j < i → p xs[j] = false) ?_ ?_ 0 _ _ (Nat.zero_le _) (by simp)
  · rintro i s h' hi ⟨rfl, h8, h7, h0, h1, hb⟩
    have hx := hf (xs[i]'(by omega)) (List.getElem_mem _)
    simp [h8, h7, h0, h1, hx, hi, S.index Try.underlying39 (j := i) (Int.natCast_nonneg _) (by omega), S.load (j := i) (by omega)]
    refine caseQ_intro (fun hp => ?_) (fun hp => ?_)
    · simp [h8, h7, h0, h1, hx, hi]
      exact (fstI_at (by omega) hp hb).symm
    · simp [h8, h7, h0, h1, hx, hi]
      refine ⟨wrap_id (by omega) (by omega), fun j hj hji => ?_⟩
      rcases Nat.lt_or_ge j i with g | g
      · exact hb j hj g
      · have : j = i := by omega
        subst this
        simpa using hp
  · rintro s h' ⟨rfl, h8, h7, h0, h1, hb⟩
    simp [h8, h7, h0, h1]
    exact (fstI_none fun j hj => hb j hj (by omega)).symm
theorem c114 {a : Option Addr} {n c : Nat} {xs : List Jt} {h : AH} {nm : ByteArray} (S : Sl tJ h a n c xs) (hn : n ≤ 4611686018427387904) :
    callP Try.prog 114 [.slice a n c, .string nm] h = some (.int .i64 (fstI (fun j => decide (j.name = nm)) xs), h) := by
  refine call_of good114 Try.func114 rfl rfl ?_
  have e := c119 (S.app [.cells [.string nm] 9 false]) hn (f := 120) (v := .pointer (some ⟨h.length, 0, none⟩)) (fun j => decide (j.name = nm)) (fun x _ => c120 (by rw [get_at]; rfl))
  simp [e]
end Go.AM.Try

