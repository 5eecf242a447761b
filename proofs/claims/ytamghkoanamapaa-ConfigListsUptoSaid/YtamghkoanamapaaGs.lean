/- Names, and the errors of robots. No condition. -/
import Derived.Test.YtamghkoanamapaaGr
import Derived.Laws.RangeAny
import Derived.Laws.RangeString
import Derived.WideShapes
namespace Go.AM.Try
open Go.Proofs
set_option maxRecDepth 100000
set_option linter.unusedSimpArgs false
set_option linter.unusedVariables false
attribute [-simp] Bool.decide_and Bool.decide_or
theorem good113 : fnB Try.prog 113 = true := by kernel_rfl
theorem good116 : fnB Try.prog 116 = true := by kernel_rfl

theorem toList_inj {x y : ByteArray} (h : x.toList = y.toList) : x = y := by
  rw [ByteArray.toList_eq, ByteArray.toList_eq] at h
  exact Go.WideShapes.bytes_inj h
theorem binS {x y : ByteArray} {t : TypeId} : binA Try.prog .eql t (.string x) (.string y) = some (.bool (decide (x = y))) := by
  simp [binA, still, binOp, Op.stringOp]
  rw [Bool.eq_iff_iff]
  simp
  exact ⟨toList_inj, fun h => by rw [h]⟩
theorem binSn {x y : ByteArray} {t : TypeId} : binA Try.prog .neq t (.string x) (.string y) = some (.bool (!decide (x = y))) := by
  have e : (x.toList == y.toList) = decide (x = y) := by
    rw [Bool.eq_iff_iff]
    simp
    exact ⟨toList_inj, fun h => by rw [h]⟩
  simp [binA, still, binOp, Op.stringOp]
  first | rw [e] | (rw [bne, e]) | trace_state
attribute [simp] binS binSn

/-- May a name have the byte b at place i? -/
def okC (i : Nat) (b : Nat) : Prop := (97 ≤ b ∧ b ≤ 122) ∨ (i ≠ 0 ∧ (b = 95 ∨ (48 ≤ b ∧ b ≤ 57)))
instance (i b : Nat) : Decidable (okC i b) := by unfold okC; infer_instance
def wld : ByteArray := ⟨#[119, 111, 114, 108, 100]⟩
def nmP (s : ByteArray) : Prop := (1 ≤ s.size ∧ s.size ≤ 16 ∧ s ≠ wld) ∧ ∀ (i : Nat) (hi : i < s.size), okC i s[i].toNat
instance (s : ByteArray) : Decidable (nmP s) := by unfold nmP; infer_instance
def nmB (s : ByteArray) : Bool := decide (nmP s)

theorem c116 {h : AH} {s : ByteArray} (hs : s.size ≤ 9223372036854775807) : callP Try.prog 116 [.string s] h = some (.bool (nmB s), h) := by
  refine call_of good116 Try.func116 rfl rfl ?_
  by_cases hp : 1 ≤ s.size ∧ s.size ≤ 16 ∧ s ≠ wld
  · obtain ⟨p1, p2, p3⟩ := hp
    have e1 : lenA Try.prog 9 (.string s) h = some (.int .i64 s.size) := by kernel_rfl
    have hw : ¬ s = ⟨#[119, 111, 114, 108, 100]⟩ := p3
    simp [e1, show ¬ (s.size : Int) < 1 by omega, show ¬ (16 : Int) < s.size by omega, hw]
    refine W_loop_up s.size (fun i st h' => h' = h ∧ st 3 = .int .i64 i ∧ st 0 = .string s ∧ ∀ (j : Nat) (hj : j < s.size), j < i → okC j s[j].toNat) ?_ ?_ 0 _ _ (Nat.zero_le _) (by simp)
    · rintro i st h' hi ⟨rfl, h3, h0, hb⟩
      have hix : indexA Try.prog 9 (.string s) (.int .i64 i) = some (.int .u8 s[i].toNat) := by
        simp [indexA]
        exact ⟨s[i], getElem?_pos s i hi, rfl⟩
      have hix0 : i = 0 → indexA Try.prog 9 (.string s) (.int .i64 0) = some (.int .u8 s[i].toNat) := fun q => by subst q; exact hix
      have w1 : IntKind.i64.wrap ((i : Int) + 1) = i + 1 := wrap_id (by omega) (by omega)
      have no : ¬ okC i s[i].toNat → nmB s = false := fun q => by
        exact decide_eq_false fun g => q (g.2 i hi)
      have yes : okC i s[i].toNat → ∀ (j : Nat) (hj : j < s.size), j < i + 1 → okC j s[j].toNat := fun q j hj hji => by
        by_cases e : j = i
        · subst e; exact q
        · exact hb j hj (by omega)
      generalize hbb : s[i].toNat = b at *
      by_cases a1 : (97 : Int) ≤ b <;> by_cases a2 : (b : Int) ≤ 122 <;> by_cases a3 : i = 0 <;> by_cases a4 : (b : Int) = 95 <;> by_cases a5 : (b : Int) < 48 <;> by_cases a6 : (57 : Int) < b <;> try (exfalso; omega)
      all_goals simp [e1, h3, h0, hi, hix, hix0, w1, a1, a2, a3, a4, a5, a6, show 0 < s.size by omega]
      all_goals first
        | (refine yes ?_; unfold okC; omega)
        | (refine no ?_; unfold okC; omega)
        | (refine ⟨rfl, fun j hj q => yes (by unfold okC; omega) j hj (by omega)⟩)
        | trace_state
    · rintro st h' ⟨rfl, h3, h0, hb⟩
      simp [e1, h3, h0]
      exact decide_eq_true (p := nmP s) ⟨⟨p1, p2, p3⟩, fun i hi => hb i hi hi⟩
  · have e1 : lenA Try.prog 9 (.string s) h = some (.int .i64 s.size) := by kernel_rfl
    have hno : nmB s = false := decide_eq_false fun g => hp g.1
    by_cases c1 : (1 : Int) ≤ s.size
    · by_cases c2 : (16 : Int) < s.size
      · simp [e1, hno, c1, c2, show ¬ (s.size : Int) < 1 by omega]
      · have : s = wld := Classical.byContradiction fun q => hp ⟨by omega, by omega, q⟩
        have hw : (s = ⟨#[119, 111, 114, 108, 100]⟩) = True := eq_true this
        simp [e1, hno, c1, c2, hw, show ¬ (s.size : Int) < 1 by omega]
    · simp [e1, hno, c1, show (s.size : Int) < 1 by omega]

theorem nextS {h : AH} {s : ByteArray} {p : Nat} : nextA (h ++ [.iter s p]) (.pointer (some ⟨h.length, 0, none⟩)) true =
    some (if p < s.size then (.tuple #[.bool true, .int .i64 p, .int .i32 (Utf8.decode s p).1], h ++ [.iter s (p + (Utf8.decode s p).2)]) else (.tuple #[.bool false], h ++ [.iter s p])) := by
  simp only [nextA, get_at]
  by_cases hp : p < s.size <;> simp [hp, goInt]
theorem c113 {h : AH} {s : ByteArray} (hs : s.size ≤ 9223372036854775807) : callP Try.prog 113 [.string s] h = some (.bool (nmB s), h) := by
  refine call_of good113 Try.func113 rfl rfl ?_
  have er : rangeA Try.prog h 9 (.string s) = some (.pointer (some ⟨h.length, 0, none⟩), h ++ [.iter s 0]) := by kernel_rfl
  have e1 : ∀ H, lenA Try.prog 9 (.string s) H = some (.int .i64 s.size) := fun H => by kernel_rfl
  simp [er]
  refine W_loop_up s.size (fun i st h' => h' = h ++ [.iter s i] ∧ st 7 = .pointer (some ⟨h.length, 0, none⟩) ∧ st 0 = .string s ∧ ∀ (j : Nat) (hj : j < s.size), j < i → okC j s[j].toNat) ?_ ?_ 0 _ _ (Nat.zero_le _) (by simp)
  · rintro i st h' hi ⟨rfl, h7, h0, hb⟩
    have no : ¬ okC i s[i].toNat → nmB s = false := fun q => decide_eq_false fun g => q (g.2 i hi)
    have yes : okC i s[i].toNat → ∀ (j : Nat) (hj : j < s.size), j < i + 1 → okC j s[j].toNat := fun q j hj hji => by
      by_cases e : j = i
      · subst e; exact q
      · exact hb j hj (by omega)
    have hnx := nextS (h := h) (s := s) (p := i)
    rw [if_pos hi] at hnx
    obtain ⟨r, hr⟩ : ∃ r : Nat, (Utf8.decode s i).1 = r := ⟨_, rfl⟩
    obtain ⟨d, hd⟩ : ∃ d : Nat, (Utf8.decode s i).2 = d := ⟨_, rfl⟩
    have hrd : (s[i].toNat < 128 ∧ r = s[i].toNat ∧ d = 1) ∨ (128 ≤ s[i].toNat ∧ 128 ≤ r) := by
      by_cases g : s[i].toNat < 128
      · have := decode_ascii s i hi g
        rw [this] at hr hd
        exact .inl ⟨g, hr.symm, hd.symm⟩
      · have := decode_high s i hi (by omega)
        exact .inr ⟨by omega, by omega⟩
    rw [hr, hd] at hnx
    clear hr hd
    have hnx0 : i = 0 → nextA (h ++ [.iter s 0]) (.pointer (some ⟨h.length, 0, none⟩)) true = some (.tuple #[.bool true, .int .i64 0, .int .i32 r], h ++ [.iter s d]) := fun q => by subst q; simpa using hnx
    generalize hbb : s[i].toNat = b at *
    by_cases a1 : (97 : Int) ≤ r <;> by_cases a2 : (r : Int) ≤ 122 <;> by_cases a3 : i = 0 <;> by_cases a4 : (r : Int) = 95 <;> by_cases a5 : (r : Int) < 48 <;> by_cases a6 : (57 : Int) < r <;> try (exfalso; omega)
    all_goals simp [hnx, hnx0, h7, h0, a1, a2, a3, a4, a5, a6]
    all_goals first
      | (refine ⟨by omega, yes ?_⟩; unfold okC; omega)
      | (refine ⟨by omega, fun j hj q => yes (by unfold okC; omega) j hj (by omega)⟩)
      | (refine no ?_; unfold okC; omega)
      | trace_state
  · rintro st h' ⟨rfl, h7, h0, hb⟩
    have hnx := nextS (h := h) (s := s) (p := s.size)
    rw [if_neg (by omega)] at hnx
    have hn : nmB s = (decide (1 ≤ s.size) && (decide (s.size ≤ 16) && !decide (s = wld))) := by
      rw [Bool.eq_iff_iff]
      simp only [nmB, decide_eq_true_iff, Bool.and_eq_true, Bool.not_eq_true', decide_eq_false_iff_not]
      exact ⟨fun g => g.1, fun g => ⟨g, fun j hj => hb j hj hj⟩⟩
    obtain ⟨w, hw⟩ : ∃ w, decide (s = ⟨#[119, 111, 114, 108, 100]⟩) = w := ⟨_, rfl⟩
    rw [show decide (s = wld) = w from hw] at hn
    by_cases c1 : (1 : Int) ≤ s.size <;> by_cases c2 : (s.size : Int) ≤ 16
    · rw [decide_eq_true (by omega), decide_eq_true (by omega)] at hn
      simp [hnx, h7, h0, e1, c1, c2, hw, hn]
    · rw [decide_eq_true (p := 1 ≤ s.size) (by omega), decide_eq_false (p := s.size ≤ 16) (by omega)] at hn
      simp [hnx, h7, h0, e1, c1, c2, hn]
    · rw [decide_eq_false (p := 1 ≤ s.size) (by omega)] at hn
      simp [hnx, h7, h0, e1, c1, c2, hn]
    · rw [decide_eq_false (p := 1 ≤ s.size) (by omega)] at hn
      simp [hnx, h7, h0, e1, c1, c2, hn]
end Go.AM.Try

