/- The functions of boxes. No condition. -/
import Derived.Test.YtamghkoanamapaaGc
namespace Go.AM.Try
open Go.Proofs
set_option maxRecDepth 100000
set_option linter.unusedSimpArgs false
set_option linter.unusedVariables false
attribute [-simp] Bool.decide_and Bool.decide_or
set_option pp.deepTerms false
set_option pp.maxSteps 1500

def smB (xs : List Int) : Bool := !xs.any fun x => decide (x < -2147483648 ∨ 2147483648 < x)
def vlB (xs : List (Int × Int)) : Bool := !xs.any fun x => !decide (Vld x)
theorem smB_iff {xs : List Int} : smB xs = true ↔ ∀ x ∈ xs, -2147483648 ≤ x ∧ x ≤ 2147483648 := by
  simp only [smB, Bool.not_eq_true', List.any_eq_false, decide_eq_true_iff]
  exact ⟨fun h x hx => by have := h x hx; omega, fun h x hx => by have := h x hx; omega⟩
theorem vlB_iff {xs : List (Int × Int)} : vlB xs = true ↔ ∀ x ∈ xs, Vld x := by
  simp [vlB]

section
variable {a b : Option Addr} {n c m d : Nat} {h : AH} {xs ys : List (Int × Int)} {zs ws : List Int}
theorem good65 : fnB Try.prog 65 = true := by kernel_rfl
theorem good51 : fnB Try.prog 51 = true := by kernel_rfl
theorem good30 : fnB Try.prog 30 = true := by kernel_rfl
theorem good31 : fnB Try.prog 31 = true := by kernel_rfl
theorem good35 : fnB Try.prog 35 = true := by kernel_rfl
theorem good29 : fnB Try.prog 29 = true := by kernel_rfl
theorem good77 : fnB Try.prog 77 = true := by kernel_rfl
theorem c65 (S : Sl tN h a n c zs) (hn : n ≤ 4611686018427387904) : callP Try.prog 65 [.slice a n c] h = some (.bool (smB zs), h) := by
  refine call_of good65 Try.func65 rfl rfl ?_
  simp [c94 S hn _ (fun x _ => c95), smB]
theorem c51 (S : Sl tI h a n c xs) (hn : n ≤ 4611686018427387904) : callP Try.prog 51 [.slice a n c] h = some (.bool (vlB xs), h) := by
  refine call_of good51 Try.func51 rfl rfl ?_
  simp [c86 S hn _ (fun x _ => c87), vlB]
theorem c30 (S : Sl tI h a n c xs) (S2 : Sl tN h b m d zs) (hn : n ≤ 4611686018427387904) : callP Try.prog 30 [.slice a n c, .slice b m d] h = some (.bool (vlB xs && allB (fun x y => decide (has x y)) xs zs), h) := by
  refine call_of good30 Try.func30 rfl rfl ?_
  cases hv : vlB xs <;> simp [c51 S hn, c55 S S2 hn _ (fun x _ y _ => c56), hv]
theorem c35 (S : Sl tI h a n c xs) (S2 : Sl tI h b m d ys) (hn : n ≤ 4611686018427387904) (hm : m ≤ 4611686018427387904) : callP Try.prog 35 [.slice a n c, .slice b m d] h = some (.bool (vlB xs && vlB ys && allB (fun x y => decide (wth x y)) xs ys), h) := by
  refine call_of good35 Try.func35 rfl rfl ?_
  cases hv : vlB xs <;> cases hw : vlB ys <;> simp [c51 S hn, c51 S2 hm, c57 S S2 hn _ (fun x _ y _ => c63), hv, hw]
theorem c31 (S : Sl tI h a n c xs) (S2 : Sl tI h b m d ys) (hn : n ≤ 4611686018427387904) (hm : m ≤ 4611686018427387904) : callP Try.prog 31 [.slice a n c, .slice b m d] h = some (.bool (vlB xs && vlB ys && allB (fun x y => decide (met x y)) xs ys), h) := by
  refine call_of good31 Try.func31 rfl rfl ?_
  cases hv : vlB xs <;> cases hw : vlB ys <;> simp [c51 S hn, c51 S2 hm, c57 S S2 hn _ (fun x _ y _ => c58), hv, hw]
end
theorem good53 : fnB Try.prog 53 = true := by kernel_rfl
theorem c53 {h : AH} {a : Option Addr} {n c : Nat} {xs : List (Int × Int)} (S : Sl tI h a n c xs) (hn : n ≤ 17592186044416) {f : FuncId} (F : (Int × Int) → Int) (hf : ∀ (g : AH) (x : (Int × Int)), x ∈ xs → callP Try.prog f [(.agg #[.int .i64 (x).1, .int .i64 (x).2])] (h ++ g) = some (.int .i64 (F x), h ++ g)) :
    callP Try.prog 53 [.slice a n c, .func (.func f) #[] #[]] h = some (.slice (some ⟨h.length, 0, none⟩) n n, h ++ [.cells ((tN).flat (xs.map F)) 2 false]) := by
  refine call_of good53 Try.func53 rfl rfl ?_
  have hl := S.len
  subst hl
  simp [make_T tN (0 : Int) Try.underlying23 elem2 (show 8 * xs.length ≤ 281474976710656 by omega) (show xs.length ≤ 281474976710656 by omega)]
  refine W_loop_up xs.length (fun i s h' => ∃ g ys, ys = (xs.take i).map F ++ List.replicate (xs.length - i) (0 : Int) ∧ h' = h ++ .cells ((tN).flat ys) 2 false :: g ∧ s 13 = .int .i64 i ∧ s 12 = .int .i64 xs.length ∧ s 11 = .slice a xs.length c ∧
    s 5 = .slice (some ⟨h.length, 0, none⟩) xs.length xs.length ∧ s 1 = .func (.func f) #[] #[]) ?_ ?_ 0 _ _ (Nat.zero_le _) ⟨[], List.replicate xs.length (0 : Int), by simp, by simp, by simp, by simp, by simp, by simp, by simp⟩
  · rintro i s h' hi ⟨g, ys, hys, rfl, h13, h12, h11, h5, h1⟩
    have hx := fun g => hf g (xs[i]'(by omega)) (List.getElem_mem _)
    simp [hx, store_T0 tN (x := F xs[i]) (show i < ys.length by simp [hys]; omega), index_at Try.underlying23 sz2 (j := i) (Int.natCast_nonneg _) (show (i : Int) < xs.length by omega), h13, h12, h11, h5, h1, hi, S.index Try.underlying26 (j := i) (Int.natCast_nonneg _) (by omega), fun g => (S.app g).load (j := i) (by omega)]
    have hw : IntKind.i64.wrap (i + 1) = i + 1 := wrap_id (by omega) (by omega)
    refine ⟨?_, hw⟩
    subst hys
    have := fill_step (zs := xs.map F) (z := (0 : Int)) (i := i) (by simp; omega)
    simp only [List.length_map, List.getElem_map, ← List.map_take] at this
    rw [this, List.map_take]
  · rintro s h' ⟨g, ys, hys, rfl, h13, h12, h11, h5, h1⟩
    have hys' : ys = xs.map F := by rw [hys, Nat.sub_self, List.replicate_zero, List.append_nil, List.take_of_length_le (by omega)]
    subst hys'
    simp [h13, h12, h5]

theorem good108 : fnB Try.prog 108 = true := by kernel_rfl
theorem c108 {h : AH} {a : Option Addr} {n c : Nat} {xs : List Int} (S : Sl tN h a n c xs) (hn : n ≤ 17592186044416) {f : FuncId} (F : Int → (Int × Int)) (hf : ∀ (g : AH) (x : Int), x ∈ xs → callP Try.prog f [.int .i64 x] (h ++ g) = some ((.agg #[.int .i64 ((F x)).1, .int .i64 ((F x)).2]), h ++ g)) :
    callP Try.prog 108 [.slice a n c, .func (.func f) #[] #[]] h = some (.slice (some ⟨h.length, 0, none⟩) n n, h ++ [.cells ((tI).flat (xs.map F)) 37 false]) := by
  refine call_of good108 Try.func108 rfl rfl ?_
  have hl := S.len
  subst hl
  simp [make_T tI ((0 : Int), (0 : Int)) Try.underlying26 elem37 (show 16 * xs.length ≤ 281474976710656 by omega) (show xs.length ≤ 281474976710656 by omega)]
  refine W_loop_up xs.length (fun i s h' => ∃ g ys, ys = (xs.take i).map F ++ List.replicate (xs.length - i) ((0 : Int), (0 : Int)) ∧ h' = h ++ .cells ((tI).flat ys) 37 false :: g ∧ s 13 = .int .i64 i ∧ s 12 = .int .i64 xs.length ∧ s 11 = .slice a xs.length c ∧
    s 5 = .slice (some ⟨h.length, 0, none⟩) xs.length xs.length ∧ s 1 = .func (.func f) #[] #[]) ?_ ?_ 0 _ _ (Nat.zero_le _) ⟨[], List.replicate xs.length ((0 : Int), (0 : Int)), by simp, by simp, by simp, by simp, by simp, by simp, by simp⟩
  · rintro i s h' hi ⟨g, ys, hys, rfl, h13, h12, h11, h5, h1⟩
    have hx := fun g => hf g (xs[i]'(by omega)) (List.getElem_mem _)
    simp [hx, store_T0 tI (x := F xs[i]) (show i < ys.length by simp [hys]; omega), index_at Try.underlying26 sz37 (j := i) (Int.natCast_nonneg _) (show (i : Int) < xs.length by omega), h13, h12, h11, h5, h1, hi, S.index Try.underlying23 (j := i) (Int.natCast_nonneg _) (by omega), fun g => (S.app g).load (j := i) (by omega)]
    have hw : IntKind.i64.wrap (i + 1) = i + 1 := wrap_id (by omega) (by omega)
    refine ⟨?_, hw⟩
    subst hys
    have := fill_step (zs := xs.map F) (z := ((0 : Int), (0 : Int))) (i := i) (by simp; omega)
    simp only [List.length_map, List.getElem_map, ← List.map_take] at this
    rw [this, List.map_take]
  · rintro s h' ⟨g, ys, hys, rfl, h13, h12, h11, h5, h1⟩
    have hys' : ys = xs.map F := by rw [hys, Nat.sub_self, List.replicate_zero, List.append_nil, List.take_of_length_le (by omega)]
    subst hys'
    simp [h13, h12, h5]


section
variable {a b : Option Addr} {n c m d : Nat} {h : AH} {xs ys : List (Int × Int)} {zs ws : List Int}
theorem c29 (S : Sl tI h a n c xs) (hn : n ≤ 17592186044416) : callP Try.prog 29 [.slice a n c] h = some (if vlB xs = true then (.slice (some ⟨h.length, 0, none⟩) n n, h ++ [.cells (tN.flat (xs.map mid)) 2 false]) else (.slice none 0 0, h)) := by
  refine call_of good29 Try.func29 rfl rfl ?_
  cases hv : vlB xs <;> simp [c51 S (by omega), c53 S hn mid (fun g x _ => c54), hv]
end
theorem good61 : fnB Try.prog 61 = true := by kernel_rfl
theorem c61 {h : AH} {a : Option Addr} {n c : Nat} {xs : List (Int × Int)} (S : Sl tI h a n c xs) (hn : n ≤ 8796093022208) :
    callP Try.prog 61 [.slice a n c] h = some (if a.isNone = true then (.slice none 0 0, h) else (.slice (some ⟨h.length, 0, none⟩) n n, h ++ [.cells ((tI).flat xs) 37 false])) := by
  refine call_of good61 Try.func61 rfl rfl ?_
  have happ := append_new (s := some ⟨h.length, 0, none⟩) tI Try.underlying26 Try.underlying26 elem37 rfl (by simp) (S.app [.cells [] 37 false]) (by decide) (show n * 16 ≤ 140737488355328 by omega)
  have hl := S.len
  have hb := build_0 (h := h) Try.underlying26 elem37 rfl (by decide)
  cases a with
  | none => simp [slice_nil Try.underlying26 (.inl rfl), eqRes]
  | some x =>
    by_cases hm : n = 0
    · have hx : xs = [] := List.length_eq_zero_iff.1 (by omega)
      subst hx
      subst hm
      simp [slice_nil Try.underlying26 (.inl rfl), eqRes, hb, happ]
      exact gc_slice (h := h) (g := [.cells [] 37 false]) (b := 0) rfl (by intro v hv; cases hv)
    · simp [slice_nil Try.underlying26 (.inl rfl), eqRes, hb, happ, hm]
      exact gc_T tI (b := 1) rfl

theorem good52 : fnB Try.prog 52 = true := by kernel_rfl
theorem c52 {h : AH} {a : Option Addr} {n c : Nat} {xs : List Int} (S : Sl tN h a n c xs) (hn : n ≤ 8796093022208) :
    callP Try.prog 52 [.slice a n c] h = some (if a.isNone = true then (.slice none 0 0, h) else (.slice (some ⟨h.length, 0, none⟩) n n, h ++ [.cells ((tN).flat xs) 2 false])) := by
  refine call_of good52 Try.func52 rfl rfl ?_
  have happ := append_new (s := some ⟨h.length, 0, none⟩) tN Try.underlying23 Try.underlying23 elem2 rfl (by simp) (S.app [.cells [] 2 false]) (by decide) (show n * 8 ≤ 140737488355328 by omega)
  have hl := S.len
  have hb := build_0 (h := h) Try.underlying23 elem2 rfl (by decide)
  cases a with
  | none => simp [slice_nil Try.underlying23 (.inl rfl), eqRes]
  | some x =>
    by_cases hm : n = 0
    · have hx : xs = [] := List.length_eq_zero_iff.1 (by omega)
      subst hx
      subst hm
      simp [slice_nil Try.underlying23 (.inl rfl), eqRes, hb, happ]
      exact gc_slice (h := h) (g := [.cells [] 2 false]) (b := 0) rfl (by intro v hv; cases hv)
    · simp [slice_nil Try.underlying23 (.inl rfl), eqRes, hb, happ, hm]
      exact gc_T tN (b := 1) rfl


end Go.AM.Try

