/- Clamping a configuration; hulls; boxes within boxes. No condition. -/
import Derived.Test.YtamghkoanamapaaGn
namespace Go.AM.Try
open Go.Proofs
set_option maxRecDepth 100000
set_option linter.unusedSimpArgs false
set_option linter.unusedVariables false
attribute [-simp] Bool.decide_and Bool.decide_or
theorem good28 : fnB Try.prog 28 = true := by kernel_rfl
theorem good34 : fnB Try.prog 34 = true := by kernel_rfl

/-- A row that is written over from the front. -/
def updL {β : Type} (new old : List β) (i : Nat) : List β := new.take i ++ old.drop i
theorem updL_len {β : Type} {new old : List β} {i : Nat} (hl : new.length = old.length) : (updL new old i).length = old.length := by
  simp [updL, hl]; omega
theorem updL_zero {β : Type} {new old : List β} : updL new old 0 = old := by simp [updL]
theorem updL_all {β : Type} {new old : List β} {n : Nat} (hl : new.length = old.length) (hn : n = old.length) : updL new old n = new := by
  subst hn
  simp [updL, ← hl]
theorem updL_get {β : Type} {new old : List β} {i : Nat} (hl : new.length = old.length) (hi : i < old.length) : (updL new old i)[i]? = some old[i] := by
  have h1 : (new.take i).length = i := by simp; omega
  unfold updL
  rw [List.getElem?_append_right (by omega), h1, Nat.sub_self, List.getElem?_drop, Nat.add_zero, List.getElem?_eq_getElem hi]
theorem updL_set {β : Type} {new old : List β} {i : Nat} (hl : new.length = old.length) (hi : i < new.length) {x : β} (hx : new[i] = x) : (updL new old i).set i x = updL new old (i + 1) := by
  subst hx
  have h1 : (new.take i).length = i := by simp; omega
  unfold updL
  rw [List.set_append_right _ _ (by omega), h1, Nat.sub_self, List.take_succ_eq_append_getElem hi, List.append_assoc]
  congr 1
  rw [List.drop_eq_getElem_cons (by omega)]
  rfl

def clI (x : Int × Int) (z : Int) : Int := min (max z x.1) x.2

theorem c28_no {h : AH} {a b : Option Addr} {n c m d : Nat} {xs : List (Int × Int)} {zs : List Int} (S : Sl tI h a n c xs) (S2 : Sl tN h b m d zs) (hn : n ≤ 8796093022208) (hm : m ≤ 8796093022208) (hno : ¬ (vlB xs = true ∧ n = m)) :
    callP Try.prog 28 [.slice a n c, .slice b m d] h = some (.slice none 0 0, h) := by
  refine call_of good28 Try.func28 rfl rfl ?_
  cases hv : vlB xs
  · simp [c51 S (by omega), hv]
  · have hnm : ¬ ((n : Int) = m) := fun q => hno ⟨hv, by omega⟩
    simp [c51 S (by omega), hv, hnm]

theorem c28 {h : AH} {a b : Option Addr} {n c d : Nat} {xs : List (Int × Int)} {zs : List Int} (S : Sl tI h a n c xs) (S2 : Sl tN h b n d zs) (hn : n ≤ 8796093022208) (hv : vlB xs = true) :
    callP Try.prog 28 [.slice a n c, .slice b n d] h = some (if b.isNone = true then (.slice none 0 0, h) else (.slice (some ⟨h.length, 0, none⟩) n n, h ++ [.cells (tN.flat (List.zipWith clI xs zs)) 2 false])) := by
  refine call_of good28 Try.func28 rfl rfl ?_
  have hl := S.len
  have hl2 := S2.len
  have hzl : (List.zipWith clI xs zs).length = zs.length := by simp; omega
  cases b with
  | none =>
    have h0 := (S2.nil rfl).1
    subst h0
    simp [c51 S (by omega), hv, c52 S2 (by omega)]
    rw [W_loop]
    simp
  | some b =>
    simp [c51 S (by omega), hv, c52 S2 (by omega)]
    refine W_loop_up n (fun i s h' => ∃ g, h' = h ++ .cells (tN.flat (updL (List.zipWith clI xs zs) zs i)) 2 false :: g ∧ s 22 = .int .i64 i ∧ s 21 = .int .i64 n ∧ s 20 = .slice a n c ∧ s 5 = .slice (some ⟨h.length, 0, none⟩) n n) ?_ ?_ 0 _ _ (Nat.zero_le _) ⟨[], by simp [updL_zero]⟩
    · rintro i s h' hi ⟨g, rfl, h22, h21, h20, h5⟩
      have hix : i < xs.length := by omega
      have hiz : i < zs.length := by omega
      have hul := updL_len (i := i) hzl
      have hug := updL_get (i := i) hzl hiz
      have hus := updL_set (i := i) hzl (by omega) (x := clI xs[i] zs[i]) (by rw [List.getElem_zipWith])
      generalize updL (List.zipWith clI xs zs) zs i = ys at *
      have w1 : IntKind.i64.wrap ((i : Int) + 1) = i + 1 := wrap_id (by omega) (by omega)
      have hii : (i : Int) < n := by omega
      have hst := fun g => store_T0 (h := h) (g := g) tN (x := clI xs[i] zs[i]) (show i < ys.length by omega)
      have ld : ∀ g, loadA Try.prog (h ++ .cells (tN.flat ys) 2 false :: g) 2 (elemPtr (some ⟨h.length, 0, none⟩) i tN.k) = some (.int .i64 zs[i]) := fun g => by
        have sl : Sl tN (h ++ .cells (tN.flat ys) 2 false :: g) (some ⟨h.length, 0, none⟩) ys.length ys.length ys := Sl.of_row (by rw [get_at]; rfl)
        rw [sl.load (by omega)]
        rw [List.getElem?_eq_getElem (by omega)] at hug
        simp at hug
        rw [hug]
      rw [hus] at hst
      simp only [clI] at hst
      simp [h22, h21, h20, h5, hi, hii, w1, S.index Try.underlying26 (j := i) (kk := .i64) (Int.natCast_nonneg _) (by omega), fun g => (S.app g).load hix, index_at Try.underlying23 sz2 (j := i) (kk := .i64) (Int.natCast_nonneg _) hii, ld, hst]
      exact .inr (by kernel_rfl)
    · rintro s h' ⟨g, rfl, h22, h21, h20, h5⟩
      rw [updL_all hzl (by omega)]
      simp [h22, h21, h20, h5]

theorem c34_no {h : AH} {a b : Option Addr} {n c m d : Nat} {xs ys : List (Int × Int)} (S : Sl tI h a n c xs) (S2 : Sl tI h b m d ys) (hn : n ≤ 8796093022208) (hm : m ≤ 8796093022208) (hno : ¬ (vlB xs = true ∧ vlB ys = true ∧ n = m)) :
    callP Try.prog 34 [.slice a n c, .slice b m d] h = some (.slice none 0 0, h) := by
  refine call_of good34 Try.func34 rfl rfl ?_
  cases hv : vlB xs
  · simp [c51 S (by omega), hv]
  · cases hw : vlB ys
    · simp [c51 S (by omega), c51 S2 (by omega), hv, hw]
    · have hnm : ¬ ((n : Int) = m) := fun q => hno ⟨hv, hw, by omega⟩
      simp [c51 S (by omega), c51 S2 (by omega), hv, hw, hnm]

theorem c34 {h : AH} {a b : Option Addr} {n c d : Nat} {xs ys : List (Int × Int)} (S : Sl tI h a n c xs) (S2 : Sl tI h b n d ys) (hn : n ≤ 8796093022208) (hv : vlB xs = true) (hw : vlB ys = true) :
    callP Try.prog 34 [.slice a n c, .slice b n d] h = some (if a.isNone = true then (.slice none 0 0, h) else (.slice (some ⟨h.length, 0, none⟩) n n, h ++ [.cells (tI.flat (List.zipWith hul xs ys)) 37 false])) := by
  refine call_of good34 Try.func34 rfl rfl ?_
  have hl := S.len
  have hl2 := S2.len
  have hzl : (List.zipWith hul xs ys).length = xs.length := by simp; omega
  cases a with
  | none =>
    have h0 := (S.nil rfl).1
    subst h0
    simp [c51 S (by omega), c51 S2 (by omega), hv, hw, c61 S (by omega)]
    rw [W_loop]
    simp
  | some a =>
    obtain ⟨ab, ao, asp⟩ := a
    have hsp := (S.at_ _ rfl).1
    simp only at hsp
    subst hsp
    simp [c51 S (by omega), c51 S2 (by omega), hv, hw, c61 S (by omega)]
    refine W_loop_up n (fun i s h' => ∃ g, h' = h ++ .cells (tI.flat (updL (List.zipWith hul xs ys) xs i)) 37 false :: g ∧ s 26 = .int .i64 i ∧ s 25 = .int .i64 n ∧ s 0 = .slice (some ⟨ab, ao, none⟩) n c ∧ s 1 = .slice b n d ∧ s 5 = .slice (some ⟨h.length, 0, none⟩) n n) ?_ ?_ 0 _ _ (Nat.zero_le _) ⟨[], by simp [updL_zero]⟩
    · rintro i s h' hi ⟨g, rfl, h26, h25, h0, h1, h5⟩
      have hix : i < xs.length := by omega
      have hiy : i < ys.length := by omega
      have hul' := updL_len (i := i) hzl
      have hus := updL_set (i := i) hzl (by omega) (x := hul xs[i] ys[i]) (by rw [List.getElem_zipWith])
      generalize updL (List.zipWith hul xs ys) xs i = zs at *
      have w1 : IntKind.i64.wrap ((i : Int) + 1) = i + 1 := wrap_id (by omega) (by omega)
      have hii : (i : Int) < n := by omega
      have hst := fun g => store_T0 (h := h) (g := g) tI (x := hul xs[i] ys[i]) (show i < zs.length by omega)
      rw [hus] at hst
      simp [h26, h25, h0, h1, h5, hi, hii, w1, S.index Try.underlying26 (j := i) (kk := .i64) (Int.natCast_nonneg _) (by omega), fun g => (S.app g).load hix, S2.index Try.underlying26 (j := i) (kk := .i64) (Int.natCast_nonneg _) (by omega), fun g => (S2.app g).load hiy, c62, index_at Try.underlying26 sz37 (j := i) (kk := .i64) (Int.natCast_nonneg _) hii, hst]
      exact .inr (by kernel_rfl)
    · rintro s h' ⟨g, rfl, h26, h25, h0, h1, h5⟩
      rw [updL_all hzl (by omega)]
      simp [h26, h25, h0, h1, h5]

theorem c77 {h : AH} {a : Option Addr} {n c : Nat} {zs : List Int} (S : Sl tN h a n c zs) (hn : n ≤ 8796093022208) :
    callP Try.prog 77 [.slice a n c] h = some (if smB zs = true then (.slice (some ⟨h.length, 0, none⟩) n n, h ++ [.cells (tI.flat (zs.map fun z => (clp z, clp z))) 37 false]) else (.slice none 0 0, h)) := by
  refine call_of good77 Try.func77 rfl rfl ?_
  cases hv : smB zs <;> simp [c65 S (by omega), hv, c108 S (by omega) (fun z => (clp z, clp z)) (fun g x _ => c109)]

/-- An interval within another one. -/
def partF (x : Int × Int) (m n : Int) : Int × Int :=
  if n % 2 = 0 then (x.1 + m % (x.2 - x.1 + 1), x.1 + m % (x.2 - x.1 + 1)) else (min (x.1 + m % (x.2 - x.1 + 1)) (x.1 + n / 2 % (x.2 - x.1 + 1)), max (x.1 + m % (x.2 - x.1 + 1)) (x.1 + n / 2 % (x.2 - x.1 + 1)))
theorem c60 {h : AH} {x : Int × Int} {m n : Int} (hv : Vld x) (hm : I64 m) (hn : 0 ≤ n ∧ n < 4294967296) : callP Try.prog 60 [(.agg #[.int .i64 (x).1, .int .i64 (x).2]), .int .i64 m, .int .i64 n] h = some ((.agg #[.int .i64 ((partF x m n)).1, .int .i64 ((partF x m n)).2]), h) := by
  refine call_of good60 Try.func60 rfl rfl ?_
  obtain ⟨v1, v2, v3⟩ := hv
  have w1 : IntKind.i64.wrap (x.2 - x.1) = x.2 - x.1 := wrap_id (by omega) (by omega)
  have w2 : IntKind.i64.wrap (x.2 - x.1 + 1) = x.2 - x.1 + 1 := wrap_id (by omega) (by omega)
  have hk : 0 < x.2 - x.1 + 1 := by omega
  have c1 := fun (a : Int) H => c15 (h := H) (a := a) hk (by omega)
  have b1 := Int.emod_nonneg m (show x.2 - x.1 + 1 ≠ 0 by omega)
  have b2 := Int.emod_lt_of_pos m hk
  have b3 := Int.emod_nonneg (n / 2) (show x.2 - x.1 + 1 ≠ 0 by omega)
  have b4 := Int.emod_lt_of_pos (n / 2) hk
  have w3 : IntKind.i64.wrap (x.1 + m % (x.2 - x.1 + 1)) = x.1 + m % (x.2 - x.1 + 1) := wrap_id (by omega) (by omega)
  have w4 : IntKind.i64.wrap (x.1 + n / 2 % (x.2 - x.1 + 1)) = x.1 + n / 2 % (x.2 - x.1 + 1) := wrap_id (by omega) (by omega)
  have ha : binA Try.prog .and 3 (.int .i64 n) (.int .i64 1) = some (.int .i64 (n % 2)) := by
    rw [bin_and]
    obtain ⟨k, rfl⟩ : ∃ k : Nat, n = k := ⟨n.toNat, by omega⟩
    have e : (BitVec.ofInt IntKind.i64.bits (k : Int) &&& BitVec.ofInt IntKind.i64.bits 1).toNat = k % 2 := by
      rw [BitVec.toNat_and]
      have e1 : (BitVec.ofInt IntKind.i64.bits (k : Int)).toNat = k := by
        rw [bits_i64]
        simp [BitVec.toNat_ofInt]; omega
      have e2 : (BitVec.ofInt IntKind.i64.bits (1 : Int)).toNat = 1 := by rw [bits_i64]; rfl
      rw [e1, e2, Nat.and_one_is_mod]
    rw [e, wrap_id (by omega) (by omega)]
    rfl
  have hsh : binA Try.prog .shr 3 (.int .i64 n) (.int .u64 1) = some (.int .i64 (n / 2)) := by
    rw [bin_shr]; rfl
  by_cases hp : n % 2 = 0
  · simp [w1, w2, c1, w3, w4, ha, hsh, hp, partF]
  · simp [w1, w2, c1, w3, w4, ha, hsh, hp, partF]

def wnStep (L : List Int) (st : List (Int × Int) × Nat) (x : Int × Int) : List (Int × Int) × Nat := (st.1 ++ [partF x (nx L st.2 1073741824) (nx L (st.2 + 1) 1073741824)], st.2 + 1 + 1)
/-- A box within a box. -/
def wnF (L : List Int) (xs : List (Int × Int)) : List (Int × Int) := (xs.foldl (wnStep L) ([], 0)).1
theorem wnS_len {L : List Int} {js : List (Int × Int)} (k : Nat) (hk : k ≤ js.length) : (fdS (wnStep L) ([], 0) js k).1.length = k :=
  fdS_inv (fun i (st : List (Int × Int) × Nat) => st.1.length = i) rfl (fun i st hi h => by simp [wnStep, h]) k hk
theorem wnF_len {L : List Int} {js : List (Int × Int)} : (wnF L js).length = js.length := by
  have := wnS_len (L := L) (js := js) js.length (Nat.le_refl _)
  rwa [fdS_all] at this

theorem c33 {h : AH} {b a : Option Addr} {m d n c : Nat} {xs : List (Int × Int)} {L : List Int} (S1 : Sl tI h b m d xs) (S : Sl tZ h a n c L) (hm : m ≤ 1000000) (hn : n ≤ 4611686018427387904) (hv : vlB xs = true) :
    callP Try.prog 33 [.slice b m d, .slice a n c] h = some (slV h.length (wnF L xs), h ++ rowH tI (wnF L xs)) := by
  refine call_of good33 Try.func33 rfl rfl ?_
  obtain ⟨B, hB⟩ : ∃ B : Nat → AH, ∀ m, B m = h ++ [srcB a n c m] := ⟨_, fun _ => rfl⟩
  have hml := S1.len
  subst hml
  have lB : ∀ m, (B m).length = h.length + 1 := fun m => by simp [hB]
  have cN : ∀ Y m (k : Int), 0 < k → k ≤ 9223372036854775807 → callP Try.prog 47 [.pointer (some ⟨h.length, 0, none⟩), .int .i64 k] (B m ++ Y) = some (.int .i64 (nx L m k), B (m + 1) ++ Y) := fun Y m k hk hk' => by
    have := c47 S hn hk hk' (G := Y) (m := m)
    simpa [hB] using this
  have SB : ∀ Y m, Sl tI (B m ++ Y) b xs.length d xs := fun Y m => by rw [hB, List.append_assoc]; exact S1.app _
  have gB : ∀ m Y k, (B m ++ Y)[h.length + 1 + k]? = Y[k]? := fun m Y k => by rw [← lB m, get_off]
  have hB0 : h ++ [srcB a n c 0] = B 0 ++ [] := by rw [hB]; simp
  simp [c46, hB0]
  refine W_loop_up xs.length (fun i s h' => ∃ X p, h' = B (fdS (wnStep L) ([], 0) xs i).2 ++ X ∧ ((fdS (wnStep L) ([], 0) xs i).1.length ≠ 0 → X[p]? = some (.cells (tI.flat (fdS (wnStep L) ([], 0) xs i).1) 37 false)) ∧
    s 7 = .int .i64 i ∧ s 5 = .pointer (some ⟨h.length, 0, none⟩) ∧ s 0 = .slice b xs.length d ∧ s 6 = slV (h.length + 1 + p) (fdS (wnStep L) ([], 0) xs i).1) ?_ ?_ 0 _ _ (Nat.zero_le _) ⟨[], 0, by simp [fdS_zero], by simp [fdS_zero], by simp, by simp, by simp, by simp [fdS_zero, slV]⟩
  · rintro i s h' hi ⟨X, p, rfl, hX, h7, h5, h0, h6⟩
    have hlen := wnS_len (L := L) (js := xs) i (by omega)
    rw [fdS_succ hi]
    generalize fdS (wnStep L) ([], 0) xs i = st at *
    obtain ⟨out, m⟩ := st
    dsimp only at *
    have hvx := vlB_iff.1 hv xs[i] (List.getElem_mem _)
    obtain ⟨X', hX', -, happ⟩ := append_2 (h := B (m + 1 + 1)) (Y := []) (X := X) (p := p) (ys := out) (x := partF xs[i] (nx L m 1073741824) (nx L (m + 1) 1073741824)) tI Try.underlying26 elem37 rfl hX (by decide) (by omega)
    have hb := fun h (x y : Int) => build_1 (h := h) (x := (x, y)) tI Try.underlying26 elem37 rfl (by decide)
    have b1 := nx_bd (L := L) (m := m) (k := 1073741824) (by decide)
    have b2 := nx_bd (L := L) (m := m + 1) (k := 1073741824) (by decide)
    have hpart := fun H => c60 (h := H) hvx (m := nx L m 1073741824) (n := nx L (m + 1) 1073741824) ⟨by omega, by omega⟩ ⟨by omega, by omega⟩
    have w4 : IntKind.i64.wrap ((i : Int) + 1) = i + 1 := wrap_id (by omega) (by omega)
    have bst : wnStep L (out, m) xs[i] = (out ++ [partF xs[i] (nx L m 1073741824) (nx L (m + 1) 1073741824)], m + 1 + 1) := rfl
    rw [bst]
    simp [lB] at happ hb
    have hix := (SB X m).index Try.underlying26 (j := i) (kk := .i64) (Int.natCast_nonneg _) (by omega)
    simp at hix
    simp [lB, gB, cN, h7, h5, h0, h6, hi, hb, happ, w4, hpart, hix, fun Y m => (SB Y m).load hi]
    exact ⟨.inr (.inr (by kernel_rfl)), .inr (.inr (by kernel_rfl)), .inr (.inl (by kernel_rfl)), X'.length, by simp, rfl⟩
  · rintro s h' ⟨X, p, rfl, hX, h7, h5, h0, h6⟩
    have hlen := wnS_len (L := L) (js := xs) xs.length (Nat.le_refl _)
    rw [fdS_all] at hX h6 hlen
    rw [show (xs.foldl (wnStep L) ([], 0)).1 = wnF L xs from rfl] at hX h6 hlen
    have hgc := gc_row (h := h) (Z := srcB a n c (fdS (wnStep L) ([], 0) xs xs.length).2 :: X) tI (b := p + 1) hX
    simp [lB, h7, h5, h0, h6]
    rw [show h.length + 1 + p = h.length + (p + 1) by omega, hB, List.append_assoc]
    simpa using hgc
end Go.AM.Try

