/- What makes robots. No condition. -/
import Derived.Test.YtamghkoanamapaaGg
namespace Go.AM.Try
open Go.Proofs
set_option maxRecDepth 100000
set_option linter.unusedSimpArgs false
set_option linter.unusedVariables false
attribute [-simp] Bool.decide_and Bool.decide_or
set_option pp.deepTerms false
set_option pp.maxSteps 2500
theorem good45 : fnB Try.prog 45 = true := by kernel_rfl
theorem good21 : fnB Try.prog 21 = true := by kernel_rfl

structure Ms where
  link : Int
  mass : Int
  px : Int
  py : Int
  pz : Int
def msC (x : Ms) : List Value := [.int .i64 x.link, .int .i64 x.mass, .int .i64 x.px, .int .i64 x.py, .int .i64 x.pz]
abbrev tM : Ty Try.prog 96 Ms := Ty.agg msC 5 (by decide) sz96 agg96 (fun _ => rfl) (fun x y hy => by simp [msC] at hy; rcases hy with rfl | rfl | rfl | rfl | rfl <;> constructor) (fun _ => rfl)
def msF (L : List Int) (n : Int) (m : Nat) : Ms × Nat := (⟨nx L m n, 1 + nx L (m + 1) 9000, (nx L (m + 1 + 1) 7 - 3) * 32768, 0, (nx L (m + 1 + 1 + 1) 5 - 2) * 32768⟩, m + 1 + 1 + 1 + 1)
/-- The joints, one after another; the masses. -/
def jsF (L : List Int) (m : Nat) : Nat → List Jt × Nat
  | 0 => ([], m)
  | k + 1 => ((jsF L m k).1 ++ [(jtF L (jsF L m k).2 k).1], (jtF L (jsF L m k).2 k).2)
def msL (L : List Int) (n : Int) (m : Nat) : Nat → List Ms × Nat
  | 0 => ([], m)
  | k + 1 => ((msL L n m k).1 ++ [(msF L n (msL L n m k).2).1], (msF L n (msL L n m k).2).2)
def robF (L : List Int) (m : Nat) : List Jt × List Ms × Nat :=
  let n := 1 + nx L m 3
  let j := jsF L (m + 1) n.toNat
  let x := msL L n (j.2 + 1) (nx L j.2 3).toNat
  (j.1, x.1, x.2)
theorem jsF_len {L : List Int} {m : Nat} : ∀ k, (jsF L m k).1.length = k
  | 0 => rfl
  | k + 1 => by simp [jsF, jsF_len k]
theorem msL_len {L : List Int} {n : Int} {m : Nat} : ∀ k, (msL L n m k).1.length = k
  | 0 => rfl
  | k + 1 => by simp [msL, msL_len k]

theorem build96 {a b c d e : Int} : buildA Try.prog 96 [(0, .int .i64 a), (1, .int .i64 b), (2, .agg #[.int .i64 c, .int .i64 d, .int .i64 e])] = some (.agg #[.int .i64 a, .int .i64 b, .int .i64 c, .int .i64 d, .int .i64 e]) := by kernel_rfl
attribute [simp] build96
theorem st_src {h G X : AH} {a : Option Addr} {n c m m' : Nat} : Stable (h ++ srcB a n c m :: G) (h ++ srcB a n c m' :: (G ++ X)) := by
  refine ⟨by simp, fun i hi => ?_⟩
  rcases Nat.lt_trichotomy i h.length with g | g | g
  · exact .inl (by rw [List.getElem?_append_left g, List.getElem?_append_left g])
  · subst g
    refine .inr ⟨[.slice a n c, .int .i64 ((min m n : Nat) : Int)], [.slice a n c, .int .i64 ((min m' n : Nat) : Int)], 98, false, by rw [get_at]; rfl, by rw [get_at]; rfl, rfl, fun j => ?_⟩
    match j with
    | 0 => exact .inl rfl
    | 1 => exact .inr ⟨_, rfl, .int _ _⟩
    | j + 2 => exact .inl rfl
  · obtain ⟨k, rfl⟩ : ∃ k, i = h.length + (k + 1) := ⟨i - h.length - 1, by omega⟩
    refine .inl ?_
    rw [get_off, get_off, List.getElem?_cons_succ, List.getElem?_cons_succ, List.getElem?_append_left (by simp at hi; omega)]
def robV (b : Nat) (js : List Jt) (ms : List Ms) : Value := .agg #[slV b js, slV (b + 1) ms]
def robH (js : List Jt) (ms : List Ms) : AH := .cells (tJ.flat js) 76 false :: if ms.length = 0 then [] else [.cells (tM.flat ms) 96 false]
theorem c45 {h G : AH} {a : Option Addr} {n c : Nat} {L : List Int} (S : Sl tZ h a n c L) (hn : n ≤ 4611686018427387904) {m : Nat} :
    callP Try.prog 45 [.pointer (some ⟨h.length, 0, none⟩)] (h ++ srcB a n c m :: G) =
      some (robV (h.length + 1 + G.length) (robF L m).1 (robF L m).2.1, h ++ srcB a n c (robF L m).2.2 :: (G ++ robH (robF L m).1 (robF L m).2.1)) := by
  refine call_of good45 Try.func45 rfl rfl ?_
  obtain ⟨B, hB⟩ : ∃ B : Nat → AH, ∀ m, B m = h ++ srcB a n c m :: G := ⟨_, fun _ => rfl⟩
  have lB : ∀ m, (B m).length = h.length + 1 + G.length := fun m => by simp [hB]; omega
  have cJ : ∀ Y m (i : Nat), i < 10 → callP Try.prog 81 [.pointer (some ⟨h.length, 0, none⟩), .int .i64 (i : Int)] (B m ++ Y) = some (tJ.v (jtF L m i).1, B (jtF L m i).2 ++ Y) := fun Y m i hi => by
    simp only [hB, List.append_assoc, List.cons_append]; exact c81 S hn hi
  have cN : ∀ Y m (k : Int), 0 < k → k ≤ 9223372036854775807 → callP Try.prog 47 [.pointer (some ⟨h.length, 0, none⟩), .int .i64 k] (B m ++ Y) = some (.int .i64 (nx L m k), B (m + 1) ++ Y) := fun Y m k hk hk' => by
    simp only [hB, List.append_assoc, List.cons_append]; exact c47 S hn hk hk'
  have cS : ∀ Y m (k : Int), 0 ≤ k → k ≤ 2147483648 → callP Try.prog 82 [.pointer (some ⟨h.length, 0, none⟩), .int .i64 k] (B m ++ Y) = some (.int .i64 (nx L m (2 * k + 1) - k), B (m + 1) ++ Y) := fun Y m k hk hk' => by
    simp only [hB, List.append_assoc, List.cons_append]; exact c82 S hn hk hk'
  rw [← hB]
  generalize hN : h.length + 1 + G.length = N at lB
  have gB : ∀ m Y k, (B m ++ Y)[N + k]? = Y[k]? := fun m Y k => by rw [← lB m, get_off]
  have gB0 : ∀ m Y, (B m ++ Y)[N]? = Y[0]? := fun m Y => gB m Y 0
  have sB : ∀ m Y k y, (B m ++ Y).set (N + k) y = B m ++ Y.set k y := fun m Y k y => by rw [← lB m, set_off]
  have sB0 : ∀ m Y y, (B m ++ Y).set N y = B m ++ Y.set 0 y := fun m Y y => sB m Y 0 y
  have b3 := nx_bd (L := L) (m := m) (show (0 : Int) < 3 by decide)
  have w1 : IntKind.i64.wrap (1 + nx L m 3) = 1 + nx L m 3 := wrap_id (by omega) (by omega)
  obtain ⟨n1, hn1, hn3⟩ : ∃ n1 : Nat, 1 + nx L m 3 = n1 ∧ n1 ≤ 3 := ⟨(1 + nx L m 3).toNat, by omega, by omega⟩
  rw [hn1] at w1
  simp [lB, cN, w1, hn1]
  refine W_loop_up n1 (fun i s h' => ∃ X p, h' = B (jsF L (m + 1) i).2 ++ (.cells [.slice none 0 0, .slice none 0 0] 42 false :: .cells [slV (N + (p + 2)) (jsF L (m + 1) i).1, .slice none 0 0] 42 false :: X) ∧
    ((jsF L (m + 1) i).1.length ≠ 0 → X[p]? = some (.cells (tJ.flat (jsF L (m + 1) i).1) 76 false)) ∧
    s 5 = .int .i64 i ∧ s 4 = .int .i64 n1 ∧ s 0 = .pointer (some ⟨h.length, 0, none⟩) ∧ s 2 = .pointer (some ⟨N, 0, none⟩) ∧ s 3 = .pointer (some ⟨N + 1, 0, none⟩)) ?_ ?_ 0 _ _ (Nat.zero_le _) ⟨[], 0, by simp [slV, jsF], by simp [jsF], by simp, by simp, by simp, by simp, by simp⟩
  · rintro i s h' hi ⟨X, p, rfl, hX, h5, h4, h0, h2, h3⟩
    have hlen := jsF_len (L := L) (m := m + 1) i
    obtain ⟨X', hX', -, happ⟩ := append_2 (h := B (jsF L (m + 1) (i + 1)).2) (Y := [.cells [.slice none 0 0, .slice none 0 0] 42 false, .cells [slV (N + (p + 2)) (jsF L (m + 1) i).1, .slice none 0 0] 42 false]) (X := X) (p := p) (ys := (jsF L (m + 1) i).1) (x := (jtF L (jsF L (m + 1) i).2 i).1)
      tJ Try.underlying39 elem76 rfl hX (by decide) (by omega)
    have hb := fun h => build_1 (h := h) (x := (jtF L (jsF L (m + 1) i).2 i).1) tJ Try.underlying39 elem76 rfl (by decide)
    generalize hj : (jsF L (m + 1) i).1 = js at *
    generalize hm : (jsF L (m + 1) i).2 = m1 at *
    generalize hr : jsF L (m + 1) (i + 1) = r at *
    simp only [jsF, hj, hm] at hr
    have hr1 : r.1 = js ++ [(jtF L m1 i).1] := by rw [← hr]
    have hr2 : r.2 = (jtF L m1 i).2 := by rw [← hr]
    clear hr
    rw [hr2] at happ ⊢
    rw [hr1]
    simp [lB] at happ hb
    simp [lB, gB, gB0, sB, sB0, cJ _ _ i (by omega), hi, h5, h4, h0, h2, h3, hb, happ]
    refine ⟨.inr (.inr (by kernel_rfl)), .inr (.inl (by kernel_rfl)), .inr (by kernel_rfl), ?_⟩
    exact ⟨_, X'.length, ⟨rfl, rfl⟩, by simp, wrap_id (by omega) (by omega)⟩
  · rintro s h' ⟨X, p, rfl, hX, h5, h4, h0, h2, h3⟩
    have hlen := jsF_len (L := L) (m := m + 1) n1
    have hR : robF L m = ((jsF L (m + 1) n1).1, (msL L n1 ((jsF L (m + 1) n1).2 + 1) (nx L (jsF L (m + 1) n1).2 3).toNat).1, (msL L n1 ((jsF L (m + 1) n1).2 + 1) (nx L (jsF L (m + 1) n1).2 3).toNat).2) := by
      simp [robF, hn1]
    rw [hR]
    dsimp only
    clear hR
    generalize hj : (jsF L (m + 1) n1).1 = js at *
    generalize hm : (jsF L (m + 1) n1).2 = m1 at *
    have b4 := nx_bd (L := L) (m := m1) (show (0 : Int) < 3 by decide)
    obtain ⟨kk, hkk, hk3⟩ : ∃ k : Nat, nx L m1 3 = k ∧ k ≤ 2 := ⟨(nx L m1 3).toNat, by omega, by omega⟩
    have hjs : js.length ≠ 0 := by omega
    have hXp := hX hjs
    have hpX : p < X.length := (List.getElem?_eq_some_iff.1 hXp).1
    simp [lB, gB, gB0, sB, sB0, cN, h5, h4, h0, h2, h3, hkk]
    refine W_loop_up kk (fun i s h' => ∃ X q, h' = B (msL L n1 (m1 + 1) i).2 ++ (.cells [.slice none 0 0, .slice none 0 0] 42 false :: .cells [slV (N + (p + 2)) js, slV (N + (q + 2)) (msL L n1 (m1 + 1) i).1] 42 false :: X) ∧
      X[p]? = some (.cells (tJ.flat js) 76 false) ∧ q ≠ p ∧
      ((msL L n1 (m1 + 1) i).1.length ≠ 0 → X[q]? = some (.cells (tM.flat (msL L n1 (m1 + 1) i).1) 96 false)) ∧
      s 6 = .int .i64 (kk - i : Int) ∧ s 4 = .int .i64 n1 ∧ s 0 = .pointer (some ⟨h.length, 0, none⟩) ∧ s 2 = .pointer (some ⟨N, 0, none⟩) ∧ s 3 = .pointer (some ⟨N + 1, 0, none⟩)) ?_ ?_ 0 _ _ (Nat.zero_le _) ⟨X, p + 1, by simp [slV, msL], hXp, by omega, by simp [msL], by simp, by simp [h4], by simp [h0], by simp [h2], by simp [h3]⟩
    · clear hXp hpX hX X h5 h4 h0 h2 h3 s
      rintro i s h' hi ⟨X, q, rfl, hXp, hqp, hX, h5, h4, h0, h2, h3⟩
      have hlen2 := msL_len (L := L) (n := n1) (m := m1 + 1) i
      have hpX : p < X.length := (List.getElem?_eq_some_iff.1 hXp).1
      obtain ⟨X', hX', hXX, happ⟩ := append_2 (h := B (msL L n1 (m1 + 1) (i + 1)).2) (Y := [.cells [.slice none 0 0, .slice none 0 0] 42 false, .cells [slV (N + (p + 2)) js, slV (N + (q + 2)) (msL L n1 (m1 + 1) i).1] 42 false]) (X := X) (p := q) (ys := (msL L n1 (m1 + 1) i).1) (x := (msF L n1 (msL L n1 (m1 + 1) i).2).1)
        tM Try.underlying40 elem96 rfl hX (by decide) (by omega)
      have hb := fun h => build_1 (h := h) (x := (msF L n1 (msL L n1 (m1 + 1) i).2).1) tM Try.underlying40 elem96 rfl (by decide)
      have hXp' := (hXX p hpX (Ne.symm hqp)).trans hXp
      generalize hms : (msL L n1 (m1 + 1) i).1 = ms at *
      generalize hm2 : (msL L n1 (m1 + 1) i).2 = m2 at *
      generalize hr : msL L n1 (m1 + 1) (i + 1) = r at *
      simp only [msL, hms, hm2] at hr
      have hr1 : r.1 = ms ++ [(msF L n1 m2).1] := by rw [← hr]
      have hr2 : r.2 = m2 + 1 + 1 + 1 + 1 := by rw [← hr]; rfl
      clear hr
      rw [hr2] at happ ⊢
      rw [hr1]
      have q0 := nx_bd (L := L) (m := m2) (show (0 : Int) < n1 by omega)
      have q1 := nx_bd (L := L) (m := m2 + 1) (show (0 : Int) < 9000 by decide)
      have q2 := nx_bd (L := L) (m := m2 + 1 + 1) (show (0 : Int) < 7 by decide)
      have q3 := nx_bd (L := L) (m := m2 + 1 + 1 + 1) (show (0 : Int) < 5 by decide)
      have w2 : IntKind.i64.wrap (1 + nx L (m2 + 1) 9000) = 1 + nx L (m2 + 1) 9000 := wrap_id (by omega) (by omega)
      have w3 : IntKind.i64.wrap ((nx L (m2 + 1 + 1) 7 - 3) * 32768) = (nx L (m2 + 1 + 1) 7 - 3) * 32768 := wrap_id (by omega) (by omega)
      have w4 : IntKind.i64.wrap ((nx L (m2 + 1 + 1 + 1) 5 - 2) * 32768) = (nx L (m2 + 1 + 1 + 1) 5 - 2) * 32768 := wrap_id (by omega) (by omega)
      simp [lB, msC, msF] at happ hb
      simp [lB, gB, gB0, sB, sB0, cN, cS, hi, h5, h4, h0, h2, h3, hb, happ, w2, w3, w4, show 0 < n1 by omega, show (n1 : Int) ≤ 9223372036854775807 by omega]
      refine ⟨.inr (.inr (by kernel_rfl)), .inr (.inr (by kernel_rfl)), .inr (.inr (by kernel_rfl)), .inr (.inr (by kernel_rfl)), .inr (.inl (by kernel_rfl)), .inr (by kernel_rfl), ?_⟩
      exact ⟨_, X'.length, ⟨rfl, rfl⟩, by rw [List.getElem?_append_left (by omega)]; exact hXp', by omega, by simp [msF], by rw [wrap_id (by omega) (by omega)]; omega⟩
    · clear hXp hpX hX X h5 h4 h0 h2 h3 s
      rintro s h' ⟨X, q, rfl, hXp, hqp, hX, h5, h4, h0, h2, h3⟩
      have hgc := gc_two (h0 := B m) (h0' := B (msL L n1 (m1 + 1) kk).2) (Z := .cells [slV (N + (p + 2)) js, slV (N + (q + 2)) (msL L n1 (m1 + 1) kk).1] 42 false :: .cells [slV (N + (p + 2)) js, slV (N + (q + 2)) (msL L n1 (m1 + 1) kk).1] 42 false :: X) (b1 := p + 2) (b2 := q + 2)
        (by simp only [hB, List.append_assoc, List.cons_append]; exact st_src) (by rw [lB, lB]) tJ tM hjs hXp (by omega) hX
      rw [lB] at hgc
      simp [lB, gB, gB0, sB, sB0, h5, h4, h0, h2, h3]
      refine hgc.trans ?_
      simp [robV, robH, hB]
theorem c21 {h : AH} {a : Option Addr} {n c : Nat} {L : List Int} (S : Sl tZ h a n c L) (hn : n ≤ 4611686018427387904) :
    callP Try.prog 21 [.slice a n c] h = some (robV h.length (robF L 0).1 (robF L 0).2.1, h ++ robH (robF L 0).1 (robF L 0).2.1) := by
  refine call_of good21 Try.func21 rfl rfl ?_
  have hr := c45 (h := h ++ [.cells [.slice none 0 0, .slice none 0 0] 42 false]) (G := []) (S.app _) hn (m := 0)
  simp [robV] at hr
  have hjs : (robF L 0).1.length ≠ 0 := by
    have := nx_bd (L := L) (m := 0) (show (0 : Int) < 3 by decide)
    simp only [robF, jsF_len]
    omega
  have hgc := gc_two (h0 := h) (h0' := h) (Z := .cells [slV (h.length + 2) (robF L 0).1, slV (h.length + 3) (robF L 0).2.1] 42 false :: srcB a n c (robF L 0).2.2 :: robH (robF L 0).1 (robF L 0).2.1) (b1 := 2) (b2 := 3) (.app _ _) rfl tJ tM hjs rfl (by decide)
    (fun q => by unfold robH; rw [if_neg q]; rfl)
  simp [c46, hr]
  exact hgc
end Go.AM.Try

