/- The law ConfigBoxes over the abstract machine. No condition. -/
import Derived.Test.YtamghkoanamapaaGy
namespace Go.AM.Try
open Go.Proofs
set_option maxRecDepth 100000
set_option linter.unusedSimpArgs false
set_option linter.unusedVariables false
attribute [-simp] Bool.decide_and Bool.decide_or
theorem good38 : fnB Try.prog 38 = true := by kernel_rfl
theorem good11 : fnB Try.prog 11 = true := by kernel_rfl

theorem c18_no {h : AH} {a b : Option Addr} {n c m d : Nat} {xs ys : List (Int × Int)} (S : Sl tI h a n c xs) (S2 : Sl tI h b m d ys) (hn : n ≤ 8796093022208) (hm : m ≤ 8796093022208) (hno : ¬ (vlB xs = true ∧ vlB ys = true ∧ n = m)) :
    callP Try.prog 18 [.slice a n c, .slice b m d] h = some (.slice none 0 0, h) := by
  refine call_of good18 Try.func18 rfl rfl ?_
  cases hv : vlB xs
  · simp [c41' S (by omega), hv]
  · cases hw : vlB ys
    · simp [c41' S (by omega), c41' S2 (by omega), hv, hw]
    · have hnm : ¬ ((n : Int) = m) := fun q => hno ⟨hv, hw, by omega⟩
      simp [c41' S (by omega), c41' S2 (by omega), hv, hw, hnm]

theorem same_nil {h : AH} : callP Try.prog 20 [.slice none 0 0, .slice none 0 0] h = some (.bool true, h) := by
  rw [c20 (xs := []) (ys := []) .none_ .none_ (by decide), decide_eq_true rfl]
/-- Two rows of one list are the same. -/
theorem same_rows {h : AH} {a b : Option Addr} {n c d : Nat} {xs : List (Int × Int)} (S : Sl tI h a n c xs) (S2 : Sl tI h b n d xs) (hn : n ≤ 4611686018427387904) : callP Try.prog 20 [.slice a n c, .slice b n d] h = some (.bool true, h) := by
  rw [c20 S S2 hn, decide_eq_true rfl]

theorem both_hv {h : AH} {a : Option Addr} {n c : Nat} {xs : List (Int × Int)} {k : Int} (S : Sl tI h a n c xs) (hn : n ≤ 8796093022208) :
    ∃ (v1 v2 w1 w2 : Value) (x : Bool) (G G2 : AH), callP Try.prog 32 [.slice a n c, .int .i64 k] h = some (.tuple #[v1, v2, .bool x], h ++ G) ∧
      callP Try.prog 67 [.slice a n c, .int .i64 k] (h ++ G) = some (.tuple #[w1, w2, .bool x], h ++ (G ++ G2)) ∧
      (∀ X, callP Try.prog 20 [v1, w1] (h ++ (G ++ (G2 ++ X))) = some (.bool true, h ++ (G ++ (G2 ++ X)))) ∧ ∀ X, callP Try.prog 20 [v2, w2] (h ++ (G ++ (G2 ++ X))) = some (.bool true, h ++ (G ++ (G2 ++ X))) := by
  by_cases hk : HalfOK xs k
  · have e1 := c32 (k := k) S hn
    rw [if_pos hk] at e1
    have e2 := c67 (k := k) (S.app [.cells (tI.flat (lowH xs k.toNat)) 37 false, .cells (tI.flat (highH xs k.toNat)) 37 false]) hn
    rw [if_pos hk] at e2
    have l1 : (lowH xs k.toNat).length = n := by simp [lowH, S.len]
    have l2 : (highH xs k.toNat).length = n := by simp [highH, S.len]
    generalize lowH xs k.toNat = A at *
    generalize highH xs k.toNat = B at *
    refine ⟨_, _, _, _, true, _, [.cells (tI.flat A) 37 false, .cells (tI.flat B) 37 false], e1, e2.trans (by rw [List.append_assoc]), fun X => ?_, fun X => ?_⟩
    · exact same_rows (row_n l1 (by rw [get_at]; rfl)) (row_n l1 (by rw [List.length_append, get_off]; rfl)) (by omega)
    · exact same_rows (row_n l2 (by rw [get_off]; rfl)) (row_n l2 (by rw [List.length_append, Nat.add_assoc, get_off]; rfl)) (by omega)
  · have e1 := c32 (k := k) S hn
    rw [if_neg hk] at e1
    have e2 := c67 (k := k) S hn
    rw [if_neg hk] at e2
    exact ⟨.slice none 0 0, .slice none 0 0, .slice none 0 0, .slice none 0 0, false, [], [], by simpa using e1, by simpa using e2, fun X => same_nil, fun X => same_nil⟩
theorem both_hu {h : AH} {a b : Option Addr} {n c m d : Nat} {xs ys : List (Int × Int)} (S : Sl tI h a n c xs) (S2 : Sl tI h b m d ys) (hn : n ≤ 8796093022207) (hm : m ≤ 8796093022207) :
    ∃ (v w : Value) (G G2 : AH), callP Try.prog 34 [.slice a n c, .slice b m d] h = some (v, h ++ G) ∧ callP Try.prog 18 [.slice a n c, .slice b m d] (h ++ G) = some (w, h ++ (G ++ G2)) ∧
      ∀ X, callP Try.prog 20 [v, w] (h ++ (G ++ (G2 ++ X))) = some (.bool true, h ++ (G ++ (G2 ++ X))) := by
  by_cases hk : vlB xs = true ∧ vlB ys = true ∧ n = m
  · obtain ⟨hv, hw, rfl⟩ := hk
    have e1 := c34 S S2 (by omega) hv hw
    have hz : (List.zipWith hul xs ys).length = n := by have := S.len; have := S2.len; simp; omega
    cases a with
    | none =>
      have hn0 := (S.nil rfl).1
      have hx : List.zipWith hul xs ys = [] := List.length_eq_zero_iff.1 (by omega)
      have e2 := c18' S S2 (by omega) hv hw
      rw [hx, rowH_nil rfl] at e2
      simp only [Option.isNone_none, if_true] at e1
      exact ⟨.slice none 0 0, .slice none 0 0, [], [], by simpa using e1, by simpa [slV] using e2, fun X => same_nil⟩
    | some a =>
      simp only [Option.isNone_some, Bool.false_eq_true, if_false] at e1
      have e2 := c18' (S.app [.cells (tI.flat (List.zipWith hul xs ys)) 37 false]) (S2.app _) (by omega) hv hw
      generalize List.zipWith hul xs ys = Z at *
      refine ⟨_, _, _, rowH tI Z, e1, e2.trans (by rw [List.append_assoc]), fun X => ?_⟩
      obtain ⟨a2, q1, q2⟩ := row_sl (P := Try.prog) tI (xs := Z) (h := h ++ [.cells (tI.flat Z) 37 false]) (X := X)
      rw [q1]
      rw [List.append_assoc] at q2
      rw [hz] at q2 ⊢
      exact same_rows (row_n hz (by rw [get_at]; rfl)) q2 (by omega)
  · exact ⟨.slice none 0 0, .slice none 0 0, [], [], by simpa using c34_no S S2 (by omega) (by omega) hk, by simpa using c18_no S S2 (by omega) (by omega) hk, fun X => same_nil⟩

set_option maxHeartbeats 1600000 in
theorem c38 {h : AH} {ra rb a b : Option Addr} {rn rc sn sc n c m d : Nat} {RJ : List Jt} {RM : List Ms} {xs ys : List (Int × Int)} {k : Int}
    (SR : Sl tJ h ra rn rc RJ) (SS : Sl tM h rb sn sc RM) (S : Sl tI h a n c xs) (S2 : Sl tI h b m d ys) (hrn : rn ≤ 140737488351232) (hsn : sn ≤ 140737488351232) (hn : n ≤ 8796093022207) (hm : m ≤ 8796093022207) (hz : ∀ j ∈ RJ, j.name.size ≤ 9223372036854775807) :
    callP Try.prog 38 [.agg #[.slice ra rn rc, .slice rb sn sc], .slice a n c, .slice b m d, .int .i64 k] h = some (.bool true, h) := by
  refine call_of good38 Try.func38 rfl rfl ?_
  obtain ⟨R, hR⟩ : ∃ R : Blk, R = .cells [.slice ra rn rc, .slice rb sn sc] 42 false := ⟨_, rfl⟩
  obtain ⟨v1, v2, w1, w2, x, G1, G2, e1, e2, e3, e4⟩ := both_hv (k := k) (S.app [R]) (by omega)
  obtain ⟨v, w, G3, G4, f1, f2, f3⟩ := both_hu (S.app ([R] ++ (G1 ++ G2))) (S2.app ([R] ++ (G1 ++ G2))) hn hm
  simp only [List.append_assoc] at e1 e2 e3 e4 f1 f2 f3
  have f3' := f3 []
  have e3' := e3 (G3 ++ G4)
  have e4' := e4 (G3 ++ G4)
  have q1 := c35 (S.app ([R] ++ (G1 ++ (G2 ++ (G3 ++ G4))))) (S2.app _) (by omega) (by omega)
  have q2 := c17' (S.app ([R] ++ (G1 ++ (G2 ++ (G3 ++ G4))))) (S2.app _) (by omega) (by omega)
  have q3 := c31 (S.app ([R] ++ (G1 ++ (G2 ++ (G3 ++ G4))))) (S2.app _) (by omega) (by omega)
  have q4 := c68' (S.app ([R] ++ (G1 ++ (G2 ++ (G3 ++ G4))))) (S2.app _) (by omega) (by omega)
  have q5 := c69 (SR.app ([R] ++ (G1 ++ (G2 ++ (G3 ++ G4))))) (SS.app _) (S.app _) hrn hsn (by omega) hz
  have q6 := c70 (SR.app ([R] ++ (G1 ++ (G2 ++ (G3 ++ G4))))) (SS.app _) (S.app _) hrn hsn (by omega) hz
  generalize (vlB xs && vlB ys && allB (fun x y => decide (wth x y)) xs ys) = B1 at *
  generalize (vlB xs && vlB ys && allB (fun x y => decide (met x y)) xs ys) = B2 at *
  rw [hR] at e1 e2 e3' e4' f1 f2 f3' q1 q2 q3 q4 q5 q6
  simp at e1 e2 e3' e4' f1 f2 f3' q1 q2 q3 q4 q5 q6
  simp [e1, e2, e3', e4', f1, f2, f3', q1, q2, q3, q4, q5, q6]

set_option maxHeartbeats 3200000 in
theorem c11 {h : AH} {ra rb a b d e f : Option Addr} {rn rc sn sc n c m c1 k c2 u c3 v c4 : Nat} {RJ : List Jt} {RM : List Ms} {xs ys : List (Int × Int)} {L M N : List Int}
    (SR : Sl tJ h ra rn rc RJ) (SS : Sl tM h rb sn sc RM) (S : Sl tI h a n c xs) (S1 : Sl tI h b m c1 ys) (S2 : Sl tZ h d k c2 L) (S3 : Sl tZ h e u c3 M) (S4 : Sl tZ h f v c4 N)
    (hrn : rn ≤ 140737488351232) (hsn : sn ≤ 140737488351232) (hn : n ≤ 8796093021952) (hm : m ≤ 8796093021952) (hk : k ≤ 140737488351232) (hu : u ≤ 140737488351232) (hv : v ≤ 140737488351232) (hRz : ∀ j ∈ RJ, j.name.size ≤ 9223372036854775807) (joint : Int) (_ : I64 joint) :
    callP Try.prog 11 [.agg #[.slice ra rn rc, .slice rb sn sc], .slice a n c, .slice b m c1, .int .i64 joint, .slice d k c2, .slice e u c3, .slice f v c4] h = some (.bool true, h) := by
  refine call_of good11 Try.func11 rfl rfl ?_
  have hr := c21 (S2.app [.cells [.slice ra rn rc, .slice rb sn sc] 42 false]) (by omega)
  rw [show (robF L 0).1 = rJ L from rfl, show (robF L 0).2.1 = rM L from rfl] at hr
  have hjl := rJ_len L
  have hml := rM_len L
  have hjs : (rJ L).length ≠ 0 := by omega
  obtain ⟨h0, hh0⟩ : ∃ h0 : AH, h0 = h ++ [.cells [.slice ra rn rc, .slice rb sn sc] 42 false] := ⟨_, rfl⟩
  have hms0 : (rM L).length ≠ 0 → (robH (rJ L) (rM L))[1]? = some (.cells (tM.flat (rM L)) 96 false) := fun q => by unfold robH; rw [if_neg q]; rfl
  obtain ⟨ma, hma, _⟩ := slV_Sl (T := tM) (h := h0 ++ robH (rJ L) (rM L)) (b := h0.length + 1) (xs := rM L) fun q => by rw [get_off]; exact hms0 q
  rw [← hh0] at hr
  simp only [robV, slV_pos hjs, hma] at hr
  obtain ⟨H1, hH1⟩ : ∃ H1 : AH, h0 ++ (robH (rJ L) (rM L) ++ [.cells [.slice (some ⟨h0.length, 0, none⟩) (rJ L).length (rJ L).length, .slice ma (rM L).length (rM L).length] 42 false]) = H1 := ⟨_, rfl⟩
  have SJ : ∀ Y, Sl tJ (H1 ++ Y) (some ⟨h0.length, 0, none⟩) (rJ L).length (rJ L).length (rJ L) := fun Y => by rw [← hH1, List.append_assoc]; exact Sl.of_row (by rw [get_at]; rfl)
  have SM : ∀ Y, Sl tM (H1 ++ Y) ma (rM L).length (rM L).length (rM L) := fun Y => by
    rw [← hH1, List.append_assoc, List.append_assoc]
    obtain ⟨ma', q1, q2⟩ := slV_Sl (T := tM) (h := h0 ++ (robH (rJ L) (rM L) ++ ([.cells [.slice (some ⟨h0.length, 0, none⟩) (rJ L).length (rJ L).length, .slice ma (rM L).length (rM L).length] 42 false] ++ Y))) (b := h0.length + 1) (xs := rM L) fun q => by rw [get_off, List.getElem?_append_left (List.getElem?_eq_some_iff.1 (hms0 q)).1]; exact hms0 q
    rw [hma] at q1
    cases q1
    exact q2
  have up : ∀ Y, ∃ Z, H1 ++ Y = h ++ Z := fun Y => ⟨_, by rw [← hH1, hh0, List.append_assoc, List.append_assoc]⟩
  have hlen : h.length < H1.length := by rw [← hH1, hh0]; simp
  have TR : ∀ Y, Sl tJ (H1 ++ Y) ra rn rc RJ := fun Y => by obtain ⟨Z, hZ⟩ := up Y; rw [hZ]; exact SR.app _
  have TS : ∀ Y, Sl tM (H1 ++ Y) rb sn sc RM := fun Y => by obtain ⟨Z, hZ⟩ := up Y; rw [hZ]; exact SS.app _
  have T0 : ∀ Y, Sl tI (H1 ++ Y) a n c xs := fun Y => by obtain ⟨Z, hZ⟩ := up Y; rw [hZ]; exact S.app _
  have T1 : ∀ Y, Sl tI (H1 ++ Y) b m c1 ys := fun Y => by obtain ⟨Z, hZ⟩ := up Y; rw [hZ]; exact S1.app _
  have T3 : ∀ Y, Sl tZ (H1 ++ Y) e u c3 M := fun Y => by obtain ⟨Z, hZ⟩ := up Y; rw [hZ]; exact S3.app _
  have T4 : ∀ Y, Sl tZ (H1 ++ Y) f v c4 N := fun Y => by obtain ⟨Z, hZ⟩ := up Y; rw [hZ]; exact S4.app _
  have hcell : ∀ Y, (H1 ++ Y)[h0.length + (robH (rJ L) (rM L)).length]? = some (.cells [.slice (some ⟨h0.length, 0, none⟩) (rJ L).length (rJ L).length, .slice ma (rM L).length (rM L).length] 42 false) := fun Y => by
    rw [← hH1, List.append_assoc, get_off, List.append_assoc, get_at]; rfl
  have hcell0 := hcell []
  rw [List.append_nil] at hcell0
  have hcR : ∀ Y, (H1 ++ Y)[h.length]? = some (.cells [.slice ra rn rc, .slice rb sn sc] 42 false) := fun Y => by
    rw [← hH1, hh0, List.append_assoc, List.append_assoc, get_at]; rfl
  have hgc : ∀ Y, gcA h (.bool true) (H1 ++ Y) = (.bool true, h) := fun Y => by obtain ⟨Z, hZ⟩ := up Y; rw [hZ]; exact gc_app (.bool _)
  have hab : ∀ q, a.map (·.block) ≠ some (H1.length + q) := fun q g => by
    cases a with
    | none => cases g
    | some x =>
      obtain ⟨-, C, e', ro, h2, -⟩ := S.at_ x rfl
      have := (List.getElem?_eq_some_iff.1 h2).1
      simp at g
      omega
  have x1 := c27 (ms := .slice ma (rM L).length (rM L).length) (SJ []) (T3 []) (by omega) (by omega) rJ_lim
  have hb1 : (bxP L M).length ≠ 0 := by rw [bxP_len]; exact hjs
  have hb2 : (bxP L N).length ≠ 0 := by rw [bxP_len]; exact hjs
  rw [show bxF M (rJ L) = bxP L M from rfl, slV_pos hb1, rowH_pos hb1] at x1
  have x2 := c27 (ms := .slice ma (rM L).length (rM L).length) (SJ [.cells (tI.flat (bxP L M)) 37 false]) (T4 _) (by omega) (by omega) rJ_lim
  rw [show bxF N (rJ L) = bxP L N from rfl, slV_pos hb2, rowH_pos hb2] at x2
  have vA : vlB (bxP L M) = true := bxP_vl
  have lA : (bxP L M).length = (rJ L).length := bxP_len
  have lB : (bxP L N).length = (rJ L).length := bxP_len
  have hz := rJ_nm (L := L)
  generalize bxP L M = A at *
  generalize bxP L N = B at *
  rw [lA] at x1
  rw [lB] at x2
  generalize rJ L = J at *
  generalize rM L = K at *
  have ck := fun H => c15 (h := H) (a := joint) (b := 5) (by decide) (by decide)
  have j0 := Int.emod_nonneg joint (show (5 : Int) ≠ 0 by decide)
  have j1 := Int.emod_lt_of_pos joint (show (0 : Int) < 5 by decide)
  have w1 : IntKind.i64.wrap (joint % 5 - 1) = joint % 5 - 1 := wrap_id (by omega) (by omega)
  have SA : ∀ Y, Sl tI (H1 ++ .cells (tI.flat A) 37 false :: Y) (some ⟨H1.length, 0, none⟩) J.length J.length A := fun Y => row_n lA (by rw [get_at]; rfl)
  have SB : ∀ X Y, Sl tI (H1 ++ X :: .cells (tI.flat B) 37 false :: Y) (some ⟨H1.length + 1, 0, none⟩) J.length J.length B := fun X Y => row_n lB (by rw [get_off]; rfl)
  have e1 := c38 (k := joint) (TR [.cells (tI.flat A) 37 false, .cells (tI.flat B) 37 false]) (TS _) (T0 _) (T1 _) hrn hsn (by omega) (by omega) hRz
  have e2 := c38 (k := joint % 5 - 1) (SJ [.cells (tI.flat A) 37 false, .cells (tI.flat B) 37 false]) (SM _) (SA _) (SB _ _) (by omega) (by omega) (by omega) (by omega) hz
  have u1 := c33 (SA [.cells (tI.flat B) 37 false]) (T4 _) (by omega) (by omega) vA
  have lW : (wnF N A).length = J.length := by rw [wnF_len, lA]
  rw [slV_pos (by omega), rowH_pos (by omega), lW] at u1
  generalize wnF N A = W at *
  have e3 := c38 (k := joint % 5 - 1) (SJ [.cells (tI.flat A) 37 false, .cells (tI.flat B) 37 false, .cells (tI.flat W) 37 false]) (SM _) (row_n (T := tI) (b := H1.length + 2) lW (by rw [get_off]; rfl)) (SA _) (by omega) (by omega) (by omega) (by omega) hz
  simp at x1 x2 e1 e2 u1 e3
  by_cases hn0 : n = 0
  · subst hn0
    have ap := append_0 (b := H1.length) (n := J.length) (c := J.length) tI Try.underlying26 (xt := 26) Try.underlying26 elem37 rfl (T0 [.cells (tI.flat A) 37 false, .cells (tI.flat B) 37 false, .cells (tI.flat W) 37 false]) (Nat.le_refl _) (by decide) (by omega)
    have e4 := c38 (k := joint % 5 - 1) (SJ [.cells (tI.flat A) 37 false, .cells (tI.flat B) 37 false, .cells (tI.flat W) 37 false]) (SM _) (SA _) (T1 _) (by omega) (by omega) (by omega) (by omega) hz
    (first | simp at ap | skip)
    (first | simp at e4 | skip)
    simp [← hh0, hr, hH1, hcell, hcell0, hcR, x1, x2, ck, w1, c16, e1, e2, u1, e3, ap, e4, hgc]
  · have ap := append_own (h := H1) (g := [.cells (tI.flat A) 37 false, .cells (tI.flat B) 37 false, .cells (tI.flat W) 37 false]) (b := 0) (ys := A) tI Try.underlying26 (xt := 26) Try.underlying26 elem37 rfl rfl (fun q => by rw [q] at lA; simp at lA; omega) (T0 _) (hab 0) hn0 (by decide) (by omega)
    have lX : (A ++ xs).length = J.length + n := by rw [List.length_append, lA, S.len]
    have e4 := c38 (k := joint % 5 - 1) (SJ [.dead, .cells (tI.flat B) 37 false, .cells (tI.flat W) 37 false, .cells (tI.flat (A ++ xs)) 37 false]) (SM _) (row_n (T := tI) (b := H1.length + 3) lX (by rw [get_off]; rfl)) (T1 _) (by omega) (by omega) (by omega) (by omega) hz
    rw [lA] at ap
    (first | simp at ap | skip)
    (first | simp at e4 | skip)
    simp [← hh0, hr, hH1, hcell, hcell0, hcR, x1, x2, ck, w1, c16, e1, e2, u1, e3, ap, e4, hgc]
    exact .inr (by kernel_rfl)
end Go.AM.Try

