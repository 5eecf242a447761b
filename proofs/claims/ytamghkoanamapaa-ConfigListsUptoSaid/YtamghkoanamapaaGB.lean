/- Lists: the pairs, and the law ConfigLists over the abstract machine. No condition. -/
import Derived.Test.YtamghkoanamapaaGA
namespace Go.AM.Try
open Go.Proofs
set_option maxRecDepth 100000
set_option linter.unusedSimpArgs false
set_option linter.unusedVariables false
attribute [-simp] Bool.decide_and Bool.decide_or
theorem good39 : fnB Try.prog 39 = true := by kernel_rfl
theorem good12 : fnB Try.prog 12 = true := by kernel_rfl

section
variable {h : AH} {a b : Option Addr} {n c m d : Nat} {xs : List (Int × Int)} {zs : List Int}
theorem c79' (S : Sl tI h a n c xs) (hn : n ≤ 8796093022207) (hv : vlB xs = true) :
    callP Try.prog 79 [.slice a n c] h = some (slV h.length (xs.map mid), h ++ rowH tN (xs.map mid)) := by
  have hl := S.len
  subst hl
  rw [c79 S hn hv, range_map (f := mid) (d := (0, 0))]
  by_cases q : xs.length = 0
  · rw [if_pos q, rowH_nil (by simpa using q)]
    simp [slV, q]
  · rw [if_neg q, rowH_pos (by simpa using q)]
theorem c79_no (S : Sl tI h a n c xs) (hn : n ≤ 8796093022207) (hv : vlB xs = false) :
    callP Try.prog 79 [.slice a n c] h = some (.slice none 0 0, h) := by
  refine call_of good79 Try.func79 rfl rfl ?_
  simp [c41' S (by omega), hv]
theorem c78' (S : Sl tI h a n c xs) (S2 : Sl tN h b n d zs) (hn : n ≤ 8796093022207) (hv : vlB xs = true) :
    callP Try.prog 78 [.slice a n c, .slice b n d] h = some (slV h.length (List.zipWith clI xs zs), h ++ rowH tN (List.zipWith clI xs zs)) := by
  have h1 := S.len
  have h2 := S2.len
  have hz : (List.zipWith clI xs zs).length = n := by simp; omega
  rw [c78 S S2 hn hv, range_zip (f := clI) (d := (0, 0)) (e := 0) (by omega) h1]
  by_cases q : n = 0
  · rw [if_pos q, rowH_nil (by omega)]
    simp [slV, hz, q]
  · rw [if_neg q, rowH_pos (by omega)]
theorem c78_no (S : Sl tI h a n c xs) (S2 : Sl tN h b m d zs) (hn : n ≤ 8796093022207) (hm : m ≤ 8796093022207) (hno : ¬ (vlB xs = true ∧ n = m)) :
    callP Try.prog 78 [.slice a n c, .slice b m d] h = some (.slice none 0 0, h) := by
  refine call_of good78 Try.func78 rfl rfl ?_
  cases hv : vlB xs
  · simp [c41' S (by omega), hv]
  · have hnm : ¬ ((n : Int) = m) := fun q => hno ⟨hv, by omega⟩
    simp [c41' S (by omega), hv, hnm]
theorem c19_no (S : Sl tN h a n c zs) (hn : n ≤ 8796093022207) (hv : smB zs = false) :
    callP Try.prog 19 [.slice a n c] h = some (.slice none 0 0, h) := by
  refine call_of good19 Try.func19 rfl rfl ?_
  simp [c44 S (by omega), hv]
theorem clp_map (hv : smB zs = true) : (zs.map fun z => (clp z, clp z)) = zs.map fun z => (z, z) := by
  apply List.map_congr_left
  intro z hz
  have := smB_iff.1 hv z hz
  have e : clp z = z := by unfold clp; omega
  rw [e]

theorem same_nilN : callP Try.prog 26 [.slice none 0 0, .slice none 0 0] h = some (.bool true, h) := by
  rw [c26 (xs := []) (ys := []) .none_ .none_ (by decide), decide_eq_true rfl]
theorem same_rowsN {ys : List Int} (S : Sl tN h a n c ys) (S2 : Sl tN h b n d ys) (hn : n ≤ 4611686018427387904) : callP Try.prog 26 [.slice a n c, .slice b n d] h = some (.bool true, h) := by
  rw [c26 S S2 hn, decide_eq_true rfl]

/-- A row of the program's and one of the reference's. -/
theorem pairI {Z : List (Int × Int)} (hz : Z.length = n) (hn : n ≤ 4611686018427387904) (X : AH) :
    callP Try.prog 20 [.slice (some ⟨h.length, 0, none⟩) n n, slV (h ++ [Blk.cells (tI.flat Z) 37 false]).length Z] (h ++ ([.cells (tI.flat Z) 37 false] ++ (rowH tI Z ++ X))) = some (.bool true, h ++ ([.cells (tI.flat Z) 37 false] ++ (rowH tI Z ++ X))) := by
  obtain ⟨a2, q1, q2⟩ := row_sl (P := Try.prog) tI (xs := Z) (h := h ++ [.cells (tI.flat Z) 37 false]) (X := X)
  rw [q1]
  rw [List.append_assoc] at q2
  rw [hz] at q2 ⊢
  exact same_rows (row_n hz (by rw [get_at]; rfl)) q2 (by omega)
theorem pairN {Z : List Int} (hz : Z.length = n) (hn : n ≤ 4611686018427387904) (X : AH) :
    callP Try.prog 26 [.slice (some ⟨h.length, 0, none⟩) n n, slV (h ++ [Blk.cells (tN.flat Z) 2 false]).length Z] (h ++ ([.cells (tN.flat Z) 2 false] ++ (rowH tN Z ++ X))) = some (.bool true, h ++ ([.cells (tN.flat Z) 2 false] ++ (rowH tN Z ++ X))) := by
  obtain ⟨a2, q1, q2⟩ := row_sl (P := Try.prog) tN (xs := Z) (h := h ++ [.cells (tN.flat Z) 2 false]) (X := X)
  rw [q1]
  rw [List.append_assoc] at q2
  rw [hz] at q2 ⊢
  exact same_rowsN (row_n hz (by rw [get_at]; rfl)) q2 (by omega)

theorem both_lm {ra rb : Option Addr} {rn rc sn sc : Nat} {RJ : List Jt} {RM : List Ms} (SR : Sl tJ h ra rn rc RJ) (SS : Sl tM h rb sn sc RM) (hrn : rn ≤ 140737488351232) (hsn : sn ≤ 140737488351232) (hz : ∀ j ∈ RJ, j.name.size ≤ 9223372036854775807) :
    ∃ (v w : Value) (G G2 : AH), callP Try.prog 75 [.agg #[.slice ra rn rc, .slice rb sn sc]] h = some (v, h ++ G) ∧ callP Try.prog 76 [.agg #[.slice ra rn rc, .slice rb sn sc]] (h ++ G) = some (w, h ++ (G ++ G2)) ∧
      ∀ X, callP Try.prog 20 [v, w] (h ++ (G ++ (G2 ++ X))) = some (.bool true, h ++ (G ++ (G2 ++ X))) := by
  have e1 := c75 SR SS hrn hsn hz
  by_cases hk : robE RJ RM = 0
  · rw [if_pos hk] at e1
    have e2 := c76 (SR.app [.cells (tI.flat (RJ.map limI)) 37 false]) (SS.app _) hrn hsn hz
    rw [if_pos hk] at e2
    exact ⟨_, _, _, rowH tI (RJ.map limI), e1, e2.trans (by rw [List.append_assoc]), pairI (by simp [SR.len]) (by omega)⟩
  · rw [if_neg hk] at e1
    have e2 := c76 SR SS hrn hsn hz
    rw [if_neg hk] at e2
    exact ⟨.slice none 0 0, .slice none 0 0, [], [], by simpa using e1, by simpa using e2, fun X => same_nil⟩
theorem both_bx (S : Sl tN h a n c zs) (hn : n ≤ 8796093022207) :
    ∃ (v w : Value) (G G2 : AH), callP Try.prog 77 [.slice a n c] h = some (v, h ++ G) ∧ callP Try.prog 19 [.slice a n c] (h ++ G) = some (w, h ++ (G ++ G2)) ∧
      ∀ X, callP Try.prog 20 [v, w] (h ++ (G ++ (G2 ++ X))) = some (.bool true, h ++ (G ++ (G2 ++ X))) := by
  have e1 := c77 S (by omega)
  cases hk : smB zs
  · rw [hk, if_neg (by decide)] at e1
    exact ⟨.slice none 0 0, .slice none 0 0, [], [], by simpa using e1, by simpa using c19_no S hn hk, fun X => same_nil⟩
  · rw [hk, if_pos rfl, clp_map hk] at e1
    have e2 := c19' (S.app [.cells (tI.flat (zs.map fun z => (z, z))) 37 false]) hn hk
    exact ⟨_, _, _, rowH tI (zs.map fun z => (z, z)), e1, e2.trans (by rw [List.append_assoc]), pairI (by simp [S.len]) (by omega)⟩
theorem both_md (S : Sl tI h a n c xs) (hn : n ≤ 8796093022207) :
    ∃ (v w : Value) (G G2 : AH), callP Try.prog 29 [.slice a n c] h = some (v, h ++ G) ∧ callP Try.prog 79 [.slice a n c] (h ++ G) = some (w, h ++ (G ++ G2)) ∧
      ∀ X, callP Try.prog 26 [v, w] (h ++ (G ++ (G2 ++ X))) = some (.bool true, h ++ (G ++ (G2 ++ X))) := by
  have e1 := c29 S (by omega)
  cases hk : vlB xs
  · rw [hk, if_neg (by decide)] at e1
    exact ⟨.slice none 0 0, .slice none 0 0, [], [], by simpa using e1, by simpa using c79_no S hn hk, fun X => same_nilN⟩
  · rw [hk, if_pos rfl] at e1
    have e2 := c79' (S.app [.cells (tN.flat (xs.map mid)) 2 false]) hn hk
    exact ⟨_, _, _, rowH tN (xs.map mid), e1, e2.trans (by rw [List.append_assoc]), pairN (by simp [S.len]) (by omega)⟩
theorem both_cl (S : Sl tI h a n c xs) (S2 : Sl tN h b m d zs) (hn : n ≤ 8796093022207) (hm : m ≤ 8796093022207) :
    ∃ (v w : Value) (G G2 : AH), callP Try.prog 28 [.slice a n c, .slice b m d] h = some (v, h ++ G) ∧ callP Try.prog 78 [.slice a n c, .slice b m d] (h ++ G) = some (w, h ++ (G ++ G2)) ∧
      ∀ X, callP Try.prog 26 [v, w] (h ++ (G ++ (G2 ++ X))) = some (.bool true, h ++ (G ++ (G2 ++ X))) := by
  by_cases hk : vlB xs = true ∧ n = m
  · obtain ⟨hv, rfl⟩ := hk
    have e1 := c28 S S2 (by omega) hv
    have hz : (List.zipWith clI xs zs).length = n := by have := S.len; have := S2.len; simp; omega
    cases b with
    | none =>
      have hn0 := (S2.nil rfl).1
      have hx : List.zipWith clI xs zs = [] := List.length_eq_zero_iff.1 (by omega)
      have e2 := c78' S S2 (by omega) hv
      rw [hx, rowH_nil rfl] at e2
      simp only [Option.isNone_none, if_true] at e1
      exact ⟨.slice none 0 0, .slice none 0 0, [], [], by simpa using e1, by simpa [slV] using e2, fun X => same_nilN⟩
    | some b =>
      simp only [Option.isNone_some, Bool.false_eq_true, if_false] at e1
      have e2 := c78' (S.app [.cells (tN.flat (List.zipWith clI xs zs)) 2 false]) (S2.app _) (by omega) hv
      exact ⟨_, _, _, rowH tN (List.zipWith clI xs zs), e1, e2.trans (by rw [List.append_assoc]), pairN hz (by omega)⟩
  · exact ⟨.slice none 0 0, .slice none 0 0, [], [], by simpa using c28_no S S2 (by omega) (by omega) hk, by simpa using c78_no S S2 (by omega) (by omega) hk, fun X => same_nilN⟩
end

set_option maxHeartbeats 1600000 in
theorem c39 {h : AH} {ra rb a b : Option Addr} {rn rc sn sc n c m d : Nat} {RJ : List Jt} {RM : List Ms} {zs : List Int} {xs : List (Int × Int)}
    (SR : Sl tJ h ra rn rc RJ) (SS : Sl tM h rb sn sc RM) (S : Sl tN h a n c zs) (S2 : Sl tI h b m d xs) (hrn : rn ≤ 140737488351232) (hsn : sn ≤ 140737488351232) (hn : n ≤ 8796093022207) (hm : m ≤ 8796093022207) (hz : ∀ j ∈ RJ, j.name.size ≤ 9223372036854775807) :
    callP Try.prog 39 [.agg #[.slice ra rn rc, .slice rb sn sc], .slice a n c, .slice b m d] h = some (.bool true, h) := by
  refine call_of good39 Try.func39 rfl rfl ?_
  obtain ⟨R, hR⟩ : ∃ R : Blk, R = .cells [.slice ra rn rc, .slice rb sn sc] 42 false := ⟨_, rfl⟩
  obtain ⟨v1, w1, G1, J1, e1, f1, s1⟩ := both_lm (SR.app [R]) (SS.app [R]) hrn hsn hz
  obtain ⟨v2, w2, G2, J2, e2, f2, s2⟩ := both_bx (S.app ([R] ++ (G1 ++ J1))) hn
  obtain ⟨v3, w3, G3, J3, e3, f3, s3⟩ := both_cl (S2.app ([R] ++ (G1 ++ (J1 ++ (G2 ++ J2))))) (S.app _) hm hn
  obtain ⟨v4, w4, G4, J4, e4, f4, s4⟩ := both_md (S2.app ([R] ++ (G1 ++ (J1 ++ (G2 ++ (J2 ++ (G3 ++ J3))))))) hm
  have i1 := c71 (SR.app [R]) (SS.app [R]) (S.app [R]) hrn hsn hz
  have i2 := c72 (SR.app [R]) (SS.app [R]) (S.app [R]) hrn hsn (by omega) hz
  have i3 := c73 (SR.app [R]) (SS.app [R]) (S2.app [R]) hrn hsn hz
  have i4 := c74 (SR.app [R]) (SS.app [R]) (S2.app [R]) hrn hsn (by omega) hz
  have i5 := c30 (S2.app ([R] ++ (G1 ++ (J1 ++ (G2 ++ J2))))) (S.app _) (by omega)
  have i6 := c25' (S2.app ([R] ++ (G1 ++ (J1 ++ (G2 ++ J2))))) (S.app _) (by omega)
  have t1 := s1 []
  have t2 := s2 []
  have t3 := s3 []
  have t4 := s4 []
  simp only [List.append_assoc, List.append_nil] at e1 e2 e3 e4 f1 f2 f3 f4 t1 t2 t3 t4 i5 i6
  generalize insB RJ RM zs = B1 at *
  generalize (decide (robE RJ RM = 0) && allB (fun j x => decide (wth x (limI j))) RJ xs) = B2 at *
  generalize (vlB xs && allB (fun x y => decide (has x y)) xs zs) = B3 at *
  rw [hR] at e1 e2 e3 e4 f1 f2 f3 f4 t1 t2 t3 t4 i1 i2 i3 i4 i5 i6
  simp at e1 e2 e3 e4 f1 f2 f3 f4 t1 t2 t3 t4 i1 i2 i3 i4 i5 i6
  simp [e1, e2, e3, e4, f1, f2, f3, f4, t1, t2, t3, t4, i1, i2, i3, i4, i5, i6]

set_option maxHeartbeats 3200000 in
theorem c12 {h : AH} {ra rb a b d e f : Option Addr} {rn rc sn sc n c m c1 k c2 u c3 v c4 : Nat} {RJ : List Jt} {RM : List Ms} {zs : List Int} {xs : List (Int × Int)} {L M N : List Int}
    (SR : Sl tJ h ra rn rc RJ) (SS : Sl tM h rb sn sc RM) (S : Sl tN h a n c zs) (S1 : Sl tI h b m c1 xs) (S2 : Sl tZ h d k c2 L) (S3 : Sl tZ h e u c3 M) (S4 : Sl tZ h f v c4 N)
    (hrn : rn ≤ 1048576) (hsn : sn ≤ 1048576) (hn : n ≤ 1048576) (hm : m ≤ 1048576) (hk : k ≤ 1048576) (hu : u ≤ 1048576) (hv : v ≤ 1048576) (hRz : ∀ j ∈ RJ, j.name.size ≤ 9223372036854775807) (at_ : Int) (_ : I64 at_) (w : Int) (hw : I64 w) :
    callP Try.prog 12 [.agg #[.slice ra rn rc, .slice rb sn sc], .slice a n c, .slice b m c1, .slice d k c2, .slice e u c3, .slice f v c4, .int .i64 at_, .int .i64 w] h = some (.bool true, h) := by
  refine call_of good12 Try.func12 rfl rfl ?_
  have hr := c21 (S2.app [.cells [.slice ra rn rc, .slice rb sn sc] 42 false]) (by omega)
  rw [show (robF L 0).1 = rJ L from rfl, show (robF L 0).2.1 = rM L from rfl] at hr
  have hjl := rJ_len L
  have hml := rM_len L
  have hjs : (rJ L).length ≠ 0 := by omega
  obtain ⟨h0, hh0⟩ : ∃ h0 : AH, h0 = h ++ [.cells [.slice ra rn rc, .slice rb sn sc] 42 false] := ⟨_, rfl⟩
  have hms0 : (rM L).length ≠ 0 → (robH (rJ L) (rM L))[1]? = some (.cells (tM.flat (rM L)) 96 false) := fun q => by unfold robH; rw [if_neg q]; rfl
  obtain ⟨ma, hma, _⟩ := slV_Sl (T := tM) (h := h0 ++ robH (rJ L) (rM L)) (b := h0.length + 1) (xs := rM L) fun q => by rw [get_off]; exact hms0 q
  rw [← hh0] at hr
  simp only [robV, slV_pos hjs, hma] at hr
  obtain ⟨H1, hH1⟩ : ∃ H1 : AH, h0 ++ (robH (rJ L) (rM L) ++ [.cells [.slice (some ⟨h0.length, 0, none⟩) (rJ L).length (rJ L).length, .slice ma (rM L).length (rM L).length] 42 false]) = H1 := ⟨_, rfl⟩
  have SJ : ∀ Y, Sl tJ (H1 ++ Y) (some ⟨h0.length, 0, none⟩) (rJ L).length (rJ L).length (rJ L) := fun Y => by rw [← hH1, List.append_assoc]; exact Sl.of_row (by rw [get_at]; rfl)
  have SM : ∀ Y, Sl tM (H1 ++ Y) ma (rM L).length (rM L).length (rM L) := fun Y => by
    rw [← hH1, List.append_assoc, List.append_assoc]
    obtain ⟨ma', q1, q2⟩ := slV_Sl (T := tM) (h := h0 ++ (robH (rJ L) (rM L) ++ ([.cells [.slice (some ⟨h0.length, 0, none⟩) (rJ L).length (rJ L).length, .slice ma (rM L).length (rM L).length] 42 false] ++ Y))) (b := h0.length + 1) (xs := rM L) fun q => by rw [get_off, List.getElem?_append_left (List.getElem?_eq_some_iff.1 (hms0 q)).1]; exact hms0 q
    rw [hma] at q1
    cases q1
    exact q2
  have up : ∀ Y, ∃ Z, H1 ++ Y = h ++ Z := fun Y => ⟨_, by rw [← hH1, hh0, List.append_assoc, List.append_assoc]⟩
  have hlen : h.length < H1.length := by rw [← hH1, hh0]; simp
  have TR : ∀ Y, Sl tJ (H1 ++ Y) ra rn rc RJ := fun Y => by obtain ⟨Z, hZ⟩ := up Y; rw [hZ]; exact SR.app _
  have TS : ∀ Y, Sl tM (H1 ++ Y) rb sn sc RM := fun Y => by obtain ⟨Z, hZ⟩ := up Y; rw [hZ]; exact SS.app _
  have T0 : ∀ Y, Sl tN (H1 ++ Y) a n c zs := fun Y => by obtain ⟨Z, hZ⟩ := up Y; rw [hZ]; exact S.app _
  have T1 : ∀ Y, Sl tI (H1 ++ Y) b m c1 xs := fun Y => by obtain ⟨Z, hZ⟩ := up Y; rw [hZ]; exact S1.app _
  have T3 : ∀ Y, Sl tZ (H1 ++ Y) e u c3 M := fun Y => by obtain ⟨Z, hZ⟩ := up Y; rw [hZ]; exact S3.app _
  have T4 : ∀ Y, Sl tZ (H1 ++ Y) f v c4 N := fun Y => by obtain ⟨Z, hZ⟩ := up Y; rw [hZ]; exact S4.app _
  have hcell : ∀ Y, (H1 ++ Y)[h0.length + (robH (rJ L) (rM L)).length]? = some (.cells [.slice (some ⟨h0.length, 0, none⟩) (rJ L).length (rJ L).length, .slice ma (rM L).length (rM L).length] 42 false) := fun Y => by
    rw [← hH1, List.append_assoc, get_off, List.append_assoc, get_at]; rfl
  have hcell0 := hcell []
  rw [List.append_nil] at hcell0
  have hcR : ∀ Y, (H1 ++ Y)[h.length]? = some (.cells [.slice ra rn rc, .slice rb sn sc] 42 false) := fun Y => by
    rw [← hH1, hh0, List.append_assoc, List.append_assoc, get_at]; rfl
  have hgc : ∀ Y, gcA h (.bool true) (H1 ++ Y) = (.bool true, h) := fun Y => by obtain ⟨Z, hZ⟩ := up Y; rw [hZ]; exact gc_app (.bool _)
  have hab : ∀ q, b.map (·.block) ≠ some (H1.length + q) := fun q g => by
    cases b with
    | none => cases g
    | some x =>
      obtain ⟨-, C, e', ro, h2, -⟩ := S1.at_ x rfl
      have := (List.getElem?_eq_some_iff.1 h2).1
      simp at g
      omega
  have x1 := c22 (ms := .slice ma (rM L).length (rM L).length) (SJ []) (T3 []) (by omega) (by omega) rJ_lim
  have lA : (cfF M (rJ L)).length = (rJ L).length := cfF_len
  rw [if_neg hjs, slV_pos (by omega)] at x1
  have hb2 : (bxP L N).length ≠ 0 := by rw [bxP_len]; exact hjs
  have x2 := c27 (ms := .slice ma (rM L).length (rM L).length) (SJ [.cells (tN.flat (cfF M (rJ L))) 2 false]) (T4 _) (by omega) (by omega) rJ_lim
  rw [show bxF N (rJ L) = bxP L N from rfl, slV_pos hb2, rowH_pos hb2] at x2
  have lB : (bxP L N).length = (rJ L).length := bxP_len
  have hz := rJ_nm (L := L)
  generalize cfF M (rJ L) = A at *
  generalize bxP L N = B at *
  rw [lA] at x1
  rw [lB] at x2
  generalize rJ L = J at *
  generalize rM L = K at *
  have ck := fun H => c15 (h := H) (a := at_) (b := (J.length : Int)) (by omega) (by omega)
  have ck2 := fun H => c15 (h := H) (a := at_) (b := 60) (by decide) (by decide)
  have j0 := Int.emod_nonneg at_ (show (J.length : Int) ≠ 0 by omega)
  have j1 := Int.emod_lt_of_pos at_ (show 0 < (J.length : Int) by omega)
  obtain ⟨j, hj, hjr⟩ : ∃ j : Nat, at_ % (J.length : Int) = j ∧ j < J.length := ⟨(at_ % (J.length : Int)).toNat, by omega, by omega⟩
  rw [hj] at ck
  have k0 := Int.emod_nonneg at_ (show (60 : Int) ≠ 0 by decide)
  have k1 := Int.emod_lt_of_pos at_ (show (0 : Int) < 60 by decide)
  have w1 : IntKind.u64.wrap (at_ % 60) = at_ % 60 := by rw [IntKind.wrap_u64]; omega
  generalize at_ % 60 = q60 at *
  have hq : ¬ q60 < 0 := by omega
  have SA : ∀ Y, Sl tN (H1 ++ .cells (tN.flat A) 2 false :: Y) (some ⟨H1.length, 0, none⟩) J.length J.length A := fun Y => row_n lA (by rw [get_at]; rfl)
  have SB : ∀ X Y, Sl tI (H1 ++ X :: .cells (tI.flat B) 37 false :: Y) (some ⟨H1.length + 1, 0, none⟩) J.length J.length B := fun X Y => row_n lB (by rw [get_off]; rfl)
  have an := append_new (s := none) (m := J.length) tN Try.underlying23 (xt := 23) Try.underlying23 elem2 rfl (fun _ q => by cases q) (SA [.cells (tI.flat B) 37 false]) (by decide) (by omega)
  rw [if_neg hjs] at an
  have ix := index_at (i := H1.length + 2) (o := 0) (n := J.length) (c := J.length) Try.underlying23 sz2 (j := j) (kk := .i64) (Int.natCast_nonneg _) (by omega)
  have st := store_T tN (h := H1) (g := [.cells (tN.flat A) 2 false, .cells (tI.flat B) 37 false, .cells (tN.flat A) 2 false]) (b := 2) (j := j) (x := w / 2 ^ (min q60.toNat 64)) rfl (by omega)
  have lZ : (A.set j (w / 2 ^ (min q60.toNat 64))).length = J.length := by simp [lA]
  generalize A.set j (w / 2 ^ (min q60.toNat 64)) = Z at *
  have hgl : ∀ Y, H1 ++ .cells (tN.flat A) 2 false :: .cells (tI.flat B) 37 false :: .cells (tN.flat Z) 2 false :: Y = H1 ++ [.cells (tN.flat A) 2 false, .cells (tI.flat B) 37 false, .cells (tN.flat Z) 2 false] ++ Y := fun Y => by simp
  have SZ : ∀ X Y W, Sl tN (H1 ++ X :: Y :: .cells (tN.flat Z) 2 false :: W) (some ⟨H1.length + 2, 0, none⟩) J.length J.length Z := fun X Y W => row_n lZ (by rw [get_off]; rfl)
  have e1 := c39 (TR [.cells (tN.flat A) 2 false, .cells (tI.flat B) 37 false, .cells (tN.flat Z) 2 false]) (TS _) (T0 _) (T1 _) (by omega) (by omega) (by omega) (by omega) hRz
  have e2 := c39 (SJ [.cells (tN.flat A) 2 false, .cells (tI.flat B) 37 false, .cells (tN.flat Z) 2 false]) (SM _) (SA _) (SB _ _) (by omega) (by omega) (by omega) (by omega) hz
  have e3 := c39 (SJ [.cells (tN.flat A) 2 false, .cells (tI.flat B) 37 false, .cells (tN.flat Z) 2 false]) (SM _) (SZ _ _ _) (SB _ _) (by omega) (by omega) (by omega) (by omega) hz
  have e4 := c39 (SJ [.cells (tN.flat A) 2 false, .cells (tI.flat B) 37 false, .cells (tN.flat Z) 2 false]) (SM _) (T0 _) (T1 _) (by omega) (by omega) (by omega) (by omega) hz
  simp at x1 x2 an ix st e1 e2 e3 e4
  by_cases hn0 : m = 0
  · subst hn0
    have ap := append_0 (b := H1.length + 1) (n := J.length) (c := J.length) tI Try.underlying26 (xt := 26) Try.underlying26 elem37 rfl (T1 [.cells (tN.flat A) 2 false, .cells (tI.flat B) 37 false, .cells (tN.flat Z) 2 false]) (Nat.le_refl _) (by decide) (by omega)
    (first | simp at ap | skip)
    simp [← hh0, hr, hH1, hcell, hcell0, hcR, x1, x2, ck, ck2, w1, hq, convA, an, ix, st, c16, e1, e2, e3, ap, e4, hgc]
  · have ap := append_own (h := H1) (g := [.cells (tN.flat A) 2 false, .cells (tI.flat B) 37 false, .cells (tN.flat Z) 2 false]) (b := 1) (ys := B) tI Try.underlying26 (xt := 26) Try.underlying26 elem37 rfl rfl (fun q => by rw [q] at lB; simp at lB; omega) (T1 _) (hab 1) hn0 (by decide) (by omega)
    have lX : (B ++ xs).length = J.length + m := by rw [List.length_append, lB, S1.len]
    have e5 := c39 (SJ [.cells (tN.flat A) 2 false, .dead, .cells (tN.flat Z) 2 false, .cells (tI.flat (B ++ xs)) 37 false]) (SM _) (SZ _ _ _) (row_n (T := tI) (b := H1.length + 3) lX (by rw [get_off]; rfl)) (by omega) (by omega) (by omega) (by omega) hz
    rw [lB] at ap
    (first | simp at ap | skip)
    (first | simp at e5 | skip)
    simp [← hh0, hr, hH1, hcell, hcell0, hcR, x1, x2, ck, ck2, w1, hq, convA, an, ix, st, c16, e1, e2, e3, ap, e4, e5, hgc]
    exact .inr (by kernel_rfl)
end Go.AM.Try

