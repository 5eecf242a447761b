/- Robots that come in; the law ConfigDistance over the abstract machine. No condition. -/
import Derived.Test.YtamghkoanamapaaGw
namespace Go.AM.Try
open Go.Proofs
set_option maxRecDepth 100000
set_option linter.unusedSimpArgs false
set_option linter.unusedVariables false
attribute [-simp] Bool.decide_and Bool.decide_or
theorem good9 : fnB Try.prog 9 = true := by kernel_rfl

section
variable {H : Type} {enc : TypeId × Value → H} {W : World}
theorem und76 : Try.prog.underlying 76 = some (.struct (Try.prog.fieldsOf 76)) := by kernel_rfl
theorem und96 : Try.prog.underlying 96 = some (.struct (Try.prog.fieldsOf 96)) := by kernel_rfl
theorem und42 : Try.prog.underlying 42 = some (.struct (Try.prog.fieldsOf 42)) := by kernel_rfl
theorem trod_jt (n : Nat) (cs : List Value) (y : DataW H × List MemPlace) (hl : cs.length = 12) (h : DataW.trod enc Try.prog W 0 (fun _ => true) true n 76 cs = some y) :
    ∃ x : Jt, cs = (tJ.v x).cells.toList ∧ x.name.size ≤ 9223372036854775807 := by
  obtain ⟨_, _, g0⟩ := trod_fld (i := 0) (o := 0) (k := 1) (ft := 9) und76 (by kernel_rfl) (by kernel_rfl) h
  obtain ⟨_, _, g1⟩ := trod_fld (i := 1) (o := 1) (k := 1) (ft := 3) und76 (by kernel_rfl) (by kernel_rfl) h
  obtain ⟨_, _, g2⟩ := trod_fld (i := 2) (o := 2) (k := 1) (ft := 3) und76 (by kernel_rfl) (by kernel_rfl) h
  obtain ⟨_, _, g3⟩ := trod_fld (i := 3) (o := 3) (k := 3) (ft := 74) und76 (by kernel_rfl) (by kernel_rfl) h
  obtain ⟨_, _, g4⟩ := trod_fld (i := 4) (o := 6) (k := 1) (ft := 2) und76 (by kernel_rfl) (by kernel_rfl) h
  obtain ⟨_, _, g5⟩ := trod_fld (i := 5) (o := 7) (k := 1) (ft := 2) und76 (by kernel_rfl) (by kernel_rfl) h
  obtain ⟨_, _, g6⟩ := trod_fld (i := 6) (o := 8) (k := 1) (ft := 2) und76 (by kernel_rfl) (by kernel_rfl) h
  obtain ⟨_, _, g7⟩ := trod_fld (i := 7) (o := 9) (k := 1) (ft := 2) und76 (by kernel_rfl) (by kernel_rfl) h
  obtain ⟨_, _, g8⟩ := trod_fld (i := 8) (o := 10) (k := 1) (ft := 2) und76 (by kernel_rfl) (by kernel_rfl) h
  obtain ⟨_, _, g9⟩ := trod_fld (i := 9) (o := 11) (k := 1) (ft := 2) und76 (by kernel_rfl) (by kernel_rfl) h
  obtain ⟨_, _, a0⟩ := trod_arr (i := 0) (N := 3) (k := 1) (e := 2) Try.underlying74 (by kernel_rfl) (by decide) g3
  obtain ⟨_, _, a1⟩ := trod_arr (i := 1) (N := 3) (k := 1) (e := 2) Try.underlying74 (by kernel_rfl) (by decide) g3
  obtain ⟨_, _, a2⟩ := trod_arr (i := 2) (N := 3) (k := 1) (e := 2) Try.underlying74 (by kernel_rfl) (by decide) g3
  obtain ⟨x0, e0, z0⟩ := trod_str_at Try.underlying9 g0
  obtain ⟨x1, e1, _⟩ := trod_int_at Try.underlying3 g1
  obtain ⟨x2, e2, _⟩ := trod_int_at Try.underlying3 g2
  obtain ⟨x3, e3, _⟩ := trod_int_at Try.underlying2 a0
  obtain ⟨x4, e4, _⟩ := trod_int_at Try.underlying2 a1
  obtain ⟨x5, e5, _⟩ := trod_int_at Try.underlying2 a2
  obtain ⟨x6, e6, _⟩ := trod_int_at Try.underlying2 g4
  obtain ⟨x7, e7, _⟩ := trod_int_at Try.underlying2 g5
  obtain ⟨x8, e8, _⟩ := trod_int_at Try.underlying2 g6
  obtain ⟨x9, e9, _⟩ := trod_int_at Try.underlying2 g7
  obtain ⟨x10, e10, _⟩ := trod_int_at Try.underlying2 g8
  obtain ⟨x11, e11, _⟩ := trod_int_at Try.underlying2 g9
  simp [List.getElem?_take, List.getElem?_drop] at e3 e4 e5
  refine ⟨⟨x0, x1, x2, x3, x4, x5, x6, x7, x8, x9, x10, x11⟩, ?_, Nat.le_trans z0 (by decide)⟩
  apply List.ext_getElem?
  intro i
  match i with
  | 0 => exact e0
  | 1 => exact e1
  | 2 => exact e2
  | 3 => exact e3
  | 4 => exact e4
  | 5 => exact e5
  | 6 => exact e6
  | 7 => exact e7
  | 8 => exact e8
  | 9 => exact e9
  | 10 => exact e10
  | 11 => exact e11
  | i + 12 => rw [List.getElem?_eq_none (by omega), List.getElem?_eq_none (by simp [jtC])]
theorem trod_ms (n : Nat) (cs : List Value) (y : DataW H × List MemPlace) (hl : cs.length = 5) (h : DataW.trod enc Try.prog W 0 (fun _ => true) true n 96 cs = some y) :
    ∃ x : Ms, cs = (tM.v x).cells.toList ∧ True := by
  obtain ⟨_, _, g0⟩ := trod_fld (i := 0) (o := 0) (k := 1) (ft := 3) und96 (by kernel_rfl) (by kernel_rfl) h
  obtain ⟨_, _, g1⟩ := trod_fld (i := 1) (o := 1) (k := 1) (ft := 2) und96 (by kernel_rfl) (by kernel_rfl) h
  obtain ⟨_, _, g2⟩ := trod_fld (i := 2) (o := 2) (k := 3) (ft := 74) und96 (by kernel_rfl) (by kernel_rfl) h
  obtain ⟨_, _, a0⟩ := trod_arr (i := 0) (N := 3) (k := 1) (e := 2) Try.underlying74 (by kernel_rfl) (by decide) g2
  obtain ⟨_, _, a1⟩ := trod_arr (i := 1) (N := 3) (k := 1) (e := 2) Try.underlying74 (by kernel_rfl) (by decide) g2
  obtain ⟨_, _, a2⟩ := trod_arr (i := 2) (N := 3) (k := 1) (e := 2) Try.underlying74 (by kernel_rfl) (by decide) g2
  obtain ⟨x0, e0, _⟩ := trod_int_at Try.underlying3 g0
  obtain ⟨x1, e1, _⟩ := trod_int_at Try.underlying2 g1
  obtain ⟨x2, e2, _⟩ := trod_int_at Try.underlying2 a0
  obtain ⟨x3, e3, _⟩ := trod_int_at Try.underlying2 a1
  obtain ⟨x4, e4, _⟩ := trod_int_at Try.underlying2 a2
  simp [List.getElem?_take, List.getElem?_drop] at e2 e3 e4
  refine ⟨⟨x0, x1, x2, x3, x4⟩, ?_, trivial⟩
  apply List.ext_getElem?
  intro i
  match i with
  | 0 => exact e0
  | 1 => exact e1
  | 2 => exact e2
  | 3 => exact e3
  | 4 => exact e4
  | i + 5 => rw [List.getElem?_eq_none (by omega), List.getElem?_eq_none (by simp [msC])]
theorem trod_iv (n : Nat) (cs : List Value) (y : DataW H × List MemPlace) (hl : cs.length = 2) (h : DataW.trod enc Try.prog W 0 (fun _ => true) true n 37 cs = some y) :
    ∃ x : Int × Int, cs = (tI.v x).cells.toList ∧ (I64 x.1 ∧ I64 x.2) := by
  have und37 : Try.prog.underlying 37 = some (.struct (Try.prog.fieldsOf 37)) := by kernel_rfl
  obtain ⟨_, _, g0⟩ := trod_fld (i := 0) (o := 0) (k := 1) (ft := 2) und37 (by kernel_rfl) (by kernel_rfl) h
  obtain ⟨_, _, g1⟩ := trod_fld (i := 1) (o := 1) (k := 1) (ft := 2) und37 (by kernel_rfl) (by kernel_rfl) h
  obtain ⟨x0, e0, w0⟩ := trod_int_at Try.underlying2 g0
  obtain ⟨x1, e1, w1⟩ := trod_int_at Try.underlying2 g1
  refine ⟨(x0, x1), ?_, wf_i64 w0, wf_i64 w1⟩
  apply List.ext_getElem?
  intro i
  match i with
  | 0 => exact e0
  | 1 => exact e1
  | i + 2 => rw [List.getElem?_eq_none (by omega), List.getElem?_eq_none (by simp)]
end

theorem dist_comm {J : List Jt} {K : List Ms} {p q : List Int} : dist J K p q = dist J K q p := by
  unfold dist
  by_cases h : DistOK J K p q
  · have h' : DistOK J K q p := ⟨h.1, h.2.2.1, h.2.1, h.2.2.2.2, h.2.2.2.1⟩
    rw [if_pos h, if_pos h']
    congr 1
    funext i
    unfold dTm
    rw [Int.max_comm]
  · have h' : ¬ DistOK J K q p := fun h' => h ⟨h'.1, h'.2.2.1, h'.2.1, h'.2.2.2.2, h'.2.2.2.1⟩
    rw [if_neg h, if_neg h']
theorem sumN_zero {f : Nat → Int} {n : Nat} (h : ∀ i, i < n → 0 ≤ f i) : sumN f n = 0 ↔ ∀ i, i < n → f i = 0 := by
  have hn : ∀ n, (∀ i, i < n → 0 ≤ f i) → 0 ≤ sumN f n := by
    intro n
    induction n with
    | zero => intro _; exact Int.le_refl _
    | succ n ih => intro g; have := ih fun i hi => g i (by omega); have := g n (by omega); simp only [sumN]; omega
  induction n with
  | zero => simp [sumN]
  | succ n ih =>
    have := ih fun i hi => h i (by omega)
    have h1 := hn n fun i hi => h i (by omega)
    have h2 := h n (by omega)
    simp only [sumN]
    constructor
    · intro g i hi
      by_cases e : i = n
      · subst e; omega
      · exact this.1 (by omega) i (by omega)
    · intro g
      have g1 := this.2 fun i hi => g i (by omega)
      have g2 := g n (by omega)
      omega
theorem dist_zero {J : List Jt} {K : List Ms} {p q : List Int} (h : DistOK J K p q) : decide (dist J K p q = 0) = decide (p = q) := by
  unfold dist
  rw [if_pos h, Bool.eq_iff_iff, decide_eq_true_iff, decide_eq_true_iff, sumN_zero fun i hi => by obtain ⟨w, x, y, -, -, -, e, -, -, b1, -⟩ := dTm_bd h hi; rw [e]; exact b1]
  have hl : p.length = q.length := by rw [h.2.2.2.1, h.2.2.2.2]
  constructor
  · intro g
    apply List.ext_getElem hl
    intro i h1 h2
    have hi : i < J.length := by rw [← h.2.2.2.1]; exact h1
    obtain ⟨w, x, y, ew, ex, ey, e, -, -, b1, -⟩ := dTm_bd h hi
    have hw := (cjF_ok ((robE_ok h.1).2 i hi)).2.2.1
    have := g i hi
    rw [e] at this
    rw [ex, ey]
    rcases Int.mul_eq_zero.1 this with q | q <;> omega
  · rintro rfl i hi
    obtain ⟨w, x, y, ew, ex, ey, e, -, -, b1, -⟩ := dTm_bd h hi
    rw [e, show y = x by rw [← ex, ← ey]]
    simp
theorem dist_tri {J : List Jt} {K : List Ms} {p q r : List Int} (h1 : DistOK J K p q) (h2 : DistOK J K p r) (h3 : DistOK J K r q) : dist J K p q ≤ dist J K p r + dist J K r q := by
  unfold dist
  rw [if_pos h1, if_pos h2, if_pos h3]
  have : ∀ n, n ≤ J.length → sumN (dTm J p q) n ≤ sumN (dTm J p r) n + sumN (dTm J r q) n := by
    intro n
    induction n with
    | zero => intro _; simp [sumN]
    | succ n ih =>
      intro hn
      have := ih (by omega)
      obtain ⟨w, x, y, ew, ex, ey, e, -, -, -, -⟩ := dTm_bd h1 (i := n) (by omega)
      obtain ⟨w2, x2, z, ew2, ex2, ez, e2, -, -, -, -⟩ := dTm_bd h2 (i := n) (by omega)
      obtain ⟨w3, z3, y3, ew3, ez3, ey3, e3, -, -, -, -⟩ := dTm_bd h3 (i := n) (by omega)
      have hw := (cjF_ok ((robE_ok h1.1).2 n (by omega))).2.2.1
      have q1 : w2 = w := by rw [← ew2, ← ew]
      have q2 : w3 = w := by rw [← ew3, ← ew]
      have q3 : x2 = x := by rw [← ex2, ← ex]
      have q4 : z3 = z := by rw [← ez3, ← ez]
      have q5 : y3 = y := by rw [← ey3, ← ey]
      subst q1 q2 q3 q4 q5
      have m := Int.mul_le_mul_of_nonneg_left (show max (y3 - x2) (x2 - y3) ≤ max (z3 - x2) (x2 - z3) + max (y3 - z3) (z3 - y3) by omega) (show 0 ≤ w3 by omega)
      rw [Int.mul_add] at m
      simp only [sumN, e, e2, e3]
      omega
  exact this _ (Nat.le_refl _)
theorem dist_bd {J : List Jt} {K : List Ms} {p q : List Int} : 0 ≤ dist J K p q ∧ dist J K p q ≤ 4398046511104 * 10 := by
  unfold dist
  split
  · rename_i h
    have := sumN_bd h J.length (Nat.le_refl _)
    have := (robE_ok h.1).1
    omega
  · omega

set_option maxHeartbeats 3200000 in
theorem c9 {h : AH} {ra rb a b d e f g : Option Addr} {rn rc sn sc n c m c1 k c2 u c3 v c4 o c5 : Nat} {RJ : List Jt} {RM : List Ms} {zs ws L M N O : List Int}
    (SR : Sl tJ h ra rn rc RJ) (SS : Sl tM h rb sn sc RM) (S : Sl tN h a n c zs) (S1 : Sl tN h b m c1 ws) (S2 : Sl tZ h d k c2 L) (S3 : Sl tZ h e u c3 M) (S4 : Sl tZ h f v c4 N) (S5 : Sl tZ h g o c5 O)
    (hrn : rn ≤ 140737488351232) (hsn : sn ≤ 140737488351232) (hn : n ≤ 140737488351232) (hm : m ≤ 140737488351232) (hk : k ≤ 140737488351232) (hu : u ≤ 140737488351232) (hv : v ≤ 140737488351232) (ho : o ≤ 140737488351232) (hRz : ∀ j ∈ RJ, j.name.size ≤ 9223372036854775807) :
    callP Try.prog 9 [.agg #[.slice ra rn rc, .slice rb sn sc], .slice a n c, .slice b m c1, .slice d k c2, .slice e u c3, .slice f v c4, .slice g o c5] h = some (.bool true, h) := by
  refine call_of good9 Try.func9 rfl rfl ?_
  have hr := c21 (S2.app [.cells [.slice ra rn rc, .slice rb sn sc] 42 false]) (by omega)
  rw [show (robF L 0).1 = rJ L from rfl, show (robF L 0).2.1 = rM L from rfl] at hr
  have hjl := rJ_len L
  have hml := rM_len L
  have hjs : (rJ L).length ≠ 0 := by omega
  obtain ⟨h0, hh0⟩ : ∃ h0 : AH, h0 = h ++ [.cells [.slice ra rn rc, .slice rb sn sc] 42 false] := ⟨_, rfl⟩
  have hms0 : (rM L).length ≠ 0 → (robH (rJ L) (rM L))[1]? = some (.cells (tM.flat (rM L)) 96 false) := fun q => by unfold robH; rw [if_neg q]; rfl
  obtain ⟨ma, hma, _⟩ := slV_Sl (T := tM) (h := h0 ++ robH (rJ L) (rM L)) (b := h0.length + 1) (xs := rM L) fun q => by rw [get_off]; exact hms0 q
  rw [← hh0] at hr
  simp only [robV, slV_pos hjs, hma] at hr
  obtain ⟨H1, hH1⟩ : ∃ H1 : AH, h0 ++ (robH (rJ L) (rM L) ++ [.cells [.slice (some ⟨h0.length, 0, none⟩) (rJ L).length (rJ L).length, .slice ma (rM L).length (rM L).length] 42 false]) = H1 := ⟨_, rfl⟩
  have SJ : ∀ Y, Sl tJ (H1 ++ Y) (some ⟨h0.length, 0, none⟩) (rJ L).length (rJ L).length (rJ L) := fun Y => by rw [← hH1, List.append_assoc]; exact Sl.of_row (by rw [get_at]; rfl)
  have SM : ∀ Y, Sl tM (H1 ++ Y) ma (rM L).length (rM L).length (rM L) := fun Y => by
    rw [← hH1, List.append_assoc, List.append_assoc]
    obtain ⟨ma', q1, q2⟩ := slV_Sl (T := tM) (h := h0 ++ (robH (rJ L) (rM L) ++ ([.cells [.slice (some ⟨h0.length, 0, none⟩) (rJ L).length (rJ L).length, .slice ma (rM L).length (rM L).length] 42 false] ++ Y))) (b := h0.length + 1) (xs := rM L) fun q => by rw [get_off, List.getElem?_append_left (List.getElem?_eq_some_iff.1 (hms0 q)).1]; exact hms0 q
    rw [hma] at q1
    cases q1
    exact q2
  have up : ∀ Y, ∃ Z, H1 ++ Y = h ++ Z := fun Y => ⟨_, by rw [← hH1, hh0, List.append_assoc, List.append_assoc]⟩
  have TR : ∀ Y, Sl tJ (H1 ++ Y) ra rn rc RJ := fun Y => by obtain ⟨Z, hZ⟩ := up Y; rw [hZ]; exact SR.app _
  have TS : ∀ Y, Sl tM (H1 ++ Y) rb sn sc RM := fun Y => by obtain ⟨Z, hZ⟩ := up Y; rw [hZ]; exact SS.app _
  have T0 : ∀ Y, Sl tN (H1 ++ Y) a n c zs := fun Y => by obtain ⟨Z, hZ⟩ := up Y; rw [hZ]; exact S.app _
  have T1 : ∀ Y, Sl tN (H1 ++ Y) b m c1 ws := fun Y => by obtain ⟨Z, hZ⟩ := up Y; rw [hZ]; exact S1.app _
  have T3 : ∀ Y, Sl tZ (H1 ++ Y) e u c3 M := fun Y => by obtain ⟨Z, hZ⟩ := up Y; rw [hZ]; exact S3.app _
  have T4 : ∀ Y, Sl tZ (H1 ++ Y) f v c4 N := fun Y => by obtain ⟨Z, hZ⟩ := up Y; rw [hZ]; exact S4.app _
  have T5 : ∀ Y, Sl tZ (H1 ++ Y) g o c5 O := fun Y => by obtain ⟨Z, hZ⟩ := up Y; rw [hZ]; exact S5.app _
  have hcell : ∀ Y, (H1 ++ Y)[h0.length + (robH (rJ L) (rM L)).length]? = some (.cells [.slice (some ⟨h0.length, 0, none⟩) (rJ L).length (rJ L).length, .slice ma (rM L).length (rM L).length] 42 false) := fun Y => by
    rw [← hH1, List.append_assoc, get_off, List.append_assoc, get_at]; rfl
  have hcell0 := hcell []
  rw [List.append_nil] at hcell0
  have hcR : ∀ Y, (H1 ++ Y)[h.length]? = some (.cells [.slice ra rn rc, .slice rb sn sc] 42 false) := fun Y => by
    rw [← hH1, hh0, List.append_assoc, List.append_assoc, get_at]; rfl
  have hgc : ∀ Y, gcA h (.bool true) (H1 ++ Y) = (.bool true, h) := fun Y => by obtain ⟨Z, hZ⟩ := up Y; rw [hZ]; exact gc_app (.bool _)
  have x1 := c22 (ms := .slice ma (rM L).length (rM L).length) (SJ []) (T3 []) (by omega) (by omega) rJ_lim
  have x2 := c22 (ms := .slice ma (rM L).length (rM L).length) (SJ [.cells (tN.flat (mP L M)) 2 false]) (T4 _) (by omega) (by omega) rJ_lim
  have x3 := c22 (ms := .slice ma (rM L).length (rM L).length) (SJ [.cells (tN.flat (mP L M)) 2 false, .cells (tN.flat (mP L N)) 2 false]) (T5 _) (by omega) (by omega) rJ_lim
  simp only [if_neg hjs] at x1 x2 x3
  rw [show cfF M (rJ L) = mP L M from rfl] at x1
  rw [show cfF N (rJ L) = mP L N from rfl] at x2
  rw [show cfF O (rJ L) = mP L O from rfl] at x3
  have D1 := mP_dist (L := L) (M := M) (N := N)
  have D2 := mP_dist (L := L) (M := M) (N := O)
  have D3 := mP_dist (L := L) (M := O) (N := N)
  have lP : (mP L M).length = (rJ L).length := mP_len
  have lQ : (mP L N).length = (rJ L).length := mP_len
  have lO : (mP L O).length = (rJ L).length := mP_len
  rw [slV_pos (xs := mP L M) (by omega), lP] at x1
  rw [slV_pos (xs := mP L N) (by omega), lQ] at x2
  rw [slV_pos (xs := mP L O) (by omega), lO] at x3
  have hz := rJ_nm (L := L)
  have z1 := dist_zero D1
  have z2 := dist_tri D1 D2 D3
  generalize mP L M = P at *
  generalize mP L N = Q at *
  generalize mP L O = U at *
  generalize rJ L = J at *
  generalize rM L = K at *
  obtain ⟨Z, hZ⟩ : ∃ Z : AH, Z = [.cells (tN.flat P) 2 false, .cells (tN.flat Q) 2 false, .cells (tN.flat U) 2 false] := ⟨_, rfl⟩
  have SP : Sl tN (H1 ++ Z) (some ⟨H1.length, 0, none⟩) J.length J.length P := row_n lP (by rw [hZ, get_at]; rfl)
  have SQ : Sl tN (H1 ++ Z) (some ⟨H1.length + 1, 0, none⟩) J.length J.length Q := row_n lQ (by rw [hZ, get_off]; rfl)
  have SU : Sl tN (H1 ++ Z) (some ⟨H1.length + 2, 0, none⟩) J.length J.length U := row_n lO (by rw [hZ, get_off]; rfl)
  have e1 := c36 (SJ Z) (SM _) SP SQ (by omega) (by omega) (by omega) (by omega) hz
  have e2 := c36 (TR Z) (TS _) (T0 _) (T1 _) hrn hsn (by omega) (by omega) hRz
  have e3 := c37 (TR Z) (TS _) (T0 _) (T1 _) hrn hsn (by omega) (by omega) hRz
  have e4 := c36 (SJ Z) (SM _) SP (T1 _) (by omega) (by omega) (by omega) (by omega) hz
  have e5 := c37 (SJ Z) (SM _) SP (T1 _) (by omega) (by omega) (by omega) (by omega) hz
  have e6 := c37 (SJ Z) (SM _) SP SQ (by omega) (by omega) (by omega) (by omega) hz
  have e7 := c36 (SJ Z) (SM _) SQ SP (by omega) (by omega) (by omega) (by omega) hz
  have e8 := c26 SP SQ (by omega)
  have e9 := c36 (SJ Z) (SM _) SP SU (by omega) (by omega) (by omega) (by omega) hz
  have e10 := c36 (SJ Z) (SM _) SU SQ (by omega) (by omega) (by omega) (by omega) hz
  rw [dist_comm (p := Q) (q := P)] at e7
  have b1 := dist_bd (J := J) (K := K) (p := P) (q := U)
  have b2 := dist_bd (J := J) (K := K) (p := U) (q := Q)
  have w1 : IntKind.i64.wrap (dist J K P U + dist J K U Q) = dist J K P U + dist J K U Q := wrap_id (by omega) (by omega)
  rw [hZ] at e1 e2 e3 e4 e5 e6 e7 e8 e9 e10
  simp at x1 x2 x3 e1 e2 e3 e4 e5 e6 e7 e8 e9 e10
  simp [← hh0, hr, hH1, hcell, hcell0, hcR, x1, x2, x3, c16, e1, e2, e3, e4, e5, e6, e7, e8, e9, e10, w1, z1, z2, hgc]
end Go.AM.Try

