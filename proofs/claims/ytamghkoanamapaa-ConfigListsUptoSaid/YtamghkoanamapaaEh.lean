/- append and copy against the machine's own. No condition. -/
import Derived.Test.YtamghkoanamapaaEg
import Derived.Laws.IdiomCopy
namespace Go.AM
open Go.RowKit

section
variable {P : Program} {w0 : Ctx} {μ : Mp} {h : AH} {w : World}

theorem arr_app (a : List Value) (z : Array Value) : (a ++ z.toList).toArray = a.toArray ++ z := by apply Array.ext'; simp
theorem arr_app2 (a b : List Value) (z : Array Value) : (a ++ b ++ z.toList).toArray = a.toArray ++ b.toArray ++ z := by apply Array.ext'; simp

theorem HR.drew (H : HR w0 μ h w) : HR w0 μ h w.drew := ⟨H.below.drew, H.dom, H.obj, H.own, H.one⟩

theorem Post.drew {v v' : Value} {h' : AH} {w' : World} {ν : Mp} (p : Post w0 μ h w.drew v h' v' w' ν) : Post w0 μ h w v h' v' w' ν :=
  ⟨p.le, p.hr, p.vr, p.len, p.size, p.leaves, p.fresh, p.dead⟩

theorem VL.length {a b : List Value} (k : VL μ a b) : a.length = b.length := k.1

theorem VL.ones {a b : List Value} (k : VL μ a b) (g : a.all Value.oneCell' = true) : b.all Value.oneCell' = true := by
  induction a generalizing b with
  | nil => have := k.inv_nil; subst this; rfl
  | cons x a ih =>
    obtain ⟨y, b', rfl, h1, h2⟩ := k.inv
    simp only [List.all_cons, Bool.and_eq_true] at g ⊢
    exact ⟨h1.one g.1, ih h2 g.2⟩

/-- A new block whose cells go on behind what is told of them. -/
theorem objR_longer {C : List Value} {C' D : List Value} {e e' : TypeId} (hv : VL μ C C') (hne : C ≠ []) {n k : Nat} : ObjR μ ⟨n, 0, false, e, k, (C' ++ D).length⟩ (.cells C e false) (some (.cells (C' ++ D).toArray e')) := by
  refine ⟨rfl, fun _ => rfl, _, e', (0, 0), rfl, by simp, by simp [hv.1], fun j hj => ?_, fun _ => rfl, fun _ hC => absurd hC hne⟩
  have hj' : j < C'.length := hv.1 ▸ hj
  have := hv.2 j
  simp only [Array.getD_eq_getD_getElem?, List.getElem?_toArray, Nat.zero_add]
  rw [List.getElem?_append_left hj', ← List.getD_eq_getElem?_getD]
  exact this

theorem Post.grown (H : HR w0 μ h w) {C C' D : List Value} (hv : VL μ C C') (hne : C ≠ []) (e e' : TypeId) (n c c' : Nat) (hc : 0 < c) (hcc : c ≤ c') (hsz : c' * w0.sz e ≤ (C' ++ D).length) :
    OK w0 μ h w (.slice (some ⟨h.length, 0, none⟩) n c) (h ++ [.cells C e false]) (.slice (some ⟨w.heap.size, 0, none⟩) n c') (w.alloc (.cells (C' ++ D).toArray e')) :=
  ⟨_, Post.alloc H _ _ e (C' ++ D).length (objR_longer hv hne) (by
    have := VR.slice (μ := μ.upd h.length ⟨w.heap.size, 0, false, e, w0.sz e, (C' ++ D).length⟩) (i := h.length) (o := 0) (n := n) (c := c) (c' := c') (l := ⟨w.heap.size, 0, false, e, w0.sz e, (C' ++ D).length⟩) (by simp [Mp.upd]) hc hcc (fun k => by cases k) (.inr (by simpa using hsz)); simpa using this)⟩

/-- A block of the call's own dies. -/
theorem HR.kill (H : HR w0 μ h w) (i : Nat) : HR w0 μ (h.set i .dead) w := by
  refine ⟨H.below, fun j l hj => by simpa using H.dom j l hj, ?_, H.own, ?_⟩
  · intro j l b hj hb
    by_cases hji : j = i
    · subst hji
      rw [List.getElem?_set_self (H.dom _ _ hj).1] at hb
      cases hb; trivial
    · rw [List.getElem?_set_ne (by omega)] at hb
      exact H.obj j l b hj hb
  · intro a c la lc ha hc hb hr hda hdc
    refine H.one a c la lc ha hc hb hr ?_ ?_
    · intro hd; apply hda
      by_cases hai : a = i
      · subst hai; rw [List.getElem?_set_self (H.dom _ _ ha).1]
      · rw [List.getElem?_set_ne (by omega)]; exact hd
    · intro hd; apply hdc
      by_cases hai : c = i
      · subst hai; rw [List.getElem?_set_self (H.dom _ _ hc).1]
      · rw [List.getElem?_set_ne (by omega)]; exact hd

theorem Post.afterKill {i : Nat} {v v' : Value} {h' : AH} {w' : World} {ν : Mp} (p : Post w0 μ (h.set i .dead) w v h' v' w' ν) : Post w0 μ h w v h' v' w' ν := by
  refine ⟨p.le, p.hr, p.vr, by simpa using p.len, p.size, ?_, ?_, fun j hj => p.dead j ?_⟩
  rotate_left 2
  · by_cases hji : j = i
    · subst hji
      rcases Nat.lt_or_ge j h.length with q | q
      · rw [List.getElem?_set_self q]
      · rw [List.getElem?_eq_none q] at hj; cases hj
    · rw [List.getElem?_set_ne (by omega)]; exact hj
  · intro b hb hl
    refine p.leaves b hb fun j l hj hr hlb => ?_
    have := hl j l hj hr hlb
    by_cases hji : j = i
    · subst hji
      rcases Nat.lt_or_ge j h.length with q | q
      · rw [List.getElem?_set_self q]
      · rw [List.getElem?_eq_none q] at this; cases this
    · rw [List.getElem?_set_ne (by omega)]; exact this
  · intro j l hj
    rcases p.fresh j l hj with ⟨h1, h2⟩ | ⟨h1, h2, h3⟩
    · exact .inl ⟨by simpa using h1, h2⟩
    · refine .inr ⟨by simpa using h1, h2, ?_⟩
      rcases h3 with h3 | ⟨a, k, ha, hk, hb, hd⟩
      · exact .inl h3
      · refine .inr ⟨a, k, ha, hk, hb, fun hh => hd ?_⟩
        by_cases hai : a = i
        · subst hai
          rcases Nat.lt_or_ge a h.length with q | q
          · rw [List.getElem?_set_self q]
          · rw [List.getElem?_eq_none q] at hh; cases hh
        · rw [List.getElem?_set_ne (by omega)]; exact hh

/-- Stored cells, told as what holds behind the step. -/
theorem Post.stored (H : HR w0 μ h w) {i : Nat} {l : Loc} (hi : μ i = some l) {C : List Value} {e : TypeId} (hC : h[i]? = some (.cells C e false)) {C2 : List Value} {w' : World}
    (H' : HR w0 μ (h.set i (.cells C2 e false)) w') (hs : w'.heap.size = w.heap.size) (ho : ∀ b, b ≠ l.b → w'.heap[b]? = w.heap[b]?) {v v' : Value} (hv : VR μ v v') : Post w0 μ h w v (h.set i (.cells C2 e false)) v' w' μ := by
  have hro := (H.row hi hC).1
  refine ⟨Mp.le_refl _, H', hv, by simp, by omega, ?_, .refl H, fun j hj => ?_⟩
  rotate_left
  · by_cases hji : j = i
    · subst hji; rw [hC] at hj; cases hj
    · rw [List.getElem?_set_ne (by omega)]; exact hj
  intro b _ hl
  refine ho b fun hb => ?_
  have := hl i l hi hro.symm hb.symm
  rw [hC] at this; cases this

theorem storeRow_some {i o : Nat} {vs : List Value} {h' : AH} (e : storeRow h i o vs = some h') : ∃ C t, h[i]? = some (.cells C t false) ∧ o + vs.length ≤ C.length ∧ vs.all Value.oneCell' = true ∧ h' = h.set i (.cells (splice C o vs) t false) := by
  unfold storeRow at e
  split at e
  · rename_i C t hC
    split at e
    · rename_i hc; cases e; exact ⟨C, t, hC, hc.1, hc.2, rfl⟩
    · cases e
  · cases e

theorem storeRow_ok {P : Program} (H : HR w0 μ h w) {i o : Nat} {l : Loc} {vs vs' : List Value} {h' : AH} (hi : μ i = some l) (hv : VL μ vs vs') (e : storeRow h i o vs = some h') :
    ∃ w', (storeCells ⟨l.b, l.base + o, none⟩ vs').run P w = .ok () w' ∧ ∀ {v v' : Value}, VR μ v v' → Post w0 μ h w v h' v' w' μ := by
  obtain ⟨C, t, hC, hle, hone, rfl⟩ := storeRow_some e
  obtain ⟨w', h1, h2, h3, h4⟩ := HR.storeCells (P := P) vs H hi hC o 0 (by omega) hone hv
  exact ⟨w', h1, fun hvr => Post.stored H hi hC h2 h3 h4 hvr⟩

theorem storeA_ok (H : HR w0 μ h w) {t : TypeId} {x x' y y' : Value} {h' : AH} (hx : VR μ x x') (hy : VR μ y y') (e : storeA P h t x y = some h') :
    ∃ w', (Instr.storeAt t x' y').run P w = .ok () w' ∧ OK w0 μ h w undef h' undef w' := by
  unfold storeA at e
  split at e
  · rename_i i o
    rw [Option.bind_eq_some_iff] at e
    obtain ⟨n, hn, e⟩ := e
    split at e
    · rename_i hsz
      obtain ⟨l, hi, rfl⟩ := hx.ptr_inv
      obtain ⟨w', h1, h2⟩ := storeRow_ok (P := P) H hi hy.cells e
      have hsz' : y'.cells.size = n := by have := hy.cells.1; simp only [Array.length_toList] at this; omega
      exact ⟨w', by simp [Instr.storeAt, Instr.sureAddr, storeVar, r_size hn, hsz', h1], μ, h2 .undef⟩
    · cases e
  · cases e

theorem setCells_heap (b : Nat) : ∀ (vs : List Value) (o : Nat) (w : World) (C : Array Value) (e : TypeId) (fr : Nat × Nat), w.heap[b]? = some (.cells C e fr) →
    ∃ C1, (w.setCells b o vs).heap[b]? = some (.cells C1 e fr) ∧ C1.size = C.size ∧ (∀ j, j < o ∨ o + vs.length ≤ j → C1.getD j undef = C.getD j undef) ∧
      (∀ j, j < vs.length → o + j < C.size → C1.getD (o + j) undef = vs.getD j undef)
  | [], o, w, C, e, fr, hw => ⟨C, hw, rfl, fun _ _ => rfl, fun j hj => absurd hj (by simp)⟩
  | v :: vs, o, w, C, e, fr, hw => by
    have h1 : (w.setCell ⟨b, o, none⟩ v).heap[b]? = some (.cells (C.setIfInBounds o v) e fr) := by
      simp [World.setCell, Array.getElem?_modify, hw]
    obtain ⟨C1, g1, g2, g3, g4⟩ := setCells_heap b vs (o + 1) _ _ e fr h1
    refine ⟨C1, g1, by simpa using g2, ?_, ?_⟩
    · intro j hj
      simp only [List.length_cons] at hj
      rw [g3 j (by omega)]
      simp only [Array.getD_eq_getD_getElem?]
      rw [Array.getElem?_setIfInBounds_ne (by omega)]
    · intro j hj hlt
      cases j with
      | zero =>
        rw [Nat.add_zero, g3 o (by omega)]
        simp only [Nat.add_zero] at hlt
        simp [Array.getD_eq_getD_getElem?, hlt]
      | succ j =>
        have := g4 j (by simpa using hj) (by simp; omega)
        rw [show o + (j + 1) = o + 1 + j by omega, this]
        simp

theorem setCells_other (b : Nat) : ∀ (vs : List Value) (o : Nat) (w : World), (w.setCells b o vs).heap.size = w.heap.size ∧ (w.setCells b o vs).os = w.os ∧ (w.setCells b o vs).tape = w.tape ∧ (w.setCells b o vs).output = w.output ∧ ∀ k, k ≠ b → (w.setCells b o vs).heap[k]? = w.heap[k]?
  | [], _, _ => ⟨rfl, rfl, rfl, rfl, fun _ _ => rfl⟩
  | v :: vs, o, w => by
    obtain ⟨h1, h2, h3, h4, h5⟩ := setCells_other b vs (o + 1) (w.setCell ⟨b, o, none⟩ v)
    exact ⟨by rw [World.setCells, h1]; simp, by rw [World.setCells, h2]; rfl, by rw [World.setCells, h3]; rfl, by rw [World.setCells, h4]; rfl, fun k hk => by rw [World.setCells, h5 k hk]; exact Below.heap_setCell _ _ _ _ hk⟩

/-- append's new block lies where the old one lay: the machine had room. -/
theorem Post.regrow (H : HR w0 μ h w) {b : Nat} {l : Loc} (hib : μ b = some l) {C : List Value} {et : TypeId} (hC : h[b]? = some (.cells C et false)) {oo : Nat} {old old' new new' : List Value}
    (hold : VL μ old old') (holdc : ∀ j v, old'[j]? = some v → w.cell? ⟨l.b, l.base + oo + j, none⟩ = some v) (hnew : VL μ new new') (hfit : l.base + oo + (old.length + new.length) ≤ l.n) (hne : new ≠ [])
    {n c c' : Nat} (hc : 0 < c) (hcc : c ≤ c') (hn : l.base + oo + c' * l.k ≤ l.n) :
    OK w0 μ h w (.slice (some ⟨h.length, 0, none⟩) n c) (h.set b .dead ++ [.cells (old ++ new) et false]) (.slice (some ⟨l.b, l.base + oo, none⟩) n c') (w.setCells l.b (l.base + oo + old.length) new') := by
  obtain ⟨hlro, hlet, C', e', fr, hw, hCn, hCs, hCv, hfr, hemp⟩ := H.row hib hC
  have hlro' : l.ro = false := hlro.symm
  have hih : b < h.length := (H.dom _ _ hib).1
  obtain ⟨C1, g1, g2, g3, g4⟩ := setCells_heap l.b new' (l.base + oo + old.length) w C' e' fr hw
  obtain ⟨s1, s2, s3, s4, s5⟩ := setCells_other l.b new' (l.base + oo + old.length) w
  have hle := Mp.le_upd (l := ⟨l.b, l.base + oo, false, et, l.k, l.n⟩) H.none_at
  have hol := hold.1
  have hnl := hnew.1
  have dead : ∀ (j : Nat), j < h.length → (h.set b .dead ++ [Blk.cells (old ++ new) et false])[j]? = if j = b then some .dead else h[j]? := by
    intro j hj
    rw [List.getElem?_append_left (by simpa using hj)]
    split
    · rename_i e; subst e; rw [List.getElem?_set_self hj]
    · rw [List.getElem?_set_ne (by omega)]
  have cases_new : ∀ i k, μ.upd h.length ⟨l.b, l.base + oo, false, et, l.k, l.n⟩ i = some k → (i = h.length ∧ k = ⟨l.b, l.base + oo, false, et, l.k, l.n⟩) ∨ (i < h.length ∧ k.b < w.heap.size ∧ μ i = some k) := by
    intro i k hi
    unfold Mp.upd at hi
    split at hi
    · rename_i e; cases hi; exact .inl ⟨e, rfl⟩
    · exact .inr ⟨(H.dom _ _ hi).1, (H.dom _ _ hi).2, hi⟩
  refine ⟨μ.upd h.length ⟨l.b, l.base + oo, false, et, l.k, l.n⟩, hle, ⟨?_, ?_, ?_, ?_, ?_⟩, ?_, by simp, by omega, ?_, ?_, fun j hj => ?_⟩
  rotate_right
  · have hjl : j < h.length := by
      rcases Nat.lt_or_ge j h.length with q | q
      · exact q
      · rw [List.getElem?_eq_none q] at hj; cases hj
    rw [dead j hjl]; split
    · rfl
    · exact hj
  · exact H.below.trans ⟨s2, s3, s4, by omega, fun k hk => s5 k (by have := (H.own _ _ hib hlro').1; omega)⟩
  · intro i k hi
    rw [s1]
    rcases cases_new i k hi with ⟨rfl, rfl⟩ | ⟨q1, q2, -⟩
    · exact ⟨by simp, (H.dom _ _ hib).2⟩
    · exact ⟨by simp; omega, q2⟩
  · intro i k blk hi hb
    rcases cases_new i k hi with ⟨rfl, rfl⟩ | ⟨q1, q2, q3⟩
    · rw [List.getElem?_append_right (by simp)] at hb
      simp at hb; subst hb
      refine ⟨rfl, fun _ => rfl, C1, e', fr, g1, by simpa using g2.trans hCn, by simpa using hfit, ?_, fun _ => hfr rfl, fun _ q => absurd q (by simp [hne])⟩
      intro j hj
      simp only [List.length_append] at hj
      show VR _ _ (C1.getD (l.base + oo + j) undef)
      by_cases hjo : j < old.length
      · rw [g3 _ (by omega)]
        have e1 : (old ++ new).getD j undef = old.getD j undef := by
          simp only [List.getD_eq_getElem?_getD]; rw [List.getElem?_append_left hjo]
        have hjo' : j < old'.length := by omega
        have := holdc j old'[j] (by simp [hjo'])
        rw [World.cell?, hw] at this
        simp only [Option.isSome_none, Bool.false_eq_true, if_false] at this
        have e2 : C'.getD (l.base + oo + j) undef = old'.getD j undef := by
          simp [Array.getD_eq_getD_getElem?, this, List.getD_eq_getElem?_getD, hjo']
        rw [e1, e2]; exact (hold.2 j).mono hle
      · have e1 : (old ++ new).getD j undef = new.getD (j - old.length) undef := by
          simp only [List.getD_eq_getElem?_getD]; rw [List.getElem?_append_right (by omega)]
        have := g4 (j - old.length) (by omega) (by omega)
        rw [show l.base + oo + old.length + (j - old.length) = l.base + oo + j by omega] at this
        rw [e1, this]; exact (hnew.2 _).mono hle
    · rw [dead i q1] at hb
      split at hb
      · cases hb; trivial
      · rename_i hib'
        by_cases hkl : k.b = l.b
        · rcases Classical.em (blk = .dead) with hd | hd
          · subst hd; trivial
          · exact absurd (H.one b i l k hib q3 hkl.symm hlro' (by rw [hC]; simp) (by rw [hb]; simpa using hd)).symm hib'
        · rw [s5 _ hkl]; exact (H.obj i k blk q3 hb).mono hle
  · intro i k hi hr
    rcases cases_new i k hi with ⟨rfl, rfl⟩ | ⟨q1, q2, q3⟩
    · refine ⟨(H.own _ _ hib hlro').1, ?_⟩
      show l.k = _
      rw [(H.own _ _ hib hlro').2, ← hlet rfl]
    · exact H.own i k q3 hr
  · intro i j k1 k2 hi hj hbk hr hdi hdj
    rcases cases_new i k1 hi with ⟨rfl, rfl⟩ | ⟨q1, q2, q3⟩
    · rcases cases_new j k2 hj with ⟨rfl, rfl⟩ | ⟨r1, r2, r3⟩
      · rfl
      · exfalso
        rw [dead j r1] at hdj
        split at hdj
        · exact hdj rfl
        · rename_i hjb
          exact hjb (H.one b j l k2 hib r3 hbk hlro' (by rw [hC]; simp) hdj).symm
    · rw [dead i q1] at hdi
      split at hdi
      · exact absurd rfl hdi
      · rename_i hine
        rcases cases_new j k2 hj with ⟨rfl, rfl⟩ | ⟨r1, r2, r3⟩
        · exact absurd (H.one i b k1 l q3 hib hbk hr hdi (by rw [hC]; simp)) hine
        · rw [dead j r1] at hdj
          split at hdj
          · exact absurd rfl hdj
          · exact H.one i j k1 k2 q3 r3 hbk hr hdi hdj
  · have := VR.slice (μ := μ.upd h.length ⟨l.b, l.base + oo, false, et, l.k, l.n⟩) (i := h.length) (o := 0) (n := n) (c := c) (c' := c') (l := ⟨l.b, l.base + oo, false, et, l.k, l.n⟩) (by simp [Mp.upd]) hc hcc (fun q => by cases q) (.inr (by simpa using hn))
    simpa using this
  · intro q hq hl
    refine s5 q fun hb => ?_
    have := hl b l hib hlro' hb.symm
    rw [hC] at this; cases this
  · intro i k hi
    rcases cases_new i k hi with ⟨rfl, rfl⟩ | ⟨q1, q2, q3⟩
    · exact .inr ⟨Nat.le_refl _, rfl, .inr ⟨b, l, hib, hlro', rfl, by rw [hC]; simp⟩⟩
    · exact .inl ⟨q1, q3⟩

theorem appendA_ok (hszs : ∀ t n, sizeA P t = some n → w0.sz t = n) (H : HR w0 μ h w) {o : Oper} {a : Act} {s x : Operand} {t tx : TypeId} (ho : o.op = .call { callee := .builtin .append, args := #[s, x], argTypes := #[t, tx] })
    {vs vx v : Value} {h' : AH} (hs : VR μ vs (a.eval s)) (hx : VR μ vx (a.eval x)) (e : appendA P h t tx vs vx = some (v, h')) : Does P o a w (OK w0 μ h w v h') := by
  unfold appendA at e
  split at e
  · rename_i el base n c xb m xc hu
    rw [Option.bind_eq_some_iff] at e
    obtain ⟨i, hi, e⟩ := e
    split at e
    · cases e
    · rename_i hcond
      simp only [not_or] at hcond
      obtain ⟨hsize, hbytes, htx0, hbig⟩ := hcond
      obtain ⟨d, htx, hd⟩ : ∃ d, P.underlying tx = some d ∧ ∀ k, d ≠ .int k := by
        unfold badTail at htx0
        cases hp : P.underlying tx with
        | none => rw [hp] at htx0; exact absurd rfl htx0
        | some d => exact ⟨d, rfl, fun k hk => by subst hk; rw [hp] at htx0; exact htx0 rfl⟩
      have hsze : w0.sz el = i.size := hszs _ _ (sizeA_of hi)
      simp only [Option.bind_eq_some_iff] at e
      obtain ⟨new, hnew, z, hz, e⟩ := e
      split at e
      · rename_i hones0
        obtain ⟨hones, hzs⟩ := hones0
        obtain ⟨new', hn1, hn2⟩ := firstA_ok (P := P) H hx hnew
        have hnl := firstA_length hnew
        obtain ⟨mc, xa, hxa⟩ : ∃ mc xa, a.eval x = .slice xa m mc := by
          generalize a.eval x = y at hx; cases hx <;> exact ⟨_, _, rfl⟩
        have hlen : Builtin.lenOf (a.eval x) = Sem.pure m := by rw [hxa]; rfl
        have hne : m ≠ 0 → new ≠ [] := by
          rintro h0 rfl
          simp only [List.length_nil] at hnl
          exact Nat.mul_ne_zero h0 hsize hnl.symm
        split at e
        · -- a nil slice
          split at e
          · rename_i hnc
            obtain ⟨rfl, rfl⟩ := hnc
            have hs' : a.eval s = .slice none 0 0 := by generalize a.eval s = y at hs; cases hs; rfl
            split at e
            · rename_i hm
              subst hm
              cases e
              have hr := run_append_room (P := P) (w := w) (w' := w) hu hi htx hd (ty := o.type) (b := none) (n := 0) (c := 0) (m := 0) hlen (hn1 w fun _ => rfl) (by simp) (by simp) (fun _ => rfl)
              exact Does.value (exec_append ho (by rw [hs']; exact hr)) ⟨μ, Post.same H (.slice0 _ _)⟩
            · rename_i hm
              cases e
              obtain ⟨xi, xo, l, c', e', C', hxb, hxi, hxe, hsh, hle, -⟩ := firstA_lies H hx hnew (Nat.mul_ne_zero hm hsize)
              have hfit : ¬ Builtin.nextslicecap (0 + m) 0 * i.bytes > 281474976710656 := by have := growslice_fits (need := 0 + m) (old := 0) (bytes := i.bytes) (by omega) (by omega); omega
              have hr := run_append_grow (P := P) (w := w) hu hi hz htx hd hbytes (ty := o.type) (b := none) (n := 0) (c := 0) (m := m) hlen (hn1 w.drew fun _ => rfl) (old := #[]) (by simp [Builtin.firstCells]) (by omega) hfit
              have hge := grownCap_ge w (0 + m) 0 el
              obtain ⟨ν, hp⟩ := Post.grown (D := (Builtin.zeroCells z.cells (grownCap w (0 + m) 0 el - (0 + m))).toList) H.drew hn2 (hne hm) el el m m (grownCap w (0 + m) 0 el) (by omega) (by omega) (by
                rw [hsze, List.length_append, ← hn2.1, hnl, Array.length_toList, size_zeroCells, hzs, ← Nat.add_mul]
                exact Nat.mul_le_mul_right _ (by omega))
              refine Does.value (exec_append ho (by rw [hs']; exact hr)) ⟨ν, ?_⟩
              have := hp.drew
              rw [arr_app] at this
              simpa using this
          · cases e
        · -- a slice with an address
          rename_i b oo
          obtain ⟨l, c', hib, hse, hcc, hc0, hro, hnn⟩ := hs.slice_inv
          split at e
          · -- room
            rename_i hroom
            split at e
            · rename_i hm
              subst hm
              cases e
              have hnil : new' = [] := by
                have := hn2.1; rw [hnl, Nat.zero_mul] at this; exact List.length_eq_zero_iff.mp this.symm
              subst hnil
              have hr := run_append_room (P := P) (w := w) (w' := w) hu hi htx hd (ty := o.type) (b := some ⟨l.b, l.base + oo, none⟩) (n := n) (c := c') (m := 0) hlen (hn1 w fun _ => rfl) (by omega) (fun _ _ => rfl) (fun q => by cases q)
              rw [← hse] at hr
              exact Does.value (exec_append ho hr) ⟨μ, Post.same H (by rw [hse] at hs; exact hs)⟩
            · rename_i hm
              rw [Option.map_eq_some_iff] at e
              obtain ⟨h2, he2, e⟩ := e
              cases e
              obtain ⟨w', h1, hpost⟩ := storeRow_ok (P := P) H hib hn2 he2
              have hr := run_append_room (P := P) (w := w) (w' := w') hu hi htx hd (ty := o.type) (b := some ⟨l.b, l.base + oo, none⟩) (n := n) (c := c') (m := m) hlen (hn1 w fun _ => rfl) (by omega)
                (fun a ha => by cases ha; rw [addr_add]; simpa [Nat.add_assoc] using h1) (fun q => by cases q)
              rw [← hse] at hr
              refine Does.value (exec_append ho hr) ⟨μ, hpost (.slice hib (by omega) hcc hro hnn)⟩
          · -- no room
            rename_i hroom
            split at e
            · rename_i hcz
              split at e
              · rename_i hempty
                subst hempty
                cases e
                have hm : m ≠ 0 := by omega
                have hc'0 := hc0 hcz
                rw [hc'0] at hse
                have hfit : ¬ Builtin.nextslicecap (0 + m) 0 * i.bytes > 281474976710656 := by have := growslice_fits (need := 0 + m) (old := 0) (bytes := i.bytes) (by omega) (by omega); omega
                have hr := run_append_grow (P := P) (w := w) hu hi hz htx hd hbytes (ty := o.type) (b := some ⟨l.b, l.base + oo, none⟩) (n := 0) (c := 0) (m := m) hlen (hn1 w.drew fun _ => rfl) (old := #[]) (by simp [Builtin.firstCells, loadCells, loadCellsFrom]) (by omega) hfit
                have hge := grownCap_ge w (0 + m) 0 el
                obtain ⟨ν, hp⟩ := Post.grown (D := (Builtin.zeroCells z.cells (grownCap w (0 + m) 0 el - (0 + m))).toList) H.drew hn2 (hne hm) el el m m (grownCap w (0 + m) 0 el) (by omega) (by omega) (by
                  rw [hsze, List.length_append, ← hn2.1, hnl, Array.length_toList, size_zeroCells, hzs, ← Nat.add_mul]
                  exact Nat.mul_le_mul_right _ (by omega))
                refine Does.value (exec_append ho (by rw [hse]; exact hr)) ⟨ν, ?_⟩
                have := hp.drew
                rw [arr_app] at this
                simpa using this
              · cases e
            · rename_i hcz
              split at e
              · rename_i C et hC
                obtain ⟨hlro, hlet, C', e', fr, hw, hCn, hCs, hCv, hfr, hemp⟩ := H.row hib hC
                have hlro' : l.ro = false := hlro.symm
                have := hfr rfl; subst this
                have hshb : w.shape? l.b = some (e', C'.size) := by simp [World.shape?, hw]
                have hfz : ∀ q, w.frozen? ⟨l.b, q, none⟩ = false := fun q => by simp [World.frozen?, hw]
                split at e
                · rename_i hcond2
                  obtain ⟨hCle, hnc, hxb, het⟩ := hcond2
                  cases e
                  have hm : m ≠ 0 := by omega
                  have hkl : l.k = i.size := by rw [(H.own _ _ hib hlro').2, ← hlet rfl, het]; exact hsze
                  obtain ⟨xi, xo, l2, c2, e2, C2, hxbe, hxi, hxe, hsh, hle, hxd, -⟩ := firstA_lies H hx hnew (Nat.mul_ne_zero hm hsize)
                  have hne2 : xi ≠ b := by rintro rfl; rw [hxbe] at hxb; exact hxb rfl
                  have hbl : l.b ≠ l2.b := fun hb => hne2 (H.one b xi l l2 hib hxi hb hlro' (by rw [hC]; simp) hxd).symm
                  have hns : n * i.size ≤ c * i.size := Nat.mul_le_mul_right _ hnc
                  obtain ⟨old, ho1, ho2, ho3⟩ := H.cells hib (C := C) (by simp [rowA, hC]) oo (n * i.size) (by omega)
                  by_cases hroom' : n + m ≤ c'
                  · -- the machine has room
                    have hn' : l.base + oo + c' * i.size ≤ l.n := by
                      rcases hnn with h1 | h1
                      · omega
                      · rw [hkl] at h1; exact h1
                    have hms : (n + m) * i.size ≤ c' * i.size := Nat.mul_le_mul_right _ hroom'
                    rw [Nat.add_mul] at hms
                    have hones' := hn2.ones hones
                    have hol : ((C.drop oo).take (n * i.size)).length = n * i.size := by simp; omega
                    have hnl' := hn2.1
                    obtain ⟨ν, hp⟩ := Post.regrow (new' := new') (n := n + m) (c := n + m) H hib hC ho3 ho2 hn2 (by rw [hol, hnl]; omega) (hne hm) (by omega) hroom' (by rw [hkl]; exact hn')
                    rw [hol] at hp
                    have hst := run_storeCells_cells (P := P) l.b (l.base + oo + n * i.size) new' 0 w (by
                        intro j hj
                        have : l.base + oo + n * i.size + j < C'.size := by omega
                        simp [World.cell?, hw, this]) (fun j _ => hfz _) (by simpa using hones')
                    have hr := run_append_room (P := P) (w := w) hu hi htx hd (ty := o.type) (b := some ⟨l.b, l.base + oo, none⟩) (n := n) (c := c') (m := m) hlen (hn1 w fun _ => rfl) hroom'
                      (fun a ha => by cases ha; rw [addr_add]; simpa using hst) (fun q => by cases q)
                    rw [← hse] at hr
                    rw [← het]
                    exact Does.value (exec_append ho hr) ⟨ν, hp⟩
                  · have hfit : ¬ Builtin.nextslicecap (n + m) c' * i.bytes > 281474976710656 := by have := growslice_fits (need := n + m) (old := c') (bytes := i.bytes) (by omega) (by omega); omega
                    have hr := run_append_grow (P := P) (w := w) hu hi hz htx hd hbytes (ty := o.type) (b := some ⟨l.b, l.base + oo, none⟩) (n := n) (c := c') (m := m) hlen (hn1 w.drew fun _ => rfl) (old := old.toArray)
                      (by simp only [Builtin.firstCells]; exact run_loadCells old ho1 (fun j v hj => ho2 j v hj)) hroom' hfit
                    have hge := grownCap_ge w (n + m) c' el
                    obtain ⟨ν, hp⟩ := Post.grown (D := (Builtin.zeroCells z.cells (grownCap w (n + m) c' el - (n + m))).toList) (H.kill b).drew (ho3.append hn2) (by simp [hne hm]) el el (n + m) (n + m) (grownCap w (n + m) c' el) (by omega) (by omega) (by
                      rw [hsze, List.length_append, List.length_append, ho1, ← hn2.1, hnl, Array.length_toList, size_zeroCells, hzs, ← Nat.add_mul, ← Nat.add_mul]
                      exact Nat.mul_le_mul_right _ (by omega))
                    rw [← hse] at hr
                    refine Does.value (exec_append ho hr) ⟨ν, ?_⟩
                    have := hp.drew.afterKill
                    rw [arr_app2] at this
                    simpa using this
                · cases e
              · cases e
        · cases e
      · cases e
  · cases e

end
end Go.AM
