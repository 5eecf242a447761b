/- What is left of a call's memory; a function's body; a call. No condition. -/
import Derived.Test.YtamghkoanamapaaEm
import Derived.LoopN
namespace Go.AM
open Go.RowKit

section
variable {P : Program} {w0 : Ctx} {μ ν : Mp} {h h' : AH} {w w' : World}

theorem VR.len_zero {μ : Mp} {i o n : Nat} {y : Value} (h : VR μ (.slice (some ⟨i, o, none⟩) n 0) y) : n = 0 := by
  cases h with
  | slice _ h0 => omega
  | empty => rfl

theorem take_get {h : AH} {n i : Nat} (hi : i < n) : (h.take n)[i]? = h[i]? := by rw [List.getElem?_take, if_pos hi]

theorem ext_low (x : Ext μ h w ν h' w') {i : Nat} (hi : i < h.length) : ν i = μ i := by
  cases e : ν i with
  | some l =>
    rcases x.fresh i l e with ⟨-, k⟩ | ⟨k, -⟩
    · exact k.symm
    · omega
  | none =>
    cases e2 : μ i with
    | none => rfl
    | some l => rw [x.le i l e2] at e; cases e

/-- The old blocks alone. -/
theorem HR.old (H : HR w0 μ h w) (x : Ext μ h w ν h' w') (H' : HR w0 ν h' w') (st : Stable h h') : HR w0 μ (h'.take h.length) w' := by
  have hlen : (h'.take h.length).length = h.length := by rw [List.length_take]; exact Nat.min_eq_left st.1
  refine ⟨H'.below, fun i l hi => ⟨by rw [hlen]; exact (H.dom i l hi).1, (H'.dom i l (x.le i l hi)).2⟩, ?_, H.own, ?_⟩
  · intro i l b hi hb
    have hil := (H.dom i l hi).1
    rw [take_get hil] at hb
    have k' := H'.obj i l b (x.le i l hi) hb
    rcases st.2 i hil with heq | ⟨c, c', e, r, hc, hc', hl, hcell⟩
    · rw [hb] at heq
      exact (H.obj i l b hi heq).back x.le k'
    · rw [hb] at hc'; cases hc'
      have k := H.obj i l _ hi hc
      obtain ⟨g1, g0, D, f, gr, g2, g2', g3, g4, g5⟩ := k'
      obtain ⟨-, -, D0, f0, gr0, -, -, -, q4, -⟩ := k
      refine ⟨g1, g0, D, f, gr, g2, g2', g3, fun j hj => ?_, g5⟩
      have hj0 : j < c.length := by omega
      rcases hcell j with he | ⟨v, hv, haf⟩
      · have he' : c'.getD j undef = c.getD j undef := by simp only [List.getD_eq_getElem?_getD, he]
        have := g4 j hj
        rw [he'] at this ⊢
        exact (q4 j hj0).back x.le this
      · have he' : c'.getD j undef = v := list_getD_of_get? hv
        have := g4 j hj
        rw [he'] at this ⊢
        rw [this.eq_of_af haf]; exact VR.of_af haf
  · intro i j l k hi hj hlk hr hdi hdj
    rw [take_get (H.dom i l hi).1] at hdi
    rw [take_get (H.dom j k hj).1] at hdj
    exact H'.one i j l k (x.le i l hi) (x.le j k hj) hlk hr hdi hdj

theorem Ext.old (H : HR w0 μ h w) (x : Ext μ h w ν h' w') (st : Stable h h') : Ext μ h w μ (h'.take h.length) w' := by
  have hlen : (h'.take h.length).length = h.length := by rw [List.length_take]; exact Nat.min_eq_left st.1
  refine ⟨Mp.le_refl _, by omega, x.size, x.leaves, .refl H, fun i hi => ?_⟩
  have hil : i < h.length := by
    rcases Nat.lt_or_ge i h.length with q | q
    · exact q
    · rw [List.getElem?_eq_none q] at hi; cases hi
  rw [take_get hil]; exact x.dead i hi

/-- While a result is laid anew. -/
structure Lay (w0 : Ctx) (μ ν : Mp) (h h' : AH) (w' : World) (ξ : Mp) (used : List Nat) (acc : AH) : Prop where
  hr : HR w0 ξ acc w'
  len : h.length ≤ acc.length
  low : ∀ i, i < h.length → ξ i = μ i ∧ acc[i]? = h'[i]?
  high : ∀ i l, ξ i = some l → h.length ≤ i → ∃ j ∈ used, h.length ≤ j ∧ ν j = some l ∧ h'[j]? ≠ some .dead

theorem leafA_ok (x : Ext μ h w ν h' w') (H' : HR w0 ν h' w') {ξ : Mp} {used used2 : List Nat} {acc acc2 : AH} (K : Lay w0 μ ν h h' w' ξ used acc) {v v' v2 : Value} (hv : VR ν v v') (e : leafA h.length h' used acc v = some (v2, used2, acc2)) :
    ∃ ξ2, Lay w0 μ ν h h' w' ξ2 used2 acc2 ∧ ξ.le ξ2 ∧ VR ξ2 v2 v' := by
  unfold leafA at e
  split at e
  · rename_i i o sp n c
    split at e
    · rename_i hcond
      obtain ⟨rfl, rfl, hi, hused⟩ := hcond
      split at e
      · rename_i C et hC
        split at e
        · rename_i haf
          cases e
          obtain ⟨l, c', hνi, rfl, hcc, hc0, hro, hnn⟩ := hv.slice_inv
          obtain ⟨hlro, hlet, C', e', fr, hw, hCn, hCs, hCv, hfr, hemp⟩ := H'.row hνi hC
          have hlro' : l.ro = false := hlro.symm
          have hle := Mp.le_upd (l := l) K.hr.none_at
          have cases_new : ∀ q k, ξ.upd acc.length l q = some k → (q = acc.length ∧ k = l) ∨ (q < acc.length ∧ ξ q = some k) := by
            intro q k hq
            unfold Mp.upd at hq
            split at hq
            · rename_i he; cases hq; exact .inl ⟨he, rfl⟩
            · exact .inr ⟨(K.hr.dom _ _ hq).1, hq⟩
          have clash : ∀ q k, ξ q = some k → k.b = l.b → acc[q]? ≠ some .dead → False := by
            intro q k hq hb hd
            by_cases hql : q < h.length
            · obtain ⟨g1, g2⟩ := K.low q hql
              rw [g1] at hq
              have := H'.one i q l k hνi (x.le q k hq) hb.symm hlro' (by rw [hC]; simp) (by rw [← g2]; exact hd)
              omega
            · obtain ⟨j, hj, hjl, hνj, hjd⟩ := K.high q k hq (by omega)
              have := H'.one i j l k hνi hνj hb.symm hlro' (by rw [hC]; simp) hjd
              subst this; exact hused hj
          refine ⟨ξ.upd acc.length l, ⟨⟨K.hr.below, ?_, ?_, ?_, ?_⟩, by have := K.len; simp; omega, ?_, ?_⟩, hle, ?_⟩
          · intro q k hq
            rcases cases_new q k hq with ⟨rfl, rfl⟩ | ⟨g1, g2⟩
            · exact ⟨by simp, (H'.dom _ _ hνi).2⟩
            · exact ⟨by simp; omega, (K.hr.dom _ _ g2).2⟩
          · intro q k b hq hb
            rcases cases_new q k hq with ⟨rfl, rfl⟩ | ⟨g1, g2⟩
            · rw [List.getElem?_append_right (Nat.le_refl _)] at hb
              simp at hb; subst hb
              refine ⟨hlro, hlet, C', e', fr, hw, hCn, hCs, fun j hj => ?_, hfr, hemp⟩
              have h1 : C.getD j undef ∈ C := by simp [List.getD_eq_getElem?_getD, hj]
              rw [(hCv j hj).eq_of_af (haf _ h1)]; exact VR.of_af (haf _ h1)
            · rw [List.getElem?_append_left g1] at hb
              exact (K.hr.obj q k b g2 hb).mono hle
          · intro q k hq hr
            rcases cases_new q k hq with ⟨rfl, rfl⟩ | ⟨g1, g2⟩
            · exact H'.own _ _ hνi hr
            · exact K.hr.own q k g2 hr
          · intro p q k1 k2 hp hq hb hr hdp hdq
            rcases cases_new p k1 hp with ⟨rfl, rfl⟩ | ⟨g1, g2⟩
            · rcases cases_new q k2 hq with ⟨rfl, rfl⟩ | ⟨r1, r2⟩
              · rfl
              · rw [List.getElem?_append_left r1] at hdq
                exact (clash q k2 r2 hb.symm hdq).elim
            · rw [List.getElem?_append_left g1] at hdp
              rcases cases_new q k2 hq with ⟨rfl, rfl⟩ | ⟨r1, r2⟩
              · exact (clash p k1 g2 hb hdp).elim
              · rw [List.getElem?_append_left r1] at hdq
                exact K.hr.one p q k1 k2 g2 r2 hb hr hdp hdq
          · intro q hq
            have := K.len
            obtain ⟨g1, g2⟩ := K.low q hq
            refine ⟨?_, by rw [List.getElem?_append_left (by omega)]; exact g2⟩
            unfold Mp.upd; rw [if_neg (by omega)]; exact g1
          · intro q k hq hql
            rcases cases_new q k hq with ⟨rfl, rfl⟩ | ⟨g1, g2⟩
            · exact ⟨i, by simp, hi, hνi, by rw [hC]; simp⟩
            · obtain ⟨j, hj, hj2⟩ := K.high q k g2 hql
              exact ⟨j, by simp [hj], hj2⟩
          · by_cases hc : c = 0
            · subst hc
              have := hc0 rfl; subst this
              have hn : n = 0 := hv.len_zero
              subst hn
              have := VR.empty (μ := ξ.upd acc.length l) (i := acc.length) (o := 0) (l := l) (by simp [Mp.upd])
              simpa using this
            · exact VR.slice (μ := ξ.upd acc.length l) (i := acc.length) (o := 0) (l := l) (by simp [Mp.upd]) (by omega) hcc hro hnn
        · cases e
      · cases e
    · cases e
  · split at e
    · rename_i haf
      cases e
      exact ⟨ξ, K, Mp.le_refl _, by rw [hv.eq_of_af haf]; exact VR.of_af haf⟩
    · cases e

theorem leavesA_ok (x : Ext μ h w ν h' w') (H' : HR w0 ν h' w') : ∀ (vs : List Value) {ξ : Mp} {used used2 : List Nat} {acc acc2 : AH} (_ : Lay w0 μ ν h h' w' ξ used acc) {vs' vs2 : List Value} (_ : VL ν vs vs') (_ : leavesA h.length h' used acc vs = some (vs2, used2, acc2)),
    ∃ ξ2, Lay w0 μ ν h h' w' ξ2 used2 acc2 ∧ ξ.le ξ2 ∧ VL ξ2 vs2 vs'
  | [], ξ, used, used2, acc, acc2, K, vs', vs2, hv, e => by
    simp only [leavesA, Option.some.injEq, Prod.mk.injEq] at e
    obtain ⟨rfl, rfl, rfl⟩ := e
    have := hv.inv_nil; subst this
    exact ⟨ξ, K, Mp.le_refl _, .nil⟩
  | v :: vs, ξ, used, used2, acc, acc2, K, vs', vs2, hv, e => by
    obtain ⟨y, b', rfl, h1, h2⟩ := hv.inv
    simp only [leavesA, Option.bind_eq_some_iff, Option.map_eq_some_iff] at e
    obtain ⟨⟨v1, u1, a1⟩, e1, ⟨vs3, u3, a3⟩, e2, e3⟩ := e
    simp only [Prod.mk.injEq] at e3
    obtain ⟨rfl, rfl, rfl⟩ := e3
    obtain ⟨ξ1, K1, l1, r1⟩ := leafA_ok x H' K h1 e1
    obtain ⟨ξ2, K2, l2, r2⟩ := leavesA_ok x H' vs K1 h2 e2
    exact ⟨ξ2, K2, Mp.le_trans l1 l2, .cons (r1.mono l2) r2⟩

theorem partA1_ok (x : Ext μ h w ν h' w') (H' : HR w0 ν h' w') {ξ : Mp} {used used2 : List Nat} {acc acc2 : AH} (K : Lay w0 μ ν h h' w' ξ used acc) {v v' v2 : Value} (hv : VR ν v v') (e : partA1 h.length h' used acc v = some (v2, used2, acc2)) :
    ∃ ξ2, Lay w0 μ ν h h' w' ξ2 used2 acc2 ∧ ξ.le ξ2 ∧ VR ξ2 v2 v' := by
  unfold partA1 at e
  split at e
  · rename_i cs
    obtain ⟨cs', rfl, hl⟩ := hv.agg_inv
    rw [Option.map_eq_some_iff] at e
    obtain ⟨⟨vs2, u, a⟩, e1, e2⟩ := e
    simp only [Prod.mk.injEq] at e2
    obtain ⟨rfl, rfl, rfl⟩ := e2
    obtain ⟨ξ2, K2, l2, r2⟩ := leavesA_ok x H' _ K hl e1
    exact ⟨ξ2, K2, l2, by have := r2.arr; simpa using this⟩
  · exact leafA_ok x H' K hv e

theorem partsA_ok (x : Ext μ h w ν h' w') (H' : HR w0 ν h' w') : ∀ (vs : List Value) {ξ : Mp} {used used2 : List Nat} {acc acc2 : AH} (_ : Lay w0 μ ν h h' w' ξ used acc) {vs' vs2 : List Value} (_ : VL ν vs vs') (_ : partsA h.length h' used acc vs = some (vs2, used2, acc2)),
    ∃ ξ2, Lay w0 μ ν h h' w' ξ2 used2 acc2 ∧ ξ.le ξ2 ∧ VL ξ2 vs2 vs'
  | [], ξ, used, used2, acc, acc2, K, vs', vs2, hv, e => by
    simp only [partsA, Option.some.injEq, Prod.mk.injEq] at e
    obtain ⟨rfl, rfl, rfl⟩ := e
    have := hv.inv_nil; subst this
    exact ⟨ξ, K, Mp.le_refl _, .nil⟩
  | v :: vs, ξ, used, used2, acc, acc2, K, vs', vs2, hv, e => by
    obtain ⟨y, b', rfl, h1, h2⟩ := hv.inv
    simp only [partsA, Option.bind_eq_some_iff, Option.map_eq_some_iff] at e
    obtain ⟨⟨v1, u1, a1⟩, e1, ⟨vs3, u3, a3⟩, e2, e3⟩ := e
    simp only [Prod.mk.injEq] at e3
    obtain ⟨rfl, rfl, rfl⟩ := e3
    obtain ⟨ξ1, K1, l1, r1⟩ := partA1_ok x H' K h1 e1
    obtain ⟨ξ2, K2, l2, r2⟩ := partsA_ok x H' vs K1 h2 e2
    exact ⟨ξ2, K2, Mp.le_trans l1 l2, .cons (r1.mono l2) r2⟩

theorem layA_ok (x : Ext μ h w ν h' w') (H' : HR w0 ν h' w') {ξ : Mp} {acc acc2 : AH} (K : Lay w0 μ ν h h' w' ξ [] acc) {v v' v2 : Value} (hv : VR ν v v') (e : layA h.length h' acc v = some (v2, acc2)) :
    ∃ ξ2 used2, Lay w0 μ ν h h' w' ξ2 used2 acc2 ∧ ξ.le ξ2 ∧ VR ξ2 v2 v' := by
  unfold layA at e
  split at e
  · rename_i vs
    obtain ⟨cs', rfl, hl⟩ := hv.tuple_inv
    rw [Option.map_eq_some_iff] at e
    obtain ⟨⟨vs2, u, a⟩, e1, e2⟩ := e
    simp only [Prod.mk.injEq] at e2
    obtain ⟨rfl, rfl⟩ := e2
    obtain ⟨ξ2, K2, l2, r2⟩ := partsA_ok x H' _ K hl e1
    exact ⟨ξ2, u, K2, l2, .tuple (by have := r2.1; simpa using this) (fun i => by have := r2.2 i; simpa [Array.getD_eq_getD_getElem?, List.getD_eq_getElem?_getD] using this)⟩
  · split at e
    · rename_i v3 u a he
      cases e
      obtain ⟨ξ2, K2, l2, r2⟩ := partsA_ok x H' _ K (VL.cons hv .nil) he
      obtain ⟨y, b', hb, h1, -⟩ := r2.inv
      simp only [List.cons.injEq] at hb
      obtain ⟨rfl, -⟩ := hb
      exact ⟨ξ2, u, K2, l2, h1⟩
    · cases e

theorem gcA_ok (H : HR w0 μ h w) (x : Ext μ h w ν h' w') (H' : HR w0 ν h' w') {v v' : Value} (hv : VR ν v v') : OK w0 μ h w (gcA h v h').1 (gcA h v h').2 v' w' := by
  unfold gcA
  split
  · rename_i st
    split
    · rename_i haf
      exact ⟨μ, (Ext.old H x st).post (H.old x H' st) (by rw [hv.eq_of_af haf]; exact VR.of_af haf)⟩
    · split
      · rename_i r hr
        obtain ⟨v2, h2⟩ := r
        have hlen : (h'.take h.length).length = h.length := by rw [List.length_take]; exact Nat.min_eq_left st.1
        have K0 : Lay w0 μ ν h h' w' μ [] (h'.take h.length) := ⟨H.old x H' st, by omega, fun i hi => ⟨rfl, take_get hi⟩, fun i l hi hl => by have := (H.dom i l hi).1; omega⟩
        obtain ⟨ξ, used, K, hle, hvr⟩ := layA_ok x H' K0 hv hr
        refine ⟨ξ, ⟨hle, K.hr, hvr, K.len, x.size, x.leaves, ?_, ?_⟩⟩
        · intro i l hi
          by_cases hil : i < h.length
          · exact .inl ⟨hil, by rw [← (K.low i hil).1]; exact hi⟩
          · obtain ⟨j, -, hj, hνj, -⟩ := K.high i l hi (by omega)
            rcases x.fresh j l hνj with ⟨g1, -⟩ | ⟨-, g2, g3⟩
            · omega
            · exact .inr ⟨by omega, g2, g3⟩
        · intro i hi
          have hil : i < h.length := by
            rcases Nat.lt_or_ge i h.length with q | q
            · exact q
            · rw [List.getElem?_eq_none q] at hi; cases hi
          rw [(K.low i hil).2]; exact x.dead i hi
      · exact ⟨ν, x.post H' hv⟩
  · exact ⟨ν, x.post H' hv⟩

/-! ### Code -/

def AExit.out : AExit → Exit
  | .normal => .normal
  | .exit id => .exit id
  | .ret => .ret

/-- What is asked of a code's text. -/
def CodeOK (P : Program) (n : Nat) : Code → Prop
  | .region _ ops draw => RegOK P n ops ∧ (draw = true → orderly ops = true)
  | .seq x y => CodeOK P n x ∧ CodeOK P n y
  | .cond c x y => OpdOK c ∧ CodeOK P n x ∧ CodeOK P n y
  | .block _ c => CodeOK P n c
  | .loop c => CodeOK P n c
  | _ => True

/-- What must hold where a code ends. -/
abbrev Ends (w0 : Ctx) (n : Nat) (μ : Mp) (h : AH) (w : World) (s' : Slots) (h' : AH) (R : Act → World → Prop) : Prop :=
  ∀ ν a' w', Ext μ h w ν h' w' → HR w0 ν h' w' → SR ν n s' a' → R a' w'

theorem Ends.mono {n : Nat} {s' : Slots} {R R' : Act → World → Prop} (e : Ends w0 n μ h w s' h' R) (g : ∀ a w, R a w → R' a w) : Ends w0 n μ h w s' h' R' := fun ν a' w' x H X => g _ _ (e ν a' w' x H X)


theorem regionA_ok {call : Call} (X : Sound P w0 call) {n : Nat} {id : Nat} {ops : Array Oper} {draw : Bool} (R : RegOK P n ops) (O : draw = true → orderly ops = true) {s s' : Slots} {a : Act} (e : runOps P call ops draw {} ops.toList 0 s h = some (s', h'))
    (H : HR w0 μ h w) (hs : SR μ n s a) {Q : Exit → Act → World → Prop} (k : Ends w0 n μ h w s' h' (Q .normal)) : (Code.region id ops draw).wp P Q a w := by
  cases draw with
  | false =>
    refine wp_region ?_
    have := runOps_seq X R ops.toList {} 0 rfl H hs e k
    rw [List.range_eq_range']
    simpa using this
  | true =>
    have O' := orderly_spec (O rfl)
    obtain ⟨S, Hh, V, T, rfl, rfl, rfl, rfl⟩ := tr_of ops.toList {} 0 rfl s h e
    simp only [Nat.zero_add, Array.length_toList] at k
    refine wp_region_any X.fit.mixed ?_
    obtain ⟨hi, g1, g2, g3, g4⟩ := next_stop Hh ops.size ops.size 0 (by omega)
    have hpre : ∀ k, k ≤ hi → Hh 0 <+: Hh k := fun k hk => run_sub g3 (Nat.zero_le _) (Nat.zero_le _) hk
    have hno : ∀ j, ¬ (Array.replicate ops.size false).getD j false = true := by
      intro j
      simp [Array.getD_eq_getD_getElem?, Array.getElem?_replicate]
      split <;> simp
    refine region_any (μ0 := μ) (ww := w) X R O' T (fun μ' a' w' q1 q2 q3 => k μ' a' w' q3 q2 q1) ops.size (Array.replicate ops.size false) 0 hi μ a w.drew (by simp) ?_ ?_
    · exact Nat.le_trans List.countP_le_length (by simp)
    · have H2 := H.drew
      refine ⟨fun j o ho hj => absurd hj (hno j), g1, g2, g3, g4, fun h => absurd h (by omega), fun j o hj => absurd hj (by omega), fun j o _ _ _ _ _ hj => hno j hj, fun k k' h1 h2 => prefix_len (run_sub g3 (Nat.zero_le _) h1 h2), ?_, ?_, ?_, ?_, ?_, hs.size, hs.defers, Mp.le_refl _, Nat.le_refl _, fun _ _ _ => rfl, .refl H⟩
      · intro k hk i hi0
        have hil : i < (Hh 0).length := by
          rcases Nat.lt_or_ge i (Hh 0).length with q | q
          · exact q
          · rw [List.getElem?_eq_none q] at hi0; cases hi0
        rw [prefix_get (hpre k hk) hil]; exact hi0
      · intro k _ hk
        rw [cut_all fun i l hl => Nat.lt_of_lt_of_le (H.dom i l hl).1 (prefix_len (hpre k hk))]
        exact H2.longer (hpre k hk)
      · intro i l hl
        exact Nat.lt_of_lt_of_le (H.dom i l hl).1 (prefix_len (hpre hi (Nat.le_refl _)))
      · intro q l hq hlo
        have := (H.dom q l hq).1; omega
      · intro t
        refine .inr ⟨fun j o hj => absurd hj (hno j), ?_⟩
        rw [cut_all fun i l hl => (H.dom i l hl).1]; exact hs.val t

theorem runC_ok {call : Call} (X : Sound P w0 call) {n m : Nat} : ∀ (c : Code) (_ : CodeOK P n c) {μ : Mp} {h h' : AH} {w : World} {s s' : Slots} {a : Act} {e : AExit} (_ : runC P call m c s h = some (e, s', h')) (_ : HR w0 μ h w) (_ : SR μ n s a)
    {Q : Exit → Act → World → Prop} (_ : Ends w0 n μ h w s' h' (Q e.out)), c.wp P Q a w
  | .skip, _, μ, h, h', w, s, s', a, e, he, H, hs, Q, k => by
    simp only [runC, Option.some.injEq, Prod.mk.injEq] at he
    obtain ⟨rfl, rfl, rfl⟩ := he
    exact wp_skip (k μ a w (.refl H) H hs)
  | .exit id, _, μ, h, h', w, s, s', a, e, he, H, hs, Q, k => by
    simp only [runC, Option.some.injEq, Prod.mk.injEq] at he
    obtain ⟨rfl, rfl, rfl⟩ := he
    exact wp_exit (k μ a w (.refl H) H hs)
  | .ret, _, μ, h, h', w, s, s', a, e, he, H, hs, Q, k => by
    simp only [runC, Option.some.injEq, Prod.mk.injEq] at he
    obtain ⟨rfl, rfl, rfl⟩ := he
    exact wp_ret (k μ a w (.refl H) H hs)
  | .region id ops draw, ok, μ, h, h', w, s, s', a, e, he, H, hs, Q, k => by
    simp only [runC, Option.map_eq_some_iff, Prod.mk.injEq] at he
    obtain ⟨⟨s1, h1⟩, he, rfl, rfl, rfl⟩ := he
    exact regionA_ok X ok.1 ok.2 he H hs k
  | .seq x y, ok, μ, h, h', w, s, s', a, e, he, H, hs, Q, k => by
    simp only [runC] at he
    refine wp_seq ?_
    split at he
    · rename_i s1 h1 he1
      refine runC_ok X x ok.1 he1 H hs fun ν a1 w1 x1 H1 hs1 => ?_
      exact runC_ok X y ok.2 he H1 hs1 fun ξ a2 w2 x2 H2 hs2 => k ξ a2 w2 (x1.trans x2) H2 hs2
    · rename_i hne
      refine runC_ok X x ok.1 he H hs fun ν a1 w1 x1 H1 hs1 => ?_
      cases e with
      | normal => exact absurd he (hne _ _)
      | exit id => exact k ν a1 w1 x1 H1 hs1
      | ret => exact k ν a1 w1 x1 H1 hs1
  | .cond c x y, ok, μ, h, h', w, s, s', a, e, he, H, hs, Q, k => by
    simp only [runC] at he
    have hc := eval_ok (a := a) (s := s) (μ := μ) ok.1 fun t _ => hs.val t
    split at he
    · rename_i hb
      rw [hb] at hc
      exact wp_cond_true hc.bool_inv (runC_ok X x ok.2.1 he H hs k)
    · rename_i hb
      rw [hb] at hc
      exact wp_cond_false hc.bool_inv (runC_ok X y ok.2.2 he H hs k)
    · cases he
  | .block id c, ok, μ, h, h', w, s, s', a, e, he, H, hs, Q, k => by
    simp only [runC] at he
    refine wp_block ?_
    split at he
    · rename_i id' s1 h1 he1
      refine runC_ok X c ok he1 H hs fun ν a1 w1 x1 H1 hs1 => ?_
      split at he
      · rename_i hid
        cases he
        simp only [AExit.out, Exit.inBlock, hid, if_true]
        exact k ν a1 w1 x1 H1 hs1
      · rename_i hid
        cases he
        simp only [AExit.out, Exit.inBlock, hid, if_false]
        exact k ν a1 w1 x1 H1 hs1
    · rename_i hne
      refine runC_ok X c ok he H hs fun ν a1 w1 x1 H1 hs1 => ?_
      cases e with
      | normal => exact k ν a1 w1 x1 H1 hs1
      | exit id' => exact absurd he (hne _ _ _)
      | ret => exact k ν a1 w1 x1 H1 hs1
  | .loop c, ok, μ, h, h', w, s, s', a, e, he, H, hs, Q, k => by
    simp only [runC] at he
    have key : ∀ (q : Nat) {μ : Mp} {h : AH} {w : World} {s : Slots} {a : Act}, loopA (runC P call m c) q s h = some (e, s', h') → HR w0 μ h w → SR μ n s a → Ends w0 n μ h w s' h' (Q e.out) → Code.rounds P c Q q a w := by
      intro q
      induction q with
      | zero => intro μ h w s a hl; simp [loopA] at hl
      | succ q ih =>
        intro μ h w s a hl H hs k
        rw [rounds_succ]
        simp only [loopA] at hl
        split at hl
        · rename_i s1 h1 he1
          exact runC_ok X c ok he1 H hs fun ν a1 w1 x1 H1 hs1 => ih hl H1 hs1 fun ξ a2 w2 x2 H2 hs2 => k ξ a2 w2 (x1.trans x2) H2 hs2
        · rename_i hne
          refine runC_ok X c ok hl H hs fun ν a1 w1 x1 H1 hs1 => ?_
          cases e with
          | normal => exact absurd hl (hne _ _)
          | exit id => exact k ν a1 w1 x1 H1 hs1
          | ret => exact k ν a1 w1 x1 H1 hs1
    exact wp_loop_rounds m (key m he H hs k)
  | .rangeFunc .., _, _, _, _, _, _, _, _, _, he, _, _, _, _ => by simp [runC] at he
  | .scope .., _, _, _, _, _, _, _, _, _, he, _, _, _, _ => by simp [runC] at he
  | .label .., _, _, _, _, _, _, _, _, _, he, _, _, _, _ => by simp [runC] at he
  | .goto .., _, _, _, _, _, _, _, _, _, he, _, _, _, _ => by simp [runC] at he
  | .refuse .., _, _, _, _, _, _, _, _, _, he, _, _, _, _ => by simp [runC] at he

/-! ### A call -/

/-- What is asked of a function's text. -/
structure FnOK (P : Program) (f : FuncId) : Prop where
  ok : ∀ fn, P.funcs[f]? = some fn → fn.name ≠ "runtime.NumGoroutine" ∧ ∀ c, fn.body = some c → CodeOK P fn.ntmps c

def resS (tmps : Array Value) : ResultVar → Sem Value
  | .tmp t => pure (tmps.getD t undef)
  | .cell a t => do loadVar t (← asAddr (tmps.getD a undef))

theorem resA_ok {n : Nat} {s : Slots} {a : Act} (H : HR w0 μ h w) (hs : SR μ n s a) (rs : List ResultVar) : ∀ {vs : List Value}, rs.mapM (resA P s h) = some vs →
    ∃ vs', (rs.mapM (resS a.tmps)).run P w = .ok vs' w ∧ VL μ vs vs' := by
  induction rs with
  | nil => intro vs e; simp at e; subst e; exact ⟨[], rfl, .nil⟩
  | cons r rs ih =>
    intro vs e
    rw [List.mapM_cons] at e
    simp only [Option.bind_eq_bind, Option.bind_eq_some_iff, Option.pure_def, Option.some.injEq] at e
    obtain ⟨v, hv, vs1, h1, rfl⟩ := e
    obtain ⟨vs', g1, g2⟩ := ih h1
    cases r with
    | tmp t =>
      simp only [resA, Option.some.injEq] at hv
      subst hv
      refine ⟨a.tmps.getD t undef :: vs', ?_, .cons (hs.val t) g2⟩
      rw [List.mapM_cons]
      simp only [resS, Sem.run_bind, Sem.run_pure, Result.andThen_ok, g1]
    | cell p t =>
      simp only [resA] at hv
      obtain ⟨v', k1, k2⟩ := loadA_ok H (hs.val p) hv
      refine ⟨v' :: vs', ?_, .cons k2 g2⟩
      have hp : ∃ ad, a.tmps.getD p undef = .pointer (some ad) := by
        have hvp := hs.val p
        unfold loadA at hv
        split at hv
        · rename_i i o hsp
          rw [hsp] at hvp
          obtain ⟨l, -, hh⟩ := hvp.ptr_inv
          exact ⟨_, hh⟩
        · cases hv
      obtain ⟨ad, had⟩ := hp
      rw [had] at k1
      have k1' : (loadVar t ad).run P w = .ok v' w := by simpa [Instr.loadAt, Instr.sureAddr] using k1
      rw [List.mapM_cons]
      simp only [resS, Sem.run_bind, had, asAddr, Sem.run_pure, Result.andThen_ok, k1', g1]

theorem resultsA_ok {n : Nat} {s : Slots} {a : Act} (H : HR w0 μ h w) (hs : SR μ n s a) {fn : Func} {v : Value} (e : resultsA P fn s h = some v) : ∃ v', (results fn a.tmps).run P w = .ok v' w ∧ VR μ v v' := by
  unfold resultsA at e
  rw [Option.map_eq_some_iff] at e
  obtain ⟨vs, hvs, rfl⟩ := e
  obtain ⟨vs', h1, h2⟩ := resA_ok H hs _ hvs
  refine ⟨oneOf vs', ?_, ?_⟩
  · unfold results
    have hf : ∀ f : ResultVar → Sem Value, f = resS a.tmps → (fn.results.mapM f).run P w = .ok vs'.toArray w := by
      rintro f rfl
      rw [Array.mapM_eq_mapM_toList, Sem.run_map, h1]; rfl
    rw [Sem.run_bind, hf _ (by funext r; cases r <;> rfl)]
    simp only [Result.andThen_ok, Sem.run_pure]
    congr 1
    match vs' with
    | [] => rfl
    | [x] => rfl
    | x :: y :: z => simp [oneOf]
  · match vs, vs', h2 with
    | [], vs', h2 => have := h2.inv_nil; subst this; exact .undef
    | [x], vs', h2 =>
      obtain ⟨y, b', rfl, q1, q2⟩ := h2.inv
      have := q2.inv_nil; subst this
      exact q1
    | x :: x2 :: xs, vs', h2 =>
      obtain ⟨y, b', rfl, q1, q2⟩ := h2.inv
      obtain ⟨y2, b2, rfl, r1, r2⟩ := q2.inv
      exact .tuple (by have := h2.1; simpa using this) (fun i => by have := h2.2 i; simpa [Array.getD_eq_getD_getElem?, List.getD_eq_getElem?_getD] using this)

theorem callN_ok (fit : Fit P) (szs : ∀ t n, sizeA P t = some n → w0.sz t = n) {good : FuncId → Bool} (hg : ∀ f, good f = true → FnOK P f) : ∀ n, Sound P w0 (callN P good n)
  | 0 => ⟨fit, szs, fun f args h v h' e => by simp [callN] at e, fun f args h r e => by simp [callN] at e⟩
  | n + 1 => by
    have X := callN_ok fit szs hg n
    refine ⟨fit, szs, ?_, ?_⟩
    · intro f args h v h' e μ w args' H hargs
      simp only [callN] at e
      split at e
      · rename_i hgf
        rw [Option.bind_eq_some_iff] at e
        obtain ⟨fn, hfn, e⟩ := e
        unfold bodyA at e
        rw [Option.bind_eq_some_iff] at e
        obtain ⟨c, hc, e⟩ := e
        have hok := ((hg f hgf).ok fn hfn).2 c hc
        have hs : SR μ fn.ntmps (startA args) { tmps := args'.toArray ++ Array.replicate (fn.ntmps - args'.toArray.size) undef, defers := [] } := by
          refine ⟨fun t => ?_, by simp; omega, rfl⟩
          have := hargs.2 t
          have e1 : (args'.toArray ++ Array.replicate (fn.ntmps - args'.toArray.size) undef).getD t undef = args'.getD t undef := by
            simp only [Array.getD_eq_getD_getElem?, Array.getElem?_append, List.getD_eq_getElem?_getD, List.size_toArray, List.getElem?_toArray]
            split
            · rfl
            · rename_i hlt
              rw [List.getElem?_eq_none (by omega), Array.getElem?_replicate]
              split <;> rfl
          rw [e1]; exact this
        have fin : ∀ (s1 : Slots) (h1 : AH), (resultsA P fn s1 h1).map (fun v => gcA h v h1) = some (v, h') →
            Ends w0 fn.ntmps μ h w s1 h1 (fun a' w' => a'.defers = [] ∧ ∃ v', (results fn a'.tmps).run P w' = .ok v' w' ∧ OK w0 μ h w v h' v' w') := by
          intro s1 h1 he ν a1 w1 x1 H1 hs1
          rw [Option.map_eq_some_iff] at he
          obtain ⟨v1, hv1, he⟩ := he
          obtain ⟨v', k1, k2⟩ := resultsA_ok H1 hs1 hv1
          have := gcA_ok H x1 H1 k2
          rw [he] at this
          exact ⟨hs1.defers, v', k1, this⟩
        refine calls_of_wp hfn hc ?_
        split at e
        · rename_i s1 h1 he
          exact runC_ok X c hok he H hs (Q := bodyPost P fn _) ((fin s1 h1 e).mono fun a w q => ⟨q.1, by obtain ⟨v', k1, k2⟩ := q.2; exact ⟨v', k1, k2⟩⟩)
        · rename_i s1 h1 he
          exact runC_ok X c hok he H hs (Q := bodyPost P fn _) ((fin s1 h1 e).mono fun a w q => ⟨q.1, by obtain ⟨v', k1, k2⟩ := q.2; exact ⟨v', k1, k2⟩⟩)
        · cases e
      · cases e
    · intro f args h r e
      simp only [callN] at e
      split at e
      · rename_i hgf
        rw [Option.bind_eq_some_iff] at e
        obtain ⟨fn, hfn, e⟩ := e
        unfold bodyA at e
        rw [Option.bind_eq_some_iff] at e
        obtain ⟨c, hc, -⟩ := e
        exact ⟨fn, hfn, ((hg f hgf).ok fn hfn).1, by rw [hc]; rfl⟩
      · cases e

end
end Go.AM
