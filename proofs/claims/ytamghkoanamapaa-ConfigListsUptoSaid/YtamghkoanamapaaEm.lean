/- Regions whose order is drawn: the theorem. No condition. -/
import Derived.Test.YtamghkoanamapaaEl
namespace Go.AM
open Go.RowKit

section
variable {P : Program} {w0 : Ctx} {call : Call} {ops : Array Oper} {n : Nat} {S : Nat → Slots} {H : Nat → AH} {V : Nat → Value} {μ0 : Mp} {ww : World} {L : Nat → Prop} {lo hi : Nat} {μ : Mp} {a : Act} {w : World}

/-- A step that makes no memory that is told: what is listed grows, a slot is written. -/
theorem Inv.quiet (O : Orderly ops) (I : Inv P w0 call ops n S H V μ0 ww L lo hi μ a w) {i : Nat} {o : Oper} (ho : ops[i]? = some o) (hni : ¬ L i) (hr : ∀ e ∈ o.after, Region.binds .any e = true → L e.on) (hd : ∀ d, o.dst = some d → d < n)
    (hq : ¬ (wantedA ops o (S i) = true ∧ calm o.op = false ∧ isLoad o.op = false)) {v' : Value} (hv : VR (μ.cut (H (max lo (min (i + 1) hi))).length) (V i) v') :
    Inv P w0 call ops n S H V μ0 ww (fun j => L j ∨ j = i) lo hi μ (a.put o.dst v') w := by
  have hsl := slots_step O I ho hni hd (fun m => Mp.le_refl _) I.len (Nat.le_refl _) (Nat.le_refl lo) I.lohi hv
  rw [ho] at hsl
  refine ⟨?_, I.lohi, I.hin, I.grow, I.stop, I.start, fun j p hj hp hw hc hl => .inl (I.below j p hj hp hw hc hl), ?_, I.len, I.dead, I.hr, I.dom, ?_, hsl, ?_, ?_, I.le, I.wsize, I.leaves, I.fresh⟩
  · rintro j p hp (hj | rfl) e he hb
    · exact .inl (I.closed j p hp hj e he hb)
    · rw [ho] at hp; cases hp; exact .inl (hr e he hb)
  · rintro j p hj hp hw hc hl (hL | rfl)
    · exact I.above j p hj hp hw hc hl hL
    · rw [ho] at hp; cases hp; exact hq ⟨hw, hc, hl⟩
  · intro q l hq' hlo
    obtain ⟨j, h1, h2⟩ := I.new q l hq' hlo
    exact ⟨j, .inl h1, h2⟩
  · cases o.dst <;> simpa [Act.put] using I.size
  · cases o.dst <;> simpa [Act.put] using I.defers

/-- A step inside a stretch that only grows. -/
theorem Inv.grown (O : Orderly ops) (I : Inv P w0 call ops n S H V μ0 ww L lo hi μ a w) {i : Nat} {o : Oper} (ho : ops[i]? = some o) (hni : ¬ L i) (hr : ∀ e ∈ o.after, Region.binds .any e = true → L e.on) (hd : ∀ d, o.dst = some d → d < n)
    (h1 : lo ≤ i) (h2 : i < hi) {v' : Value} {w' : World} {ν : Mp} (p : Post w0 (μ.cut (H i).length) (H i) w (V i) (H (i + 1)) v' w' ν) :
    ∃ μ', Inv P w0 call ops n S H V μ0 ww (fun j => L j ∨ j = i) lo hi μ' (a.put o.dst v') w' := by
  have hAB := p.len
  have hB : (H (i + 1)).length ≤ (H hi).length := I.len _ _ (by omega) (by omega)
  have h0A : (H 0).length ≤ (H i).length := I.len _ _ (by omega) (by omega)
  have hloA : (H lo).length ≤ (H i).length := I.len _ _ h1 (by omega)
  -- no block of the old map lies where this step's new ones lie
  have hnone : ∀ q l, μ q = some l → (H i).length ≤ q → q < (H (i + 1)).length → False := by
    intro q l hq g1 g2
    obtain ⟨j, k1, k2, k3, k4, k5⟩ := I.new q l hq (by omega)
    rcases Nat.lt_trichotomy j i with h | h | h
    · have := I.len (j + 1) i (by omega) (by omega); omega
    · subst h; exact hni k1
    · have := I.len (i + 1) j (by omega) (by omega); omega
  obtain ⟨μ', hμ'⟩ : ∃ μ' : Mp, μ' = fun q => if (H i).length ≤ q ∧ q < (H (i + 1)).length then ν q else μ q := ⟨_, rfl⟩
  have hin : ∀ q, (H i).length ≤ q → q < (H (i + 1)).length → μ' q = ν q := fun q g1 g2 => by rw [hμ']; exact if_pos ⟨g1, g2⟩
  have hout : ∀ q, ¬ ((H i).length ≤ q ∧ q < (H (i + 1)).length) → μ' q = μ q := fun q g => by rw [hμ']; exact if_neg g
  have hle : μ.le μ' := fun q l hq => by
    rw [hout q fun g => hnone q l hq g.1 g.2]; exact hq
  have hνlow : ∀ q, q < (H i).length → ν q = μ q := fun q g => by
    cases e : ν q with
    | some l =>
      rcases p.fresh q l e with ⟨-, k2⟩ | ⟨k1, -⟩
      · exact ((cut_some.1 k2).2).symm
      · omega
    | none =>
      cases e2 : μ q with
      | none => rfl
      | some l => rw [p.le q l (cut_some.2 ⟨g, e2⟩)] at e; cases e
  have hcutB : μ'.cut (H (i + 1)).length = ν := by
    funext q
    unfold Mp.cut
    split
    · rename_i hq
      by_cases g : (H i).length ≤ q
      · exact hin q g hq
      · rw [hout q fun k => g k.1, hνlow q (by omega)]
    · rename_i hq
      cases e : ν q with
      | none => rfl
      | some l => exact absurd (p.hr.dom q l e).1 hq
  have hcut : ∀ k, k ≤ i → μ'.cut (H k).length = μ.cut (H k).length := fun k hk => by
    funext q
    unfold Mp.cut
    split
    · rename_i hq
      have := I.len k i hk (by omega)
      exact hout q fun g => by omega
    · rfl
  have hsl := slots_step O I ho hni hd (ν := μ') (fun m => cut_mono hle (Nat.le_refl _)) I.len (Nat.le_refl _) (Nat.le_refl lo) I.lohi (v' := v') (by rw [show max lo (min (i + 1) hi) = i + 1 by omega, hcutB]; exact p.vr)
  rw [ho] at hsl
  have hnewown : ∀ q l, μ q = some l → (H i).length ≤ q → l.ro = false := fun q l hq g => by
    rcases I.fresh q l hq with ⟨k1, -⟩ | ⟨-, k2, -⟩
    · omega
    · exact k2
  refine ⟨μ', ⟨?_, I.lohi, I.hin, I.grow, I.stop, I.start, fun j p hj hp hw hc hl => .inl (I.below j p hj hp hw hc hl), ?_, I.len, I.dead, ?_, ?_, ?_, hsl, ?_, ?_, Mp.le_trans I.le hle, Nat.le_trans I.wsize p.size, ?_, ?_⟩⟩
  · rintro j q hq (hj | rfl) e he hb
    · exact .inl (I.closed j q hq hj e he hb)
    · rw [ho] at hq; cases hq; exact .inl (hr e he hb)
  · rintro j q hj hq hw hc hl (hL | rfl)
    · exact I.above j q hj hq hw hc hl hL
    · omega
  · intro k hk1 hk2
    by_cases hki : k ≤ i
    · rw [hcut k hki]
      refine (I.hr k hk1 hk2).keep (ν := ν) (h' := H (i + 1)) ?_ p.hr ?_
      · exact Mp.le_trans (cut_mono (Mp.le_refl _) (I.len k i hki (by omega))) p.le
      · intro q l b hq hb
        have hql := ((I.hr k hk1 hk2).dom q l hq).1
        rw [prefix_get (run_sub I.grow hk1 (by omega) (by omega)) hql]; exact hb
    · have hpre := run_sub I.grow (k := i + 1) (m := k) (by omega) (by omega) hk2
      have hBk := prefix_len hpre
      have X := I.hr k hk1 hk2
      -- the three ranges
      have part : ∀ q l, μ'.cut (H k).length q = some l → (q < (H (i + 1)).length ∧ ν q = some l ∧ (H k)[q]? = (H (i + 1))[q]?) ∨ ((H (i + 1)).length ≤ q ∧ μ.cut (H k).length q = some l ∧ l.ro = false) := by
        intro q l hq
        obtain ⟨g1, g2⟩ := cut_some.1 hq
        by_cases hqB : q < (H (i + 1)).length
        · refine .inl ⟨hqB, ?_, prefix_get hpre hqB⟩
          rw [← hcutB]; exact cut_some.2 ⟨hqB, g2⟩
        · rw [hout q fun g => hqB g.2] at g2
          exact .inr ⟨by omega, cut_some.2 ⟨g1, g2⟩, hnewown q l g2 (by omega)⟩
      have hνle : ν.le (μ'.cut (H k).length) := fun q l hq => by
        have := (p.hr.dom q l hq).1
        rw [← hcutB] at hq
        exact cut_some.2 ⟨by omega, (cut_some.1 hq).2⟩
      -- a block of another step's is not touched
      have far : ∀ q l, (H (i + 1)).length ≤ q → μ.cut (H k).length q = some l → l.ro = false → (H k)[q]? ≠ some .dead → w'.heap[l.b]? = w.heap[l.b]? := by
        intro q l g1 g2 g3 g4
        refine p.leaves l.b (X.dom q l g2).2 fun i2 l2 k1 k2 k3 => ?_
        obtain ⟨m1, m2⟩ := cut_some.1 k1
        have hi2 : (H k)[i2]? = (H i)[i2]? := prefix_get (run_sub I.grow h1 (by omega) hk2) m1
        rcases Classical.em ((H i)[i2]? = some .dead) with hdd | hdd
        · exact hdd
        · have := X.one i2 q l2 l (cut_some.2 ⟨by omega, m2⟩) g2 k3 k2 (by rw [hi2]; exact hdd) g4
          omega
      -- new blocks of this step lie apart from those of another
      have apart : ∀ q1 l1 q2 l2, q1 < (H (i + 1)).length → ν q1 = some l1 → (H (i + 1)).length ≤ q2 → μ.cut (H k).length q2 = some l2 → l1.b = l2.b → (l1.ro = false ∨ l2.ro = false) → (H k)[q1]? ≠ some .dead → (H k)[q2]? ≠ some .dead → False := by
        intro q1 l1 q2 l2 g1 g2 g3 g4 g5 g6 g7 g8
        by_cases hq1 : q1 < (H i).length
        · have g2' : μ.cut (H k).length q1 = some l1 := cut_some.2 ⟨by omega, by rw [← hνlow q1 hq1]; exact g2⟩
          rcases g6 with g6 | g6
          · have := X.one q1 q2 l1 l2 g2' g4 g5 g6 g7 g8; omega
          · have := X.one q2 q1 l2 l1 g4 g2' g5.symm g6 g8 g7; omega
        · rcases p.fresh q1 l1 g2 with ⟨k1, -⟩ | ⟨-, -, k3⟩
          · omega
          · rcases k3 with k3 | ⟨j, m, hj, hm, hmb, hdj⟩
            · have := (X.dom q2 l2 g4).2; omega
            · obtain ⟨m1, m2⟩ := cut_some.1 hj
              have hj2 : (H k)[j]? = (H i)[j]? := prefix_get (run_sub I.grow h1 (by omega) hk2) m1
              have := X.one j q2 m l2 (cut_some.2 ⟨by omega, m2⟩) g4 (by omega) hm (by rw [hj2]; exact hdj) g8
              omega
      refine ⟨p.hr.below, ?_, ?_, ?_, ?_⟩
      · intro q l hq
        rcases part q l hq with ⟨g1, g2, -⟩ | ⟨g1, g2, -⟩
        · exact ⟨by omega, (p.hr.dom q l g2).2⟩
        · exact ⟨(X.dom q l g2).1, by have := (X.dom q l g2).2; have := p.size; omega⟩
      · intro q l b hq hb
        rcases part q l hq with ⟨g1, g2, g3⟩ | ⟨g1, g2, g3⟩
        · rw [g3] at hb; exact (p.hr.obj q l b g2 hb).mono hνle
        · rcases Classical.em (b = .dead) with hdd | hdd
          · subst hdd; trivial
          · rw [far q l g1 g2 g3 (by rw [hb]; simpa using hdd)]
            exact (X.obj q l b g2 hb).mono (cut_mono hle (Nat.le_refl _))
      · intro q l hq hro
        rcases part q l hq with ⟨g1, g2, -⟩ | ⟨g1, g2, -⟩
        · exact p.hr.own q l g2 hro
        · exact X.own q l g2 hro
      · intro q1 q2 l1 l2 hq1 hq2 hb hro hd1 hd2
        rcases part q1 l1 hq1 with ⟨g1, g2, g3⟩ | ⟨g1, g2, g3⟩
        · rcases part q2 l2 hq2 with ⟨k1, k2, k3⟩ | ⟨k1, k2, k3⟩
          · exact p.hr.one q1 q2 l1 l2 g2 k2 hb hro (by rw [← g3]; exact hd1) (by rw [← k3]; exact hd2)
          · exact (apart q1 l1 q2 l2 g1 g2 k1 k2 hb (.inl hro) hd1 hd2).elim
        · rcases part q2 l2 hq2 with ⟨k1, k2, k3⟩ | ⟨k1, k2, k3⟩
          · exact (apart q2 l2 q1 l1 k1 k2 g1 g2 hb.symm (.inr hro) hd2 hd1).elim
          · exact X.one q1 q2 l1 l2 g2 k2 hb hro hd1 hd2
  · intro q l hq
    by_cases g : (H i).length ≤ q ∧ q < (H (i + 1)).length
    · omega
    · rw [hout q g] at hq; exact I.dom q l hq
  · intro q l hq hlo
    by_cases g : (H i).length ≤ q ∧ q < (H (i + 1)).length
    · exact ⟨i, .inr rfl, h1, h2, g.1, g.2⟩
    · rw [hout q g] at hq
      obtain ⟨j, k1, k2⟩ := I.new q l hq hlo
      exact ⟨j, .inl k1, k2⟩
  · cases o.dst <;> simpa [Act.put] using I.size
  · cases o.dst <;> simpa [Act.put] using I.defers
  · exact leaves_step I.leaves I.fresh I.wsize (I.dead i (by omega)) p.leaves
  · intro q l hq
    by_cases g : (H i).length ≤ q ∧ q < (H (i + 1)).length
    · rw [hin q g.1 g.2] at hq
      exact fresh_step I.fresh I.wsize (I.dead i (by omega)) h0A p.fresh q l hq
    · rw [hout q g] at hq; exact I.fresh q l hq

/-- A step that may write: it stands in a fixed order to all others that look at memory. -/
theorem Inv.wrote (O : Orderly ops) (I : Inv P w0 call ops n S H V μ0 ww L lo hi μ a w) {o : Oper} (ho : ops[hi]? = some o) (hni : ¬ L hi) (hr : ∀ e ∈ o.after, Region.binds .any e = true → L e.on) (hd : ∀ d, o.dst = some d → d < n)
    (hfix : fixedA ops hi = true ∨ fixedB ops hi = true) {v' : Value} {w' : World} {ν : Mp} (p : Post w0 μ (H hi) w (V hi) (H (hi + 1)) v' w' ν) :
    ∃ lo' hi', Inv P w0 call ops n S H V μ0 ww (fun j => L j ∨ j = hi) lo' hi' ν (a.put o.dst v') w' := by
  have hlt : hi < ops.size := (Array.getElem?_eq_some_iff.1 ho).1
  obtain ⟨hi', g1, g2, g3, g4⟩ := next_stop H ops.size (ops.size - (hi + 1)) (hi + 1) (by omega)
  have hcutμ : μ.cut (H hi).length = μ := cut_all I.dom
  have hpre : ∀ k, hi + 1 ≤ k → k ≤ hi' → H (hi + 1) <+: H k := fun k k1 k2 => run_sub g3 (Nat.le_refl _) k1 k2
  have hlen : ∀ k k', k ≤ k' → k' ≤ hi' → (H k).length ≤ (H k').length := by
    intro k k' h1 h2
    by_cases hk' : k' ≤ hi
    · exact I.len k k' h1 hk'
    · by_cases hk : k ≤ hi
      · have a1 := I.len k hi hk (Nat.le_refl _)
        have a2 := p.len
        have a3 := prefix_len (hpre k' (by omega) h2)
        omega
      · exact prefix_len (run_sub g3 (by omega) h1 h2)
  have hvr : VR (ν.cut (H (max (hi + 1) (min (hi + 1) hi'))).length) (V hi) v' := by
    rw [show max (hi + 1) (min (hi + 1) hi') = hi + 1 by omega, cut_all fun q l hq => (p.hr.dom q l hq).1]; exact p.vr
  have hsl := slots_step O I ho hni hd (ν := ν) (hi' := hi') (fun m => cut_mono p.le (Nat.le_refl _)) hlen (by omega) (show lo ≤ hi + 1 by have := I.lohi; omega) g1 (v' := v') hvr
  rw [ho] at hsl
  have hdead : ∀ k, k ≤ hi' → ∀ i : Nat, (H 0)[i]? = some .dead → (H k)[i]? = some .dead := by
    intro k hk i hi0
    by_cases hk' : k ≤ hi
    · exact I.dead k hk' i hi0
    · have a1 := p.dead i (I.dead hi (Nat.le_refl _) i hi0)
      have hil : i < (H (hi + 1)).length := by
        rcases Nat.lt_or_ge i (H (hi + 1)).length with q | q
        · exact q
        · rw [List.getElem?_eq_none q] at a1; cases a1
      rw [prefix_get (hpre k (by omega) hk) hil]; exact a1
  have h0A : (H 0).length ≤ (H hi).length := I.len _ _ (by omega) (Nat.le_refl _)
  have pl : Leaves (μ.cut (H hi).length) (H hi) w w' := by rw [hcutμ]; exact p.leaves
  have pf : Fresh (μ.cut (H hi).length) ν (H hi) w := by rw [hcutμ]; exact p.fresh
  refine ⟨hi + 1, hi', ?_, g1, g2, g3, g4, fun _ => I.stop hlt, ?_, ?_, hlen, hdead, ?_, ?_, ?_, hsl, ?_, ?_, Mp.le_trans I.le p.le, Nat.le_trans I.wsize p.size, ?_, ?_⟩
  · rintro j q hq (hj | rfl) e he hb
    · exact .inl (I.closed j q hq hj e he hb)
    · rw [ho] at hq; cases hq; exact .inl (hr e he hb)
  · intro j q hj hq hw hc hl
    by_cases hjh : j = hi
    · exact .inr hjh
    · rcases hfix.elim (fun f => fixedA_spec f hq hc hjh) (fun f => fixedB_spec f hq hc hl hjh) with hb | hb
      · exact .inl (bef_ready I.closed ho hr hb)
      · have := bef_lt O hb; omega
  · rintro j q hj hq hw hc hl (hL | rfl)
    · exact I.above j q (by omega) hq hw hc hl hL
    · omega
  · intro k k1 k2
    rw [cut_all fun q l hq => Nat.lt_of_lt_of_le (p.hr.dom q l hq).1 (prefix_len (hpre k k1 k2))]
    exact p.hr.longer (hpre k k1 k2)
  · intro q l hq
    exact Nat.lt_of_lt_of_le (p.hr.dom q l hq).1 (prefix_len (hpre hi' g1 (Nat.le_refl _)))
  · intro q l hq hlo
    have := (p.hr.dom q l hq).1
    omega
  · cases o.dst <;> simpa [Act.put] using I.size
  · cases o.dst <;> simpa [Act.put] using I.defers
  · exact leaves_step I.leaves I.fresh I.wsize (I.dead hi (Nat.le_refl _)) pl
  · exact fresh_step I.fresh I.wsize (I.dead hi (Nat.le_refl _)) h0A pf

theorem countP_lt {l : List Nat} {p q : Nat → Bool} (h : ∀ x, q x = true → p x = true) {i : Nat} (hi : i ∈ l) (hp : p i = true) (hq : q i = false) : l.countP q < l.countP p := by
  induction l with
  | nil => cases hi
  | cons x l ih =>
    have hm : l.countP q ≤ l.countP p := List.countP_mono_left fun y _ hy => h y hy
    rw [List.countP_cons, List.countP_cons]
    rcases List.mem_cons.1 hi with rfl | hi
    · rw [if_pos hp, hq]; simp; omega
    · have := ih hi
      by_cases hqx : q x = true
      · rw [if_pos hqx, if_pos (h x hqx)]; omega
      · rw [if_neg hqx]; split <;> omega

theorem isLoad_inv {o : Op} (h : isLoad o = true) : ∃ t x, o = .load t x := by
  unfold isLoad at h
  split at h
  · exact ⟨_, _, rfl⟩
  · cases h
theorem load_any {o : Op} (h : isLoad o = true) {s : Slots} {h0 h' : AH} {v : Value} (e : opA P call o s h0 = some (v, h')) : h' = h0 := by
  obtain ⟨t, x, rfl⟩ := isLoad_inv h
  simp only [opA, Option.map_eq_some_iff, Prod.mk.injEq] at e
  obtain ⟨_, _, _, rfl⟩ := e; rfl

/-- The end: every operation is listed. -/
theorem Inv.done (T : Tr P call ops 0 {} S H V) (I : Inv P w0 call ops n S H V μ0 ww L lo hi μ a w) (hall : ∀ j, j < ops.size → L j) :
    SR μ n (S ops.size) a ∧ HR w0 μ (H ops.size) w ∧ Ext μ0 (H 0) ww μ (H ops.size) w := by
  have hhi : hi = ops.size := by
    rcases Nat.lt_or_ge hi ops.size with h | h
    · exfalso
      have ho : ops[hi]? = some ops[hi] := Array.getElem?_eq_getElem h
      rcases T.step hi _ (Nat.zero_le _) ho with ⟨h1, h2, h3⟩ | ⟨h1, h2, h3⟩
      · by_cases hc : calm (ops[hi]).op = true
        · have := calm_any hc h2
          exact I.stop h (by rw [this]; exact List.prefix_refl _)
        · by_cases hl : isLoad (ops[hi]).op = true
          · have := load_any hl h2
            exact I.stop h (by rw [this]; exact List.prefix_refl _)
          · exact I.above hi _ (Nat.le_refl _) ho h1 (by simpa using hc) (by simpa using hl) (hall hi h)
      · exact I.stop h (by rw [h3]; exact List.prefix_refl _)
    · have := I.hin; omega
  subst hhi
  have hcut : μ.cut (H ops.size).length = μ := cut_all I.dom
  have hHR := I.hr ops.size I.lohi (Nat.le_refl _)
  rw [hcut] at hHR
  refine ⟨⟨fun t => ?_, I.size, I.defers⟩, hHR, I.le, I.len 0 _ (Nat.zero_le _) (Nat.le_refl _), I.wsize, I.leaves, I.fresh, I.dead _ (Nat.le_refl _)⟩
  have lt_of : ∀ {j : Nat} {o : Oper}, ops[j]? = some o → j < ops.size := fun h => (Array.getElem?_eq_some_iff.1 h).1
  rcases tr_slot T t ops.size (Nat.le_refl _) with ⟨j, p, h1, h2, h3, h4, h5⟩ | ⟨h1, h2⟩
  · rcases I.slot t with ⟨j2, p2, g1, g2, g3, g4, g5⟩ | ⟨g1, -⟩
    · have e1 := h4 j2 p2 (lt_of g2) g2 g3
      have e2 := g4 j p (hall j h1) h2 h3
      have : j2 = j := by omega
      subst this
      rw [h5]; exact g5.mono (cut_le _ _)
    · exact absurd h3 (g1 j p (hall j h1) h2)
  · rcases I.slot t with ⟨j2, p2, g1, g2, g3, g4, g5⟩ | ⟨-, g2⟩
    · exact absurd g3 (h1 j2 p2 (lt_of g2) g2)
    · rw [h2]; exact g2.mono (cut_le _ _)

/-- Whatever order is drawn. -/
theorem region_any (X : Sound P w0 call) (R : RegOK P n ops) (O : Orderly ops) (T : Tr P call ops 0 {} S H V) {Q : Exit → Act → World → Prop}
    (k : ∀ μ a w, SR μ n (S ops.size) a → HR w0 μ (H ops.size) w → Ext μ0 (H 0) ww μ (H ops.size) w → Q .normal a w) :
    ∀ (fuel : Nat) (listed : Array Bool) (lo hi : Nat) (μ : Mp) (a : Act) (w : World), listed.size = ops.size → (List.range ops.size).countP (fun j => !listed.getD j false) ≤ fuel →
      Inv P w0 call ops n S H V μ0 ww (fun j => listed.getD j false = true) lo hi μ a w → wpAny P .any ops Q fuel listed a w := by
  intro fuel
  have fin : ∀ (listed : Array Bool) (lo hi : Nat) (μ : Mp) (a : Act) (w : World), listed.size = ops.size → Inv P w0 call ops n S H V μ0 ww (fun j => listed.getD j false = true) lo hi μ a w → Region.ready .any ops listed = [] → Q .normal a w := by
    intro listed lo hi μ a w hsz I hrd
    have hall : ∀ j, j < ops.size → listed.getD j false = true := by
      intro j
      induction j using Nat.strongRecOn with
      | _ j ih =>
        intro hj
        have ho : ops[j]? = some ops[j] := Array.getElem?_eq_getElem hj
        rcases Classical.em (listed.getD j false = true) with h | h
        · exact h
        · exfalso
          have hm : j ∈ Region.ready .any ops listed := by
            rw [mem_ready]
            refine ⟨?_, _, ho, fun e he hb => ih e.on (O.back j _ ho e he hb) (Nat.lt_trans (O.back j _ ho e he hb) hj)⟩
            have hjl : j < listed.size := by omega
            simp [Array.getD_eq_getD_getElem?, hjl] at h ⊢
            exact h
          rw [hrd] at hm; cases hm
    obtain ⟨h1, h2, h3⟩ := I.done T hall
    exact k μ a w h1 h2 h3
  induction fuel with
  | zero =>
    intro listed lo hi μ a w hsz hcnt I
    have hrd : Region.ready .any ops listed = [] := by
      rw [List.eq_nil_iff_forall_not_mem]
      intro j hj
      obtain ⟨h0, o, ho, -⟩ := mem_ready.1 hj
      have hjs : j < ops.size := (Array.getElem?_eq_some_iff.1 ho).1
      have : (List.range ops.size).countP (fun j => !listed.getD j false) ≠ 0 := by
        rw [Ne, List.countP_eq_zero]
        intro hh
        have := hh j (List.mem_range.2 hjs)
        have hjl : j < listed.size := by omega
        simp [Array.getD_eq_getD_getElem?, hjl] at h0 this
        rw [h0] at this; cases this
      omega
    exact ⟨hrd, fin listed lo hi μ a w hsz I hrd⟩
  | succ fuel ih =>
    intro listed lo hi μ a w hsz hcnt I
    refine ⟨fin listed lo hi μ a w hsz I, fun i hi' => ?_⟩
    obtain ⟨h0, o, ho, hedges⟩ := mem_ready.1 hi'
    have his : i < ops.size := (Array.getElem?_eq_some_iff.1 ho).1
    have hil : i < listed.size := by omega
    have hni : ¬ listed.getD i false = true := by
      simp [Array.getD_eq_getD_getElem?, hil] at h0 ⊢
      exact h0
    have hset : ∀ j, (listed.setIfInBounds i true).getD j false = true ↔ (listed.getD j false = true ∨ j = i) := by
      intro j
      by_cases hji : j = i
      · subst hji; simp [Array.getD_eq_getD_getElem?, hil]
      · rw [getD_set_ne false (fun h => hji h.symm)]; simp [hji]
    have hL : (fun j => (listed.setIfInBounds i true).getD j false = true) = (fun j => listed.getD j false = true ∨ j = i) := funext fun j => propext (hset j)
    have go : ∀ lo hi μ a w, Inv P w0 call ops n S H V μ0 ww (fun j => listed.getD j false = true ∨ j = i) lo hi μ a w → wpAny P .any ops Q fuel (listed.setIfInBounds i true) a w := by
      intro lo hi μ a w J
      refine ih _ lo hi μ a w (by simpa using hsz) ?_ (by rw [hL]; exact J)
      have := countP_lt (l := List.range ops.size) (p := fun j => !listed.getD j false) (q := fun j => !(listed.setIfInBounds i true).getD j false) (fun x hx => by
          cases hq : listed.getD x false
          · rfl
          · exfalso
            have := (hset x).2 (.inl hq)
            rw [this] at hx; cases hx) (List.mem_range.2 his) (by simpa using hni) (by simp [(hset i).2 (.inr rfl)])
      omega
    have hrd : ∀ t ∈ o.looksAt ops, VR (μ.cut (H (max lo (min i hi))).length) (S i t) (a.tmps.getD t undef) := fun t ht => I.reads O T ho hni hedges ht
    have hopd : ∀ y ∈ o.op.operands.toList, VR (μ.cut (H (max lo (min i hi))).length) (ev (S i) y) (a.eval y) := fun y hy => eval_ok (R.opd i o ho y hy) fun t ht => hrd t (by
      unfold Oper.looksAt
      refine List.mem_append.2 (.inl (List.mem_filterMap.2 ⟨y, hy, ?_⟩))
      rw [ht])
    have hwant : Region.wanted o (yielded ops a.tmps) = wantedA ops o (S i) := wanted_ok (μ := μ.cut (H (max lo (min i hi))).length) fun j b d hg hd => hrd d (by
      unfold Oper.looksAt
      refine List.mem_append.2 (.inr ?_)
      rw [hg]; simp [hd])
    show wpOp P ops Q i _ a w
    unfold wpOp
    rw [ho]
    simp only
    rw [hwant]
    rcases T.step i o (Nat.zero_le _) ho with ⟨t1, t2, t3⟩ | ⟨t1, t2, t3⟩
    · rw [if_pos t1]
      by_cases hc : calm o.op = true
      · obtain ⟨-, v', hrun, hv⟩ := calm_sound (w := w) X.fit hc hopd (R.ok i o ho) t2
        refine .inl ?_
        unfold Oper.wp
        rw [hrun]
        refine go lo hi μ _ w (I.quiet O ho hni hedges (R.dst i o ho) (fun h => by rw [hc] at h; cases h.2.1) ?_)
        exact hv.mono (cut_mono (Mp.le_refl _) (I.len _ _ (by omega) (by have := I.lohi; omega)))
      · have hc' : calm o.op = false := by simpa using hc
        have hstop : hi < ops.size → (fixedA ops hi = true ∨ (isCall (ops[hi]!).op = true ∧ fixedB ops hi = true)) ∧ wantedA ops ops[hi]! (S hi) = true ∧ calm (ops[hi]!).op = false ∧ isLoad (ops[hi]!).op = false ∧ ops[hi]? = some ops[hi]! := by
          intro hlt
          have hoh : ops[hi]? = some ops[hi]! := by rw [getElem!_pos ops hi hlt]; exact Array.getElem?_eq_getElem hlt
          rcases T.step hi _ (Nat.zero_le _) hoh with ⟨q1, q2, q3⟩ | ⟨q1, q2, q3⟩
          · refine ⟨q3.resolve_left (I.stop hlt), q1, ?_, ?_, hoh⟩
            · cases hcc : calm (ops[hi]!).op
              · rfl
              · have := calm_any hcc q2
                exact absurd (by rw [this]; exact List.prefix_refl _) (I.stop hlt)
            · cases hcc : isLoad (ops[hi]!).op
              · rfl
              · have := load_any hcc q2
                exact absurd (by rw [this]; exact List.prefix_refl _) (I.stop hlt)
          · exact absurd (by rw [q3]; exact List.prefix_refl _) (I.stop hlt)
        by_cases hld : isLoad o.op = true
        · obtain ⟨t, x, hop⟩ := isLoad_inv hld
          have t2' := t2
          rw [hop] at t2'
          simp only [opA, Option.map_eq_some_iff, Prod.mk.injEq] at t2'
          obtain ⟨vv, hl0, e1, e2⟩ := t2'
          subst e1
          have hkey : loadA P (H (max lo (min i hi))) t (ev (S i) x) = some (V i) := by
            rcases Nat.lt_or_ge i lo with h | h
            · rw [show max lo (min i hi) = lo by omega]
              obtain ⟨m, rfl⟩ : ∃ m, lo = m + 1 := ⟨lo - 1, by omega⟩
              have hmlt : m < ops.size := by have := I.lohi; have := I.hin; omega
              have hom : ops[m]? = some ops[m] := Array.getElem?_eq_getElem hmlt
              have hst := I.start (by omega)
              rw [Nat.add_sub_cancel] at hst
              rcases T.step m _ (Nat.zero_le _) hom with ⟨q1, q2, q3⟩ | ⟨q1, q2, q3⟩
              · have hcm : calm (ops[m]).op = false := by
                  cases hcc : calm (ops[m]).op
                  · rfl
                  · exact absurd (by rw [calm_any hcc q2]; exact List.prefix_refl _) hst
                have hlm : isLoad (ops[m]).op = false := by
                  cases hcc : isLoad (ops[m]).op
                  · rfl
                  · exact absurd (by rw [load_any hcc q2]; exact List.prefix_refl _) hst
                have hLm := I.below m _ (by omega) hom q1 hcm hlm
                have him : i ≠ m := by rintro rfl; exact hni hLm
                rcases T.pairL i m o _ t x (Nat.zero_le _) (by omega) ho hop t1 hom q1 with g | g | g | g
                · exact absurd g hst
                · rcases fixedA_spec g ho hc' him with hb | hb
                  · exact absurd (bef_closed I.closed hb hLm) hni
                  · have := bef_lt O hb; omega
                · exact absurd (bef_closed I.closed g hLm) hni
                · exact g
              · exact absurd (by rw [q3]; exact List.prefix_refl _) hst
            · rcases Nat.lt_or_ge hi i with h2 | h2
              · rw [show max lo (min i hi) = hi by have := I.lohi; omega]
                obtain ⟨f1, f2, f3, f5, f4⟩ := hstop (by omega)
                have hnL : ¬ listed.getD hi false = true := I.above hi _ (Nat.le_refl _) f4 f2 f3 f5
                rcases f1 with f1 | f1
                · rcases fixedA_spec f1 ho hc' (by omega) with hb | hb
                  · have := bef_lt O hb; omega
                  · exact absurd (bef_ready I.closed ho hedges hb) hnL
                · rcases T.pairC hi i _ o t x (Nat.zero_le _) h2 f4 f1.1 f2 ho hop t1 with g | g
                  · exact absurd (bef_ready I.closed ho hedges g) hnL
                  · exact g
              · rw [show max lo (min i hi) = i by omega]
                exact hl0
          obtain ⟨v', hrun, hv⟩ := loadA_ok (I.hr (max lo (min i hi)) (by omega) (by have := I.lohi; omega)) (hopd x (by rw [hop]; simp [Op.operands])) hkey
          refine .inl ?_
          unfold Oper.wp
          rw [show (execOp a.eval o).run P w = .ok (.value v') w by obtain ⟨d1, d2, d3, d4, d5, d6⟩ := o; simp only at hop; subst hop; simp [execOp, hrun]]
          refine go lo hi μ _ w (I.quiet O ho hni hedges (R.dst i o ho) (fun h => by rw [hld] at h; cases h.2.2) ?_)
          exact hv.mono (cut_mono (Mp.le_refl _) (I.len _ _ (by omega) (by have := I.lohi; omega)))
        have hld' : isLoad o.op = false := by simpa using hld
        have hlo : lo ≤ i := by
          rcases Nat.lt_or_ge i lo with h | h
          · exact absurd (I.below i o h ho t1 hc' hld') hni
          · exact h
        have hihi : i ≤ hi := by
          rcases Nat.lt_or_ge hi i with h | h
          · exfalso
            obtain ⟨f1, f2, f3, f5, f4⟩ := hstop (by omega)
            rcases f1.elim (fun f => fixedA_spec f ho hc' (by omega)) (fun f => fixedB_spec f.2 ho hc' hld' (by omega)) with hb | hb
            · have := bef_lt O hb; omega
            · exact I.above hi _ (Nat.le_refl _) f4 f2 f3 f5 (bef_ready I.closed ho hedges hb)
          · exact h
        have hmin : max lo (min i hi) = i := by omega
        rw [hmin] at hopd
        have hd := op_sound X.fit X.szs X.cok X.fn (I.hr i hlo hihi) (o := o) hopd (R.ok i o ho) t2
        refine hd _ Q fun v' w' ⟨ν, p⟩ => ?_
        rcases Nat.lt_or_ge i hi with h | h
        · obtain ⟨μ', J⟩ := I.grown O ho hni hedges (R.dst i o ho) hlo h p
          exact go _ _ _ _ _ J
        · have : i = hi := by omega
          subst this
          rw [cut_all I.dom] at p
          obtain ⟨f1, -⟩ := hstop his
          obtain ⟨lo', hi'', J⟩ := I.wrote O ho hni hedges (R.dst i o ho) (f1.elim .inl fun f => .inr f.2) p
          exact go _ _ _ _ _ J
    · rw [if_neg (by rw [t1]; simp)]
      refine go lo hi μ _ w (I.quiet O ho hni hedges (R.dst i o ho) (fun h => by rw [t1] at h; cases h.1) ?_)
      rw [t2]; exact .undef

end
end Go.AM
