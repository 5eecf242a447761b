/- Regions whose order is drawn: whatever order, the machine comes to what the abstract machine comes to in the order of the text. No condition. -/
import Derived.Test.YtamghkoanamapaaEk
namespace Go.AM
open Go.RowKit

/-- A map of the first n blocks alone. -/
def Mp.cut (μ : Mp) (n : Nat) : Mp := fun i => if i < n then μ i else none

theorem cut_some {μ : Mp} {n i : Nat} {l : Loc} : μ.cut n i = some l ↔ i < n ∧ μ i = some l := by
  unfold Mp.cut; split
  · rename_i h; simp [h]
  · rename_i h; exact ⟨fun q => (by cases q), fun q => absurd q.1 h⟩
theorem cut_le (μ : Mp) (n : Nat) : (μ.cut n).le μ := fun _ _ h => (cut_some.1 h).2
theorem cut_mono {μ ν : Mp} {n m : Nat} (hm : μ.le ν) (h : n ≤ m) : (μ.cut n).le (ν.cut m) := fun i l hi => by
  obtain ⟨h1, h2⟩ := cut_some.1 hi
  exact cut_some.2 ⟨by omega, hm i l h2⟩
theorem cut_all {μ : Mp} {n : Nat} (h : ∀ i l, μ i = some l → i < n) : μ.cut n = μ := by
  funext i
  unfold Mp.cut
  split
  · rfl
  · rename_i hi
    cases e : μ i with
    | none => rfl
    | some l => exact absurd (h i l e) hi

theorem prefix_get {h h' : AH} (p : h <+: h') {i : Nat} (hi : i < h.length) : h'[i]? = h[i]? := by
  obtain ⟨t, rfl⟩ := p
  exact List.getElem?_append_left hi
theorem prefix_len {h h' : AH} (p : h <+: h') : h.length ≤ h'.length := p.length_le

theorem ObjR.back {μ ν : Mp} (hm : μ.le ν) {l : Loc} {b : Blk} {o o' : Option Obj} (k : ObjR μ l b o) (k' : ObjR ν l b o') : ObjR μ l b o' := by
  cases b with
  | cells C t r =>
    obtain ⟨h1, h0, C', e', fr, h2, h2', h3, h4, h5⟩ := k
    obtain ⟨g1, g0, D', f', gr, g2, g2', g3, g4, g5⟩ := k'
    exact ⟨h1, h0, D', f', gr, g2, g2', g3, fun j hj => (h4 j hj).back hm (g4 j hj), g5⟩
  | map es =>
    obtain ⟨h1, es1, c1, h2, h3, h4⟩ := k
    obtain ⟨g1, es2, c2, g2, g3, g4⟩ := k'
    refine ⟨h1, es2, c2, g2, g3, fun j hj => ?_⟩
    obtain ⟨a1, b1, kv, e1, f1, q1, r1⟩ := h4 j hj
    obtain ⟨a2, b2, kv2, e2, f2, q2, r2⟩ := g4 j hj
    rw [e1] at e2; cases e2
    exact ⟨a2, b2, kv, e1, f2, q1, r1.back hm r2⟩
  | iter s p => exact k'
  | dead => trivial

section
variable {P : Program} {w0 : Ctx}

/-- The relation at an earlier point of a stretch that only grows, behind a step that left its blocks alone or has told them anew. -/
theorem HR.keep {μ ν : Mp} {h h' : AH} {w w' : World} (H : HR w0 μ h w) (hle : μ.le ν) (H' : HR w0 ν h' w') (hp : ∀ i l b, μ i = some l → h[i]? = some b → h'[i]? = some b) : HR w0 μ h w' := by
  refine ⟨H'.below, fun i l hi => ⟨(H.dom i l hi).1, (H'.dom i l (hle i l hi)).2⟩, fun i l b hi hb => ?_, H.own, H.one⟩
  exact (H.obj i l b hi hb).back hle (H'.obj i l b (hle i l hi) (hp i l b hi hb))

/-- What is known in the middle of a region. -/
structure Inv (P : Program) (w0 : Ctx) (call : Call) (ops : Array Oper) (n : Nat) (S : Nat → Slots) (H : Nat → AH) (V : Nat → Value) (μ0 : Mp) (ww : World) (L : Nat → Prop) (lo hi : Nat) (μ : Mp) (a : Act) (w : World) : Prop where
  closed : ClosedL ops L
  lohi : lo ≤ hi
  hin : hi ≤ ops.size
  grow : ∀ k, lo ≤ k → k < hi → H k <+: H (k + 1)
  stop : hi < ops.size → ¬ (H hi <+: H (hi + 1))
  start : 0 < lo → ¬ (H (lo - 1) <+: H lo)
  below : ∀ (j : Nat) (o : Oper), j < lo → ops[j]? = some o → wantedA ops o (S j) = true → calm o.op = false → isLoad o.op = false → L j
  above : ∀ (j : Nat) (o : Oper), hi ≤ j → ops[j]? = some o → wantedA ops o (S j) = true → calm o.op = false → isLoad o.op = false → ¬ L j
  len : ∀ k k', k ≤ k' → k' ≤ hi → (H k).length ≤ (H k').length
  dead : ∀ k, k ≤ hi → ∀ i : Nat, (H 0)[i]? = some .dead → (H k)[i]? = some .dead
  hr : ∀ k, lo ≤ k → k ≤ hi → HR w0 (μ.cut (H k).length) (H k) w
  dom : ∀ i l, μ i = some l → i < (H hi).length
  new : ∀ q l, μ q = some l → (H lo).length ≤ q → ∃ j, L j ∧ lo ≤ j ∧ j < hi ∧ (H j).length ≤ q ∧ q < (H (j + 1)).length
  slot : ∀ t, (∃ j o, L j ∧ ops[j]? = some o ∧ o.dst = some t ∧ (∀ j' o', L j' → ops[j']? = some o' → o'.dst = some t → j' ≤ j) ∧ VR (μ.cut (H (max lo (min (j + 1) hi))).length) (V j) (a.tmps.getD t undef)) ∨
    ((∀ j o, L j → ops[j]? = some o → o.dst ≠ some t) ∧ VR (μ.cut (H 0).length) (S 0 t) (a.tmps.getD t undef))
  size : n ≤ a.tmps.size
  defers : a.defers = []
  le : μ0.le μ
  wsize : ww.heap.size ≤ w.heap.size
  leaves : Leaves μ0 (H 0) ww w
  fresh : Fresh μ0 μ (H 0) ww

variable {call : Call} {ops : Array Oper} {n : Nat} {S : Nat → Slots} {H : Nat → AH} {V : Nat → Value} {μ0 : Mp} {ww : World} {L : Nat → Prop} {lo hi : Nat} {μ : Mp} {a : Act} {w : World}

theorem run_sub {k m : Nat} (g : ∀ k, lo ≤ k → k < hi → H k <+: H (k + 1)) (h1 : lo ≤ k) (h2 : k ≤ m) (h3 : m ≤ hi) : H k <+: H m := by
  induction m with
  | zero => have : k = 0 := by omega
            subst this; exact List.prefix_refl _
  | succ m ih =>
    by_cases hk : k = m + 1
    · subst hk; exact List.prefix_refl _
    · exact (ih (by omega) (by omega)).trans (g m (by omega) (by omega))

/-- The slots in the text's own order: the last writer ahead, or what was there. -/
theorem tr_slot (T : Tr P call ops 0 {} S H V) (t : Nat) : ∀ i, i ≤ ops.size → (∃ j o, j < i ∧ ops[j]? = some o ∧ o.dst = some t ∧ (∀ j' o', j' < i → ops[j']? = some o' → o'.dst = some t → j' ≤ j) ∧ S i t = V j) ∨
    ((∀ j o, j < i → ops[j]? = some o → o.dst ≠ some t) ∧ S i t = S 0 t)
  | 0, _ => .inr ⟨fun j o hj => absurd hj (by omega), rfl⟩
  | i + 1, hi => by
    have ho : ops[i]? = some ops[i] := Array.getElem?_eq_getElem (by omega)
    have hp := T.put i _ (Nat.zero_le _) ho
    by_cases hd : (ops[i]).dst = some t
    · refine .inl ⟨i, _, by omega, ho, hd, fun j' o' hj' _ _ => by omega, ?_⟩
      rw [hp, hd]; simp [Slots.put, Slots.set]
    · have hS : S (i + 1) t = S i t := by
        rw [hp]
        cases hq : (ops[i]).dst with
        | none => rfl
        | some d =>
          simp only [Slots.put, Slots.set]
          rw [if_neg (by rintro rfl; exact hd hq)]
      rcases tr_slot T t i (by omega) with ⟨j, o, h1, h2, h3, h4, h5⟩ | ⟨h1, h2⟩
      · refine .inl ⟨j, o, by omega, h2, h3, fun j' o' hj' ho' hd' => ?_, by rw [hS]; exact h5⟩
        by_cases hji : j' = i
        · subst hji; rw [ho] at ho'; cases ho'; exact absurd hd' hd
        · exact h4 j' o' (by omega) ho' hd'
      · refine .inr ⟨fun j o hj ho' hd' => ?_, by rw [hS]; exact h2⟩
        by_cases hji : j = i
        · subst hji; rw [ho] at ho'; cases ho'; exact hd hd'
        · exact h1 j o (by omega) ho' hd'

/-- An operation that is ready reads what it reads in the text's own order. -/
theorem Inv.reads (O : Orderly ops) (T : Tr P call ops 0 {} S H V) (I : Inv P w0 call ops n S H V μ0 ww L lo hi μ a w) {i : Nat} {o : Oper} (ho : ops[i]? = some o) (hni : ¬ L i) (hr : ∀ e ∈ o.after, Region.binds .any e = true → L e.on)
    {t : Nat} (ht : t ∈ o.looksAt ops) : VR (μ.cut (H (max lo (min i hi))).length) (S i t) (a.tmps.getD t undef) := by
  have hin : i < ops.size := (Array.getElem?_eq_some_iff.1 ho).1
  -- a writer of t is listed just if it stands ahead in the text
  have wr : ∀ (j : Nat) (p : Oper), ops[j]? = some p → p.dst = some t → j ≠ i → (L j ↔ j < i) := by
    intro j p hp hd hji
    constructor
    · intro hj
      rcases Nat.lt_trichotomy j i with h | h | h
      · exact h
      · exact absurd h hji
      · rcases O.apart i j o p ho hp h with hb | hap
        · exact absurd (bef_closed I.closed hb hj) hni
        · exact absurd ht ((Oper.apart_spec hap).2.2 t hd)
    · intro h
      rcases O.apart j i p o hp ho h with hb | hap
      · exact bef_ready I.closed ho hr hb
      · exact absurd ht ((Oper.apart_spec hap).1 t hd)
  rcases tr_slot T t i (by omega) with ⟨j, p, h1, h2, h3, h4, h5⟩ | ⟨h1, h2⟩
  · have hj : L j := (wr j p h2 h3 (by omega)).2 h1
    rcases I.slot t with ⟨j2, p2, g1, g2, g3, g4, g5⟩ | ⟨g1, -⟩
    · have hj2 : j2 ≠ i := by rintro rfl; exact hni g1
      have e1 := h4 j2 p2 ((wr j2 p2 g2 g3 hj2).1 g1) g2 g3
      have e2 := g4 j p hj h2 h3
      have : j2 = j := by omega
      subst this
      rw [h5]
      exact g5.mono (cut_mono (Mp.le_refl _) (I.len _ _ (by have := I.lohi; omega) (by have := I.lohi; omega)))
    · exact absurd h3 (g1 j p hj h2)
  · rcases I.slot t with ⟨j2, p2, g1, g2, g3, g4, g5⟩ | ⟨-, g2⟩
    · have hj2 : j2 ≠ i := by rintro rfl; exact hni g1
      exact absurd g3 (h1 j2 p2 ((wr j2 p2 g2 g3 hj2).1 g1) g2)
    · rw [h2]
      exact g2.mono (cut_mono (Mp.le_refl _) (I.len _ _ (by omega) (by have := I.lohi; omega)))

/-- The slots behind a step. -/
theorem slots_step (O : Orderly ops) (I : Inv P w0 call ops n S H V μ0 ww L lo hi μ a w) {i : Nat} {o : Oper} (ho : ops[i]? = some o) (hni : ¬ L i) (hd : ∀ d, o.dst = some d → d < n)
    {ν : Mp} {lo' hi' : Nat} (hle : ∀ m, (μ.cut m).le (ν.cut m)) (hlen : ∀ k k', k ≤ k' → k' ≤ hi' → (H k).length ≤ (H k').length) (hhi : hi ≤ hi') (hll : lo ≤ lo') (hlh : lo' ≤ hi') {v' : Value} (hv : VR (ν.cut (H (max lo' (min (i + 1) hi'))).length) (V i) v') :
    ∀ t, (∃ j o, (L j ∨ j = i) ∧ ops[j]? = some o ∧ o.dst = some t ∧ (∀ j' o', (L j' ∨ j' = i) → ops[j']? = some o' → o'.dst = some t → j' ≤ j) ∧ VR (ν.cut (H (max lo' (min (j + 1) hi'))).length) (V j) ((a.put (ops[i]?.bind (·.dst)) v').tmps.getD t undef)) ∨
    ((∀ j o, (L j ∨ j = i) → ops[j]? = some o → o.dst ≠ some t) ∧ VR (ν.cut (H 0).length) (S 0 t) ((a.put (ops[i]?.bind (·.dst)) v').tmps.getD t undef)) := by
  intro t
  rw [ho]
  simp only [Option.bind_some]
  by_cases hdt : o.dst = some t
  · refine .inl ⟨i, o, .inr rfl, ho, hdt, ?_, ?_⟩
    · rintro j' o' (hj' | rfl) ho' hd'
      · rcases Nat.lt_or_ge i j' with h | h
        · exfalso
          rcases O.apart i j' o o' ho ho' h with hb | hap
          · exact hni (bef_closed I.closed hb hj')
          · exact (Oper.apart_spec hap).2.1 t hdt hd'
        · exact h
      · exact Nat.le_refl _
    · rw [hdt]
      simp only [Act.put]
      rw [getD_put (Nat.lt_of_lt_of_le (hd t hdt) I.size), if_pos rfl]
      exact hv
  · have hsame : (a.put o.dst v').tmps.getD t undef = a.tmps.getD t undef := by
      cases hq : o.dst with
      | none => rfl
      | some d =>
        simp only [Act.put]
        rw [getD_put (Nat.lt_of_lt_of_le (hd d hq) I.size), if_neg (by rintro rfl; exact hdt hq)]
    rw [hsame]
    rcases I.slot t with ⟨j, p, g1, g2, g3, g4, g5⟩ | ⟨g1, g2⟩
    · refine .inl ⟨j, p, .inl g1, g2, g3, ?_, (g5.mono (hle _)).mono (cut_mono (Mp.le_refl _) (hlen _ _ (by omega) (by omega)))⟩
      rintro j' o' (hj' | rfl) ho' hd'
      · exact g4 j' o' hj' ho' hd'
      · rw [ho] at ho'; cases ho'; exact absurd hd' hdt
    · refine .inr ⟨?_, g2.mono (hle _)⟩
      rintro j o' (hj | rfl) ho' hd'
      · exact g1 j o' hj ho' hd'
      · rw [ho] at ho'; cases ho'; exact hdt hd'

theorem calm_any {o : Op} (hcalm : calm o = true) {s : Slots} {h h' : AH} {v : Value} (e : opA P call o s h = some (v, h')) : h' = h := by
  cases o with
  | call c =>
    obtain ⟨cl, args, ts⟩ := c
    cases cl with
    | builtin b =>
      cases b <;> first
        | (cases hcalm; done)
        | (simp only [opA, builtinA, Option.map_eq_some_iff, Prod.mk.injEq] at e; obtain ⟨_, _, _, rfl⟩ := e; rfl)
    | _ => cases hcalm
  | makeFunc fn p q => cases fn <;> simp only [opA, Option.some.injEq, Prod.mk.injEq, reduceCtorEq] at e; exact e.2.symm
  | _ => first
    | (cases hcalm; done)
    | (simp only [opA, Option.some.injEq, Prod.mk.injEq] at e; exact e.2.symm)
    | (simp only [opA, Option.map_eq_some_iff, Prod.mk.injEq] at e; obtain ⟨_, _, _, rfl⟩ := e; rfl)
    | (simp only [opA] at e; split at e <;> first | (cases e; done) | (cases e; rfl) | (simp only [Option.map_eq_some_iff, Prod.mk.injEq] at e; obtain ⟨_, _, _, rfl⟩ := e; rfl))

theorem next_stop (H : Nat → AH) (N : Nat) : ∀ d lo, lo + d = N → ∃ hi, lo ≤ hi ∧ hi ≤ N ∧ (∀ k, lo ≤ k → k < hi → H k <+: H (k + 1)) ∧ (hi < N → ¬ (H hi <+: H (hi + 1)))
  | 0, lo, h => ⟨lo, Nat.le_refl _, by omega, fun k h1 h2 => by omega, fun h1 => by omega⟩
  | d + 1, lo, h => by
    by_cases hp : H lo <+: H (lo + 1)
    · obtain ⟨hi, h1, h2, h3, h4⟩ := next_stop H N d (lo + 1) (by omega)
      refine ⟨hi, by omega, h2, fun k g1 g2 => ?_, h4⟩
      by_cases hk : k = lo
      · subst hk; exact hp
      · exact h3 k (by omega) g2
    · exact ⟨lo, Nat.le_refl _, by omega, fun k h1 h2 => by omega, fun _ => hp⟩

theorem HR.longer {h h' : AH} (X : HR w0 μ h w) (hp : h <+: h') : HR w0 μ h' w := by
  refine ⟨X.below, fun i l hi => ⟨by have := (X.dom i l hi).1; have := prefix_len hp; omega, (X.dom i l hi).2⟩, fun i l b hi hb => ?_, X.own, ?_⟩
  · rw [prefix_get hp (X.dom i l hi).1] at hb; exact X.obj i l b hi hb
  · intro i j l k hi hj hlk hr hdi hdj
    rw [prefix_get hp (X.dom i l hi).1] at hdi
    rw [prefix_get hp (X.dom j k hj).1] at hdj
    exact X.one i j l k hi hj hlk hr hdi hdj

/-- What new blocks the whole region has, behind one more step. -/
theorem fresh_step {A : Nat} {hA : AH} {ν : Mp} {h0 : AH} (F : Fresh μ0 μ h0 ww) (hw : ww.heap.size ≤ w.heap.size) (hd : ∀ i : Nat, h0[i]? = some .dead → hA[i]? = some .dead) (h0A : h0.length ≤ hA.length) (F' : Fresh (μ.cut A) ν hA w) : Fresh μ0 ν h0 ww := by
  intro q l hq
  rcases F' q l hq with ⟨h1, h2⟩ | ⟨h1, h2, h3⟩
  · exact F q l (cut_some.1 h2).2
  · refine .inr ⟨by omega, h2, ?_⟩
    rcases h3 with h3 | ⟨j, k, hj, hk, hkb, hdj⟩
    · exact .inl (by omega)
    · rcases F j k (cut_some.1 hj).2 with ⟨g1, g2⟩ | ⟨g1, g2, g3⟩
      · exact .inr ⟨j, k, g2, hk, hkb, fun hh => hdj (hd j hh)⟩
      · rcases g3 with g3 | ⟨p, m, hp, hm, hmb, hdp⟩
        · exact .inl (by omega)
        · exact .inr ⟨p, m, hp, hm, by omega, hdp⟩

theorem leaves_step {A : Nat} {hA : AH} {w' : World} {h0 : AH} (Lv : Leaves μ0 h0 ww w) (F : Fresh μ0 μ h0 ww) (hw : ww.heap.size ≤ w.heap.size) (hd : ∀ i : Nat, h0[i]? = some .dead → hA[i]? = some .dead) (Lv' : Leaves (μ.cut A) hA w w') : Leaves μ0 h0 ww w' := by
  intro b hb hl
  rw [Lv' b (by omega) ?_]
  · exact Lv b hb hl
  · intro i l hi hr hlb
    rcases F i l (cut_some.1 hi).2 with ⟨h1, h2⟩ | ⟨h1, h2, h3⟩
    · exact hd i (hl i l h2 hr hlb)
    · rcases h3 with h3 | ⟨j, k, hj, hk, hkb, hdj⟩
      · omega
      · exact absurd (hl j k hj hk (by omega)) hdj

end
end Go.AM
