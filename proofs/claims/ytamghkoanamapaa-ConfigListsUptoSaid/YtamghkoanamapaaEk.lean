/- Regions whose order is drawn. No condition. -/
import Derived.Test.YtamghkoanamapaaEj
namespace Go.AM
open Go.RowKit

/-! ### The edges -/

theorem bits_fold (acc : List Nat) (i : Nat) : ∀ (l : List Edge) (s : Nat), (l.foldl (fun s e => if Region.binds .any e then s ||| 2 ^ e.on ||| acc.getD e.on 0 else s) s).testBit i = true →
    s.testBit i = true ∨ ∃ e ∈ l, Region.binds .any e = true ∧ (i = e.on ∨ (acc.getD e.on 0).testBit i = true)
  | [], s, h => .inl h
  | e :: l, s, h => by
    rw [List.foldl_cons] at h
    rcases bits_fold acc i l _ h with h1 | ⟨e', he, hb, hi⟩
    · split at h1
      · rename_i hb
        rw [Nat.testBit_or, Nat.testBit_or, Nat.testBit_two_pow] at h1
        simp only [Bool.or_eq_true, decide_eq_true_eq] at h1
        rcases h1 with (h1 | h1) | h1
        · exact .inl h1
        · exact .inr ⟨e, by simp, hb, .inl h1.symm⟩
        · exact .inr ⟨e, by simp, hb, .inr h1⟩
      · exact .inl h1
    · exact .inr ⟨e', by simp [he], hb, hi⟩

theorem bitsA_spec {acc : List Nat} {o : Oper} {i : Nat} (h : (bitsA acc o).testBit i = true) : ∃ e ∈ o.after, Region.binds .any e = true ∧ (i = e.on ∨ (acc.getD e.on 0).testBit i = true) := by
  rcases bits_fold acc i _ _ h with h1 | ⟨e, he, hb, hi⟩
  · simp at h1
  · exact ⟨e, by simpa using he, hb, hi⟩

theorem befs_ind_aux (R : Nat → Nat → Prop) : ∀ (os : List Oper) (acc : List Nat), (∀ j i, (acc.getD j 0).testBit i = true → R j i) →
    (∀ (j : Nat) (o : Oper), os[j]? = some o → ∀ e ∈ o.after, Region.binds .any e = true → R (acc.length + j) e.on ∧ ∀ i, R e.on i → R (acc.length + j) i) →
    ∀ j i, ((befsA os acc).getD j 0).testBit i = true → R j i
  | [], acc, h, _ => h
  | o :: os, acc, h, g => by
    unfold befsA
    refine befs_ind_aux R os _ ?_ ?_
    · intro j i hb
      rcases Nat.lt_trichotomy j acc.length with hj | hj | hj
      · rw [List.getD_eq_getElem?_getD, List.getElem?_append_left hj, ← List.getD_eq_getElem?_getD] at hb
        exact h j i hb
      · subst hj
        rw [List.getD_eq_getElem?_getD, List.getElem?_append_right (Nat.le_refl _)] at hb
        simp only [Nat.sub_self, List.getElem?_cons_zero, Option.getD_some] at hb
        obtain ⟨e, he, hbd, hi⟩ := bitsA_spec hb
        obtain ⟨g1, g2⟩ := g 0 o rfl e he hbd
        rcases hi with rfl | hi
        · exact g1
        · exact g2 i (h _ _ hi)
      · rw [List.getD_eq_getElem?_getD, List.getElem?_eq_none (by simp; omega)] at hb
        simp at hb
    · intro j p hp e he hb
      have := g (j + 1) p (by simpa using hp) e he hb
      simpa [Nat.add_assoc, Nat.add_comm 1 j] using this

theorem befs_ind (R : Nat → Nat → Prop) {ops : Array Oper} (g : ∀ (j : Nat) (o : Oper), ops[j]? = some o → ∀ e ∈ o.after, Region.binds .any e = true → R j e.on ∧ ∀ i, R e.on i → R j i) :
    ∀ j i, ((befsA ops.toList []).getD j 0).testBit i = true → R j i :=
  befs_ind_aux R ops.toList [] (fun j i h => by simp at h) (fun j o ho => by simpa using g j o (by simpa using ho))

/-- Ahead of j stands i. -/
def Bef (ops : Array Oper) (j i : Nat) : Prop := ((befsA ops.toList []).getD j 0).testBit i = true

structure Orderly (ops : Array Oper) : Prop where
  back : ∀ (j : Nat) (o : Oper), ops[j]? = some o → ∀ e ∈ o.after, Region.binds .any e = true → e.on < j
  apart : ∀ (i j : Nat) (p o : Oper), ops[i]? = some p → ops[j]? = some o → i < j → Bef ops j i ∨ p.apart ops o = true

theorem mem_zipIdx_of {ops : Array Oper} {j : Nat} {o : Oper} (h : ops[j]? = some o) : (o, j) ∈ ops.toList.zipIdx := by
  rw [List.mem_zipIdx_iff_getElem?]; simpa using h

theorem orderly_spec {ops : Array Oper} (h : orderly ops = true) : Orderly ops := by
  unfold orderly at h
  simp only [Bool.and_eq_true, List.all_eq_true, Prod.forall, Bool.or_eq_true, Bool.not_eq_true', decide_eq_true_eq, decide_eq_false_iff_not, Array.all_eq_true_iff_forall_mem] at h
  refine ⟨fun j o ho e he hb => ?_, fun i j p o hp ho hij => ?_⟩
  · rcases h.1 o j (mem_zipIdx_of ho) e he with h1 | h1
    · rw [hb] at h1; cases h1
    · exact h1
  · rcases h.2 o j (mem_zipIdx_of ho) p i (mem_zipIdx_of hp) with (h1 | h1) | h1
    · exact absurd hij h1
    · exact .inl h1
    · exact .inr h1

theorem bef_lt {ops : Array Oper} (O : Orderly ops) {j i : Nat} (h : Bef ops j i) : i < j :=
  befs_ind (fun j i => i < j) (fun j o ho e he hb => ⟨O.back j o ho e he hb, fun _ hi => Nat.lt_trans hi (O.back j o ho e he hb)⟩) j i h

def ClosedL (ops : Array Oper) (L : Nat → Prop) : Prop := ∀ (j : Nat) (o : Oper), ops[j]? = some o → L j → ∀ e ∈ o.after, Region.binds .any e = true → L e.on

theorem bef_closed {ops : Array Oper} {L : Nat → Prop} (hL : ClosedL ops L) {j i : Nat} (h : Bef ops j i) (hj : L j) : L i :=
  befs_ind (fun j i => L j → L i) (fun j o ho e he hb => ⟨fun hj => hL j o ho hj e he hb, fun _ hi hj => hi (hL j o ho hj e he hb)⟩) j i h hj

/-- What stands ahead of an operation that is ready is listed. -/
theorem bef_ready {ops : Array Oper} {L : Nat → Prop} (hL : ClosedL ops L) {j i : Nat} {o : Oper} (ho : ops[j]? = some o) (hr : ∀ e ∈ o.after, Region.binds .any e = true → L e.on) (h : Bef ops j i) : L i :=
  befs_ind (fun j' i => (L j' ∨ j' = j) → L i) (fun j' o' ho' e he hb => by
    have key : (L j' ∨ j' = j) → L e.on := by
      rintro (hj | rfl)
      · exact hL j' o' ho' hj e he hb
      · rw [ho] at ho'; cases ho'; exact hr e he hb
    exact ⟨key, fun _ hi hj => hi (.inl (key hj))⟩) j i h (.inr rfl)

theorem fixedA_spec {ops : Array Oper} {i : Nat} (h : fixedA ops i = true) {j : Nat} {o : Oper} (ho : ops[j]? = some o) (hc : calm o.op = false) (hij : j ≠ i) : Bef ops i j ∨ Bef ops j i := by
  unfold fixedA at h
  simp only [List.all_eq_true, List.mem_range, Bool.or_eq_true, beq_iff_eq] at h
  have hj : j < ops.size := (Array.getElem?_eq_some_iff.1 ho).1
  rcases h j hj with ((h1 | h1) | h1) | h1
  · exact absurd h1 hij
  · rw [ho] at h1; simp [hc] at h1
  · exact .inl h1
  · exact .inr h1

theorem fixedB_spec {ops : Array Oper} {i : Nat} (h : fixedB ops i = true) {j : Nat} {o : Oper} (ho : ops[j]? = some o) (hc : calm o.op = false) (hl : isLoad o.op = false) (hij : j ≠ i) : Bef ops i j ∨ Bef ops j i := by
  unfold fixedB at h
  simp only [List.all_eq_true, List.mem_range, Bool.or_eq_true, beq_iff_eq] at h
  have hj : j < ops.size := (Array.getElem?_eq_some_iff.1 ho).1
  rcases h j hj with ((h1 | h1) | h1) | h1
  · exact absurd h1 hij
  · rw [ho] at h1; simp [hc, hl] at h1
  · exact .inl h1
  · exact .inr h1

/-! ### The text's own order, step by step -/

structure Tr (P : Program) (call : Call) (ops : Array Oper) (from_ : Nat) (st : Past) (S : Nat → Slots) (H : Nat → AH) (V : Nat → Value) : Prop where
  step : ∀ (i : Nat) (o : Oper), from_ ≤ i → ops[i]? = some o →
    (wantedA ops o (S i) = true ∧ opA P call o.op (S i) (H i) = some (V i, H (i + 1)) ∧ (H i <+: H (i + 1) ∨ fixedA ops i = true ∨ (isCall o.op = true ∧ fixedB ops i = true))) ∨
    (wantedA ops o (S i) = false ∧ V i = undef ∧ H (i + 1) = H i)
  put : ∀ (i : Nat) (o : Oper), from_ ≤ i → ops[i]? = some o → S (i + 1) = (S i).put o.dst (V i)
  lds : ∀ q ∈ st.lds, ∀ (m : Nat) (p : Oper), from_ ≤ m → ops[m]? = some p → wantedA ops p (S m) = true → H m <+: H (m + 1) ∨ fixedA ops m = true ∨ befB ops q.1 m = true ∨ loadA P (H (m + 1)) q.2.1 q.2.2.1 = some q.2.2.2
  cls : ∀ g ∈ st.cls, ∀ (j : Nat) (p : Oper) (t : TypeId) (x : Operand), from_ ≤ j → ops[j]? = some p → p.op = .load t x → wantedA ops p (S j) = true → befB ops g.1 j = true ∨ loadA P g.2 t (ev (S j) x) = some (V j)
  pairL : ∀ (j m : Nat) (p p' : Oper) (t : TypeId) (x : Operand), from_ ≤ j → j < m → ops[j]? = some p → p.op = .load t x → wantedA ops p (S j) = true → ops[m]? = some p' → wantedA ops p' (S m) = true →
    H m <+: H (m + 1) ∨ fixedA ops m = true ∨ befB ops j m = true ∨ loadA P (H (m + 1)) t (ev (S j) x) = some (V j)
  pairC : ∀ (m j : Nat) (p p' : Oper) (t : TypeId) (x : Operand), from_ ≤ m → m < j → ops[m]? = some p → isCall p.op = true → wantedA ops p (S m) = true → ops[j]? = some p' → p'.op = .load t x → wantedA ops p' (S j) = true →
    befB ops m j = true ∨ loadA P (H m) t (ev (S j) x) = some (V j)

/-- One more step ahead of what is told. -/
theorem Tr.cons {P : Program} {call : Call} {ops : Array Oper} {i : Nat} {o : Oper} (hi : ops[i]? = some o) {st st' : Past} {s : Slots} {h : AH} {v : Value} {S : Nat → Slots} {H : Nat → AH} {V : Nat → Value}
    (T : Tr P call ops (i + 1) st' S H V) (hS : S (i + 1) = s.put o.dst v) (h1 : ∀ q ∈ st.lds, q ∈ st'.lds) (h2 : ∀ q ∈ st.cls, q ∈ st'.cls)
    (hstep : (wantedA ops o s = true ∧ opA P call o.op s h = some (v, H (i + 1)) ∧ (h <+: H (i + 1) ∨ fixedA ops i = true ∨ (isCall o.op = true ∧ fixedB ops i = true))) ∨ (wantedA ops o s = false ∧ v = undef ∧ H (i + 1) = h))
    (hl : wantedA ops o s = true → ∀ q ∈ st.lds, h <+: H (i + 1) ∨ fixedA ops i = true ∨ befB ops q.1 i = true ∨ loadA P (H (i + 1)) q.2.1 q.2.2.1 = some q.2.2.2)
    (hc : wantedA ops o s = true → ∀ t x, o.op = .load t x → ∀ g ∈ st.cls, befB ops g.1 i = true ∨ loadA P g.2 t (ev s x) = some v)
    (hnl : wantedA ops o s = true → ∀ t x, o.op = .load t x → (i, t, ev s x, v) ∈ st'.lds) (hnc : wantedA ops o s = true → isCall o.op = true → (i, h) ∈ st'.cls) :
    Tr P call ops i st (fun j => if j = i then s else S j) (fun j => if j = i then h else H j) (fun j => if j = i then v else V j) := by
  have e1 : (if i + 1 = i then s else S (i + 1)) = S (i + 1) := if_neg (by omega)
  have e2 : (if i + 1 = i then h else H (i + 1)) = H (i + 1) := if_neg (by omega)
  refine ⟨?_, ?_, ?_, ?_, ?_, ?_⟩
  · intro j p hj hp
    by_cases hji : j = i
    · subst hji
      rw [hi] at hp; cases hp
      simp only [if_true, e2]
      exact hstep
    · simp only [if_neg hji, if_neg (show ¬ j + 1 = i by omega)]
      exact T.step j p (by omega) hp
  · intro j p hj hp
    by_cases hji : j = i
    · subst hji
      rw [hi] at hp; cases hp
      simp only [if_true, e1]
      exact hS
    · simp only [if_neg hji, if_neg (show ¬ j + 1 = i by omega)]
      exact T.put j p (by omega) hp
  · intro q hq m p hm hp hw
    by_cases hmi : m = i
    · subst hmi
      rw [hi] at hp; cases hp
      simp only [if_true, e2] at hw ⊢
      exact hl hw q hq
    · simp only [if_neg hmi, if_neg (show ¬ m + 1 = i by omega)] at hw ⊢
      exact T.lds q (h1 q hq) m p (by omega) hp hw
  · intro g hg j p t x hj hp hop hw
    by_cases hji : j = i
    · subst hji
      rw [hi] at hp; cases hp
      simp only [if_true] at hw ⊢
      exact hc hw t x hop g hg
    · simp only [if_neg hji] at hw ⊢
      exact T.cls g (h2 g hg) j p t x (by omega) hp hop hw
  · intro j m p p' t x hj hjm hp hop hw hp' hw'
    have hmi : m ≠ i := by omega
    simp only [if_neg hmi, if_neg (show ¬ m + 1 = i by omega)] at hw' ⊢
    by_cases hji : j = i
    · subst hji
      rw [hi] at hp; cases hp
      simp only [if_true] at hw ⊢
      exact T.lds _ (hnl hw t x hop) m p' (by omega) hp' hw'
    · simp only [if_neg hji] at hw ⊢
      exact T.pairL j m p p' t x (by omega) hjm hp hop hw hp' hw'
  · intro m j p p' t x hm hmj hp hcl hw hp' hop hw'
    have hji : j ≠ i := by omega
    simp only [if_neg hji] at hw' ⊢
    by_cases hmi : m = i
    · subst hmi
      rw [hi] at hp; cases hp
      simp only [if_true] at hw ⊢
      exact T.cls _ (hnc hw hcl) j p' t x (by omega) hp' hop hw'
    · simp only [if_neg hmi] at hw ⊢
      exact T.pairC m j p p' t x (by omega) hmj hp hcl hw hp' hop hw'

theorem next_lds {st : Past} {i : Nat} {o : Op} {s : Slots} {h : AH} {v : Value} : ∀ q ∈ st.lds, q ∈ (st.next i o s h v).lds := by
  intro q hq
  unfold Past.next
  split
  · exact List.mem_cons_of_mem _ hq
  · exact hq
  · exact hq
  · exact hq
theorem next_cls {st : Past} {i : Nat} {o : Op} {s : Slots} {h : AH} {v : Value} : ∀ q ∈ st.cls, q ∈ (st.next i o s h v).cls := by
  intro q hq
  unfold Past.next
  split
  · exact hq
  · exact List.mem_cons_of_mem _ hq
  · exact List.mem_cons_of_mem _ hq
  · exact hq

theorem tr_of {P : Program} {call : Call} {ops : Array Oper} : ∀ (l : List Oper) (st : Past) (i : Nat) (_ : ops.toList.drop i = l) (s : Slots) (h : AH) {s' : Slots} {h' : AH},
    runOps P call ops true st l i s h = some (s', h') → ∃ S H V, Tr P call ops i st S H V ∧ S i = s ∧ H i = h ∧ S (i + l.length) = s' ∧ H (i + l.length) = h'
  | [], st, i, hl, s, h, s', h', e => by
    simp only [runOps, Option.some.injEq, Prod.mk.injEq] at e
    obtain ⟨rfl, rfl⟩ := e
    have hle : ops.size ≤ i := by simpa using hl
    have no : ∀ (j : Nat) (o : Oper), i ≤ j → ops[j]? = some o → False := fun j o hj ho => by
      rw [Array.getElem?_eq_none (by omega)] at ho; cases ho
    exact ⟨fun _ => s, fun _ => h, fun _ => undef, ⟨fun j o hj ho => (no j o hj ho).elim, fun j o hj ho => (no j o hj ho).elim, fun _ _ j o hj ho => (no j o hj ho).elim, fun _ _ j o _ _ hj ho => (no j o hj ho).elim,
      fun j m p _ _ _ hj _ hp => (no j p hj hp).elim, fun m j p _ _ _ hm _ hp => (no m p hm hp).elim⟩, rfl, rfl, rfl, rfl⟩
  | o :: l, st, i, hl, s, h, s', h', e => by
    have hi : ops[i]? = some o := by
      have := congrArg (·[0]?) hl
      simpa [List.getElem?_drop] using this
    have hl' : ops.toList.drop (i + 1) = l := by
      have := congrArg (List.drop 1) hl
      simpa [List.drop_drop] using this
    unfold runOps at e
    by_cases hwa : wantedA ops o s = true
    · rw [if_pos hwa, Option.bind_eq_some_iff] at e
      obtain ⟨⟨v, h1⟩, he, e⟩ := e
      simp only at e
      split at e
      · rename_i hg
        obtain ⟨hg1, hg2⟩ := hg rfl
        obtain ⟨S, H, V, T, hS, hH, hS', hH'⟩ := tr_of l _ (i + 1) hl' _ _ e
        refine ⟨_, _, _, T.cons hi (st := st) (s := s) (h := h) (v := v) hS next_lds next_cls (.inl ⟨hwa, by rw [hH]; exact he, ?_⟩) (fun _ q hq => ?_) (fun _ t x hop g hgm => ?_) (fun _ t x hop => ?_) (fun _ hcl => ?_), if_pos rfl, if_pos rfl, ?_, ?_⟩
        · rw [hH]
          rcases hg1 with g | g | g
          · exact .inl g
          · exact .inr (.inl g)
          · exact .inr (.inr ⟨g.1, g.2.1⟩)
        · rw [hH]
          rcases hg1 with g | g | g
          · exact .inl g
          · exact .inr (.inl g)
          · exact .inr (.inr (g.2.2 q hq))
        · rw [hop] at hg2
          exact hg2 g hgm
        · rw [hop]; exact List.mem_cons_self ..
        · unfold isCall at hcl
          split at hcl
          · rename_i hop
            rw [hop]
            exact List.mem_cons_self ..
          · rename_i hop
            rw [hop]
            exact List.mem_cons_self ..
          · cases hcl
        · simp only [List.length_cons]
          rw [if_neg (by omega), ← hS']; congr 1; omega
        · simp only [List.length_cons]
          rw [if_neg (by omega), ← hH']; congr 1; omega
      · cases e
    · rw [if_neg hwa] at e
      obtain ⟨S, H, V, T, hS, hH, hS', hH'⟩ := tr_of l _ (i + 1) hl' _ _ e
      refine ⟨_, _, _, T.cons hi (st := st) (s := s) (h := h) (v := undef) hS (fun _ q => q) (fun _ q => q) (.inr ⟨by simpa using hwa, rfl, hH⟩) (fun g => absurd g hwa) (fun g => absurd g hwa) (fun g => absurd g hwa) (fun g => absurd g hwa), if_pos rfl, if_pos rfl, ?_, ?_⟩
      · simp only [List.length_cons]
        rw [if_neg (by omega), ← hS']; congr 1; omega
      · simp only [List.length_cons]
        rw [if_neg (by omega), ← hH']; congr 1; omega

end Go.AM
