/- Slicing, append, copy, an iterator over a string, against the machine's own. No condition. -/
import Derived.Test.YtamghkoanamapaaEf
namespace Go.AM
open Go.RowKit

section
variable {P : Program} {w0 : Ctx} {μ : Mp} {h : AH} {w : World}

/-- An operand that may be missing. -/
def OV (μ : Mp) (x x' : Option Value) : Prop := (∀ v, x = some v → ∃ v', x' = some v' ∧ VR μ v v') ∧ (x = none → x' = none)

theorem boundA_le {x : Option Value} {d top n : Nat} (hd : d ≤ top) (e : boundA x d top = some n) : n ≤ top := by
  unfold boundA at e
  split at e
  · cases e; exact hd
  · split at e
    · cases e; omega
    · cases e
  · cases e

theorem sliceA_ok (hszs : ∀ t n, sizeA P t = some n → w0.sz t = n) (H : HR w0 μ h w) {t : TypeId} {x x' v : Value} {lo lo' up up' mx mx' : Option Value} (hx : VR μ x x') (hlo : OV μ lo lo') (hup : OV μ up up') (hmx : OV μ mx mx')
    (e : sliceA P h t x lo up mx = some v) : ∃ v', (Instr.sliceAt t x' lo' up' mx').run P w = .ok v' w ∧ VR μ v v' := by
  unfold sliceA at e
  split at e
  · rename_i s hu
    have := hx.string_inv; subst this
    cases mx with
    | some m => simp at e
    | none =>
      have := hmx.2 rfl; subst this
      simp only [Option.isSome_none, Bool.false_eq_true, if_false, Option.bind_eq_some_iff, Option.map_eq_some_iff] at e
      obtain ⟨r, hr, l, hl, rfl⟩ := e
      have hb := run_sliceBounds (P := P) (w := w) (μ := μ) (b := false) (n := s.size) (c := s.size) (c' := s.size) hlo.1 hlo.2 hup.1 hup.2 hmx.1 hmx.2 (Nat.le_refl _) (m := s.size) rfl hr hl (by simp)
      refine ⟨_, ?_, .string _⟩
      simp [Instr.sliceAt, Instr.slice, r_und hu, hb]
  · rename_i el n c hu
    split at e
    · rename_i hc
      obtain ⟨rfl, rfl, rfl⟩ := hc
      have := hmx.2 rfl; subst this
      simp only [Option.bind_eq_some_iff, Option.map_eq_some_iff] at e
      obtain ⟨r, hr, l, hl, k, hk, rfl⟩ := e
      have hb := run_sliceBounds (P := P) (w := w) (μ := μ) (b := true) (n := 0) (c := 0) (c' := 0) hlo.1 hlo.2 hup.1 hup.2 hmx.1 hmx.2 (Nat.le_refl _) (m := 0) rfl hr hl (by simp)
      have hr0 : r = 0 := by have := boundA_le (Nat.le_refl _) hr; omega
      subst hr0
      have hl0 : l = 0 := by have := boundA_le (Nat.le_refl _) hl; omega
      subst hl0
      cases hx
      exact ⟨.slice none 0 0, by simp [Instr.sliceAt, Instr.slice, r_und hu, hb, r_size hk], .slice0 _ _⟩
    · cases e
  · rename_i el i o n c hu
    simp only [Option.bind_eq_some_iff] at e
    obtain ⟨m, hm, r, hr, l, hl, k, hk, e⟩ := e
    split at e
    · cases e
    · rename_i hms
      split at e
      · cases e
      rename_i hrm
      split at e
      · cases e
      rename_i hfit
      have hlr := boundA_le (Nat.zero_le _) hl
      obtain ⟨lc, c', hi, rfl, hcc, hc0, hro, hnn⟩ := hx.slice_inv
      have hb := run_sliceBounds (P := P) (w := w) (μ := μ) (b := true) (n := n) (c := c) (c' := c') hlo.1 hlo.2 hup.1 hup.2 hmx.1 hmx.2 hcc hm hr hl hms
      have hmc : mx = none → m = c := by rintro rfl; simp [boundA] at hm; exact hm.symm
      obtain ⟨q, hq⟩ : ∃ q, q = (if mx = none then c' else m) := ⟨_, rfl⟩
      rw [← hq] at hb
      have hrun : (Instr.sliceAt t (.slice (some ⟨lc.b, lc.base + o, none⟩) n c') lo' up' mx').run P w = .ok (.slice (some (if q = l then ⟨lc.b, lc.base + o, none⟩ else ⟨lc.b, lc.base + o + l * k, none⟩)) (r - l) (q - l)) w := by
        simp only [Instr.sliceAt, Instr.slice, Sem.run_bind, r_und hu, Result.andThen_ok, hb, r_size hk, Option.map_some, addr_add]
        split <;> rfl
      have hmq : m ≤ q := by
        rw [hq]; split
        · rename_i hn; have := hmc hn; omega
        · omega
      refine ⟨_, hrun, ?_⟩
      by_cases hml : m = l
      · rw [if_pos hml] at e
        have hrl : r = l := by
          omega
        subst hrl
        split at e
        · rename_i hex
          cases e
          have hqm : q = r := by
            rw [hq]
            split
            · rename_i hn
              have hmc' := hmc hn
              rcases hex with h1 | h1 | h1
              · rw [hn] at h1; cases h1
              · have := hc0 h1; omega
              · have : lc.ro = true := by
                  unfold roAt at h1
                  split at h1
                  · rename_i C et ro hC
                    have := (H.row hi hC).1; rw [← this]; exact h1
                  · cases h1
                have := hro this; omega
            · exact hml
          rw [if_pos hqm, hqm, Nat.sub_self]
          exact .empty hi
        · cases e
          simp only [Nat.sub_self]
          exact .vague
      · rw [if_neg hml] at e
        cases e
        have hlm : l < m := by omega
        rw [if_neg (by omega), Nat.add_assoc]
        have hro' : lc.ro = true → q = m := fun hr' => by
          have := hro hr'
          rw [hq]; split
          · rename_i hn; have := hmc hn; omega
          · rfl
        refine .slice hi (by omega) (by omega) (fun hr' => by have := hro' hr'; omega) ?_
        by_cases hqm : q = m
        · left; omega
        · right
          have hcq : q = c' := by
            rw [hq] at hqm ⊢
            split
            · rfl
            · rename_i hn; rw [if_neg hn] at hqm; exact absurd rfl hqm
          have hmx' : mx = none := by
            cases mx with
            | none => rfl
            | some x => rw [hq] at hqm; simp at hqm
          have hmcc := hmc hmx'
          rcases hnn with h1 | h1
          · omega
          · have hk' : lc.k = k := by
              have hf : fits h i el = true := by simpa using hfit
              unfold fits at hf
              split at hf
              · rename_i C et ro hC
                obtain ⟨hr1, hr2, -⟩ := H.row hi hC
                cases ro with
                | true => have := hro' hr1.symm; exact absurd this hqm
                | false =>
                  have het : et = el := by simpa using hf
                  rw [(H.own i lc hi hr1.symm).2, ← hr2 rfl, het]
                  exact hszs _ _ hk
              · cases hf
            rw [hk', ← hcq] at h1
            have : l * k + (q - l) * k = q * k := by rw [← Nat.add_mul]; congr 1; omega
            rw [hk']
            omega
  · rename_i n el i o hu
    cases mx with
    | some m => simp at e
    | none =>
      have := hmx.2 rfl; subst this
      simp only [Option.isSome_none, Bool.false_eq_true, if_false, Option.bind_eq_some_iff] at e
      obtain ⟨r, hr, l, hl, k, hk, e⟩ := e
      have hlr := boundA_le (Nat.zero_le _) hl
      have hrn := boundA_le (Nat.le_refl _) hr
      split at e
      · cases e
      · rename_i hnl
        cases e
        obtain ⟨lc, hi, rfl⟩ := hx.ptr_inv
        have hb := run_sliceBounds (P := P) (w := w) (μ := μ) (b := false) (n := n) (c := n) (c' := n) hlo.1 hlo.2 hup.1 hup.2 hmx.1 hmx.2 (Nat.le_refl _) (m := n) rfl hr hl (by simp)
        refine ⟨.slice (some ⟨lc.b, lc.base + (o + l * k), none⟩) (r - l) (n - l), ?_, .slice hi (by omega) (Nat.le_refl _) (fun _ => rfl) (.inl rfl)⟩
        simp [Instr.sliceAt, r_und hu, Instr.sureAddr, hb, r_size hk, hnl, addr_add, Nat.add_assoc]
  · cases e

theorem toList_mul_eq {n k : Nat} (h : n * k = 0) (a : Addr) : (loadCells a (n * k)).run P w = .ok #[] w := by rw [h]; rfl

theorem firstA_ok (H : HR w0 μ h w) {k n : Nat} {x x' : Value} {new : List Value} (hx : VR μ x x') (e : firstA h k n x = some new) :
    ∃ new', (∀ w', (∀ a, w'.cell? a = w.cell? a) → (Builtin.firstCells k n x').run P w' = .ok new'.toArray w') ∧ VL μ new new' := by
  unfold firstA at e
  split at e
  · rename_i i o sp l c
    split at e
    · rename_i h0
      cases e
      refine ⟨[], fun w' _ => ?_, .nil⟩
      cases hx <;> (simp only [Builtin.firstCells]; exact toList_mul_eq h0 _)
    · split at e
      · cases e
      · rename_i hsp
        have : sp = none := by simpa using hsp
        subst this
        rw [Option.bind_eq_some_iff] at e
        obtain ⟨C, hC, e⟩ := e
        split at e
        · rename_i hle
          cases e
          obtain ⟨lc, c', hi, rfl, -⟩ := hx.slice_inv
          obtain ⟨cs, h1, h2, h3⟩ := H.cells hi hC o (n * k) hle
          exact ⟨cs, fun w' hw => by simp only [Builtin.firstCells]; exact run_loadCells cs h1 (fun j v hj => by rw [hw]; exact h2 j v hj), h3⟩
        · cases e
  · split at e
    · cases e
      cases hx
      exact ⟨[], fun w' _ => by simp [Builtin.firstCells], .nil⟩
    · cases e
  · cases e

theorem firstA_length {k n : Nat} {x : Value} {new : List Value} (e : firstA h k n x = some new) : new.length = n * k := by
  unfold firstA at e
  split at e
  · split at e
    · rename_i h0; cases e; exact h0.symm
    · split at e
      · cases e
      · rw [Option.bind_eq_some_iff] at e
        obtain ⟨C, hC, e⟩ := e
        split at e
        · cases e; simp; omega
        · cases e
  · split at e
    · rename_i h0; cases e; exact h0.symm
    · cases e
  · cases e

/-- Where the cells lie that are appended. -/
theorem firstA_lies (H : HR w0 μ h w) {k n c m : Nat} {b : Option Addr} {x' : Value} {new : List Value} (hx : VR μ (.slice b m c) x') (e : firstA h k n (.slice b m c) = some new) (h0 : n * k ≠ 0) :
    ∃ xi xo l c' e' C', b = some ⟨xi, xo, none⟩ ∧ μ xi = some l ∧ x' = .slice (some ⟨l.b, l.base + xo, none⟩) m c' ∧ w.shape? l.b = some (e', C') ∧ l.base + xo + n * k ≤ C' ∧ h[xi]? ≠ some .dead ∧ (∃ C t r, h[xi]? = some (.cells C t r)) := by
  unfold firstA at e
  split at e
  · rename_i i o sp q r heq
    simp only [Value.slice.injEq] at heq
    obtain ⟨rfl, rfl, rfl⟩ := heq
    rw [if_neg h0] at e
    split at e
    · cases e
    · rename_i hsp
      have : sp = none := by simpa using hsp
      subst this
      rw [Option.bind_eq_some_iff] at e
      obtain ⟨C, hC, e⟩ := e
      split at e
      · rename_i hle
        obtain ⟨l, c', hi, rfl, -⟩ := hx.slice_inv
        obtain ⟨t, r', hC'⟩ := rowA_some hC
        obtain ⟨-, -, C', e', fr, hw, hn, hs, -⟩ := H.row hi hC'
        exact ⟨i, o, l, c', e', C'.size, rfl, hi, rfl, by simp [World.shape?, hw], by omega, by rw [hC']; simp, C, t, r', hC'⟩
      · cases e
  · rw [if_neg h0] at e; cases e
  · cases e

section
variable {t tx el : TypeId} {i : TypeInfo} {d : TypeDesc}

theorem run_append_room (ht : P.underlying t = some (.slice el)) (hi : P.info? el = some i) (htx : P.underlying tx = some d) (hd : ∀ k, d ≠ .int k) {ty : TypeId} {b : Option Addr} {n c m : Nat} {x : Value} (hlen : Builtin.lenOf x = pure m)
    {new : Array Value} (hn : (Builtin.firstCells i.size m x).run P w = .ok new w) (hroom : n + m ≤ c) {w' : World} (hs : ∀ a, b = some a → (storeCells (a.add (n * i.size)) new.toList).run P w = .ok () w') (hb : b = none → w' = w) :
    (Builtin.append_ #[t, tx] ty #[.slice b n c, x]).run P w = .ok (.slice b (n + m) c) w' := by
  have hz : (match d with | .int _ => true | _ => false) = false := by cases d <;> first | rfl | exact absurd rfl (hd _)
  cases b with
  | none => have := hb rfl; subst this; simp [Builtin.append_, r_und ht, r_und htx, r_size (sizeA_of hi), hlen, hroom, hn]
  | some a => simp [Builtin.append_, r_und ht, r_und htx, r_size (sizeA_of hi), hlen, hroom, hn, hs a rfl]

theorem run_append_grow (ht : P.underlying t = some (.slice el)) (hi : P.info? el = some i) {z : Value} (hz : zeroI i = some z) (htx : P.underlying tx = some d) (hd : ∀ k, d ≠ .int k) (hb : i.bytes ≠ 0) {ty : TypeId} {b : Option Addr} {n c m : Nat} {x : Value} (hlen : Builtin.lenOf x = pure m)
    {new old : Array Value} (hn : (Builtin.firstCells i.size m x).run P w.drew = .ok new w.drew) (ho : (Builtin.firstCells i.size n (.slice b n c)).run P w.drew = .ok old w.drew) (hroom : ¬ n + m ≤ c)
    (hfit : ¬ (Builtin.nextslicecap (n + m) c * i.bytes > 281474976710656)) :
    (Builtin.append_ #[t, tx] ty #[.slice b n c, x]).run P w = .ok (.slice (some ⟨w.heap.size, 0, none⟩) (n + m) (grownCap w (n + m) c el))
      (w.drew.alloc (.cells (old ++ new ++ Builtin.zeroCells z.cells (grownCap w (n + m) c el - (n + m))) el)) := by
  have hzz : (match d with | .int _ => true | _ => false) = false := by cases d <;> first | rfl | exact absurd rfl (hd _)
  have hfit' : ¬ (281474976710656 < Builtin.nextslicecap (n + m) c * i.bytes) := by omega
  have hq : (Question.appendCap (n + m) c el).forced = false := rfl
  simp only [Builtin.append_, Sem.run_bind, Result.andThen_ok, List.getElem?_toArray, List.getElem?_cons_zero, List.getElem?_cons_succ, r_und ht, r_und htx, r_size (sizeA_of hi), r_info hi, hlen, Sem.run_pure, Bool.false_eq_true, if_false, false_or, hb, and_false, Sem.run_ite, if_neg hroom]
  simp [hfit', hq, hn, ho, r_zero (zeroA_of hi hz), newRow, grownCap, run_askRoom]

theorem exec_append {o : Oper} {a : Act} {s x : Operand} (ho : o.op = .call { callee := .builtin .append, args := #[s, x], argTypes := #[t, tx] }) {v : Value} {w' : World}
    (hr : (Builtin.append_ #[t, tx] o.type #[a.eval s, a.eval x]).run P w = .ok v w') : (execOp a.eval o).run P w = .ok (.value v) w' := by
  simp [execOp, ho, resolve, invoke, builtin, hr]

end

end
end Go.AM
