/- How the abstract machine's runs are reckoned: weakest conditions of a code, op by op, for simp. No condition. -/
import Derived.Test.YtamghkoanamapaaEp
namespace Go.AM
open Go.RowKit

section
variable {P : Program} {good : FuncId → Bool}

/-- The code runs, and at its end Q holds. -/
def W (P : Program) (good : FuncId → Bool) (c : Code) (s : Slots) (h : AH) (Q : AExit → Slots → AH → Prop) : Prop := ∃ e s' h', run P good c s h = some (e, s', h') ∧ Q e s' h'

def bindQ {α : Type} (x : Option α) (k : α → Prop) : Prop := ∃ a, x = some a ∧ k a
theorem bindQ_congr {α : Type} {x y : Option α} (k : α → Prop) (h : x = y) : bindQ x k = bindQ y k := by rw [h]
@[simp] theorem bindQ_some {α : Type} {a : α} {k : α → Prop} : bindQ (some a) k = k a := by simp [bindQ]
@[simp] theorem bindQ_none {α : Type} {k : α → Prop} : bindQ none k = False := by simp [bindQ]
theorem bindQ_ite {α : Type} {p : Prop} [Decidable p] {a b : Option α} {k : α → Prop} : bindQ (if p then a else b) k = if p then bindQ a k else bindQ b k := by split <;> rfl

def condQ (v : Value) (p q : Prop) : Prop := match v with | .bool true => p | .bool false => q | _ => False
theorem condQ_congr {v w : Value} (p q : Prop) (h : v = w) : condQ v p q = condQ w p q := by rw [h]
@[simp] theorem condQ_true {p q : Prop} : condQ (.bool true) p q = p := rfl
@[simp] theorem condQ_false {p q : Prop} : condQ (.bool false) p q = q := rfl
theorem condQ_bool {b : Bool} {p q : Prop} : condQ (.bool b) p q = if b = true then p else q := by cases b <;> rfl
@[simp] theorem condQ_decide {r : Prop} [Decidable r] {p q : Prop} : condQ (.bool (decide r)) p q = if r then p else q := by
  by_cases h : r <;> simp [h, condQ]
@[simp] theorem condQ_ndecide {r : Prop} [Decidable r] {p q : Prop} : condQ (.bool (!decide r)) p q = if r then q else p := by
  by_cases h : r <;> simp [h, condQ]

def thenQ (P : Program) (good : FuncId → Bool) (y : Code) (Q : AExit → Slots → AH → Prop) : AExit → Slots → AH → Prop
  | .normal, s, h => W P good y s h Q
  | e, s, h => Q e s h
theorem thenQ_normal {y : Code} {Q : AExit → Slots → AH → Prop} {s : Slots} {h : AH} : thenQ P good y Q .normal s h = W P good y s h Q := rfl
theorem thenQ_ret {y : Code} {Q : AExit → Slots → AH → Prop} {s : Slots} {h : AH} : thenQ P good y Q .ret s h = Q .ret s h := rfl
theorem thenQ_exit {y : Code} {Q : AExit → Slots → AH → Prop} {s : Slots} {h : AH} {id : Nat} : thenQ P good y Q (.exit id) s h = Q (.exit id) s h := rfl

def blockQ (id : Nat) (Q : AExit → Slots → AH → Prop) : AExit → Slots → AH → Prop
  | .exit id', s, h => if id' = id then Q .normal s h else Q (.exit id') s h
  | e, s, h => Q e s h
theorem blockQ_normal {id : Nat} {Q : AExit → Slots → AH → Prop} {s : Slots} {h : AH} : blockQ id Q .normal s h = Q .normal s h := rfl
theorem blockQ_ret {id : Nat} {Q : AExit → Slots → AH → Prop} {s : Slots} {h : AH} : blockQ id Q .ret s h = Q .ret s h := rfl
theorem blockQ_exit {id id' : Nat} {Q : AExit → Slots → AH → Prop} {s : Slots} {h : AH} : blockQ id Q (.exit id') s h = if id' = id then Q .normal s h else Q (.exit id') s h := rfl

variable {s : Slots} {h : AH} {Q : AExit → Slots → AH → Prop}

theorem W_of {c : Code} {e : AExit} {s1 : Slots} {h1 : AH} (hr : run P good c s h = some (e, s1, h1)) : W P good c s h Q = Q e s1 h1 := by
  unfold W
  rw [hr]
  exact propext ⟨fun ⟨_, _, _, q1, q2⟩ => by cases q1; exact q2, fun q => ⟨_, _, _, rfl, q⟩⟩
theorem W_none {c : Code} (hr : run P good c s h = none) : W P good c s h Q = False := by
  unfold W
  rw [hr]
  exact propext ⟨fun ⟨_, _, _, q1, _⟩ => (by cases q1), fun q => False.elim q⟩
theorem W_skip : W P good .skip s h Q = Q .normal s h := W_of run_skip
theorem W_exit {id : Nat} : W P good (.exit id) s h Q = Q (.exit id) s h := W_of run_exit
theorem W_ret : W P good .ret s h Q = Q .ret s h := W_of run_ret
theorem W_seq {x y : Code} : W P good (.seq x y) s h Q = W P good x s h (thenQ P good y Q) := by
  have e := run_seq (P := P) (good := good) (x := x) (y := y) (s := s) (h := h)
  cases hx : run P good x s h with
  | none => rw [hx] at e; rw [W_none hx, W_none e]
  | some r =>
    obtain ⟨ex, s1, h1⟩ := r
    rw [hx] at e
    rw [W_of hx]
    cases ex with
    | normal => unfold thenQ; simp only []; unfold W; rw [e]; rfl
    | exit id => rw [W_of e]; rfl
    | ret => rw [W_of e]; rfl
theorem W_cond {c : Operand} {x y : Code} : W P good (.cond c x y) s h Q = condQ (ev s c) (W P good x s h Q) (W P good y s h Q) := by
  have e := run_cond (P := P) (good := good) (c := c) (x := x) (y := y) (s := s) (h := h)
  unfold condQ
  split
  · rename_i hc; rw [hc] at e; unfold W; rw [e]
  · rename_i hc; rw [hc] at e; unfold W; rw [e]
  · rename_i h1 h2
    refine W_none ?_
    rw [e]
    split
    · exact absurd (by assumption) h1
    · exact absurd (by assumption) h2
    · rfl
theorem W_block {id : Nat} {c : Code} : W P good (.block id c) s h Q = W P good c s h (blockQ id Q) := by
  have e := run_block (P := P) (good := good) (id := id) (c := c) (s := s) (h := h)
  cases hx : run P good c s h with
  | none => rw [hx] at e; rw [W_none hx, W_none e]
  | some r =>
    obtain ⟨ex, s1, h1⟩ := r
    rw [hx] at e
    rw [W_of hx]
    cases ex with
    | normal => rw [W_of e]; rfl
    | exit id' =>
      by_cases hi : id' = id
      · rw [blockQ_exit, if_pos hi]
        refine W_of ?_
        rw [e]; simp [blockA, hi]
      · rw [blockQ_exit, if_neg hi]
        refine W_of ?_
        rw [e]; simp [blockA, hi]
    | ret => rw [W_of e]; rfl
theorem W_loop {c : Code} : W P good (.loop c) s h Q = W P good c s h (thenQ P good (.loop c) Q) := by
  have e := run_loop (P := P) (good := good) (c := c) (s := s) (h := h)
  cases hx : run P good c s h with
  | none => rw [hx] at e; rw [W_none hx, W_none e]
  | some r =>
    obtain ⟨ex, s1, h1⟩ := r
    rw [hx] at e
    rw [W_of hx]
    cases ex with
    | normal => unfold thenQ; simp only []; unfold W; rw [e]; rfl
    | exit id => rw [W_of e]; rfl
    | ret => rw [W_of e]; rfl

theorem W.mono {c : Code} {Q R : AExit → Slots → AH → Prop} (w : W P good c s h Q) (k : ∀ e s' h', Q e s' h' → R e s' h') : W P good c s h R := by
  obtain ⟨e, s', h', h1, h2⟩ := w
  exact ⟨e, s', h', h1, k _ _ _ h2⟩

/-- A loop, by a measure: each round goes down, or leaves. -/
theorem W_loop_ind {c : Code} (I : Nat → Slots → AH → Prop) (step : ∀ k s h, I k s h → W P good c s h (fun e s' h' => match e with | .normal => ∃ k', k' < k ∧ I k' s' h' | e => Q e s' h')) :
    ∀ (k : Nat) (s : Slots) (h : AH), I k s h → W P good (.loop c) s h Q := by
  intro k
  induction k using Nat.strongRecOn with
  | ind k ih =>
    intro s h hi
    rw [W_loop]
    refine (step k s h hi).mono fun e s' h' hq => ?_
    cases e with
    | normal => obtain ⟨k', hk, hI⟩ := hq; exact ih k' hk s' h' hI
    | exit id => exact hq
    | ret => exact hq

/-- A loop over the numbers from i to n: I is the invariant; in the end the loop is left. -/
theorem W_loop_up {c : Code} (n : Nat) (I : Nat → Slots → AH → Prop) (step : ∀ i s h, i < n → I i s h → W P good c s h (fun e s' h' => match e with | .normal => I (i + 1) s' h' | e => Q e s' h'))
    (last : ∀ s h, I n s h → W P good c s h (fun e s' h' => match e with | .normal => False | e => Q e s' h')) :
    ∀ (i : Nat) (s : Slots) (h : AH), i ≤ n → I i s h → W P good (.loop c) s h Q := by
  intro i s h hi hI
  refine W_loop_ind (fun k s h => ∃ i, i ≤ n ∧ k = n - i ∧ I i s h) ?_ (n - i) s h ⟨i, hi, rfl, hI⟩
  rintro k s h ⟨i, hi, rfl, hI⟩
  rcases Nat.lt_or_ge i n with hlt | hge
  · refine (step i s h hlt hI).mono fun e s' h' hq => ?_
    cases e with
    | normal => exact ⟨n - (i + 1), by omega, i + 1, by omega, rfl, hq⟩
    | exit id => exact hq
    | ret => exact hq
  · have : i = n := by omega
    subst this
    refine (last s h hI).mono fun e s' h' hq => ?_
    cases e with
    | normal => exact hq.elim
    | exit id => exact hq
    | ret => exact hq

/-! ### Operations -/
/-- The operations of a region run, and behind them K holds. -/
noncomputable def Wops (P : Program) (good : FuncId → Bool) (os : Array Oper) (draw : Bool) (st : Past) (l : List Oper) (i : Nat) (s : Slots) (h : AH) (K : Slots → AH → Prop) : Prop :=
  bindQ (runOps P (call P good) os draw st l i s h) fun r => K r.1 r.2

variable {os : Array Oper} {draw : Bool} {st : Past} {l : List Oper} {i : Nat} {K : Slots → AH → Prop}

theorem W_region {id : Nat} {l : List Oper} : W P good (.region id l.toArray draw) s h Q = Wops P good l.toArray draw {} l 0 s h (Q .normal) := by
  unfold W Wops bindQ
  rw [run_region]
  unfold ops
  apply propext
  constructor
  · rintro ⟨e, s', h', h1, h2⟩
    rw [Option.map_eq_some_iff] at h1
    obtain ⟨r, hr, h1⟩ := h1
    cases h1
    exact ⟨r, hr, h2⟩
  · rintro ⟨r, hr, h2⟩
    refine ⟨.normal, r.1, r.2, ?_, h2⟩
    rw [Option.map_eq_some_iff]
    exact ⟨r, hr, rfl⟩
theorem Wops_nil : Wops P good os draw st [] i s h K = K s h := by simp [Wops, runOps]
theorem Wops_yes {o : Oper} (hw : wantedA os o s = true) : Wops P good os draw st (o :: l) i s h K =
    bindQ (opA P (call P good) o.op s h) fun r => (draw = true → okDraw P os st i o.op s h r.1 r.2) ∧ Wops P good os draw (st.next i o.op s h r.1) l (i + 1) (s.put o.dst r.1) r.2 K := by
  unfold Wops
  rw [runOps, if_pos hw]
  unfold bindQ
  cases ho : opA P (call P good) o.op s h with
  | none => simp
  | some r =>
    simp only [Option.bind_some]
    by_cases hd : draw = true → okDraw P os st i o.op s h r.1 r.2
    · rw [if_pos hd]
      exact propext ⟨fun q => ⟨r, rfl, hd, q⟩, fun ⟨r', e, _, q⟩ => by cases e; exact q⟩
    · rw [if_neg hd]
      exact propext ⟨fun ⟨_, q, _⟩ => (by cases q), fun ⟨r', e, q, _⟩ => by cases e; exact absurd q hd⟩
theorem Wops_no {o : Oper} (hw : ¬ wantedA os o s = true) : Wops P good os draw st (o :: l) i s h K = Wops P good os draw st l (i + 1) (s.put o.dst undef) h K := by
  unfold Wops
  rw [runOps, if_neg hw]
/-- Where nothing is drawn, what has been is of no account. -/
theorem runOps_past {call : Call} : ∀ (l : List Oper) (st st' : Past) (i : Nat) (s : Slots) (h : AH), runOps P call os false st l i s h = runOps P call os false st' l i s h
  | [], _, _, _, _, _ => rfl
  | o :: l, st, st', i, s, h => by
    rw [runOps, runOps]
    split
    · congr 1
      funext r
      simp only [Bool.false_eq_true, false_implies, if_true]
      exact runOps_past l _ _ _ _ _
    · exact runOps_past l _ _ _ _ _
theorem Wops_past {st' : Past} : Wops P good os false st l i s h K = Wops P good os false st' l i s h K := by
  unfold Wops; rw [runOps_past l st st']
end
end Go.AM
