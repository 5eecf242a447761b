/- The abstract machine without a count of rounds: limits, and how a call and a code unfold. No condition. -/
import Derived.Test.YtamghkoanamapaaEn
namespace Go.AM

/-! ### Limits -/
section
variable {α : Type}

def Ple (x y : Option α) : Prop := ∀ r, x = some r → y = some r
theorem Ple.refl (x : Option α) : Ple x x := fun _ h => h
def Mono (x : Nat → Option α) : Prop := ∀ n, Ple (x n) (x (n + 1))
theorem Mono.le {x : Nat → Option α} (hx : Mono x) {n m : Nat} (h : n ≤ m) : Ple (x n) (x m) := by
  induction m with
  | zero => have : n = 0 := by omega
            subst this; exact .refl _
  | succ m ih =>
    by_cases hn : n = m + 1
    · subst hn; exact .refl _
    · exact fun r hr => hx m r (ih (by omega) r hr)

open Classical in
noncomputable def lim (x : Nat → Option α) : Option α := if h : ∃ r n, x n = some r then some (Classical.choose h) else none
theorem lim_some {x : Nat → Option α} (hx : Mono x) {r : α} : lim x = some r ↔ ∃ n, x n = some r := by
  unfold lim
  constructor
  · intro h
    split at h
    · rename_i hh
      cases h
      exact Classical.choose_spec hh
    · cases h
  · rintro ⟨n, hn⟩
    have hh : ∃ r n, x n = some r := ⟨r, n, hn⟩
    rw [dif_pos hh]
    obtain ⟨m, hm⟩ := Classical.choose_spec hh
    have a1 := hx.le (Nat.le_max_left n m) r hn
    have a2 := hx.le (Nat.le_max_right n m) _ hm
    rw [a1] at a2
    cases a2; rfl
end

def CallLe (a b : Call) : Prop := ∀ f args h, Ple (a f args h) (b f args h)

section
variable {P : Program}

theorem opA_mono {a b : Call} (hab : CallLe a b) (o : Op) (s : Slots) (h : AH) : Ple (opA P a o s h) (opA P b o s h) := by
  intro r hr
  cases o with
  | call c =>
    obtain ⟨cl, args, ts⟩ := c
    cases cl with
    | builtin => exact hr
    | value f =>
      simp only [opA] at hr ⊢
      split at hr
      · exact hab _ _ _ _ hr
      · cases hr
    | invoke => exact hr
  | makeFunc fn p q => cases fn <;> exact hr
  | _ => exact hr

theorem runOps_mono {a b : Call} (hab : CallLe a b) (ops : Array Oper) (draw : Bool) : ∀ (st : Past) (l : List Oper) (i : Nat) (s : Slots) (h : AH), Ple (runOps P a ops draw st l i s h) (runOps P b ops draw st l i s h)
  | _, [], _, _, _ => .refl _
  | st, o :: l, i, s, h => by
    intro r hr
    unfold runOps at hr ⊢
    split at hr
    · rename_i hw
      rw [if_pos hw]
      rw [Option.bind_eq_some_iff] at hr ⊢
      obtain ⟨q, hq, hr⟩ := hr
      refine ⟨q, opA_mono hab _ _ _ _ hq, ?_⟩
      split at hr
      · rename_i hc; rw [if_pos hc]; exact runOps_mono hab ops draw _ l _ _ _ _ hr
      · cases hr
    · rename_i hw
      rw [if_neg hw]
      exact runOps_mono hab ops draw _ l _ _ _ _ hr

theorem loopA_mono {f g : Slots → AH → Out} (hfg : ∀ s h, Ple (f s h) (g s h)) : ∀ (n m : Nat) (_ : n ≤ m) (s : Slots) (h : AH), Ple (loopA f n s h) (loopA g m s h)
  | 0, _, _, _, _ => fun r hr => by simp [loopA] at hr
  | n + 1, 0, hnm, _, _ => by omega
  | n + 1, m + 1, hnm, s, h => by
    intro r hr
    simp only [loopA] at hr ⊢
    split at hr
    · rename_i s' h' he
      rw [hfg _ _ _ he]
      exact loopA_mono hfg n m (by omega) s' h' r hr
    · rename_i hne
      have := hfg _ _ _ hr
      rw [this]
      obtain ⟨e, s', h'⟩ := r
      cases e with
      | normal => exact absurd hr (hne _ _)
      | exit id => rfl
      | ret => rfl

theorem runC_mono {a b : Call} (hab : CallLe a b) {n m : Nat} (hnm : n ≤ m) : ∀ (c : Code) (s : Slots) (h : AH), Ple (runC P a n c s h) (runC P b m c s h)
  | .skip, _, _ | .exit _, _, _ | .ret, _, _ | .rangeFunc .., _, _ | .scope .., _, _ | .label .., _, _ | .goto .., _, _ | .refuse .., _, _ => fun r hr => hr
  | .region id ops draw, s, h => by
    intro r hr
    simp only [runC, Option.map_eq_some_iff] at hr ⊢
    obtain ⟨q, hq, rfl⟩ := hr
    exact ⟨q, runOps_mono hab ops draw _ _ _ _ _ _ hq, rfl⟩
  | .seq x y, s, h => by
    intro r hr
    simp only [runC] at hr ⊢
    split at hr
    · rename_i s' h' he
      rw [runC_mono hab hnm x _ _ _ he]
      exact runC_mono hab hnm y _ _ _ hr
    · rename_i hne
      rw [runC_mono hab hnm x _ _ _ hr]
      obtain ⟨e, s', h'⟩ := r
      cases e with
      | normal => exact absurd hr (hne _ _)
      | exit id => rfl
      | ret => rfl
  | .cond c x y, s, h => by
    intro r hr
    simp only [runC] at hr ⊢
    split at hr
    · exact runC_mono hab hnm x _ _ _ hr
    · exact runC_mono hab hnm y _ _ _ hr
    · cases hr
  | .block id c, s, h => by
    intro r hr
    simp only [runC] at hr ⊢
    split at hr
    · rename_i id' s' h' he
      rw [runC_mono hab hnm c _ _ _ he]; exact hr
    · rename_i hne
      rw [runC_mono hab hnm c _ _ _ hr]
      obtain ⟨e, s', h'⟩ := r
      cases e with
      | normal => rfl
      | exit id => exact absurd hr (hne _ _ _)
      | ret => rfl
  | .loop c, s, h => by
    intro r hr
    simp only [runC] at hr ⊢
    exact loopA_mono (fun s h => runC_mono hab hnm c s h) n m hnm s h r hr

theorem callN_mono {good : FuncId → Bool} : ∀ n, CallLe (callN P good n) (callN P good (n + 1))
  | 0 => fun f args h r hr => by simp [callN] at hr
  | n + 1 => fun f args h r hr => by
    simp only [callN] at hr
    show (if good f then (P.funcs[f]?).bind fun fn => bodyA P (callN P good (n + 1)) (n + 1) fn args h else none) = some r
    split at hr
    · rename_i hg
      rw [if_pos hg]
      rw [Option.bind_eq_some_iff] at hr ⊢
      obtain ⟨fn, hfn, hr⟩ := hr
      refine ⟨fn, hfn, ?_⟩
      unfold bodyA at hr ⊢
      rw [Option.bind_eq_some_iff] at hr ⊢
      obtain ⟨c, hc, hr⟩ := hr
      refine ⟨c, hc, ?_⟩
      split at hr
      · rename_i s1 h1 he
        rw [runC_mono (callN_mono n) (Nat.le_succ n) c _ _ _ he]; exact hr
      · rename_i s1 h1 he
        rw [runC_mono (callN_mono n) (Nat.le_succ n) c _ _ _ he]; exact hr
      · cases hr
    · cases hr

theorem callN_le {good : FuncId → Bool} {n m : Nat} (h : n ≤ m) : CallLe (callN P good n) (callN P good m) := fun f args hh => Mono.le (x := fun n => callN P good n f args hh) (fun n => callN_mono n f args hh) h

variable (P) (good : FuncId → Bool)

/-- A call, however many rounds it takes. -/
noncomputable def call : Call := fun f args h => lim fun n => callN P good n f args h
/-- A code, however many rounds it takes. -/
noncomputable def run (c : Code) (s : Slots) (h : AH) : Out := lim fun m => runC P (call P good) m c s h
noncomputable def ops (os : Array Oper) (draw : Bool) (s : Slots) (h : AH) : Option (Slots × AH) := runOps P (call P good) os draw {} os.toList 0 s h

variable {P good}

theorem call_some {f : FuncId} {args : List Value} {h : AH} {r : Value × AH} : call P good f args h = some r ↔ ∃ n, callN P good n f args h = some r := lim_some fun n => callN_mono n f args h
theorem callN_call (n : Nat) : CallLe (callN P good n) (call P good) := fun _ _ _ _ hr => call_some.2 ⟨n, hr⟩
theorem run_mono (c : Code) (s : Slots) (h : AH) : Mono fun m => runC P (call P good) m c s h := fun m => runC_mono (fun _ _ _ => .refl _) (Nat.le_succ m) c s h
theorem run_some {c : Code} {s : Slots} {h : AH} {r : AExit × Slots × AH} : run P good c s h = some r ↔ ∃ m, runC P (call P good) m c s h = some r := lim_some (run_mono c s h)

/-- What the limit answers, a number of rounds answers. -/
theorem opA_cont {o : Op} {s : Slots} {h : AH} {r : Value × AH} (e : opA P (call P good) o s h = some r) : ∃ n, opA P (callN P good n) o s h = some r := by
  cases o with
  | call c =>
    obtain ⟨cl, args, ts⟩ := c
    cases cl with
    | builtin => exact ⟨0, e⟩
    | value f =>
      simp only [opA] at e ⊢
      split at e
      · exact call_some.1 e
      · cases e
    | invoke => exact ⟨0, e⟩
  | makeFunc fn p q => cases fn <;> exact ⟨0, e⟩
  | _ => exact ⟨0, e⟩

theorem runOps_cont {os : Array Oper} {draw : Bool} : ∀ (st : Past) (l : List Oper) (i : Nat) (s : Slots) (h : AH) {r : Slots × AH}, runOps P (call P good) os draw st l i s h = some r → ∃ n, runOps P (callN P good n) os draw st l i s h = some r
  | _, [], _, _, _, r, e => ⟨0, e⟩
  | st, o :: l, i, s, h, r, e => by
    unfold runOps at e ⊢
    split at e
    · rename_i hw
      simp only [if_pos hw]
      rw [Option.bind_eq_some_iff] at e
      obtain ⟨q, hq, e⟩ := e
      obtain ⟨n1, h1⟩ := opA_cont hq
      split at e
      · rename_i hc
        obtain ⟨n2, h2⟩ := runOps_cont _ l _ _ _ e
        refine ⟨max n1 n2, ?_⟩
        rw [opA_mono (callN_le (Nat.le_max_left n1 n2)) _ _ _ _ h1, Option.bind_some, if_pos hc]
        exact runOps_mono (callN_le (Nat.le_max_right n1 n2)) _ _ _ _ _ _ _ _ h2
      · cases e
    · rename_i hw
      simp only [if_neg hw]
      exact runOps_cont _ l _ _ _ e

theorem runC_cont : ∀ (c : Code) (m : Nat) (s : Slots) (h : AH) {r : AExit × Slots × AH}, runC P (call P good) m c s h = some r → ∃ n, runC P (callN P good n) m c s h = some r
  | .skip, _, _, _, _, e | .exit _, _, _, _, _, e | .ret, _, _, _, _, e | .rangeFunc .., _, _, _, _, e | .scope .., _, _, _, _, e | .label .., _, _, _, _, e | .goto .., _, _, _, _, e | .refuse .., _, _, _, _, e => ⟨0, e⟩
  | .region id os draw, m, s, h, r, e => by
    simp only [runC, Option.map_eq_some_iff] at e ⊢
    obtain ⟨q, hq, rfl⟩ := e
    obtain ⟨n, hn⟩ := runOps_cont _ _ _ _ _ hq
    exact ⟨n, q, hn, rfl⟩
  | .seq x y, m, s, h, r, e => by
    simp only [runC] at e ⊢
    split at e
    · rename_i s' h' he
      obtain ⟨n1, h1⟩ := runC_cont x m _ _ he
      obtain ⟨n2, h2⟩ := runC_cont y m _ _ e
      refine ⟨max n1 n2, ?_⟩
      rw [runC_mono (callN_le (Nat.le_max_left n1 n2)) (Nat.le_refl m) x _ _ _ h1]
      exact runC_mono (callN_le (Nat.le_max_right n1 n2)) (Nat.le_refl m) y _ _ _ h2
    · rename_i hne
      obtain ⟨n1, h1⟩ := runC_cont x m _ _ e
      refine ⟨n1, ?_⟩
      rw [h1]
      obtain ⟨ex, s', h'⟩ := r
      cases ex with
      | normal => exact absurd e (hne _ _)
      | exit id => rfl
      | ret => rfl
  | .cond c x y, m, s, h, r, e => by
    simp only [runC] at e ⊢
    split at e
    · exact runC_cont x m _ _ e
    · exact runC_cont y m _ _ e
    · cases e
  | .block id c, m, s, h, r, e => by
    simp only [runC] at e ⊢
    split at e
    · rename_i id' s' h' he
      obtain ⟨n1, h1⟩ := runC_cont c m _ _ he
      exact ⟨n1, by rw [h1]; exact e⟩
    · rename_i hne
      obtain ⟨n1, h1⟩ := runC_cont c m _ _ e
      refine ⟨n1, ?_⟩
      rw [h1]
      obtain ⟨ex, s', h'⟩ := r
      cases ex with
      | normal => rfl
      | exit id => exact absurd e (hne _ _ _)
      | ret => rfl
  | .loop c, m, s, h, r, e => by
    simp only [runC] at e ⊢
    have key : ∀ (q : Nat) (s : Slots) (h : AH), loopA (runC P (call P good) m c) q s h = some r → ∃ n, loopA (runC P (callN P good n) m c) q s h = some r := by
      intro q
      induction q with
      | zero => intro s h e; simp [loopA] at e
      | succ q ih =>
        intro s h e
        simp only [loopA] at e ⊢
        split at e
        · rename_i s' h' he
          obtain ⟨n1, h1⟩ := runC_cont c m _ _ he
          obtain ⟨n2, h2⟩ := ih _ _ e
          refine ⟨max n1 n2, ?_⟩
          rw [runC_mono (callN_le (Nat.le_max_left n1 n2)) (Nat.le_refl m) c _ _ _ h1]
          exact loopA_mono (fun s h => runC_mono (callN_le (Nat.le_max_right n1 n2)) (Nat.le_refl m) c s h) q q (Nat.le_refl q) _ _ _ h2
        · rename_i hne
          obtain ⟨n1, h1⟩ := runC_cont c m _ _ e
          refine ⟨n1, ?_⟩
          rw [h1]
          obtain ⟨ex, s', h'⟩ := r
          cases ex with
          | normal => exact absurd e (hne _ _)
          | exit id => rfl
          | ret => rfl
    exact key m s h e

/-! ### How a code unfolds -/
variable {s : Slots} {h : AH}

theorem run_skip : run P good .skip s h = some (.normal, s, h) := run_some.2 ⟨0, rfl⟩
theorem run_exit {id : Nat} : run P good (.exit id) s h = some (.exit id, s, h) := run_some.2 ⟨0, rfl⟩
theorem run_ret : run P good .ret s h = some (.ret, s, h) := run_some.2 ⟨0, rfl⟩
theorem run_region {id : Nat} {os : Array Oper} {draw : Bool} : run P good (.region id os draw) s h = (ops P good os draw s h).map fun r => (.normal, r.1, r.2) := by
  apply Option.ext; intro r
  rw [run_some]
  exact ⟨fun ⟨_, hm⟩ => hm, fun h => ⟨0, h⟩⟩

/-- What follows, where a code has come to its end. -/
def thenA (k : Slots → AH → Out) : AExit × Slots × AH → Out
  | (.normal, s, h) => k s h
  | r => some r

theorem run_seq {x y : Code} : run P good (.seq x y) s h = (run P good x s h).bind (thenA (run P good y)) := by
  apply Option.ext; intro r
  rw [run_some, Option.bind_eq_some_iff]
  constructor
  · rintro ⟨m, hm⟩
    simp only [runC] at hm
    split at hm
    · rename_i s' h' he
      exact ⟨_, run_some.2 ⟨m, he⟩, run_some.2 ⟨m, hm⟩⟩
    · rename_i hne
      refine ⟨r, run_some.2 ⟨m, hm⟩, ?_⟩
      obtain ⟨ex, s', h'⟩ := r
      cases ex with
      | normal => exact absurd hm (hne _ _)
      | exit id => rfl
      | ret => rfl
  · rintro ⟨⟨ex, s', h'⟩, hx, hy⟩
    obtain ⟨m1, h1⟩ := run_some.1 hx
    cases ex with
    | normal =>
      obtain ⟨m2, h2⟩ := run_some.1 (show run P good y s' h' = some r from hy)
      refine ⟨max m1 m2, ?_⟩
      simp only [runC]
      rw [(run_mono x s h).le (Nat.le_max_left m1 m2) _ h1]
      exact (run_mono y s' h').le (Nat.le_max_right m1 m2) _ h2
    | exit id => refine ⟨m1, ?_⟩; simp only [runC]; rw [h1]; exact hy
    | ret => refine ⟨m1, ?_⟩; simp only [runC]; rw [h1]; exact hy

theorem run_cond {c : Operand} {x y : Code} : run P good (.cond c x y) s h = match ev s c with | .bool true => run P good x s h | .bool false => run P good y s h | _ => none := by
  apply Option.ext; intro r
  rw [run_some]
  simp only [runC]
  generalize ev s c = v
  cases v with
  | bool b => cases b <;> exact run_some.symm
  | _ => exact ⟨fun ⟨_, hm⟩ => (by cases hm), fun hm => (by cases hm)⟩

def blockA (id : Nat) : AExit × Slots × AH → Out
  | (.exit id', s, h) => if id' = id then some (.normal, s, h) else some (.exit id', s, h)
  | r => some r

theorem run_block {id : Nat} {c : Code} : run P good (.block id c) s h = (run P good c s h).bind (blockA id) := by
  apply Option.ext; intro r
  rw [run_some, Option.bind_eq_some_iff]
  constructor
  · rintro ⟨m, hm⟩
    simp only [runC] at hm
    split at hm
    · rename_i id' s' h' he
      exact ⟨_, run_some.2 ⟨m, he⟩, hm⟩
    · rename_i hne
      refine ⟨r, run_some.2 ⟨m, hm⟩, ?_⟩
      obtain ⟨ex, s', h'⟩ := r
      cases ex with
      | exit id => exact absurd hm (hne _ _ _)
      | normal => rfl
      | ret => rfl
  · rintro ⟨⟨ex, s', h'⟩, hx, hy⟩
    obtain ⟨m1, h1⟩ := run_some.1 hx
    refine ⟨m1, ?_⟩
    simp only [runC]
    rw [h1]
    cases ex <;> exact hy

theorem run_loop {c : Code} : run P good (.loop c) s h = (run P good c s h).bind (thenA (run P good (.loop c))) := by
  apply Option.ext; intro r
  rw [run_some, Option.bind_eq_some_iff]
  constructor
  · rintro ⟨m, hm⟩
    simp only [runC] at hm
    cases m with
    | zero => simp [loopA] at hm
    | succ m =>
      simp only [loopA] at hm
      split at hm
      · rename_i s' h' he
        refine ⟨_, run_some.2 ⟨m + 1, he⟩, run_some.2 ⟨m + 1, ?_⟩⟩
        simp only [runC]
        exact loopA_mono (fun s h => .refl _) m (m + 1) (Nat.le_succ m) _ _ _ hm
      · rename_i hne
        refine ⟨r, run_some.2 ⟨m + 1, hm⟩, ?_⟩
        obtain ⟨ex, s', h'⟩ := r
        cases ex with
        | normal => exact absurd hm (hne _ _)
        | exit id => rfl
        | ret => rfl
  · rintro ⟨⟨ex, s', h'⟩, hx, hy⟩
    obtain ⟨m1, h1⟩ := run_some.1 hx
    cases ex with
    | normal =>
      obtain ⟨m2, h2⟩ := run_some.1 (show run P good (.loop c) s' h' = some r from hy)
      refine ⟨max m1 m2 + 1, ?_⟩
      simp only [runC, loopA]
      rw [(run_mono c s h).le (by omega : m1 ≤ max m1 m2 + 1) _ h1]
      simp only [runC] at h2
      exact loopA_mono (fun s h => (run_mono c s h).le (by omega : m2 ≤ max m1 m2 + 1)) m2 (max m1 m2) (Nat.le_max_right m1 m2) _ _ _ h2
    | exit id =>
      refine ⟨m1 + 1, ?_⟩
      simp only [runC, loopA]
      rw [(run_mono c s h).le (Nat.le_succ m1) _ h1]; exact hy
    | ret =>
      refine ⟨m1 + 1, ?_⟩
      simp only [runC, loopA]
      rw [(run_mono c s h).le (Nat.le_succ m1) _ h1]; exact hy

/-- What a function hands back, where its body has come to its end. -/
noncomputable def leaveA (P : Program) (fn : Func) (h : AH) : AExit × Slots × AH → Option (Value × AH)
  | (.normal, s, h') | (.ret, s, h') => (resultsA P fn s h').map fun v => gcA h v h'
  | _ => none

theorem call_eq {f : FuncId} {fn : Func} {c : Code} {args : List Value} (hg : good f = true) (hf : P.funcs[f]? = some fn) (hb : fn.body = some c) :
    call P good f args h = (run P good c (startA args) h).bind (leaveA P fn h) := by
  apply Option.ext; intro r
  rw [call_some, Option.bind_eq_some_iff]
  constructor
  · rintro ⟨n, hn⟩
    cases n with
    | zero => simp [callN] at hn
    | succ n =>
      simp only [callN, hg, if_true, hf, Option.bind_some, bodyA, hb] at hn
      split at hn
      · rename_i s' h' he
        exact ⟨_, run_some.2 ⟨n, runC_mono (callN_call n) (Nat.le_refl n) c _ _ _ he⟩, hn⟩
      · rename_i s' h' he
        exact ⟨_, run_some.2 ⟨n, runC_mono (callN_call n) (Nat.le_refl n) c _ _ _ he⟩, hn⟩
      · cases hn
  · rintro ⟨⟨ex, s', h'⟩, hx, hy⟩
    obtain ⟨m, hm⟩ := run_some.1 hx
    obtain ⟨n, hn⟩ := runC_cont c m _ _ hm
    refine ⟨max m n + 1, ?_⟩
    simp only [callN, hg, if_true, hf, Option.bind_some, bodyA, hb]
    rw [runC_mono (callN_le (Nat.le_max_right m n)) (Nat.le_max_left m n) c _ _ _ hn]
    cases ex with
    | normal => exact hy
    | exit id => cases hy
    | ret => exact hy

end

/-- The limit is sound. -/
theorem call_ok {P : Program} {w0 : Ctx} (fit : Fit P) (szs : ∀ t n, sizeA P t = some n → w0.sz t = n) {good : FuncId → Bool} (hg : ∀ f, good f = true → FnOK P f) : CallOK P w0 (call P good) := by
  intro f args h v h' e
  obtain ⟨n, hn⟩ := call_some.1 e
  exact (callN_ok fit szs hg n).cok f args h v h' hn

end Go.AM
