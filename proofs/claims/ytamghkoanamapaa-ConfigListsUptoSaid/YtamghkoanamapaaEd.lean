/- Runs that ask nothing of the world; the operations on values. No condition. -/
import Derived.Test.YtamghkoanamapaaEc
namespace Go.AM

/-- A run that leaves the world alone, answers the same in every world, and of whose answer R holds. -/
def WI {α : Type} (s : Sem α) (R : α → Prop := fun _ => True) : Prop :=
  ∀ P w a w1, s.run P w = .ok a w1 → w1 = w ∧ R a ∧ ∀ w', s.run P w' = .ok a w'
/-- A run that never answers. -/
def NV {α : Type} (s : Sem α) : Prop := ∀ P w a w1, s.run P w ≠ .ok a w1

section
variable {α β : Type}
theorem andThen_ok_iff {r : Result α} {f : α → World → Result β} {b : β} {w' : World} : r.andThen f = .ok b w' ↔ ∃ a w1, r = .ok a w1 ∧ f a w1 = .ok b w' := by
  cases r with
  | ok a w => exact ⟨fun h => ⟨a, w, rfl, h⟩, fun ⟨_, _, h, k⟩ => by cases h; exact k⟩
  | halt h w => exact ⟨fun h => (by cases h), fun ⟨_, _, h, _⟩ => by cases h⟩
theorem WI.bind {x : Sem α} {f : α → Sem β} {R : α → Prop} {S : β → Prop} (hx : WI x R) (hf : ∀ a, R a → WI (f a) S) : WI (x >>= f) S := by
  intro P w b w' h
  rw [Sem.run_bind, andThen_ok_iff] at h
  obtain ⟨a, w1, h1, h2⟩ := h
  obtain ⟨rfl, hr, g⟩ := hx P w a w1 h1
  obtain ⟨rfl, hs, g'⟩ := hf a hr P _ b w' h2
  exact ⟨rfl, hs, fun v => by rw [Sem.run_bind, g v]; exact g' v⟩
theorem WI.pure {a : α} {R : α → Prop} (h : R a) : WI (Pure.pure a : Sem α) R := fun _ _ _ _ e => by cases e; exact ⟨rfl, h, fun _ => rfl⟩
theorem WI.mono {x : Sem α} {R S : α → Prop} (h : WI x R) (g : ∀ a, R a → S a) : WI x S := fun P w a w1 e => by obtain ⟨h1, h2, h3⟩ := h P w a w1 e; exact ⟨h1, g _ h2, h3⟩
theorem NV.wi {x : Sem α} {R : α → Prop} (h : NV x) : WI x R := fun P w a w1 e => absurd e (h P w a w1)
theorem NV.bind {x : Sem α} {f : α → Sem β} (h : ∀ a, NV (f a)) : NV (x >>= f) := by
  intro P w b w' e
  rw [Sem.run_bind, andThen_ok_iff] at e
  obtain ⟨a, w1, -, h2⟩ := e
  exact h a P w1 b w' h2
theorem NV.left {x : Sem α} {f : α → Sem β} (h : NV x) : NV (x >>= f) := by
  intro P w b w' e
  rw [Sem.run_bind, andThen_ok_iff] at e
  obtain ⟨a, w1, h1, -⟩ := e
  exact h P w a w1 h1
theorem NV.stuck {s : String} : NV (Go.stuck s : Sem α) := fun _ _ _ _ e => by cases e
theorem NV.unsupported {u : Unsupported} : NV (Go.unsupported u : Sem α) := fun _ _ _ _ e => by cases e
theorem NV.goPanic {v : Value} : NV (Go.goPanic v : Sem α) := fun _ _ _ _ e => by cases e
theorem NV.runtimePanic {e : RuntimeError} : NV (Go.runtimePanic e : Sem α) := by
  unfold Go.runtimePanic
  refine NV.bind fun p => ?_
  cases e <;> dsimp only <;> first
    | exact NV.goPanic
    | exact NV.bind fun _ => NV.bind fun _ => NV.goPanic
theorem WI.program {R : Program → Prop} (h : ∀ p, R p) : WI Go.program R := fun P w a w1 e => by cases e; exact ⟨rfl, h _, fun _ => rfl⟩
theorem WI.underlying {t : TypeId} : WI (Go.underlying t) := by
  unfold Go.underlying
  refine WI.bind (WI.program fun _ => trivial) fun p _ => ?_
  split
  · exact WI.pure trivial
  · exact NV.stuck.wi
theorem WI.typeInfo {t : TypeId} : WI (Go.typeInfo t) := by
  unfold Go.typeInfo
  refine WI.bind (WI.program fun _ => trivial) fun p _ => ?_
  split
  · exact WI.pure trivial
  · exact NV.stuck.wi
theorem WI.sizeOf {t : TypeId} : WI (Go.sizeOf t) := WI.bind WI.typeInfo fun _ _ => WI.pure trivial
theorem WI.isAgg {t : TypeId} : WI (Go.isAgg t) := by
  unfold Go.isAgg
  refine WI.bind WI.underlying fun d _ => ?_
  split <;> exact WI.pure trivial
theorem WI.typeStr {t : TypeId} : WI (Go.typeStr t) := by
  unfold Go.typeStr
  refine WI.bind WI.typeInfo fun d _ => ?_
  dsimp only
  split
  · exact NV.unsupported.wi
  · exact WI.pure trivial
theorem WI.ite {c : Prop} [Decidable c] {x y : Sem α} {R : α → Prop} (hx : WI x R) (hy : WI y R) : WI (if c then x else y) R := by split <;> assumption

theorem WI.forIn_list {γ : Type} {l : List γ} {b : β} {f : γ → β → Sem (ForInStep β)} (hf : ∀ c ∈ l, ∀ b, WI (f c b)) : WI (forIn l b f) := by
  induction l generalizing b with
  | nil => rw [List.forIn_nil]; exact WI.pure trivial
  | cons c l ih =>
    rw [List.forIn_cons]
    refine WI.bind (hf c (by simp) b) fun r _ => ?_
    cases r with
    | done b => exact WI.pure trivial
    | yield b => exact ih (fun c hc => hf c (by simp [hc]))
theorem WI.forIn_array {γ : Type} {l : Array γ} {b : β} {f : γ → β → Sem (ForInStep β)} (hf : ∀ c b, WI (f c b)) : WI (forIn l b f) := by
  rw [← Array.forIn_toList]; exact WI.forIn_list fun c _ => hf c
theorem WI.forIn_range {n : Nat} {b : β} {f : Nat → β → Sem (ForInStep β)} (hf : ∀ c b, WI (f c b)) : WI (forIn [0:n] b f) := by
  rw [Std.Legacy.Range.forIn_eq_forIn_range']; exact WI.forIn_list fun c _ => hf c

end

theorem WI.part {t : TypeId} {cs : Array Value} {off : Nat} (h : ∀ v ∈ cs, Af v) : WI (part t cs off) Af := by
  unfold Go.part
  refine WI.bind WI.isAgg fun b _ => ?_
  cases b with
  | true => exact WI.bind WI.sizeOf fun n _ => WI.pure (.agg fun v hv => h v (by rw [Array.mem_iff_getElem] at hv; obtain ⟨i, hi, rfl⟩ := hv; simp))
  | false =>
    simp only [Bool.false_eq_true, if_false]
    split
    · rename_i v hv; exact WI.pure (h v (Array.mem_of_getElem? hv))
    · exact NV.stuck.wi

theorem Af.agg_inv {cs : Array Value} (h : Af (.agg cs)) : ∀ v ∈ cs, Af v := by cases h; assumption
theorem Af.iface_inv {t : TypeId} {v : Value} (h : Af (.iface t v)) : Af v := by cases h; assumption

theorem WI.equalIn : ∀ (d : Nat) (t : TypeId) (x y : Value), Af x → Af y → WI (Op.equalIn d t x y) := by
  intro d
  induction d with
  | zero => intro t x y _ _; exact NV.unsupported.wi
  | succ d ih =>
    intro t x y hx hy
    unfold Op.equalIn
    refine WI.bind WI.underlying fun u _ => ?_
    split <;> first
      | exact WI.pure trivial
      | exact NV.stuck.wi
      | exact NV.unsupported.wi
      | (exfalso; cases hx; done)
      | (exfalso; cases hy; done)
      | skip
    · split
      · exact WI.pure trivial
      · exact NV.stuck.wi
    · cases hx; cases hy; exact WI.pure trivial
    · split
      · exact WI.pure trivial
      · refine WI.bind WI.typeInfo fun i _ => ?_
        split
        · refine WI.bind (WI.program (R := fun _ => True) fun _ => trivial) fun p _ => WI.bind (WI.program (R := fun _ => True) fun _ => trivial) fun p' _ => ?_
          dsimp only
          split
          · exact (NV.left NV.unsupported).wi
          · exact WI.bind WI.typeStr fun _ _ => NV.runtimePanic.wi
        · exact ih _ _ _ hx.iface_inv hy.iface_inv
    · refine WI.bind (WI.program (R := fun _ => True) fun _ => trivial) fun p _ => ?_
      dsimp only
      split
      · exact (NV.left NV.unsupported).wi
      · refine WI.bind (WI.forIn_array fun f b => ?_) fun r _ => by obtain ⟨o, _⟩ := r; cases o <;> exact WI.pure trivial
        split
        · refine WI.bind (WI.part hx.agg_inv) fun a ha => WI.bind (WI.part hy.agg_inv) fun b hb => WI.bind (ih _ _ _ ha hb) fun e _ => ?_
          split <;> exact WI.pure trivial
        · exact WI.pure trivial
    · refine WI.bind WI.sizeOf fun n _ => WI.bind (WI.forIn_range fun f b => ?_) fun r _ => by obtain ⟨o, _⟩ := r; cases o <;> exact WI.pure trivial
      refine WI.bind (WI.part hx.agg_inv) fun a ha => WI.bind (WI.part hy.agg_inv) fun b hb => WI.bind (ih _ _ _ ha hb) fun e _ => ?_
      split <;> exact WI.pure trivial

theorem WI.eqGuardIn : ∀ (d : Nat) (t : TypeId) (x y : Value), Af x → Af y → WI (Op.eqGuardIn d t x y) := by
  intro d
  induction d with
  | zero => intro t x y _ _; exact NV.unsupported.wi
  | succ d ih =>
    intro t x y hx hy
    unfold Op.eqGuardIn
    refine WI.bind WI.underlying fun u _ => ?_
    split
    · exact WI.pure trivial
    · refine WI.bind (WI.forIn_array fun f b => ?_) fun r _ => by obtain ⟨o, _⟩ := r; cases o <;> exact WI.pure trivial
      split
      · refine WI.bind (WI.part hx.agg_inv) fun a ha => WI.bind (WI.part hy.agg_inv) fun b hb => WI.bind (ih _ _ _ ha hb) fun e _ => ?_
        split <;> exact WI.pure trivial
      · exact WI.pure trivial
    · refine WI.bind WI.sizeOf fun n _ => WI.bind (WI.forIn_range fun f b => ?_) fun r _ => by obtain ⟨o, _⟩ := r; cases o <;> exact WI.pure trivial
      refine WI.bind (WI.part hx.agg_inv) fun a ha => WI.bind (WI.part hy.agg_inv) fun b hb => WI.bind (ih _ _ _ ha hb) fun e _ => ?_
      split <;> exact WI.pure trivial
    · exact WI.pure trivial

/-- The guard at two structs or arrays looks at the values alone. -/
theorem WI.eqGuardAgg {op : BinOp} (ho : op = .eql ∨ op = .neq) {t : TypeId} {x y : Operand} {a b : Value} (ha : Af a) (hb : Af b) (hn : ¬ (a = .nilIface ∧ b = .nilIface)) : WI (Go.eqGuard op t x y a b) (fun _ => True) := by
  have key : WI (do
      match a, b with
      | .agg _, .agg _ =>
        if !(← Go.program).eqGuardType (← Go.program).depth t then return
        if ← Op.eqGuardIn Op.maxDepth t a b then Go.unsupported (.noEntry "binop/eql: two nil values of an interface type with methods, in a part of a struct or an array")
      | _, _ => Pure.pure () : Sem Unit) (fun _ => True) := by
    split
    · refine WI.bind (WI.program (R := fun _ => True) fun _ => trivial) fun p _ => WI.bind (WI.program (R := fun _ => True) fun _ => trivial) fun p' _ => ?_
      split
      · exact WI.pure trivial
      · refine WI.bind (WI.eqGuardIn _ _ _ _ ha hb) fun r _ => ?_
        split
        · exact NV.unsupported.wi
        · exact WI.pure trivial
    · exact WI.pure trivial
  have e : Go.eqGuard op t x y a b = (do
      match a, b with
      | .agg _, .agg _ =>
        if !(← Go.program).eqGuardType (← Go.program).depth t then return
        if ← Op.eqGuardIn Op.maxDepth t a b then Go.unsupported (.noEntry "binop/eql: two nil values of an interface type with methods, in a part of a struct or an array")
      | _, _ => Pure.pure () : Sem Unit) := by
    rcases ho with rfl | rfl <;> cases a <;> cases b <;> first | rfl | exact absurd ⟨rfl, rfl⟩ hn
  rw [e]; exact key

theorem eqGuard_any {op : BinOp} (ho : op = .eql ∨ op = .neq) {t : TypeId} {x y x' y' : Operand} {a b : Value} (hn : ¬ (a = .nilIface ∧ b = .nilIface)) : Go.eqGuard op t x y a b = Go.eqGuard op t x' y' a b := by
  rcases ho with rfl | rfl <;> cases a <;> cases b <;> first | rfl | exact absurd ⟨rfl, rfl⟩ hn

theorem WI.binInt {op : BinOp} {t : TypeId} {k k' : IntKind} {a b : Int} : WI (binOp op t (.int k a) (.int k' b)) Af := by
  have hs : ∀ op, WI (Op.shift op k a k' b) Af := by
    intro op
    unfold Op.shift
    split
    · exact NV.runtimePanic.wi
    · cases op <;> first | exact WI.pure (.int _ _) | exact NV.stuck.wi
  cases op <;> unfold binOp <;> dsimp only <;> first
    | exact hs _
    | (split
       · exact NV.stuck.wi
       · first
         | exact WI.pure (.int _ _)
         | exact WI.pure (.bool _)
         | (unfold Op.intDiv; split
            · exact NV.runtimePanic.wi
            · exact WI.pure (.int _ _)))

theorem WI.binStr {op : BinOp} {t : TypeId} {a b : ByteArray} : WI (binOp op t (.string a) (.string b)) Af := by
  cases op <;> unfold binOp <;> dsimp only <;> first
    | exact WI.pure (.bool _)
    | exact NV.stuck.wi
    | (unfold Op.stringOp; dsimp only; first
        | exact WI.pure (.bool _)
        | exact NV.stuck.wi
        | (split
           · exact NV.unsupported.wi
           · exact WI.pure (.string _)))

theorem WI.unary {op : UnOp} {x : Value} (h : Af x) : WI (Op.unary op x) Af := by
  cases op <;> cases h <;> unfold Op.unary <;> dsimp only <;> first
    | exact WI.pure (.int _ _)
    | exact WI.pure (.bool _)
    | exact NV.stuck.wi
    | exact NV.unsupported.wi

theorem WI.still {P : Program} {s : Sem Value} {R : Value → Prop} (h : WI s R) {v : Value} (e : still P s = some v) : R v ∧ ∀ w, s.run P w = .ok v w := by
  unfold Go.AM.still at e
  split at e
  · rename_i v' w1 hr
    cases e
    obtain ⟨-, h2, h3⟩ := h P _ _ _ hr
    exact ⟨h2, h3⟩
  · cases e

end Go.AM
