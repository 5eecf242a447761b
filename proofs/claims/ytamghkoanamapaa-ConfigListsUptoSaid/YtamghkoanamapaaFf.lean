/- What simp is to use for the abstract machine. No condition. -/
import Derived.Test.YtamghkoanamapaaFe
import Derived.Test.YtamghkoanamapaaFx
namespace Go.AM
open Go.RowKit

section
variable {P : Program} {good : FuncId → Bool} {os : Array Oper} {s : Slots} {h : AH} {i : Nat}

def guardB (d : Option Nat) (b : Bool) (s : Slots) : Bool := match d with | some d => (match s d with | .bool b' => b' == b | _ => false) | none => false
def isB (v : Value) (b : Bool) : Bool := match v with | .bool b' => b' == b | _ => false
theorem guardB_some {d : Nat} {b : Bool} : guardB (some d) b s = isB (s d) b := rfl
theorem isB_bool {b b' : Bool} : isB (.bool b') b = (b' == b) := rfl
theorem isB_undef {b : Bool} : isB undef b = false := rfl
theorem wantedA_none {d : Option Nat} {op : Op} {ty : TypeId} {pos : String} {aft : Array Edge} : wantedA os ⟨d, op, ty, pos, aft, none⟩ s = true := rfl
theorem wantedA_some {d : Option Nat} {op : Op} {ty : TypeId} {pos : String} {aft : Array Edge} {j : Nat} {b : Bool} : wantedA os ⟨d, op, ty, pos, aft, some (j, b)⟩ s = guardB ((os[j]?).bind (·.dst)) b s := by
  simp only [wantedA, guardB]
  cases (os[j]?).bind (·.dst) <;> rfl

def extrA (v : Value) (j : Nat) : Option Value := match v with | .tuple vs => vs[j]? | _ => none
def callA (cl : Call) (f : Value) (args : List Value) (h : AH) : Option (Value × AH) := match f with
  | .func (.func f) a b => cl f (a.toList ++ args ++ b.toList) h
  | _ => none
def notNil (v : Value) : Option Value := match v with
  | .pointer (some a) => some (.pointer (some a))
  | .func (.func f) a b => some (.func (.func f) a b)
  | .iface t v => some (.iface t v)
  | _ => none
theorem opA_alloc {e : TypeId} {cl : Call} : opA P cl (.alloc e) s h = (zeroA P e).map fun z => (.pointer (some ⟨h.length, 0, none⟩), h ++ [.cells z.cells.toList e false]) := rfl
theorem opA_box {e : TypeId} {x : Operand} {cl : Call} : opA P cl (.box e x) s h = some (.pointer (some ⟨h.length, 0, none⟩), h ++ [.cells (ev s x).cells.toList e false]) := rfl
theorem opA_build {t : TypeId} {parts : Array (Nat × Operand)} {cl : Call} : opA P cl (.build t parts) s h = (buildA P t (parts.toList.map fun (i, x) => (i, ev s x))).map fun v => (v, h) := rfl
theorem opA_buildSlice {t : TypeId} {len : Nat} {parts : Array (Nat × Operand)} {cl : Call} : opA P cl (.buildSlice t len parts) s h = buildSliceA P h t len (parts.toList.map fun (i, x) => (i, ev s x)) := rfl
theorem opA_load {t : TypeId} {a : Operand} {cl : Call} : opA P cl (.load t a) s h = (loadA P h t (ev s a)).map fun v => (v, h) := rfl
theorem opA_store {t : TypeId} {a x : Operand} {cl : Call} : opA P cl (.store t a x) s h = (storeA P h t (ev s a) (ev s x)).map fun h' => (undef, h') := rfl
theorem opA_binOp {op : BinOp} {t z : TypeId} {x y : Operand} {cl : Call} : opA P cl (.binOp op t x y z) s h = (binA P op t (ev s x) (ev s y)).map fun v => (v, h) := rfl
theorem opA_unOp {op : UnOp} {t : TypeId} {x : Operand} {cl : Call} : opA P cl (.unOp op t x) s h = (unA P op (ev s x)).map fun v => (v, h) := rfl
theorem opA_convert {t d : TypeId} {x : Operand} {cl : Call} : opA P cl (.convert t d x) s h = (convA P d (ev s x)).map fun v => (v, h) := rfl
theorem opA_makeFunc {f : FuncId} {a b : Array Operand} {cl : Call} : opA P cl (.makeFunc (.func f) a b) s h = some (.func (.func f) (a.map (ev s)) (b.map (ev s)), h) := rfl
theorem opA_makeSlice {t : TypeId} {l c : Operand} {cl : Call} : opA P cl (.makeSlice t l c) s h = makeSliceA P h t (ev s l) (ev s c) := rfl
theorem opA_slice {t : TypeId} {x : Operand} {l r m : Option Operand} {cl : Call} : opA P cl (.slice t x l r m) s h = (sliceA P h t (ev s x) (l.map (ev s)) (r.map (ev s)) (m.map (ev s))).map fun v => (v, h) := rfl
theorem opA_fieldAddr {t : TypeId} {x : Operand} {f : Nat} {cl : Call} : opA P cl (.fieldAddr t x f) s h = (fieldAddrA P t (ev s x) f).map fun v => (v, h) := rfl
theorem opA_field {t : TypeId} {x : Operand} {f : Nat} {cl : Call} : opA P cl (.field t x f) s h = (fieldA P t (ev s x) f).map fun v => (v, h) := rfl
theorem opA_indexAddr {t : TypeId} {x i : Operand} {cl : Call} : opA P cl (.indexAddr t x i) s h = (indexAddrA P t (ev s x) (ev s i)).map fun v => (v, h) := rfl
theorem opA_index {t : TypeId} {x i : Operand} {cl : Call} : opA P cl (.index t x i) s h = (indexA P t (ev s x) (ev s i)).map fun v => (v, h) := rfl
theorem opA_range {t : TypeId} {x : Operand} {cl : Call} : opA P cl (.range t x) s h = rangeA P h t (ev s x) := rfl
theorem opA_next {x : Operand} {b : Bool} {cl : Call} : opA P cl (.next x b) s h = nextA h (ev s x) b := rfl
theorem opA_builtin {b : Builtin} {args : Array Operand} {ts : Array TypeId} {cl : Call} : opA P cl (.call ⟨.builtin b, args, ts⟩) s h = builtinA P b ts (args.toList.map (ev s)) h := rfl
theorem opA_extract {x : Operand} {j : Nat} {cl : Call} : opA P cl (.extract x j) s h = (extrA (ev s x) j).map fun v => (v, h) := by
  simp only [opA, extrA]
  split <;> simp_all
theorem opA_call {f : Operand} {args : Array Operand} {ts : Array TypeId} {cl : Call} : opA P cl (.call ⟨.value f, args, ts⟩) s h = callA cl (ev s f) (args.toList.map (ev s)) h := rfl
theorem opA_nilCheck {x : Operand} {cl : Call} : opA P cl (.nilCheck x) s h = (notNil (ev s x)).map fun v => (v, h) := by
  simp only [opA, notNil]
  split <;> simp_all
theorem callA_func {f : FuncId} {a b : Array Value} {args : List Value} {cl : Call} : callA cl (.func (.func f) a b) args h = cl f (a.toList ++ args ++ b.toList) h := rfl
theorem extrA_tuple {vs : Array Value} {j : Nat} : extrA (.tuple vs) j = vs[j]? := rfl
theorem notNil_ptr {a : Addr} : notNil (.pointer (some a)) = some (.pointer (some a)) := rfl
theorem notNil_func {f : FuncId} {a b : Array Value} : notNil (.func (.func f) a b) = some (.func (.func f) a b) := rfl

/-- pick, as a value. -/
def pickV (c a b : Value) : Option Value := match c with | .bool true => some a | .bool false => some b | _ => none
theorem opA_pick {c a b : Operand} {cl : Call} : opA P cl (.pick c a b) s h = (pickV (ev s c) (ev s a) (ev s b)).map fun v => (v, h) := by
  simp only [opA, pickV]
  split <;> simp_all
theorem pickV_true {a b : Value} : pickV (.bool true) a b = some a := rfl
theorem pickV_false {a b : Value} : pickV (.bool false) a b = some b := rfl
theorem pickV_bool {c x y : Bool} : pickV (.bool c) (.bool x) (.bool y) = some (.bool (if c = true then x else y)) := by cases c <;> rfl
theorem pickV_decide {r : Prop} [Decidable r] {a b : Value} : pickV (.bool (decide r)) a b = if r then some a else some b := by
  by_cases h : r <;> simp [h, pickV]
/-! What comes next, as names: simp is to look at nothing of it before it is told that it comes. -/
variable {draw : Bool} {st : Past} {l : List Oper} {K : Slots → AH → Prop} {d : Option Nat} {op : Op} {ty : TypeId} {pos : String} {aft : Array Edge} {j : Nat} {b : Bool} {Q : AExit → Slots → AH → Prop} {c : Code}
def uOps (P : Program) (good : FuncId → Bool) (os : Array Oper) (draw : Bool) (st : Past) (l : List Oper) (i : Nat) (s : Slots) (h : AH) (K : Slots → AH → Prop) (_ : Unit) : Prop := Wops P good os draw st l i s h K
def uW (P : Program) (good : FuncId → Bool) (c : Code) (s : Slots) (h : AH) (Q : AExit → Slots → AH → Prop) (_ : Unit) : Prop := W P good c s h Q
def kOps (P : Program) (good : FuncId → Bool) (os : Array Oper) (draw : Bool) (st : Past) (op : Op) (l : List Oper) (i : Nat) (s : Slots) (h : AH) (d : Option Nat) (K : Slots → AH → Prop) (r : Value × AH) : Prop :=
  (draw = true → okDraw P os st i op s h r.1 r.2) ∧ Wops P good os draw (st.next i op s h r.1) l (i + 1) (s.put d r.1) r.2 K
def uOp (P : Program) (good : FuncId → Bool) (os : Array Oper) (draw : Bool) (st : Past) (op : Op) (l : List Oper) (i : Nat) (s : Slots) (h : AH) (d : Option Nat) (K : Slots → AH → Prop) (_ : Unit) : Prop :=
  bindQ (opA P (call P good) op s h) (kOps P good os draw st op l i s h d K)
def uB {α : Type} (x : Option α) (k : α → Prop) (_ : Unit) : Prop := bindQ x k
def kMap {α β : Type} (f : α → β) (k : β → Prop) (a : α) : Prop := k (f a)
theorem uOps_go : uOps P good os draw st l i s h K () = Wops P good os draw st l i s h K := rfl
theorem uW_go : uW P good c s h Q () = W P good c s h Q := rfl
theorem uOp_go : uOp P good os draw st op l i s h d K () = bindQ (opA P (call P good) op s h) (kOps P good os draw st op l i s h d K) := rfl
theorem uB_go {α : Type} {x : Option α} {k : α → Prop} : uB x k () = bindQ x k := rfl
theorem kMap_go {α β : Type} {f : α → β} {k : β → Prop} {a : α} : kMap f k a = k (f a) := rfl
theorem kOps_plain {r : Value × AH} : kOps P good os false st op l i s h d K r = Wops P good os false {} l (i + 1) (s.put d r.1) r.2 K := by
  simp only [kOps, Bool.false_eq_true, false_implies, true_and]
  exact Wops_past
theorem kOps_draw {r : Value × AH} : kOps P good os true st op l i s h d K r = (okDraw P os st i op s h r.1 r.2 ∧ Wops P good os true (st.next i op s h r.1) l (i + 1) (s.put d r.1) r.2 K) := by
  simp only [kOps, true_implies]

def condW (v : Value) (a b : Unit → Prop) : Prop := match v with | .bool true => a () | .bool false => b () | _ => False
/-- One of two ways; simp is to look at neither before it is told which. -/
def caseQ (p : Prop) (a b : Unit → Prop) : Prop := (p → a ()) ∧ (¬ p → b ())
theorem caseQ_congr {p q : Prop} (a b : Unit → Prop) (h : p = q) : caseQ p a b = caseQ q a b := by rw [h]
theorem caseQ_true {a b : Unit → Prop} : caseQ True a b = a () := by simp [caseQ]
theorem caseQ_false {a b : Unit → Prop} : caseQ False a b = b () := by simp [caseQ]
theorem caseQ_intro {p : Prop} {a b : Unit → Prop} (h1 : p → a ()) (h2 : ¬ p → b ()) : caseQ p a b := ⟨h1, h2⟩
theorem bindQ_ite' {α : Type} {p : Prop} [Decidable p] {x y : Option α} {k : α → Prop} : bindQ (if p then x else y) k = caseQ p (uB x k) (uB y k) := by
  by_cases hp : p <;> simp [hp, caseQ, uB]
theorem bindQ_map {α β : Type} {x : Option α} {f : α → β} {k : β → Prop} : bindQ (x.map f) k = bindQ x (kMap f k) := by
  cases x <;> simp [kMap]
theorem W_cond' {x y : Code} {v : Operand} : W P good (.cond v x y) s h Q = condW (ev s v) (uW P good x s h Q) (uW P good y s h Q) := by
  rw [W_cond]; unfold condQ condW
  rfl
theorem condW_congr {v w : Value} (a b : Unit → Prop) (h : v = w) : condW v a b = condW w a b := by rw [h]
theorem condW_true {a b : Unit → Prop} : condW (.bool true) a b = a () := rfl
theorem condW_false {a b : Unit → Prop} : condW (.bool false) a b = b () := rfl
theorem condW_decide {r : Prop} [Decidable r] {a b : Unit → Prop} : condW (.bool (decide r)) a b = caseQ r a b := by by_cases h : r <;> simp [h, condW, caseQ]
theorem condW_not {v : Bool} {a b : Unit → Prop} : condW (.bool (!v)) a b = condW (.bool v) b a := by cases v <;> rfl
theorem condW_bool {v : Bool} {a b : Unit → Prop} : condW (.bool v) a b = caseQ (v = true) a b := by cases v <;> simp [condW, caseQ]

theorem Wops_op : Wops P good os draw st (⟨d, op, ty, pos, aft, none⟩ :: l) i s h K = bindQ (opA P (call P good) op s h) (kOps P good os draw st op l i s h d K) := Wops_yes wantedA_none
theorem Wops_guard : Wops P good os draw st (⟨d, op, ty, pos, aft, some (j, b)⟩ :: l) i s h K = caseQ (guardB ((os[j]?).bind (·.dst)) b s = true)
    (uOp P good os draw st op l i s h d K) (uOps P good os draw st l (i + 1) (s.put d undef) h K) := by
  by_cases hg : guardB ((os[j]?).bind (·.dst)) b s = true
  · rw [Wops_yes (by rw [wantedA_some]; exact hg)]
    simp only [hg, caseQ, true_implies, not_true, false_implies, and_true]
    rfl
  · rw [Wops_no (by rw [wantedA_some]; exact hg)]
    simp only [hg, caseQ, false_implies, true_and]
    simp only [Bool.false_eq_true, false_implies, not_false_eq_true, true_implies, true_and]
    rfl
end

theorem fill_at {β : Type} {zs : List β} {z x : β} {i N : Nat} (hN : zs.length = N) (hi : i < N) (hx : ∀ h : i < zs.length, zs[i] = x) : (zs.take i ++ List.replicate (N - i) z).set i x = zs.take (i + 1) ++ List.replicate (N - (i + 1)) z := by
  subst hN
  rw [← hx hi]
  exact fill_step hi
/-- Where a predicate holds first; -1: nowhere. -/
def fstI {α : Type} (p : α → Bool) (xs : List α) : Int := if xs.any p then (xs.findIdx p : Nat) else -1
theorem fstI_at {α : Type} {p : α → Bool} {xs : List α} {i : Nat} (hi : i < xs.length) (h : p xs[i] = true) (hb : ∀ (j : Nat) (hj : j < xs.length), j < i → p xs[j] = false) : fstI p xs = i := by
  have ha : xs.any p = true := List.any_eq_true.2 ⟨xs[i], List.getElem_mem _, h⟩
  unfold fstI
  rw [if_pos ha]
  congr 1
  rw [List.findIdx_eq hi]
  exact ⟨h, fun j hj => hb j (by omega) hj⟩
theorem fstI_none {α : Type} {p : α → Bool} {xs : List α} (hb : ∀ (j : Nat) (hj : j < xs.length), p xs[j] = false) : fstI p xs = -1 := by
  unfold fstI
  rw [if_neg]
  simp only [List.any_eq_true, not_exists, not_and]
  rintro x hx hp
  obtain ⟨j, hj, rfl⟩ := List.getElem_of_mem hx
  rw [hb j hj] at hp; cases hp
theorem fstI_nonneg {α : Type} {p : α → Bool} {xs : List α} : (0 ≤ fstI p xs) ↔ xs.any p = true := by
  unfold fstI
  split <;> simp_all
/-- Two lists of one length, a predicate true of their elements one by one. -/
def allB {α β : Type} (p : α → β → Bool) (xs : List α) (ys : List β) : Bool := decide (xs.length = ys.length) && (xs.zip ys).all fun q => p q.1 q.2
theorem allB_ne {α β : Type} {p : α → β → Bool} {xs : List α} {ys : List β} (h : xs.length ≠ ys.length) : allB p xs ys = false := by simp [allB, h]
theorem allB_iff {α β : Type} {p : α → β → Bool} {xs : List α} {ys : List β} (h : xs.length = ys.length) : allB p xs ys = true ↔ ∀ (j : Nat) (hj : j < xs.length), p xs[j] (ys[j]'(h ▸ hj)) = true := by
  unfold allB
  rw [Bool.and_eq_true, decide_eq_true_iff, List.all_eq_true]
  constructor
  · rintro ⟨-, g⟩ j hj
    have := g (xs[j], ys[j]'(h ▸ hj)) (by
      rw [← List.getElem_zip (i := j) (h := by simp; omega)]
      exact List.getElem_mem _)
    exact this
  · intro g
    refine ⟨h, fun q hq => ?_⟩
    obtain ⟨j, hj, rfl⟩ := List.getElem_of_mem hq
    have hl : j < xs.length := by simp at hj; omega
    rw [List.getElem_zip]
    exact g j hl
theorem allB_false {α β : Type} {p : α → β → Bool} {xs : List α} {ys : List β} (h : xs.length = ys.length) {i : Nat} (hi : i < xs.length) (hp : p xs[i] (ys[i]'(h ▸ hi)) = false) : allB p xs ys = false := by
  rw [Bool.eq_false_iff]
  intro g
  rw [(allB_iff h).1 g i hi] at hp
  cases hp
theorem allB_true {α β : Type} {p : α → β → Bool} {xs : List α} {ys : List β} (h : xs.length = ys.length) (hb : ∀ (j : Nat) (hj : j < xs.length), p xs[j] (ys[j]'(h ▸ hj)) = true) : allB p xs ys = true := (allB_iff h).2 hb
/-- A predicate of places, true of the first n. -/
def allN (q : Nat → Bool) (n : Nat) : Bool := (List.range n).all q
theorem allN_iff {q : Nat → Bool} {n : Nat} : allN q n = true ↔ ∀ i, i < n → q i = true := by simp [allN]
theorem allN_true {q : Nat → Bool} {i : Nat} (h : allN q i = true) (hq : q i = true) : allN q (i + 1) = true := by
  rw [allN_iff] at *
  intro j hj
  by_cases hji : j = i
  · subst hji; exact hq
  · exact h j (by omega)
theorem allN_false {q : Nat → Bool} {i n : Nat} (hi : i < n) (hq : q i = false) : allN q n = false := by
  rw [Bool.eq_false_iff]
  intro h
  rw [allN_iff.1 h i hi] at hq
  cases hq
/-- What a function hands back, as a relation. -/
def endR (P : Program) (rs : List ResultVar) (h : AH) (R : Value × AH → Prop) : AExit → Slots → AH → Prop
  | .exit _, _, _ => False
  | _, s, h' => bindQ (rs.mapM (resA P s h')) fun vs => R (gcA h (oneOf vs) h')
theorem endR_ret {P : Program} {s : Slots} {rs : List ResultVar} {h h' : AH} {R : Value × AH → Prop} : endR P rs h R .ret s h' = bindQ (rs.mapM (resA P s h')) fun vs => R (gcA h (oneOf vs) h') := rfl
theorem endR_normal {P : Program} {s : Slots} {rs : List ResultVar} {h h' : AH} {R : Value × AH → Prop} : endR P rs h R .normal s h' = bindQ (rs.mapM (resA P s h')) fun vs => R (gcA h (oneOf vs) h') := rfl
theorem endR_exit {P : Program} {s : Slots} {rs : List ResultVar} {h h' : AH} {R : Value × AH → Prop} {id : Nat} : endR P rs h R (.exit id) s h' = False := rfl
/-- A call, by its code: some result in a relation. -/
theorem call_rel {P : Program} {f : FuncId} {fn : Func} {c : Code} {args : List Value} {h : AH} {R : Value × AH → Prop} {rs : List ResultVar} (hg : fnB P f = true) (hf : P.funcs[f]? = some fn) (hb : fn.body = some c) (hr : fn.results = rs.toArray)
    (w : W P (fnB P) c (startA args) h (endR P rs h R)) : ∃ r, callP P f args h = some r ∧ R r := by
  obtain ⟨e, s', h', h1, h2⟩ := w
  have k : bindQ (rs.mapM (resA P s' h')) (fun vs => R (gcA h (oneOf vs) h')) ∧ ∀ id, e ≠ .exit id := by
    cases e with
    | exit => exact h2.elim
    | normal => exact ⟨h2, fun _ q => by cases q⟩
    | ret => exact ⟨h2, fun _ q => by cases q⟩
  obtain ⟨⟨vs, q1, q2⟩, ne⟩ := k
  refine ⟨_, call_of hg hf hb hr ⟨e, s', h', h1, ?_⟩, q2⟩
  cases e with
  | exit id => exact absurd rfl (ne id)
  | normal => exact ⟨vs, q1, rfl⟩
  | ret => exact ⟨vs, q1, rfl⟩
theorem af_agg_iff {cs : Array Value} : Af (.agg cs) ↔ ∀ v ∈ cs, Af v := ⟨fun h => by cases h; assumption, .agg⟩
theorem af_tuple_iff {cs : Array Value} : Af (.tuple cs) ↔ ∀ v ∈ cs, Af v := ⟨fun h => by cases h; assumption, .tuple⟩
theorem startA_at {args : List Value} {x : Nat} : startA args x = args.getD x undef := rfl
theorem oneOf_two {x y : Value} : oneOf [x, y] = .tuple #[x, y] := rfl
theorem oneOf_three {x y z : Value} : oneOf [x, y, z] = .tuple #[x, y, z] := rfl
theorem mapM_two {P : Program} {s : Slots} {h : AH} {x y : Nat} : [ResultVar.tmp x, .tmp y].mapM (resA P s h) = some [s x, s y] := rfl
theorem mapM_three {P : Program} {s : Slots} {h : AH} {x y z : Nat} : [ResultVar.tmp x, .tmp y, .tmp z].mapM (resA P s h) = some [s x, s y, s z] := rfl
theorem mapM_one {P : Program} {s : Slots} {h : AH} {x : Nat} : [ResultVar.tmp x].mapM (resA P s h) = some [s x] := rfl
attribute [simp] gc_TB0 gc_T0 min_2 max_2 bits_i64 gc_same gc_app Af.int Af.bool Af.string Af.slice0 Af.func0 Af.iface0 Af.ptr0 af_agg_iff af_tuple_iff set_at startA_at oneOf_two oneOf_three mapM_two mapM_three mapM_one builtinA len_slice
attribute [simp ↓] slV_cells slV_one
attribute [simp ↓] W_seq W_cond' W_block W_region Wops_nil Wops_op Wops_guard W_skip W_exit W_ret thenQ_normal thenQ_ret thenQ_exit blockQ_normal blockQ_ret blockQ_exit endQ_ret endQ_normal endQ_exit endR_ret endR_normal endR_exit uOps_go uW_go uOp_go uB_go kMap_go kOps_plain kOps_draw
attribute [simp] bindQ_ite' bindQ_map caseQ_true caseQ_false condW_true condW_false condW_decide condW_not bin_add bin_sub bin_mul bin_quo bin_rem bin_shl bin_shr bin_lss bin_eql bin_neq bin_leq bin_gtr bin_geq un_neg un_not ev_tmp ev_const ev_func put_some put_none get_off get_at set_off set_end store_at load_ptr storeRow rowA splice partA Value.cells Value.oneCell' resA_tmp resA_cell oneOf_one guardB_some isB_bool isB_undef opA_pick pickV_true pickV_false pickV_decide
attribute [simp] okDraw Past.next isCall
attribute [simp] opA_move opA_assign opA_alloc opA_box opA_build opA_buildSlice opA_load opA_store opA_binOp opA_unOp opA_convert opA_makeFunc opA_makeSlice opA_slice opA_fieldAddr opA_field opA_indexAddr opA_index opA_range opA_next opA_builtin opA_extract opA_call opA_nilCheck callA_func extrA_tuple notNil_ptr notNil_func
attribute [simp low] condW_bool
attribute [congr] bindQ_congr caseQ_congr condW_congr
end Go.AM
