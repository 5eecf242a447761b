/- Every operation of the abstract machine against the machine's own. No condition. -/
import Derived.Test.YtamghkoanamapaaEh
namespace Go.AM
open Go.RowKit

section
variable {P : Program} {w0 : Ctx} {μ : Mp} {h : AH} {w : World}

theorem copyA_ok (H : HR w0 μ h w) {t : TypeId} {ts : Array TypeId} {ty : TypeId} {d d' x x' v : Value} {h' : AH} (ht : ts[0]? = some t) (hd : VR μ d d') (hx : VR μ x x') (e : copyA P h t d x = some (v, h')) :
    ∃ v' w', (Builtin.copy_ ts ty #[d', x']).run P w = .ok v' w' ∧ OK w0 μ h w v h' v' w' := by
  unfold copyA at e
  split at e
  · rename_i el db dn dc xb xn xc hu
    simp only [Option.bind_eq_some_iff] at e
    obtain ⟨k, hk, new, hnew, e⟩ := e
    obtain ⟨new', hn1, hn2⟩ := firstA_ok (P := P) H hx hnew
    have hlen : Builtin.lenOf x' = pure xn := by cases hx <;> rfl
    have hn1' := hn1 w fun _ => rfl
    split at e
    · cases e
      cases hd
      refine ⟨goInt (min xn dn : Nat), w, ?_, μ, Post.same H (VR.of_af (.int _ _))⟩
      simp only [Builtin.copy_, ht, List.getElem?_toArray, List.getElem?_cons_zero, List.getElem?_cons_succ, Sem.run_bind, r_und hu, Result.andThen_ok, hlen, Sem.run_pure, r_size hk]
      rw [show Nat.min xn dn = min xn dn from rfl, hn1']
      rfl
    · rename_i b oo
      obtain ⟨l, c', hib, rfl, -⟩ := hd.slice_inv
      split at e
      · rename_i h0
        subst h0
        cases e
        have := hn2.inv_nil; subst this
        refine ⟨goInt (min xn dn : Nat), w, ?_, μ, Post.same H (VR.of_af (.int _ _))⟩
        simp only [Builtin.copy_, ht, List.getElem?_toArray, List.getElem?_cons_zero, List.getElem?_cons_succ, Sem.run_bind, r_und hu, Result.andThen_ok, hlen, Sem.run_pure, r_size hk]
        rw [show Nat.min xn dn = min xn dn from rfl, hn1']
        rfl
      · rw [Option.map_eq_some_iff] at e
        obtain ⟨h2, he, e⟩ := e
        cases e
        obtain ⟨w', h1, h2⟩ := storeRow_ok (P := P) H hib hn2 he
        refine ⟨goInt (min xn dn : Nat), w', ?_, μ, h2 (VR.of_af (.int _ _))⟩
        simp only [Builtin.copy_, ht, List.getElem?_toArray, List.getElem?_cons_zero, List.getElem?_cons_succ, Sem.run_bind, r_und hu, Result.andThen_ok, hlen, Sem.run_pure, r_size hk]
        rw [show Nat.min xn dn = min xn dn from rfl, hn1']
        simp [h1]
    · cases e
  · cases e

theorem rangeA_ok (H : HR w0 μ h w) {t : TypeId} {x x' v : Value} {h' : AH} (hx : VR μ x x') (e : rangeA P h t x = some (v, h')) :
    ∃ v' w', (Instr.range t x').run P w = .ok v' w' ∧ OK w0 μ h w v h' v' w' := by
  unfold rangeA at e
  split at e
  · rename_i s hu
    cases e
    have := hx.string_inv; subst this
    refine ⟨.pointer (some ⟨w.heap.size, 0, none⟩), w.alloc (.stringIter s 0), by simp [Instr.range, r_und hu], _, Post.alloc H (.iter s 0) (.stringIter s 0) 0 0 ⟨rfl, rfl, rfl⟩ ?_⟩
    have := VR.ptr (μ := μ.upd h.length ⟨w.heap.size, 0, false, 0, w0.sz 0, 0⟩) (i := h.length) (o := 0) (l := ⟨w.heap.size, 0, false, 0, w0.sz 0, 0⟩) (by simp [Mp.upd])
    simpa using this
  · cases e

theorem Post.setObj (H : HR w0 μ h w) {i : Nat} {l : Loc} (hi : μ i = some l) (hro : l.ro = false) {old new : Blk} (ho : h[i]? = some old) (hnd : old ≠ .dead) {o : Obj} (hb : ObjR μ l new (some o)) {v v' : Value} (hv : VR μ v v') :
    Post w0 μ h w v (h.set i new) v' { w with heap := w.heap.setIfInBounds l.b o } μ := by
  have hih : i < h.length := (H.dom i l hi).1
  have hlb : l.b < w.heap.size := (H.dom i l hi).2
  have other : ∀ b, b ≠ l.b → (w.heap.setIfInBounds l.b o)[b]? = w.heap[b]? := fun b hb => Array.getElem?_setIfInBounds_ne (by omega)
  refine ⟨Mp.le_refl _, ⟨H.below.trans ⟨rfl, rfl, rfl, by simp, fun k hk => other k (by have := (H.own i l hi hro).1; omega)⟩, ?_, ?_, H.own, ?_⟩, hv, by simp, by simp, ?_, .refl H, fun j hj => ?_⟩
  rotate_right
  · by_cases hji : j = i
    · subst hji; rw [ho] at hj; cases hj; exact absurd rfl hnd
    · rw [List.getElem?_set_ne (by omega)]; exact hj
  · intro j k hj; simpa using H.dom j k hj
  · intro j k b hj hbk
    by_cases hji : j = i
    · subst hji
      have : l = k := by rw [hi] at hj; cases hj; rfl
      subst this
      rw [List.getElem?_set_self hih] at hbk
      cases hbk
      show ObjR μ l new (w.heap.setIfInBounds l.b o)[l.b]?
      rw [Array.getElem?_setIfInBounds_self_of_lt hlb]; exact hb
    · rw [List.getElem?_set_ne (by omega)] at hbk
      by_cases hkl : k.b = l.b
      · rcases Classical.em (b = .dead) with hd | hd
        · subst hd; trivial
        · exact absurd (H.one i j l k hi hj hkl.symm hro (by rw [ho]; simpa using hnd) (by rw [hbk]; simpa using hd)).symm hji
      · show ObjR μ k b (w.heap.setIfInBounds l.b o)[k.b]?
        rw [other _ hkl]; exact H.obj j k b hj hbk
  · intro a c la lc ha hc hb hr hda hdc
    refine H.one a c la lc ha hc hb hr ?_ ?_
    · intro hd; apply hda
      by_cases hai : a = i
      · subst hai; rw [ho] at hd; cases hd; exact absurd rfl hnd
      · rw [List.getElem?_set_ne (by omega)]; exact hd
    · intro hd; apply hdc
      by_cases hai : c = i
      · subst hai; rw [ho] at hd; cases hd; exact absurd rfl hnd
      · rw [List.getElem?_set_ne (by omega)]; exact hd
  · intro b _ hl
    refine other b fun hb => ?_
    have := hl i l hi hro hb.symm
    rw [ho] at this; cases this; exact hnd rfl

theorem nextA_ok (H : HR w0 μ h w) {x x' v : Value} {b : Bool} {ty : TypeId} {h' : AH} (hx : VR μ x x') (e : nextA h x b = some (v, h')) :
    ∃ v' w', (Instr.next x' b ty).run P w = .ok v' w' ∧ OK w0 μ h w v h' v' w' := by
  unfold nextA at e
  split at e
  · rename_i r
    split at e
    · rename_i s pos hr
      obtain ⟨l, hi, rfl⟩ := hx.ptr_inv
      obtain ⟨hro, hb0, hob⟩ := H.obj _ _ _ hi hr
      rw [hb0]
      have hg : (getObj l.b).run P w = .ok (.stringIter s pos) w := by simp [getObj, Sem.run, hob]
      split at e
      · rename_i hlt
        cases e
        refine ⟨.tuple #[.bool true, goInt pos, .int .i32 (Utf8.decode s pos).1], { w with heap := w.heap.setIfInBounds l.b (.stringIter s (pos + (Utf8.decode s pos).2)) }, ?_, μ, Post.setObj H hi hro hr (new := .iter s (pos + (Utf8.decode s pos).2)) (o := .stringIter s (pos + (Utf8.decode s pos).2)) (by simp) ⟨hro, hb0, rfl⟩ (VR.of_af (.tuple ?_))⟩
        · have hs : (setObj l.b (.stringIter s (pos + (Utf8.decode s pos).2))).run P w = .ok () { w with heap := w.heap.setIfInBounds l.b (.stringIter s (pos + (Utf8.decode s pos).2)) } := by simp [setObj, Sem.run, hob]
          simp only [Instr.next, Sem.run_bind, hg, Result.andThen_ok, if_pos hlt, hs, Sem.run_pure]
        · intro v hv
          simp only [List.mem_toArray, List.mem_cons, List.not_mem_nil, or_false] at hv
          rcases hv with rfl | rfl | rfl
          · exact .bool _
          · exact .int _ _
          · exact .int _ _
      · rename_i hlt
        cases e
        refine ⟨.tuple #[.bool false], w, ?_, μ, Post.same H (VR.of_af (.tuple fun v hv => by simp at hv; subst hv; exact .bool _))⟩
        simp only [Instr.next, Sem.run_bind, hg, Result.andThen_ok, if_neg hlt, Sem.run_pure]
    · cases e
  · cases e

/-- What a call of the abstract machine is worth. -/
def CallOK (P : Program) (w0 : Ctx) (call : Call) : Prop :=
  ∀ f args h v h', call f args h = some (v, h') → ∀ μ w args', HR w0 μ h w → VL μ args args' →
    Calls P f args'.toArray w fun e w' => match e with | .returned v' => OK w0 μ h w v h' v' w' | .outgrown => False | .panicked _ => False

/-- Operands that can be told: no address in a constant, no package-level variable. -/
def OpdOK : Operand → Prop
  | .const v => Af v
  | .global _ => False
  | _ => True

/-- Types and names that must be there. -/
def OpOK (P : Program) : Op → Prop
  | .convert s _ _ => ∃ u, P.underlying s = some u
  | _ => True

theorem OV.map {s : Slots} {a : Act} {x : Option Operand} (hx : ∀ y, x = some y → VR μ (ev s y) (a.eval y)) : OV μ (x.map (ev s)) (x.map a.eval) := by
  cases x with
  | none => exact ⟨fun v h => (by cases h), fun _ => rfl⟩
  | some y => exact ⟨fun v h => (by cases h; exact ⟨_, rfl, hx y rfl⟩), fun h => (by cases h)⟩

theorem VL.map {s : Slots} {a : Act} {xs : List Operand} (hx : ∀ y ∈ xs, VR μ (ev s y) (a.eval y)) : VL μ (xs.map (ev s)) (xs.map a.eval) := by
  induction xs with
  | nil => exact .nil
  | cons x xs ih => exact .cons (hx x (by simp)) (ih fun y hy => hx y (by simp [hy]))

theorem getD_map_toList {s : Slots} {a : Act} {xs : Array Operand} (hx : ∀ y ∈ xs.toList, VR μ (ev s y) (a.eval y)) (i : Nat) : VR μ ((xs.map (ev s)).getD i undef) ((xs.map a.eval).getD i undef) := by
  have := (VL.map hx).2 i
  simpa [Array.getD_eq_getD_getElem?, List.getD_eq_getElem?_getD] using this

theorem list_two {α : Type} {l : List α} {a b : α} (h : l = [a, b]) : l.toArray = #[a, b] := by rw [h]

theorem op_sound (fit : Fit P) (hszs : ∀ t n, sizeA P t = some n → w0.sz t = n) {call : Call} (hc : CallOK P w0 call)
    (hcf : ∀ f args h r, call f args h = some r → ∃ fn, P.funcs[f]? = some fn ∧ fn.name ≠ "runtime.NumGoroutine" ∧ fn.body.isSome = true)
    (H : HR w0 μ h w) {o : Oper} {s : Slots} {a : Act} (hx : ∀ y ∈ o.op.operands.toList, VR μ (ev s y) (a.eval y)) (hok : OpOK P o.op) {v : Value} {h' : AH} (e : opA P call o.op s h = some (v, h')) :
    Does P o a w (OK w0 μ h w v h') := by
  have val : ∀ {v v' : Value}, (execOp a.eval o).run P w = .ok (.value v') w → VR μ v v' → Does P o a w (OK w0 μ h w v h) := fun r hv => Does.value r ⟨μ, Post.same H hv⟩
  obtain ⟨dst, op, ty, pos, aft, gd⟩ := o
  dsimp only at hx hok e
  cases op with
  | move x =>
    simp only [opA, Option.some.injEq, Prod.mk.injEq] at e
    obtain ⟨rfl, rfl⟩ := e
    exact val (v' := a.eval x) (by simp [execOp]) (hx x (by simp [Op.operands]))
  | assign x =>
    simp only [opA, Option.some.injEq, Prod.mk.injEq] at e
    obtain ⟨rfl, rfl⟩ := e
    exact val (v' := a.eval x) (by simp [execOp]) (hx x (by simp [Op.operands]))
  | pick c x y =>
    have hcv := hx c (by simp [Op.operands])
    simp only [opA] at e
    split at e
    · rename_i hcb
      cases e
      rw [hcb] at hcv
      exact val (v' := a.eval x) (by simp [execOp, asBool, hcv.bool_inv]) (hx x (by simp [Op.operands]))
    · rename_i hcb
      cases e
      rw [hcb] at hcv
      exact val (v' := a.eval y) (by simp [execOp, asBool, hcv.bool_inv]) (hx y (by simp [Op.operands]))
    · cases e
  | alloc el =>
    simp only [opA, Option.map_eq_some_iff, Prod.mk.injEq] at e
    obtain ⟨z, hz, rfl, rfl⟩ := e
    obtain ⟨ν, hp⟩ := Post.row H (VL.refl_af (μ := μ) (af_cells (fit.zero _ _ hz))) el el
    exact Does.value (v := .pointer (some ⟨w.heap.size, 0, none⟩)) (w' := w.alloc (.cells z.cells el)) (by simp [execOp, Instr.alloc, r_zero hz, newVar, newRow]) ⟨ν, by simpa using hp⟩
  | box el x =>
    simp only [opA, Option.some.injEq, Prod.mk.injEq] at e
    obtain ⟨rfl, rfl⟩ := e
    obtain ⟨ν, hp⟩ := Post.row H (hx x (by simp [Op.operands])).cells el el
    exact Does.value (v := .pointer (some ⟨w.heap.size, 0, none⟩)) (w' := w.alloc (.cells (a.eval x).cells el)) (by simp [execOp, Instr.box, newVar, newRow]) ⟨ν, by simpa using hp⟩
  | build t parts =>
    simp only [opA, Option.map_eq_some_iff, Prod.mk.injEq] at e
    obtain ⟨v1, hv, rfl, rfl⟩ := e
    have hps : ∀ y ∈ parts.toList.map (·.2), VR μ (ev s y) (a.eval y) := fun y hy => hx y (by simpa [Op.operands] using hy)
    obtain ⟨v', h1, h2⟩ := buildA_ok (w := w) (μ := μ) fit (parts' := parts.toList.map fun p => (p.1, a.eval p.2)) (by simp) (by have := VL.map hps; simpa [Function.comp_def] using this) hv
    refine val ?_ h2
    have : parts.map (fun x => (x.1, a.eval x.2)) = (parts.toList.map fun p => (p.1, a.eval p.2)).toArray := by apply Array.ext'; simp
    simp only [execOp, this]
    simp [h1]
  | buildSlice t len parts =>
    simp only [opA] at e
    have hps : ∀ y ∈ parts.toList.map (·.2), VR μ (ev s y) (a.eval y) := fun y hy => hx y (by simpa [Op.operands] using hy)
    obtain ⟨v', w', h1, h2⟩ := buildSliceA_ok (w := w) (μ := μ) fit H (parts' := parts.toList.map fun p => (p.1, a.eval p.2)) (by simp) (by have := VL.map hps; simpa [Function.comp_def] using this) e
    refine Does.value ?_ h2
    have : parts.map (fun x => (x.1, a.eval x.2)) = (parts.toList.map fun p => (p.1, a.eval p.2)).toArray := by apply Array.ext'; simp
    simp only [execOp, this]
    simp [h1]
  | load t x =>
    simp only [opA, Option.map_eq_some_iff, Prod.mk.injEq] at e
    obtain ⟨v1, hv, rfl, rfl⟩ := e
    obtain ⟨v', h1, h2⟩ := loadA_ok H (hx x (by simp [Op.operands])) hv
    exact val (by simp [execOp, h1]) h2
  | store t x y =>
    simp only [opA, Option.map_eq_some_iff, Prod.mk.injEq] at e
    obtain ⟨h1, hv, rfl, rfl⟩ := e
    obtain ⟨w', h1, h2⟩ := storeA_ok H (hx x (by simp [Op.operands])) (hx y (by simp [Op.operands])) hv
    exact Does.skip (by simp [execOp, h1]) h2
  | nilCheck x =>
    have hv := hx x (by simp [Op.operands])
    simp only [opA] at e
    split at e
    · rename_i ad hxe
      cases e
      rw [hxe] at hv
      generalize hq : a.eval x = q at hv
      cases hv with
      | ptr hm => exact val (by simp [execOp, hq]) (.ptr hm)
    · rename_i f p q hxe
      cases e
      rw [hxe] at hv
      generalize hq : a.eval x = r at hv
      cases hv with
      | func _ h1 h2 h3 h4 => exact val (by simp [execOp, hq]) (.func _ h1 h2 h3 h4)
    · rename_i t u hxe
      cases e
      rw [hxe] at hv
      generalize hq : a.eval x = r at hv
      cases hv with
      | iface _ h1 => exact val (by simp [execOp, hq]) (.iface _ h1)
    · cases e
  | binOp op t x y yt =>
    simp only [opA, Option.map_eq_some_iff, Prod.mk.injEq] at e
    obtain ⟨v1, hv, rfl, rfl⟩ := e
    obtain ⟨h1, h2⟩ := binA_ok (w := w) (ox := x) (oy := y) (hx x (by simp [Op.operands])) (hx y (by simp [Op.operands])) hv
    exact val (by simp only [execOp]; rw [Sem.run_bind, h1]; rfl) (VR.of_af h2)
  | unOp op t x =>
    simp only [opA, Option.map_eq_some_iff, Prod.mk.injEq] at e
    obtain ⟨v1, hv, rfl, rfl⟩ := e
    obtain ⟨h1, h2⟩ := unA_ok (w := w) (hx x (by simp [Op.operands])) hv
    exact val (by simp [execOp, h1]) (VR.of_af h2)
  | convert sr d x =>
    simp only [opA, Option.map_eq_some_iff, Prod.mk.injEq] at e
    obtain ⟨v1, hv, rfl, rfl⟩ := e
    obtain ⟨h1, h2⟩ := convA_ok (w := w) hok (hx x (by simp [Op.operands])) hv
    exact val (by simp [execOp, h1]) (VR.of_af h2)
  | makeInterface t x =>
    simp only [opA] at e
    split at e
    · cases e
    · rename_i d hni hd
      cases e
      refine val (v' := .iface t (a.eval x)) ?_ (.iface t (hx x (by simp [Op.operands])))
      simp only [execOp, Instr.makeInterface, Sem.run_bind, r_und hd, Result.andThen_ok]
      cases d <;> first | rfl | exact absurd rfl (hni _)
    · cases e
  | makeFunc fn p q =>
    cases fn with
    | func f =>
      simp only [opA, Option.some.injEq, Prod.mk.injEq] at e
      obtain ⟨rfl, rfl⟩ := e
      refine val (v' := .func (.func f) (p.map a.eval) (q.map a.eval)) (by simp [execOp, Instr.makeFunc]) (.func f (by simp) (getD_map_toList fun y hy => hx y (by simp only [Op.operands, Array.toList_append, List.mem_append]; exact .inl hy)) (by simp) (getD_map_toList fun y hy => hx y (by simp only [Op.operands, Array.toList_append, List.mem_append]; exact .inr hy)))
    | _ => simp [opA] at e
  | makeSlice t l c =>
    simp only [opA] at e
    obtain ⟨v', w', h1, h2⟩ := makeSliceA_ok fit H (hx l (by simp [Op.operands])) (hx c (by simp [Op.operands])) e
    exact Does.value (by simp [execOp, h1]) h2
  | slice t x l r m =>
    simp only [opA, Option.map_eq_some_iff, Prod.mk.injEq] at e
    obtain ⟨v1, hv, rfl, rfl⟩ := e
    obtain ⟨v', h1, h2⟩ := sliceA_ok hszs H (hx x (by simp [Op.operands])) (OV.map fun y hy => hx y (by simp [Op.operands, hy])) (OV.map fun y hy => hx y (by simp [Op.operands, hy])) (OV.map fun y hy => hx y (by simp [Op.operands, hy])) hv
    exact val (by simp [execOp, h1]) h2
  | fieldAddr t x f =>
    simp only [opA, Option.map_eq_some_iff, Prod.mk.injEq] at e
    obtain ⟨v1, hv, rfl, rfl⟩ := e
    obtain ⟨v', h1, h2⟩ := fieldAddrA_ok (w := w) (hx x (by simp [Op.operands])) hv
    exact val (by simp [execOp, h1]) h2
  | field t x f =>
    simp only [opA, Option.map_eq_some_iff, Prod.mk.injEq] at e
    obtain ⟨v1, hv, rfl, rfl⟩ := e
    obtain ⟨v', h1, h2⟩ := fieldA_ok (w := w) (hx x (by simp [Op.operands])) hv
    exact val (by simp [execOp, h1]) h2
  | indexAddr t x y =>
    simp only [opA, Option.map_eq_some_iff, Prod.mk.injEq] at e
    obtain ⟨v1, hv, rfl, rfl⟩ := e
    obtain ⟨v', h1, h2⟩ := indexAddrA_ok (w := w) (hx x (by simp [Op.operands])) (hx y (by simp [Op.operands])) hv
    exact val (by simp [execOp, h1]) h2
  | index t x y =>
    simp only [opA, Option.map_eq_some_iff, Prod.mk.injEq] at e
    obtain ⟨v1, hv, rfl, rfl⟩ := e
    obtain ⟨v', h1, h2⟩ := indexA_ok (w := w) (hx x (by simp [Op.operands])) (hx y (by simp [Op.operands])) hv
    exact val (by simp [execOp, h1]) h2
  | extract x i =>
    have hv := hx x (by simp [Op.operands])
    simp only [opA] at e
    split at e
    · rename_i vs hxe
      rw [hxe] at hv
      simp only [Option.map_eq_some_iff, Prod.mk.injEq] at e
      obtain ⟨v1, hv1, rfl, rfl⟩ := e
      obtain ⟨cs', hq, hl⟩ := hv.tuple_inv
      obtain ⟨v', h1, h2⟩ := hl.get (i := i) (v := v1) (by simpa using hv1)
      have h1' : cs'[i]? = some v' := by simpa using h1
      exact val (by simp [execOp, Instr.extract, hq, h1']) h2
    · cases e
  | range t x =>
    simp only [opA] at e
    obtain ⟨v', w', h1, h2⟩ := rangeA_ok H (hx x (by simp [Op.operands])) e
    exact Does.value (by simp [execOp, h1]) h2
  | next x b =>
    simp only [opA] at e
    obtain ⟨v', w', h1, h2⟩ := nextA_ok (P := P) (ty := ty) H (hx x (by simp [Op.operands])) e
    exact Does.value (by simp [execOp, h1]) h2
  | call c =>
    obtain ⟨cl, args, ts⟩ := c
    cases cl with
    | builtin b =>
      have hargs : ∀ y ∈ args.toList, VR μ (ev s y) (a.eval y) := fun y hy => hx y (by simpa [Op.operands, Call.operands] using hy)
      simp only [opA] at e
      unfold builtinA at e
      split at e
      · rename_i x hxs
        obtain ⟨y, hy⟩ : ∃ y, args = #[y] := by
          obtain ⟨l⟩ := args
          match l, hxs with
          | [y], _ => exact ⟨y, rfl⟩
        subst hy
        simp at hxs; subst hxs
        simp only [Option.bind_eq_some_iff, Option.map_eq_some_iff, Prod.mk.injEq] at e
        obtain ⟨t, ht, v1, hv, rfl, rfl⟩ := e
        obtain ⟨h1, h2⟩ := lenA_ok (ty := ty) H ht (hargs y (by simp)) hv
        exact val (by simp [execOp, resolve, invoke, builtin, h1]) (VR.of_af h2)
      · rename_i x y hxs
        obtain ⟨p, q, hpq⟩ : ∃ p q, args = #[p, q] := by
          obtain ⟨l⟩ := args
          match l, hxs with
          | [p, q], _ => exact ⟨p, q, rfl⟩
        subst hpq
        simp at hxs; obtain ⟨rfl, rfl⟩ := hxs
        split at e
        · rename_i t xt hts
          have : ts = #[t, xt] := by rw [← Array.toArray_toList (xs := ts), hts]
          subst this
          exact appendA_ok hszs H (o := ⟨dst, _, ty, pos, aft, gd⟩) rfl (hargs p (by simp)) (hargs q (by simp)) e
        · cases e
      · rename_i x y hxs
        obtain ⟨p, q, hpq⟩ : ∃ p q, args = #[p, q] := by
          obtain ⟨l⟩ := args
          match l, hxs with
          | [p, q], _ => exact ⟨p, q, rfl⟩
        subst hpq
        simp at hxs; obtain ⟨rfl, rfl⟩ := hxs
        simp only [Option.bind_eq_some_iff] at e
        obtain ⟨t, ht, e⟩ := e
        obtain ⟨v', w', h1, h2⟩ := copyA_ok (ty := ty) H ht (hargs p (by simp)) (hargs q (by simp)) e
        exact Does.value (by simp [execOp, resolve, invoke, builtin, h1]) h2
      · simp only [Option.map_eq_some_iff, Prod.mk.injEq] at e
        obtain ⟨v1, hv, rfl, rfl⟩ := e
        obtain ⟨h1, h2, h3⟩ := minA_ok (w := w) (P := P) hv (ts := ts) (ty := ty)
        have := (VL.map hargs).af h3
        refine val ?_ (VR.of_af h2)
        have he : args.map a.eval = (args.toList.map (ev s)).toArray := by rw [← this]; apply Array.ext'; simp
        simp [execOp, resolve, invoke, builtin, he, h1]
      · simp only [Option.map_eq_some_iff, Prod.mk.injEq] at e
        obtain ⟨v1, hv, rfl, rfl⟩ := e
        obtain ⟨h1, h2, h3⟩ := maxA_ok (w := w) (P := P) hv (ts := ts) (ty := ty)
        have := (VL.map hargs).af h3
        refine val ?_ (VR.of_af h2)
        have he : args.map a.eval = (args.toList.map (ev s)).toArray := by rw [← this]; apply Array.ext'; simp
        simp [execOp, resolve, invoke, builtin, he, h1]
      · cases e
    | value f =>
      have hargs : ∀ y ∈ args.toList, VR μ (ev s y) (a.eval y) := fun y hy => hx y (by simp only [Op.operands, Call.operands, Array.toList_append, List.mem_append]; exact .inr hy)
      have hf := hx f (by simp [Op.operands, Call.operands])
      simp only [opA] at e
      split at e
      · rename_i g p q hfe
        rw [hfe] at hf
        generalize hq : a.eval f = r at hf
        cases hf with
        | func _ h1 h2 h3 h4 =>
          rename_i p' q'
          obtain ⟨fn, hfn, hname, hbody⟩ := hcf _ _ _ _ e
          have hcall := hc _ _ _ _ _ e μ w (p'.toList ++ args.toList.map a.eval ++ q'.toList) H (((VL.of_arr h1 h2).append (VL.map hargs)).append (VL.of_arr h3 h4))
          have hrun : (execOp a.eval ⟨dst, .call ⟨.value f, args, ts⟩, ty, pos, aft, gd⟩).run P w = .ok (.enter g (p'.toList ++ args.toList.map a.eval ++ q'.toList).toArray) w := by
            have hb : fn.body ≠ none := by cases hz : fn.body <;> simp_all
            have ha : (p' ++ args.map a.eval) ++ q' = (p'.toList ++ args.toList.map a.eval ++ q'.toList).toArray := by apply Array.ext'; simp
            simp [execOp, resolve, Deferred.ofValue, hq, invoke, callFunc, hfn, hname, hb, ha]
          intro next Q k
          refine .inl ?_
          unfold Oper.wp
          rw [hrun, Oper.upon_enter]
          refine hcall.mono fun en w' hr => ?_
          cases en with
          | returned v' => exact k _ _ hr
          | panicked c => exact hr.elim
          | outgrown => exact hr.elim
      · cases e
    | invoke r n => simp [opA] at e
  | _ => simp [opA] at e

end
end Go.AM
