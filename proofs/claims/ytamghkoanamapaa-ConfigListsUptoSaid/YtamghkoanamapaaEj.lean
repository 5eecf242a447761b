/- Regions in the order of the text. No condition. -/
import Derived.Test.YtamghkoanamapaaEi
namespace Go.AM
open Go.RowKit

/-- What a stretch of steps leaves alone. -/
structure Ext (μ : Mp) (h : AH) (w : World) (ν : Mp) (h' : AH) (w' : World) : Prop where
  le : μ.le ν
  len : h.length ≤ h'.length
  size : w.heap.size ≤ w'.heap.size
  leaves : Leaves μ h w w'
  fresh : Fresh μ ν h w
  dead : ∀ i : Nat, h[i]? = some .dead → h'[i]? = some .dead

section
variable {P : Program} {w0 : Ctx} {μ ν : Mp} {h h' : AH} {w w' : World}

theorem Post.ext {v v' : Value} (p : Post w0 μ h w v h' v' w' ν) : Ext μ h w ν h' w' := ⟨p.le, p.len, p.size, p.leaves, p.fresh, p.dead⟩
theorem Ext.post (x : Ext μ h w ν h' w') (H : HR w0 ν h' w') {v v' : Value} (hv : VR ν v v') : Post w0 μ h w v h' v' w' ν := ⟨x.le, H, hv, x.len, x.size, x.leaves, x.fresh, x.dead⟩
theorem Ext.refl (H : HR w0 μ h w) : Ext μ h w μ h w := ⟨Mp.le_refl _, Nat.le_refl _, Nat.le_refl _, .refl _ _ _, .refl H, fun _ h => h⟩

theorem Ext.trans {ξ : Mp} {h2 : AH} {w2 : World} (x : Ext μ h w ν h' w') (y : Ext ν h' w' ξ h2 w2) : Ext μ h w ξ h2 w2 := by
  refine ⟨Mp.le_trans x.le y.le, Nat.le_trans x.len y.len, Nat.le_trans x.size y.size, ?_, ?_, fun i hi => y.dead i (x.dead i hi)⟩
  · intro b hb hl
    rw [y.leaves b (by have := x.size; omega) ?_]
    · exact x.leaves b hb hl
    · intro i l hi hr hlb
      rcases x.fresh i l hi with ⟨h1, h2⟩ | ⟨h1, h2, h3⟩
      · exact x.dead i (hl i l h2 hr hlb)
      · rcases h3 with h3 | ⟨j, k, hj, hk, hkb, hd⟩
        · omega
        · exact absurd (hl j k hj hk (by omega)) hd
  · intro i l hi
    rcases y.fresh i l hi with ⟨h1, h2⟩ | ⟨h1, h2, h3⟩
    · exact x.fresh i l h2
    · refine .inr ⟨by have := x.len; omega, h2, ?_⟩
      rcases h3 with h3 | ⟨j, k, hj, hk, hkb, hd⟩
      · exact .inl (by have := x.size; omega)
      · rcases x.fresh j k hj with ⟨g1, g2⟩ | ⟨g1, g2, g3⟩
        · exact .inr ⟨j, k, g2, hk, hkb, fun hh => hd (x.dead j hh)⟩
        · rcases g3 with g3 | ⟨q, m, hq, hm, hmb, hdq⟩
          · exact .inl (by omega)
          · exact .inr ⟨q, m, hq, hm, by omega, hdq⟩

/-- The slots of the abstract machine against the machine's own. -/
structure SR (μ : Mp) (n : Nat) (s : Slots) (a : Act) : Prop where
  val : ∀ t, VR μ (s t) (a.tmps.getD t undef)
  size : n ≤ a.tmps.size
  defers : a.defers = []

theorem SR.mono {n : Nat} {s : Slots} {a : Act} (x : SR μ n s a) (hm : μ.le ν) : SR ν n s a := ⟨fun t => (x.val t).mono hm, x.size, x.defers⟩

theorem eval_ok {s : Slots} {a : Act} {y : Operand} (hy : OpdOK y) (hv : ∀ t, y = .tmp t → VR μ (s t) (a.tmps.getD t undef)) : VR μ (ev s y) (a.eval y) := by
  cases y with
  | tmp t => exact hv t rfl
  | const v => exact VR.of_af hy
  | global g => exact hy.elim
  | func f => exact .func f rfl (fun i => by simp; exact .undef) rfl (fun i => by simp; exact .undef)

theorem getD_put {tmps : Array Value} {d t : Nat} {v : Value} (hd : d < tmps.size) : (tmps.setIfInBounds d v).getD t undef = if t = d then v else tmps.getD t undef := by
  simp only [Array.getD_eq_getD_getElem?]
  by_cases h : t = d
  · subst h; simp [hd]
  · rw [Array.getElem?_setIfInBounds_ne (by omega), if_neg h]

theorem SR.put {n : Nat} {s : Slots} {a : Act} (x : SR μ n s a) {d : Option Nat} (hd : ∀ q, d = some q → q < n) {v v' : Value} (hv : VR μ v v') : SR μ n (s.put d v) (a.put d v') := by
  cases d with
  | none => exact x
  | some q =>
    have hq : q < a.tmps.size := Nat.lt_of_lt_of_le (hd q rfl) x.size
    refine ⟨fun t => ?_, by simpa [Act.put] using x.size, x.defers⟩
    simp only [Slots.put, Slots.set, Act.put]
    rw [getD_put hq]
    split
    · exact hv
    · exact x.val t

theorem wanted_ok {ops : Array Oper} {o : Oper} {s : Slots} {a : Act} (hv : ∀ j b d, o.guard = some (j, b) → (ops[j]?).bind (·.dst) = some d → VR μ (s d) (a.tmps.getD d undef)) :
    Region.wanted o (yielded ops a.tmps) = wantedA ops o s := by
  unfold Region.wanted wantedA
  cases hg : o.guard with
  | none => rfl
  | some jb =>
    obtain ⟨j, b⟩ := jb
    simp only
    unfold yielded
    cases hd : (ops[j]?).bind (·.dst) with
    | none => simp
    | some d =>
      have hvd := hv j b d hg hd
      simp only [Option.bind_some]
      have ht : a.tmps.getD d undef = (a.tmps[d]?).getD undef := by simp [Array.getD_eq_getD_getElem?]
      cases htd : a.tmps[d]? with
      | none =>
        rw [htd] at ht
        simp only [Option.getD_none] at ht
        rw [ht] at hvd
        generalize s d = x at hvd
        cases x <;> first | rfl | (cases hvd)
      | some u =>
        rw [htd] at ht
        simp only [Option.getD_some] at ht
        rw [ht] at hvd
        generalize s d = x at hvd
        cases hvd <;> rfl

/-- What is asked of a region's operations. -/
structure RegOK (P : Program) (n : Nat) (ops : Array Oper) : Prop where
  opd : ∀ (i : Nat) (o : Oper), ops[i]? = some o → ∀ y ∈ o.op.operands.toList, OpdOK y
  ok : ∀ (i : Nat) (o : Oper), ops[i]? = some o → OpOK P o.op
  dst : ∀ (i : Nat) (o : Oper), ops[i]? = some o → ∀ d, o.dst = some d → d < n

/-- All that an abstract call must be worth, in one. -/
structure Sound (P : Program) (w0 : Ctx) (call : Call) : Prop where
  fit : Fit P
  szs : ∀ t n, sizeA P t = some n → w0.sz t = n
  cok : CallOK P w0 call
  fn : ∀ f args h r, call f args h = some r → ∃ fn, P.funcs[f]? = some fn ∧ fn.name ≠ "runtime.NumGoroutine" ∧ fn.body.isSome = true

theorem runOps_seq {call : Call} (S : Sound P w0 call) {ops : Array Oper} {n : Nat} (R : RegOK P n ops) {Q : Exit → Act → World → Prop} :
    ∀ (l : List Oper) (st : Past) (i : Nat) (_ : ops.toList.drop i = l) {μ : Mp} {h : AH} {w : World} {s : Slots} {a : Act} (_ : HR w0 μ h w) (_ : SR μ n s a) {s' : Slots} {h' : AH}
      (_ : runOps P call ops false st l i s h = some (s', h')) (_ : ∀ ν a' w', Ext μ h w ν h' w' → HR w0 ν h' w' → SR ν n s' a' → Q .normal a' w'), wpOps P ops Q (List.range' i l.length) a w := by
  intro l
  induction l with
  | nil =>
    intro st i _ μ h w s a H X s' h' e k
    simp only [runOps, Option.some.injEq, Prod.mk.injEq] at e
    obtain ⟨rfl, rfl⟩ := e
    exact k μ a w (.refl H) H X
  | cons o l ih =>
    intro st i hl μ h w s a H X s' h' e k
    have hi : ops[i]? = some o := by
      have := congrArg (·[0]?) hl
      simpa [List.getElem?_drop] using this
    have hl' : ops.toList.drop (i + 1) = l := by
      have := congrArg (List.drop 1) hl
      simpa [List.drop_drop] using this
    have hvals : ∀ y ∈ o.op.operands.toList, VR μ (ev s y) (a.eval y) := fun y hy => eval_ok (R.opd i o hi y hy) fun t _ => X.val t
    have hw := wanted_ok (ops := ops) (o := o) (s := s) (a := a) (μ := μ) fun _ _ d _ _ => X.val d
    show wpOps P ops Q (i :: List.range' (i + 1) l.length) a w
    simp only [wpOps, hi]
    unfold runOps at e
    by_cases hwa : wantedA ops o s = true
    · rw [if_pos hwa] at e
      rw [hw, if_pos hwa]
      rw [Option.bind_eq_some_iff] at e
      obtain ⟨⟨v, h1⟩, he, e⟩ := e
      simp only [Bool.false_eq_true, false_implies, if_true] at e
      have hd := op_sound S.fit S.szs S.cok S.fn H (o := o) hvals (R.ok i o hi) he
      refine hd (wpOps P ops Q (List.range' (i + 1) l.length)) Q fun v' w' ⟨ν, p⟩ => ?_
      refine ih _ (i + 1) hl' p.hr ((X.mono p.le).put (R.dst i o hi) p.vr) e fun ξ a' w2 x H' X' => k ξ a' w2 (p.ext.trans x) H' X'
    · rw [if_neg hwa] at e
      rw [hw, if_neg hwa]
      exact ih _ (i + 1) hl' H (X.put (R.dst i o hi) .undef) e k

/-- An operation that looks at no memory. -/
theorem calm_sound {P : Program} {μ : Mp} {w : World} {call : Call} (fit : Fit P) {o : Oper} {s : Slots} {a : Act} (hcalm : calm o.op = true) (hx : ∀ y ∈ o.op.operands.toList, VR μ (ev s y) (a.eval y)) (hok : OpOK P o.op) {h h' : AH} {v : Value} (e : opA P call o.op s h = some (v, h')) :
    h' = h ∧ ∃ v', (execOp a.eval o).run P w = .ok (.value v') w ∧ VR μ v v' := by
  obtain ⟨dst, op, ty, pos, aft, gd⟩ := o
  dsimp only at hx hok e hcalm
  have val : ∀ {v v' : Value}, (execOp a.eval ⟨dst, op, ty, pos, aft, gd⟩).run P w = .ok (.value v') w → VR μ v v' → h = h ∧ ∃ v', (execOp a.eval ⟨dst, op, ty, pos, aft, gd⟩).run P w = .ok (.value v') w ∧ VR μ v v' := fun r hv => ⟨rfl, _, r, hv⟩
  cases op with
  | move x =>
    simp only [opA, Option.some.injEq, Prod.mk.injEq] at e
    obtain ⟨rfl, rfl⟩ := e
    exact val (v' := a.eval x) (by simp [execOp]) (hx x (by simp [Op.operands]))
  | assign x =>
    simp only [opA, Option.some.injEq, Prod.mk.injEq] at e
    obtain ⟨rfl, rfl⟩ := e
    exact val (v' := a.eval x) (by simp [execOp]) (hx x (by simp [Op.operands]))
  | pick c x y =>
    have hcv := hx c (by simp [Op.operands])
    simp only [opA] at e
    split at e
    · rename_i hcb
      cases e
      rw [hcb] at hcv
      exact val (v' := a.eval x) (by simp [execOp, asBool, hcv.bool_inv]) (hx x (by simp [Op.operands]))
    · rename_i hcb
      cases e
      rw [hcb] at hcv
      exact val (v' := a.eval y) (by simp [execOp, asBool, hcv.bool_inv]) (hx y (by simp [Op.operands]))
    · cases e
  | build t parts =>
    simp only [opA, Option.map_eq_some_iff, Prod.mk.injEq] at e
    obtain ⟨v1, hv, rfl, rfl⟩ := e
    have hps : ∀ y ∈ parts.toList.map (·.2), VR μ (ev s y) (a.eval y) := fun y hy => hx y (by simpa [Op.operands] using hy)
    obtain ⟨v', h1, h2⟩ := buildA_ok (w := w) (μ := μ) fit (parts' := parts.toList.map fun p => (p.1, a.eval p.2)) (by simp) (by have := VL.map hps; simpa [Function.comp_def] using this) hv
    refine val ?_ h2
    have : parts.map (fun x => (x.1, a.eval x.2)) = (parts.toList.map fun p => (p.1, a.eval p.2)).toArray := by apply Array.ext'; simp
    simp only [execOp, this]
    simp [h1]
  | nilCheck x =>
    have hv := hx x (by simp [Op.operands])
    simp only [opA] at e
    split at e
    · rename_i ad hxe
      cases e
      rw [hxe] at hv
      generalize hq : a.eval x = q at hv
      cases hv with
      | ptr hm => exact val (by simp [execOp, hq]) (.ptr hm)
    · rename_i f p q hxe
      cases e
      rw [hxe] at hv
      generalize hq : a.eval x = r at hv
      cases hv with
      | func _ h1 h2 h3 h4 => exact val (by simp [execOp, hq]) (.func _ h1 h2 h3 h4)
    · rename_i t u hxe
      cases e
      rw [hxe] at hv
      generalize hq : a.eval x = r at hv
      cases hv with
      | iface _ h1 => exact val (by simp [execOp, hq]) (.iface _ h1)
    · cases e
  | binOp op t x y yt =>
    simp only [opA, Option.map_eq_some_iff, Prod.mk.injEq] at e
    obtain ⟨v1, hv, rfl, rfl⟩ := e
    obtain ⟨h1, h2⟩ := binA_ok (w := w) (ox := x) (oy := y) (hx x (by simp [Op.operands])) (hx y (by simp [Op.operands])) hv
    exact val (by simp only [execOp]; rw [Sem.run_bind, h1]; rfl) (VR.of_af h2)
  | unOp op t x =>
    simp only [opA, Option.map_eq_some_iff, Prod.mk.injEq] at e
    obtain ⟨v1, hv, rfl, rfl⟩ := e
    obtain ⟨h1, h2⟩ := unA_ok (w := w) (hx x (by simp [Op.operands])) hv
    exact val (by simp [execOp, h1]) (VR.of_af h2)
  | convert sr d x =>
    simp only [opA, Option.map_eq_some_iff, Prod.mk.injEq] at e
    obtain ⟨v1, hv, rfl, rfl⟩ := e
    obtain ⟨h1, h2⟩ := convA_ok (w := w) hok (hx x (by simp [Op.operands])) hv
    exact val (by simp [execOp, h1]) (VR.of_af h2)
  | makeInterface t x =>
    simp only [opA] at e
    split at e
    · cases e
    · rename_i d hni hd
      cases e
      refine val (v' := .iface t (a.eval x)) ?_ (.iface t (hx x (by simp [Op.operands])))
      simp only [execOp, Instr.makeInterface, Sem.run_bind, r_und hd, Result.andThen_ok]
      cases d <;> first | rfl | exact absurd rfl (hni _)
    · cases e
  | makeFunc fn p q =>
    cases fn with
    | func f =>
      simp only [opA, Option.some.injEq, Prod.mk.injEq] at e
      obtain ⟨rfl, rfl⟩ := e
      refine val (v' := .func (.func f) (p.map a.eval) (q.map a.eval)) (by simp [execOp, Instr.makeFunc]) (.func f (by simp) (getD_map_toList fun y hy => hx y (by simp only [Op.operands, Array.toList_append, List.mem_append]; exact .inl hy)) (by simp) (getD_map_toList fun y hy => hx y (by simp only [Op.operands, Array.toList_append, List.mem_append]; exact .inr hy)))
    | _ => simp [opA] at e
  | fieldAddr t x f =>
    simp only [opA, Option.map_eq_some_iff, Prod.mk.injEq] at e
    obtain ⟨v1, hv, rfl, rfl⟩ := e
    obtain ⟨v', h1, h2⟩ := fieldAddrA_ok (w := w) (hx x (by simp [Op.operands])) hv
    exact val (by simp [execOp, h1]) h2
  | field t x f =>
    simp only [opA, Option.map_eq_some_iff, Prod.mk.injEq] at e
    obtain ⟨v1, hv, rfl, rfl⟩ := e
    obtain ⟨v', h1, h2⟩ := fieldA_ok (w := w) (hx x (by simp [Op.operands])) hv
    exact val (by simp [execOp, h1]) h2
  | indexAddr t x y =>
    simp only [opA, Option.map_eq_some_iff, Prod.mk.injEq] at e
    obtain ⟨v1, hv, rfl, rfl⟩ := e
    obtain ⟨v', h1, h2⟩ := indexAddrA_ok (w := w) (hx x (by simp [Op.operands])) (hx y (by simp [Op.operands])) hv
    exact val (by simp [execOp, h1]) h2
  | index t x y =>
    simp only [opA, Option.map_eq_some_iff, Prod.mk.injEq] at e
    obtain ⟨v1, hv, rfl, rfl⟩ := e
    obtain ⟨v', h1, h2⟩ := indexA_ok (w := w) (hx x (by simp [Op.operands])) (hx y (by simp [Op.operands])) hv
    exact val (by simp [execOp, h1]) h2
  | extract x i =>
    have hv := hx x (by simp [Op.operands])
    simp only [opA] at e
    split at e
    · rename_i vs hxe
      rw [hxe] at hv
      simp only [Option.map_eq_some_iff, Prod.mk.injEq] at e
      obtain ⟨v1, hv1, rfl, rfl⟩ := e
      obtain ⟨cs', hq, hl⟩ := hv.tuple_inv
      obtain ⟨v', h1, h2⟩ := hl.get (i := i) (v := v1) (by simpa using hv1)
      have h1' : cs'[i]? = some v' := by simpa using h1
      exact val (by simp [execOp, Instr.extract, hq, h1']) h2
    · cases e
  | call c =>
    obtain ⟨cl, args, ts⟩ := c
    cases cl with
    | builtin b =>
      have hargs : ∀ y ∈ args.toList, VR μ (ev s y) (a.eval y) := fun y hy => hx y (by simpa [Op.operands, Call.operands] using hy)
      cases b with
      | min =>
        simp only [opA, builtinA, Option.map_eq_some_iff, Prod.mk.injEq] at e
        obtain ⟨v1, hv, rfl, rfl⟩ := e
        obtain ⟨h1, h2, h3⟩ := minA_ok (w := w) (P := P) hv (ts := ts) (ty := ty)
        have := (VL.map hargs).af h3
        refine val ?_ (VR.of_af h2)
        have he : args.map a.eval = (args.toList.map (ev s)).toArray := by rw [← this]; apply Array.ext'; simp
        simp [execOp, resolve, invoke, builtin, he, h1]
      | max =>
        simp only [opA, builtinA, Option.map_eq_some_iff, Prod.mk.injEq] at e
        obtain ⟨v1, hv, rfl, rfl⟩ := e
        obtain ⟨h1, h2, h3⟩ := maxA_ok (w := w) (P := P) hv (ts := ts) (ty := ty)
        have := (VL.map hargs).af h3
        refine val ?_ (VR.of_af h2)
        have he : args.map a.eval = (args.toList.map (ev s)).toArray := by rw [← this]; apply Array.ext'; simp
        simp [execOp, resolve, invoke, builtin, he, h1]
      | _ => cases hcalm
    | _ => cases hcalm
  | _ => cases hcalm

end
end Go.AM
