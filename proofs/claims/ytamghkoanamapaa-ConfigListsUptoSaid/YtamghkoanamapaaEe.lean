/- Each operation of the abstract machine against the machine's own: those that make no memory. No condition. -/
import Derived.Test.YtamghkoanamapaaEd
namespace Go.AM
open Go.RowKit

/-- What is asked of the program's tables. -/
structure Fit (P : Program) : Prop where
  mixed : P.follows .mixedOrders = true

theorem Fit.zero {P : Program} (_ : Fit P) : ∀ t z, zeroA P t = some z → Af z := by
  intro t z h
  unfold zeroA at h
  rw [Option.bind_eq_some_iff] at h
  obtain ⟨i, -, h⟩ := h
  exact (zeroI_spec h).2

section
variable {P : Program} {w : World}

theorem r_und {t : TypeId} {d : TypeDesc} (h : P.underlying t = some d) : (underlying t).run P w = .ok d w := by simp [underlying, h]
theorem r_info {t : TypeId} {d : TypeInfo} (h : P.info? t = some d) : (typeInfo t).run P w = .ok d w := by simp [typeInfo, h]
theorem r_size {t : TypeId} {n : Nat} (h : sizeA P t = some n) : (sizeOf t).run P w = .ok n w := by
  unfold sizeA at h; rw [Option.map_eq_some_iff] at h; obtain ⟨i, hi, rfl⟩ := h
  simp [sizeOf, r_info hi]
theorem r_zero {t : TypeId} {z : Value} (h : zeroA P t = some z) : (zeroValue t).run P w = .ok z w := by
  unfold zeroA at h; rw [Option.bind_eq_some_iff] at h; obtain ⟨i, hi, hz⟩ := h; have hz := (zeroI_spec hz).1
  simp [zeroValue, r_info hi, hz]
theorem r_isAgg {t : TypeId} {b : Bool} (h : isAggA P t = some b) : (isAgg t).run P w = .ok b w := by
  unfold isAggA at h
  split at h
  · rename_i f hu; cases h; simp [isAgg, r_und hu]
  · rename_i f g hu; cases h; simp [isAgg, r_und hu]
  · rename_i d h1 h2 hu
    cases h
    simp only [isAgg, Sem.run_bind, r_und hu, Result.andThen_ok]
    cases d <;> first | rfl | exact (h1 _ rfl).elim | exact (h2 _ _ rfl).elim
  · cases h

theorem extract_toArray (cs : List Value) (o n : Nat) : cs.toArray.extract o (o + n) = ((cs.drop o).take n).toArray := by
  apply Array.ext'
  simp [List.extract_eq_take_drop]

theorem partA_ok {t : TypeId} {cs cs' : List Value} {off : Nat} {v : Value} {μ : Mp} (e : partA P t cs off = some v) (h : VL μ cs cs') :
    ∃ v', (part t cs'.toArray off).run P w = .ok v' w ∧ VR μ v v' := by
  unfold partA at e
  rw [Option.bind_eq_some_iff] at e
  obtain ⟨b, hb, e⟩ := e
  cases b with
  | true =>
    simp only [if_true, Option.bind_eq_some_iff] at e
    obtain ⟨n, hn, e⟩ := e
    split at e
    · cases e
      refine ⟨.agg ((cs'.drop off).take n).toArray, ?_, ((h.drop off).take n).arr⟩
      simp [part, r_isAgg hb, r_size hn]
    · cases e
  | false =>
    simp only [Bool.false_eq_true, if_false] at e
    obtain ⟨v', h1, h2⟩ := h.get e
    exact ⟨v', by simp [part, r_isAgg hb, h1], h2⟩

theorem VR.ptr_inv {μ : Mp} {i o : Nat} {y : Value} (h : VR μ (.pointer (some ⟨i, o, none⟩)) y) : ∃ l, μ i = some l ∧ y = .pointer (some ⟨l.b, l.base + o, none⟩) := by
  cases h; exact ⟨_, by assumption, rfl⟩
theorem VR.agg_inv {μ : Mp} {cs : Array Value} {y : Value} (h : VR μ (.agg cs) y) : ∃ cs', y = .agg cs' ∧ VL μ cs.toList cs'.toList := by
  cases h; exact ⟨_, rfl, VL.of_arr (by assumption) (by assumption)⟩
theorem VR.tuple_inv {μ : Mp} {cs : Array Value} {y : Value} (h : VR μ (.tuple cs) y) : ∃ cs', y = .tuple cs' ∧ VL μ cs.toList cs'.toList := by
  cases h with
  | undef => exact ⟨_, rfl, VL.nil⟩
  | tuple a b => exact ⟨_, rfl, VL.of_arr a b⟩
theorem VR.int_inv {μ : Mp} {k : IntKind} {n : Int} {y : Value} (h : VR μ (.int k n) y) : y = .int k n := by cases h; rfl
theorem VR.bool_inv {μ : Mp} {b : Bool} {y : Value} (h : VR μ (.bool b) y) : y = .bool b := by cases h; rfl
theorem VR.string_inv {μ : Mp} {b : ByteArray} {y : Value} (h : VR μ (.string b) y) : y = .string b := by cases h; rfl

/-- A slice against its own: the machine's may have more room. -/
theorem VR.slice_inv {μ : Mp} {i o n c : Nat} {y : Value} (h : VR μ (.slice (some ⟨i, o, none⟩) n c) y) :
    ∃ l c', μ i = some l ∧ y = .slice (some ⟨l.b, l.base + o, none⟩) n c' ∧ c ≤ c' ∧ (c = 0 → c' = 0) ∧ (l.ro = true → c' = c) ∧ (c' = c ∨ l.base + o + c' * l.k ≤ l.n) := by
  cases h with
  | slice h h0 hc hr hn => exact ⟨_, _, h, rfl, hc, fun e => by omega, hr, hn⟩
  | empty h => exact ⟨_, 0, h, rfl, Nat.le_refl _, fun _ => rfl, fun _ => rfl, .inl rfl⟩

theorem loadA_ok {w0 : Ctx} {μ : Mp} {h : AH} (H : HR w0 μ h w) {t : TypeId} {x x' v : Value} (hx : VR μ x x') (e : loadA P h t x = some v) :
    ∃ v', (Instr.loadAt t x').run P w = .ok v' w ∧ VR μ v v' := by
  unfold loadA at e
  split at e
  · rename_i i o
    rw [Option.bind_eq_some_iff] at e
    obtain ⟨C, hC, e⟩ := e
    obtain ⟨l, hi, rfl⟩ := hx.ptr_inv
    unfold partA at e
    rw [Option.bind_eq_some_iff] at e
    obtain ⟨b, hb, e⟩ := e
    cases b with
    | true =>
      simp only [if_true, Option.bind_eq_some_iff] at e
      obtain ⟨n, hn, e⟩ := e
      split at e
      · cases e
        obtain ⟨c, h1, h2, h3⟩ := H.cells hi hC o n (by assumption)
        refine ⟨.agg c.toArray, ?_, h3.arr⟩
        simp [Instr.loadAt, Instr.sureAddr, loadVar, r_isAgg hb, r_size hn, run_loadCells c h1 h2]
      · cases e
    | false =>
      simp only [Bool.false_eq_true, if_false] at e
      obtain ⟨v', h1, h2⟩ := H.cell hi hC e
      exact ⟨v', by simp [Instr.loadAt, Instr.sureAddr, loadVar, r_isAgg hb, h1], h2⟩
  · cases e

theorem addr_add (b o n : Nat) : Addr.add ⟨b, o, none⟩ n = ⟨b, o + n, none⟩ := by unfold Addr.add; split <;> simp_all

theorem fieldAddrA_ok {μ : Mp} {t : TypeId} {x x' v : Value} {f : Nat} (hx : VR μ x x') (e : fieldAddrA P t x f = some v) :
    ∃ v', (Instr.fieldAt t x' f).run P w = .ok v' w ∧ VR μ v v' := by
  unfold fieldAddrA at e
  split at e
  · rename_i fs i o hu
    simp only [Option.bind_eq_some_iff] at e
    obtain ⟨fd, hf, n, hn, e⟩ := e
    split at e
    · cases e
    · rename_i hn0
      cases e
      obtain ⟨l, hi, rfl⟩ := hx.ptr_inv
      refine ⟨.pointer (some ⟨l.b, l.base + (o + fd.offset), none⟩), ?_, .ptr hi⟩
      simp [Instr.fieldAt, r_und hu, hf, Instr.sureAddr, fieldPlace, r_size hn, hn0, addr_add, Nat.add_assoc]
  · cases e

theorem fieldA_ok {μ : Mp} {t : TypeId} {x x' v : Value} {f : Nat} (hx : VR μ x x') (e : fieldA P t x f = some v) :
    ∃ v', (Instr.field t x' f).run P w = .ok v' w ∧ VR μ v v' := by
  unfold fieldA at e
  split at e
  · rename_i fs cs hu
    simp only [Option.bind_eq_some_iff] at e
    obtain ⟨fd, hf, e⟩ := e
    obtain ⟨cs', rfl, hl⟩ := hx.agg_inv
    obtain ⟨v', h1, h2⟩ := partA_ok (w := w) e hl
    refine ⟨v', ?_, h2⟩
    simpa [Instr.field, r_und hu, hf, asAgg] using h1
  · cases e

theorem indexAddrA_ok {μ : Mp} {t : TypeId} {x x' y y' v : Value} (hx : VR μ x x') (hy : VR μ y y') (e : indexAddrA P t x y = some v) :
    ∃ v', (Instr.indexAt t x' y').run P w = .ok v' w ∧ VR μ v v' := by
  unfold indexAddrA at e
  split at e
  · rename_i el i o len c k n hu
    split at e
    · rename_i hn
      rw [Option.map_eq_some_iff] at e
      obtain ⟨q, hq, rfl⟩ := e
      obtain ⟨l, c', hi, rfl, -⟩ := hx.slice_inv
      have := hy.int_inv; subst this
      refine ⟨.pointer (some ⟨l.b, l.base + (o + n.toNat * q), none⟩), ?_, .ptr hi⟩
      simp [Instr.indexAt, asIntOf, r_und hu, hn, r_size hq, addr_add, Nat.add_assoc]
    · cases e
  · rename_i len el i o k n hu
    split at e
    · rename_i hn
      rw [Option.map_eq_some_iff] at e
      obtain ⟨q, hq, rfl⟩ := e
      obtain ⟨l, hi, rfl⟩ := hx.ptr_inv
      have := hy.int_inv; subst this
      refine ⟨.pointer (some ⟨l.b, l.base + (o + n.toNat * q), none⟩), ?_, .ptr hi⟩
      simp [Instr.indexAt, asIntOf, r_und hu, hn, r_size hq, addr_add, Nat.add_assoc, Instr.sureAddr]
    · cases e
  · cases e

theorem indexA_ok {μ : Mp} {t : TypeId} {x x' y y' v : Value} (hx : VR μ x x') (hy : VR μ y y') (e : indexA P t x y = some v) :
    ∃ v', (Instr.index t x' y').run P w = .ok v' w ∧ VR μ v v' := by
  unfold indexA at e
  split at e
  · rename_i len el cs k n hu
    split at e
    · rename_i hn
      rw [Option.bind_eq_some_iff] at e
      obtain ⟨q, hq, e⟩ := e
      obtain ⟨cs', rfl, hl⟩ := hx.agg_inv
      have := hy.int_inv; subst this
      obtain ⟨v', h1, h2⟩ := partA_ok (w := w) e hl
      refine ⟨v', ?_, h2⟩
      simpa [Instr.index, asIntOf, r_und hu, hn, r_size hq] using h1
    · cases e
  · rename_i s k n hu
    split at e
    · rename_i hn
      rw [Option.map_eq_some_iff] at e
      obtain ⟨q, hq, rfl⟩ := e
      have := hx.string_inv; subst this
      have := hy.int_inv; subst this
      exact ⟨.int .u8 q.toNat, by simp [Instr.index, asIntOf, r_und hu, hn, hq], .int _ _⟩
    · cases e
  · cases e

theorem binA_ok {μ : Mp} {op : BinOp} {t : TypeId} {ox oy : Operand} {x x' y y' v : Value} (hx : VR μ x x') (hy : VR μ y y') (e : binA P op t x y = some v) :
    (do eqGuard op t ox oy x' y'; binOp op t x' y' : Sem Value).run P w = .ok v w ∧ Af v := by
  unfold binA at e
  split at e
  · rename_i k a k' b
    have := hx.int_inv; subst this
    have := hy.int_inv; subst this
    obtain ⟨h1, h2⟩ := WI.binInt.still e
    refine ⟨?_, h1⟩
    have : eqGuard op t ox oy (.int k a) (.int k' b) = pure () := by unfold eqGuard; cases op <;> rfl
    rw [this]; simpa using h2 w
  · rename_i a b
    have := hx.string_inv; subst this
    have := hy.string_inv; subst this
    obtain ⟨h1, h2⟩ := WI.binStr.still e
    refine ⟨?_, h1⟩
    have : eqGuard op t ox oy (.string a) (.string b) = pure () := by unfold eqGuard; cases op <;> rfl
    rw [this]; simpa using h2 w
  · cases e
  · rename_i n1 n2 n3
    split at e
    · rename_i ho
      have hn : ¬ (x' = .nilIface ∧ y' = .nilIface) := by
        rintro ⟨rfl, rfl⟩; cases hx; cases hy; exact n3 rfl rfl
      split at e
      · rename_i hf
        have ex := hx.eq_of_af hf.1
        have ey := hy.eq_of_af hf.2
        subst ex; subst ey
        have hb : binOp op t x' y' = (do pure (.bool (eqRes op (← Op.equal t x' y'))) : Sem Value) := by
          obtain ⟨a1, a2⟩ := hf
          rcases ho with rfl | rfl <;> cases x' <;> cases y' <;> first
            | rfl
            | exact (n1 _ _ _ _ rfl rfl).elim
            | exact (n2 _ _ rfl rfl).elim
            | (cases a1; done)
        have hw : WI (do eqGuard op t (.tmp 0) (.tmp 0) x' y'; pure (.bool (eqRes op (← Op.equal t x' y'))) : Sem Value) Af :=
          WI.bind (WI.eqGuardAgg ho hf.1 hf.2 hn) fun _ _ => WI.bind (WI.equalIn _ _ _ _ hf.1 hf.2) fun _ _ => WI.pure (.bool _)
        obtain ⟨h1, h2⟩ := hw.still e
        refine ⟨?_, h1⟩
        rw [hb, eqGuard_any ho (x' := .tmp 0) (y' := .tmp 0) hn]; exact h2 w
      · split at e
        · rename_i hnaf hone
          clear hnaf
          cases e
          refine ⟨?_, .bool _⟩
          have hb : binOp op t x' y' = (do pure (.bool (eqRes op (← Op.equal t x' y'))) : Sem Value) ∧ eqGuard op t ox oy x' y' = pure () ∧ (Op.equal t x' y').run P w = .ok (isNil x && isNil y) w := by
            unfold oneNil at hone
            split at hone <;> first
              | (rename_i hu; cases hx <;> cases hy <;> rcases ho with rfl | rfl <;> exact ⟨rfl, rfl, by show (Op.equalIn (9999 + 1) t _ _).run P w = _; unfold Op.equalIn; rw [Sem.run_bind, r_und hu]; rfl⟩)
              | cases hone
          obtain ⟨h1, h2, h3⟩ := hb
          rw [h1, h2]
          simp [h3]
        · cases e
    · cases e

theorem unA_ok {μ : Mp} {op : UnOp} {x x' v : Value} (hx : VR μ x x') (e : unA P op x = some v) : (Op.unary op x').run P w = .ok v w ∧ Af v := by
  unfold unA at e
  split at e
  · rename_i hf
    have ex := hx.eq_of_af hf; subst ex
    obtain ⟨h1, h2⟩ := (WI.unary hf).still e
    exact ⟨h2 w, h1⟩
  · cases e

theorem convA_ok {μ : Mp} {s d : TypeId} {x x' v : Value} (hs : ∃ u, P.underlying s = some u) (hx : VR μ x x') (e : convA P d x = some v) : (convert s d x').run P w = .ok v w ∧ Af v := by
  obtain ⟨u, hs⟩ := hs
  unfold convA at e
  split at e
  · rename_i k k' n hu
    cases e
    have := hx.int_inv; subst this
    refine ⟨?_, .int _ _⟩
    simp [convert, r_und hs, r_und hu, Conv.intToInt]
  · rename_i b hu
    cases e
    have := hx.string_inv; subst this
    refine ⟨?_, .string _⟩
    simp [convert, r_und hs, r_und hu]
  · cases e

theorem lenA_ok {w0 : Ctx} {μ : Mp} {h : AH} (H : HR w0 μ h w) {t : TypeId} {ts : Array TypeId} {ty : TypeId} {x x' v : Value} (ht : ts[0]? = some t) (hx : VR μ x x') (e : lenA P t x h = some v) :
    (Builtin.len_ ts ty #[x']).run P w = .ok v w ∧ Af v := by
  unfold lenA at e
  split at e
  · rename_i s hu
    cases e
    have := hx.string_inv; subst this
    exact ⟨by simp [Builtin.len_, ht, r_und hu, goInt], .int _ _⟩
  · rename_i n el hu
    cases e
    exact ⟨by simp [Builtin.len_, ht, r_und hu, goInt], .int _ _⟩
  · rename_i el a n c hu
    cases e
    refine ⟨?_, .int _ _⟩
    cases hx <;> simp [Builtin.len_, ht, r_und hu, goInt]
  · rename_i k el hu
    cases e
    cases hx
    exact ⟨by simp [Builtin.len_, ht, r_und hu, goInt], .int _ _⟩
  · rename_i k el r hu
    split at e
    · rename_i es hes
      cases e
      cases hx with
      | map hm =>
        rename_i l
        obtain ⟨-, es', cl, h2, h3, -⟩ := H.obj _ _ _ hm hes
        refine ⟨?_, .int _ _⟩
        have : (getObj l.b).run P w = .ok (.map es' cl) w := by simp [getObj, Sem.run, h2]
        simp [Builtin.len_, ht, r_und hu, goInt, this, h3]
    · cases e
  · cases e

theorem minA_ok {args : List Value} {v : Value} (e : minA args = some v) {ts : Array TypeId} {ty : TypeId} : (Builtin.min_ ts ty args.toArray).run P w = .ok v w ∧ Af v ∧ ∀ x ∈ args, Af x := by
  unfold minA at e
  split at e
  · cases e
  · rename_i k x rest
    have key : ∀ (rest : List Value) (k : IntKind) (x : Int) (v : Value), rest.foldlM (fun a b => match a, b with | .int k x, .int _ y => some (.int k (if y < x then y else x)) | _, _ => none) (.int k x) = some v →
        (rest.foldlM Builtin.min2 (.int k x)).run P w = .ok v w ∧ Af v ∧ ∀ y ∈ rest, Af y := by
      intro rest
      induction rest with
      | nil => intro k x v e; simp at e; subst e; exact ⟨rfl, .int _ _, by simp⟩
      | cons y rest ih =>
        intro k x v e
        rw [List.foldlM_cons] at e
        cases y with
        | int k' y =>
          obtain ⟨h1, h2, h3⟩ := ih k (if y < x then y else x) v e
          refine ⟨?_, h2, by simpa using ⟨.int _ _, h3⟩⟩
          rw [List.foldlM_cons]
          simpa [Builtin.min2] using h1
        | _ => simp at e
    obtain ⟨h1, h2, h3⟩ := key rest k x v e
    exact ⟨by simpa [Builtin.min_] using h1, h2, by simpa using ⟨.int _ _, h3⟩⟩
  · cases e

theorem maxA_ok {args : List Value} {v : Value} (e : maxA args = some v) {ts : Array TypeId} {ty : TypeId} : (Builtin.max_ ts ty args.toArray).run P w = .ok v w ∧ Af v ∧ ∀ x ∈ args, Af x := by
  unfold maxA at e
  split at e
  · cases e
  · rename_i k x rest
    have key : ∀ (rest : List Value) (k : IntKind) (x : Int) (v : Value), rest.foldlM (fun a b => match a, b with | .int k x, .int _ y => some (.int k (if y > x then y else x)) | _, _ => none) (.int k x) = some v →
        (rest.foldlM Builtin.max2 (.int k x)).run P w = .ok v w ∧ Af v ∧ ∀ y ∈ rest, Af y := by
      intro rest
      induction rest with
      | nil => intro k x v e; simp at e; subst e; exact ⟨rfl, .int _ _, by simp⟩
      | cons y rest ih =>
        intro k x v e
        rw [List.foldlM_cons] at e
        cases y with
        | int k' y =>
          obtain ⟨h1, h2, h3⟩ := ih k (if y > x then y else x) v e
          refine ⟨?_, h2, by simpa using ⟨.int _ _, h3⟩⟩
          rw [List.foldlM_cons]
          simpa [Builtin.max2] using h1
        | _ => simp at e
    obtain ⟨h1, h2, h3⟩ := key rest k x v e
    exact ⟨by simpa [Builtin.max_] using h1, h2, by simpa using ⟨.int _ _, h3⟩⟩
  · cases e

theorem VL.af {μ : Mp} {a b : List Value} (h : VL μ a b) (ha : ∀ x ∈ a, Af x) : b = a := by
  induction a generalizing b with
  | nil => exact h.inv_nil
  | cons x a ih =>
    obtain ⟨y, b', rfl, h1, h2⟩ := h.inv
    rw [h1.eq_of_af (ha x (by simp)), ih h2 (fun z hz => ha z (by simp [hz]))]

end
end Go.AM
