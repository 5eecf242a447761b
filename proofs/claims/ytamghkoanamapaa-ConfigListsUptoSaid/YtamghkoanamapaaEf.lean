/- Each operation of the abstract machine against the machine's own: those that make memory or write it. No condition. -/
import Derived.Test.YtamghkoanamapaaEe
namespace Go.AM
open Go.RowKit

section
variable {P : Program} {w0 : Ctx} {μ : Mp} {h : AH} {w : World}

/-- What an operation comes to: R holds of its value and the world behind it. -/
def Does (P : Program) (o : Oper) (a : Act) (w : World) (R : Value → World → Prop) : Prop :=
  ∀ (next : Act → World → Prop) (Q : Exit → Act → World → Prop), (∀ v w', R v w' → next (a.put o.dst v) w') → o.wp P a w next Q ∨ (o.asks P a w ∧ LetsOut Q)

theorem Does.value {o : Oper} {a : Act} {R : Value → World → Prop} {v : Value} {w' : World} (e : (execOp a.eval o).run P w = .ok (.value v) w') (r : R v w') : Does P o a w R :=
  fun next Q k => .inl (by unfold Oper.wp; rw [e]; exact k _ _ r)
theorem Does.skip {o : Oper} {a : Act} {R : Value → World → Prop} {w' : World} (e : (execOp a.eval o).run P w = .ok .skip w') (r : R undef w') : Does P o a w R :=
  fun next Q k => .inl (by unfold Oper.wp; rw [e]; exact k _ _ r)
theorem Does.mono {o : Oper} {a : Act} {R S : Value → World → Prop} (d : Does P o a w R) (g : ∀ v w', R v w' → S v w') : Does P o a w S :=
  fun next Q k => d next Q fun v w' r => k v w' (g v w' r)

abbrev OK (w0 : Ctx) (μ : Mp) (h : AH) (w : World) (v : Value) (h' : AH) : Value → World → Prop := fun v' w' => ∃ ν, Post w0 μ h w v h' v' w' ν

theorem objR_new {C C' : List Value} {e e' : TypeId} (hv : VL μ C C') {n k : Nat} : ObjR μ ⟨n, 0, false, e, k, C'.length⟩ (.cells C e false) (some (.cells C'.toArray e')) := by
  refine ⟨rfl, fun _ => rfl, _, e', (0, 0), rfl, by simp, by simp [hv.1], fun j hj => ?_, fun _ => rfl, fun _ hC => ?_⟩
  · have := hv.2 j
    simpa [Array.getD_eq_getD_getElem?, List.getD_eq_getElem?_getD] using this
  · subst hC; simpa using hv.1.symm

theorem VL.refl_af {a : List Value} (ha : ∀ x ∈ a, Af x) : VL μ a a := by
  induction a with
  | nil => exact .nil
  | cons x a ih => exact .cons (VR.of_af (ha x (by simp))) (ih fun y hy => ha y (by simp [hy]))

theorem af_cells {v : Value} (h : Af v) : ∀ x ∈ v.cells.toList, Af x := by
  intro x hx
  cases h with
  | agg g => exact g x (by simpa [Value.cells] using hx)
  | _ => simp only [Value.cells, List.mem_singleton] at hx; subst hx; first | (constructor; done) | (constructor <;> assumption)

/-- A new row with an address to it. -/
theorem Post.row (H : HR w0 μ h w) {C C' : List Value} (hv : VL μ C C') (e e' : TypeId) :
    OK w0 μ h w (.pointer (some ⟨h.length, 0, none⟩)) (h ++ [.cells C e false]) (.pointer (some ⟨w.heap.size, 0, none⟩)) (w.alloc (.cells C'.toArray e')) :=
  ⟨_, Post.alloc H _ _ e C'.length (objR_new hv) (by have := VR.ptr (μ := μ.upd h.length ⟨w.heap.size, 0, false, e, w0.sz e, C'.length⟩) (i := h.length) (o := 0) (l := ⟨w.heap.size, 0, false, e, w0.sz e, C'.length⟩) (by simp [Mp.upd]); simpa using this)⟩

theorem Post.newSlice (H : HR w0 μ h w) {C C' : List Value} (hv : VL μ C C') (e e' : TypeId) (n c : Nat) :
    OK w0 μ h w (.slice (some ⟨h.length, 0, none⟩) n c) (h ++ [.cells C e false]) (.slice (some ⟨w.heap.size, 0, none⟩) n c) (w.alloc (.cells C'.toArray e')) ∨ (c = 0 ∧ n ≠ 0) := by
  by_cases hc : c = 0
  · by_cases hn : n = 0
    · subst hc; subst hn
      exact .inl ⟨_, Post.alloc H _ _ e C'.length (objR_new hv) (by have := VR.empty (μ := μ.upd h.length ⟨w.heap.size, 0, false, e, w0.sz e, C'.length⟩) (i := h.length) (o := 0) (l := ⟨w.heap.size, 0, false, e, w0.sz e, C'.length⟩) (by simp [Mp.upd]); simpa using this)⟩
    · exact .inr ⟨hc, hn⟩
  · exact .inl ⟨_, Post.alloc H _ _ e C'.length (objR_new hv) (by
      have := VR.slice (μ := μ.upd h.length ⟨w.heap.size, 0, false, e, w0.sz e, C'.length⟩) (i := h.length) (o := 0) (n := n) (c := c) (c' := c) (l := ⟨w.heap.size, 0, false, e, w0.sz e, C'.length⟩) (by simp [Mp.upd]) (by omega) (Nat.le_refl _) (fun _ => rfl) (.inl rfl); simpa using this)⟩

theorem madeCells_af {z : Value} (hz : Af z) (n : Nat) (h0 : 0 < z.cells.size) : ∀ x ∈ (madeCells z.cells n).toList, Af x := by
  intro x hx
  simp only [madeCells, Array.toList_map, List.mem_map] at hx
  obtain ⟨i, -, rfl⟩ := hx
  have hlt : i % z.cells.size < z.cells.size := Nat.mod_lt _ h0
  rw [getElem!_pos z.cells _ hlt]
  exact af_cells hz _ (by simp)

theorem VL.set {μ : Mp} {a b : List Value} (hv : VL μ a b) (i : Nat) {x y : Value} (hx : VR μ x y) : VL μ (a.set i x) (b.set i y) := by
  induction a generalizing b i with
  | nil => have := hv.inv_nil; subst this; simpa using VL.nil
  | cons u a ih =>
    obtain ⟨u', b', rfl, h1, h2⟩ := hv.inv
    cases i with
    | zero => exact .cons hx h2
    | succ i => exact .cons h1 (ih h2 i)

theorem setAll_ok {μ : Mp} (vs : List (Value × Nat)) : ∀ {vs' : List (Value × Nat)} {cs cs' : Array Value} (off : Nat), vs.map (·.2) = vs'.map (·.2) → VL μ (vs.map (·.1)) (vs'.map (·.1)) → VL μ cs.toList cs'.toList →
    VL μ (vs.foldl (fun cs (c, j) => cs.setIfInBounds (off + j) c) cs).toList (vs'.foldl (fun cs (c, j) => cs.setIfInBounds (off + j) c) cs').toList := by
  induction vs with
  | nil => intro vs' cs cs' off h1 h2 h3; cases vs' with | nil => exact h3 | cons => simp at h1
  | cons v vs ih =>
    intro vs' cs cs' off h1 h2 h3
    cases vs' with
    | nil => simp at h1
    | cons v' vs' =>
      simp only [List.map_cons, List.cons.injEq] at h1 h2
      obtain ⟨y, b', e, g1, g2⟩ := h2.inv
      simp only [List.cons.injEq] at e
      obtain ⟨rfl, rfl⟩ := e
      simp only [List.foldl_cons]
      refine ih off h1.2 g2 ?_
      rw [h1.1]
      simpa using h3.set (off + v'.2) g1

theorem fill_ok {μ : Mp} {place : Nat → Option (Nat × Nat)} (parts : List (Nat × Value)) : ∀ {parts' : List (Nat × Value)} {cs cs' r : Array Value}, parts.map (·.1) = parts'.map (·.1) → VL μ (parts.map (·.2)) (parts'.map (·.2)) → VL μ cs.toList cs'.toList →
    Instr.fill place cs parts = some r → ∃ r', Instr.fill place cs' parts' = some r' ∧ VL μ r.toList r'.toList := by
  induction parts with
  | nil => intro parts' cs cs' r h1 h2 h3 e; cases parts' with | nil => simp only [Instr.fill, Option.some.injEq] at e ⊢; subst e; exact ⟨_, rfl, h3⟩ | cons => simp at h1
  | cons p parts ih =>
    intro parts' cs cs' r h1 h2 h3 e
    obtain ⟨i, v⟩ := p
    cases parts' with
    | nil => simp at h1
    | cons p' parts' =>
      obtain ⟨i', v'⟩ := p'
      simp only [List.map_cons, List.cons.injEq] at h1 h2
      obtain ⟨rfl, h1⟩ := h1
      obtain ⟨y, b', e2, g1, g2⟩ := h2.inv
      simp only [List.cons.injEq] at e2
      obtain ⟨rfl, rfl⟩ := e2
      have hsz : v.cells.size = v'.cells.size := by have := g1.cells.1; simpa using this
      have hcs : cs.size = cs'.size := by have := h3.1; simpa using this
      simp only [Instr.fill] at e ⊢
      split at e
      · cases e
      · rename_i off size hp
        rw [hsz, hcs] at e
        split at e
        · cases e
        · rename_i hc
          rw [if_neg hc]
          refine ih h1 g2 ?_ e
          have hz : ∀ (x : Array Value), x.zipIdx.foldl (fun (cs : Array Value) (q : Value × Nat) => cs.setIfInBounds (off + q.2) q.1) cs = x.toList.zipIdx.foldl (fun (cs : Array Value) (q : Value × Nat) => cs.setIfInBounds (off + q.2) q.1) cs := by
            intro x; rw [← Array.foldl_toList]; simp
          have hz' : ∀ (x : Array Value), x.zipIdx.foldl (fun (cs : Array Value) (q : Value × Nat) => cs.setIfInBounds (off + q.2) q.1) cs' = x.toList.zipIdx.foldl (fun (cs : Array Value) (q : Value × Nat) => cs.setIfInBounds (off + q.2) q.1) cs' := by
            intro x; rw [← Array.foldl_toList]; simp
          have := setAll_ok (μ := μ) v.cells.toList.zipIdx (vs' := v'.cells.toList.zipIdx) (cs := cs) (cs' := cs') off (by
              apply List.ext_getElem?; intro q
              simp only [List.getElem?_map, List.getElem?_zipIdx]
              have hl := g1.cells.1
              by_cases hq : q < v.cells.toList.length
              · have hq' : q < v'.cells.toList.length := hl ▸ hq
                rw [List.getElem?_eq_getElem hq, List.getElem?_eq_getElem hq']; rfl
              · rw [List.getElem?_eq_none (by omega), List.getElem?_eq_none (by omega)]) (by simpa using g1.cells) h3
          rw [← hz, ← hz'] at this
          exact this

theorem run_fieldsMapM (fs : List Field) : ∀ {ps : List (Nat × Nat)}, (fs.mapM fun f => (sizeA P f.type).map fun n => (f.offset, n)) = some ps →
    (fs.mapM fun f => (do pure (f.offset, ← sizeOf f.type) : Sem (Nat × Nat))).run P w = .ok ps w := by
  induction fs with
  | nil => intro ps e; simp at e; subst e; rfl
  | cons f fs ih =>
    intro ps e
    rw [List.mapM_cons] at e
    simp only [Option.bind_eq_bind, Option.bind_eq_some_iff, Option.map_eq_some_iff, Option.pure_def, Option.some.injEq] at e
    obtain ⟨p, ⟨n, hn, rfl⟩, ps', h2, rfl⟩ := e
    rw [List.mapM_cons]
    simp only [Sem.run_bind, r_size hn, Result.andThen_ok, Sem.run_pure, ih h2]

theorem buildA_ok (fit : Fit P) {t : TypeId} {parts parts' : List (Nat × Value)} {v : Value} (h1 : parts.map (·.1) = parts'.map (·.1)) (h2 : VL μ (parts.map (·.2)) (parts'.map (·.2))) (e : buildA P t parts = some v) :
    ∃ v', (Instr.build t parts'.toArray).run P w = .ok v' w ∧ VR μ v v' := by
  unfold buildA at e
  rw [Option.bind_eq_some_iff] at e
  obtain ⟨z, hz, e⟩ := e
  have hzl := VL.refl_af (μ := μ) (af_cells (fit.zero _ _ hz))
  split at e
  · rename_i fs hu
    rw [Option.bind_eq_some_iff] at e
    obtain ⟨ps, hps, e⟩ := e
    rw [Option.map_eq_some_iff] at e
    obtain ⟨r, hr, rfl⟩ := e
    obtain ⟨r', hr', hl⟩ := fill_ok parts h1 h2 hzl hr
    refine ⟨.agg r', ?_, ?_⟩
    · have hm := run_fieldsMapM (P := P) (w := w) fs.toList hps
      simp only [Instr.build, Sem.run_bind, r_zero hz, r_und hu, Result.andThen_ok]
      rw [Array.mapM_eq_mapM_toList]
      simp only [Sem.run_map, hm, Result.andThen_ok]
      rw [show (fun x => (ps.toArray)[x]?) = (fun x => ps[x]?) from by funext x; simp]
      simp [hr']
    · have := hl.arr; simpa using this
  · rename_i n el hu
    rw [Option.bind_eq_some_iff] at e
    obtain ⟨k, hk, e⟩ := e
    rw [Option.map_eq_some_iff] at e
    obtain ⟨r, hr, rfl⟩ := e
    obtain ⟨r', hr', hl⟩ := fill_ok parts h1 h2 hzl hr
    refine ⟨.agg r', ?_, by have := hl.arr; simpa using this⟩
    simp [Instr.build, r_zero hz, r_und hu, r_size hk, hr']
  · cases e

theorem zeroA_of {e : TypeId} {i : TypeInfo} {z : Value} (hi : P.info? e = some i) (hz : zeroI i = some z) : zeroA P e = some z := by simp [zeroA, hi, hz]
theorem sizeA_of {e : TypeId} {i : TypeInfo} (hi : P.info? e = some i) : sizeA P e = some i.size := by simp [sizeA, hi]

theorem buildSliceA_ok (fit : Fit P) (H : HR w0 μ h w) {t : TypeId} {len : Nat} {parts parts' : List (Nat × Value)} {v : Value} {h' : AH} (h1 : parts.map (·.1) = parts'.map (·.1)) (h2 : VL μ (parts.map (·.2)) (parts'.map (·.2)))
    (e : buildSliceA P h t len parts = some (v, h')) :
    ∃ v' w', (Instr.buildSlice t len parts'.toArray).run P w = .ok v' w' ∧ OK w0 μ h w v h' v' w' := by
  unfold buildSliceA at e
  split at e
  · rename_i el hu
    rw [Option.bind_eq_some_iff] at e
    obtain ⟨i, hi, e⟩ := e
    split at e
    · rename_i hc
      rw [Option.bind_eq_some_iff] at e
      obtain ⟨z, hz, e⟩ := e
      split at e
      · rename_i hzs
        rw [Option.map_eq_some_iff] at e
        obtain ⟨r, hr, e⟩ := e
        cases e
        have haf := fit.zero _ _ (zeroA_of hi hz)
        have hml : VL μ (madeCells z.cells (len * i.size)).toList (madeCells z.cells (len * i.size)).toList := VL.refl_af (madeCells_af haf _ (by omega))
        obtain ⟨r', hr', hl⟩ := fill_ok parts h1 h2 hml hr
        rcases Post.newSlice H hl el el len len with hp | ⟨a, b⟩
        · refine ⟨_, _, ?_, hp⟩
          have hn : ¬ (16777216 < len * i.size) := by omega
          simp only [Instr.buildSlice, Sem.run_bind, r_und hu, Result.andThen_ok, r_size (sizeA_of hi), newRow, Sem.run_ite]
          rw [if_neg (by omega)]
          by_cases h0 : len * i.size = 0
          · rw [if_pos h0]
            have e0 : ∀ g : Nat → Value, Array.map g (Array.range (len * i.size)) = madeCells z.cells (len * i.size) := by intro g; simp [madeCells, h0]
            simp only [Sem.run_pure, Result.andThen_ok, e0, hr']
            simp
          · rw [if_neg h0]
            have e0 : Array.map (fun x => z.cells[x % z.cells.size]!) (Array.range (len * i.size)) = madeCells z.cells (len * i.size) := rfl
            simp only [r_zero (zeroA_of hi hz), Sem.run_pure, Result.andThen_ok, e0, hr']
            simp
        · exact absurd a b
      · cases e
    · cases e
  · cases e

theorem makeSliceA_ok (fit : Fit P) (H : HR w0 μ h w) {t : TypeId} {l l' c c' v : Value} {h' : AH} (hl : VR μ l l') (hc : VR μ c c') (e : makeSliceA P h t l c = some (v, h')) :
    ∃ v' w', (Instr.makeSlice t l' c').run P w = .ok v' w' ∧ OK w0 μ h w v h' v' w' := by
  unfold makeSliceA at e
  split at e
  · rename_i el k l k' c hu
    have := hl.int_inv; subst this
    have := hc.int_inv; subst this
    rw [Option.bind_eq_some_iff] at e
    obtain ⟨i, hi, e⟩ := e
    split at e
    · rename_i hcnd
      obtain ⟨g1, g2, g3, g4, g5⟩ := hcnd
      rw [Option.bind_eq_some_iff] at e
      obtain ⟨z, hz, e⟩ := e
      split at e
      · rename_i hzs
        cases e
        have haf := fit.zero _ _ (zeroA_of hi hz)
        have hml : VL μ (madeCells z.cells (c.toNat * i.size)).toList (madeCells z.cells (c.toNat * i.size)).toList := VL.refl_af (madeCells_af haf _ (by omega))
        have hr := run_make (P := P) w t el i z hu hi (zeroI_spec hz).1 k k' l c g1 g2 (by simpa using g3) (by omega)
        rcases Post.newSlice H hml el el l.toNat c.toNat with hp | ⟨a, b⟩
        · exact ⟨_, _, hr, by simpa using hp⟩
        · omega
      · cases e
    · cases e
  · cases e

theorem bound_ok {x x' : Option Value} {d top n : Nat} (hx : ∀ v, x = some v → ∃ v', x' = some v' ∧ VR μ v v') (hn : x = none → x' = none) (e : boundA x d top = some n) :
    (x = none ∧ x' = none ∧ n = d) ∨ ∃ k m, x = some (.int k m) ∧ x' = some (.int k m) ∧ 0 ≤ m ∧ m ≤ top ∧ n = m.toNat := by
  unfold boundA at e
  split at e
  · cases e; exact .inl ⟨rfl, hn rfl, rfl⟩
  · rename_i k m
    split at e
    · rename_i hm
      cases e
      obtain ⟨v', h1, h2⟩ := hx _ rfl
      have := h2.int_inv; subst this
      exact .inr ⟨k, m, rfl, h1, hm.1, hm.2, rfl⟩
    · cases e
  · cases e

theorem run_sliceBound {k : IntKind} {m : Int} {y : Nat} {c : BoundsCode} (h0 : 0 ≤ m) (h1 : m ≤ y) : (Instr.sliceBound (.int k m) y c).run P w = .ok m.toNat w := by
  simp [Instr.sliceBound, asIntOf, h0, h1]

/-- The three bounds, at lengths and capacities of the machine's own that are no smaller. -/
theorem run_sliceBounds {b : Bool} {n c c' : Nat} {lo lo' hi hi' mx mx' : Option Value} {l r m : Nat}
    (hlo : ∀ v, lo = some v → ∃ v', lo' = some v' ∧ VR μ v v') (nlo : lo = none → lo' = none)
    (hhi : ∀ v, hi = some v → ∃ v', hi' = some v' ∧ VR μ v v') (nhi : hi = none → hi' = none)
    (hmx : ∀ v, mx = some v → ∃ v', mx' = some v' ∧ VR μ v v') (nmx : mx = none → mx' = none)
    (hcc : c ≤ c') (em : boundA mx c c = some m) (er : boundA hi n m = some r) (el : boundA lo 0 r = some l) (hm : ¬ (mx.isSome = true ∧ hi = none)) :
    (Instr.sliceBounds b n c' lo' hi' mx').run P w = .ok (l, r, if mx = none then c' else m) w := by
  rcases bound_ok hmx nmx em with ⟨rfl, rfl, rfl⟩ | ⟨km, im, rfl, rfl, m0, m1, rfl⟩
  · rcases bound_ok hhi nhi er with ⟨rfl, rfl, rfl⟩ | ⟨kr, ir, rfl, rfl, r0, r1, rfl⟩
    · rcases bound_ok hlo nlo el with ⟨rfl, rfl, rfl⟩ | ⟨kl, il, rfl, rfl, l0, l1, rfl⟩
      · simp [Instr.sliceBounds]
      · simp [Instr.sliceBounds, run_sliceBound l0 l1]
    · have r1' : ir ≤ (c' : Int) := by omega
      rcases bound_ok hlo nlo el with ⟨rfl, rfl, rfl⟩ | ⟨kl, il, rfl, rfl, l0, l1, rfl⟩
      · simp [Instr.sliceBounds, run_sliceBound r0 r1']
      · simp [Instr.sliceBounds, run_sliceBound r0 r1', run_sliceBound l0 l1]
  · have m1' : im ≤ (c' : Int) := by omega
    rcases bound_ok hhi nhi er with ⟨rfl, rfl, rfl⟩ | ⟨kr, ir, rfl, rfl, r0, r1, rfl⟩
    · exact absurd ⟨rfl, rfl⟩ hm
    · rcases bound_ok hlo nlo el with ⟨rfl, rfl, rfl⟩ | ⟨kl, il, rfl, rfl, l0, l1, rfl⟩
      · simp [Instr.sliceBounds, run_sliceBound r0 r1, run_sliceBound m0 m1']
      · simp [Instr.sliceBounds, run_sliceBound r0 r1, run_sliceBound m0 m1', run_sliceBound l0 l1]

end
end Go.AM
