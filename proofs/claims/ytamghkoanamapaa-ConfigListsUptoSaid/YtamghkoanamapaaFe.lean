/- From a row's arguments to the abstract heap, and back. No condition. -/
import Derived.Test.YtamghkoanamapaaFd
import Derived.WalkKit
import Derived.ProofKit
import Derived.OpenShut
import Derived.ChangeSlices
import Derived.ChangeArms
import Derived.ChangeOld
import Derived.SizedLaws
import Derived.Carry
namespace Go.AM
open Go.RowKit

theorem exists_list {α : Type} {p : Nat → α → Prop} : ∀ {n : Nat}, (∀ i, i < n → ∃ x, p i x) → ∃ zs : List α, zs.length = n ∧ ∀ (i : Nat) (h : i < zs.length), p i zs[i]
  | 0, _ => ⟨[], rfl, fun i h => absurd h (by simp)⟩
  | n + 1, h => by
    obtain ⟨zs, hl, hz⟩ := exists_list (n := n) fun i hi => h i (by omega)
    obtain ⟨x, hx⟩ := h n (by omega)
    refine ⟨zs ++ [x], by simp [hl], fun i hi => ?_⟩
    by_cases hn : i < zs.length
    · rw [List.getElem_append_left hn]; exact hz i hn
    · have : i = n := by simp at hi; omega
      subst this
      rw [List.getElem_append_right (by omega)]
      simpa [hl] using hx

section
variable {P : Program} {W : World}

/-- One block of the arguments: abstract, and where it lies. -/
structure RowB (W : World) (b : Blk) (l : Option Loc) : Prop where
  ok : ∀ l', l = some l' → l'.ro = true ∧ l'.b < W.heap.size ∧ ∀ μ, ObjR μ l' b W.heap[l'.b]?

theorem HR.rows {sz : TypeId → Nat} (bs : List (Blk × Option Loc)) (hb : ∀ p ∈ bs, RowB W p.1 p.2) : HR ⟨W, sz⟩ (fun i => (bs[i]?).bind (·.2)) (bs.map (·.1)) W := by
  have get : ∀ (i : Nat) (l : Loc), (bs[i]?).bind (·.2) = some l → ∃ p, bs[i]? = some p ∧ p.2 = some l ∧ i < bs.length := by
    intro i l h
    rw [Option.bind_eq_some_iff] at h
    obtain ⟨p, hp, h⟩ := h
    exact ⟨p, hp, h, (List.getElem?_eq_some_iff.1 hp).1⟩
  have ro : ∀ (i : Nat) (l : Loc), (bs[i]?).bind (·.2) = some l → l.ro = true := by
    intro i l h
    obtain ⟨p, hp, h, -⟩ := get i l h
    exact ((hb p (List.mem_of_getElem? hp)).ok l h).1
  refine ⟨Below.refl _ _, ?_, ?_, ?_, ?_⟩
  · intro i l h
    obtain ⟨p, hp, h, hi⟩ := get i l h
    exact ⟨by simpa using hi, ((hb p (List.mem_of_getElem? hp)).ok l h).2.1⟩
  · intro i l b h hbk
    obtain ⟨p, hp, h, hi⟩ := get i l h
    rw [List.getElem?_map, hp, Option.map_some, Option.some.injEq] at hbk
    subst hbk
    exact ((hb p (List.mem_of_getElem? hp)).ok l h).2.2 _
  · intro i l h hro
    rw [ro i l h] at hro; cases hro
  · intro i j l k h _ _ hro
    rw [ro i l h] at hro; cases hro

variable {H : Type} {enc : TypeId × Value → H}

/-- A slice that came in: its block, and what it reads as. -/
theorem arg_slice {α : Type} {e t : TypeId} (T : Ty P e α) (Q : α → Prop) (hu : P.underlying t = some (.slice e)) (hc : P.cellsOf e = T.k)
    (fl : ∀ (n : Nat) cs y, cs.length = T.k → DataW.trod enc P W 0 (fun _ => true) true n e cs = some y → ∃ x, cs = (T.v x).cells.toList ∧ Q x)
    {base B K : Nat} {v : Value} {d : DataW H} {ps : List MemPlace} (hw : ∀ el rest, d = .slice el rest → (el.length + rest.length) * B ≤ K) (hok : Value.okWide P W .any base t v) (h : DataW.Trod enc P W 0 (fun _ => true) true t v d ps) :
    ∃ (a : Option Addr) (n c : Nat) (xs : List α) (b : Blk) (l : Option Loc) (u : Nat → Option Addr), v = .slice a n c ∧ n * B ≤ K ∧ n = xs.length ∧ (∀ x ∈ xs, Q x) ∧ RowB W b l ∧
      (∀ i μ, μ i = l → VR μ (.slice (u i) n c) v) ∧ (∀ i (hh : AH), hh[i]? = some b → Sl T hh (u i) n c xs) := by
  obtain ⟨fuel, hf⟩ := h
  obtain ⟨a, n, c, rfl⟩ := WideShapes.okWide_slice hu hok
  rcases DataW.trod_slice hu hf with ⟨hcs, _⟩ | ⟨a', len, cap, elems, rest, m, _, hcs, hx, _, hle, _, hlen, hel, hsp, _⟩
  · simp [Value.cells] at hcs
    obtain ⟨rfl, rfl, rfl⟩ := hcs
    exact ⟨none, 0, 0, [], .dead, none, fun _ => none, rfl, by simp, rfl, by simp, ⟨fun l h => by cases h⟩, fun i μ _ => .slice0 _ _, fun i hh _ => .none_⟩
  · simp [Value.cells] at hcs
    obtain ⟨rfl, rfl, rfl⟩ := hcs
    obtain ⟨hr, hat⟩ := hsp rfl
    have hB : n * B ≤ K := by
      have := hw _ _ (Prod.mk.inj hx).1
      simp only [List.length_map] at this
      exact Nat.le_trans (Nat.mul_le_mul_right _ (by omega)) this
    simp only [Value.okWide, hu, Cell.okWide, Cell.ok] at hok
    obtain ⟨_, _, _, hspot, row, cells, hsh, _⟩ := hok
    obtain ⟨ab, ao, asp⟩ := a'
    simp only at hspot hsh hr
    subst hspot
    have each : ∀ i, i < c → ∃ x, W.cells? 0 ((⟨ab, ao, none⟩ : Addr).add (i * T.k)) T.k = some (T.v x).cells.toList ∧ Q x := by
      intro i hi
      have hb : ∃ y, (W.cells? 0 ((⟨ab, ao, none⟩ : Addr).add (i * P.cellsOf e)) (P.cellsOf e)).bind (DataW.trod enc P W 0 (fun _ => true) true m e) = some y := by
        by_cases hn : i < n
        · rw [hel i hn]; exact ⟨elems[i]'(by omega), List.getElem?_eq_getElem (by omega)⟩
        · have := hat (i - n) (by omega)
          rw [show n + (i - n) = i by omega] at this
          rw [this]; exact ⟨rest[i - n]'(by omega), List.getElem?_eq_getElem (by omega)⟩
      obtain ⟨y, hy⟩ := hb
      rw [hc, Option.bind_eq_some_iff] at hy
      obtain ⟨cs, h1, h2⟩ := hy
      have hl : cs.length = T.k := by
        simp only [World.cells?, Nat.zero_le, if_true] at h1
        have := mapM_some_length h1
        simpa using this
      obtain ⟨x, hx, hq⟩ := fl m cs y hl h2
      exact ⟨x, by rw [h1, hx], hq⟩
    obtain ⟨zs, hzl, hz⟩ := exists_list each
    have hcell : ∀ j, j < c * T.k → W.cell? ⟨ab, ao + j, none⟩ = (T.flat zs)[j]? := by
      intro j hj
      have hp := T.pos
      have h1 : j / T.k < c := by rw [Nat.div_lt_iff_lt_mul hp]; exact hj
      have hm : j % T.k < T.k := Nat.mod_lt _ hp
      have hd : j / T.k * T.k + j % T.k = j := by rw [Nat.mul_comm]; exact Nat.div_add_mod j T.k
      have h2 := (hz (j / T.k) (by omega)).1
      simp only [World.cells?, Nat.zero_le, if_true] at h2
      have h3 := mapM_some_get h2 (j % T.k) (j % T.k) (by simp [hm])
      have h4 := flat_part T zs (j / T.k) zs[j / T.k] (List.getElem?_eq_getElem (by omega))
      have h5 := congrArg (fun l => l[j % T.k]?) h4
      simp only [List.getElem?_take, List.getElem?_drop, hd, hm, if_true] at h5
      rw [h5, ← h3, addr_add, addr_add, Nat.add_assoc, hd]
    simp only [World.shape?] at hsh
    split at hsh
    · rename_i cc el fr hW
      have hlt : ab < W.heap.size := by
        by_cases hlt : ab < W.heap.size
        · exact hlt
        · rw [Array.getElem?_eq_none (by omega)] at hW; cases hW
      by_cases hc0 : c = 0
      · subst hc0
        have hn0 : n = 0 := by omega
        subst hn0
        refine ⟨some ⟨ab, ao, none⟩, 0, 0, [], .cells [] e true, some ⟨ab, 0, true, e, T.k, cc.size⟩, fun i => some ⟨i, ao, none⟩, rfl, by simp, rfl, by simp, ⟨fun l hl => ?_⟩, fun i μ hμ => ?_, fun i hh hi => ?_⟩
        · cases hl
          exact ⟨rfl, hlt, fun μ => ⟨rfl, (fun h => by cases h), cc, el, fr, hW, rfl, by simp, fun j hj => absurd hj (by simp), (fun h => by cases h), (fun h => by cases h)⟩⟩
        · have := VR.empty (μ := μ) (i := i) (o := ao) hμ
          simpa using this
        · exact ⟨rfl, Nat.le_refl _, (fun h => by cases h), fun b hb => by cases hb; exact ⟨rfl, [], e, true, hi, by simp, .inl rfl⟩⟩
      · have hfl : (T.flat zs).length = c * T.k := by rw [flat_length, hzl]
        have hcp : 0 < c * T.k := Nat.mul_pos (by omega) T.pos
        have hsz : ao + c * T.k ≤ cc.size := by
          have := hcell (c * T.k - 1) (by omega)
          rw [List.getElem?_eq_getElem (by omega)] at this
          simp only [World.cell?, hW, Option.isSome_none, Bool.false_eq_true, if_false] at this
          have := (Array.getElem?_eq_some_iff.1 this).1
          omega
        refine ⟨some ⟨ab, ao, none⟩, n, c, zs.take n, .cells (T.flat zs) e true, some ⟨ab, ao, true, e, T.k, cc.size⟩, fun i => some ⟨i, 0, none⟩, rfl, hB, by simp; omega, fun x hx => ?_, ⟨fun l hl => ?_⟩, fun i μ hμ => ?_, fun i hh hi => ?_⟩
        · obtain ⟨j, hj, rfl⟩ := List.getElem_of_mem (List.mem_of_mem_take hx)
          exact (hz j hj).2
        · cases hl
          refine ⟨rfl, hlt, fun μ => ⟨rfl, (fun h => by cases h), cc, el, fr, hW, rfl, by simp only; omega, fun j hj => ?_, (fun h => by cases h), (fun h => by cases h)⟩⟩
          rw [hfl] at hj
          have := hcell j hj
          rw [List.getElem?_eq_getElem (by omega)] at this
          simp only [World.cell?, hW, Option.isSome_none, Bool.false_eq_true, if_false] at this
          rw [Array.getD_eq_getD_getElem?, this, List.getD_eq_getElem?_getD, List.getElem?_eq_getElem (by omega)]
          exact VR.of_af (flat_af T zs _ (List.getElem_mem _))
        · have := VR.slice (μ := μ) (i := i) (o := 0) (n := n) (c := c) (c' := c) hμ (by omega) (Nat.le_refl _) (fun _ => rfl) (.inl rfl)
          simpa using this
        · refine ⟨by simp; omega, hle, (fun h => by cases h), fun b hb => ?_⟩
          cases hb
          exact ⟨rfl, _, e, true, hi, by rw [List.drop_zero, flat_take], .inl rfl⟩
    · cases hsh

/-- The rows' elements: whole numbers. -/
theorem trod_int {t : TypeId} {k : IntKind} (hu : P.underlying t = some (.int k)) (n : Nat) (cs : List Value) (y : DataW H × List MemPlace) (h : DataW.trod enc P W 0 (fun _ => true) true n t cs = some y) :
    ∃ x : Int, cs = [.int k x] ∧ (Lit.int k x).wf = true := by
  cases n with
  | zero => simp [DataW.trod] at h
  | succ n =>
    unfold DataW.trod at h
    rw [hu] at h
    split at h <;> simp_all

/-- A field of a struct that came in. -/
theorem trod_fld {t ft : TypeId} {fs : Array Field} {o k i : Nat} (hu : P.underlying t = some (.struct fs)) (hf : (fs[i]?).map (fun f => (f.type, f.offset)) = some (ft, o)) (hk : P.cellsOf ft = k) {n : Nat} {cs : List Value} {y : DataW H × List MemPlace} (h : DataW.trod enc P W 0 (fun _ => true) true n t cs = some y) :
    ∃ n' y', DataW.trod enc P W 0 (fun _ => true) true n' ft ((cs.drop o).take k) = some y' := by
  obtain ⟨xs, m, -, -, -, hl, hx⟩ := DataW.trod_struct hu h
  rw [Option.map_eq_some_iff] at hf
  obtain ⟨f, hf, e⟩ := hf
  cases e
  have := hx i f hf
  have hi : i < xs.length := by rw [hl]; exact (Array.getElem?_eq_some_iff.1 hf).1
  rw [hk, List.getElem?_eq_getElem hi] at this
  exact ⟨m, _, this⟩
theorem trod_arr {t e : TypeId} {N k i : Nat} (hu : P.underlying t = some (.array N e)) (hk : P.cellsOf e = k) (hi : i < N) {n : Nat} {cs : List Value} {y : DataW H × List MemPlace} (h : DataW.trod enc P W 0 (fun _ => true) true n t cs = some y) :
    ∃ n' y', DataW.trod enc P W 0 (fun _ => true) true n' e ((cs.drop (i * k)).take k) = some y' := by
  cases n with
  | zero => simp [DataW.trod] at h
  | succ n =>
    unfold DataW.trod at h
    rw [hu] at h
    simp only at h
    split at h
    · rw [Option.map_eq_some_iff] at h
      obtain ⟨xs, hp, -⟩ := h
      have := mapM_some_get hp i i (by simp [hi])
      have hl := mapM_some_length hp
      rw [List.length_range] at hl
      rw [hk, List.getElem?_eq_getElem (by omega)] at this
      exact ⟨n, _, this⟩
    · cases h
theorem trod_int_at {t : TypeId} {k : IntKind} (hu : P.underlying t = some (.int k)) {n o : Nat} {cs : List Value} {y : DataW H × List MemPlace} (h : DataW.trod enc P W 0 (fun _ => true) true n t ((cs.drop o).take 1) = some y) : ∃ x : Int, cs[o]? = some (.int k x) ∧ (Lit.int k x).wf = true := by
  obtain ⟨x, hx, -, hw⟩ := DataW.trod_int hu h
  have := congrArg (fun l => l[0]?) hx
  simp [List.getElem?_take, List.getElem?_drop] at this
  exact ⟨x, this, hw⟩
theorem trod_str_at {t : TypeId} (hu : P.underlying t = some .string) {n o : Nat} {cs : List Value} {y : DataW H × List MemPlace} (h : DataW.trod enc P W 0 (fun _ => true) true n t ((cs.drop o).take 1) = some y) : ∃ s : ByteArray, cs[o]? = some (.string s) ∧ s.size ≤ maxLen := by
  obtain ⟨x, hx, -, hw⟩ := DataW.trod_string hu h
  have := congrArg (fun l => l[0]?) hx
  simp [List.getElem?_take, List.getElem?_drop] at this
  exact ⟨x, this, hw⟩
theorem VR.two {μ : Mp} {a a' b b' : Value} (h1 : VR μ a a') (h2 : VR μ b b') : VR μ (.agg #[a, b]) (.agg #[a', b']) := by
  refine .agg rfl fun i => ?_
  match i with
  | 0 => exact h1
  | 1 => exact h2
  | i + 2 => simp; exact .undef
/-- A struct of two slices that came in. -/
theorem arg_two {t t1 t2 e1 e2 : TypeId} {fs : Array Field} (hu : P.underlying t = some (.struct fs)) (h1 : (fs[0]?).map (fun f => (f.type, f.offset)) = some (t1, 0)) (h2 : (fs[1]?).map (fun f => (f.type, f.offset)) = some (t2, 1)) (hn : fs.size = 2) (hc : P.cellsOf t = 2) (hc1 : P.cellsOf t1 = 1) (hc2 : P.cellsOf t2 = 1)
    (hct : P.cellTypes P.depth t = some [t1, t2]) (hs1 : P.underlying t1 = some (.slice e1)) (hs2 : P.underlying t2 = some (.slice e2)) {base : Nat} {v : Value} {d : DataW H} {ps : List MemPlace} (hok : Value.okWide P W .any base t v) (h : DataW.Trod enc P W 0 (fun _ => true) true t v d ps) :
    ∃ v1 v2 d1 d2 p1 p2, v = .agg #[v1, v2] ∧ d = .agg [d1, d2] ∧ Value.okWide P W .any base t1 v1 ∧ Value.okWide P W .any base t2 v2 ∧ DataW.Trod enc P W 0 (fun _ => true) true t1 v1 d1 p1 ∧ DataW.Trod enc P W 0 (fun _ => true) true t2 v2 d2 p2 := by
  have hok' := hok
  unfold Value.okWide at hok
  rw [hu] at hok
  obtain ⟨cs, rfl, hsz, ts, hts, -, hcell⟩ := hok
  rw [hct] at hts
  cases hts
  rw [hc] at hsz
  obtain ⟨v1, v2, rfl⟩ : ∃ v1 v2, cs = #[v1, v2] := by
    obtain ⟨l⟩ := cs
    match l, hsz with
    | [v1, v2], _ => exact ⟨v1, v2, rfl⟩
  obtain ⟨u1, hu1, o1⟩ := hcell 0 v1 rfl
  obtain ⟨u2, hu2, o2⟩ := hcell 1 v2 rfl
  simp at hu1 hu2
  subst hu1
  subst hu2
  have ok1 : Value.okWide P W .any base t1 v1 := by unfold Value.okWide; rw [hs1]; exact o1
  have ok2 : Value.okWide P W .any base t2 v2 := by unfold Value.okWide; rw [hs2]; exact o2
  obtain ⟨fuel, hf⟩ := h
  obtain ⟨xs, m, -, hx, -, hl, hx2⟩ := DataW.trod_struct hu hf
  rw [Option.map_eq_some_iff] at h1 h2
  obtain ⟨f1, hf1, q1⟩ := h1
  obtain ⟨f2, hf2, q2⟩ := h2
  obtain ⟨⟨d1, p1⟩, ⟨d2, p2⟩, rfl⟩ : ∃ x1 x2, xs = [x1, x2] := by
    match xs, hl with
    | [x1, x2], _ => exact ⟨x1, x2, rfl⟩
    | [], hl => simp [hn] at hl
    | [_], hl => simp [hn] at hl
    | _ :: _ :: _ :: _, hl => simp [hn] at hl
  have g1 := hx2 0 f1 hf1
  have g2 := hx2 1 f2 hf2
  rw [Prod.mk.injEq] at q1 q2
  rw [q1.1, q1.2, hc1] at g1
  rw [q2.1, q2.2, hc2] at g2
  obtain ⟨a1, n1, c1, rfl⟩ := WideShapes.okWide_slice hs1 ok1
  obtain ⟨a2, n2, c2, rfl⟩ := WideShapes.okWide_slice hs2 ok2
  refine ⟨_, _, d1, d2, p1, p2, rfl, (Prod.mk.inj hx).1, ok1, ok2, ⟨m, ?_⟩, ⟨m, ?_⟩⟩
  · simpa [Value.cells] using g1
  · simpa [Value.cells] using g2

/-- Of an int's range. -/
def I64 (x : Int) : Prop := -9223372036854775808 ≤ x ∧ x ≤ 9223372036854775807
theorem wf_i64 {x : Int} (h : (Lit.int .i64 x).wf = true) : I64 x := by
  simp only [Lit.wf, Bool.and_eq_true, decide_eq_true_iff] at h
  have e1 : IntKind.i64.min = -9223372036854775808 := by decide
  have e2 : IntKind.i64.max = 9223372036854775807 := by decide
  rw [e1, e2] at h
  exact h

/-- What the abstract machine answers true, the machine answers true, and leaves what was there. -/
theorem law_calls (fit : Fit P) {f : FuncId} {bs : List (Blk × Option Loc)} (hb : ∀ p ∈ bs, RowB W p.1 p.2) {us args : List Value} (hv : VL (fun i => (bs[i]?).bind (·.2)) us args) {h' : AH}
    (eq : callP P f us (bs.map (·.1)) = some (.bool true, h')) : Calls P f args.toArray W fun e W' => e = .returned (.bool true) ∧ Below W.heap.size W W' := by
  refine (callP_ok fit W f us _ _ _ eq _ W args (HR.rows bs hb) hv).mono fun e W' hr => ?_
  cases e with
  | returned v =>
    obtain ⟨ν, p⟩ := hr
    have hvr := p.vr
    generalize hz : Value.bool true = z at hvr
    cases hvr <;> cases hz
    exact ⟨rfl, p.hr.below⟩
  | panicked => exact hr.elim
  | outgrown => exact hr.elim
end
end Go.AM
