/- The law ConfigLists: for every input the call returns true, and each argument reads as it read before. No condition. -/
import Derived.Test.YtamghkoanamapaaRows
import Derived.Test.YtamghkoanamapaaGB
import Derived.WalkKit
import Derived.ProofKit
import Derived.OpenShut
import Derived.ShutString
import Derived.ChangeOld
import Derived.Below
import Derived.SizedLaws
import Derived.JoinedCond
namespace Go.Proofs.Ytamghkoanamapaa.configLists
open Go.ChangeShapes Go.WideShapes Go.ChangeAt Go.RowKit
open Go.ChangeMaps (open_string shut_string)
set_option linter.unusedVariables false
set_option linter.unusedSimpArgs false
theorem own : ownKnob Try.prog.godebug = none := by kernel_rfl
theorem laidOut : laidOutB Try.prog = true := by kernel_rfl
theorem one_le {H : Type} (d : DataW H) : 1 ≤ Rows.uptoBulk d := by
  cases d with
  | lit l => cases l <;> simp [Rows.uptoBulk]
  | nil => simp [Rows.uptoBulk]
  | ptr d => simp [Rows.uptoBulk]
  | slice elems spare => simp [Rows.uptoBulk]
  | agg parts => simp [Rows.uptoBulk]
  | iface t d => simp [Rows.uptoBulk]
  | map entries => simp [Rows.uptoBulk]
  | held h => simp [Rows.uptoBulk]
theorem length_le {H : Type} (l : List (DataW H)) : l.length ≤ Rows.uptoBulkAll l := by
  induction l with
  | nil => simp [Rows.uptoBulkAll]
  | cons x r ih => have := one_le x; simp only [Rows.uptoBulkAll, List.length_cons]; omega
theorem slice_le {H : Type} (elems spare : List (DataW H)) : elems.length + spare.length + 1 ≤ Rows.uptoBulk (.slice elems spare) := by
  have h1 := length_le elems
  have h2 := length_le spare
  simp only [Rows.uptoBulk]
  omega
set_option maxRecDepth 100000 in
theorem lifted (os : Os) (started : os.Started) (H : Type) (enc : TypeId × Value → H) (F : Stop.Interp) :
    ReturnsInHanded {} Try.checked os 12 .any ((Rows.OpenSpec.upto Rows.configListsSpec).pre6 enc Try.prog Try.f12 Rows.configListsUptoRow.domain false) (((Rows.OpenSpec.upto Rows.configListsSpec).at F).post enc Try.prog Try.f12 false true false false) := by
  refine returnsInHanded_of_cond (C := Try.checked) (s := Rows.OpenSpec.upto Rows.configListsSpec) (k := Rows.uptoSmall) rfl own started (by kernel_rfl) Try.func12
    (OpenSpec.witness (enc := enc) (C := Try.checked) (s := Rows.OpenSpec.upto Rows.configListsSpec) (k := Rows.uptoSmall) rfl false ⟨#[], #[.agg #[.slice none 0 0, .slice none 0 0], .slice none 0 0, .slice none 0 0, .slice none 0 0, .slice none 0 0, .slice none 0 0, .int .i64 0, .int .i64 0], []⟩ 8 (by kernel_rfl) (by kernel_rfl) (by kernel_rfl)
      (x := ([.agg [.nil, .nil], .nil, .nil, .nil, .nil, .nil, .lit (.int .i64 0), .lit (.int .i64 0)], [], [])) (by kernel_rfl) rfl (by kernel_rfl)) ?_
  intro W base args ds gs before hval0 hW hcnd hk _
  have hval : ∀ (j : Nat) t v, Try.f12.params[j]? = some t → args[j]? = some v → Value.okWide Try.prog W .any base t v := hval0
  have hW' := hW
  obtain ⟨p, q, hA0, hV, rfl, hfz, hnd⟩ := hW
  have hA : DataW.TrodAll enc Try.prog W 0 (fun _ => true) true Try.f12.params.toList args.toList ds p := hA0
  rw [Try.params12] at hA hval
  obtain ⟨v0, vs0, d0, ds0, p0, q0, hargs, rfl, rfl, h0, r0⟩ := trodAll_cons hA
  obtain ⟨v1, vs1, d1, ds1, p1, q1, rfl, rfl, rfl, h1, r1⟩ := trodAll_cons r0
  obtain ⟨v2, vs2, d2, ds2, p2, q2, rfl, rfl, rfl, h2, r2⟩ := trodAll_cons r1
  obtain ⟨v3, vs3, d3, ds3, p3, q3, rfl, rfl, rfl, h3, r3⟩ := trodAll_cons r2
  obtain ⟨v4, vs4, d4, ds4, p4, q4, rfl, rfl, rfl, h4, r4⟩ := trodAll_cons r3
  obtain ⟨v5, vs5, d5, ds5, p5, q5, rfl, rfl, rfl, h5, r5⟩ := trodAll_cons r4
  obtain ⟨v6, vs6, d6, ds6, p6, q6, rfl, rfl, rfl, h6, r6⟩ := trodAll_cons r5
  obtain ⟨v7, vs7, d7, ds7, p7, q7, rfl, rfl, rfl, h7, r7⟩ := trodAll_cons r6
  obtain ⟨rfl, rfl, rfl⟩ := trodAll_nil r7
  obtain rfl : args = #[v0, v1, v2, v3, v4, v5, v6, v7] := by cases args; simp_all
  obtain ⟨rfl, rfl⟩ := trodVars_none hV
  have k0 := h0
  have lt0 : ∀ x ∈ p0, x.block < W.heap.size := by obtain ⟨m, hm⟩ := k0; exact DataW.trod_lt m _ _ _ hm
  obtain ⟨v0a, v0b, d0a, d0b, p0a, p0b, rfl, rfl, ok0a, ok0b, h0a, h0b⟩ := Go.AM.arg_two (t1 := 39) (t2 := 40) Go.AM.Try.und42 (by kernel_rfl) (by kernel_rfl) (by kernel_rfl) (by kernel_rfl) (by kernel_rfl) (by kernel_rfl) (by kernel_rfl) Try.underlying39 Try.underlying40 (hval 0 42 v0 rfl rfl) h0
  have hkk : Rows.uptoBulkAll _ ≤ 1048576 := of_decide_eq_true hk
  simp only [List.append_nil, List.cons_append, List.nil_append, Rows.uptoBulkAll, Rows.uptoBulk] at hkk
  obtain ⟨a0a, n0a, c0a, L0a, b0a, l0a, u0a, rfl, y0a, hl0a, hq0a, rb0a, vr0a, sl0a⟩ := Go.AM.arg_slice (P := Try.prog) (W := W) (enc := enc) (B := 1) (K := 1048576) Go.AM.Try.tJ (fun x : Go.AM.Try.Jt => x.name.size ≤ 9223372036854775807) Try.underlying39 (by kernel_rfl) (fun n cs y hc h => Go.AM.Try.trod_jt n cs y hc h)
    (fun el rest hd => by subst hd; have := slice_le el rest; omega) ok0a h0a
  obtain ⟨a0b, n0b, c0b, L0b, b0b, l0b, u0b, rfl, y0b, hl0b, hq0b, rb0b, vr0b, sl0b⟩ := Go.AM.arg_slice (P := Try.prog) (W := W) (enc := enc) (B := 1) (K := 1048576) Go.AM.Try.tM (fun _ => True) Try.underlying40 (by kernel_rfl) (fun n cs y hc h => Go.AM.Try.trod_ms n cs y hc h)
    (fun el rest hd => by subst hd; have := slice_le el rest; omega) ok0b h0b
  have k1 := h1
  have lt1 : ∀ x ∈ p1, x.block < W.heap.size := by obtain ⟨m, hm⟩ := k1; exact DataW.trod_lt m _ _ _ hm
  obtain ⟨a1, n1, c1, L1, b1, l1, u1, rfl, y1, hl1, hq1, rb1, vr1, sl1⟩ := Go.AM.arg_slice (P := Try.prog) (W := W) (enc := enc) (B := 1) (K := 1048576) Go.AM.Try.tN (fun x : Int => (Lit.int .i64 x).wf = true) Try.underlying23 (by kernel_rfl) (fun n cs y hc h => by
      obtain ⟨x, rfl, hx⟩ := Go.AM.trod_int Try.underlying2 n cs y h
      exact ⟨x, rfl, hx⟩)
    (fun el rest hd => by subst hd; have := slice_le el rest; omega) (hval 1 23 v1 rfl rfl) h1
  have k2 := h2
  have lt2 : ∀ x ∈ p2, x.block < W.heap.size := by obtain ⟨m, hm⟩ := k2; exact DataW.trod_lt m _ _ _ hm
  obtain ⟨a2, n2, c2, L2, b2, l2, u2, rfl, y2, hl2, hq2, rb2, vr2, sl2⟩ := Go.AM.arg_slice (P := Try.prog) (W := W) (enc := enc) (B := 1) (K := 1048576) Go.AM.Try.tI (fun x : Int × Int => Go.AM.I64 x.1 ∧ Go.AM.I64 x.2) Try.underlying26 (by kernel_rfl) (fun n cs y hc h => Go.AM.Try.trod_iv n cs y hc h)
    (fun el rest hd => by subst hd; have := slice_le el rest; omega) (hval 2 26 v2 rfl rfl) h2
  have k3 := h3
  have lt3 : ∀ x ∈ p3, x.block < W.heap.size := by obtain ⟨m, hm⟩ := k3; exact DataW.trod_lt m _ _ _ hm
  obtain ⟨a3, n3, c3, L3, b3, l3, u3, rfl, y3, hl3, hq3, rb3, vr3, sl3⟩ := Go.AM.arg_slice (P := Try.prog) (W := W) (enc := enc) (B := 1) (K := 1048576) Go.AM.Try.tZ (fun x : Int => (Lit.int .i64 x).wf = true) Try.underlying22 (by kernel_rfl) (fun n cs y hc h => by
      obtain ⟨x, rfl, hx⟩ := Go.AM.trod_int Try.underlying3 n cs y h
      exact ⟨x, rfl, hx⟩)
    (fun el rest hd => by subst hd; have := slice_le el rest; omega) (hval 3 22 v3 rfl rfl) h3
  have k4 := h4
  have lt4 : ∀ x ∈ p4, x.block < W.heap.size := by obtain ⟨m, hm⟩ := k4; exact DataW.trod_lt m _ _ _ hm
  obtain ⟨a4, n4, c4, L4, b4, l4, u4, rfl, y4, hl4, hq4, rb4, vr4, sl4⟩ := Go.AM.arg_slice (P := Try.prog) (W := W) (enc := enc) (B := 1) (K := 1048576) Go.AM.Try.tZ (fun x : Int => (Lit.int .i64 x).wf = true) Try.underlying22 (by kernel_rfl) (fun n cs y hc h => by
      obtain ⟨x, rfl, hx⟩ := Go.AM.trod_int Try.underlying3 n cs y h
      exact ⟨x, rfl, hx⟩)
    (fun el rest hd => by subst hd; have := slice_le el rest; omega) (hval 4 22 v4 rfl rfl) h4
  have k5 := h5
  have lt5 : ∀ x ∈ p5, x.block < W.heap.size := by obtain ⟨m, hm⟩ := k5; exact DataW.trod_lt m _ _ _ hm
  obtain ⟨a5, n5, c5, L5, b5, l5, u5, rfl, y5, hl5, hq5, rb5, vr5, sl5⟩ := Go.AM.arg_slice (P := Try.prog) (W := W) (enc := enc) (B := 1) (K := 1048576) Go.AM.Try.tZ (fun x : Int => (Lit.int .i64 x).wf = true) Try.underlying22 (by kernel_rfl) (fun n cs y hc h => by
      obtain ⟨x, rfl, hx⟩ := Go.AM.trod_int Try.underlying3 n cs y h
      exact ⟨x, rfl, hx⟩)
    (fun el rest hd => by subst hd; have := slice_le el rest; omega) (hval 5 22 v5 rfl rfl) h5
  obtain ⟨a6, rfl, rfl, rfl, w6⟩ := open_int Try.underlying3 (hval 6 3 v6 rfl rfl) h6
  obtain ⟨a7, rfl, rfl, rfl, w7⟩ := open_int Try.underlying2 (hval 7 2 v7 rfl rfl) h7
  clear hA0 hval0
  have eq := Go.AM.Try.c12 (h := [b0a, b0b, b1, b2, b3, b4, b5]) (sl0a 0 _ rfl) (sl0b 1 _ rfl) (sl1 2 _ rfl) (sl2 3 _ rfl) (sl3 4 _ rfl) (sl4 5 _ rfl) (sl5 6 _ rfl) (by omega) (by omega) (by omega) (by omega) (by omega) (by omega) (by omega) hq0a a6 (Go.AM.wf_i64 w6) a7 (Go.AM.wf_i64 w7)
  refine (Go.AM.law_calls Go.AM.Try.fit (f := 12) (bs := [(b0a, l0a), (b0b, l0b), (b1, l1), (b2, l2), (b3, l3), (b4, l4), (b5, l5)]) (by simp only [List.mem_cons, List.not_mem_nil, or_false]; rintro p (rfl | rfl | rfl | rfl | rfl | rfl | rfl) <;> assumption) (us := [.agg #[.slice (u0a 0) n0a c0a, .slice (u0b 1) n0b c0b], .slice (u1 2) n1 c1, .slice (u2 3) n2 c2, .slice (u3 4) n3 c3, .slice (u4 5) n4 c4, .slice (u5 6) n5 c5, .int .i64 a6, .int .i64 a7]) (args := [.agg #[.slice a0a n0a c0a, .slice a0b n0b c0b], .slice a1 n1 c1, .slice a2 n2 c2, .slice a3 n3 c3, .slice a4 n4 c4, .slice a5 n5 c5, .int .i64 a6, .int .i64 a7]) (.cons (Go.AM.VR.two (vr0a 0 _ rfl) (vr0b 1 _ rfl)) (.cons (vr1 2 _ rfl) (.cons (vr2 3 _ rfl) (.cons (vr3 4 _ rfl) (.cons (vr4 5 _ rfl) (.cons (vr5 6 _ rfl) (.cons (.int _ _) (.cons (.int _ _) .nil)))))))) (by exact eq)).mono fun e W' ⟨he, bel⟩ => ?_
  subst he
  exact ⟨_, rfl, _, _, _, [], _, [], hW', trodAll_mk1 (shut_bool Try.underlying4 _), (trodAll_cons_mk (Below.trod laidOut (by kernel_rfl) (of_decide_eq_true (by kernel_rfl)) k0 bel lt0) (trodAll_cons_mk (Below.trod laidOut (by kernel_rfl) (of_decide_eq_true (by kernel_rfl)) k1 bel lt1) (trodAll_cons_mk (Below.trod laidOut (by kernel_rfl) (of_decide_eq_true (by kernel_rfl)) k2 bel lt2) (trodAll_cons_mk (Below.trod laidOut (by kernel_rfl) (of_decide_eq_true (by kernel_rfl)) k3 bel lt3) (trodAll_cons_mk (Below.trod laidOut (by kernel_rfl) (of_decide_eq_true (by kernel_rfl)) k4 bel lt4) (trodAll_cons_mk (Below.trod laidOut (by kernel_rfl) (of_decide_eq_true (by kernel_rfl)) k5 bel lt5) (trodAll_cons_mk (shut_int Try.underlying3 w6) (trodAll_cons_mk (shut_int Try.underlying2 w7) trodAll_mk0)))))))), rfl, bel.frame _, fun h => by cases h⟩
theorem proved : Rows.ConfigListsUptoSaid :=
  OpenClaim.holds_of_cond 12 Try.f12 rfl rfl rfl rfl rfl rfl rfl ⟨rfl, rfl, rfl, rfl, rfl⟩ rfl rfl rfl rfl rfl (by kernel_rfl) Try.func12 (by kernel_rfl)
    (of_decide_eq_true (by kernel_rfl)) (by unfold Func.isWrapper; first | (rw [if_pos (by decide +kernel)]; kernel_rfl) | (rw [if_neg (by decide +kernel)]; exact ⟨rfl, rfl⟩))
    (fun os started H enc _ F => lifted os started H enc F)
#print axioms proved
end Go.Proofs.Ytamghkoanamapaa.configLists
namespace Go.Proofs.Ytamghkoanamapaa
/-- The row, under a short name, for the claim. -/
theorem configLists_holds : Rows.ConfigListsUptoSaid := configLists.proved
end Go.Proofs.Ytamghkoanamapaa
