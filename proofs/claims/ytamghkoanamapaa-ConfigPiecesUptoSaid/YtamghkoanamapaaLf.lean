/- The law ConfigPieces: for every input the call returns true, and each argument reads as it read before. No condition. -/
import Derived.Test.YtamghkoanamapaaRows
import Derived.Test.YtamghkoanamapaaGr
import Derived.WalkKit
import Derived.ProofKit
import Derived.OpenShut
import Derived.ShutString
import Derived.ChangeOld
import Derived.Below
import Derived.SizedLaws
import Derived.JoinedCond
namespace Go.Proofs.Ytamghkoanamapaa.configPieces
open Go.ChangeShapes Go.WideShapes Go.ChangeAt Go.RowKit
open Go.ChangeMaps (open_string shut_string)
set_option linter.unusedVariables false
theorem own : ownKnob Try.prog.godebug = none := by kernel_rfl
theorem laidOut : laidOutB Try.prog = true := by kernel_rfl
theorem one_le {H : Type} (d : DataW H) : 1 ≤ Rows.uptoBulk d := by
  cases d with
  | lit l => cases l <;> simp [Rows.uptoBulk]
  | nil => simp [Rows.uptoBulk]
  | ptr d => simp [Rows.uptoBulk]
  | slice elems spare => simp [Rows.uptoBulk]
  | agg parts => simp [Rows.uptoBulk]
  | iface t d => simp [Rows.uptoBulk]
  | map entries => simp [Rows.uptoBulk]
  | held h => simp [Rows.uptoBulk]
theorem length_le {H : Type} (l : List (DataW H)) : l.length ≤ Rows.uptoBulkAll l := by
  induction l with
  | nil => simp [Rows.uptoBulkAll]
  | cons x r ih => have := one_le x; simp only [Rows.uptoBulkAll, List.length_cons]; omega
theorem slice_le {H : Type} (elems spare : List (DataW H)) : elems.length + spare.length + 1 ≤ Rows.uptoBulk (.slice elems spare) := by
  have h1 := length_le elems
  have h2 := length_le spare
  simp only [Rows.uptoBulk]
  omega
set_option maxRecDepth 100000 in
theorem lifted (os : Os) (started : os.Started) (H : Type) (enc : TypeId × Value → H) (F : Stop.Interp) :
    ReturnsInHanded {} Try.checked os 5 .any ((Rows.OpenSpec.upto Rows.configPiecesSpec).pre6 enc Try.prog Try.f5 Rows.configPiecesUptoRow.domain false) (((Rows.OpenSpec.upto Rows.configPiecesSpec).at F).post enc Try.prog Try.f5 false true false false) := by
  refine returnsInHanded_of_cond (C := Try.checked) (s := Rows.OpenSpec.upto Rows.configPiecesSpec) (k := Rows.uptoSmall) rfl own started (by kernel_rfl) Try.func5
    (OpenSpec.witness (enc := enc) (C := Try.checked) (s := Rows.OpenSpec.upto Rows.configPiecesSpec) (k := Rows.uptoSmall) rfl false ⟨#[], #[.slice none 0 0, .slice none 0 0, .int .i64 0, .int .i64 0, .slice none 0 0, .slice none 0 0, .slice none 0 0], []⟩ 8 (by kernel_rfl) (by kernel_rfl) (by kernel_rfl)
      (x := ([.nil, .nil, .lit (.int .i64 0), .lit (.int .i64 0), .nil, .nil, .nil], [], [])) (by kernel_rfl) rfl (by kernel_rfl)) ?_
  intro W base args ds gs before hval0 hW hcnd hk _
  have hval : ∀ (j : Nat) t v, Try.f5.params[j]? = some t → args[j]? = some v → Value.okWide Try.prog W .any base t v := hval0
  have hW' := hW
  obtain ⟨p, q, hA0, hV, rfl, hfz, hnd⟩ := hW
  have hA : DataW.TrodAll enc Try.prog W 0 (fun _ => true) true Try.f5.params.toList args.toList ds p := hA0
  rw [Try.params5] at hA hval
  obtain ⟨v0, vs0, d0, ds0, p0, q0, hargs, rfl, rfl, h0, r0⟩ := trodAll_cons hA
  obtain ⟨v1, vs1, d1, ds1, p1, q1, rfl, rfl, rfl, h1, r1⟩ := trodAll_cons r0
  obtain ⟨v2, vs2, d2, ds2, p2, q2, rfl, rfl, rfl, h2, r2⟩ := trodAll_cons r1
  obtain ⟨v3, vs3, d3, ds3, p3, q3, rfl, rfl, rfl, h3, r3⟩ := trodAll_cons r2
  obtain ⟨v4, vs4, d4, ds4, p4, q4, rfl, rfl, rfl, h4, r4⟩ := trodAll_cons r3
  obtain ⟨v5, vs5, d5, ds5, p5, q5, rfl, rfl, rfl, h5, r5⟩ := trodAll_cons r4
  obtain ⟨v6, vs6, d6, ds6, p6, q6, rfl, rfl, rfl, h6, r6⟩ := trodAll_cons r5
  obtain ⟨rfl, rfl, rfl⟩ := trodAll_nil r6
  obtain rfl : args = #[v0, v1, v2, v3, v4, v5, v6] := by cases args; simp_all
  obtain ⟨rfl, rfl⟩ := trodVars_none hV
  have hkk : Rows.uptoBulkAll _ ≤ 1048576 := of_decide_eq_true hk
  simp only [List.append_nil, List.cons_append, List.nil_append, Rows.uptoBulkAll] at hkk
  have k0 := h0
  have lt0 : ∀ x ∈ p0, x.block < W.heap.size := by obtain ⟨m, hm⟩ := k0; exact DataW.trod_lt m _ _ _ hm
  obtain ⟨a0, n0, c0, L0, b0, l0, u0, rfl, y0, hl0, hq0, rb0, vr0, sl0⟩ := Go.AM.arg_slice (P := Try.prog) (W := W) (enc := enc) (B := 1) (K := 1048576) Go.AM.Try.tN (fun x : Int => (Lit.int .i64 x).wf = true) Try.underlying23 (by kernel_rfl) (fun n cs y hc h => by
      obtain ⟨x, rfl, hx⟩ := Go.AM.trod_int Try.underlying2 n cs y h
      exact ⟨x, rfl, hx⟩)
    (fun el rest hd => by subst hd; have := slice_le el rest; omega) (hval 0 23 v0 rfl rfl) h0
  have k1 := h1
  have lt1 : ∀ x ∈ p1, x.block < W.heap.size := by obtain ⟨m, hm⟩ := k1; exact DataW.trod_lt m _ _ _ hm
  obtain ⟨a1, n1, c1, L1, b1, l1, u1, rfl, y1, hl1, hq1, rb1, vr1, sl1⟩ := Go.AM.arg_slice (P := Try.prog) (W := W) (enc := enc) (B := 1) (K := 1048576) Go.AM.Try.tN (fun x : Int => (Lit.int .i64 x).wf = true) Try.underlying23 (by kernel_rfl) (fun n cs y hc h => by
      obtain ⟨x, rfl, hx⟩ := Go.AM.trod_int Try.underlying2 n cs y h
      exact ⟨x, rfl, hx⟩)
    (fun el rest hd => by subst hd; have := slice_le el rest; omega) (hval 1 23 v1 rfl rfl) h1
  obtain ⟨a2, rfl, rfl, rfl, w2⟩ := open_int Try.underlying3 (hval 2 3 v2 rfl rfl) h2
  obtain ⟨a3, rfl, rfl, rfl, w3⟩ := open_int Try.underlying2 (hval 3 2 v3 rfl rfl) h3
  have k4 := h4
  have lt4 : ∀ x ∈ p4, x.block < W.heap.size := by obtain ⟨m, hm⟩ := k4; exact DataW.trod_lt m _ _ _ hm
  obtain ⟨a4, n4, c4, L4, b4, l4, u4, rfl, y4, hl4, hq4, rb4, vr4, sl4⟩ := Go.AM.arg_slice (P := Try.prog) (W := W) (enc := enc) (B := 1) (K := 1048576) Go.AM.Try.tZ (fun x : Int => (Lit.int .i64 x).wf = true) Try.underlying22 (by kernel_rfl) (fun n cs y hc h => by
      obtain ⟨x, rfl, hx⟩ := Go.AM.trod_int Try.underlying3 n cs y h
      exact ⟨x, rfl, hx⟩)
    (fun el rest hd => by subst hd; have := slice_le el rest; omega) (hval 4 22 v4 rfl rfl) h4
  have k5 := h5
  have lt5 : ∀ x ∈ p5, x.block < W.heap.size := by obtain ⟨m, hm⟩ := k5; exact DataW.trod_lt m _ _ _ hm
  obtain ⟨a5, n5, c5, L5, b5, l5, u5, rfl, y5, hl5, hq5, rb5, vr5, sl5⟩ := Go.AM.arg_slice (P := Try.prog) (W := W) (enc := enc) (B := 1) (K := 1048576) Go.AM.Try.tZ (fun x : Int => (Lit.int .i64 x).wf = true) Try.underlying22 (by kernel_rfl) (fun n cs y hc h => by
      obtain ⟨x, rfl, hx⟩ := Go.AM.trod_int Try.underlying3 n cs y h
      exact ⟨x, rfl, hx⟩)
    (fun el rest hd => by subst hd; have := slice_le el rest; omega) (hval 5 22 v5 rfl rfl) h5
  have k6 := h6
  have lt6 : ∀ x ∈ p6, x.block < W.heap.size := by obtain ⟨m, hm⟩ := k6; exact DataW.trod_lt m _ _ _ hm
  obtain ⟨a6, n6, c6, L6, b6, l6, u6, rfl, y6, hl6, hq6, rb6, vr6, sl6⟩ := Go.AM.arg_slice (P := Try.prog) (W := W) (enc := enc) (B := 1) (K := 1048576) Go.AM.Try.tZ (fun x : Int => (Lit.int .i64 x).wf = true) Try.underlying22 (by kernel_rfl) (fun n cs y hc h => by
      obtain ⟨x, rfl, hx⟩ := Go.AM.trod_int Try.underlying3 n cs y h
      exact ⟨x, rfl, hx⟩)
    (fun el rest hd => by subst hd; have := slice_le el rest; omega) (hval 6 22 v6 rfl rfl) h6
  clear hA0 hval0
  have eq := Go.AM.Try.c5 (h := [b0, b1, b4, b5, b6]) (sl0 0 _ rfl) (sl1 1 _ rfl) (sl4 2 _ rfl) (sl5 3 _ rfl) (sl6 4 _ rfl) (by omega) (by omega) (by omega) (by omega) (by omega) a2 (Go.AM.wf_i64 w2) a3 (Go.AM.wf_i64 w3)
  refine (Go.AM.law_calls Go.AM.Try.fit (f := 5) (bs := [(b0, l0), (b1, l1), (b4, l4), (b5, l5), (b6, l6)]) (by simp only [List.mem_cons, List.not_mem_nil, or_false]; rintro p (rfl | rfl | rfl | rfl | rfl) <;> assumption) (us := [.slice (u0 0) n0 c0, .slice (u1 1) n1 c1, .int .i64 a2, .int .i64 a3, .slice (u4 2) n4 c4, .slice (u5 3) n5 c5, .slice (u6 4) n6 c6]) (args := [.slice a0 n0 c0, .slice a1 n1 c1, .int .i64 a2, .int .i64 a3, .slice a4 n4 c4, .slice a5 n5 c5, .slice a6 n6 c6]) (.cons (vr0 0 _ rfl) (.cons (vr1 1 _ rfl) (.cons (.int _ _) (.cons (.int _ _) (.cons (vr4 2 _ rfl) (.cons (vr5 3 _ rfl) (.cons (vr6 4 _ rfl) .nil))))))) (by exact eq)).mono fun e W' ⟨he, bel⟩ => ?_
  subst he
  exact ⟨_, rfl, _, _, _, [], _, [], hW', trodAll_mk1 (shut_bool Try.underlying4 _), (trodAll_cons_mk (Below.trod laidOut (by kernel_rfl) (of_decide_eq_true (by kernel_rfl)) k0 bel lt0) (trodAll_cons_mk (Below.trod laidOut (by kernel_rfl) (of_decide_eq_true (by kernel_rfl)) k1 bel lt1) (trodAll_cons_mk (shut_int Try.underlying3 w2) (trodAll_cons_mk (shut_int Try.underlying2 w3) (trodAll_cons_mk (Below.trod laidOut (by kernel_rfl) (of_decide_eq_true (by kernel_rfl)) k4 bel lt4) (trodAll_cons_mk (Below.trod laidOut (by kernel_rfl) (of_decide_eq_true (by kernel_rfl)) k5 bel lt5) (trodAll_cons_mk (Below.trod laidOut (by kernel_rfl) (of_decide_eq_true (by kernel_rfl)) k6 bel lt6) trodAll_mk0))))))), rfl, bel.frame _, fun h => by cases h⟩
theorem proved : Rows.ConfigPiecesUptoSaid :=
  OpenClaim.holds_of_cond 5 Try.f5 rfl rfl rfl rfl rfl rfl rfl ⟨rfl, rfl, rfl, rfl, rfl⟩ rfl rfl rfl rfl rfl (by kernel_rfl) Try.func5 (by kernel_rfl)
    (of_decide_eq_true (by kernel_rfl)) (by unfold Func.isWrapper; first | (rw [if_pos (by decide +kernel)]; kernel_rfl) | (rw [if_neg (by decide +kernel)]; exact ⟨rfl, rfl⟩))
    (fun os started H enc _ F => lifted os started H enc F)
#print axioms proved
end Go.Proofs.Ytamghkoanamapaa.configPieces
namespace Go.Proofs.Ytamghkoanamapaa
/-- The row, under a short name, for the claim. -/
theorem configPieces_holds : Rows.ConfigPiecesUptoSaid := configPieces.proved
end Go.Proofs.Ytamghkoanamapaa
