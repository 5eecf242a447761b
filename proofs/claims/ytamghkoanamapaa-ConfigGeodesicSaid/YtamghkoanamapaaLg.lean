/- The law ConfigGeodesic: for every input the call returns true, and each argument reads as it read before. No condition. -/
import Derived.Test.YtamghkoanamapaaRows
import Derived.Test.YtamghkoanamapaaGw
import Derived.WalkKit
import Derived.ProofKit
import Derived.OpenShut
import Derived.ShutString
import Derived.ChangeOld
import Derived.Below
import Derived.SizedLaws
namespace Go.Proofs.Ytamghkoanamapaa.configGeodesic
open Go.ChangeShapes Go.WideShapes Go.ChangeAt Go.RowKit
open Go.ChangeMaps (open_string shut_string)
set_option linter.unusedVariables false
theorem own : ownKnob Try.prog.godebug = none := by kernel_rfl
theorem laidOut : laidOutB Try.prog = true := by kernel_rfl
set_option maxRecDepth 100000 in
theorem lifted (os : Os) (started : os.Started) (H : Type) (enc : TypeId × Value → H) :
    ReturnsInHanded {} Try.checked os 10 .any (Rows.configGeodesicSpec.pre6 enc Try.prog Try.f10 Rows.configGeodesicRow.domain false) (Rows.configGeodesicSpec.post enc Try.prog Try.f10 false true false false) := by
  refine returnsInHanded_of_change_sized (C := Try.checked) own started (by kernel_rfl) Try.func10
    (ChangeSpec.witness6 (enc := enc) (C := Try.checked) false ⟨#[], #[.slice none 0 0, .slice none 0 0, .slice none 0 0, .int .i64 0, .int .i64 0], []⟩ 8 (by kernel_rfl) (by kernel_rfl) (by kernel_rfl) (by kernel_rfl)) ?_
  intro W base args ds gs before hval0 hW hcnd hsz0 _
  have hsz : (DataW.weightsEach Try.prog (Try.f10.params.toList ++ Rows.configGeodesicSpec.plain.varTypes Try.prog) (ds ++ gs)).all (· ≤ reachBytes) = true := hsz0
  have hval : ∀ (j : Nat) t v, Try.f10.params[j]? = some t → args[j]? = some v → Value.okWide Try.prog W .any base t v := hval0
  have hW' := hW
  obtain ⟨p, q, hA0, hV, rfl, hfz, hnd⟩ := hW
  have hA : DataW.TrodAll enc Try.prog W 0 (fun _ => true) true Try.f10.params.toList args.toList ds p := hA0
  rw [Try.params10] at hA hval hsz
  obtain ⟨v0, vs0, d0, ds0, p0, q0, hargs, rfl, rfl, h0, r0⟩ := trodAll_cons hA
  obtain ⟨v1, vs1, d1, ds1, p1, q1, rfl, rfl, rfl, h1, r1⟩ := trodAll_cons r0
  obtain ⟨v2, vs2, d2, ds2, p2, q2, rfl, rfl, rfl, h2, r2⟩ := trodAll_cons r1
  obtain ⟨v3, vs3, d3, ds3, p3, q3, rfl, rfl, rfl, h3, r3⟩ := trodAll_cons r2
  obtain ⟨v4, vs4, d4, ds4, p4, q4, rfl, rfl, rfl, h4, r4⟩ := trodAll_cons r3
  obtain ⟨rfl, rfl, rfl⟩ := trodAll_nil r4
  obtain rfl : args = #[v0, v1, v2, v3, v4] := by cases args; simp_all
  obtain ⟨rfl, rfl⟩ := trodVars_none hV
  have k0 := h0
  have lt0 : ∀ x ∈ p0, x.block < W.heap.size := by obtain ⟨m, hm⟩ := k0; exact DataW.trod_lt m _ _ _ hm
  obtain ⟨a0, n0, c0, L0, b0, l0, u0, rfl, y0, hl0, hq0, rb0, vr0, sl0⟩ := Go.AM.arg_slice (P := Try.prog) (W := W) (enc := enc) (B := 8) (K := 140737488351232) Go.AM.Try.tZ (fun x : Int => (Lit.int .i64 x).wf = true) Try.underlying22 (by kernel_rfl) (fun n cs y hc h => by
      obtain ⟨x, rfl, hx⟩ := Go.AM.trod_int Try.underlying3 n cs y h
      exact ⟨x, rfl, hx⟩)
    (fun el rest hd => by subst hd; exact sized_slice hsz (j := 0) (t := 22) rfl rfl Try.underlying22) (hval 0 22 v0 rfl rfl) h0
  have k1 := h1
  have lt1 : ∀ x ∈ p1, x.block < W.heap.size := by obtain ⟨m, hm⟩ := k1; exact DataW.trod_lt m _ _ _ hm
  obtain ⟨a1, n1, c1, L1, b1, l1, u1, rfl, y1, hl1, hq1, rb1, vr1, sl1⟩ := Go.AM.arg_slice (P := Try.prog) (W := W) (enc := enc) (B := 8) (K := 140737488351232) Go.AM.Try.tZ (fun x : Int => (Lit.int .i64 x).wf = true) Try.underlying22 (by kernel_rfl) (fun n cs y hc h => by
      obtain ⟨x, rfl, hx⟩ := Go.AM.trod_int Try.underlying3 n cs y h
      exact ⟨x, rfl, hx⟩)
    (fun el rest hd => by subst hd; exact sized_slice hsz (j := 1) (t := 22) rfl rfl Try.underlying22) (hval 1 22 v1 rfl rfl) h1
  have k2 := h2
  have lt2 : ∀ x ∈ p2, x.block < W.heap.size := by obtain ⟨m, hm⟩ := k2; exact DataW.trod_lt m _ _ _ hm
  obtain ⟨a2, n2, c2, L2, b2, l2, u2, rfl, y2, hl2, hq2, rb2, vr2, sl2⟩ := Go.AM.arg_slice (P := Try.prog) (W := W) (enc := enc) (B := 8) (K := 140737488351232) Go.AM.Try.tZ (fun x : Int => (Lit.int .i64 x).wf = true) Try.underlying22 (by kernel_rfl) (fun n cs y hc h => by
      obtain ⟨x, rfl, hx⟩ := Go.AM.trod_int Try.underlying3 n cs y h
      exact ⟨x, rfl, hx⟩)
    (fun el rest hd => by subst hd; exact sized_slice hsz (j := 2) (t := 22) rfl rfl Try.underlying22) (hval 2 22 v2 rfl rfl) h2
  obtain ⟨a3, rfl, rfl, rfl, w3⟩ := open_int Try.underlying3 (hval 3 3 v3 rfl rfl) h3
  obtain ⟨a4, rfl, rfl, rfl, w4⟩ := open_int Try.underlying3 (hval 4 3 v4 rfl rfl) h4
  clear hA0 hval0 hsz0 hsz
  have eq := Go.AM.Try.c10 (h := [b0, b1, b2]) (sl0 0 _ rfl) (sl1 1 _ rfl) (sl2 2 _ rfl) (by omega) (by omega) (by omega) a3 (Go.AM.wf_i64 w3) a4 (Go.AM.wf_i64 w4)
  refine (Go.AM.law_calls Go.AM.Try.fit (f := 10) (bs := [(b0, l0), (b1, l1), (b2, l2)]) (by simp only [List.mem_cons, List.not_mem_nil, or_false]; rintro p (rfl | rfl | rfl) <;> assumption) (us := [.slice (u0 0) n0 c0, .slice (u1 1) n1 c1, .slice (u2 2) n2 c2, .int .i64 a3, .int .i64 a4]) (args := [.slice a0 n0 c0, .slice a1 n1 c1, .slice a2 n2 c2, .int .i64 a3, .int .i64 a4]) (.cons (vr0 0 _ rfl) (.cons (vr1 1 _ rfl) (.cons (vr2 2 _ rfl) (.cons (.int _ _) (.cons (.int _ _) .nil))))) (by exact eq)).mono fun e W' ⟨he, bel⟩ => ?_
  subst he
  exact ⟨_, rfl, _, _, _, [], _, [], hW', trodAll_mk1 (shut_bool Try.underlying4 _), (trodAll_cons_mk (Below.trod laidOut (by kernel_rfl) (of_decide_eq_true (by kernel_rfl)) k0 bel lt0) (trodAll_cons_mk (Below.trod laidOut (by kernel_rfl) (of_decide_eq_true (by kernel_rfl)) k1 bel lt1) (trodAll_cons_mk (Below.trod laidOut (by kernel_rfl) (of_decide_eq_true (by kernel_rfl)) k2 bel lt2) (trodAll_cons_mk (shut_int Try.underlying3 w3) (trodAll_cons_mk (shut_int Try.underlying3 w4) trodAll_mk0))))), rfl, bel.frame _, fun h => by cases h⟩
theorem over : Rows.configGeodesicRow.holds Try.pinned (OpenSpec.ofChange Rows.configGeodesicSpec) :=
  OpenClaim.holds_of_wide 10 Try.f10 rfl rfl rfl rfl rfl rfl rfl ⟨rfl, rfl, rfl, rfl, rfl⟩ rfl rfl rfl rfl rfl (by kernel_rfl) Try.func10 (by kernel_rfl)
    (of_decide_eq_true (by kernel_rfl)) (by unfold Func.isWrapper; first | (rw [if_pos (by decide +kernel)]; kernel_rfl) | (rw [if_neg (by decide +kernel)]; exact ⟨rfl, rfl⟩))
    (fun os started H enc _ => lifted os started H enc)
theorem proved : Rows.ConfigGeodesicSaid := over
#print axioms proved
end Go.Proofs.Ytamghkoanamapaa.configGeodesic
namespace Go.Proofs.Ytamghkoanamapaa
/-- The row, under a short name, for the claim. -/
theorem configGeodesic_holds : Rows.ConfigGeodesicSaid := configGeodesic.proved
end Go.Proofs.Ytamghkoanamapaa
