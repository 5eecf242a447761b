/- The conditions on the program's code, as Bools for the kernel. No condition: these are sound. -/
import Derived.Test.YtamghkoanamapaaEo
namespace Go.AM
open Go.RowKit

def opdB : Operand → Bool
  | .const v => afB v
  | .global _ => false
  | _ => true
theorem opdB_spec {x : Operand} (h : opdB x = true) : OpdOK x := by
  unfold opdB at h
  split at h
  · exact afB_spec h
  · cases h
  · unfold OpdOK; split <;> simp_all

def opB (P : Program) : Op → Bool
  | .convert s _ _ => (P.underlying s).isSome
  | _ => true
theorem opB_spec {P : Program} {o : Op} (h : opB P o = true) : OpOK P o := by
  unfold opB at h
  split at h
  · exact Option.isSome_iff_exists.1 h
  · unfold OpOK; split <;> simp_all

def regB (P : Program) (n : Nat) (ops : Array Oper) : Bool := ops.toList.all fun o =>
  o.op.operands.toList.all opdB && opB P o.op && (match o.dst with | some d => decide (d < n) | none => true)
theorem regB_spec {P : Program} {n : Nat} {ops : Array Oper} (h : regB P n ops = true) : RegOK P n ops := by
  unfold regB at h
  rw [List.all_eq_true] at h
  have g : ∀ (i : Nat) (o : Oper), ops[i]? = some o → _ := fun i o ho => h o (by
    rw [Array.mem_toList_iff]; exact Array.mem_of_getElem? ho)
  simp only [Bool.and_eq_true, List.all_eq_true] at g
  refine ⟨fun i o ho y hy => opdB_spec ((g i o ho).1.1 y hy), fun i o ho => opB_spec (g i o ho).1.2, fun i o ho d hd => ?_⟩
  have := (g i o ho).2
  rw [hd] at this
  simpa using this

def codeB (P : Program) (n : Nat) : Code → Bool
  | .region _ ops draw => regB P n ops && (!draw || orderly ops)
  | .seq x y => codeB P n x && codeB P n y
  | .cond c x y => opdB c && codeB P n x && codeB P n y
  | .block _ c => codeB P n c
  | .loop c => codeB P n c
  | _ => true
theorem codeB_spec {P : Program} {n : Nat} : ∀ {c : Code}, codeB P n c = true → CodeOK P n c
  | .region _ ops draw, h => by
    simp only [codeB, Bool.and_eq_true, Bool.or_eq_true, Bool.not_eq_true'] at h
    exact ⟨regB_spec h.1, fun hd => h.2.resolve_left (by simp [hd])⟩
  | .seq x y, h => by simp only [codeB, Bool.and_eq_true] at h; exact ⟨codeB_spec h.1, codeB_spec h.2⟩
  | .cond c x y, h => by simp only [codeB, Bool.and_eq_true] at h; exact ⟨opdB_spec h.1.1, codeB_spec h.1.2, codeB_spec h.2⟩
  | .block _ c, h => by simp only [codeB] at h; exact codeB_spec (c := c) h
  | .loop c, h => by simp only [codeB] at h; exact codeB_spec (c := c) h
  | .skip, _ => trivial
  | .exit _, _ => trivial
  | .ret, _ => trivial
  | .rangeFunc .., _ => trivial
  | .scope .., _ => trivial
  | .label .., _ => trivial
  | .goto .., _ => trivial
  | .refuse .., _ => trivial

def fnB (P : Program) (f : FuncId) : Bool := match P.funcs[f]? with
  | none => true
  | some fn => fn.name != "runtime.NumGoroutine" && (match fn.body with | some c => codeB P fn.ntmps c | none => true)
theorem fnB_spec {P : Program} {f : FuncId} (h : fnB P f = true) : FnOK P f := by
  refine ⟨fun fn hfn => ?_⟩
  simp only [fnB, hfn, Bool.and_eq_true, bne_iff_ne] at h
  refine ⟨h.1, fun c hc => ?_⟩
  have := h.2
  rw [hc] at this
  exact codeB_spec this

def szOf (P : Program) (t : TypeId) : Nat := (sizeA P t).getD 0
theorem szOf_eq {P : Program} {t : TypeId} {n : Nat} (h : sizeA P t = some n) : szOf P t = n := by simp [szOf, h]

/-- The abstract call over all functions of a program that the Bool lets by. -/
noncomputable abbrev callP (P : Program) : Call := call P (fnB P)

theorem callP_ok {P : Program} (fit : Fit P) (w : World) : CallOK P ⟨w, szOf P⟩ (callP P) := call_ok fit (fun _ _ h => szOf_eq h) (fun _ h => fnB_spec h)

end Go.AM
