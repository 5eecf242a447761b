/- The abstract machine: a deterministic evaluator of the loaded program's code, over a heap of its own. No condition: these are definitions; what they are worth is the theorem of the text Ef. -/
import Derived.Orders
import Derived.Below
import Derived.Deep.LoopGhost
import Derived.Laws.MakeOwn
import Derived.Room.AppendAsks
namespace Go.AM

/-- A block of the abstract heap: a row of cells ('ro': it came in with the arguments, nobody writes there), a map, an iterator over a string. -/
inductive Blk where
  | cells (c : List Value) (e : TypeId) (ro : Bool)
  | map (es : List (Value × Value))
  | iter (s : ByteArray) (pos : Nat)
  | dead

abbrev AH := List Blk
abbrev Slots := Nat → Value

def Slots.set (s : Slots) (d : Nat) (v : Value) : Slots := fun t => if t = d then v else s t
def Slots.put (s : Slots) (d : Option Nat) (v : Value) : Slots := match d with | some d => s.set d v | none => s

/-- Values without addresses. -/
inductive Af : Value → Prop where
  | bool (b) : Af (.bool b)
  | int (k n) : Af (.int k n)
  | string (s) : Af (.string s)
  | ptr0 : Af (.pointer none)
  | slice0 (n c) : Af (.slice none n c)
  | map0 : Af (.map none)
  | func0 : Af .nilFunc
  | iface0 : Af .nilIface
  | iface (t) {v} (h : Af v) : Af (.iface t v)
  | func (f) {a b : Array Value} (ha : ∀ v ∈ a, Af v) (hb : ∀ v ∈ b, Af v) : Af (.func (.func f) a b)
  | agg {cs : Array Value} (h : ∀ v ∈ cs, Af v) : Af (.agg cs)
  | tuple {cs : Array Value} (h : ∀ v ∈ cs, Af v) : Af (.tuple cs)

/-- Address-free, as a Bool: scalars, and rows of scalars. -/
def afS : Value → Bool
  | .bool _ | .int _ _ | .string _ | .pointer none | .slice none _ _ | .map none | .nilFunc | .nilIface => true
  | _ => false
def afB : Value → Bool
  | .agg cs => cs.toList.all afS
  | v => afS v
theorem afS_spec {v : Value} (h : afS v = true) : Af v := by
  unfold afS at h
  split at h <;> first | (cases h; done) | (constructor; done)
theorem afB_spec {v : Value} (h : afB v = true) : Af v := by
  unfold afB at h
  split at h
  · refine .agg fun x hx => afS_spec ?_
    rw [List.all_eq_true] at h
    exact h x (by simpa using hx)
  · exact afS_spec h
/-- A type's zero, if it holds no address. -/
def zeroI (i : TypeInfo) : Option Value := i.zero.bind fun z => if afB z then some z else none
theorem zeroI_spec {i : TypeInfo} {z : Value} (h : zeroI i = some z) : i.zero = some z ∧ Af z := by
  unfold zeroI at h
  rw [Option.bind_eq_some_iff] at h
  obtain ⟨y, hy, h⟩ := h
  split at h
  · rename_i hb
    cases h
    exact ⟨hy, afB_spec hb⟩
  · cases h

def ev (s : Slots) : Operand → Value
  | .tmp t => s t
  | .const v => v
  | .global g => .pointer (some ⟨g, 0, none⟩)
  | .func f => .func (.func f) #[] #[]

section
variable (P : Program)

def isAggA (t : TypeId) : Option Bool :=
  match P.underlying t with
  | some (.struct _) | some (.array _ _) => some true
  | some _ => some false
  | none => none
def sizeA (t : TypeId) : Option Nat := (P.info? t).map (·.size)
def zeroA (t : TypeId) : Option Value := (P.info? t).bind zeroI

def partA (t : TypeId) (cs : List Value) (off : Nat) : Option Value :=
  (isAggA P t).bind fun b =>
    if b then (sizeA P t).bind fun n => if off + n ≤ cs.length then some (.agg ((cs.drop off).take n).toArray) else none
    else cs[off]?

/-- The cells of a block. -/
def rowA (h : AH) (i : Nat) : Option (List Value) := match h[i]? with | some (.cells c _ _) => some c | _ => none

def loadA (h : AH) (t : TypeId) (v : Value) : Option Value :=
  match v with
  | .pointer (some ⟨i, o, none⟩) => (rowA h i).bind fun c => partA P t c o
  | _ => none

/-- Cells written at a place. -/
def splice (c : List Value) (o : Nat) (vs : List Value) : List Value := c.take o ++ vs ++ c.drop (o + vs.length)

def storeRow (h : AH) (i o : Nat) (vs : List Value) : Option AH :=
  match h[i]? with
  | some (.cells c e false) => if o + vs.length ≤ c.length ∧ vs.all Value.oneCell' then some (h.set i (.cells (splice c o vs) e false)) else none
  | _ => none

def storeA (h : AH) (t : TypeId) (a v : Value) : Option AH :=
  match a with
  | .pointer (some ⟨i, o, none⟩) => (sizeA P t).bind fun n => if v.cells.size = n then storeRow h i o v.cells.toList else none
  | _ => none

def intA : Value → Option Int | .int _ n => some n | _ => none

/-- An address, n cells further. -/
def addA (a : Addr) (n : Nat) : Value := .pointer (some (a.add n))

def fieldAddrA (t : TypeId) (x : Value) (f : Nat) : Option Value :=
  match P.underlying t, x with
  | some (.struct fs), .pointer (some ⟨i, o, none⟩) => (fs[f]?).bind fun fd => (sizeA P fd.type).bind fun n => if n = 0 then none else some (.pointer (some ⟨i, o + fd.offset, none⟩))
  | _, _ => none

def fieldA (t : TypeId) (x : Value) (f : Nat) : Option Value :=
  match P.underlying t, x with
  | some (.struct fs), .agg cs => (fs[f]?).bind fun fd => partA P fd.type cs.toList fd.offset
  | _, _ => none

def indexAddrA (t : TypeId) (x ix : Value) : Option Value :=
  match P.underlying t, x, ix with
  | some (.slice e), .slice (some ⟨i, o, none⟩) len _, .int _ n => if 0 ≤ n ∧ n < len then (sizeA P e).map fun k => .pointer (some ⟨i, o + n.toNat * k, none⟩) else none
  | some (.array len e), .pointer (some ⟨i, o, none⟩), .int _ n => if 0 ≤ n ∧ n < len then (sizeA P e).map fun k => .pointer (some ⟨i, o + n.toNat * k, none⟩) else none
  | _, _, _ => none

def indexA (t : TypeId) (x ix : Value) : Option Value :=
  match P.underlying t, x, ix with
  | some (.array len e), .agg cs, .int _ n => if 0 ≤ n ∧ n < len then (sizeA P e).bind fun k => partA P e cs.toList (n.toNat * k) else none
  | some .string, .string s, .int _ n => if 0 ≤ n then (s[n.toNat]?).map fun b => .int .u8 b.toNat else none
  | _, _, _ => none

/-- A run that asks nothing of the world: over the empty one. -/
noncomputable def still (s : Sem Value) : Option Value := match s.run P default with | .ok v _ => some v | .halt .. => none

def oneNil : Option TypeDesc → Value → Value → Bool
  | some (.pointer _), .pointer none, .pointer _ | some (.pointer _), .pointer _, .pointer none => true
  | some (.slice _), .slice none _ _, .slice _ _ _ | some (.slice _), .slice _ _ _, .slice none _ _ => true
  | some (.map _ _), .map none, .map _ | some (.map _ _), .map _, .map none => true
  | some (.func _ _ _), .nilFunc, .func _ _ _ | some (.func _ _ _), .func _ _ _, .nilFunc => true
  | some (.interface _), .nilIface, .iface _ _ | some (.interface _), .iface _ _, .nilIface => true
  | _, _, _ => false
def eqRes (op : BinOp) (b : Bool) : Bool := match op with | .eql => b | _ => !b
def isNil : Value → Bool
  | .pointer none | .slice none _ _ | .map none | .nilFunc | .nilIface => true
  | _ => false

open Classical in
noncomputable def binA (op : BinOp) (t : TypeId) (x y : Value) : Option Value :=
  match x, y with
  | .int k a, .int k' b => still P (binOp op t (.int k a) (.int k' b))
  | .string a, .string b => still P (binOp op t (.string a) (.string b))
  | .nilIface, .nilIface => none
  | x, y =>
    if op = .eql ∨ op = .neq then
      if Af x ∧ Af y then still P (do eqGuard op t (.tmp 0) (.tmp 0) x y; pure (.bool (eqRes op (← Op.equal t x y))))
      else if oneNil (P.underlying t) x y then some (.bool (eqRes op (isNil x && isNil y))) else none
    else none

open Classical in
noncomputable def unA (op : UnOp) (x : Value) : Option Value := if Af x then still P (Op.unary op x) else none

def convA (dst : TypeId) (x : Value) : Option Value :=
  match P.underlying dst, x with
  | some (.int k), .int _ n => some (.int k (k.wrap n))
  | some .string, .string s => some (.string s)
  | _, _ => none

def makeSliceA (h : AH) (t : TypeId) (l c : Value) : Option (Value × AH) :=
  match P.underlying t, l, c with
  | some (.slice e), .int _ l, .int _ c => (P.info? e).bind fun i =>
      if 0 ≤ l ∧ l ≤ c ∧ (i.bytes : Int) * c ≤ 2 ^ 48 ∧ c ≤ 2 ^ 48 ∧ 0 < i.size then (zeroI i).bind fun z =>
        if z.cells.size = i.size then some (.slice (some ⟨h.length, 0, none⟩) l.toNat c.toNat, h ++ [.cells (madeCells z.cells (c.toNat * i.size)).toList e false]) else none
      else none
  | _, _, _ => none

def buildA (t : TypeId) (parts : List (Nat × Value)) : Option Value :=
  (zeroA P t).bind fun z =>
  match P.underlying t with
  | some (.struct fs) => (fs.toList.mapM fun f => (sizeA P f.type).map fun n => (f.offset, n)).bind fun ps => (Instr.fill (ps[·]?) z.cells parts).map .agg
  | some (.array _ e) => (sizeA P e).bind fun n => (Instr.fill (fun i => some (i * n, n)) z.cells parts).map .agg
  | _ => none

def buildSliceA (h : AH) (t : TypeId) (len : Nat) (parts : List (Nat × Value)) : Option (Value × AH) :=
  match P.underlying t with
  | some (.slice e) => (P.info? e).bind fun i => if len * i.size ≤ 2 ^ 24 ∧ 0 < i.size then (zeroI i).bind fun z =>
      if z.cells.size = i.size then
        (Instr.fill (fun j => some (j * i.size, i.size)) (madeCells z.cells (len * i.size)) parts).map fun cs => (.slice (some ⟨h.length, 0, none⟩) len len, h ++ [.cells cs.toList e false])
      else none else none
  | _ => none

def boundA (x : Option Value) (d top : Nat) : Option Nat :=
  match x with
  | none => some d
  | some (.int _ n) => if 0 ≤ n ∧ n ≤ top then some n.toNat else none
  | some _ => none

def roAt (h : AH) (i : Nat) : Bool := match h[i]? with | some (.cells _ _ ro) => ro | _ => false

/-- Has a block that is written the elements' type? -/
def fits (h : AH) (i : Nat) (e : TypeId) : Bool := match h[i]? with | some (.cells _ e' ro) => ro || e' == e | _ => false

def sliceA (h : AH) (t : TypeId) (x : Value) (lo hi mx : Option Value) : Option Value :=
  match P.underlying t, x with
  | some .string, .string s => if mx.isSome then none else (boundA hi s.size s.size).bind fun r => (boundA lo 0 r).map fun l => .string (s.extract l r)
  | some (.slice e), .slice none n c => if n = 0 ∧ c = 0 ∧ mx = none then (boundA hi 0 0).bind fun r => (boundA lo 0 r).bind fun _ => (sizeA P e).map fun _ => .slice none 0 0 else none
  | some (.slice e), .slice (some ⟨i, o, none⟩) n c =>
    (boundA mx c c).bind fun m => (boundA hi n m).bind fun r => (boundA lo 0 r).bind fun l => (sizeA P e).bind fun k =>
      if mx.isSome ∧ hi = none then none
      else if m < r then none
      else if fits h i e = false then none
      else if m = l then (if mx.isSome ∨ c = 0 ∨ roAt h i then some (.slice (some ⟨i, o, none⟩) 0 0) else some (.slice (some ⟨i, o, some 1⟩) 0 0))
      else some (.slice (some ⟨i, o + l * k, none⟩) (r - l) (m - l))
  | some (.array n e), .pointer (some ⟨i, o, none⟩) =>
    if mx.isSome then none else (boundA hi n n).bind fun r => (boundA lo 0 r).bind fun l => (sizeA P e).bind fun k =>
      if n = l then none else some (.slice (some ⟨i, o + l * k, none⟩) (r - l) (n - l))
  | _, _ => none

def lenA (t : TypeId) (x : Value) (h : AH) : Option Value :=
  match P.underlying t, x with
  | some .string, .string s => some (.int .i64 s.size)
  | some (.array n _), _ => some (.int .i64 n)
  | some (.slice _), .slice _ n _ => some (.int .i64 n)
  | some (.map _ _), .map none => some (.int .i64 0)
  | some (.map _ _), .map (some r) => match h[r]? with | some (.map es) => some (.int .i64 es.length) | _ => none
  | _, _ => none

/-- The first n elements of a slice, as cells. -/
def firstA (h : AH) (k n : Nat) : Value → Option (List Value)
  | .slice (some ⟨i, o, sp⟩) _ _ => if n * k = 0 then some [] else if sp ≠ none then none else (rowA h i).bind fun c => if o + n * k ≤ c.length then some ((c.drop o).take (n * k)) else none
  | .slice none _ _ => if n * k = 0 then some [] else none
  | _ => none

/-- May x's type not be told (or is it an int: 'append(s, make(..)...)')? -/
def badTail (xt : TypeId) : Bool := match P.underlying xt with | some (.int _) => true | none => true | _ => false

/-- append(s, x...): where x is a slice. In place if there is room; else to a new block, and the old one dies. -/
def appendA (h : AH) (t xt : TypeId) (s x : Value) : Option (Value × AH) :=
  match P.underlying t, s, x with
  | some (.slice e), .slice base n c, .slice xb m _ => (P.info? e).bind fun i =>
    if i.size = 0 ∨ i.bytes = 0 ∨ badTail P xt = true ∨ 140737488355328 < (n + m) * i.bytes then none else
    (firstA h i.size m x).bind fun new =>
    (zeroI i).bind fun z =>
    if new.all Value.oneCell' = true ∧ z.cells.size = i.size then
    match base with
    | none => if n = 0 ∧ c = 0 then (if m = 0 then some (.slice none 0 0, h) else some (.slice (some ⟨h.length, 0, none⟩) m m, h ++ [.cells new e false])) else none
    | some ⟨b, o, none⟩ =>
      if n + m ≤ c then (if m = 0 then some (s, h) else (storeRow h b (o + n * i.size) new).map fun h' => (.slice base (n + m) c, h'))
      else if c = 0 then (if n = 0 then some (.slice (some ⟨h.length, 0, none⟩) m m, h ++ [.cells new e false]) else none)
      else match h[b]? with
        | some (.cells C et false) =>
          if o + c * i.size ≤ C.length ∧ n ≤ c ∧ xb.map (·.block) ≠ some b ∧ et = e then
            some (.slice (some ⟨h.length, 0, none⟩) (n + m) (n + m), h.set b .dead ++ [.cells ((C.drop o).take (n * i.size) ++ new) e false])
          else none
        | _ => none
    | _ => none
    else none
  | _, _, _ => none

def copyA (h : AH) (t : TypeId) (d x : Value) : Option (Value × AH) :=
  match P.underlying t, d, x with
  | some (.slice e), .slice db dn _, .slice _ xn _ => (sizeA P e).bind fun k =>
    (firstA h k (min xn dn) x).bind fun new =>
    match db with
    | none => some (.int .i64 (min xn dn : Nat), h)
    | some ⟨b, o, none⟩ => if new = [] then some (.int .i64 (min xn dn : Nat), h) else (storeRow h b o new).map fun h' => (.int .i64 (min xn dn : Nat), h')
    | _ => none
  | _, _, _ => none

def minA : List Value → Option Value
  | [] => none
  | .int k x :: rest => rest.foldlM (fun a b => match a, b with | .int k x, .int _ y => some (.int k (if y < x then y else x)) | _, _ => none) (.int k x)
  | _ => none
def maxA : List Value → Option Value
  | [] => none
  | .int k x :: rest => rest.foldlM (fun a b => match a, b with | .int k x, .int _ y => some (.int k (if y > x then y else x)) | _, _ => none) (.int k x)
  | _ => none

def rangeA (h : AH) (t : TypeId) (x : Value) : Option (Value × AH) :=
  match P.underlying t, x with
  | some .string, .string s => some (.pointer (some ⟨h.length, 0, none⟩), h ++ [.iter s 0])
  | _, _ => none

def nextA (h : AH) (it : Value) (isString : Bool) : Option (Value × AH) :=
  match it, isString with
  | .pointer (some ⟨r, 0, none⟩), true =>
    match h[r]? with
    | some (.iter s pos) =>
      if pos < s.size then some (.tuple #[.bool true, goInt pos, .int .i32 (Utf8.decode s pos).1], h.set r (.iter s (pos + (Utf8.decode s pos).2)))
      else some (.tuple #[.bool false], h)
    | _ => none
  | _, _ => none

def builtinA (b : Builtin) (ts : Array TypeId) (args : List Value) (h : AH) : Option (Value × AH) :=
  match b, args with
  | .len, [x] => (ts[0]?).bind fun t => (lenA P t x h).map fun v => (v, h)
  | .append, [s, x] => match ts.toList with | [t, xt] => appendA P h t xt s x | _ => none
  | .copy, [d, x] => (ts[0]?).bind fun t => copyA P h t d x
  | .min, args => (minA args).map fun v => (v, h)
  | .max, args => (maxA args).map fun v => (v, h)
  | _, _ => none

abbrev Call := FuncId → List Value → AH → Option (Value × AH)

/-- One operation. -/
noncomputable def opA (call : Call) (o : Op) (s : Slots) (h : AH) : Option (Value × AH) :=
  match o with
  | .move x | .assign x => some (ev s x, h)
  | .pick c a b => match ev s c with | .bool true => some (ev s a, h) | .bool false => some (ev s b, h) | _ => none
  | .alloc e => (zeroA P e).map fun z => (.pointer (some ⟨h.length, 0, none⟩), h ++ [.cells z.cells.toList e false])
  | .box e x => some (.pointer (some ⟨h.length, 0, none⟩), h ++ [.cells (ev s x).cells.toList e false])
  | .build t parts => (buildA P t (parts.toList.map fun (i, x) => (i, ev s x))).map fun v => (v, h)
  | .buildSlice t len parts => buildSliceA P h t len (parts.toList.map fun (i, x) => (i, ev s x))
  | .load t a => (loadA P h t (ev s a)).map fun v => (v, h)
  | .store t a x => (storeA P h t (ev s a) (ev s x)).map fun h' => (undef, h')
  | .nilCheck x => match ev s x with
    | .pointer (some a) => some (.pointer (some a), h)
    | .func (.func f) a b => some (.func (.func f) a b, h)
    | .iface t v => some (.iface t v, h)
    | _ => none
  | .binOp op t x y _ => (binA P op t (ev s x) (ev s y)).map fun v => (v, h)
  | .unOp op _ x => (unA P op (ev s x)).map fun v => (v, h)
  | .convert _ d x => (convA P d (ev s x)).map fun v => (v, h)
  | .makeInterface t x => match P.underlying t with | some (.interface _) => none | some _ => some (.iface t (ev s x), h) | none => none
  | .makeFunc (.func f) a b => some (.func (.func f) (a.map (ev s)) (b.map (ev s)), h)
  | .makeSlice t l c => makeSliceA P h t (ev s l) (ev s c)
  | .slice t x l r m => (sliceA P h t (ev s x) (l.map (ev s)) (r.map (ev s)) (m.map (ev s))).map fun v => (v, h)
  | .fieldAddr t x f => (fieldAddrA P t (ev s x) f).map fun v => (v, h)
  | .field t x f => (fieldA P t (ev s x) f).map fun v => (v, h)
  | .indexAddr t x i => (indexAddrA P t (ev s x) (ev s i)).map fun v => (v, h)
  | .index t x i => (indexA P t (ev s x) (ev s i)).map fun v => (v, h)
  | .extract x i => match ev s x with | .tuple vs => (vs[i]?).map fun v => (v, h) | _ => none
  | .range t x => rangeA P h t (ev s x)
  | .next x b => nextA h (ev s x) b
  | .call ⟨.builtin b, args, ts⟩ => builtinA P b ts (args.toList.map (ev s)) h
  | .call ⟨.value f, args, _⟩ => match ev s f with
    | .func (.func f) a b => call f (a.toList ++ args.toList.map (ev s) ++ b.toList) h
    | _ => none
  | _ => none

/-- Is an operation wanted? -/
def wantedA (ops : Array Oper) (o : Oper) (s : Slots) : Bool :=
  match o.guard with
  | none => true
  | some (j, b) => match (ops[j]?).bind (·.dst) with | some d => (match s d with | .bool b' => b' == b | _ => false) | none => false

/-- Operations that look at no memory. -/
def calm : Op → Bool
  | .move _ | .assign _ | .pick .. | .build .. | .nilCheck _ | .binOp .. | .unOp .. | .convert .. | .makeInterface .. | .makeFunc .. | .fieldAddr .. | .field .. | .indexAddr .. | .index .. | .extract .. => true
  | .call ⟨.builtin .min, _, _⟩ | .call ⟨.builtin .max, _, _⟩ => true
  | _ => false

/-- Which operations stand ahead of an operation, as bits; of those that stand ahead of it in the text 'acc' tells. -/
def bitsA (acc : List Nat) (o : Oper) : Nat := o.after.toList.foldl (fun s e => if Region.binds .any e then s ||| 2 ^ e.on ||| acc.getD e.on 0 else s) 0
def befsA : List Oper → List Nat → List Nat
  | [], acc => acc
  | o :: os, acc => befsA os (acc ++ [bitsA acc o])

/-- Operation i stands in a fixed order to all others that look at memory. -/
def fixedA (ops : Array Oper) (i : Nat) : Bool :=
  let b := befsA ops.toList []
  (List.range ops.size).all fun j => j == i || ((ops[j]?).map fun o => calm o.op).getD true || (b.getD i 0).testBit j || (b.getD j 0).testBit i

/-- Is it a load; is it the call of a function, or an append? -/
def isLoad : Op → Bool | .load .. => true | _ => false
def isCall : Op → Bool | .call ⟨.value _, _, _⟩ | .call ⟨.builtin .append, _, _⟩ => true | _ => false
/-- Operation i stands in a fixed order to all others that look at memory, but for loads. -/
def fixedB (ops : Array Oper) (i : Nat) : Bool :=
  let b := befsA ops.toList []
  (List.range ops.size).all fun j => j == i || ((ops[j]?).map fun o => calm o.op || isLoad o.op).getD true || (b.getD i 0).testBit j || (b.getD j 0).testBit i
/-- Does j stand ahead of i? -/
def befB (ops : Array Oper) (j i : Nat) : Bool := ((befsA ops.toList []).getD i 0).testBit j

/-- The loads so far (which operation, type, address, value); the calls so far, with the heap ahead of each. -/
structure Past where
  lds : List (Nat × TypeId × Value × Value) := []
  cls : List (Nat × AH) := []
def Past.next (st : Past) (i : Nat) (o : Op) (s : Slots) (h : AH) (v : Value) : Past :=
  match o with
  | .load t a => ⟨(i, t, ev s a, v) :: st.lds, st.cls⟩
  | .call ⟨.value _, _, _⟩ | .call ⟨.builtin .append, _, _⟩ => ⟨st.lds, (i, h) :: st.cls⟩
  | _ => st
/-- What is asked of an operation of a region whose order is drawn. -/
def okDraw (ops : Array Oper) (st : Past) (i : Nat) (o : Op) (s : Slots) (h : AH) (v : Value) (h' : AH) : Prop :=
  (h <+: h' ∨ fixedA ops i = true ∨ (isCall o = true ∧ fixedB ops i = true ∧ ∀ q ∈ st.lds, befB ops q.1 i = true ∨ loadA P h' q.2.1 q.2.2.1 = some q.2.2.2)) ∧
  (match o with | .load t a => ∀ g ∈ st.cls, befB ops g.1 i = true ∨ loadA P g.2 t (ev s a) = some v | _ => True)

/-- Every edge goes back in the text; operations that share a temporary stand in a fixed order. -/
def orderly (ops : Array Oper) : Bool :=
  let b := befsA ops.toList []
  (ops.toList.zipIdx.all fun (o, j) => o.after.all fun e => !Region.binds .any e || e.on < j) &&
  ops.toList.zipIdx.all fun (o, j) => ops.toList.zipIdx.all fun (p, i) => !(i < j) || (b.getD j 0).testBit i || p.apart ops o

open Classical in
noncomputable def runOps (call : Call) (ops : Array Oper) (draw : Bool) : Past → List Oper → Nat → Slots → AH → Option (Slots × AH)
  | _, [], _, s, h => some (s, h)
  | st, o :: rest, i, s, h =>
    if wantedA ops o s then
      (opA P call o.op s h).bind fun r =>
        if draw = true → okDraw P ops st i o.op s h r.1 r.2 then runOps call ops draw (st.next i o.op s h r.1) rest (i + 1) (s.put o.dst r.1) r.2 else none
    else runOps call ops draw st rest (i + 1) (s.put o.dst undef) h

inductive AExit where
  | normal | exit (id : Nat) | ret
  deriving DecidableEq

abbrev Out := Option (AExit × Slots × AH)

def loopA (body : Slots → AH → Out) : Nat → Slots → AH → Out
  | 0, _, _ => none
  | n + 1, s, h => match body s h with
    | some (.normal, s', h') => loopA body n s' h'
    | r => r

noncomputable def runC (call : Call) (n : Nat) : Code → Slots → AH → Out
  | .skip, s, h => some (.normal, s, h)
  | .region _ ops draw, s, h => (runOps P call ops draw {} ops.toList 0 s h).map fun r => (.normal, r.1, r.2)
  | .seq x y, s, h => match runC call n x s h with
    | some (.normal, s', h') => runC call n y s' h'
    | r => r
  | .cond c x y, s, h => match ev s c with
    | .bool true => runC call n x s h
    | .bool false => runC call n y s h
    | _ => none
  | .block id c, s, h => match runC call n c s h with
    | some (.exit id', s', h') => if id' = id then some (.normal, s', h') else some (.exit id', s', h')
    | r => r
  | .loop c, s, h => loopA (runC call n c) n s h
  | .exit id, s, h => some (.exit id, s, h)
  | .ret, s, h => some (.ret, s, h)
  | _, _, _ => none

def resA (s : Slots) (h : AH) : ResultVar → Option Value
  | .tmp t => some (s t)
  | .cell a t => loadA P h t (s a)

def oneOf : List Value → Value
  | [v] => v
  | vs => .tuple vs.toArray

def resultsA (fn : Func) (s : Slots) (h : AH) : Option Value := (fn.results.toList.mapM (resA P s h)).map oneOf

/-- Nothing that was there has turned, but for cells that hold no address now. -/
def Stable (h h' : AH) : Prop := h.length ≤ h'.length ∧ ∀ i, i < h.length → h[i]? = h'[i]? ∨
  ∃ (c c' : List Value) (e : TypeId) (r : Bool), h[i]? = some (.cells c e r) ∧ h'[i]? = some (.cells c' e r) ∧ c.length = c'.length ∧ ∀ j : Nat, c[j]? = c'[j]? ∨ ∃ v, c'[j]? = some v ∧ Af v

open Classical in
/-- A result's leaf, laid anew: its row is the next block. -/
noncomputable def leafA (n0 : Nat) (h : AH) (used : List Nat) (acc : AH) (v : Value) : Option (Value × List Nat × AH) :=
  match v with
  | .slice (some ⟨i, o, sp⟩) n c =>
    if o = 0 ∧ sp = none ∧ n0 ≤ i ∧ i ∉ used then
      match h[i]? with
      | some (.cells C e false) => if ∀ v ∈ C, Af v then some (.slice (some ⟨acc.length, 0, none⟩) n c, i :: used, acc ++ [.cells C e false]) else none
      | _ => none
    else none
  | v => if Af v then some (v, used, acc) else none

noncomputable def leavesA (n0 : Nat) (h : AH) : List Nat → AH → List Value → Option (List Value × List Nat × AH)
  | used, acc, [] => some ([], used, acc)
  | used, acc, v :: vs => (leafA n0 h used acc v).bind fun r => (leavesA n0 h r.2.1 r.2.2 vs).map fun q => (r.1 :: q.1, q.2)

noncomputable def partA1 (n0 : Nat) (h : AH) (used : List Nat) (acc : AH) (v : Value) : Option (Value × List Nat × AH) :=
  match v with
  | .agg cs => (leavesA n0 h used acc cs.toList).map fun r => (.agg r.1.toArray, r.2)
  | v => leafA n0 h used acc v

noncomputable def partsA (n0 : Nat) (h : AH) : List Nat → AH → List Value → Option (List Value × List Nat × AH)
  | used, acc, [] => some ([], used, acc)
  | used, acc, v :: vs =>
    (partA1 n0 h used acc v).bind fun r => (partsA n0 h r.2.1 r.2.2 vs).map fun q => (r.1 :: q.1, q.2)

noncomputable def layA (n0 : Nat) (h : AH) (acc : AH) (v : Value) : Option (Value × AH) :=
  match v with
  | .tuple vs => (partsA n0 h [] acc vs.toList).map fun r => (.tuple r.1.toArray, r.2.2)
  | v => match partsA n0 h [] acc [v] with | some ([v'], _, a) => some (v', a) | _ => none

open Classical in
/-- What is left of a call's memory. -/
noncomputable def gcA (h : AH) (v : Value) (h' : AH) : Value × AH :=
  if Stable h h' then
    if Af v then (v, h'.take h.length)
    else match layA h.length h' (h'.take h.length) v with
      | some r => r
      | none => (v, h')
  else (v, h')

def startA (args : List Value) : Slots := fun t => args.getD t undef

noncomputable def bodyA (call : Call) (n : Nat) (fn : Func) (args : List Value) (h : AH) : Option (Value × AH) :=
  fn.body.bind fun c =>
    match runC P call n c (startA args) h with
    | some (.normal, s, h') | some (.ret, s, h') => (resultsA P fn s h').map fun v => gcA h v h'
    | _ => none

/-- n rounds and levels at most; only functions of the list are entered. -/
noncomputable def callN (good : FuncId → Bool) : Nat → Call
  | 0, _, _, _ => none
  | n + 1, f, args, h => if good f then (P.funcs[f]?).bind fun fn => bodyA P (callN good n) n fn args h else none

end
end Go.AM
