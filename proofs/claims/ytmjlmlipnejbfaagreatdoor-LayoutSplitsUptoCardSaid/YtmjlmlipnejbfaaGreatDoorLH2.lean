/-
  The logical heap: what each operation does there, and the weakest precondition of code over it.
-/
import Derived.Test.YtmjlmlipnejbfaaGreatDoorLH1
set_option linter.all false
namespace Go.LH


/- types -/
def tsz (P : Program) (t : TypeId) : Option Nat := (P.info? t).map (·.size)
def tby (P : Program) (t : TypeId) : Option Nat := (P.info? t).map (·.bytes)
def tzero (P : Program) (t : TypeId) : Option (List Value) := (P.info? t).bind fun i => i.zero.bind fun z => if z.cells.toList.all plainB = true then some z.cells.toList else none
def descAgg : TypeDesc → Bool
  | .struct _ | .array _ _ => true
  | _ => false
def tagg (P : Program) (t : TypeId) : Option Bool := (P.underlying t).map descAgg
/-- A field's type and place; none of a field without cells. -/
def tfield (P : Program) (s : TypeId) (f : Nat) : Option (TypeId × Nat) :=
  match P.underlying s with
  | some (.struct fs) => match fs[f]? with
    | some fd => match tsz P fd.type with
      | some (_ + 1) => some (fd.type, fd.offset)
      | _ => none
    | none => none
  | _ => none
def telem (P : Program) (t : TypeId) : Option TypeId :=
  match P.underlying t with
  | some (.slice e) => some e
  | _ => none
def tarr (P : Program) (t : TypeId) : Option (Nat × TypeId) :=
  match P.underlying t with
  | some (.array n e) => some (n, e)
  | _ => none
/-- How many cells one element of an object of this type has. -/
def tesz (P : Program) (t : TypeId) : Nat :=
  match P.underlying t with
  | some (.array _ e) => (tsz P e).getD 0
  | _ => (tsz P t).getD 0
def tstr (P : Program) (t : TypeId) : Bool :=
  match P.underlying t with
  | some .string => true
  | _ => false

/- the heap -/
def AHeap.put (H : AHeap) (i : Nat) (o : AObj) : AHeap := ⟨fun j => if j = i then some o else H.get j, H.next⟩
def AHeap.add (H : AHeap) (o : AObj) : AHeap := ⟨fun j => if j = H.next then some o else H.get j, H.next + 1⟩
def AHeap.drop (H : AHeap) (i : Nat) : AHeap := ⟨fun j => if j = i then none else H.get j, H.next⟩
def AHeap.bump (H : AHeap) (n : Nat) : AHeap := ⟨H.get, n⟩
def AHeap.cellsAt (H : AHeap) (i o n : Nat) : Option (List Value) :=
  match H.get i with
  | some (.cells cs _ _) => if o + n ≤ cs.length then some ((cs.drop o).take n) else none
  | _ => none
def splice (cs : List Value) (o : Nat) (vs : List Value) : List Value := cs.take o ++ (vs ++ cs.drop (o + vs.length))
def AHeap.setAt (H : AHeap) (i o : Nat) (vs : List Value) : Option AHeap :=
  match H.get i with
  | some (.cells cs e true) => if o + vs.length ≤ cs.length ∧ vs.all oneCell = true then some (H.put i (.cells (splice cs o vs) e true)) else none
  | _ => none
def ofCells (agg : Bool) (cs : List Value) : Option Value :=
  match agg, cs with
  | true, cs => some (.agg cs.toArray)
  | false, [v] => some v
  | false, _ => none
def AHeap.load (P : Program) (H : AHeap) (t : TypeId) (i o : Nat) : Option Value :=
  match tagg P t, tsz P t with
  | some true, some n => (H.cellsAt i o n).map fun cs => .agg cs.toArray
  | some false, some _ => (H.cellsAt i o 1).bind (ofCells false)
  | _, _ => none
def AHeap.store (P : Program) (H : AHeap) (t : TypeId) (i o : Nat) (v : Value) : Option AHeap :=
  if tsz P t = some v.cells.toList.length then H.setAt i o v.cells.toList else none

/- operands -/
abbrev Env := Nat → Value
def upd (t : Env) (i : Nat) (v : Value) : Env := fun j => if j = i then v else t j
def putD (t : Env) (d : Option Tmp) (v : Value) : Env :=
  match d with
  | some i => upd t i v
  | none => t
def ev (t : Env) : Operand → Value
  | .tmp i => t i
  | .const v => v
  | .global g => .pointer (some ⟨g, 0, none⟩)
  | .func f => .func (.func f) #[] #[]

/- operations on numbers and strings -/
def aint (op : BinOp) (k : IntKind) (a b : Int) : Option Value :=
  match op with
  | .add => some (.int k (k.wrap (a + b)))
  | .sub => some (.int k (k.wrap (a - b)))
  | .mul => some (.int k (k.wrap (a * b)))
  | .quo => if b = 0 then none else some (.int k (k.wrap (a.tdiv b)))
  | .rem => if b = 0 then none else some (.int k (a.tmod b))
  | .and => some (.int k (k.wrap (BitVec.ofInt k.bits a &&& BitVec.ofInt k.bits b).toNat))
  | .or => some (.int k (k.wrap (BitVec.ofInt k.bits a ||| BitVec.ofInt k.bits b).toNat))
  | .xor => some (.int k (k.wrap (BitVec.ofInt k.bits a ^^^ BitVec.ofInt k.bits b).toNat))
  | .andNot => some (.int k (k.wrap (BitVec.ofInt k.bits a &&& ~~~ BitVec.ofInt k.bits b).toNat))
  | .eql => some (.bool (a == b))
  | .neq => some (.bool (a != b))
  | .lss => some (.bool (decide (a < b)))
  | .leq => some (.bool (decide (a ≤ b)))
  | .gtr => some (.bool (decide (a > b)))
  | .geq => some (.bool (decide (a ≥ b)))
  | _ => none
def ashift (op : BinOp) (k : IntKind) (a b : Int) : Option Value :=
  if b < 0 then none else
  match op with
  | .shl => some (.int k (k.wrap (a * 2 ^ (min b.toNat k.bits))))
  | .shr => some (.int k (a.fdiv (2 ^ (min b.toNat k.bits))))
  | _ => none
def astr (op : BinOp) (a b : ByteArray) : Option Value :=
  match op with
  | .add => if a.size + b.size ≤ 9223372036854775807 then some (.string (a ++ b)) else none
  | .eql => some (.bool (a.toList == b.toList))
  | .neq => some (.bool (!(a.toList == b.toList)))
  | .lss => some (.bool (Op.bytesLess a.toList b.toList))
  | .leq => some (.bool (Op.bytesLess a.toList b.toList || a.toList == b.toList))
  | .gtr => some (.bool (!(Op.bytesLess a.toList b.toList || a.toList == b.toList)))
  | .geq => some (.bool (!Op.bytesLess a.toList b.toList))
  | _ => none
/-- '==' of what is no number and no string: bools; against nil. -/
def aeq (P : Program) (t : TypeId) (x y : Value) : Option Bool :=
  match P.underlying t, x, y with
  | some .bool, .bool a, .bool b => some (a == b)
  | some (.pointer _), .pointer none, .pointer b => some b.isNone
  | some (.pointer _), .pointer (some _), .pointer none => some false
  | some (.slice _), .slice none _ _, .slice b _ _ => some b.isNone
  | some (.slice _), .slice (some _) _ _, .slice none _ _ => some false
  | some (.map _ _), .map none, .map b => some b.isNone
  | some (.map _ _), .map (some _), .map none => some false
  | some (.func _ _ _), .nilFunc, .nilFunc => some true
  | some (.func _ _ _), .nilFunc, .func _ _ _ => some false
  | some (.func _ _ _), .func _ _ _, .nilFunc => some false
  | some (.interface _), .nilIface, .iface _ _ => some false
  | some (.interface _), .iface _ _, .nilIface => some false
  | _, _, _ => none
/-- A part of an aggregate. -/
def apart (P : Program) (t : TypeId) (cs : List Value) (off : Nat) : Option Value :=
  match tagg P t, tsz P t with
  | some true, some n => if off + n ≤ cs.length then some (.agg ((cs.drop off).take n).toArray) else none
  | some false, some _ => cs[off]?
  | _, _ => none
/-- '==' of structs, field by field. -/
def acmpF (P : Program) (cmp : TypeId → Value → Value → Option Bool) (xs ys : List Value) : List Field → Option Bool
  | [] => some true
  | f :: fs => if f.name = "_" then none else
    match apart P f.type xs f.offset, apart P f.type ys f.offset with
    | some a, some b => (cmp f.type a b).bind fun r => (acmpF P cmp xs ys fs).map fun q => r && q
    | _, _ => none
def acmp (P : Program) : Nat → TypeId → Value → Value → Option Bool
  | 0, _, _, _ => none
  | d + 1, t, x, y =>
    match P.underlying t, x, y with
    | some .bool, .bool a, .bool b => some (a == b)
    | some (.int _), .int k a, .int k' b => if k = k' then some (a == b) else none
    | some .string, .string a, .string b => some (a.toList == b.toList)
    | some (.struct fs), .agg ⟨xs⟩, .agg ⟨ys⟩ => if P.stoodInHeld t = false then acmpF P (acmp P d) xs ys fs.toList else none
    | _, _, _ => none
def aeqAgg (P : Program) (t : TypeId) (x y : Value) : Option Bool :=
  if P.eqGuardType P.depth t = false then acmp P 8 t x y else none
def abin (P : Program) (op : BinOp) (t : TypeId) (x y : Value) : Option Value :=
  match x, y with
  | .int k a, .int k' b =>
    match op with
    | .shl => ashift .shl k a b
    | .shr => ashift .shr k a b
    | op => if k = k' then aint op k a b else none
  | .string a, .string b => astr op a b
  | .agg xs, .agg ys => match op with
    | .eql => (aeqAgg P t (.agg xs) (.agg ys)).map Value.bool
    | .neq => (aeqAgg P t (.agg xs) (.agg ys)).map fun b => Value.bool (!b)
    | _ => none
  | x, y => match op with
    | .eql => (aeq P t x y).map Value.bool
    | .neq => (aeq P t x y).map fun b => Value.bool (!b)
    | _ => none
def isC : Operand → Bool
  | .const _ => true
  | _ => false
/-- Two values; two nil interfaces are the same if one of them is the literal nil. -/
def abinN (P : Program) (op : BinOp) (t : TypeId) (c : Bool) (x y : Value) : Option Value :=
  match c, x, y with
  | true, .nilIface, .nilIface => match P.underlying t, op with
    | some (.interface _), .eql => some (.bool true)
    | some (.interface _), .neq => some (.bool false)
    | _, _ => none
  | _, x, y => abin P op t x y
def aun (op : UnOp) (x : Value) : Option Value :=
  match op, x with
  | .neg, .int k n => some (.int k (k.wrap (0 - n)))
  | .not, .bool b => some (.bool (!b))
  | .xor, .int k n => some (.int k (k.wrap (BitVec.ofInt k.bits (if k.signed then -1 else k.max) ^^^ BitVec.ofInt k.bits n).toNat))
  | _, _ => none
def aconv (P : Program) (src dst : TypeId) (x : Value) : Option Value :=
  match P.underlying src, P.underlying dst, x with
  | some (.int _), some (.int k), .int _ n => some (.int k (k.wrap n))
  | some .string, some .string, .string s => some (.string s)
  | _, _, _ => none

/- building -/
def afill (place : Nat → Option (Nat × Nat)) (cells : List Value) : List (Nat × Value) → Option (List Value)
  | [] => some cells
  | (i, v) :: rest =>
    match place i with
    | some (off, size) => if v.cells.toList.length = size ∧ off + size ≤ cells.length then afill place (splice cells off v.cells.toList) rest else none
    | none => none
def fieldPlaces (P : Program) (fs : Array Field) (i : Nat) : Option (Nat × Nat) :=
  match fs[i]? with
  | some f => (tsz P f.type).map fun n => (f.offset, n)
  | none => none
def abuild (P : Program) (t : TypeId) (parts : List (Nat × Value)) : Option Value :=
  match tzero P t, P.underlying t with
  | some zero, some (.struct fs) =>
    if fs.toList.all (fun f => (tsz P f.type).isSome) then (afill (fieldPlaces P fs) zero parts).map fun cs => .agg cs.toArray else none
  | some zero, some (.array _ e) =>
    match tsz P e with
    | some size => (afill (fun i => some (i * size, size)) zero parts).map fun cs => .agg cs.toArray
    | none => none
  | _, _ => none
def azeros (zero : List Value) : Nat → List Value
  | 0 => []
  | n + 1 => zero ++ azeros zero n
def oneCells (cs : List Value) : Bool := cs.all oneCell

/- memory made -/
def AHeap.newCells (H : AHeap) (cs : List Value) (esz : Nat) : AHeap := H.add (.cells cs esz true)
def ptrTo (i : Nat) : Value := .pointer (some ⟨i, 0, none⟩)

/-- s[lo:hi:mx] of a slice. -/
def abound (x : Option Value) (d y : Nat) : Option Nat :=
  match x with
  | none => some d
  | some (.int _ n) => if 0 ≤ n ∧ n ≤ (y : Int) then some n.toNat else none
  | some _ => none
def asliceBounds (len cap : Nat) (lo hi mx : Option Value) : Option (Nat × Nat × Nat) :=
  if hi.isNone = true ∧ mx.isSome = true then none else
  (abound mx cap cap).bind fun m => (abound hi len m).bind fun h => (abound lo 0 h).map fun l => (l, h, m)
def aslice (P : Program) (H : AHeap) (t : TypeId) (x : Value) (lo hi mx : Option Value) : Option Value :=
  match P.underlying t, x with
  | some .string, .string s =>
    if mx.isSome then none else (asliceBounds s.size s.size lo hi none).map fun r => .string (s.extract r.1 r.2.1)
  | some (.slice e), .slice none 0 0 => (tsz P e).bind fun _ => (asliceBounds 0 0 lo hi mx).map fun _ => .slice none 0 0
  | some (.slice e), .slice (some ⟨i, o, none⟩) len cap =>
    match H.get i, tsz P e, asliceBounds len cap lo hi mx with
    | some (.cells _ esz _), some size, some (l, h, m) => if esz = size then some (.slice (some ⟨i, o + l * size, none⟩) (h - l) (m - l)) else none
    | _, _, _ => none
  | some (.array n e), .pointer (some ⟨i, o, none⟩) =>
    match tsz P e, asliceBounds n n lo hi mx with
    | some size, some (l, h, m) => some (.slice (some ⟨i, o + l * size, none⟩) (h - l) (m - l))
    | _, _ => none
  | _, _ => none
def aindexAddr (P : Program) (t : TypeId) (x ix : Value) : Option Value :=
  match ix with
  | .int _ n =>
    match P.underlying t, x with
    | some (.slice e), .slice (some ⟨i, o, none⟩) len _ =>
      match tsz P e with
      | some size => if 0 ≤ n ∧ n < (len : Int) then some (.pointer (some ⟨i, o + n.toNat * size, none⟩)) else none
      | none => none
    | some (.array len e), .pointer (some ⟨i, o, none⟩) =>
      match tsz P e with
      | some size => if 0 ≤ n ∧ n < (len : Int) then some (.pointer (some ⟨i, o + n.toNat * size, none⟩)) else none
      | none => none
    | _, _ => none
  | _ => none
def aindex (P : Program) (t : TypeId) (x ix : Value) : Option Value :=
  match ix with
  | .int _ n =>
    match P.underlying t, x with
    | some (.array len e), .agg ⟨cs⟩ =>
      match tsz P e with
      | some size => if 0 ≤ n ∧ n < (len : Int) then apart P e cs (n.toNat * size) else none
      | none => none
    | some .string, .string s => if 0 ≤ n ∧ n < (s.size : Int) then some (.int .u8 ((s.get! n.toNat).toNat : Int)) else none
    | _, _ => none
  | _ => none
def afieldV (P : Program) (t : TypeId) (x : Value) (f : Nat) : Option Value :=
  match x with
  | .agg ⟨cs⟩ => match tfield P t f with
    | some (ft, off) => apart P ft cs off
    | none => none
  | _ => none

/-- append(s, xs...): in place where there is room for sure; else the old object is gone and a new one has all. -/
def aappend (P : Program) (H : AHeap) (e : TypeId) (s : Value) (k : Nat) (new : List Value) : Option (Value × AHeap) :=
  match tsz P e, tby P e, tzero P e with
  | some (size0 + 1), some bytes, some zero =>
    let size := size0 + 1
    if new.length = k * size ∧ new.all oneCell = true ∧ zero.length = size then
      match s with
      | .slice none 0 0 =>
        if k = 0 then some (s, H)
        else if k * bytes ≤ 140737488355328 ∧ k ≤ 140737488355328 then some (.slice (some ⟨H.next, 0, none⟩) k k, H.add (.cells new size true)) else none
      | .slice (some ⟨i, o, none⟩) n c =>
        if n + k ≤ c then (if k = 0 then some (s, H) else (H.setAt i (o + n * size) new).map fun H' => (.slice (some ⟨i, o, none⟩) (n + k) c, H'))
        else if (n + k) * bytes ≤ 140737488355328 ∧ n + k ≤ 140737488355328 then
          match H.get i with
          | some (.cells cs esz rw) =>
            if esz = size ∧ o + n * size ≤ cs.length then
              if o + c * size = cs.length then
                (if rw = true then some (.slice (some ⟨H.next, 0, none⟩) (n + k) (n + k), (H.drop i).add (.cells ((cs.drop o).take (n * size) ++ new) size true)) else none)
              else some (.slice (some ⟨H.next, 0, none⟩) (n + k) (n + k), H.add (.cells ((cs.drop o).take (n * size) ++ new) size true))
            else none
          | _ => none
        else none
      | _ => none
    else none
  | _, _, _ => none
/-- The cells of a slice's, or a string's, first n elements. -/
def afirst (H : AHeap) (size n : Nat) (x : Value) : Option (List Value) :=
  match x with
  | .slice none _ _ => if n = 0 then some [] else none
  | .slice (some ⟨i, o, none⟩) _ _ => H.cellsAt i o (n * size)
  | .string s => if n ≤ s.size then some ((s.data.toList.take n).map fun b => .int .u8 (b.toNat : Int)) else none
  | _ => none
def alen (x : Value) : Option Nat :=
  match x with
  | .slice _ n _ => some n
  | .string s => some s.size
  | _ => none
def acopy (P : Program) (H : AHeap) (e : TypeId) (d s : Value) : Option (Value × AHeap) :=
  match tsz P e, d, alen s with
  | some size, .slice a n _, some k =>
    match afirst H size (min k n) s with
    | some cs =>
      match a with
      | none => some (.int .i64 ((min k n : Nat) : Int), H)
      | some ⟨i, o, none⟩ => if min k n = 0 then some (.int .i64 0, H) else (H.setAt i o cs).map fun H' => (.int .i64 ((min k n : Nat) : Int), H')
      | _ => none
    | none => none
  | _, _, _ => none
def amin2 (x y : Value) : Option Value :=
  match x, y with
  | .int k a, .int _ b => some (.int k (if b < a then b else a))
  | _, _ => none
def amax2 (x y : Value) : Option Value :=
  match x, y with
  | .int k a, .int _ b => some (.int k (if b > a then b else a))
  | _, _ => none
def alenV (P : Program) (d : Option TypeDesc) (x : Value) : Option Value :=
  match d, x with
  | some .string, .string s => some (.int .i64 s.size)
  | some (.slice _), .slice _ n _ => some (.int .i64 n)
  | some (.array n _), _ => some (.int .i64 n)
  | some (.pointer p), _ => match P.underlying p with
    | some (.array n _) => some (.int .i64 n)
    | _ => none
  | some (.map _ _), .map none => some (.int .i64 0)
  | _, _ => none
def abuiltin (P : Program) (b : Builtin) (ts : Array TypeId) (xs : List Value) (H : AHeap) : Option (Value × AHeap) :=
  match b, xs with
  | .len, [x] => (alenV P (ts[0]?.bind P.underlying) x).map fun v => (v, H)
  | .min, [x, y] => (amin2 x y).map fun v => (v, H)
  | .max, [x, y] => (amax2 x y).map fun v => (v, H)
  | .min, [x, y, z] => (amin2 x y).bind fun v => (amin2 v z).map fun v => (v, H)
  | .max, [x, y, z] => (amax2 x y).bind fun v => (amax2 v z).map fun v => (v, H)
  | .append, [s, x] =>
    match ts[0]?.bind (telem P), ts[1]?.bind P.underlying, alen x with
    | some e, some (.slice _), some k => match tsz P e with
      | some size => (afirst H size k x).bind fun new => aappend P H e s k new
      | none => none
    | some e, some .string, some k => match x with
      | .string b => aappend P H e s b.size (b.data.toList.map fun b => .int .u8 (b.toNat : Int))
      | _ => none
    | _, _, _ => none
  | .copy, [d, s] =>
    match ts[0]?.bind (telem P) with
    | some e => acopy P H e d s
    | none => none
  | _, _ => none
def amakeSlice (P : Program) (H : AHeap) (t : TypeId) (l c : Value) : Option (Value × AHeap) :=
  match telem P t, l, c with
  | some e, .int .i64 l, .int .i64 c =>
    match tsz P e, tby P e, tzero P e with
    | some (size0 + 1), some bytes, some zero =>
      if 0 ≤ l ∧ l ≤ c ∧ c ≤ 140737488355328 ∧ c * (bytes : Int) ≤ 140737488355328 ∧ zero.length = size0 + 1 ∧ oneCells zero = true then
        some (.slice (some ⟨H.next, 0, none⟩) l.toNat c.toNat, H.add (.cells (azeros zero c.toNat) (size0 + 1) true)) else none
    | _, _, _ => none
  | _, _, _ => none
def abuildSlice (P : Program) (H : AHeap) (t : TypeId) (n : Nat) (parts : List (Nat × Value)) : Option (Value × AHeap) :=
  match telem P t with
  | some e =>
    match tsz P e, tzero P e with
    | some (size0 + 1), some zero =>
      if zero.length = size0 + 1 ∧ n * (size0 + 1) ≤ 16777216 then
        match afill (fun i => some (i * (size0 + 1), size0 + 1)) (azeros zero n) parts with
        | some cs => if oneCells cs = true then some (.slice (some ⟨H.next, 0, none⟩) n n, H.add (.cells cs (size0 + 1) true)) else none
        | none => none
      else none
    | _, _ => none
  | none => none

/-- What an operation that is no call of a function does. -/
def aop (P : Program) (o : Op) (t : Env) (H : AHeap) : Option (Value × AHeap) :=
  match o with
  | .move x => some (ev t x, H)
  | .assign x => some (ev t x, H)
  | .pick c a b => match ev t c with
    | .bool b' => some (if b' then ev t a else ev t b, H)
    | _ => none
  | .alloc e => match tzero P e with
    | some z => if oneCells z = true then some (ptrTo H.next, H.add (.cells z (tesz P e) true)) else none
    | none => none
  | .box e x => if oneCells (ev t x).cells.toList = true then some (ptrTo H.next, H.add (.cells (ev t x).cells.toList (tesz P e) true)) else none
  | .build ty parts => (abuild P ty (parts.toList.map fun p => (p.1, ev t p.2))).map fun v => (v, H)
  | .buildSlice ty n parts => abuildSlice P H ty n (parts.toList.map fun p => (p.1, ev t p.2))
  | .load ty a => match ev t a with
    | .pointer (some ⟨i, o, none⟩) => (H.load P ty i o).map fun v => (v, H)
    | _ => none
  | .store ty a x => match ev t a with
    | .pointer (some ⟨i, o, none⟩) => (H.store P ty i o (ev t x)).map fun H' => (undef, H')
    | _ => none
  | .nilCheck x => match ev t x with
    | .pointer (some a) => some (.pointer (some a), H)
    | .iface ty v => some (.iface ty v, H)
    | .func (.func f) xs ys => some (.func (.func f) xs ys, H)
    | _ => none
  | .binOp op ty x y _ => (abinN P op ty (isC x || isC y) (ev t x) (ev t y)).map fun v => (v, H)
  | .unOp op _ x => (aun op (ev t x)).map fun v => (v, H)
  | .convert s d x => (aconv P s d (ev t x)).map fun v => (v, H)
  | .makeInterface ty x => match P.underlying ty with
    | some (.interface _) => none
    | some _ => some (.iface ty (ev t x), H)
    | none => none
  | .makeFunc fn xs ys => some (.func fn (xs.toList.map (ev t)).toArray (ys.toList.map (ev t)).toArray, H)
  | .makeSlice ty l c => amakeSlice P H ty (ev t l) (ev t c)
  | .slice ty x lo hi mx => (aslice P H ty (ev t x) (lo.map (ev t)) (hi.map (ev t)) (mx.map (ev t))).map fun v => (v, H)
  | .fieldAddr s x f => match ev t x, tfield P s f with
    | .pointer (some ⟨i, o, none⟩), some (_, off) => some (.pointer (some ⟨i, o + off, none⟩), H)
    | _, _ => none
  | .field ty x f => (afieldV P ty (ev t x) f).map fun v => (v, H)
  | .indexAddr ty x ix => (aindexAddr P ty (ev t x) (ev t ix)).map fun v => (v, H)
  | .index ty x ix => (aindex P ty (ev t x) (ev t ix)).map fun v => (v, H)
  | .extract x i => match ev t x with
    | .tuple ⟨vs⟩ => (vs[i]?).map fun v => (v, H)
    | _ => none
  | .call c => match c.callee with
    | .builtin b => abuiltin P b c.argTypes (c.args.toList.map (ev t)) H
    | _ => none
  | _ => none

/-- A string as bytes, bytes as a string. -/
def abytes (cs : List Value) : Option (List UInt8) :=
  match cs with
  | [] => some []
  | .int .u8 n :: cs => if 0 ≤ n ∧ n < 256 then (abytes cs).map fun bs => UInt8.ofNat n.toNat :: bs else none
  | _ => none
def aconvH (P : Program) (H : AHeap) (src dst : TypeId) (x : Value) : Option (Value × AHeap) :=
  match P.underlying src, P.underlying dst, x with
  | some .string, some (.slice e), .string s => match P.underlying e with
    | some (.int .u8) => some (.slice (some ⟨H.next, 0, none⟩) s.size s.size, H.add (.cells (s.data.toList.map fun b => .int .u8 (b.toNat : Int)) 1 true))
    | _ => none
  | some (.slice e), some .string, .slice (some ⟨i, o, none⟩) n _ => match P.underlying e with
    | some (.int .u8) => ((H.cellsAt i o n).bind abytes).map fun bs => (.string ⟨bs.toArray⟩, H)
    | _ => none
  | _, _, _ => none
/-- Operations beyond the quiet ones. -/
def abig (P : Program) (o : Op) (t : Env) (H : AHeap) : Option (Value × AHeap) :=
  match o with
  | .convert s d x => aconvH P H s d (ev t x)
  | _ => none
def aopX (P : Program) (o : Op) (t : Env) (H : AHeap) : Option (Value × AHeap) :=
  match aop P o t H with
  | some r => some r
  | none => abig P o t H

/- code -/
abbrev Post := Exit → Env → AHeap → Prop
abbrev Calling := FuncId → List Value → AHeap → (Value → AHeap → Prop) → Prop

/-- Whether an operation is carried out, if that can be told. -/
def wantB (ops : List Oper) (o : Oper) (t : Env) : Option Bool :=
  match o.guard with
  | none => some true
  | some (j, want) => match (ops[j]?).bind (·.dst) with
    | some d => match t d with
      | .bool b => some (b == want)
      | .tuple _ => some false
      | _ => none
    | none => none
/-- One operation that is carried out. -/
def wpOne (P : Program) (C : Calling) (o : Oper) (t : Env) (H : AHeap) (K : Value → AHeap → Prop) : Prop :=
  match o.op with
  | .call ⟨.value f, args, _⟩ => match ev t f with
    | .func (.func g) xs ys => C g (xs.toList ++ (args.toList.map (ev t) ++ ys.toList)) H K
    | _ => False
  | op => match aopX P op t H with
    | some (v, H') => K v H'
    | none => False
def wpOps (P : Program) (C : Calling) (ops : List Oper) : List Oper → Env → AHeap → (Env → AHeap → Prop) → Prop
  | [], t, H, K => K t H
  | o :: rest, t, H, K => match wantB ops o t with
    | some true => wpOne P C o t H fun v H' => wpOps P C ops rest (putD t o.dst v) H' K
    | some false => wpOps P C ops rest (putD t o.dst undef) H K
    | none => False

end Go.LH
