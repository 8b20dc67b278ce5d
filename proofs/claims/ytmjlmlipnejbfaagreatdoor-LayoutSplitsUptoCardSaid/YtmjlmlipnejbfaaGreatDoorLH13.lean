/-
  The logical heap: steps for simp. Each step's parts that must be known are worked out first (by congruences); then the step is taken.
-/
import Derived.Test.YtmjlmlipnejbfaaGreatDoorLH12
set_option linter.all false
namespace Go.LH
variable {P : Program} {C : Calling} {ops : List Oper} {rest : List Oper} {t : Env} {H : AHeap} {K : Env → AHeap → Prop}

/- the environment -/
def sel (b : Bool) (v : Value) (t : Env) (j : Nat) : Value :=
  match b with
  | true => v
  | false => t j
theorem sel_congr {b b' : Bool} {v : Value} {t : Env} {j : Nat} (h : b = b') : sel b v t j = sel b' v t j := by rw [h]
theorem sel_tt (v : Value) (t : Env) (j : Nat) : sel true v t j = v := rfl
theorem sel_ff (v : Value) (t : Env) (j : Nat) : sel false v t j = t j := rfl
theorem upd_sel (t : Env) (i : Nat) (v : Value) (j : Nat) : upd t i v j = sel (j == i) v t j := by
  unfold upd sel
  by_cases h : j = i
  · subst h; simp
  · have : (j == i) = false := beq_eq_false_iff_ne.2 h
    rw [this, if_neg h]
/-- A test ahead of an answer. -/
def guardO {α : Type} (b : Bool) (r : Option α) : Option α :=
  match b with
  | true => r
  | false => none
theorem guardO_congr {α : Type} {b b' : Bool} {r : Option α} (h : b = b') : guardO b r = guardO b' r := by rw [h]
theorem guardO_tt {α : Type} {r : Option α} : guardO true r = r := rfl
theorem guardO_ite {α : Type} {b : Bool} {r : Option α} : (if b = true then r else none) = guardO b r := by cases b <;> rfl
theorem guardO_dec {α : Type} {a b : Nat} {r : Option α} : (if a = b then r else none) = guardO (a == b) r := by
  by_cases h : a = b
  · subst h; simp [guardO]
  · have : (a == b) = false := beq_eq_false_iff_ne.2 h
    rw [this, if_neg h]; rfl
theorem upd_at (t : Env) (i : Nat) (v : Value) (j : Nat) : upd t i v j = if j = i then v else t j := rfl
theorem putD_some (t : Env) (i : Nat) (v : Value) : putD t (some i) v = upd t i v := rfl
theorem putD_none (t : Env) (v : Value) : putD t none v = t := rfl
theorem ev_tmp (t : Env) (i : Nat) : ev t (.tmp i) = t i := rfl
theorem ev_const (t : Env) (v : Value) : ev t (.const v) = v := rfl
theorem ev_global (t : Env) (g : Nat) : ev t (.global g) = .pointer (some ⟨g, 0, none⟩) := rfl
theorem ev_func (t : Env) (f : Nat) : ev t (.func f) = .func (.func f) #[] #[] := rfl
theorem env0_zero (v : Value) (l : List Value) : env0 (v :: l) 0 = v := rfl
theorem env0_succ (v : Value) (l : List Value) (n : Nat) : env0 (v :: l) (n + 1) = env0 l n := rfl
theorem env0_nil (n : Nat) : env0 [] n = undef := rfl

/- what a step leaves -/
def stepV (P : Program) (C : Calling) (ops : List Oper) (r : Option Value) (d : Option Tmp) (rest : List Oper) (t : Env) (H : AHeap) (K : Env → AHeap → Prop) : Prop :=
  match r with
  | some v => wpOps P C ops rest (putD t d v) H K
  | none => False
def stepVH (P : Program) (C : Calling) (ops : List Oper) (r : Option (Value × AHeap)) (d : Option Tmp) (rest : List Oper) (t : Env) (K : Env → AHeap → Prop) : Prop :=
  match r with
  | some (v, H') => wpOps P C ops rest (putD t d v) H' K
  | none => False
def stepH (P : Program) (C : Calling) (ops : List Oper) (r : Option AHeap) (d : Option Tmp) (rest : List Oper) (t : Env) (K : Env → AHeap → Prop) : Prop :=
  match r with
  | some H' => wpOps P C ops rest (putD t d undef) H' K
  | none => False
theorem stepV_congr {r r' : Option Value} {d : Option Tmp} (h : r = r') : stepV P C ops r d rest t H K = stepV P C ops r' d rest t H K := by rw [h]
theorem stepVH_congr {r r' : Option (Value × AHeap)} {d : Option Tmp} (h : r = r') : stepVH P C ops r d rest t K = stepVH P C ops r' d rest t K := by rw [h]
theorem stepH_congr {r r' : Option AHeap} {d : Option Tmp} (h : r = r') : stepH P C ops r d rest t K = stepH P C ops r' d rest t K := by rw [h]
theorem stepV_some {v : Value} {i : Nat} : stepV P C ops (some v) (some i) rest t H K = wpOps P C ops rest (upd t i v) H K := rfl
theorem stepV_none {v : Value} : stepV P C ops (some v) none rest t H K = wpOps P C ops rest t H K := rfl
theorem stepVH_some {v : Value} {H' : AHeap} {i : Nat} : stepVH P C ops (some (v, H')) (some i) rest t K = wpOps P C ops rest (upd t i v) H' K := rfl
theorem stepVH_none {v : Value} {H' : AHeap} : stepVH P C ops (some (v, H')) none rest t K = wpOps P C ops rest t H' K := rfl
theorem stepH_none {H' : AHeap} : stepH P C ops (some H') none rest t K = wpOps P C ops rest t H' K := rfl

/- operations -/
variable {d : Option Tmp} {ty : TypeId} {pos : String} {af : Array Edge}
theorem wpOps_nil : wpOps P C ops [] t H K = K t H := rfl
theorem aopV {o : Oper} {r : Option Value} (hg : o.guard = none) (hc : ∀ f args ats, o.op ≠ .call ⟨.value f, args, ats⟩) (h : aop P o.op t H = r.map fun v => (v, H)) (hb : abig P o.op t H = none := by rfl) :
    wpOps P C ops (o :: rest) t H K = stepV P C ops r o.dst rest t H K := by
  have e : wpOne P C o t H (fun v H' => wpOps P C ops rest (putD t o.dst v) H' K) = match aopX P o.op t H with
    | some (v, H') => wpOps P C ops rest (putD t o.dst v) H' K
    | none => False := by
    unfold wpOne
    split
    · rename_i f args ats ho; exact absurd ho (hc _ _ _)
    · rfl
  simp only [wpOps, wantB, hg]
  rw [e]
  unfold aopX
  rw [h, hb]
  cases r <;> rfl
theorem aopVH {o : Oper} {r : Option (Value × AHeap)} (hg : o.guard = none) (hc : ∀ f args ats, o.op ≠ .call ⟨.value f, args, ats⟩) (h : aop P o.op t H = r) (hb : abig P o.op t H = none := by rfl) :
    wpOps P C ops (o :: rest) t H K = stepVH P C ops r o.dst rest t K := by
  have e : wpOne P C o t H (fun v H' => wpOps P C ops rest (putD t o.dst v) H' K) = match aopX P o.op t H with
    | some (v, H') => wpOps P C ops rest (putD t o.dst v) H' K
    | none => False := by
    unfold wpOne
    split
    · rename_i f args ats ho; exact absurd ho (hc _ _ _)
    · rfl
  simp only [wpOps, wantB, hg]
  rw [e]
  unfold aopX
  rw [h, hb]
  cases r <;> rfl

theorem w_move {x : Operand} : wpOps P C ops (⟨d, .move x, ty, pos, af, none⟩ :: rest) t H K = stepV P C ops (some (ev t x)) d rest t H K := rfl
theorem w_assign {x : Operand} : wpOps P C ops (⟨d, .assign x, ty, pos, af, none⟩ :: rest) t H K = stepV P C ops (some (ev t x)) d rest t H K := rfl
def pickE (c a b : Value) : Option Value :=
  match c with
  | .bool x => some (if x then a else b)
  | _ => none
theorem pickE_bool (x : Bool) (a b : Value) : pickE (.bool x) a b = some (if x = true then a else b) := rfl
theorem w_pick {c x y : Operand} : wpOps P C ops (⟨d, .pick c x y, ty, pos, af, none⟩ :: rest) t H K = stepV P C ops (pickE (ev t c) (ev t x) (ev t y)) d rest t H K :=
  aopV rfl (by intro _ _ _ h; cases h) (by simp only [aop, pickE]; cases ev t c <;> rfl)
theorem w_binOp {op : BinOp} {a b : TypeId} {x y : Operand} : wpOps P C ops (⟨d, .binOp op a x y b, ty, pos, af, none⟩ :: rest) t H K = stepV P C ops (abinN P op a (isC x || isC y) (ev t x) (ev t y)) d rest t H K :=
  aopV rfl (by intro _ _ _ h; cases h) rfl
theorem w_unOp {op : UnOp} {a : TypeId} {x : Operand} : wpOps P C ops (⟨d, .unOp op a x, ty, pos, af, none⟩ :: rest) t H K = stepV P C ops (aun op (ev t x)) d rest t H K :=
  aopV rfl (by intro _ _ _ h; cases h) rfl
def convX (P : Program) (a b : TypeId) (H : AHeap) (v : Value) : Option (Value × AHeap) :=
  match aconv P a b v with
  | some u => some (u, H)
  | none => aconvH P H a b v
theorem convX_int {a b : TypeId} {k : IntKind} {n : Int} : convX P a b H (.int k n) = (aconv P a b (.int k n)).map fun v => (v, H) := by
  unfold convX
  cases aconv P a b (.int k n) with
  | some v => rfl
  | none =>
    simp only [aconvH, Option.map_none]
    split <;> first | rfl | simp_all
theorem w_convert {a b : TypeId} {x : Operand} : wpOps P C ops (⟨d, .convert a b x, ty, pos, af, none⟩ :: rest) t H K = stepVH P C ops (convX P a b H (ev t x)) d rest t K := by
  simp only [wpOps, wantB, wpOne, aopX, aop, abig, convX]
  cases aconv P a b (ev t x) with
  | some v => rfl
  | none =>
    simp only [Option.map_none]
    cases aconvH P H a b (ev t x) <;> rfl
def ifaceE (P : Program) (a : TypeId) (v : Value) : Option Value :=
  match P.underlying a with
  | some (.interface _) => none
  | some _ => some (.iface a v)
  | none => none
theorem w_makeInterface {a : TypeId} {x : Operand} : wpOps P C ops (⟨d, .makeInterface a x, ty, pos, af, none⟩ :: rest) t H K = stepV P C ops (ifaceE P a (ev t x)) d rest t H K :=
  aopV rfl (by intro _ _ _ h; cases h) (by
    simp only [aop, ifaceE]
    cases P.underlying a with
    | none => rfl
    | some d => cases d <;> rfl)
theorem w_makeFunc {fn : Fn} {xs ys : Array Operand} : wpOps P C ops (⟨d, .makeFunc fn xs ys, ty, pos, af, none⟩ :: rest) t H K = stepV P C ops (some (.func fn (xs.toList.map (ev t)).toArray (ys.toList.map (ev t)).toArray)) d rest t H K := rfl
theorem w_slice {a : TypeId} {x : Operand} {lo hi mx : Option Operand} : wpOps P C ops (⟨d, .slice a x lo hi mx, ty, pos, af, none⟩ :: rest) t H K = stepV P C ops (aslice P H a (ev t x) (lo.map (ev t)) (hi.map (ev t)) (mx.map (ev t))) d rest t H K :=
  aopV rfl (by intro _ _ _ h; cases h) rfl
def nilE (v : Value) : Option Value :=
  match v with
  | .pointer (some a) => some (.pointer (some a))
  | .iface ty v => some (.iface ty v)
  | .func (.func f) xs ys => some (.func (.func f) xs ys)
  | _ => none
theorem nilE_ptr (a : Addr) : nilE (.pointer (some a)) = some (.pointer (some a)) := rfl
theorem nilE_iface (a : TypeId) (v : Value) : nilE (.iface a v) = some (.iface a v) := rfl
theorem nilE_func (f : Nat) (xs ys : Array Value) : nilE (.func (.func f) xs ys) = some (.func (.func f) xs ys) := rfl
theorem w_nilCheck {x : Operand} : wpOps P C ops (⟨d, .nilCheck x, ty, pos, af, none⟩ :: rest) t H K = stepV P C ops (nilE (ev t x)) d rest t H K :=
  aopV rfl (by intro _ _ _ h; cases h) (by
    simp only [aop]
    cases ev t x with
    | pointer a => cases a <;> rfl
    | func f _ _ => cases f <;> rfl
    | _ => rfl)
def fieldE (r : Option (TypeId × Nat)) (v : Value) : Option Value :=
  match v, r with
  | .pointer (some ⟨i, o, none⟩), some (_, off) => some (.pointer (some ⟨i, o + off, none⟩))
  | _, _ => none
theorem fieldE_ptr (a : TypeId) (off i o : Nat) : fieldE (some (a, off)) (.pointer (some ⟨i, o, none⟩)) = some (.pointer (some ⟨i, o + off, none⟩)) := rfl
theorem w_fieldAddr {a : TypeId} {x : Operand} {f : Nat} : wpOps P C ops (⟨d, .fieldAddr a x f, ty, pos, af, none⟩ :: rest) t H K = stepV P C ops (fieldE (tfield P a f) (ev t x)) d rest t H K :=
  aopV rfl (by intro _ _ _ h; cases h) (by
    simp only [aop]
    unfold fieldE
    split
    · rename_i h1 h2; rw [h1, h2]; rfl
    · rename_i h
      split
      · rename_i i o off h1 h2; exact absurd h2 (h _ _ _ _ h1)
      · rfl)
theorem w_field {a : TypeId} {x : Operand} {f : Nat} : wpOps P C ops (⟨d, .field a x f, ty, pos, af, none⟩ :: rest) t H K = stepV P C ops (afieldV P a (ev t x) f) d rest t H K :=
  aopV rfl (by intro _ _ _ h; cases h) rfl
theorem w_indexAddr {a : TypeId} {x y : Operand} : wpOps P C ops (⟨d, .indexAddr a x y, ty, pos, af, none⟩ :: rest) t H K = stepV P C ops (aindexAddr P a (ev t x) (ev t y)) d rest t H K :=
  aopV rfl (by intro _ _ _ h; cases h) rfl
theorem w_index {a : TypeId} {x y : Operand} : wpOps P C ops (⟨d, .index a x y, ty, pos, af, none⟩ :: rest) t H K = stepV P C ops (aindex P a (ev t x) (ev t y)) d rest t H K :=
  aopV rfl (by intro _ _ _ h; cases h) rfl
def extractE (v : Value) (i : Nat) : Option Value :=
  match v with
  | .tuple ⟨vs⟩ => vs[i]?
  | _ => none
theorem extractE_tuple (vs : List Value) (i : Nat) : extractE (.tuple vs.toArray) i = vs[i]? := rfl
theorem w_extract {x : Operand} {i : Nat} : wpOps P C ops (⟨d, .extract x i, ty, pos, af, none⟩ :: rest) t H K = stepV P C ops (extractE (ev t x) i) d rest t H K :=
  aopV rfl (by intro _ _ _ h; cases h) (by
    simp only [aop]
    cases ev t x <;> rfl)
theorem w_build {a : TypeId} {parts : Array (Nat × Operand)} : wpOps P C ops (⟨d, .build a parts, ty, pos, af, none⟩ :: rest) t H K = stepV P C ops (abuild P a (parts.toList.map fun p => (p.1, ev t p.2))) d rest t H K :=
  aopV rfl (by intro _ _ _ h; cases h) rfl
theorem w_buildSlice {a : TypeId} {n : Nat} {parts : Array (Nat × Operand)} : wpOps P C ops (⟨d, .buildSlice a n parts, ty, pos, af, none⟩ :: rest) t H K = stepVH P C ops (abuildSlice P H a n (parts.toList.map fun p => (p.1, ev t p.2))) d rest t K :=
  aopVH rfl (by intro _ _ _ h; cases h) rfl
theorem w_makeSlice {a : TypeId} {x y : Operand} : wpOps P C ops (⟨d, .makeSlice a x y, ty, pos, af, none⟩ :: rest) t H K = stepVH P C ops (amakeSlice P H a (ev t x) (ev t y)) d rest t K :=
  aopVH rfl (by intro _ _ _ h; cases h) rfl
def loadE (P : Program) (H : AHeap) (a : TypeId) (v : Value) : Option Value :=
  match v with
  | .pointer (some ⟨i, o, none⟩) => H.load P a i o
  | _ => none
theorem loadE_ptr (a : TypeId) (i o : Nat) : loadE P H a (.pointer (some ⟨i, o, none⟩)) = H.load P a i o := rfl
theorem w_load {a : TypeId} {x : Operand} : wpOps P C ops (⟨d, .load a x, ty, pos, af, none⟩ :: rest) t H K = stepV P C ops (loadE P H a (ev t x)) d rest t H K :=
  aopV rfl (by intro _ _ _ h; cases h) (by
    simp only [aop]
    unfold loadE
    split
    · rename_i h; rw [h]
    · rename_i h
      split
      · rename_i h1; exact absurd h1 (h _ _)
      · rfl)
def storeE (P : Program) (H : AHeap) (a : TypeId) (p v : Value) : Option AHeap :=
  match p with
  | .pointer (some ⟨i, o, none⟩) => H.store P a i o v
  | _ => none
theorem storeE_ptr (a : TypeId) (i o : Nat) (v : Value) : storeE P H a (.pointer (some ⟨i, o, none⟩)) v = H.store P a i o v := rfl
theorem w_store {a : TypeId} {x y : Operand} : wpOps P C ops (⟨d, .store a x y, ty, pos, af, none⟩ :: rest) t H K = stepH P C ops (storeE P H a (ev t x) (ev t y)) d rest t K := by
  have : aop P (.store a x y) t H = (storeE P H a (ev t x) (ev t y)).map fun H' => (undef, H') := by
    simp only [aop]
    unfold storeE
    split
    · rename_i h; rw [h]
    · rename_i h
      split
      · rename_i h1; exact absurd h1 (h _ _)
      · rfl
  rw [aopVH rfl (by intro _ _ _ h; cases h) this]
  cases storeE P H a (ev t x) (ev t y) <;> rfl
def allocE (P : Program) (H : AHeap) (e : TypeId) (z : Option (List Value)) : Option (Value × AHeap) :=
  match z with
  | some z => if oneCells z = true then some (ptrTo H.next, H.add (.cells z (tesz P e) true)) else none
  | none => none
def allocT (P : Program) (H : AHeap) (e : TypeId) : Option (Value × AHeap) := allocE P H e (tzero P e)
theorem w_alloc {e : TypeId} : wpOps P C ops (⟨d, .alloc e, ty, pos, af, none⟩ :: rest) t H K = stepVH P C ops (allocT P H e) d rest t K :=
  aopVH rfl (by intro _ _ _ h; cases h) rfl
def boxE (P : Program) (H : AHeap) (e : TypeId) (v : Value) : Option (Value × AHeap) :=
  if oneCells v.cells.toList = true then some (ptrTo H.next, H.add (.cells v.cells.toList (tesz P e) true)) else none
theorem w_box {e : TypeId} {x : Operand} : wpOps P C ops (⟨d, .box e x, ty, pos, af, none⟩ :: rest) t H K = stepVH P C ops (boxE P H e (ev t x)) d rest t K :=
  aopVH rfl (by intro _ _ _ h; cases h) rfl
theorem w_builtin {b : Builtin} {args : Array Operand} {ats : Array TypeId} : wpOps P C ops (⟨d, .call ⟨.builtin b, args, ats⟩, ty, pos, af, none⟩ :: rest) t H K = stepVH P C ops (abuiltin P b ats (args.toList.map (ev t)) H) d rest t K :=
  aopVH rfl (by intro _ _ _ h; cases h) rfl

/- calls -/
def callV (C : Calling) (f : Value) (args : List Value) (H : AHeap) (K : Value → AHeap → Prop) : Prop :=
  match f with
  | .func (.func g) xs ys => C g (xs.toList ++ (args ++ ys.toList)) H K
  | _ => False
theorem callV_congr {f f' : Value} {args args' : List Value} {H H' : AHeap} {K : Value → AHeap → Prop} (h : f = f') (h1 : args = args') (h2 : H = H') : callV C f args H K = callV C f' args' H' K := by rw [h, h1, h2]
/-- Calls whose arguments are known. -/
def callG (C : Calling) (g : FuncId) (args : List Value) (H : AHeap) (K : Value → AHeap → Prop) : Prop := C g args H K
theorem callG_congr {g g' : FuncId} {args args' : List Value} {H H' : AHeap} {K : Value → AHeap → Prop} (h : g = g') (h1 : args = args') (h2 : H = H') : callG C g args H K = callG C g' args' H' K := by rw [h, h1, h2]
theorem callV_func {g : FuncId} {xs ys : List Value} {args : List Value} {K : Value → AHeap → Prop} : callV C (.func (.func g) xs.toArray ys.toArray) args H K = callG C g (xs ++ (args ++ ys)) H K := rfl
def goOn (P : Program) (C : Calling) (ops : List Oper) (d : Option Tmp) (rest : List Oper) (t : Env) (K : Env → AHeap → Prop) : Value → AHeap → Prop := fun v H' => wpOps P C ops rest (putD t d v) H' K
theorem w_call {f : Operand} {args : Array Operand} {ats : Array TypeId} : wpOps P C ops (⟨d, .call ⟨.value f, args, ats⟩, ty, pos, af, none⟩ :: rest) t H K = callV C (ev t f) (args.toList.map (ev t)) H (goOn P C ops d rest t K) := by
  simp only [wpOps, wantB, wpOne, callV, goOn]
  cases ev t f with
  | func fn xs ys => cases fn <;> rfl
  | _ => rfl
theorem goOn_some {i : Nat} {v : Value} : goOn P C ops (some i) rest t K v H = wpOps P C ops rest (upd t i v) H K := rfl
theorem goOn_none {v : Value} : goOn P C ops none rest t K v H = wpOps P C ops rest t H K := rfl

/- guards -/
def dstOf : List Oper → Nat → Option Tmp
  | [], _ => none
  | o :: _, 0 => o.dst
  | _ :: l, n + 1 => dstOf l n
theorem dstOf_eq : ∀ (l : List Oper) (j : Nat), dstOf l j = (l[j]?).bind (·.dst)
  | [], j => by simp [dstOf]
  | o :: l, 0 => by simp [dstOf]
  | o :: l, n + 1 => by simp [dstOf, dstOf_eq l n]
theorem dstOf_zero {d : Option Tmp} {op : Op} {ty : TypeId} {pos : String} {af : Array Edge} {g : Option (Nat × Bool)} {l : List Oper} : dstOf (⟨d, op, ty, pos, af, g⟩ :: l) 0 = d := rfl
theorem dstOf_succ {o : Oper} {l : List Oper} {n : Nat} : dstOf (o :: l) (n + 1) = dstOf l n := rfl
def guardE (r : Option Tmp) (t : Env) (want : Bool) (A B : Prop) : Prop :=
  match r with
  | some i => match t i with
    | .bool b => if b = want then A else B
    | .tuple _ => B
    | _ => False
  | none => False
def guardB (v : Value) (want : Bool) (A B : Prop) : Prop :=
  match v with
  | .bool b => if b = want then A else B
  | .tuple _ => B
  | _ => False
theorem guardE_congr {r r' : Option Tmp} {want : Bool} {A B : Prop} (h : r = r') : guardE r t want A B = guardE r' t want A B := by rw [h]
theorem guardE_some {i : Nat} {want : Bool} {A B : Prop} : guardE (some i) t want A B = guardB (t i) want A B := rfl
theorem guardB_congr {v v' : Value} {want : Bool} {A B : Prop} (h : v = v') : guardB v want A B = guardB v' want A B := by rw [h]
theorem guardB_undef {want : Bool} {A B : Prop} : guardB undef want A B = B := rfl
theorem guardB_tt {A B : Prop} : guardB (.bool true) true A B = A := rfl
theorem guardB_tf {A B : Prop} : guardB (.bool true) false A B = B := rfl
theorem guardB_ft {A B : Prop} : guardB (.bool false) true A B = B := rfl
theorem guardB_ff {A B : Prop} : guardB (.bool false) false A B = A := rfl
theorem guardB_split {b want : Bool} {A B : Prop} (h1 : b = want → A) (h2 : b = !want → B) : guardB (.bool b) want A B := by
  unfold guardB
  cases b <;> cases want <;> simp_all
theorem w_guard {op : Op} {j : Nat} {want : Bool} : wpOps P C ops (⟨d, op, ty, pos, af, some (j, want)⟩ :: rest) t H K =
    guardE (dstOf ops j) t want (wpOps P C ops (⟨d, op, ty, pos, af, none⟩ :: rest) t H K) (wpOps P C ops rest (putD t d undef) H K) := by
  have e : ∀ X, wpOne P C ⟨d, op, ty, pos, af, some (j, want)⟩ t H X = wpOne P C ⟨d, op, ty, pos, af, none⟩ t H X := fun X => rfl
  simp only [wpOps, wantB, e]
  rw [← dstOf_eq]
  unfold guardE
  cases dstOf ops j with
  | none => rfl
  | some i =>
    simp only []
    cases t i with
    | bool b => cases b <;> cases want <;> rfl
    | _ => rfl

/- code -/
variable {Q : Post}
theorem c_skip : wpC P C .skip t H Q = Q .normal t H := rfl
theorem c_region {id : Nat} {l : List Oper} : wpC P C (.region id l.toArray false) t H Q = wpOps P C l l t H (Q .normal) := rfl
def DrawR (P : Program) (C : Calling) (id : Nat) (ops : Array Oper) (t : Env) (H : AHeap) (K : Env → AHeap → Prop) : Prop := DrawOk P C ops t H K ∧ id = id
theorem DrawR_congr {id : Nat} {l : Array Oper} {K : Env → AHeap → Prop} : DrawR P C id l t H K = DrawR P C id l t H K := rfl
theorem c_draw {id : Nat} {l : Array Oper} : wpC P C (.region id l true) t H Q = DrawR P C id l t H (Q .normal) := (and_iff_left rfl).symm |> propext
theorem c_seq {a b : Code} : wpC P C (.seq a b) t H Q = wpC P C a t H (thenQ (fun t H => wpC P C b t H Q) Q) := rfl
theorem c_block {id : Nat} {b : Code} : wpC P C (.block id b) t H Q = wpC P C b t H (inBlockQ id Q) := rfl
theorem c_exit {id : Nat} : wpC P C (.exit id) t H Q = Q (.exit id) t H := rfl
theorem c_ret : wpC P C .ret t H Q = Q .ret t H := rfl
def condV (P : Program) (C : Calling) (v : Value) (x y : Code) (t : Env) (H : AHeap) (Q : Post) : Prop :=
  match v with
  | .bool b => (b = true → wpC P C x t H Q) ∧ (b = false → wpC P C y t H Q)
  | _ => False
theorem condV_congr {v v' : Value} {x y : Code} (h : v = v') : condV P C v x y t H Q = condV P C v' x y t H Q := by rw [h]
theorem condV_true {x y : Code} : condV P C (.bool true) x y t H Q = wpC P C x t H Q := by simp [condV]
theorem condV_false {x y : Code} : condV P C (.bool false) x y t H Q = wpC P C y t H Q := by simp [condV]
theorem condV_split {b : Bool} {x y : Code} (h1 : b = true → wpC P C x t H Q) (h2 : b = false → wpC P C y t H Q) : condV P C (.bool b) x y t H Q := ⟨h1, h2⟩
theorem c_cond {c : Operand} {x y : Code} : wpC P C (.cond c x y) t H Q = condV P C (ev t c) x y t H Q := rfl
theorem loop_inv {b : Code} (I : Env → AHeap → Prop) (μ : Env → AHeap → Nat) (h0 : I t H) (h : ∀ t H, I t H → wpC P C b t H (thenQ (fun t' H' => ∃ H2 : AHeap, H2.Le H' ∧ I t' H2 ∧ μ t' H2 < μ t H) Q)) : wpC P C (.loop b) t H Q := ⟨I, μ, ⟨H, .refl H, h0⟩, fun t H hI => h t H hI⟩

theorem thenQ_normal {K : Env → AHeap → Prop} : thenQ K Q .normal t H = K t H := rfl
theorem thenQ_eta {K : Env → AHeap → Prop} : thenQ K Q .normal = K := rfl
theorem thenQ_exit {K : Env → AHeap → Prop} {i : Nat} : thenQ K Q (.exit i) t H = Q (.exit i) t H := rfl
theorem thenQ_ret {K : Env → AHeap → Prop} : thenQ K Q .ret t H = Q .ret t H := rfl
theorem inBlockQ_normal {id : Nat} : inBlockQ id Q .normal t H = Q .normal t H := rfl
theorem inBlockQ_ret {id : Nat} : inBlockQ id Q .ret t H = Q .ret t H := rfl
theorem inBlockQ_same {id : Nat} : inBlockQ id Q (.exit id) t H = Q .normal t H := by simp [inBlockQ]
theorem inBlockQ_other {id i : Nat} (h : i ≠ id) : inBlockQ id Q (.exit i) t H = Q (.exit i) t H := by simp [inBlockQ, h]

theorem wpOps_congr {l : List Oper} : wpOps P C ops l t H K = wpOps P C ops l t H K := rfl
theorem wpC_congr {c : Code} : wpC P C c t H Q = wpC P C c t H Q := rfl
theorem DrawOk_congr {l : Array Oper} : DrawOk P C l t H K = DrawOk P C l t H K := rfl

/- the end -/
def endQ (r : Option (List Value)) (H : AHeap) (Q : Value → AHeap → Prop) : Prop :=
  match r with
  | some vs => Q (tup vs) H
  | none => False
theorem endQ_congr {r r' : Option (List Value)} {Q : Value → AHeap → Prop} (h : r = r') : endQ r H Q = endQ r' H Q := by rw [h]
theorem endQ_some {vs : List Value} {Q : Value → AHeap → Prop} : endQ (some vs) H Q = Q (tup vs) H := rfl
theorem bodyQ_ret {rs : List ResultVar} {Q : Value → AHeap → Prop} : bodyQ P rs Q .ret t H = endQ (ares P t H rs) H Q := rfl
theorem bodyQ_normal {rs : List ResultVar} {Q : Value → AHeap → Prop} : bodyQ P rs Q .normal t H = endQ (ares P t H rs) H Q := rfl
theorem ares_nil : ares P t H [] = some [] := rfl
def consE (v : Option Value) (vs : Option (List Value)) : Option (List Value) := v.bind fun v => vs.map fun vs => v :: vs
theorem consE_some {v : Value} {vs : List Value} : consE (some v) (some vs) = some (v :: vs) := rfl
theorem ares_tmp {i : Nat} {rs : List ResultVar} : ares P t H (.tmp i :: rs) = consE (some (t i)) (ares P t H rs) := rfl
theorem ares_cell {i : Nat} {a : TypeId} {rs : List ResultVar} : ares P t H (.cell i a :: rs) = consE (loadE P H a (t i)) (ares P t H rs) := by
  have : ares1 P t H (.cell i a) = loadE P H a (t i) := by
    simp only [ares1]
    unfold loadE
    split
    · rename_i h; rw [h]
    · rename_i h
      split
      · rename_i h1; exact absurd h1 (h _ _)
      · rfl
  simp only [ares, consE, this]
theorem tup_one {v : Value} : tup [v] = v := rfl
theorem tup_nil : tup [] = .tuple #[] := rfl
theorem tup_two {u v : Value} {l : List Value} : tup (u :: v :: l) = .tuple (u :: v :: l).toArray := rfl

/- the heap -/
variable {i j : Nat} {o o' : AObj}
theorem get_put_eq (h : j = i) : (H.put i o).get j = some o := by unfold AHeap.put; simp [h]
theorem get_put_ne (h : j ≠ i) : (H.put i o).get j = H.get j := by unfold AHeap.put; simp [h]
theorem get_add_eq (h : j = H.next) : (H.add o).get j = some o := by unfold AHeap.add; simp [h]
theorem get_add_ne (h : j ≠ H.next) : (H.add o).get j = H.get j := by unfold AHeap.add; simp [h]
theorem get_add_add {o2 : AObj} : ((H.add o).add o2).get (H.next + 1) = some o2 := by unfold AHeap.add; simp
theorem get_drop_eq (h : j = i) : (H.drop i).get j = none := by unfold AHeap.drop; simp [h]
theorem get_drop_ne (h : j ≠ i) : (H.drop i).get j = H.get j := by unfold AHeap.drop; simp [h]
theorem get_bump {n : Nat} : (H.bump n).get j = H.get j := rfl
theorem next_put : (H.put i o).next = H.next := rfl
theorem next_add : (H.add o).next = H.next + 1 := rfl
theorem next_drop : (H.drop i).next = H.next := rfl
theorem next_bump {n : Nat} : (H.bump n).next = n := rfl
theorem put_put : (H.put i o).put i o' = H.put i o' := by
  unfold AHeap.put; congr 1; funext k; dsimp only; split <;> rfl
theorem put_add_eq (h : i = H.next) : (H.add o).put i o' = H.add o' := by
  subst h; unfold AHeap.put AHeap.add; congr 1; funext k; dsimp only; split <;> rfl
theorem put_add_ne (h : i ≠ H.next) : (H.add o).put i o' = (H.put i o').add o := by
  unfold AHeap.put AHeap.add; congr 1; funext k; dsimp only
  by_cases h1 : k = i
  · subst h1; simp [h]
  · simp [h1]
theorem put_comm (h : j ≠ i) : (H.put i o).put j o' = (H.put j o').put i o := by
  unfold AHeap.put; congr 1; funext k; dsimp only
  by_cases h1 : k = i
  · subst h1
    rw [if_neg (fun e => h e.symm), if_pos rfl, if_pos rfl]
  · rw [if_neg h1]
    by_cases h2 : k = j
    · rw [if_pos h2, if_neg h1]
    · rw [if_neg h2, if_neg h1]

def cellE (r : Option AObj) (o : Nat) : Option Value :=
  match r with
  | some (.cells cs _ _) => cs[o]?
  | _ => none
theorem cellE_cells {cs : List Value} {e : Nat} {b : Bool} {o : Nat} : cellE (some (.cells cs e b)) o = cs[o]? := rfl
def takeE : List Value → Nat → Nat → Option (List Value)
  | cs, 0, 0 => some []
  | c :: cs, 0, n + 1 => (takeE cs 0 n).map fun l => c :: l
  | c :: cs, o + 1, n => takeE cs o n
  | [], o, n => none
theorem takeE_eq : ∀ (cs : List Value) (o n : Nat), o + n ≤ cs.length → takeE cs o n = some ((cs.drop o).take n)
  | cs, 0, 0, _ => by cases cs <;> simp [takeE]
  | c :: cs, 0, n + 1, h => by simp [takeE, takeE_eq cs 0 n (by simp at h; omega)]
  | c :: cs, o + 1, n, h => by simp [takeE, takeE_eq cs o n (by simp at h; omega)]
  | [], 0, n + 1, h => by simp at h
  | [], o + 1, n, h => by simp at h
theorem takeE_none : ∀ (cs : List Value) (o n : Nat), 0 < n → ¬ (o + n ≤ cs.length) → takeE cs o n = none
  | cs, 0, 0, h, _ => by omega
  | c :: cs, 0, 1, _, h => by simp at h
  | c :: cs, 0, n + 2, _, h => by simp [takeE]; exact takeE_none cs 0 (n + 1) (by omega) (by simp at h; omega)
  | c :: cs, o + 1, n, h0, h => by simp only [takeE]; exact takeE_none cs o n h0 (by simp at h; omega)
  | [], 0, n + 1, _, _ => by simp [takeE]
  | [], o + 1, n, _, _ => by simp [takeE]
theorem takeE_00 {cs : List Value} : takeE cs 0 0 = some [] := by cases cs <;> rfl
theorem takeE_0 {c : Value} {cs : List Value} {n : Nat} : takeE (c :: cs) 0 (n + 1) = (takeE cs 0 n).map fun l => c :: l := rfl
theorem takeE_s {c : Value} {cs : List Value} {o n : Nat} : takeE (c :: cs) (o + 1) n = takeE cs o n := by cases n <;> rfl
def aggE (r : Option AObj) (o n : Nat) : Option Value :=
  match r with
  | some (.cells cs _ _) => (takeE cs o n).map fun l => .agg l.toArray
  | _ => none
theorem aggE_cells {cs : List Value} {e : Nat} {b : Bool} {o n : Nat} : aggE (some (.cells cs e b)) o n = (takeE cs o n).map fun l => .agg l.toArray := rfl
theorem load_cell {a : TypeId} {n o : Nat} (h1 : tagg P a = some false) (h2 : tsz P a = some n) : H.load P a i o = cellE (H.get i) o := by
  unfold AHeap.load
  rw [h1, h2]
  simp only [AHeap.cellsAt, cellE]
  cases H.get i with
  | none => rfl
  | some q =>
    cases q with
    | raw _ => rfl
    | cells cs e b =>
      simp only
      by_cases h : o + 1 ≤ cs.length
      · rw [if_pos h]
        have : (cs.drop o).take 1 = [cs[o]] := by
          rw [List.drop_eq_getElem_cons (by omega)]; rfl
        rw [this]
        simp [ofCells, List.getElem?_eq_getElem (show o < cs.length by omega)]
      · rw [if_neg h, List.getElem?_eq_none (by omega)]; rfl
theorem load_agg {a : TypeId} {n o : Nat} (h1 : tagg P a = some true) (h2 : tsz P a = some (n + 1)) : H.load P a i o = aggE (H.get i) o (n + 1) := by
  unfold AHeap.load
  rw [h1, h2]
  simp only [AHeap.cellsAt, aggE]
  cases H.get i with
  | none => rfl
  | some q =>
    cases q with
    | raw _ => rfl
    | cells cs e b =>
      simp only
      by_cases h : o + (n + 1) ≤ cs.length
      · rw [if_pos h, takeE_eq _ _ _ h]
      · rw [if_neg h, takeE_none _ _ _ (by omega) h]
def spliceE : List Value → Nat → List Value → Option (List Value)
  | cs, 0, [] => some cs
  | _ :: cs, 0, v :: vs => (spliceE cs 0 vs).map fun l => v :: l
  | c :: cs, o + 1, vs => (spliceE cs o vs).map fun l => c :: l
  | [], _, _ => none
theorem spliceE_00 {cs : List Value} : spliceE cs 0 [] = some cs := by cases cs <;> rfl
theorem spliceE_0 {c v : Value} {cs vs : List Value} : spliceE (c :: cs) 0 (v :: vs) = (spliceE cs 0 vs).map fun l => v :: l := rfl
theorem spliceE_s {c : Value} {cs vs : List Value} {o : Nat} : spliceE (c :: cs) (o + 1) vs = (spliceE cs o vs).map fun l => c :: l := by cases vs <;> rfl
theorem spliceE_eq : ∀ (cs : List Value) (o : Nat) (vs : List Value), o + vs.length ≤ cs.length → spliceE cs o vs = some (splice cs o vs)
  | cs, 0, [], _ => by cases cs <;> simp [spliceE, splice]
  | c :: cs, 0, v :: vs, h => by rw [spliceE_0, spliceE_eq cs 0 vs (by simp at h; omega)]; simp [splice]
  | c :: cs, o + 1, vs, h => by rw [spliceE_s, spliceE_eq cs o vs (by simp at h; omega)]; simp [splice, Nat.add_right_comm]
  | [], 0, v :: vs, h => by simp at h
  | [], o + 1, vs, h => by simp at h
theorem spliceE_none : ∀ (cs : List Value) (o : Nat) (vs : List Value), vs ≠ [] → ¬ (o + vs.length ≤ cs.length) → spliceE cs o vs = none
  | cs, 0, [], h, _ => absurd rfl h
  | c :: cs, 0, [v], _, h => by simp at h
  | c :: cs, 0, v :: u :: vs, _, h => by rw [spliceE_0, spliceE_none cs 0 (u :: vs) (by simp) (by simp at h ⊢; omega)]; rfl
  | c :: cs, o + 1, vs, h0, h => by rw [spliceE_s, spliceE_none cs o vs h0 (by simp at h; omega)]; rfl
  | [], 0, v :: vs, _, _ => by simp [spliceE]
  | [], o + 1, vs, _, _ => by cases vs <;> simp [spliceE]
def setE (H : AHeap) (i : Nat) (r : Option AObj) (o : Nat) (vs : List Value) : Option AHeap :=
  match r with
  | some (.cells cs e true) => if vs.all oneCell = true then (spliceE cs o vs).map fun l => H.put i (.cells l e true) else none
  | _ => none
theorem setE_cells {cs : List Value} {e o : Nat} {vs : List Value} : setE H i (some (.cells cs e true)) o vs = if vs.all oneCell = true then (spliceE cs o vs).map fun l => H.put i (.cells l e true) else none := rfl
theorem store_eq {a : TypeId} {n o : Nat} {v : Value} (h2 : tsz P a = some (n + 1)) (h3 : v.cells.toList.length = n + 1) : H.store P a i o v = setE H i (H.get i) o v.cells.toList := by
  unfold AHeap.store
  rw [h2, h3, if_pos rfl]
  simp only [AHeap.setAt, setE]
  cases hg : H.get i with
  | none => rfl
  | some q =>
    cases q with
    | raw _ => rfl
    | cells cs e b =>
      cases b with
      | false => rfl
      | true =>
        simp only
        by_cases h1 : v.cells.toList.all oneCell = true
        · by_cases h : o + v.cells.toList.length ≤ cs.length
          · rw [if_pos ⟨h, h1⟩, if_pos h1, spliceE_eq _ _ _ h]; rfl
          · rw [if_neg (fun q => h q.1), if_pos h1, spliceE_none _ _ _ (by intro e; rw [e] at h3; simp at h3) h]; rfl
        · rw [if_neg (fun q => h1 q.2), if_neg h1]

def storeS (n : Nat) (H : AHeap) (i : Nat) (r : Option AObj) (o : Nat) (l : List Value) : Option AHeap := if l.length = n then setE H i r o l else none
theorem store_S {a : TypeId} {n o : Nat} {v : Value} (h2 : tsz P a = some (n + 1)) : H.store P a i o v = storeS (n + 1) H i (H.get i) o v.cells.toList := by
  by_cases h : v.cells.toList.length = n + 1
  · rw [store_eq h2 h, storeS, if_pos h]
  · rw [storeS, if_neg h]
    unfold AHeap.store
    rw [h2, if_neg (fun e => h (by simpa using e.symm))]
theorem storeS_cells {n e o : Nat} {cs l : List Value} : storeS n H i (some (.cells cs e true)) o l = guardO (l.length == n) (guardO (l.all oneCell) ((spliceE cs o l).map fun l => H.put i (.cells l e true))) := by
  rw [← guardO_dec, ← guardO_ite]; rfl

theorem cells_int {k : IntKind} {n : Int} : (Value.int k n).cells.toList = [.int k n] := rfl
theorem cells_bool {b : Bool} : (Value.bool b).cells.toList = [.bool b] := rfl
theorem cells_string {s : ByteArray} : (Value.string s).cells.toList = [.string s] := rfl
theorem cells_pointer {a : Option Addr} : (Value.pointer a).cells.toList = [.pointer a] := rfl
theorem cells_slice {a : Option Addr} {n c : Nat} : (Value.slice a n c).cells.toList = [.slice a n c] := rfl
theorem cells_map {a : Option Nat} : (Value.map a).cells.toList = [.map a] := rfl
theorem cells_func {f : Fn} {a b : Array Value} : (Value.func f a b).cells.toList = [.func f a b] := rfl
theorem cells_nilFunc : Value.nilFunc.cells.toList = [.nilFunc] := rfl
theorem cells_nilIface : Value.nilIface.cells.toList = [.nilIface] := rfl
theorem cells_iface {a : TypeId} {v : Value} : (Value.iface a v).cells.toList = [.iface a v] := rfl
theorem cells_agg {l : List Value} : (Value.agg l.toArray).cells.toList = l := rfl
theorem one_int {k : IntKind} {n : Int} : oneCell (.int k n) = true := rfl
theorem one_bool {b : Bool} : oneCell (.bool b) = true := rfl
theorem one_string {s : ByteArray} : oneCell (.string s) = true := rfl
theorem one_pointer {a : Option Addr} : oneCell (.pointer a) = true := rfl
theorem one_slice {a : Option Addr} {n c : Nat} : oneCell (.slice a n c) = true := rfl
theorem one_map {a : Option Nat} : oneCell (.map a) = true := rfl
theorem one_func {f : Fn} {a b : Array Value} : oneCell (.func f a b) = true := rfl
theorem one_nilFunc : oneCell .nilFunc = true := rfl
theorem one_nilIface : oneCell .nilIface = true := rfl
theorem one_iface {a : TypeId} {v : Value} : oneCell (.iface a v) = true := rfl

/- building -/
def afillL (pl : List (Nat × Nat)) (cells : List Value) : List (Nat × Value) → Option (List Value)
  | [] => some cells
  | (i, v) :: rest =>
    match pl[i]? with
    | some (off, size) => if v.cells.toList.length = size then (spliceE cells off v.cells.toList).bind fun cs => afillL pl cs rest else none
    | none => none
theorem afillL_nil {pl : List (Nat × Nat)} {cells : List Value} : afillL pl cells [] = some cells := rfl
def fillE (pl : List (Nat × Nat)) (r : Option (Nat × Nat)) (v : Value) (cells : List Value) (rest : List (Nat × Value)) : Option (List Value) :=
  match r with
  | some (off, size) => if v.cells.toList.length = size then (spliceE cells off v.cells.toList).bind fun cs => afillL pl cs rest else none
  | none => none
theorem afillL_cons {pl : List (Nat × Nat)} {cells : List Value} {i : Nat} {v : Value} {rest : List (Nat × Value)} : afillL pl cells ((i, v) :: rest) = fillE pl pl[i]? v cells rest := rfl
theorem fillE_some {pl : List (Nat × Nat)} {off size : Nat} {v : Value} {cells : List Value} {rest : List (Nat × Value)} : fillE pl (some (off, size)) v cells rest =
    guardO (v.cells.toList.length == size) ((spliceE cells off v.cells.toList).bind fun cs => afillL pl cs rest) := by
  rw [← guardO_dec]; rfl
theorem afill_L {place : Nat → Option (Nat × Nat)} {pl : List (Nat × Nat)} (hp : ∀ i, place i = pl[i]?) (h0 : ∀ p ∈ pl, p.2 ≠ 0) : ∀ (parts : List (Nat × Value)) (cells : List Value), afill place cells parts = afillL pl cells parts
  | [], cells => rfl
  | (i, v) :: rest, cells => by
    simp only [afill, afillL, hp]
    cases hi : pl[i]? with
    | none => rfl
    | some q =>
      obtain ⟨off, size⟩ := q
      have hs : size ≠ 0 := h0 (off, size) (List.mem_of_getElem? hi)
      dsimp only
      by_cases h1 : v.cells.toList.length = size
      · by_cases h2 : off + size ≤ cells.length
        · rw [if_pos ⟨h1, h2⟩, if_pos h1, spliceE_eq _ _ _ (by omega), afill_L hp h0 rest]; rfl
        · rw [if_neg (fun q => h2 q.2), if_pos h1, spliceE_none _ _ _ (by intro e; rw [e] at h1; exact hs h1.symm) (by omega)]; rfl
      · rw [if_neg (fun q => h1 q.1), if_neg h1]
def placesB (P : Program) (t : TypeId) (z : List Value) (pl : List (Nat × Nat)) : Bool :=
  match P.underlying t with
  | some (.struct fs) => fs.toList.all (fun f => (tsz P f.type).isSome) && (fs.toList.map fun f => (f.offset, (tsz P f.type).getD 0)) == pl && pl.all (fun p => p.2 != 0)
  | _ => false
theorem abuild_struct {t : TypeId} {z : List Value} {pl : List (Nat × Nat)} (hz : tzero P t = some z) (h : placesB P t z pl = true) (parts : List (Nat × Value)) :
    abuild P t parts = (afillL pl z parts).map fun cs => .agg cs.toArray := by
  unfold placesB at h
  split at h
  · rename_i fs hu
    simp only [Bool.and_eq_true, beq_iff_eq] at h
    obtain ⟨⟨h1, h2⟩, h3⟩ := h
    unfold abuild
    rw [hz, hu]
    simp only [h1, if_true]
    rw [afill_L (pl := pl) _ (fun p hp => by simpa using List.all_eq_true.1 h3 p hp)]
    intro i
    subst h2
    unfold fieldPlaces
    cases hi : fs[i]? with
    | none => simp [hi]
    | some f =>
      have hm : f ∈ fs.toList := by rw [← Array.getElem?_toList] at hi; exact List.mem_of_getElem? hi
      obtain ⟨n, hn⟩ := Option.isSome_iff_exists.1 (List.all_eq_true.1 h1 f hm)
      simp [hi, hn]
  · cases h
theorem apart_cell {a : TypeId} {n o : Nat} {cs : List Value} (h1 : tagg P a = some false) (h2 : tsz P a = some n) : apart P a cs o = cs[o]? := by
  unfold apart; rw [h1, h2]
theorem apart_agg {a : TypeId} {n o : Nat} {cs : List Value} (h1 : tagg P a = some true) (h2 : tsz P a = some (n + 1)) : apart P a cs o = (takeE cs o (n + 1)).map fun l => .agg l.toArray := by
  unfold apart; rw [h1, h2]
  simp only
  by_cases h : o + (n + 1) ≤ cs.length
  · rw [if_pos h, takeE_eq _ _ _ h]; rfl
  · rw [if_neg h, takeE_none _ _ _ (by omega) h]; rfl
theorem field_agg {s : TypeId} {f : Nat} {ft off : Nat} {cs : List Value} (h : tfield P s f = some (ft, off)) : afieldV P s (.agg cs.toArray) f = apart P ft cs off := by
  unfold afieldV; simp only; rw [h]
theorem alloc_eq {e : TypeId} {z : List Value} {n : Nat} (hz : tzero P e = some z) (h1 : oneCells z = true) (he : tesz P e = n) : allocT P H e = some (.pointer (some ⟨H.next, 0, none⟩), H.add (.cells z n true)) := by
  unfold allocT allocE; rw [hz, he]; simp [h1, ptrTo]
theorem box_eq {e : TypeId} {v : Value} {n : Nat} (he : tesz P e = n) : boxE P H e v = guardO (v.cells.toList.all oneCell) (some (.pointer (some ⟨H.next, 0, none⟩), H.add (.cells v.cells.toList n true))) := by
  unfold boxE; rw [he, ← guardO_ite]; rfl
theorem ptrTo_eq {i : Nat} : ptrTo i = .pointer (some ⟨i, 0, none⟩) := rfl

/- numbers -/
theorem bin_int {op : BinOp} {a : TypeId} {k : IntKind} {x y : Int} : abin P op a (.int k x) (.int k y) = (match op with | .shl => ashift .shl k x y | .shr => ashift .shr k x y | op => aint op k x y) := by
  unfold abin
  cases op <;> simp
theorem isC_tmp {i : Nat} : isC (.tmp i) = false := rfl
theorem isC_const {v : Value} : isC (.const v) = true := rfl
theorem isC_global {i : Nat} : isC (.global i) = false := rfl
theorem isC_func {i : Nat} : isC (.func i) = false := rfl
theorem abinN_ff {op : BinOp} {a : TypeId} {x y : Value} : abinN P op a false x y = abin P op a x y := rfl
theorem abinN_int {op : BinOp} {a : TypeId} {c : Bool} {k : IntKind} {n : Int} {y : Value} : abinN P op a c (.int k n) y = abin P op a (.int k n) y := by cases c <;> rfl
theorem abinN_bool {op : BinOp} {a : TypeId} {c b : Bool} {y : Value} : abinN P op a c (.bool b) y = abin P op a (.bool b) y := by cases c <;> rfl
theorem abinN_string {op : BinOp} {a : TypeId} {c : Bool} {s : ByteArray} {y : Value} : abinN P op a c (.string s) y = abin P op a (.string s) y := by cases c <;> rfl
theorem abinN_pointer {op : BinOp} {a : TypeId} {c : Bool} {s : Option Addr} {y : Value} : abinN P op a c (.pointer s) y = abin P op a (.pointer s) y := by cases c <;> rfl
theorem abinN_slice {op : BinOp} {a : TypeId} {c : Bool} {s : Option Addr} {n k : Nat} {y : Value} : abinN P op a c (.slice s n k) y = abin P op a (.slice s n k) y := by cases c <;> rfl
theorem abinN_agg {op : BinOp} {a : TypeId} {c : Bool} {xs : Array Value} {y : Value} : abinN P op a c (.agg xs) y = abin P op a (.agg xs) y := by cases c <;> rfl
theorem abinN_iface {op : BinOp} {a : TypeId} {c : Bool} {u : TypeId} {v : Value} {y : Value} : abinN P op a c (.iface u v) y = abin P op a (.iface u v) y := by cases c <;> rfl
theorem abinN_func {op : BinOp} {a : TypeId} {c : Bool} {f : Fn} {xs ys : Array Value} {y : Value} : abinN P op a c (.func f xs ys) y = abin P op a (.func f xs ys) y := by cases c <;> rfl
theorem b_add {a : TypeId} {k : IntKind} {x y : Int} : abin P .add a (.int k x) (.int k y) = some (.int k (k.wrap (x + y))) := by rw [bin_int]; rfl
theorem b_sub {a : TypeId} {k : IntKind} {x y : Int} : abin P .sub a (.int k x) (.int k y) = some (.int k (k.wrap (x - y))) := by rw [bin_int]; rfl
theorem b_mul {a : TypeId} {k : IntKind} {x y : Int} : abin P .mul a (.int k x) (.int k y) = some (.int k (k.wrap (x * y))) := by rw [bin_int]; rfl
theorem b_quo {a : TypeId} {k : IntKind} {x y : Int} (h : y ≠ 0) : abin P .quo a (.int k x) (.int k y) = some (.int k (k.wrap (x.tdiv y))) := by rw [bin_int]; simp [aint, h]
theorem b_rem {a : TypeId} {k : IntKind} {x y : Int} (h : y ≠ 0) : abin P .rem a (.int k x) (.int k y) = some (.int k (x.tmod y)) := by rw [bin_int]; simp [aint, h]
theorem b_eql {a : TypeId} {k : IntKind} {x y : Int} : abin P .eql a (.int k x) (.int k y) = some (.bool (x == y)) := by rw [bin_int]; rfl
theorem b_neq {a : TypeId} {k : IntKind} {x y : Int} : abin P .neq a (.int k x) (.int k y) = some (.bool (x != y)) := by rw [bin_int]; rfl
theorem b_lss {a : TypeId} {k : IntKind} {x y : Int} : abin P .lss a (.int k x) (.int k y) = some (.bool (decide (x < y))) := by rw [bin_int]; rfl
theorem b_leq {a : TypeId} {k : IntKind} {x y : Int} : abin P .leq a (.int k x) (.int k y) = some (.bool (decide (x ≤ y))) := by rw [bin_int]; rfl
theorem b_gtr {a : TypeId} {k : IntKind} {x y : Int} : abin P .gtr a (.int k x) (.int k y) = some (.bool (decide (x > y))) := by rw [bin_int]; rfl
theorem b_geq {a : TypeId} {k : IntKind} {x y : Int} : abin P .geq a (.int k x) (.int k y) = some (.bool (decide (x ≥ y))) := by rw [bin_int]; rfl
theorem u_not {b : Bool} : aun .not (.bool b) = some (.bool (!b)) := rfl
theorem u_neg {k : IntKind} {n : Int} : aun .neg (.int k n) = some (.int k (k.wrap (0 - n))) := rfl
theorem b_min {ts : Array TypeId} {x y : Value} : abuiltin P .min ts [x, y] H = (amin2 x y).map fun v => (v, H) := rfl
theorem b_max {ts : Array TypeId} {x y : Value} : abuiltin P .max ts [x, y] H = (amax2 x y).map fun v => (v, H) := rfl
theorem b_len {ts : Array TypeId} {x : Value} : abuiltin P .len ts [x] H = (alenV P (ts[0]?.bind P.underlying) x).map fun v => (v, H) := rfl
theorem min2_ints {k : IntKind} {a b : Int} : amin2 (.int k a) (.int k b) = some (.int k (min a b)) := by
  show some (Value.int k (if b < a then b else a)) = _
  congr 2
  simp only [Int.min_def]
  split <;> split <;> omega
theorem max2_ints {k : IntKind} {a b : Int} : amax2 (.int k a) (.int k b) = some (.int k (max a b)) := by
  show some (Value.int k (if b > a then b else a)) = _
  congr 2
  simp only [Int.max_def]
  split <;> split <;> omega
theorem conv_int {s d : TypeId} {k k' k2 : IntKind} {n : Int} (h1 : P.underlying s = some (.int k2)) (h2 : P.underlying d = some (.int k')) : aconv P s d (.int k n) = some (.int k' (k'.wrap n)) := by
  unfold aconv; rw [h1, h2]
theorem conv_string {s d : TypeId} {x : ByteArray} (h1 : P.underlying s = some .string) (h2 : P.underlying d = some .string) : aconv P s d (.string x) = some (.string x) := by
  unfold aconv; rw [h1, h2]

/- functions without memory, as a table -/
def ovr (C : Calling) (f : FuncId) (p : List Value → Option Value) : Calling := fun g args H K =>
  if g = f then match p args with
    | some v => K v H
    | none => C g args H K
  else C g args H K
theorem ovr_sound {C : Calling} {f : FuncId} {p : List Value → Option Value} (hC : C.Sound P) (h : ∀ args v, p args = some v → ∀ H K, K v H → RCalls P f args H K) : (ovr C f p).Sound P := by
  intro g args H K hk
  unfold ovr at hk
  split at hk
  · rename_i e; subst e
    split at hk
    · rename_i v hv; exact h args v hv H K hk
    · exact hC _ _ _ _ hk
  · exact hC _ _ _ _ hk

theorem ovr_hit {C : Calling} {f : FuncId} {p : List Value → Option Value} {args : List Value} {v : Value} {H : AHeap} {K : Value → AHeap → Prop} (h : p args = some v) : callG (ovr C f p) f args H K = K v H := by
  unfold callG ovr; rw [if_pos rfl, h]
theorem ovr_miss {C : Calling} {f g : FuncId} {p : List Value → Option Value} {args : List Value} {H : AHeap} {K : Value → AHeap → Prop} (h : g ≠ f) : callG (ovr C f p) g args H K = callG C g args H K := by
  unfold callG ovr; rw [if_neg h]

/- orders -/
variable {ord : List (Nat × Option (List Nat))} {pl : List Pledge} {i : Nat} {ah : Option (List Nat)} {l : List Oper} {n : Nat}
theorem wpDraw_congr : wpDraw P C ops ord t H pl K = wpDraw P C ops ord t H pl K := rfl
theorem draw_go {l : List Oper} (ord : List (Nat × Option (List Nat))) (hc : (drawChk l.toArray ord (Array.replicate l.toArray.size false) [] && ord.length == l.toArray.size) = true) (h : wpDraw P C l ord t H [] K) : DrawOk P C l.toArray t H K := ⟨ord, hc, h⟩
theorem draw_at (id : Nat) {l : List Oper} (ord : List (Nat × Option (List Nat))) (hc : (drawChk l.toArray ord (Array.replicate l.toArray.size false) [] && ord.length == l.toArray.size) = true) (h : wpDraw P C l ord t H [] K) : DrawR P C id l.toArray t H K := ⟨⟨ord, hc, h⟩, rfl⟩
/-- The operation that comes next, looked for in a list. -/
def drawAt (P : Program) (C : Calling) (ops : List Oper) (l : List Oper) (n : Nat) (i : Nat) (ah : Option (List Nat)) (ord : List (Nat × Option (List Nat))) (t : Env) (H : AHeap) (pl : List Pledge) (K : Env → AHeap → Prop) : Prop :=
  match l[n]? with
  | none => False
  | some o =>
    match wantB ops o t with
    | none => False
    | some false => wpDraw P C ops ord (putD t o.dst undef) H pl K
    | some true =>
      match ah with
      | none =>
        match quietB o.op with
        | true => match aop P o.op t H with
          | some (v, _) => wpDraw P C ops ord (putD t o.dst v) H (if readsB o.op = true then ⟨i, o.op, t, v⟩ :: pl else pl) K
          | none => False
        | false => ∃ v, PureOne P C o t v ∧ wpDraw P C ops ord (putD t o.dst v) H pl K
      | some cs => wpOne P C o t H fun v H' => owedL P cs H' pl ∧ wpDraw P C ops ord (putD t o.dst v) H' pl K
theorem drawAt_congr : drawAt P C ops l n i ah ord t H pl K = drawAt P C ops l n i ah ord t H pl K := rfl
theorem d_nil : wpDraw P C ops [] t H pl K = K t H := rfl
theorem d_cons : wpDraw P C ops ((i, ah) :: ord) t H pl K = drawAt P C ops ops i i ah ord t H pl K := rfl
theorem d_succ {o : Oper} : drawAt P C ops (o :: l) (n + 1) i ah ord t H pl K = drawAt P C ops l n i ah ord t H pl K := rfl
def drawV (P : Program) (C : Calling) (ops : List Oper) (r : Option Value) (d : Option Tmp) (ord : List (Nat × Option (List Nat))) (t : Env) (H : AHeap) (pl : List Pledge) (K : Env → AHeap → Prop) : Prop :=
  match r with
  | some v => wpDraw P C ops ord (putD t d v) H pl K
  | none => False
def drawL (P : Program) (C : Calling) (ops : List Oper) (r : Option Value) (i : Nat) (op : Op) (d : Option Tmp) (ord : List (Nat × Option (List Nat))) (t : Env) (H : AHeap) (pl : List Pledge) (K : Env → AHeap → Prop) : Prop :=
  match r with
  | some v => wpDraw P C ops ord (putD t d v) H (⟨i, op, t, v⟩ :: pl) K
  | none => False
def drawVH (P : Program) (C : Calling) (ops : List Oper) (r : Option (Value × AHeap)) (cs : List Nat) (d : Option Tmp) (ord : List (Nat × Option (List Nat))) (t : Env) (pl : List Pledge) (K : Env → AHeap → Prop) : Prop :=
  match r with
  | some (v, H') => owedL P cs H' pl ∧ wpDraw P C ops ord (putD t d v) H' pl K
  | none => False
def drawH (P : Program) (C : Calling) (ops : List Oper) (r : Option AHeap) (cs : List Nat) (d : Option Tmp) (ord : List (Nat × Option (List Nat))) (t : Env) (pl : List Pledge) (K : Env → AHeap → Prop) : Prop :=
  match r with
  | some H' => owedL P cs H' pl ∧ wpDraw P C ops ord (putD t d undef) H' pl K
  | none => False
theorem drawV_congr {r r' : Option Value} {d : Option Tmp} (h : r = r') : drawV P C ops r d ord t H pl K = drawV P C ops r' d ord t H pl K := by rw [h]
theorem drawL_congr {r r' : Option Value} {op : Op} {d : Option Tmp} (h : r = r') : drawL P C ops r i op d ord t H pl K = drawL P C ops r' i op d ord t H pl K := by rw [h]
theorem drawVH_congr {r r' : Option (Value × AHeap)} {cs : List Nat} {d : Option Tmp} (h : r = r') : drawVH P C ops r cs d ord t pl K = drawVH P C ops r' cs d ord t pl K := by rw [h]
theorem drawH_congr {r r' : Option AHeap} {cs : List Nat} {d : Option Tmp} (h : r = r') : drawH P C ops r cs d ord t pl K = drawH P C ops r' cs d ord t pl K := by rw [h]
theorem drawV_some {v : Value} {j : Nat} : drawV P C ops (some v) (some j) ord t H pl K = wpDraw P C ops ord (upd t j v) H pl K := rfl
theorem drawV_none {v : Value} : drawV P C ops (some v) none ord t H pl K = wpDraw P C ops ord t H pl K := rfl
theorem drawL_some {v : Value} {op : Op} {j : Nat} : drawL P C ops (some v) i op (some j) ord t H pl K = wpDraw P C ops ord (upd t j v) H (⟨i, op, t, v⟩ :: pl) K := rfl
theorem owedL_nil {H' : AHeap} : ∀ pl, owedL P [] H' pl = True
  | [] => rfl
  | p :: pl => by simp [owedL, owedL_nil pl]
theorem owedL_end {cs : List Nat} {H' : AHeap} : owedL P cs H' [] = True := rfl
theorem owedL_cons {cs : List Nat} {H' : AHeap} {j : Nat} {op : Op} {t' : Env} {v : Value} : owedL P cs H' (⟨j, op, t', v⟩ :: pl) = ((cs.contains j = true → aop P op t' H' = some (v, H')) ∧ owedL P cs H' pl) := rfl
theorem drawVH_some0 {v : Value} {H' : AHeap} {j : Nat} : drawVH P C ops (some (v, H')) [] (some j) ord t pl K = wpDraw P C ops ord (upd t j v) H' pl K := by simp [drawVH, owedL_nil, putD]
theorem drawVH_none0 {v : Value} {H' : AHeap} : drawVH P C ops (some (v, H')) [] none ord t pl K = wpDraw P C ops ord t H' pl K := by simp [drawVH, owedL_nil, putD]
theorem drawH_none0 {H' : AHeap} : drawH P C ops (some H') [] none ord t pl K = wpDraw P C ops ord t H' pl K := by simp [drawH, owedL_nil, putD]
theorem drawVH_some1 {v : Value} {H' : AHeap} {j c : Nat} {cs : List Nat} : drawVH P C ops (some (v, H')) (c :: cs) (some j) ord t pl K = (owedL P (c :: cs) H' pl ∧ wpDraw P C ops ord (upd t j v) H' pl K) := rfl
theorem drawVH_none1 {v : Value} {H' : AHeap} {c : Nat} {cs : List Nat} : drawVH P C ops (some (v, H')) (c :: cs) none ord t pl K = (owedL P (c :: cs) H' pl ∧ wpDraw P C ops ord t H' pl K) := rfl
theorem drawH_none1 {H' : AHeap} {c : Nat} {cs : List Nat} : drawH P C ops (some H') (c :: cs) none ord t pl K = (owedL P (c :: cs) H' pl ∧ wpDraw P C ops ord t H' pl K) := rfl

theorem dV {op : Op} {r : Option Value} (hq : quietB op = true) (hr : readsB op = false) (h : aop P op t H = r.map fun v => (v, H)) : drawAt P C ops (⟨d, op, ty, pos, af, none⟩ :: l) 0 i none ord t H pl K = drawV P C ops r d ord t H pl K := by
  simp only [drawAt, List.getElem?_cons_zero, wantB, hq, h, hr]
  cases r <;> rfl
theorem dL {op : Op} {r : Option Value} (hq : quietB op = true) (hr : readsB op = true) (h : aop P op t H = r.map fun v => (v, H)) : drawAt P C ops (⟨d, op, ty, pos, af, none⟩ :: l) 0 i none ord t H pl K = drawL P C ops r i op d ord t H pl K := by
  simp only [drawAt, List.getElem?_cons_zero, wantB, hq, h, hr]
  cases r <;> rfl
theorem dVH {op : Op} {r : Option (Value × AHeap)} {cs : List Nat} (hc : ∀ f args ats, op ≠ .call ⟨.value f, args, ats⟩) (h : aop P op t H = r) (hb : abig P op t H = none := by rfl) : drawAt P C ops (⟨d, op, ty, pos, af, none⟩ :: l) 0 i (some cs) ord t H pl K = drawVH P C ops r cs d ord t pl K := by
  simp only [drawAt, List.getElem?_cons_zero, wantB]
  unfold wpOne
  split
  · rename_i f args ats ho; exact absurd ho (hc _ _ _)
  · unfold aopX
    rw [h, hb]; cases r <;> rfl
theorem q_pick {c x y : Operand} : aop P (.pick c x y) t H = (pickE (ev t c) (ev t x) (ev t y)).map fun v => (v, H) := by simp only [aop, pickE]; cases ev t c <;> rfl
theorem q_nil {x : Operand} : aop P (.nilCheck x) t H = (nilE (ev t x)).map fun v => (v, H) := by
  simp only [aop]
  cases ev t x with
  | pointer a => cases a <;> rfl
  | func f _ _ => cases f <;> rfl
  | _ => rfl
theorem q_iface {a : TypeId} {x : Operand} : aop P (.makeInterface a x) t H = (ifaceE P a (ev t x)).map fun v => (v, H) := by
  simp only [aop, ifaceE]
  cases P.underlying a with
  | none => rfl
  | some d => cases d <;> rfl
theorem q_faddr {a : TypeId} {x : Operand} {f : Nat} : aop P (.fieldAddr a x f) t H = (fieldE (tfield P a f) (ev t x)).map fun v => (v, H) := by
  simp only [aop]
  unfold fieldE
  split
  · rename_i h1 h2; rw [h1, h2]; rfl
  · rename_i h
    split
    · rename_i i o off h1 h2; exact absurd h2 (h _ _ _ _ h1)
    · rfl
theorem q_extract {x : Operand} {j : Nat} : aop P (.extract x j) t H = (extractE (ev t x) j).map fun v => (v, H) := by
  simp only [aop]
  cases ev t x <;> rfl
theorem q_load {a : TypeId} {x : Operand} : aop P (.load a x) t H = (loadE P H a (ev t x)).map fun v => (v, H) := by
  simp only [aop]
  unfold loadE
  split
  · rename_i h; rw [h]
  · rename_i h
    split
    · rename_i h1; exact absurd h1 (h _ _)
    · rfl
theorem q_store {a : TypeId} {x y : Operand} : aop P (.store a x y) t H = (storeE P H a (ev t x) (ev t y)).map fun H' => (undef, H') := by
  simp only [aop]
  unfold storeE
  split
  · rename_i h; rw [h]
  · rename_i h
    split
    · rename_i h1; exact absurd h1 (h _ _)
    · rfl
theorem d_move {x : Operand} : drawAt P C ops (⟨d, .move x, ty, pos, af, none⟩ :: l) 0 i none ord t H pl K = drawV P C ops (some (ev t x)) d ord t H pl K := dV rfl rfl rfl
theorem d_assign {x : Operand} : drawAt P C ops (⟨d, .assign x, ty, pos, af, none⟩ :: l) 0 i none ord t H pl K = drawV P C ops (some (ev t x)) d ord t H pl K := dV rfl rfl rfl
theorem d_pick {c x y : Operand} : drawAt P C ops (⟨d, .pick c x y, ty, pos, af, none⟩ :: l) 0 i none ord t H pl K = drawV P C ops (pickE (ev t c) (ev t x) (ev t y)) d ord t H pl K := dV rfl rfl q_pick
theorem d_binOp {op : BinOp} {a b : TypeId} {x y : Operand} : drawAt P C ops (⟨d, .binOp op a x y b, ty, pos, af, none⟩ :: l) 0 i none ord t H pl K = drawV P C ops (abinN P op a (isC x || isC y) (ev t x) (ev t y)) d ord t H pl K := dV rfl rfl rfl
theorem d_unOp {op : UnOp} {a : TypeId} {x : Operand} : drawAt P C ops (⟨d, .unOp op a x, ty, pos, af, none⟩ :: l) 0 i none ord t H pl K = drawV P C ops (aun op (ev t x)) d ord t H pl K := dV rfl rfl rfl
theorem d_convert {a b : TypeId} {x : Operand} : drawAt P C ops (⟨d, .convert a b x, ty, pos, af, none⟩ :: l) 0 i none ord t H pl K = drawV P C ops (aconv P a b (ev t x)) d ord t H pl K := dV rfl rfl rfl
theorem d_makeInterface {a : TypeId} {x : Operand} : drawAt P C ops (⟨d, .makeInterface a x, ty, pos, af, none⟩ :: l) 0 i none ord t H pl K = drawV P C ops (ifaceE P a (ev t x)) d ord t H pl K := dV rfl rfl q_iface
theorem d_nilCheck {x : Operand} : drawAt P C ops (⟨d, .nilCheck x, ty, pos, af, none⟩ :: l) 0 i none ord t H pl K = drawV P C ops (nilE (ev t x)) d ord t H pl K := dV rfl rfl q_nil
theorem d_fieldAddr {a : TypeId} {x : Operand} {f : Nat} : drawAt P C ops (⟨d, .fieldAddr a x f, ty, pos, af, none⟩ :: l) 0 i none ord t H pl K = drawV P C ops (fieldE (tfield P a f) (ev t x)) d ord t H pl K := dV rfl rfl q_faddr
theorem d_field {a : TypeId} {x : Operand} {f : Nat} : drawAt P C ops (⟨d, .field a x f, ty, pos, af, none⟩ :: l) 0 i none ord t H pl K = drawV P C ops (afieldV P a (ev t x) f) d ord t H pl K := dV rfl rfl rfl
theorem d_indexAddr {a : TypeId} {x y : Operand} : drawAt P C ops (⟨d, .indexAddr a x y, ty, pos, af, none⟩ :: l) 0 i none ord t H pl K = drawV P C ops (aindexAddr P a (ev t x) (ev t y)) d ord t H pl K := dV rfl rfl rfl
theorem d_index {a : TypeId} {x y : Operand} : drawAt P C ops (⟨d, .index a x y, ty, pos, af, none⟩ :: l) 0 i none ord t H pl K = drawV P C ops (aindex P a (ev t x) (ev t y)) d ord t H pl K := dV rfl rfl rfl
theorem d_extract {x : Operand} {j : Nat} : drawAt P C ops (⟨d, .extract x j, ty, pos, af, none⟩ :: l) 0 i none ord t H pl K = drawV P C ops (extractE (ev t x) j) d ord t H pl K := dV rfl rfl q_extract
theorem d_build {a : TypeId} {parts : Array (Nat × Operand)} : drawAt P C ops (⟨d, .build a parts, ty, pos, af, none⟩ :: l) 0 i none ord t H pl K = drawV P C ops (abuild P a (parts.toList.map fun p => (p.1, ev t p.2))) d ord t H pl K := dV rfl rfl rfl
theorem d_load {a : TypeId} {x : Operand} : drawAt P C ops (⟨d, .load a x, ty, pos, af, none⟩ :: l) 0 i none ord t H pl K = drawL P C ops (loadE P H a (ev t x)) i (.load a x) d ord t H pl K := dL rfl rfl q_load
theorem d_slice {a : TypeId} {x : Operand} {lo hi mx : Option Operand} : drawAt P C ops (⟨d, .slice a x lo hi mx, ty, pos, af, none⟩ :: l) 0 i none ord t H pl K = drawL P C ops (aslice P H a (ev t x) (lo.map (ev t)) (hi.map (ev t)) (mx.map (ev t))) i (.slice a x lo hi mx) d ord t H pl K := dL rfl rfl rfl
theorem d_len {args : Array Operand} {ats : Array TypeId} : drawAt P C ops (⟨d, .call ⟨.builtin .len, args, ats⟩, ty, pos, af, none⟩ :: l) 0 i none ord t H pl K = drawVH P C ops (abuiltin P .len ats (args.toList.map (ev t)) H) [] d ord t pl K := by
  obtain ⟨r, hr, _⟩ := quiet_form (P := P) (o := .call ⟨.builtin .len, args, ats⟩) (t := t) rfl
  rw [dV rfl rfl (hr H), show abuiltin P .len ats (args.toList.map (ev t)) H = (r H).map fun v => (v, H) from hr H]
  cases r H with
  | none => rfl
  | some v => simp [drawV, drawVH, owedL_nil]
theorem d_min {args : Array Operand} {ats : Array TypeId} : drawAt P C ops (⟨d, .call ⟨.builtin .min, args, ats⟩, ty, pos, af, none⟩ :: l) 0 i none ord t H pl K = drawVH P C ops (abuiltin P .min ats (args.toList.map (ev t)) H) [] d ord t pl K := by
  obtain ⟨r, hr, _⟩ := quiet_form (P := P) (o := .call ⟨.builtin .min, args, ats⟩) (t := t) rfl
  rw [dV rfl rfl (hr H), show abuiltin P .min ats (args.toList.map (ev t)) H = (r H).map fun v => (v, H) from hr H]
  cases r H with
  | none => rfl
  | some v => simp [drawV, drawVH, owedL_nil]
theorem d_max {args : Array Operand} {ats : Array TypeId} : drawAt P C ops (⟨d, .call ⟨.builtin .max, args, ats⟩, ty, pos, af, none⟩ :: l) 0 i none ord t H pl K = drawVH P C ops (abuiltin P .max ats (args.toList.map (ev t)) H) [] d ord t pl K := by
  obtain ⟨r, hr, _⟩ := quiet_form (P := P) (o := .call ⟨.builtin .max, args, ats⟩) (t := t) rfl
  rw [dV rfl rfl (hr H), show abuiltin P .max ats (args.toList.map (ev t)) H = (r H).map fun v => (v, H) from hr H]
  cases r H with
  | none => rfl
  | some v => simp [drawV, drawVH, owedL_nil]
theorem d_store {a : TypeId} {x y : Operand} {cs : List Nat} : drawAt P C ops (⟨d, .store a x y, ty, pos, af, none⟩ :: l) 0 i (some cs) ord t H pl K = drawH P C ops (storeE P H a (ev t x) (ev t y)) cs d ord t pl K := by
  rw [dVH (by intro _ _ _ h; cases h) q_store]
  cases storeE P H a (ev t x) (ev t y) <;> rfl
theorem d_alloc {e : TypeId} {cs : List Nat} : drawAt P C ops (⟨d, .alloc e, ty, pos, af, none⟩ :: l) 0 i (some cs) ord t H pl K = drawVH P C ops (allocT P H e) cs d ord t pl K := dVH (by intro _ _ _ h; cases h) rfl
theorem d_box {e : TypeId} {x : Operand} {cs : List Nat} : drawAt P C ops (⟨d, .box e x, ty, pos, af, none⟩ :: l) 0 i (some cs) ord t H pl K = drawVH P C ops (boxE P H e (ev t x)) cs d ord t pl K := dVH (by intro _ _ _ h; cases h) rfl
theorem d_buildSlice {a : TypeId} {m : Nat} {parts : Array (Nat × Operand)} {cs : List Nat} : drawAt P C ops (⟨d, .buildSlice a m parts, ty, pos, af, none⟩ :: l) 0 i (some cs) ord t H pl K = drawVH P C ops (abuildSlice P H a m (parts.toList.map fun p => (p.1, ev t p.2))) cs d ord t pl K := dVH (by intro _ _ _ h; cases h) rfl
theorem d_makeSlice {a : TypeId} {x y : Operand} {cs : List Nat} : drawAt P C ops (⟨d, .makeSlice a x y, ty, pos, af, none⟩ :: l) 0 i (some cs) ord t H pl K = drawVH P C ops (amakeSlice P H a (ev t x) (ev t y)) cs d ord t pl K := dVH (by intro _ _ _ h; cases h) rfl
theorem d_builtin {b : Builtin} {args : Array Operand} {ats : Array TypeId} {cs : List Nat} : drawAt P C ops (⟨d, .call ⟨.builtin b, args, ats⟩, ty, pos, af, none⟩ :: l) 0 i (some cs) ord t H pl K = drawVH P C ops (abuiltin P b ats (args.toList.map (ev t)) H) cs d ord t pl K := dVH (by intro _ _ _ h; cases h) rfl
/- calls -/
def goDraw (P : Program) (C : Calling) (ops : List Oper) (cs : List Nat) (d : Option Tmp) (ord : List (Nat × Option (List Nat))) (t : Env) (pl : List Pledge) (K : Env → AHeap → Prop) : Value → AHeap → Prop := fun v H' => owedL P cs H' pl ∧ wpDraw P C ops ord (putD t d v) H' pl K
theorem d_call {f : Operand} {args : Array Operand} {ats : Array TypeId} {cs : List Nat} : drawAt P C ops (⟨d, .call ⟨.value f, args, ats⟩, ty, pos, af, none⟩ :: l) 0 i (some cs) ord t H pl K = callV C (ev t f) (args.toList.map (ev t)) H (goDraw P C ops cs d ord t pl K) := by
  simp only [drawAt, List.getElem?_cons_zero, wantB, wpOne, callV]
  cases ev t f with
  | func fn xs ys => cases fn <;> rfl
  | _ => rfl
theorem goDraw_some0 {v : Value} {j : Nat} : goDraw P C ops [] (some j) ord t pl K v H = wpDraw P C ops ord (upd t j v) H pl K := by simp [goDraw, owedL_nil, putD]
theorem goDraw_none0 {v : Value} : goDraw P C ops [] none ord t pl K v H = wpDraw P C ops ord t H pl K := by simp [goDraw, owedL_nil, putD]
theorem goDraw_some1 {v : Value} {j c : Nat} {cs : List Nat} : goDraw P C ops (c :: cs) (some j) ord t pl K v H = (owedL P (c :: cs) H pl ∧ wpDraw P C ops ord (upd t j v) H pl K) := rfl
theorem goDraw_none1 {v : Value} {c : Nat} {cs : List Nat} : goDraw P C ops (c :: cs) none ord t pl K v H = (owedL P (c :: cs) H pl ∧ wpDraw P C ops ord t H pl K) := rfl
/-- A call that is taken ahead: its function and its arguments are worked out, then it is looked up. -/
def pureV (P : Program) (C : Calling) (f : Value) (args : List Value) (K : Value → Prop) : Prop :=
  match f with
  | .func (.func g) xs ys => ∃ v, (∀ (H : AHeap) (K : Value → AHeap → Prop), K v H → C g (xs.toList ++ (args ++ ys.toList)) H K) ∧ K v
  | _ => False
def pureG (C : Calling) (g : FuncId) (args : List Value) (K : Value → Prop) : Prop := ∃ v, (∀ (H : AHeap) (K : Value → AHeap → Prop), K v H → C g args H K) ∧ K v
theorem pureV_congr {f f' : Value} {args args' : List Value} {K : Value → Prop} (h : f = f') (h1 : args = args') : pureV P C f args K = pureV P C f' args' K := by rw [h, h1]
theorem pureG_congr {g g' : FuncId} {args args' : List Value} {K : Value → Prop} (h : g = g') (h1 : args = args') : pureG C g args K = pureG C g' args' K := by rw [h, h1]
theorem pureV_func {g : FuncId} {xs ys : List Value} {args : List Value} {K : Value → Prop} : pureV P C (.func (.func g) xs.toArray ys.toArray) args K = pureG C g (xs ++ (args ++ ys)) K := rfl
def goPure (P : Program) (C : Calling) (ops : List Oper) (d : Option Tmp) (ord : List (Nat × Option (List Nat))) (t : Env) (H : AHeap) (pl : List Pledge) (K : Env → AHeap → Prop) : Value → Prop := fun v => wpDraw P C ops ord (putD t d v) H pl K
theorem goPure_some {v : Value} {j : Nat} : goPure P C ops (some j) ord t H pl K v = wpDraw P C ops ord (upd t j v) H pl K := rfl
theorem goPure_none {v : Value} : goPure P C ops none ord t H pl K v = wpDraw P C ops ord t H pl K := rfl
theorem d_pure {f : Operand} {args : Array Operand} {ats : Array TypeId} : drawAt P C ops (⟨d, .call ⟨.value f, args, ats⟩, ty, pos, af, none⟩ :: l) 0 i none ord t H pl K = pureV P C (ev t f) (args.toList.map (ev t)) (goPure P C ops d ord t H pl K) := by
  simp only [drawAt, List.getElem?_cons_zero, wantB, quietB, PureOne, wpOne, pureV, goPure]
  cases ev t f with
  | func fn xs ys => cases fn <;> first | rfl | (simp; intro x hx; exact absurd trivial (hx H fun _ _ => True))
  | _ => simp; intro x hx; exact absurd trivial (hx H fun _ _ => True)
theorem pure_of {g : FuncId} {args : List Value} {v : Value} {K : Value → Prop} (h : ∀ (H : AHeap) (K : Value → AHeap → Prop), callG C g args H K = K v H) (k : K v) : pureG C g args K := ⟨v, fun H K q => by have := h H K; unfold callG at this; rw [this]; exact q, k⟩
theorem pureG_eq {g : FuncId} {args : List Value} {v : Value} {K : Value → Prop} (h : ∀ (H : AHeap) (K : Value → AHeap → Prop), callG C g args H K = K v H) : pureG C g args K = K v := by
  apply propext
  constructor
  · rintro ⟨u, h1, h2⟩
    have := h ⟨fun _ => none, 0⟩ (fun x _ => x = u)
    unfold callG at this
    have e : v = u := this ▸ h1 ⟨fun _ => none, 0⟩ (fun x _ => x = u) rfl
    rw [e]; exact h2
  · exact fun k => pure_of h k
/- guards -/
theorem d_guard {op : Op} {j : Nat} {want : Bool} : drawAt P C ops (⟨d, op, ty, pos, af, some (j, want)⟩ :: l) 0 i ah ord t H pl K =
    guardE (dstOf ops j) t want (drawAt P C ops (⟨d, op, ty, pos, af, none⟩ :: l) 0 i ah ord t H pl K) (wpDraw P C ops ord (putD t d undef) H pl K) := by
  have e : ∀ X, wpOne P C ⟨d, op, ty, pos, af, some (j, want)⟩ t H X = wpOne P C ⟨d, op, ty, pos, af, none⟩ t H X := fun X => rfl
  have e2 : ∀ v, PureOne P C ⟨d, op, ty, pos, af, some (j, want)⟩ t v = PureOne P C ⟨d, op, ty, pos, af, none⟩ t v := fun v => rfl
  simp only [drawAt, List.getElem?_cons_zero, wantB, e, e2]
  rw [← dstOf_eq]
  unfold guardE
  cases dstOf ops j with
  | none => rfl
  | some k =>
    simp only []
    cases t k with
    | bool b => cases b <;> cases want <;> rfl
    | _ => rfl

end Go.LH
