/-
  The logical heap: operations under a test that is open: they are carried out all the same, and what they give is kept under the test.
-/
import Derived.Test.YtmjlmlipnejbfaaGreatDoorLH20
set_option linter.all false
namespace Go.LH
variable {P : Program} {C : Calling} {ops : List Oper} {rest : List Oper} {t : Env} {H : AHeap} {K : Env → AHeap → Prop}

/-- A value under a test. -/
def selV (c : Bool) (v : Value) : Value :=
  match c with
  | true => v
  | false => undef
theorem selV_congr {c c' : Bool} {v v' : Value} (h : c = c') (h2 : v = v') : selV c v = selV c' v' := by rw [h, h2]
theorem selV_tt {v : Value} : selV true v = v := rfl
theorem selV_ff {v : Value} : selV false v = undef := rfl
def pk (c : Bool) (a b : Value) : Value :=
  match c with
  | true => a
  | false => b
theorem pickE_pk {x : Bool} {a b : Value} : pickE (.bool x) a b = some (pk x a b) := by cases x <;> rfl
theorem pk_tt {a b : Value} : pk true a b = a := rfl
theorem pk_ff {a b : Value} : pk false a b = b := rfl
theorem pk_and {x y : Bool} : pk x (selV x (.bool y)) (.bool false) = .bool (x && y) := by cases x <;> rfl
theorem pk_or {x y : Bool} : pk x (.bool true) (selV (!x) (.bool y)) = .bool (x || y) := by cases x <;> rfl
theorem pk_and' {x y : Bool} : pk x (.bool y) (.bool false) = .bool (x && y) := by cases x <;> rfl
theorem pk_or' {x y : Bool} : pk x (.bool true) (.bool y) = .bool (x || y) := by cases x <;> rfl
theorem pk_or2 {x y : Bool} : pk (!x) (.bool true) (selV x (.bool y)) = .bool (!x || y) := by cases x <;> rfl
theorem pk_and2 {x y : Bool} : pk (!x) (selV (!x) (.bool y)) (.bool false) = .bool (!x && y) := by cases x <;> rfl
theorem pk_orn {x y : Bool} : pk (!x) (.bool true) (selV x (.bool y)) = .bool (!x || y) := by cases x <;> rfl

def gS (P : Program) (C : Calling) (ops : List Oper) (c : Bool) (r : Option Value) (d : Option Tmp) (rest : List Oper) (t : Env) (H : AHeap) (K : Env → AHeap → Prop) : Prop :=
  match c with
  | true => stepV P C ops r d rest t H K
  | false => wpOps P C ops rest (putD t d undef) H K
def gB (P : Program) (C : Calling) (ops : List Oper) (v : Value) (want : Bool) (r : Option Value) (d : Option Tmp) (rest : List Oper) (t : Env) (H : AHeap) (K : Env → AHeap → Prop) : Prop :=
  guardB v want (stepV P C ops r d rest t H K) (wpOps P C ops rest (putD t d undef) H K)
def gE (P : Program) (C : Calling) (ops : List Oper) (j : Option Tmp) (want : Bool) (r : Option Value) (d : Option Tmp) (rest : List Oper) (t : Env) (H : AHeap) (K : Env → AHeap → Prop) : Prop :=
  guardE j t want (stepV P C ops r d rest t H K) (wpOps P C ops rest (putD t d undef) H K)
variable {d : Option Tmp} {j : Option Tmp} {want : Bool} {r : Option Value}
theorem gE_congr {j' : Option Tmp} (h : j = j') : gE P C ops j want r d rest t H K = gE P C ops j' want r d rest t H K := by rw [h]
theorem gE_some {i : Nat} : gE P C ops (some i) want r d rest t H K = gB P C ops (t i) want r d rest t H K := rfl
theorem gB_congr {v v' : Value} (h : v = v') : gB P C ops v want r d rest t H K = gB P C ops v' want r d rest t H K := by rw [h]
theorem gB_t {x : Bool} : gB P C ops (.bool x) true r d rest t H K = gS P C ops x r d rest t H K := by cases x <;> rfl
theorem gB_f {x : Bool} : gB P C ops (.bool x) false r d rest t H K = gS P C ops (!x) r d rest t H K := by cases x <;> rfl
theorem gB_undef : gB P C ops undef want r d rest t H K = wpOps P C ops rest (putD t d undef) H K := rfl
theorem gB_st {g x : Bool} : gB P C ops (selV g (.bool x)) true r d rest t H K = gS P C ops (g && x) r d rest t H K := by cases g <;> cases x <;> rfl
theorem gB_sf {g x : Bool} : gB P C ops (selV g (.bool x)) false r d rest t H K = gS P C ops (g && !x) r d rest t H K := by cases g <;> cases x <;> rfl
theorem gS_congr {c c' : Bool} {r' : Option Value} (h : c = c') (h2 : r = r') : gS P C ops c r d rest t H K = gS P C ops c' r' d rest t H K := by rw [h, h2]
theorem gS_tt : gS P C ops true r d rest t H K = stepV P C ops r d rest t H K := rfl
theorem gS_ff {i : Nat} : gS P C ops false r (some i) rest t H K = wpOps P C ops rest (upd t i undef) H K := rfl
theorem gS_some {c : Bool} {v : Value} {i : Nat} : gS P C ops c (some v) (some i) rest t H K = wpOps P C ops rest (upd t i (selV c v)) H K := by cases c <;> rfl

theorem gS_load {a : TypeId} {H2 : AHeap} {c : Bool} {v : Value} : gS P C ops c (loadE P H2 a (selV c v)) d rest t H K = gS P C ops c (loadE P H2 a (v)) d rest t H K := by cases c <;> rfl
theorem gS_load' {a : TypeId} {H2 : AHeap} {c e : Bool} {v : Value} : gS P C ops (c && e) (loadE P H2 a (selV c v)) d rest t H K = gS P C ops (c && e) (loadE P H2 a (v)) d rest t H K := by cases c <;> cases e <;> rfl
theorem gS_bin1 {op : BinOp} {a : TypeId} {k : Bool} {y : Value} {c : Bool} {v : Value} : gS P C ops c (abinN P op a k (selV c v) y) d rest t H K = gS P C ops c (abinN P op a k (v) y) d rest t H K := by cases c <;> rfl
theorem gS_bin1' {op : BinOp} {a : TypeId} {k : Bool} {y : Value} {c e : Bool} {v : Value} : gS P C ops (c && e) (abinN P op a k (selV c v) y) d rest t H K = gS P C ops (c && e) (abinN P op a k (v) y) d rest t H K := by cases c <;> cases e <;> rfl
theorem gS_bin2 {op : BinOp} {a : TypeId} {k : Bool} {x : Value} {c : Bool} {v : Value} : gS P C ops c (abinN P op a k x (selV c v)) d rest t H K = gS P C ops c (abinN P op a k x (v)) d rest t H K := by cases c <;> rfl
theorem gS_bin2' {op : BinOp} {a : TypeId} {k : Bool} {x : Value} {c e : Bool} {v : Value} : gS P C ops (c && e) (abinN P op a k x (selV c v)) d rest t H K = gS P C ops (c && e) (abinN P op a k x (v)) d rest t H K := by cases c <;> cases e <;> rfl
theorem gS_un {op : UnOp} {c : Bool} {v : Value} : gS P C ops c (aun op (selV c v)) d rest t H K = gS P C ops c (aun op (v)) d rest t H K := by cases c <;> rfl
theorem gS_un' {op : UnOp} {c e : Bool} {v : Value} : gS P C ops (c && e) (aun op (selV c v)) d rest t H K = gS P C ops (c && e) (aun op (v)) d rest t H K := by cases c <;> cases e <;> rfl
theorem gS_field {a : TypeId} {n : Nat} {c : Bool} {v : Value} : gS P C ops c (afieldV P a (selV c v) n) d rest t H K = gS P C ops c (afieldV P a (v) n) d rest t H K := by cases c <;> rfl
theorem gS_field' {a : TypeId} {n : Nat} {c e : Bool} {v : Value} : gS P C ops (c && e) (afieldV P a (selV c v) n) d rest t H K = gS P C ops (c && e) (afieldV P a (v) n) d rest t H K := by cases c <;> cases e <;> rfl
theorem gS_faddr {q : Option (TypeId × Nat)} {c : Bool} {v : Value} : gS P C ops c (fieldE q (selV c v)) d rest t H K = gS P C ops c (fieldE q (v)) d rest t H K := by cases c <;> rfl
theorem gS_faddr' {q : Option (TypeId × Nat)} {c e : Bool} {v : Value} : gS P C ops (c && e) (fieldE q (selV c v)) d rest t H K = gS P C ops (c && e) (fieldE q (v)) d rest t H K := by cases c <;> cases e <;> rfl
theorem gS_nil  {c : Bool} {v : Value} : gS P C ops c (nilE (selV c v)) d rest t H K = gS P C ops c (nilE (v)) d rest t H K := by cases c <;> rfl
theorem gS_nil'  {c e : Bool} {v : Value} : gS P C ops (c && e) (nilE (selV c v)) d rest t H K = gS P C ops (c && e) (nilE (v)) d rest t H K := by cases c <;> cases e <;> rfl
theorem gS_iaddr1 {a : TypeId} {y : Value} {c : Bool} {v : Value} : gS P C ops c (aindexAddr P a (selV c v) y) d rest t H K = gS P C ops c (aindexAddr P a (v) y) d rest t H K := by cases c <;> rfl
theorem gS_iaddr1' {a : TypeId} {y : Value} {c e : Bool} {v : Value} : gS P C ops (c && e) (aindexAddr P a (selV c v) y) d rest t H K = gS P C ops (c && e) (aindexAddr P a (v) y) d rest t H K := by cases c <;> cases e <;> rfl
theorem gS_iaddr2 {a : TypeId} {x : Value} {c : Bool} {v : Value} : gS P C ops c (aindexAddr P a x (selV c v)) d rest t H K = gS P C ops c (aindexAddr P a x (v)) d rest t H K := by cases c <;> rfl
theorem gS_iaddr2' {a : TypeId} {x : Value} {c e : Bool} {v : Value} : gS P C ops (c && e) (aindexAddr P a x (selV c v)) d rest t H K = gS P C ops (c && e) (aindexAddr P a x (v)) d rest t H K := by cases c <;> cases e <;> rfl
theorem gS_idx1 {a : TypeId} {y : Value} {c : Bool} {v : Value} : gS P C ops c (aindex P a (selV c v) y) d rest t H K = gS P C ops c (aindex P a (v) y) d rest t H K := by cases c <;> rfl
theorem gS_idx1' {a : TypeId} {y : Value} {c e : Bool} {v : Value} : gS P C ops (c && e) (aindex P a (selV c v) y) d rest t H K = gS P C ops (c && e) (aindex P a (v) y) d rest t H K := by cases c <;> cases e <;> rfl
theorem gS_idx2 {a : TypeId} {x : Value} {c : Bool} {v : Value} : gS P C ops c (aindex P a x (selV c v)) d rest t H K = gS P C ops c (aindex P a x (v)) d rest t H K := by cases c <;> rfl
theorem gS_idx2' {a : TypeId} {x : Value} {c e : Bool} {v : Value} : gS P C ops (c && e) (aindex P a x (selV c v)) d rest t H K = gS P C ops (c && e) (aindex P a x (v)) d rest t H K := by cases c <;> cases e <;> rfl
theorem gS_pick1 {x y : Value} {c : Bool} {v : Value} : gS P C ops c (pickE (selV c v) x y) d rest t H K = gS P C ops c (pickE (v) x y) d rest t H K := by cases c <;> rfl
theorem gS_pick1' {x y : Value} {c e : Bool} {v : Value} : gS P C ops (c && e) (pickE (selV c v) x y) d rest t H K = gS P C ops (c && e) (pickE (v) x y) d rest t H K := by cases c <;> cases e <;> rfl
theorem gS_iface {a : TypeId} {c : Bool} {v : Value} : gS P C ops c (ifaceE P a (selV c v)) d rest t H K = gS P C ops c (ifaceE P a (v)) d rest t H K := by cases c <;> rfl
theorem gS_iface' {a : TypeId} {c e : Bool} {v : Value} : gS P C ops (c && e) (ifaceE P a (selV c v)) d rest t H K = gS P C ops (c && e) (ifaceE P a (v)) d rest t H K := by cases c <;> cases e <;> rfl
theorem gS_extr {n : Nat} {c : Bool} {v : Value} : gS P C ops c (extractE (selV c v) n) d rest t H K = gS P C ops c (extractE (v) n) d rest t H K := by cases c <;> rfl
theorem gS_extr' {n : Nat} {c e : Bool} {v : Value} : gS P C ops (c && e) (extractE (selV c v) n) d rest t H K = gS P C ops (c && e) (extractE (v) n) d rest t H K := by cases c <;> cases e <;> rfl
theorem gS_slc {a : TypeId} {H2 : AHeap} {x y z : Option Value} {c : Bool} {v : Value} : gS P C ops c (aslice P H2 a (selV c v) x y z) d rest t H K = gS P C ops c (aslice P H2 a (v) x y z) d rest t H K := by cases c <;> rfl
theorem gS_slc' {a : TypeId} {H2 : AHeap} {x y z : Option Value} {c e : Bool} {v : Value} : gS P C ops (c && e) (aslice P H2 a (selV c v) x y z) d rest t H K = gS P C ops (c && e) (aslice P H2 a (v) x y z) d rest t H K := by cases c <;> cases e <;> rfl
theorem gS_slclo {a : TypeId} {H2 : AHeap} {x : Value} {y z : Option Value} {c : Bool} {v : Value} : gS P C ops c (aslice P H2 a x (some (selV c v)) y z) d rest t H K = gS P C ops c (aslice P H2 a x (some (v)) y z) d rest t H K := by cases c <;> rfl
theorem gS_slclo' {a : TypeId} {H2 : AHeap} {x : Value} {y z : Option Value} {c e : Bool} {v : Value} : gS P C ops (c && e) (aslice P H2 a x (some (selV c v)) y z) d rest t H K = gS P C ops (c && e) (aslice P H2 a x (some (v)) y z) d rest t H K := by cases c <;> cases e <;> rfl
theorem gS_slchi {a : TypeId} {H2 : AHeap} {x : Value} {y z : Option Value} {c : Bool} {v : Value} : gS P C ops c (aslice P H2 a x y (some (selV c v)) z) d rest t H K = gS P C ops c (aslice P H2 a x y (some (v)) z) d rest t H K := by cases c <;> rfl
theorem gS_slchi' {a : TypeId} {H2 : AHeap} {x : Value} {y z : Option Value} {c e : Bool} {v : Value} : gS P C ops (c && e) (aslice P H2 a x y (some (selV c v)) z) d rest t H K = gS P C ops (c && e) (aslice P H2 a x y (some (v)) z) d rest t H K := by cases c <;> cases e <;> rfl
theorem gS_bi1 {b : Builtin} {ts : Array TypeId} {H2 : AHeap} {l : List Value} {c : Bool} {v : Value} : gS P C ops c ((abuiltin P b ts ((selV c v) :: l) H2).map Prod.fst) d rest t H K = gS P C ops c ((abuiltin P b ts ((v) :: l) H2).map Prod.fst) d rest t H K := by cases c <;> rfl
theorem gS_bi1' {b : Builtin} {ts : Array TypeId} {H2 : AHeap} {l : List Value} {c e : Bool} {v : Value} : gS P C ops (c && e) ((abuiltin P b ts ((selV c v) :: l) H2).map Prod.fst) d rest t H K = gS P C ops (c && e) ((abuiltin P b ts ((v) :: l) H2).map Prod.fst) d rest t H K := by cases c <;> cases e <;> rfl
theorem gS_bi2 {b : Builtin} {ts : Array TypeId} {H2 : AHeap} {x : Value} {l : List Value} {c : Bool} {v : Value} : gS P C ops c ((abuiltin P b ts (x :: (selV c v) :: l) H2).map Prod.fst) d rest t H K = gS P C ops c ((abuiltin P b ts (x :: (v) :: l) H2).map Prod.fst) d rest t H K := by cases c <;> rfl
theorem gS_bi2' {b : Builtin} {ts : Array TypeId} {H2 : AHeap} {x : Value} {l : List Value} {c e : Bool} {v : Value} : gS P C ops (c && e) ((abuiltin P b ts (x :: (selV c v) :: l) H2).map Prod.fst) d rest t H K = gS P C ops (c && e) ((abuiltin P b ts (x :: (v) :: l) H2).map Prod.fst) d rest t H K := by cases c <;> cases e <;> rfl
theorem gS_alen {dd : Option TypeDesc} {H2 : AHeap} {c : Bool} {v : Value} : gS P C ops c (((alenV P dd (selV c v)).map fun v => (v, H2)).map (·.1)) d rest t H K = gS P C ops c (((alenV P dd (v)).map fun v => (v, H2)).map (·.1)) d rest t H K := by cases c <;> rfl
theorem gS_alen' {dd : Option TypeDesc} {H2 : AHeap} {c e : Bool} {v : Value} : gS P C ops (c && e) (((alenV P dd (selV c v)).map fun v => (v, H2)).map (·.1)) d rest t H K = gS P C ops (c && e) (((alenV P dd (v)).map fun v => (v, H2)).map (·.1)) d rest t H K := by cases c <;> cases e <;> rfl
theorem gS_amin1 {H2 : AHeap} {y : Value} {c : Bool} {v : Value} : gS P C ops c (((amin2 (selV c v) y).map fun v => (v, H2)).map (·.1)) d rest t H K = gS P C ops c (((amin2 (v) y).map fun v => (v, H2)).map (·.1)) d rest t H K := by cases c <;> rfl
theorem gS_amin1' {H2 : AHeap} {y : Value} {c e : Bool} {v : Value} : gS P C ops (c && e) (((amin2 (selV c v) y).map fun v => (v, H2)).map (·.1)) d rest t H K = gS P C ops (c && e) (((amin2 (v) y).map fun v => (v, H2)).map (·.1)) d rest t H K := by cases c <;> cases e <;> rfl
theorem gS_amin2 {H2 : AHeap} {x : Value} {c : Bool} {v : Value} : gS P C ops c (((amin2 x (selV c v)).map fun v => (v, H2)).map (·.1)) d rest t H K = gS P C ops c (((amin2 x (v)).map fun v => (v, H2)).map (·.1)) d rest t H K := by cases c <;> rfl
theorem gS_amin2' {H2 : AHeap} {x : Value} {c e : Bool} {v : Value} : gS P C ops (c && e) (((amin2 x (selV c v)).map fun v => (v, H2)).map (·.1)) d rest t H K = gS P C ops (c && e) (((amin2 x (v)).map fun v => (v, H2)).map (·.1)) d rest t H K := by cases c <;> cases e <;> rfl
theorem gS_amax1 {H2 : AHeap} {y : Value} {c : Bool} {v : Value} : gS P C ops c (((amax2 (selV c v) y).map fun v => (v, H2)).map (·.1)) d rest t H K = gS P C ops c (((amax2 (v) y).map fun v => (v, H2)).map (·.1)) d rest t H K := by cases c <;> rfl
theorem gS_amax1' {H2 : AHeap} {y : Value} {c e : Bool} {v : Value} : gS P C ops (c && e) (((amax2 (selV c v) y).map fun v => (v, H2)).map (·.1)) d rest t H K = gS P C ops (c && e) (((amax2 (v) y).map fun v => (v, H2)).map (·.1)) d rest t H K := by cases c <;> cases e <;> rfl
theorem gS_amax2 {H2 : AHeap} {x : Value} {c : Bool} {v : Value} : gS P C ops c (((amax2 x (selV c v)).map fun v => (v, H2)).map (·.1)) d rest t H K = gS P C ops c (((amax2 x (v)).map fun v => (v, H2)).map (·.1)) d rest t H K := by cases c <;> rfl
theorem gS_amax2' {H2 : AHeap} {x : Value} {c e : Bool} {v : Value} : gS P C ops (c && e) (((amax2 x (selV c v)).map fun v => (v, H2)).map (·.1)) d rest t H K = gS P C ops (c && e) (((amax2 x (v)).map fun v => (v, H2)).map (·.1)) d rest t H K := by cases c <;> cases e <;> rfl
theorem gS_ab1 {op : BinOp} {a : TypeId} {y : Value} {c : Bool} {v : Value} : gS P C ops c (abin P op a (selV c v) y) d rest t H K = gS P C ops c (abin P op a (v) y) d rest t H K := by cases c <;> rfl
theorem gS_ab1' {op : BinOp} {a : TypeId} {y : Value} {c e : Bool} {v : Value} : gS P C ops (c && e) (abin P op a (selV c v) y) d rest t H K = gS P C ops (c && e) (abin P op a (v) y) d rest t H K := by cases c <;> cases e <;> rfl
theorem gS_ab2 {op : BinOp} {a : TypeId} {x : Value} {c : Bool} {v : Value} : gS P C ops c (abin P op a x (selV c v)) d rest t H K = gS P C ops c (abin P op a x (v)) d rest t H K := by cases c <;> rfl
theorem gS_ab2' {op : BinOp} {a : TypeId} {x : Value} {c e : Bool} {v : Value} : gS P C ops (c && e) (abin P op a x (selV c v)) d rest t H K = gS P C ops (c && e) (abin P op a x (v)) d rest t H K := by cases c <;> cases e <;> rfl
theorem gS_id {c : Bool} {v : Value} : gS P C ops c (some (selV c v)) d rest t H K = gS P C ops c (some v) d rest t H K := by cases c <;> rfl
theorem gS_id' {c e : Bool} {v : Value} : gS P C ops (c && e) (some (selV c v)) d rest t H K = gS P C ops (c && e) (some v) d rest t H K := by cases c <;> cases e <;> rfl
theorem gS_pk {c x y : Bool} : gS P C ops c (some (pk x (selV (c && x) (.bool y)) (.bool false))) d rest t H K = gS P C ops c (some (.bool (x && y))) d rest t H K := by cases c <;> cases x <;> rfl
theorem gS_pk2 {c x y : Bool} : gS P C ops c (some (pk x (.bool true) (selV (c && !x) (.bool y)))) d rest t H K = gS P C ops c (some (.bool (x || y))) d rest t H K := by cases c <;> cases x <;> rfl
variable {ty : TypeId} {pos : String} {af : Array Edge} {k : Nat}
theorem gOp {op : Op} {r : Option Value} (h : ∀ t H K, wpOps P C ops (⟨d, op, ty, pos, af, none⟩ :: rest) t H K = stepV P C ops r d rest t H K) : wpOps P C ops (⟨d, op, ty, pos, af, some (k, want)⟩ :: rest) t H K = gE P C ops (dstOf ops k) want r d rest t H K := by
  rw [w_guard, h]; rfl
theorem gOp' {op : Op} {r : Option Value} (h : wpOps P C ops (⟨d, op, ty, pos, af, none⟩ :: rest) t H K = stepV P C ops r d rest t H K) : wpOps P C ops (⟨d, op, ty, pos, af, some (k, want)⟩ :: rest) t H K = gE P C ops (dstOf ops k) want r d rest t H K := by
  rw [w_guard, h]; rfl
theorem g_move {x : Operand} : wpOps P C ops (⟨d, .move x, ty, pos, af, some (k, want)⟩ :: rest) t H K = gE P C ops (dstOf ops k) want (some (ev t x)) d rest t H K := gOp' w_move
theorem g_assign {x : Operand} : wpOps P C ops (⟨d, .assign x, ty, pos, af, some (k, want)⟩ :: rest) t H K = gE P C ops (dstOf ops k) want (some (ev t x)) d rest t H K := gOp' w_assign
theorem g_pick {c x y : Operand} : wpOps P C ops (⟨d, .pick c x y, ty, pos, af, some (k, want)⟩ :: rest) t H K = gE P C ops (dstOf ops k) want (pickE (ev t c) (ev t x) (ev t y)) d rest t H K := gOp' w_pick
theorem g_binOp {op : BinOp} {a b : TypeId} {x y : Operand} : wpOps P C ops (⟨d, .binOp op a x y b, ty, pos, af, some (k, want)⟩ :: rest) t H K = gE P C ops (dstOf ops k) want (abinN P op a (isC x || isC y) (ev t x) (ev t y)) d rest t H K := gOp' w_binOp
theorem g_unOp {op : UnOp} {a : TypeId} {x : Operand} : wpOps P C ops (⟨d, .unOp op a x, ty, pos, af, some (k, want)⟩ :: rest) t H K = gE P C ops (dstOf ops k) want (aun op (ev t x)) d rest t H K := gOp' w_unOp
theorem g_makeInterface {a : TypeId} {x : Operand} : wpOps P C ops (⟨d, .makeInterface a x, ty, pos, af, some (k, want)⟩ :: rest) t H K = gE P C ops (dstOf ops k) want (ifaceE P a (ev t x)) d rest t H K := gOp' w_makeInterface
theorem g_slice {a : TypeId} {x : Operand} {lo hi mx : Option Operand} : wpOps P C ops (⟨d, .slice a x lo hi mx, ty, pos, af, some (k, want)⟩ :: rest) t H K = gE P C ops (dstOf ops k) want (aslice P H a (ev t x) (lo.map (ev t)) (hi.map (ev t)) (mx.map (ev t))) d rest t H K := gOp' w_slice
theorem g_nilCheck {x : Operand} : wpOps P C ops (⟨d, .nilCheck x, ty, pos, af, some (k, want)⟩ :: rest) t H K = gE P C ops (dstOf ops k) want (nilE (ev t x)) d rest t H K := gOp' w_nilCheck
theorem g_fieldAddr {a : TypeId} {x : Operand} {f : Nat} : wpOps P C ops (⟨d, .fieldAddr a x f, ty, pos, af, some (k, want)⟩ :: rest) t H K = gE P C ops (dstOf ops k) want (fieldE (tfield P a f) (ev t x)) d rest t H K := gOp' w_fieldAddr
theorem g_field {a : TypeId} {x : Operand} {f : Nat} : wpOps P C ops (⟨d, .field a x f, ty, pos, af, some (k, want)⟩ :: rest) t H K = gE P C ops (dstOf ops k) want (afieldV P a (ev t x) f) d rest t H K := gOp' w_field
theorem g_indexAddr {a : TypeId} {x y : Operand} : wpOps P C ops (⟨d, .indexAddr a x y, ty, pos, af, some (k, want)⟩ :: rest) t H K = gE P C ops (dstOf ops k) want (aindexAddr P a (ev t x) (ev t y)) d rest t H K := gOp' w_indexAddr
theorem g_index {a : TypeId} {x y : Operand} : wpOps P C ops (⟨d, .index a x y, ty, pos, af, some (k, want)⟩ :: rest) t H K = gE P C ops (dstOf ops k) want (aindex P a (ev t x) (ev t y)) d rest t H K := gOp' w_index
theorem g_extract {x : Operand} {i : Nat} : wpOps P C ops (⟨d, .extract x i, ty, pos, af, some (k, want)⟩ :: rest) t H K = gE P C ops (dstOf ops k) want (extractE (ev t x) i) d rest t H K := gOp' w_extract
theorem g_build {a : TypeId} {parts : Array (Nat × Operand)} : wpOps P C ops (⟨d, .build a parts, ty, pos, af, some (k, want)⟩ :: rest) t H K = gE P C ops (dstOf ops k) want (abuild P a (parts.toList.map fun p => (p.1, ev t p.2))) d rest t H K := gOp' w_build
theorem g_load {a : TypeId} {x : Operand} : wpOps P C ops (⟨d, .load a x, ty, pos, af, some (k, want)⟩ :: rest) t H K = gE P C ops (dstOf ops k) want (loadE P H a (ev t x)) d rest t H K := gOp' w_load
theorem g_convert {a b : TypeId} {x : Operand} : wpOps P C ops (⟨d, .convert a b x, ty, pos, af, some (k, want)⟩ :: rest) t H K = guardE (dstOf ops k) t want (wpOps P C ops (⟨d, .convert a b x, ty, pos, af, none⟩ :: rest) t H K) (wpOps P C ops rest (putD t d undef) H K) := w_guard
theorem g_len {args : Array Operand} {ats : Array TypeId} : wpOps P C ops (⟨d, .call ⟨.builtin .len, args, ats⟩, ty, pos, af, some (k, want)⟩ :: rest) t H K = gE P C ops (dstOf ops k) want ((abuiltin P .len ats (args.toList.map (ev t)) H).map (·.1)) d rest t H K := by
  refine gOp' ?_
  rw [w_builtin]
  obtain ⟨r, hr, _⟩ := quiet_form (P := P) (o := .call ⟨.builtin .len, args, ats⟩) (t := t) rfl
  rw [show abuiltin P .len ats (args.toList.map (ev t)) H = (r H).map fun v => (v, H) from hr H]
  cases r H <;> rfl
theorem g_min {args : Array Operand} {ats : Array TypeId} : wpOps P C ops (⟨d, .call ⟨.builtin .min, args, ats⟩, ty, pos, af, some (k, want)⟩ :: rest) t H K = gE P C ops (dstOf ops k) want ((abuiltin P .min ats (args.toList.map (ev t)) H).map (·.1)) d rest t H K := by
  refine gOp' ?_
  rw [w_builtin]
  obtain ⟨r, hr, _⟩ := quiet_form (P := P) (o := .call ⟨.builtin .min, args, ats⟩) (t := t) rfl
  rw [show abuiltin P .min ats (args.toList.map (ev t)) H = (r H).map fun v => (v, H) from hr H]
  cases r H <;> rfl
theorem g_max {args : Array Operand} {ats : Array TypeId} : wpOps P C ops (⟨d, .call ⟨.builtin .max, args, ats⟩, ty, pos, af, some (k, want)⟩ :: rest) t H K = gE P C ops (dstOf ops k) want ((abuiltin P .max ats (args.toList.map (ev t)) H).map (·.1)) d rest t H K := by
  refine gOp' ?_
  rw [w_builtin]
  obtain ⟨r, hr, _⟩ := quiet_form (P := P) (o := .call ⟨.builtin .max, args, ats⟩) (t := t) rfl
  rw [show abuiltin P .max ats (args.toList.map (ev t)) H = (r H).map fun v => (v, H) from hr H]
  cases r H <;> rfl
theorem map_fst {v : Value} : (some (v, H)).map Prod.fst = some v := rfl

/- calls -/
def gK (P : Program) (C : Calling) (ops : List Oper) (d : Option Tmp) (rest : List Oper) (t : Env) (K : Env → AHeap → Prop) : Value → AHeap → Prop := fun v H' => wpOps P C ops rest (putD t d v) H' K
/-- A call under a test: its function and arguments; the test. -/
def gSc (P : Program) (C : Calling) (ops : List Oper) (c : Bool) (f : Value) (args : List Value) (d : Option Tmp) (rest : List Oper) (t : Env) (H : AHeap) (K : Env → AHeap → Prop) : Prop :=
  match c with
  | true => callV C f args H (goOn P C ops d rest t K)
  | false => wpOps P C ops rest (putD t d undef) H K
def gBc (P : Program) (C : Calling) (ops : List Oper) (v : Value) (want : Bool) (f : Value) (args : List Value) (d : Option Tmp) (rest : List Oper) (t : Env) (H : AHeap) (K : Env → AHeap → Prop) : Prop :=
  guardB v want (callV C f args H (goOn P C ops d rest t K)) (wpOps P C ops rest (putD t d undef) H K)
def gEc (P : Program) (C : Calling) (ops : List Oper) (j : Option Tmp) (want : Bool) (f : Value) (args : List Value) (d : Option Tmp) (rest : List Oper) (t : Env) (H : AHeap) (K : Env → AHeap → Prop) : Prop :=
  guardE j t want (callV C f args H (goOn P C ops d rest t K)) (wpOps P C ops rest (putD t d undef) H K)
def gSd (c : Bool) (A B : Prop) : Prop :=
  match c with
  | true => A
  | false => B
variable {f : Value} {args : List Value}
theorem gEc_congr {j' : Option Tmp} (h : j = j') : gEc P C ops j want f args d rest t H K = gEc P C ops j' want f args d rest t H K := by rw [h]
theorem gEc_some {i : Nat} : gEc P C ops (some i) want f args d rest t H K = gBc P C ops (t i) want f args d rest t H K := rfl
theorem gBc_congr {v v' : Value} (h : v = v') : gBc P C ops v want f args d rest t H K = gBc P C ops v' want f args d rest t H K := by rw [h]
theorem gBc_t {x : Bool} : gBc P C ops (.bool x) true f args d rest t H K = gSc P C ops x f args d rest t H K := by cases x <;> rfl
theorem gBc_f {x : Bool} : gBc P C ops (.bool x) false f args d rest t H K = gSc P C ops (!x) f args d rest t H K := by cases x <;> rfl
theorem gBc_undef : gBc P C ops undef want f args d rest t H K = wpOps P C ops rest (putD t d undef) H K := rfl
theorem gBc_st {g x : Bool} : gBc P C ops (selV g (.bool x)) true f args d rest t H K = gSc P C ops (g && x) f args d rest t H K := by cases g <;> cases x <;> rfl
theorem gBc_sf {g x : Bool} : gBc P C ops (selV g (.bool x)) false f args d rest t H K = gSc P C ops (g && !x) f args d rest t H K := by cases g <;> cases x <;> rfl
theorem gSc_congr {c c' : Bool} (h : c = c') : gSc P C ops c f args d rest t H K = gSc P C ops c' f args d rest t H K := by rw [h]
theorem gSc_tt : gSc P C ops true f args d rest t H K = callV C f args H (goOn P C ops d rest t K) := rfl
theorem gSc_ff : gSc P C ops false f args d rest t H K = wpOps P C ops rest (putD t d undef) H K := rfl
/-- The arguments without the test. -/
def gSl (P : Program) (C : Calling) (ops : List Oper) (c : Bool) (f : Value) (acc args : List Value) (d : Option Tmp) (rest : List Oper) (t : Env) (H : AHeap) (K : Env → AHeap → Prop) : Prop :=
  gSd c (callV C f (acc ++ args) H (gK P C ops d rest t K)) (wpOps P C ops rest (putD t d undef) H K)
theorem gSl_congr {c : Bool} {acc acc' args' : List Value} (h : args = args') (h2 : acc = acc') : gSl P C ops c f acc args d rest t H K = gSl P C ops c f acc' args' d rest t H K := by rw [h, h2]
theorem gSc_open {c : Bool} : gSc P C ops c f args d rest t H K = gSl P C ops c f [] args d rest t H K := by cases c <;> rfl
theorem gSl_nil {c : Bool} {acc : List Value} : gSl P C ops c f acc [] d rest t H K = gSd c (callV C f acc H (gK P C ops d rest t K)) (wpOps P C ops rest (putD t d undef) H K) := by unfold gSl; rw [List.append_nil]
theorem gSl_step {c : Bool} {v : Value} {acc l : List Value} : gSl P C ops c f acc (v :: l) d rest t H K = gSl P C ops c f (acc ++ [v]) l d rest t H K := by unfold gSl; rw [List.append_assoc]; rfl
theorem gSl_sel {c : Bool} {v : Value} {acc l : List Value} : gSl P C ops c f acc (selV c v :: l) d rest t H K = gSl P C ops c f (acc ++ [v]) l d rest t H K := by cases c <;> simp [gSl, gSd, selV]
theorem gSl_sel' {c e : Bool} {v : Value} {acc l : List Value} : gSl P C ops (c && e) f acc (selV c v :: l) d rest t H K = gSl P C ops (c && e) f (acc ++ [v]) l d rest t H K := by cases c <;> cases e <;> simp [gSl, gSd, selV]
theorem gSd_congr {c : Bool} {A A' B : Prop} (h : A = A') : gSd c A B = gSd c A' B := by rw [h]
theorem gSd_some {c : Bool} {v : Value} {i : Nat} : gSd c (gK P C ops (some i) rest t K v H) (wpOps P C ops rest (putD t (some i) undef) H K) = wpOps P C ops rest (upd t i (selV c v)) H K := by cases c <;> rfl
theorem gSd_split {c : Bool} {A B : Prop} (h1 : c = true → A) (h2 : c = false → B) : gSd c A B := by
  cases c
  · exact h2 rfl
  · exact h1 rfl
theorem gK_some {v : Value} {i : Nat} : gK P C ops (some i) rest t K v H = wpOps P C ops rest (upd t i v) H K := rfl
theorem gK_none {v : Value} : gK P C ops none rest t K v H = wpOps P C ops rest t H K := rfl
theorem g_call {fo : Operand} {as : Array Operand} {ats : Array TypeId} : wpOps P C ops (⟨d, .call ⟨.value fo, as, ats⟩, ty, pos, af, some (k, want)⟩ :: rest) t H K = gEc P C ops (dstOf ops k) want (ev t fo) (as.toList.map (ev t)) d rest t H K := by
  rw [w_guard, w_call]; rfl
theorem g_append {as : Array Operand} {ats : Array TypeId} : wpOps P C ops (⟨d, .call ⟨.builtin .append, as, ats⟩, ty, pos, af, some (k, want)⟩ :: rest) t H K = guardE (dstOf ops k) t want (wpOps P C ops (⟨d, .call ⟨.builtin .append, as, ats⟩, ty, pos, af, none⟩ :: rest) t H K) (wpOps P C ops rest (putD t d undef) H K) := w_guard
theorem g_store {a : TypeId} {x y : Operand} : wpOps P C ops (⟨d, .store a x y, ty, pos, af, some (k, want)⟩ :: rest) t H K = guardE (dstOf ops k) t want (wpOps P C ops (⟨d, .store a x y, ty, pos, af, none⟩ :: rest) t H K) (wpOps P C ops rest (putD t d undef) H K) := w_guard
theorem g_alloc {e : TypeId} : wpOps P C ops (⟨d, .alloc e, ty, pos, af, some (k, want)⟩ :: rest) t H K = guardE (dstOf ops k) t want (wpOps P C ops (⟨d, .alloc e, ty, pos, af, none⟩ :: rest) t H K) (wpOps P C ops rest (putD t d undef) H K) := w_guard
theorem g_box {e : TypeId} {x : Operand} : wpOps P C ops (⟨d, .box e x, ty, pos, af, some (k, want)⟩ :: rest) t H K = guardE (dstOf ops k) t want (wpOps P C ops (⟨d, .box e x, ty, pos, af, none⟩ :: rest) t H K) (wpOps P C ops rest (putD t d undef) H K) := w_guard
theorem g_buildSlice {a : TypeId} {n : Nat} {parts : Array (Nat × Operand)} : wpOps P C ops (⟨d, .buildSlice a n parts, ty, pos, af, some (k, want)⟩ :: rest) t H K = guardE (dstOf ops k) t want (wpOps P C ops (⟨d, .buildSlice a n parts, ty, pos, af, none⟩ :: rest) t H K) (wpOps P C ops rest (putD t d undef) H K) := w_guard
theorem g_makeFunc {fn : Fn} {xs ys : Array Operand} : wpOps P C ops (⟨d, .makeFunc fn xs ys, ty, pos, af, some (k, want)⟩ :: rest) t H K = guardE (dstOf ops k) t want (wpOps P C ops (⟨d, .makeFunc fn xs ys, ty, pos, af, none⟩ :: rest) t H K) (wpOps P C ops rest (putD t d undef) H K) := w_guard
theorem q_slice {a : TypeId} {x : Operand} {lo hi mx : Option Operand} : aop P (.slice a x lo hi mx) t H = (aslice P H a (ev t x) (lo.map (ev t)) (hi.map (ev t)) (mx.map (ev t))).map fun v => (v, H) := rfl
attribute [go_sem] q_load q_slice eq_self true_implies false_implies Bool.false_eq_true true_and and_true
attribute [go_sem ↓] g_move g_assign g_pick g_binOp g_unOp g_makeInterface g_slice g_nilCheck g_fieldAddr g_field g_indexAddr g_index g_extract g_build g_load g_convert g_len g_min g_max g_call g_append g_store g_alloc g_box g_buildSlice g_makeFunc
attribute [go_sem] selV_tt selV_ff pickE_pk pk_tt pk_ff pk_and pk_or pk_and' pk_or' pk_orn pk_or2 gE_some gB_t gB_f gB_undef gB_st gB_sf gS_tt gS_ff gS_some map_fst gEc_some gBc_t gBc_f gBc_undef gBc_st gBc_sf gSc_tt gSc_ff gSd_some Bool.not_true Bool.not_false Bool.not_not Bool.and_false Bool.false_and
attribute [go_sem] gS_ab1 gS_ab1' gS_ab2 gS_ab2' gS_alen gS_alen' gS_amin1 gS_amin1' gS_amin2 gS_amin2' gS_amax1 gS_amax1' gS_amax2 gS_amax2' gS_load gS_load' gS_bin1 gS_bin1' gS_bin2 gS_bin2' gS_un gS_un' gS_field gS_field' gS_faddr gS_faddr' gS_nil gS_nil' gS_iaddr1 gS_iaddr1' gS_iaddr2 gS_iaddr2' gS_idx1 gS_idx1' gS_idx2 gS_idx2' gS_pick1 gS_pick1' gS_iface gS_iface' gS_extr gS_extr' gS_slc gS_slc' gS_slclo gS_slclo' gS_slchi gS_slchi' gS_bi1 gS_bi1' gS_bi2 gS_bi2' gS_id gS_id' gS_pk gS_pk2 gSl_nil gSl_sel gSl_sel'
attribute [go_sem low] gSc_open gSl_step
attribute [congr] selV_congr gE_congr gB_congr gS_congr gEc_congr gBc_congr gSc_congr gSd_congr gSl_congr
end Go.LH
