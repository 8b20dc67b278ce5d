/-
  The logical heap: a run that is worked out, and why a call comes back with what it finds.
-/
import Derived.Test.YtmjlmlipnejbfaaGreatDoorLH17
import Derived.Test.YtmjlmlipnejbfaaGreatDoorLH18
set_option linter.all false
namespace Go.LH
variable {P : Program}

/-- Values that are surely the same. -/
def veq1 : Value → Value → Bool
  | .bool a, .bool b => a == b
  | .int k a, .int k' b => k == k' && a == b
  | .string ⟨⟨a⟩⟩, .string ⟨⟨b⟩⟩ => a == b
  | .pointer none, .pointer none => true
  | .pointer (some ⟨i, o, none⟩), .pointer (some ⟨j, q, none⟩) => i == j && o == q
  | .slice none n c, .slice none m d => n == m && c == d
  | .slice (some ⟨i, o, none⟩) n c, .slice (some ⟨j, q, none⟩) m d => i == j && o == q && n == m && c == d
  | .nilFunc, .nilFunc => true
  | .nilIface, .nilIface => true
  | .func (.func f) ⟨[]⟩ ⟨[]⟩, .func (.func g) ⟨[]⟩ ⟨[]⟩ => f == g
  | _, _ => false
def veqL : List Value → List Value → Bool
  | [], [] => true
  | x :: xs, y :: ys => veq1 x y && veqL xs ys
  | _, _ => false
def veq : Value → Value → Bool
  | .agg ⟨xs⟩, .agg ⟨ys⟩ => veqL xs ys
  | x, y => veq1 x y
theorem veq1_eq {x y : Value} (h : veq1 x y = true) : x = y := by
  unfold veq1 at h
  split at h <;> simp_all
theorem veqL_eq : ∀ {x y : List Value}, veqL x y = true → x = y
  | [], [], _ => rfl
  | [], _ :: _, h => by simp [veqL] at h
  | _ :: _, [], h => by simp [veqL] at h
  | x :: xs, y :: ys, h => by
    simp only [veqL, Bool.and_eq_true] at h
    rw [veq1_eq h.1, veqL_eq h.2]
theorem veq_eq {x y : Value} (h : veq x y = true) : x = y := by
  unfold veq at h
  split at h
  · rw [veqL_eq h]
  · exact veq1_eq h

def owedX (P : Program) (cs : List Nat) (H' : AHeap) : List Pledge → Bool
  | [] => true
  | p :: pl => (match cs.contains p.i with
    | true => match aop P p.op p.t H' with
      | some (v, _) => veq v p.v
      | none => false
    | false => true) && owedX P cs H' pl
theorem owedX_ok {cs : List Nat} {H' : AHeap} : ∀ {pl : List Pledge}, (∀ p ∈ pl, quietB p.op = true) → owedX P cs H' pl = true → owedL P cs H' pl
  | [], _, _ => trivial
  | p :: pl, hq, h => by
    simp only [owedX, Bool.and_eq_true] at h
    refine ⟨fun hc => ?_, owedX_ok (fun q hm => hq q (by simp [hm])) h.2⟩
    have h1 := h.1
    rw [hc] at h1
    simp only at h1
    split at h1
    · rename_i v H2 e
      rw [e, quiet_heap (hq p (by simp)) e, veq_eq h1]
    · cases h1

/-- The order in which an open statement is carried out. -/
def bigB (P : Program) (o : Op) : Bool :=
  match o with
  | .convert s d _ => match P.underlying s, P.underlying d with
    | some (.slice _), _ => true
    | _, some (.slice _) => true
    | _, _ => false
  | _ => false
abbrev XRes := Option (Value × TrO × Nat)
abbrev XCall := FuncId → List Value → TrO → Nat → XRes

/- the same operations, each by a name of its own: so little is carried along where the kernel works it out -/
def fPick (c x y : Value) (H : AHeap) : Option (Value × AHeap) := match c with
  | .bool b' => some (match b' with
    | true => x
    | false => y, H)
  | _ => none
def fAlloc (P : Program) (e : TypeId) (H : AHeap) : Option (Value × AHeap) := match tzero P e with
  | some z => match oneCells z with
    | true => some (ptrTo H.next, H.add (.cells z (tesz P e) true))
    | false => none
  | none => none
def fBox (P : Program) (e : TypeId) (v : Value) (H : AHeap) : Option (Value × AHeap) := match oneCells v.cells.toList with
  | true => some (ptrTo H.next, H.add (.cells v.cells.toList (tesz P e) true))
  | false => none
def fV (r : Option Value) (H : AHeap) : Option (Value × AHeap) := match r with
  | some v => some (v, H)
  | none => none
def fLoad (P : Program) (ty : TypeId) (v : Value) (H : AHeap) : Option (Value × AHeap) := match v with
  | .pointer (some ⟨i, o, none⟩) => fV (H.load P ty i o) H
  | _ => none
def fStore (P : Program) (ty : TypeId) (p v : Value) (H : AHeap) : Option (Value × AHeap) := match p with
  | .pointer (some ⟨i, o, none⟩) => match H.store P ty i o v with
    | some H' => some (undef, H')
    | none => none
  | _ => none
def fNil (v : Value) (H : AHeap) : Option (Value × AHeap) := match v with
  | .pointer (some a) => some (.pointer (some a), H)
  | .iface ty v => some (.iface ty v, H)
  | .func (.func f) xs ys => some (.func (.func f) xs ys, H)
  | _ => none
def fIface (P : Program) (ty : TypeId) (v : Value) (H : AHeap) : Option (Value × AHeap) := match P.underlying ty with
  | some (.interface _) => none
  | some _ => some (.iface ty v, H)
  | none => none
def fFieldAddr (P : Program) (s : TypeId) (v : Value) (f : Nat) (H : AHeap) : Option (Value × AHeap) := match v, tfield P s f with
  | .pointer (some ⟨i, o, none⟩), some (_, off) => some (.pointer (some ⟨i, o + off, none⟩), H)
  | _, _ => none
def fExtract (v : Value) (i : Nat) (H : AHeap) : Option (Value × AHeap) := match v with
  | .tuple ⟨vs⟩ => fV (vs[i]?) H
  | _ => none
def fBuiltin (P : Program) (c : Call) (t : Env) (H : AHeap) : Option (Value × AHeap) := match c.callee with
  | .builtin b => abuiltin P b c.argTypes (c.args.toList.map (ev t)) H
  | _ => none
def aopF (P : Program) (o : Op) (t : Env) (H : AHeap) : Option (Value × AHeap) :=
  match o with
  | .move x => some (ev t x, H)
  | .assign x => some (ev t x, H)
  | .pick c a b => fPick (ev t c) (ev t a) (ev t b) H
  | .alloc e => fAlloc P e H
  | .box e x => fBox P e (ev t x) H
  | .build ty parts => fV (abuild P ty (parts.toList.map fun p => (p.1, ev t p.2))) H
  | .buildSlice ty n parts => abuildSlice P H ty n (parts.toList.map fun p => (p.1, ev t p.2))
  | .load ty a => fLoad P ty (ev t a) H
  | .store ty a x => fStore P ty (ev t a) (ev t x) H
  | .nilCheck x => fNil (ev t x) H
  | .binOp op ty x y _ => fV (abinN P op ty (isC x || isC y) (ev t x) (ev t y)) H
  | .unOp op _ x => fV (aun op (ev t x)) H
  | .convert s d x => fV (aconv P s d (ev t x)) H
  | .makeInterface ty x => fIface P ty (ev t x) H
  | .makeFunc fn xs ys => some (.func fn (xs.toList.map (ev t)).toArray (ys.toList.map (ev t)).toArray, H)
  | .makeSlice ty l c => amakeSlice P H ty (ev t l) (ev t c)
  | .slice ty x lo hi mx => fV (aslice P H ty (ev t x) (lo.map (ev t)) (hi.map (ev t)) (mx.map (ev t))) H
  | .fieldAddr s x f => fFieldAddr P s (ev t x) f H
  | .field ty x f => fV (afieldV P ty (ev t x) f) H
  | .indexAddr ty x ix => fV (aindexAddr P ty (ev t x) (ev t ix)) H
  | .index ty x ix => fV (aindex P ty (ev t x) (ev t ix)) H
  | .extract x i => fExtract (ev t x) i H
  | .call c => fBuiltin P c t H
  | _ => none
theorem fV_eq (r : Option Value) (H : AHeap) : fV r H = r.map fun v => (v, H) := by cases r <;> rfl
theorem aopF_eq (o : Op) (t : Env) (H : AHeap) : aopF P o t H = aop P o t H := by
  cases o with
  | pick c a b =>
    simp only [aopF, aop, fPick]
    cases ev t c with
    | bool b => cases b <;> rfl
    | _ => rfl
  | alloc e =>
    simp only [aopF, aop, fAlloc]
    cases tzero P e with
    | none => rfl
    | some z => simp only []; cases oneCells z <;> rfl
  | box e x => simp only [aopF, aop, fBox]; cases oneCells (ev t x).cells.toList <;> rfl
  | load ty a =>
    simp only [aopF, aop, fLoad, fV_eq]
    generalize ev t a = v
    cases v with
    | pointer a => cases a with
      | none => rfl
      | some a => obtain ⟨i, o, s⟩ := a; cases s <;> rfl
    | _ => rfl
  | store ty a x =>
    simp only [aopF, aop, fStore]
    generalize ev t a = v
    cases v with
    | pointer a => cases a with
      | none => rfl
      | some a =>
        obtain ⟨i, o, s⟩ := a
        cases s with
        | none => simp only []; cases AHeap.store P H ty i o (ev t x) <;> rfl
        | some _ => rfl
    | _ => rfl
  | nilCheck x => rfl
  | makeInterface ty x => rfl
  | fieldAddr s x f => rfl
  | extract x i =>
    simp only [aopF, aop, fExtract, fV_eq]
    generalize ev t x = v
    cases v <;> rfl
  | call c => rfl
  | build ty parts => simp only [aopF, aop, fV_eq]
  | binOp op ty x y z => simp only [aopF, aop, fV_eq]
  | unOp op ty x => simp only [aopF, aop, fV_eq]
  | convert s d x => simp only [aopF, aop, fV_eq]
  | slice ty x lo hi mx => simp only [aopF, aop, fV_eq]
  | field ty x f => simp only [aopF, aop, fV_eq]
  | indexAddr ty x ix => simp only [aopF, aop, fV_eq]
  | index ty x ix => simp only [aopF, aop, fV_eq]
  | _ => rfl
def makesS : Op → Bool
  | .slice _ _ _ _ _ => true
  | .binOp _ _ _ _ _ => true
  | .convert _ _ _ => true
  | _ => false
def frcR {α : Type} (o : Op) (v : Value) (k : Value → α) : α := match makesS o with
  | true => frcW v k
  | false => frcV v k
theorem frcR_eq {α : Type} (o : Op) (v : Value) (k : Value → α) : frcR o v k = k v := by
  unfold frcR
  split <;> simp [frcW_eq, frcV_eq]
def callOf : Op → Option Call
  | .call c => some c
  | _ => none
/- tables: what is done for each operation, found by the recursor alone -/
abbrev TOp := Program → Env → AHeap → Option (Value × AHeap)
def t_none : TOp := fun _ _ _ => none
def t_move (x : Operand) : TOp := fun P t H => some (ev t x, H)
def t_assign (x : Operand) : TOp := fun P t H => some (ev t x, H)
def t_pick (c x y : Operand) : TOp := fun P t H => fPick (ev t c) (ev t x) (ev t y) H
def t_alloc (e : TypeId) : TOp := fun P t H => fAlloc P e H
def t_box (e : TypeId) (x : Operand) : TOp := fun P t H => fBox P e (ev t x) H
def t_build (ty : TypeId) (parts : Array (Nat × Operand)) : TOp := fun P t H => fV (abuild P ty (parts.toList.map fun p => (p.1, ev t p.2))) H
def t_buildSlice (ty : TypeId) (n : Nat) (parts : Array (Nat × Operand)) : TOp := fun P t H => abuildSlice P H ty n (parts.toList.map fun p => (p.1, ev t p.2))
def t_load (ty : TypeId) (x : Operand) : TOp := fun P t H => fLoad P ty (ev t x) H
def t_store (ty : TypeId) (x y : Operand) : TOp := fun P t H => fStore P ty (ev t x) (ev t y) H
def t_nilCheck (x : Operand) : TOp := fun P t H => fNil (ev t x) H
def t_binOp (op : BinOp) (ty : TypeId) (x y : Operand) (tz : TypeId) : TOp := fun P t H => fV (abinN P op ty (isC x || isC y) (ev t x) (ev t y)) H
def t_unOp (op : UnOp) (ty : TypeId) (x : Operand) : TOp := fun P t H => fV (aun op (ev t x)) H
def t_convert (s d : TypeId) (x : Operand) : TOp := fun P t H => fV (aconv P s d (ev t x)) H
def t_makeInterface (ty : TypeId) (x : Operand) : TOp := fun P t H => fIface P ty (ev t x) H
def t_makeFunc (fn : Fn) (xs ys : Array Operand) : TOp := fun P t H => some (.func fn (xs.toList.map (ev t)).toArray (ys.toList.map (ev t)).toArray, H)
def t_makeSlice (ty : TypeId) (x y : Operand) : TOp := fun P t H => amakeSlice P H ty (ev t x) (ev t y)
def t_slice (ty : TypeId) (x : Operand) (lo hi mx : Option Operand) : TOp := fun P t H => fV (aslice P H ty (ev t x) (lo.map (ev t)) (hi.map (ev t)) (mx.map (ev t))) H
def t_fieldAddr (s : TypeId) (x : Operand) (f : Nat) : TOp := fun P t H => fFieldAddr P s (ev t x) f H
def t_field (ty : TypeId) (x : Operand) (f : Nat) : TOp := fun P t H => fV (afieldV P ty (ev t x) f) H
def t_indexAddr (ty : TypeId) (x ix : Operand) : TOp := fun P t H => fV (aindexAddr P ty (ev t x) (ev t ix)) H
def t_index (ty : TypeId) (x ix : Operand) : TOp := fun P t H => fV (aindex P ty (ev t x) (ev t ix)) H
def t_extract (x : Operand) (i : Nat) : TOp := fun P t H => fExtract (ev t x) i H
def t_call (c : Call) : TOp := fun P t H => fBuiltin P c t H
noncomputable def aopR (o : Op) : TOp := Op.rec (motive := fun _ => TOp) t_move t_assign t_pick t_alloc t_box t_build t_buildSlice (fun _ _ _ _ => t_none) t_load t_store (fun _ => t_none) (fun _ => t_none) t_nilCheck t_binOp t_unOp t_convert (fun _ _ => t_none) t_makeInterface t_makeFunc (fun _ _ => t_none) (fun _ _ => t_none) t_makeSlice t_slice t_fieldAddr t_field t_indexAddr t_index (fun _ _ _ _ => t_none) (fun _ _ _ _ => t_none) (fun _ _ _ => t_none) (fun _ _ _ _ => t_none) (fun _ _ => t_none) (fun _ _ => t_none) (fun _ => t_none) (fun _ _ _ _ => t_none) t_extract t_call (fun _ => t_none) (fun _ => t_none) (fun _ => t_none) (fun _ _ => t_none) (fun _ _ _ => t_none) (fun _ _ => t_none) o
theorem aopR_eq (o : Op) (t : Env) (H : AHeap) : aopR o P t H = aopF P o t H := by cases o <;> rfl
noncomputable def quietR (o : Op) : Bool := Op.rec (motive := fun _ => Bool) (fun _ => true) (fun _ => true) (fun _ _ _ => true) (fun _ => false) (fun _ _ => false) (fun _ _ => true) (fun _ _ _ => false) (fun _ _ _ _ => false) (fun _ _ => true) (fun _ _ _ => false) (fun _ => false) (fun _ => false) (fun _ => true) (fun _ _ _ _ _ => true) (fun _ _ _ => true) (fun _ _ _ => true) (fun _ _ => false) (fun _ _ => true) (fun _ _ _ => true) (fun _ _ => false) (fun _ _ => false) (fun _ _ _ => false) (fun _ _ _ _ _ => true) (fun _ _ _ => true) (fun _ _ _ => true) (fun _ _ _ => true) (fun _ _ _ => true) (fun _ _ _ _ => false) (fun _ _ _ _ => false) (fun _ _ _ => false) (fun _ _ _ _ => false) (fun _ _ => false) (fun _ _ => false) (fun _ => false) (fun _ _ _ _ => false) (fun _ _ => true) (fun c => quietB (.call c)) (fun _ => false) (fun _ => false) (fun _ => false) (fun _ _ => false) (fun _ _ _ => false) (fun _ _ => false) o
theorem quietR_eq (o : Op) : quietR o = quietB o := by cases o <;> rfl
noncomputable def readsR (o : Op) : Bool := Op.rec (motive := fun _ => Bool) (fun _ => false) (fun _ => false) (fun _ _ _ => false) (fun _ => false) (fun _ _ => false) (fun _ _ => false) (fun _ _ _ => false) (fun _ _ _ _ => false) (fun _ _ => true) (fun _ _ _ => false) (fun _ => false) (fun _ => false) (fun _ => false) (fun _ _ _ _ _ => false) (fun _ _ _ => false) (fun _ _ _ => false) (fun _ _ => false) (fun _ _ => false) (fun _ _ _ => false) (fun _ _ => false) (fun _ _ => false) (fun _ _ _ => false) (fun _ _ _ _ _ => true) (fun _ _ _ => false) (fun _ _ _ => false) (fun _ _ _ => false) (fun _ _ _ => false) (fun _ _ _ _ => false) (fun _ _ _ _ => false) (fun _ _ _ => false) (fun _ _ _ _ => false) (fun _ _ => false) (fun _ _ => false) (fun _ => false) (fun _ _ _ _ => false) (fun _ _ => false) (fun _ => false) (fun _ => false) (fun _ => false) (fun _ => false) (fun _ _ => false) (fun _ _ _ => false) (fun _ _ => false) o
theorem readsR_eq (o : Op) : readsR o = readsB o := by cases o <;> rfl
noncomputable def makesR (o : Op) : Bool := Op.rec (motive := fun _ => Bool) (fun _ => false) (fun _ => false) (fun _ _ _ => false) (fun _ => false) (fun _ _ => false) (fun _ _ => false) (fun _ _ _ => false) (fun _ _ _ _ => false) (fun _ _ => false) (fun _ _ _ => false) (fun _ => false) (fun _ => false) (fun _ => false) (fun _ _ _ _ _ => true) (fun _ _ _ => false) (fun _ _ _ => true) (fun _ _ => false) (fun _ _ => false) (fun _ _ _ => false) (fun _ _ => false) (fun _ _ => false) (fun _ _ _ => false) (fun _ _ _ _ _ => true) (fun _ _ _ => false) (fun _ _ _ => false) (fun _ _ _ => false) (fun _ _ _ => false) (fun _ _ _ _ => false) (fun _ _ _ _ => false) (fun _ _ _ => false) (fun _ _ _ _ => false) (fun _ _ => false) (fun _ _ => false) (fun _ => false) (fun _ _ _ _ => false) (fun _ _ => false) (fun _ => false) (fun _ => false) (fun _ => false) (fun _ => false) (fun _ _ => false) (fun _ _ _ => false) (fun _ _ => false) o
theorem makesR_eq (o : Op) : makesR o = makesS o := by cases o <;> rfl
noncomputable def callR (o : Op) : Option Call := Op.rec (motive := fun _ => Option Call) (fun _ => none) (fun _ => none) (fun _ _ _ => none) (fun _ => none) (fun _ _ => none) (fun _ _ => none) (fun _ _ _ => none) (fun _ _ _ _ => none) (fun _ _ => none) (fun _ _ _ => none) (fun _ => none) (fun _ => none) (fun _ => none) (fun _ _ _ _ _ => none) (fun _ _ _ => none) (fun _ _ _ => none) (fun _ _ => none) (fun _ _ => none) (fun _ _ _ => none) (fun _ _ => none) (fun _ _ => none) (fun _ _ _ => none) (fun _ _ _ _ _ => none) (fun _ _ _ => none) (fun _ _ _ => none) (fun _ _ _ => none) (fun _ _ _ => none) (fun _ _ _ _ => none) (fun _ _ _ _ => none) (fun _ _ _ => none) (fun _ _ _ _ => none) (fun _ _ => none) (fun _ _ => none) (fun _ => none) (fun _ _ _ _ => none) (fun _ _ => none) some (fun _ => none) (fun _ => none) (fun _ => none) (fun _ _ => none) (fun _ _ _ => none) (fun _ _ => none) o
theorem callR_eq (o : Op) : callR o = callOf o := by cases o <;> rfl
noncomputable def frcT {α : Type} (o : Op) (v : Value) (k : Value → α) : α := match makesR o with
  | true => frcW v k
  | false => frcV v k
theorem frcT_eq {α : Type} (o : Op) (v : Value) (k : Value → α) : frcT o v k = k v := by
  unfold frcT
  split <;> simp [frcW_eq, frcV_eq]
noncomputable def xplain {β : Type} (P : Program) (op : Op) (l : TrV) (t : TrO) (n : Nat) (k : Value → TrO → Nat → Option β) : Option β :=
  match aopR op P (envL l) (hp t n) with
  | some (v, H') => match quietR op with
    | true => frcT op v fun v => k v t n
    | false => frcT op v fun v => xheap (tchOf op (envL l)) t n H' fun t' n' => k v t' n'
  | none => match abig P op (envL l) (hp t n) with
    | some (v, H') => frcT op v fun v => xheap (tchOf op (envL l)) t n H' fun t' n' => k v t' n'
    | none => none
noncomputable def xapply {β : Type} (call : XCall) (f : Value) (args : List Value) (t : TrO) (n : Nat) (k : Value → TrO → Nat → Option β) : Option β :=
  match f with
  | .func (.func g) xs ys => match call g (xs.toList ++ (args ++ ys.toList)) t n with
    | some (v, t', n') => frcV v fun v => k v t' n'
    | none => none
  | _ => none
noncomputable def xone {β : Type} (P : Program) (call : XCall) (op : Op) (l : TrV) (t : TrO) (n : Nat) (k : Value → TrO → Nat → Option β) : Option β :=
  match callR op with
  | none => xplain P op l t n k
  | some c => match c.callee with
    | .value f => xapply call (ev (envL l) f) (c.args.toList.map (ev (envL l))) t n k
    | _ => xplain P op l t n k
/-- A region's operations as a tree. -/
noncomputable def opTr (ops : List Oper) : Option (Tr (Option Oper)) := ofL none (ops.map some) 0 .leaf some
theorem opTr_get {ops : List Oper} {ot : Tr (Option Oper)} (h : opTr ops = some ot) (j : Nat) : ot.get none j = ops[j]? := by
  obtain ⟨t', h1, h2⟩ := ofL_get h
  cases h1
  rw [h2, List.getD_eq_getElem?_getD, List.getElem?_map]
  cases ops[j]? <;> rfl
noncomputable def xwant (ot : Tr (Option Oper)) (o : Oper) (l : TrV) : Option Bool :=
  match o.guard with
  | none => some true
  | some (j, want) => match ot.get none j with
    | some o' => match o'.dst with
      | some d => match l.get undef d with
        | .bool b => some (b == want)
        | .tuple _ => some false
        | _ => none
      | none => none
    | none => none
theorem xwant_eq {ops : List Oper} {ot : Tr (Option Oper)} (h : opTr ops = some ot) (o : Oper) (l : TrV) : xwant ot o l = wantB ops o (envL l) := by
  unfold xwant wantB
  cases o.guard with
  | none => rfl
  | some p =>
    obtain ⟨j, want⟩ := p
    simp only [opTr_get h]
    cases ops[j]? with
    | none => rfl
    | some o' => simp only [Option.bind_some]; cases o'.dst <;> rfl
abbrev YOps (β : Type) := Program → XCall → Tr (Option Oper) → TrV → TrO → Nat → (TrV → TrO → Nat → Option β) → Option β
def opsNil {β : Type} : YOps β := fun _ _ _ l t n k => k l t n
noncomputable def opsCons {β : Type} (o : Oper) (_ : List Oper) (ih : YOps β) : YOps β := fun P call ot l t n k => match xwant ot o l with
  | some true => xone P call o.op l t n fun v t n => lput l o.dst v fun l => ih P call ot l t n k
  | some false => lput l o.dst undef fun l => ih P call ot l t n k
  | none => none
noncomputable def opsR {β : Type} (os : List Oper) : YOps β := List.rec (motive := fun _ => YOps β) opsNil opsCons os
noncomputable def xopsGo {β : Type} (P : Program) (call : XCall) (ot : Tr (Option Oper)) (os : List Oper) (l : TrV) (t : TrO) (n : Nat) (k : TrV → TrO → Nat → Option β) : Option β := opsR os P call ot l t n k
theorem xopsGo_cons {β : Type} {P : Program} {call : XCall} {ot : Tr (Option Oper)} {o : Oper} {rest : List Oper} {l : TrV} {t : TrO} {n : Nat} {k : TrV → TrO → Nat → Option β} : xopsGo P call ot (o :: rest) l t n k = match xwant ot o l with
    | some true => xone P call o.op l t n fun v t n => lput l o.dst v fun l => xopsGo P call ot rest l t n k
    | some false => lput l o.dst undef fun l => xopsGo P call ot rest l t n k
    | none => none := rfl
noncomputable def xops {β : Type} (P : Program) (call : XCall) (ops : List Oper) (l : TrV) (t : TrO) (n : Nat) (k : TrV → TrO → Nat → Option β) : Option β :=
  match opTr ops with
  | some ot => xopsGo P call ot ops l t n k
  | none => none
abbrev YDraw (β : Type) := Program → XCall → Tr (Option Oper) → TrV → TrO → Nat → List Pledge → (TrV → TrO → Nat → Option β) → Option β
def drawNil {β : Type} : YDraw β := fun _ _ _ l t n _ k => k l t n
/-- A call with plain arguments, worked out in the heap with no objects. -/
noncomputable def xpure {β : Type} (P : Program) (call : XCall) (op : Op) (l : TrV) (k : Value → Option β) : Option β := match callR op with
  | some c => match c.callee with
    | .value f => match ev (envL l) f with
      | .func (.func g) xs ys => match (xs.toList ++ (c.args.toList.map (ev (envL l)) ++ ys.toList)).all plainAny with
        | true => match call g (xs.toList ++ (c.args.toList.map (ev (envL l)) ++ ys.toList)) .leaf P.globals.size with
          | some (v, _, _) => match plainAny v with
            | true => frcV v fun v => k v
            | false => none
          | none => none
        | false => none
      | _ => none
    | _ => none
  | none => none
noncomputable def drawQuiet {β : Type} (i : Nat) (o : Oper) (ih : YDraw β) : YDraw β := fun P call ot l t n pl k => match quietR o.op with
  | true => match aopR o.op P (envL l) (hp t n) with
    | some (v, _) => frcT o.op v fun v => lput l o.dst v fun l' => ih P call ot l' t n (match readsR o.op with
      | true => ⟨i, o.op, envL l, v⟩ :: pl
      | false => pl) k
    | none => none
  | false => xpure P call o.op l fun v => lput l o.dst v fun l' => ih P call ot l' t n pl k
noncomputable def drawEff {β : Type} (cs : List Nat) (o : Oper) (ih : YDraw β) : YDraw β := fun P call ot l t n pl k => xone P call o.op l t n fun v t n => match owedX P cs (hp t n) pl with
  | true => lput l o.dst v fun l => ih P call ot l t n pl k
  | false => none
noncomputable def drawCons {β : Type} (e : Nat × Option (List Nat)) (_ : List (Nat × Option (List Nat))) (ih : YDraw β) : YDraw β := fun P call ot l t n pl k => match ot.get none e.1 with
  | none => none
  | some o => match xwant ot o l with
    | none => none
    | some false => lput l o.dst undef fun l => ih P call ot l t n pl k
    | some true => match e.2 with
      | none => drawQuiet e.1 o ih P call ot l t n pl k
      | some cs => drawEff cs o ih P call ot l t n pl k
noncomputable def drawR {β : Type} (ord : List (Nat × Option (List Nat))) : YDraw β := List.rec (motive := fun _ => YDraw β) drawNil drawCons ord
noncomputable def xdrawGo {β : Type} (P : Program) (call : XCall) (ot : Tr (Option Oper)) (ord : List (Nat × Option (List Nat))) (l : TrV) (t : TrO) (n : Nat) (pl : List Pledge) (k : TrV → TrO → Nat → Option β) : Option β := drawR ord P call ot l t n pl k
theorem xdrawGo_cons {β : Type} {P : Program} {call : XCall} {ot : Tr (Option Oper)} {i : Nat} {ah : Option (List Nat)} {rest : List (Nat × Option (List Nat))} {l : TrV} {t : TrO} {n : Nat} {pl : List Pledge} {k : TrV → TrO → Nat → Option β} :
    xdrawGo P call ot ((i, ah) :: rest) l t n pl k = match ot.get none i with
    | none => none
    | some o => match xwant ot o l with
      | none => none
      | some false => lput l o.dst undef fun l => xdrawGo P call ot rest l t n pl k
      | some true => match ah with
        | none => match quietB o.op with
          | true => match aopF P o.op (envL l) (hp t n) with
            | some (v, _) => frcT o.op v fun v => lput l o.dst v fun l' => xdrawGo P call ot rest l' t n (match readsB o.op with
              | true => ⟨i, o.op, envL l, v⟩ :: pl
              | false => pl) k
            | none => none
          | false => xpure P call o.op l fun v => lput l o.dst v fun l' => xdrawGo P call ot rest l' t n pl k
        | some cs => xone P call o.op l t n fun v t n => match owedX P cs (hp t n) pl with
          | true => lput l o.dst v fun l => xdrawGo P call ot rest l t n pl k
          | false => none := by
  simp only [← aopR_eq, ← quietR_eq, ← readsR_eq]
  rfl
abbrev XCode := Code → TrV → TrO → Nat → Option (Exit × TrV × TrO × Nat)
noncomputable def xcall (P : Program) (ok : FuncId → Bool) (self : XCode) : XCall := fun f args t n =>
  match ok f with
  | true => match P.funcs[f]? with
    | some fn => match fn.body with
      | some c => match Nat.ble args.length fn.ntmps with
        | true => ofL undef args 0 .leaf fun l => match self c l t n with
          | some (e, l, t, n) => match e with
            | .normal | .ret => match ares P (envL l) (hp t n) fn.results.toList with
              | some vs => frcL vs fun vs => some (tup vs, t, n)
              | none => none
            | _ => none
          | none => none
        | false => none
      | none => none
    | none => none
  | false => none
abbrev XOut := Option (Exit × TrV × TrO × Nat)
noncomputable def readsT (ot : Tr (Option Oper)) (i : Nat) : Bool := match ot.get none i with
  | some o => readsR o.op
  | none => false
/-- The order in which an open statement is carried out: what is quiet first. -/
noncomputable def ordK {β : Type} (P : Program) (rt : Tr Row) (ot : Tr (Option Oper)) (n : Nat) : Nat → Nat → List Nat → (List (Nat × Option (List Nat)) → Option β) → Option β
  | 0, _, _, k => k []
  | d + 1, m, rd, k => match (fReady rt n m).find? fun i => (match ot.get none i with
        | some o => quietR o.op && !bigB P o.op
        | none => false) && fFree rt n m i with
    | some i => frcN i fun i => frcN (Nat.lor (Nat.pow 2 i) m) fun m => ordK P rt ot n d m (match readsT ot i with
      | true => i :: rd
      | false => rd) fun r => k ((i, none) :: r)
    | none => match fReady rt n m with
      | [i] => frcN i fun i => frcS (rd.filter fun p => match rt.get (0, 0, 0) i with
        | (q, _, _) => !Nat.testBit q p) fun cs => frcN (Nat.lor (Nat.pow 2 i) m) fun m => ordK P rt ot n d m rd fun r => k ((i, some cs) :: r)
      | r => match r.find? fun i => (match ot.get none i with
          | some o => (callR o.op).isSome
          | none => false) && fFree rt n m i with
        | some i => frcN i fun i => frcN (Nat.lor (Nat.pow 2 i) m) fun m => ordK P rt ot n d m rd fun r => k ((i, none) :: r)
        | none => k []
noncomputable def drawC (P : Program) (ops : Array Oper) : Option (Tr (Option Oper) × List (Nat × Option (List Nat))) :=
  match opTr ops.toList with
  | some ot => match rowTr ops with
    | some rt => ordK P rt ot ops.size ops.size 0 [] fun ord => match fChk rt (readsT ot) ops.size ord 0 [] && ord.length == ops.size with
      | true => some (ot, ord)
      | false => none
    | none => none
  | none => none
theorem ordK_ok {β : Type} {rt : Tr Row} {ot : Tr (Option Oper)} {n : Nat} : ∀ (d m : Nat) (rd : List Nat) (k : List (Nat × Option (List Nat)) → Option β) {z : β}, ordK P rt ot n d m rd k = some z → ∃ r, k r = some z
  | 0, _, _, _, _, h => ⟨[], h⟩
  | d + 1, m, rd, k, z, h => by
    simp only [ordK] at h
    split at h
    · rw [frcN_eq, frcN_eq] at h
      obtain ⟨r, hr⟩ := ordK_ok d _ _ _ h
      exact ⟨_, hr⟩
    · split at h
      · rw [frcN_eq, frcS_eq, frcN_eq] at h
        obtain ⟨r, hr⟩ := ordK_ok d _ _ _ h
        exact ⟨_, hr⟩
      · split at h
        · rw [frcN_eq, frcN_eq] at h
          obtain ⟨r, hr⟩ := ordK_ok d _ _ _ h
          exact ⟨_, hr⟩
        · exact ⟨_, h⟩
theorem drawC_ok {ops : Array Oper} {ot : Tr (Option Oper)} {ord : List (Nat × Option (List Nat))} (h : drawC P ops = some (ot, ord)) :
    opTr ops.toList = some ot ∧ (drawChk ops ord (Array.replicate ops.size false) [] && ord.length == ops.size) = true := by
  unfold drawC at h
  split at h
  · rename_i ot' ho
    split at h
    · rename_i rt hrt
      obtain ⟨r, hr⟩ := ordK_ok _ _ _ _ h
      split at hr
      · rename_i hc
        cases hr
        simp only [Bool.and_eq_true] at hc
        refine ⟨ho, ?_⟩
        rw [hc.2, Bool.and_true]
        refine fChk_ok hrt (fun i => ?_) _ _ _ _ (Lst.init _) hc.1
        unfold readsT readsAt
        rw [opTr_get ho, Array.getElem?_toList]
        cases ops[i]? with
        | none => rfl
        | some o => exact readsR_eq o.op
      · cases hr
    · cases h
  · cases h
noncomputable def sDraw (P : Program) (ok : FuncId → Bool) (self : XCode) (ops : Array Oper) (l : TrV) (t : TrO) (n : Nat) : XOut :=
  match drawC P ops with
  | some (ot, ord) => xdrawGo P (xcall P ok self) ot ord l t n [] fun l t n => some (.normal, l, t, n)
  | none => none
def sSeq (r : XOut) (f : TrV → TrO → Nat → XOut) : XOut :=
  match r with
  | some (e, l, t, n) => match e with
    | .normal => f l t n
    | e => some (e, l, t, n)
  | none => none
def sCond (v : Value) (f g : XOut) : XOut :=
  match v with
  | .bool b => match b with
    | true => f
    | false => g
  | _ => none
def sBlock (id : Nat) (r : XOut) : XOut :=
  match r with
  | some (e, l, t, n) => match e with
    | .exit i => match Nat.beq i id with
      | true => some (.normal, l, t, n)
      | false => some (.exit i, l, t, n)
    | e => some (e, l, t, n)
  | none => none
noncomputable def xstep (P : Program) (ok : FuncId → Bool) (self : XCode) : XCode := fun c l t n =>
  match c with
  | .skip => some (.normal, l, t, n)
  | .region _ ops draw => match draw with
    | true => sDraw P ok self ops l t n
    | false => xops P (xcall P ok self) ops.toList l t n fun l t n => some (.normal, l, t, n)
  | .seq a b => sSeq (self a l t n) (self b)
  | .cond c x y => sCond (ev (envL l) c) (self x l t n) (self y l t n)
  | .block id b => sBlock id (self b l t n)
  | .loop b => sSeq (self b l t n) (self (.loop b))
  | .exit id => some (.exit id, l, t, n)
  | .ret => some (.ret, l, t, n)
  | _ => none
/-- A run of code, of so many steps at most. -/
noncomputable def xrun (P : Program) (ok : FuncId → Bool) (d : Nat) : XCode := Nat.rec (motive := fun _ => XCode) (fun _ _ _ _ => none) (fun _ self => xstep P ok self) d

/- why this is so -/
def CallsOk (P : Program) (call : XCall) : Prop := ∀ f args t n v t' n', call f args t n = some (v, t', n') → ∀ Q : Value → AHeap → Prop, Q v (hp t' n') → RCalls P f args (hp t n) Q

theorem xplain_ok {β : Type} {o : Oper} {l : TrV} {t : TrO} {n : Nat} {k : Value → TrO → Nat → Option β} {z : β} (hno : ∀ f args ats, o.op ≠ .call ⟨.value f, args, ats⟩) (h : xplain P o.op l t n k = some z) :
    ∃ v t' n', k v t' n' = some z ∧ ∀ K : Value → AHeap → Prop, K v (hp t' n') → wpOne P (RCalls P) o (envL l) (hp t n) K := by
  unfold xplain at h
  rw [aopR_eq, aopF_eq, quietR_eq] at h
  have wone : ∀ (v : Value) (H' : AHeap) (K : Value → AHeap → Prop), aopX P o.op (envL l) (hp t n) = some (v, H') → K v H' → wpOne P (RCalls P) o (envL l) (hp t n) K := by
    intro v H' K e hk
    unfold wpOne
    split
    · rename_i f args ats ho; exact absurd ho (hno f args ats)
    · rw [e]; exact hk
  split at h
  · rename_i v H' e
    split at h
    · rename_i hq
      rw [frcT_eq] at h
      have := quiet_heap hq e
      subst this
      exact ⟨v, t, n, h, fun K hk => wone v _ K (aopX_of e) hk⟩
    · rw [frcT_eq] at h
      obtain ⟨t', n', h1, h2⟩ := xheap_ok (aop_DL e) h
      exact ⟨v, t', n', h1, fun K hk => wone v H' K (aopX_of e) (h2 ▸ hk)⟩
  · rename_i e
    split at h
    · rename_i v H' eb
      rw [frcT_eq] at h
      obtain ⟨t', n', h1, h2⟩ := xheap_ok (abig_DL eb) h
      refine ⟨v, t', n', h1, fun K hk => wone v H' K ?_ (h2 ▸ hk)⟩
      unfold aopX
      rw [e]
      exact eb
    · cases h
theorem callOf_some {o : Op} {c : Call} (h : callOf o = some c) : o = .call c := by
  unfold callOf at h
  split at h
  · cases h; rfl
  · cases h
theorem callOf_none {o : Op} (h : callOf o = none) (c : Call) : o ≠ .call c := by
  intro e; subst e; cases h
theorem xone_ok {β : Type} {call : XCall} (hc : CallsOk P call) {o : Oper} {l : TrV} {t : TrO} {n : Nat} {k : Value → TrO → Nat → Option β} {z : β} (h : xone P call o.op l t n k = some z) :
    ∃ v t' n', k v t' n' = some z ∧ ∀ K : Value → AHeap → Prop, K v (hp t' n') → wpOne P (RCalls P) o (envL l) (hp t n) K := by
  unfold xone at h
  rw [callR_eq] at h
  split at h
  · rename_i hn
    exact xplain_ok (fun f args ats => callOf_none hn _) h
  · rename_i c hs
    have hop := callOf_some hs
    split at h
    · rename_i f hcal
      unfold xapply at h
      split at h
      · rename_i g xs ys he
        split at h
        · rename_i v t' n' hr
          rw [frcV_eq] at h
          refine ⟨v, t', n', h, fun K hk => ?_⟩
          obtain ⟨callee, args, ats⟩ := c
          simp only at hcal
          subst hcal
          unfold wpOne
          rw [hop]
          dsimp only
          rw [he]
          exact hc _ _ _ _ _ _ _ hr K hk
        · cases h
      · cases h
    · rename_i hcal
      refine xplain_ok (fun f args ats e => ?_) h
      rw [hop] at e
      cases e
      exact hcal f rfl

theorem xopsGo_ok {β : Type} {call : XCall} (hc : CallsOk P call) {ops : List Oper} {ot : Tr (Option Oper)} (ho : opTr ops = some ot) : ∀ (os : List Oper) (l : TrV) (t : TrO) (n : Nat) (k : TrV → TrO → Nat → Option β) {z : β}, xopsGo P call ot os l t n k = some z →
    ∃ l' t' n', k l' t' n' = some z ∧ ∀ K : Env → AHeap → Prop, K (envL l') (hp t' n') → wpOps P (RCalls P) ops os (envL l) (hp t n) K
  | [], l, t, n, k, z, h => ⟨l, t, n, h, fun K hk => hk⟩
  | o :: rest, l, t, n, k, z, h => by
    simp only [xopsGo_cons, xwant_eq ho] at h
    split at h
    · rename_i hw
      obtain ⟨v, t', n', h1, h2⟩ := xone_ok hc h
      obtain ⟨l', h3, h4⟩ := lput_ok h1
      obtain ⟨l2, t2, n2, h5, h6⟩ := xopsGo_ok hc ho rest _ _ _ _ h3
      refine ⟨l2, t2, n2, h5, fun K hk => ?_⟩
      simp only [wpOps, hw]
      refine h2 _ ?_
      rw [← h4]
      exact h6 K hk
    · rename_i hw
      obtain ⟨l', h3, h4⟩ := lput_ok h
      obtain ⟨l2, t2, n2, h5, h6⟩ := xopsGo_ok hc ho rest _ _ _ _ h3
      refine ⟨l2, t2, n2, h5, fun K hk => ?_⟩
      simp only [wpOps, hw]
      rw [← h4]
      exact h6 K hk
    · cases h
theorem xops_ok {β : Type} {call : XCall} (hc : CallsOk P call) {ops : List Oper} {l : TrV} {t : TrO} {n : Nat} {k : TrV → TrO → Nat → Option β} {z : β} (h : xops P call ops l t n k = some z) :
    ∃ l' t' n', k l' t' n' = some z ∧ ∀ K : Env → AHeap → Prop, K (envL l') (hp t' n') → wpOps P (RCalls P) ops ops (envL l) (hp t n) K := by
  unfold xops at h
  split at h
  · rename_i ot ho
    exact xopsGo_ok hc ho _ _ _ _ _ h
  · cases h

theorem emp_leaf : hp .leaf P.globals.size = emp P := rfl
theorem xpure_ok {β : Type} {call : XCall} (hc : CallsOk P call) {o : Oper} {l : TrV} {k : Value → Option β} {z : β} (h : xpure P call o.op l k = some z) : ∃ v, k v = some z ∧ PureOne P (RCalls P) o (envL l) v := by
  unfold xpure at h
  rw [callR_eq] at h
  split at h
  · rename_i c hs
    have hop := callOf_some hs
    split at h
    · rename_i f hcal
      split at h
      · rename_i g xs ys he
        split at h
        · rename_i hall
          split at h
          · rename_i v t' n' hr
            split at h
            · rename_i hpv
              rw [frcV_eq] at h
              refine ⟨v, h, fun H K hk => ?_⟩
              obtain ⟨callee, args, ats⟩ := c
              simp only at hcal
              subst hcal
              unfold wpOne
              rw [hop]
              dsimp only
              rw [he]
              refine RCalls.pure (plain_of_any hpv) (fun x hx => plain_of_any (List.all_eq_true.1 hall x hx)) ?_ H K hk
              rw [← emp_leaf]
              exact hc _ _ _ _ _ _ _ hr _ rfl
            · cases h
          · cases h
        · cases h
      · cases h
    · cases h
  · cases h
theorem xdrawGo_ok {β : Type} {call : XCall} (hc : CallsOk P call) {ops : List Oper} {ot : Tr (Option Oper)} (hot : opTr ops = some ot) : ∀ (ord : List (Nat × Option (List Nat))) (l : TrV) (t : TrO) (n : Nat) (pl : List Pledge) (k : TrV → TrO → Nat → Option β) {z : β}, (∀ p ∈ pl, quietB p.op = true) → xdrawGo P call ot ord l t n pl k = some z →
    ∃ l' t' n', k l' t' n' = some z ∧ ∀ K : Env → AHeap → Prop, K (envL l') (hp t' n') → wpDraw P (RCalls P) ops ord (envL l) (hp t n) pl K
  | [], l, t, n, pl, k, z, _, h => ⟨l, t, n, h, fun K hk => hk⟩
  | (i, ah) :: rest, l, t, n, pl, k, z, hpl, h => by
    simp only [xdrawGo_cons, aopF_eq, opTr_get hot, xwant_eq hot] at h
    split at h
    · cases h
    · rename_i o ho
      split at h
      · cases h
      · rename_i hw
        obtain ⟨l', h3, h4⟩ := lput_ok h
        obtain ⟨l2, t2, n2, h5, h6⟩ := xdrawGo_ok hc hot rest _ _ _ _ _ hpl h3
        refine ⟨l2, t2, n2, h5, fun K hk => ?_⟩
        simp only [wpDraw, ho, hw]
        rw [← h4]
        exact h6 K hk
      · rename_i hw
        split at h
        · split at h
          · rename_i hq
            split at h
            · rename_i v H' e
              rw [frcT_eq] at h
              obtain ⟨l', h3, h4⟩ := lput_ok h
              obtain ⟨l2, t2, n2, h5, h6⟩ := xdrawGo_ok hc hot rest _ _ _ _ _ (by
                split
                · intro p hp
                  rcases List.mem_cons.1 hp with e | hm
                  · subst e; exact hq
                  · exact hpl p hm
                · exact hpl) h3
              refine ⟨l2, t2, n2, h5, fun K hk => ?_⟩
              simp only [wpDraw, ho, hw, hq, e]
              rw [← h4]
              have := h6 K hk
              split at this
              · rename_i hr; rw [if_pos hr]; exact this
              · rename_i hr; rw [if_neg (by simp [hr])]; exact this
            · cases h
          · rename_i hq
            obtain ⟨v, h1, h2⟩ := xpure_ok hc h
            obtain ⟨l', h3, h4⟩ := lput_ok h1
            obtain ⟨l2, t2, n2, h5, h6⟩ := xdrawGo_ok hc hot rest _ _ _ _ _ hpl h3
            refine ⟨l2, t2, n2, h5, fun K hk => ?_⟩
            simp only [wpDraw, ho, hw, hq]
            refine ⟨v, h2, ?_⟩
            rw [← h4]
            exact h6 K hk
        · rename_i cs
          obtain ⟨v, t', n', h1, h2⟩ := xone_ok hc h
          split at h1
          · rename_i hx
            obtain ⟨l', h3, h4⟩ := lput_ok h1
            obtain ⟨l2, t2, n2, h5, h6⟩ := xdrawGo_ok hc hot rest _ _ _ _ _ hpl h3
            refine ⟨l2, t2, n2, h5, fun K hk => ?_⟩
            simp only [wpDraw, ho, hw]
            refine h2 _ ⟨owedX_ok hpl hx, ?_⟩
            rw [← h4]
            exact h6 K hk
          · cases h1
/-- Functions whose code the framework covers. -/
def FuncsOk (P : Program) (ok : FuncId → Bool) : Prop := ∀ f fn c, ok f = true → P.funcs[f]? = some fn → fn.body = some c → (fn.name != "runtime.NumGoroutine" && codeOk P fn.ntmps c) = true

theorem xcall_ok {ok : FuncId → Bool} {self : XCode} (hM : P.follows .mixedOrders = true) (hok : FuncsOk P ok)
    (hs : ∀ c l t n e l' t' n', self c l t n = some (e, l', t', n') → ∀ Q : Post, Q e (envL l') (hp t' n') → wpC P (RCalls P) c (envL l) (hp t n) Q) : CallsOk P (xcall P ok self) := by
  intro f args t n v t' n' h Q hQ
  unfold xcall at h
  split at h
  · rename_i hf
    split at h
    · rename_i fn hfn
      split at h
      · rename_i c hb
        split at h
        · rename_i hl
          obtain ⟨l0, h, hl0⟩ := ofL_get h
          have henv : env0 args = envL l0 := funext fun j => (hl0 j).symm
          split at h
          · rename_i e l t1 n1 hr
            have fin : (match ares P (envL l) (hp t1 n1) fn.results.toList with
              | some vs => frcL vs fun vs => some (tup vs, t1, n1)
              | none => none) = some (v, t', n') → (match ares P (envL l) (hp t1 n1) fn.results.toList with
              | some vs => Q (tup vs) (hp t1 n1)
              | none => False) := by
              intro h
              split at h
              · rw [frcL_eq] at h; cases h; exact hQ
              · cases h
            refine rcalls_enter hM RCalls.sound hfn hb (hok f fn c hf hfn hb) rfl hl ?_
            rw [henv]
            refine hs _ _ _ _ _ _ _ _ hr _ ?_
            split at h
            · exact fin h
            · exact fin h
            · cases h
          · cases h
        · cases h
      · cases h
    · cases h
  · cases h

theorem xrun_ok {ok : FuncId → Bool} (hM : P.follows .mixedOrders = true) (hok : FuncsOk P ok) : ∀ (d : Nat) (c : Code) (l : TrV) (t : TrO) (n : Nat) (e : Exit) (l' : TrV) (t' : TrO) (n' : Nat), xrun P ok d c l t n = some (e, l', t', n') →
    (∀ Q : Post, Q e (envL l') (hp t' n') → wpC P (RCalls P) c (envL l) (hp t n) Q) ∧ (∀ b, c = .loop b → ∀ Q : Post, e ≠ .normal ∧ (Q e (envL l') (hp t' n') → ∃ k, Rounds P b Q k (envL l) (hp t n)))
  | 0, _, _, _, _, _, _, _, _, h => by simp [xrun] at h
  | d + 1, c, l, t, n, e, l', t', n', h => by
    have ih := xrun_ok hM hok d
    have hcall : CallsOk P (xcall P ok (xrun P ok d)) := xcall_ok hM hok fun c l t n e l' t' n' h => (ih c l t n e l' t' n' h).1
    change xstep P ok (xrun P ok d) c l t n = some (e, l', t', n') at h
    unfold xstep at h
    split at h
    · cases h
      exact ⟨fun Q hq => hq, fun b hb => by cases hb⟩
    · rename_i id ops draw
      split at h
      · unfold sDraw at h
        split at h
        · rename_i ot ord hd
          obtain ⟨hot, hchk⟩ := drawC_ok hd
          obtain ⟨l2, t2, n2, h5, h6⟩ := xdrawGo_ok hcall hot _ _ _ _ _ _ (by simp) h
          cases h5
          exact ⟨fun Q hq => ⟨_, hchk, h6 _ hq⟩, fun b hb => by cases hb⟩
        · cases h
      obtain ⟨l2, t2, n2, h5, h6⟩ := xops_ok hcall h
      cases h5
      refine ⟨fun Q hq => ?_, fun b hb => by cases hb⟩
      simp only [wpC]
      exact h6 _ hq
    · rename_i a b
      refine ⟨fun Q hq => ?_, fun b hb => by cases hb⟩
      unfold sSeq at h
      split at h
      · rename_i e1 l1 t1 n1 hr
        simp only [wpC]
        refine (ih _ _ _ _ _ _ _ _ hr).1 _ ?_
        split at h
        · exact (ih _ _ _ _ _ _ _ _ h).1 _ hq
        · cases h
          rename_i hne
          cases e with
          | normal => exact absurd rfl hne
          | _ => exact hq
      · cases h
    · rename_i c x y
      refine ⟨fun Q hq => ?_, fun b hb => by cases hb⟩
      unfold sCond at h
      split at h
      · rename_i b hb
        simp only [wpC, hb]
        split at h
        · exact ⟨fun _ => (ih _ _ _ _ _ _ _ _ h).1 _ hq, fun h => by cases h⟩
        · exact ⟨fun h => (by cases h), fun _ => (ih _ _ _ _ _ _ _ _ h).1 _ hq⟩
      · cases h
    · rename_i id b
      refine ⟨fun Q hq => ?_, fun b hb => by cases hb⟩
      unfold sBlock at h
      split at h
      · rename_i e1 l1 t1 n1 hr
        simp only [wpC]
        refine (ih _ _ _ _ _ _ _ _ hr).1 _ ?_
        split at h
        · rename_i i
          split at h
          · rename_i hi
            cases h
            have hi := Nat.eq_of_beq_eq_true hi
            simp only [inBlockQ]
            rw [if_pos hi]
            exact hq
          · rename_i hi
            cases h
            have hi : ¬ i = id := fun q => by rw [q] at hi; simp at hi
            simp only [inBlockQ]
            rw [if_neg hi]
            exact hq
        · rename_i hne
          cases h
          cases e with
          | exit i => exact absurd rfl (hne i)
          | _ => exact hq
      · cases h
    · rename_i b
      have key : ∀ b', Code.loop b = .loop b' → ∀ Q : Post, e ≠ .normal ∧ (Q e (envL l') (hp t' n') → ∃ k, Rounds P b' Q k (envL l) (hp t n)) := by
        intro b' hb Q
        cases hb
        unfold sSeq at h
        split at h
        · rename_i e1 l1 t1 n1 hr
          split at h
          · obtain ⟨h1, h2⟩ := (ih _ _ _ _ _ _ _ _ h).2 b rfl Q
            refine ⟨h1, fun hq => ?_⟩
            obtain ⟨k, hk⟩ := h2 hq
            exact ⟨k + 1, (ih _ _ _ _ _ _ _ _ hr).1 _ hk⟩
          · rename_i hne
            cases h
            refine ⟨hne, fun hq => ⟨1, (ih _ _ _ _ _ _ _ _ hr).1 _ ?_⟩⟩
            cases e with
            | normal => exact absurd rfl hne
            | _ => exact hq
        · cases h
      refine ⟨fun Q hq => ?_, key⟩
      obtain ⟨k, hk⟩ := (key b rfl Q).2 hq
      exact loop_rounds k hk
    · cases h
      exact ⟨fun Q hq => hq, fun b hb => by cases hb⟩
    · cases h
      exact ⟨fun Q hq => hq, fun b hb => by cases hb⟩
    · cases h

/-- A call that is worked out. -/
noncomputable def xcalls (P : Program) (ok : FuncId → Bool) (d : Nat) : XCall := xcall P ok (xrun P ok d)
theorem xcalls_ok {ok : FuncId → Bool} (hM : P.follows .mixedOrders = true) (hok : FuncsOk P ok) (d : Nat) : CallsOk P (xcalls P ok d) :=
  xcall_ok hM hok fun c l t n e l' t' n' h => (xrun_ok hM hok d c l t n e l' t' n' h).1

end Go.LH
