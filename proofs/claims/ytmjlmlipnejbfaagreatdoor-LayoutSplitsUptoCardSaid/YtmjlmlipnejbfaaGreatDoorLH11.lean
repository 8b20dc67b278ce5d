/-
  The logical heap: a statement whose order of evaluation is open. What changes no memory is taken ahead; what changes memory comes one behind the other.
-/
import Derived.Test.YtmjlmlipnejbfaaGreatDoorLH10
import Derived.Orders
set_option linter.all false
namespace Go.LH
variable {P : Program} {m : Emb} {H : AHeap} {w : World}

/-- An operation that changes no memory. -/
def quietB : Op → Bool
  | .move _ | .assign _ | .pick _ _ _ | .build _ _ | .load _ _ | .nilCheck _ | .binOp _ _ _ _ _ | .unOp _ _ _ | .convert _ _ _ | .makeInterface _ _ | .makeFunc _ _ _
  | .slice _ _ _ _ _ | .fieldAddr _ _ _ | .field _ _ _ | .indexAddr _ _ _ | .index _ _ _ | .extract _ _ => true
  | .call ⟨.builtin .len, _, _⟩ | .call ⟨.builtin .min, _, _⟩ | .call ⟨.builtin .max, _, _⟩ => true
  | _ => false
/-- A quiet operation whose answer may hang on the heap. -/
def readsB : Op → Bool
  | .load _ _ | .slice _ _ _ _ _ => true
  | _ => false

/-- Does operation j wait for i? -/
def waitsB (ops : Array Oper) (i j : Nat) : Bool :=
  match ops[j]? with
  | some o => o.after.any fun e => Region.binds .any e && e.on == i
  | none => false

/-- What is owed for a reading that may be carried out later: it reads the same. -/
structure Pledge where
  i : Nat
  op : Op
  t : Env
  v : Value

def owed (P : Program) (ops : Array Oper) (j : Nat) (H' : AHeap) : List Pledge → Prop
  | [] => True
  | p :: pl => (waitsB ops p.i j = false → aop P p.op p.t H' = some (p.v, H')) ∧ owed P ops j H' pl

/-- A call that comes back with one value whatever the heap, and leaves the heap alone. -/
def PureOne (P : Program) (C : Calling) (o : Oper) (t : Env) (v : Value) : Prop := ∀ (H : AHeap) (K : Value → AHeap → Prop), K v H → wpOne P C o t H K

/-- The readings that are to be shown to read the same behind an operation. -/
def owedL (P : Program) (cs : List Nat) (H' : AHeap) : List Pledge → Prop
  | [] => True
  | p :: pl => (cs.contains p.i = true → aop P p.op p.t H' = some (p.v, H')) ∧ owedL P cs H' pl

def wpDraw (P : Program) (C : Calling) (ops : List Oper) : List (Nat × Option (List Nat)) → Env → AHeap → List Pledge → (Env → AHeap → Prop) → Prop
  | [], t, H, _, K => K t H
  | (i, ahead) :: rest, t, H, pl, K =>
    match ops[i]? with
    | none => False
    | some o =>
      match wantB ops o t with
      | none => False
      | some false => wpDraw P C ops rest (putD t o.dst undef) H pl K
      | some true =>
        match ahead with
        | none =>
          match quietB o.op with
          | true => match aop P o.op t H with
            | some (v, _) => wpDraw P C ops rest (putD t o.dst v) H (if readsB o.op = true then ⟨i, o.op, t, v⟩ :: pl else pl) K
            | none => False
          | false => ∃ v, PureOne P C o t v ∧ wpDraw P C ops rest (putD t o.dst v) H pl K
        | some cs => wpOne P C o t H fun v H' => owedL P cs H' pl ∧ wpDraw P C ops rest (putD t o.dst v) H' pl K

def readsAt (ops : Array Oper) (i : Nat) : Bool := ((ops[i]?).map fun o => readsB o.op).getD false
def drawChk (ops : Array Oper) : List (Nat × Option (List Nat)) → Array Bool → List Nat → Bool
  | [], listed, _ => Region.ready .any ops listed == []
  | (i, none) :: rest, listed, rd => Region.free .any ops listed i && (Region.ready .any ops listed).contains i && drawChk ops rest (listed.setIfInBounds i true) (if readsAt ops i = true then i :: rd else rd)
  | (i, some cs) :: rest, listed, rd => Region.ready .any ops listed == [i] && rd.all (fun p => waitsB ops p i || cs.contains p) && drawChk ops rest (listed.setIfInBounds i true) rd
def DrawOk (P : Program) (C : Calling) (ops : Array Oper) (t : Env) (H : AHeap) (K : Env → AHeap → Prop) : Prop :=
  ∃ ord : List (Nat × Option (List Nat)), (drawChk ops ord (Array.replicate ops.size false) [] && ord.length == ops.size) = true ∧ wpDraw P C ops.toList ord t H [] K

theorem owed_of {ops : Array Oper} {i : Nat} {cs : List Nat} {H' : AHeap} {rd : List Nat} (hc : rd.all (fun p => waitsB ops p i || cs.contains p) = true) : ∀ (pl : List Pledge), (∀ p ∈ pl, p.i ∈ rd) → owedL P cs H' pl → owed P ops i H' pl
  | [], _, _ => trivial
  | p :: pl, hp, h => by
    refine ⟨fun hw => h.1 ?_, owed_of hc pl (fun q hq => hp q (by simp [hq])) h.2⟩
    have := List.all_eq_true.1 hc p.i (hp p (by simp))
    rw [hw] at this
    simpa using this

/- an operation looks at its operands alone -/
theorem aop_congr {o : Op} {t t' : Env} (h : ∀ x ∈ o.operands, ev t' x = ev t x) (H : AHeap) : aop P o t' H = aop P o t H := by
  have hl : ∀ xs : List Operand, (∀ x ∈ xs, ev t' x = ev t x) → xs.map (ev t') = xs.map (ev t) := fun xs hx => List.map_congr_left hx
  cases o with
  | move x => have hx := h x (by simp [Op.operands]); simp only [aop, hx]
  | assign x => have hx := h x (by simp [Op.operands]); simp only [aop, hx]
  | pick c x y =>
    have h1 := h c (by simp [Op.operands]); have h2 := h x (by simp [Op.operands]); have h3 := h y (by simp [Op.operands])
    simp only [aop, h1, h2, h3]
  | alloc e => rfl
  | box e x => have hx := h x (by simp [Op.operands]); simp only [aop, hx]
  | build ty ps =>
    have : ps.toList.map (fun p => (p.1, ev t' p.2)) = ps.toList.map (fun p => (p.1, ev t p.2)) := List.map_congr_left fun p hp => by
      rw [h p.2 (by simp [Op.operands]; exact ⟨p.1, by simpa using hp⟩)]
    simp only [aop, this]
  | buildSlice ty n ps =>
    have : ps.toList.map (fun p => (p.1, ev t' p.2)) = ps.toList.map (fun p => (p.1, ev t p.2)) := List.map_congr_left fun p hp => by
      rw [h p.2 (by simp [Op.operands]; exact ⟨p.1, by simpa using hp⟩)]
    simp only [aop, this]
  | load ty x => have hx := h x (by simp [Op.operands]); simp only [aop, hx]
  | store ty x y => have h1 := h x (by simp [Op.operands]); have h2 := h y (by simp [Op.operands]); simp only [aop, h1, h2]
  | nilCheck x => have hx := h x (by simp [Op.operands]); simp only [aop, hx]
  | binOp op ty x y b => have h1 := h x (by simp [Op.operands]); have h2 := h y (by simp [Op.operands]); simp only [aop, h1, h2]
  | unOp op ty x => have hx := h x (by simp [Op.operands]); simp only [aop, hx]
  | convert a b x => have hx := h x (by simp [Op.operands]); simp only [aop, hx]
  | makeInterface a x => have hx := h x (by simp [Op.operands]); simp only [aop, hx]
  | makeFunc f xs ys =>
    have h1 := hl xs.toList fun x hx => h x (by simp [Op.operands]; exact .inl (by simpa using hx))
    have h2 := hl ys.toList fun x hx => h x (by simp [Op.operands]; exact .inr (by simpa using hx))
    simp only [aop, h1, h2]
  | makeSlice a x y => have h1 := h x (by simp [Op.operands]); have h2 := h y (by simp [Op.operands]); simp only [aop, h1, h2]
  | slice a x lo hi mx =>
    have h1 := h x (by simp [Op.operands])
    have h2 : lo.map (ev t') = lo.map (ev t) := by cases lo with | none => rfl | some y => simp [h y (by simp [Op.operands])]
    have h3 : hi.map (ev t') = hi.map (ev t) := by cases hi with | none => rfl | some y => simp [h y (by simp [Op.operands])]
    have h4 : mx.map (ev t') = mx.map (ev t) := by cases mx with | none => rfl | some y => simp [h y (by simp [Op.operands])]
    simp only [aop, h1, h2, h3, h4]
  | fieldAddr a x f => have hx := h x (by simp [Op.operands]); simp only [aop, hx]
  | field a x f => have hx := h x (by simp [Op.operands]); simp only [aop, hx]
  | indexAddr a x y => have h1 := h x (by simp [Op.operands]); have h2 := h y (by simp [Op.operands]); simp only [aop, h1, h2]
  | index a x y => have h1 := h x (by simp [Op.operands]); have h2 := h y (by simp [Op.operands]); simp only [aop, h1, h2]
  | extract x i => have hx := h x (by simp [Op.operands]); simp only [aop, hx]
  | call c =>
    have h1 := hl c.args.toList fun x hx => h x (by simp [Op.operands, Call.operands]; exact .inr (by simpa using hx))
    simp only [aop, h1]
  | _ => rfl

theorem ev_put {t : Env} {d : Option Tmp} {v : Value} {x : Operand} (h : ∀ i, d = some i → x ≠ .tmp i) : ev (putD t d v) x = ev t x := by
  cases d with
  | none => rfl
  | some i =>
    cases x with
    | tmp j => simp only [ev, putD, upd]; rw [if_neg (fun e => h i rfl (by rw [e]))]
    | _ => rfl
theorem looks_op {ops : Array Oper} {o : Oper} {d : Option Tmp} (h : ∀ i, d = some i → i ∉ o.looksAt ops) : ∀ x ∈ o.op.operands, ∀ i, d = some i → x ≠ .tmp i := by
  intro x hx i hi e
  subst e
  exact h i hi (List.mem_append_left _ (List.mem_filterMap.2 ⟨.tmp i, by simpa using hx, rfl⟩))
theorem aop_put {ops : Array Oper} {o : Oper} {t : Env} {d : Option Tmp} {v : Value} (h : ∀ i, d = some i → i ∉ o.looksAt ops) (H : AHeap) : aop P o.op (putD t d v) H = aop P o.op t H :=
  aop_congr (fun x hx => ev_put (looks_op h x hx)) H
theorem want_put {ops : Array Oper} {o : Oper} {t : Env} {d : Option Tmp} {v : Value} (h : ∀ i, d = some i → i ∉ o.looksAt ops) : wantB ops.toList o (putD t d v) = wantB ops.toList o t := by
  unfold wantB
  cases hg : o.guard with
  | none => rfl
  | some p =>
    obtain ⟨j, want⟩ := p
    simp only [Array.getElem?_toList]
    cases hd : (ops[j]?).bind (·.dst) with
    | none => rfl
    | some k =>
      cases d with
      | none => rfl
      | some i =>
        have : k ≠ i := fun e => h i rfl (by subst e; unfold Oper.looksAt; rw [hg]; simp only []; rw [hd]; simp)
        simp only [putD, upd]
        rw [if_neg this]
theorem aopX_put {ops : Array Oper} {o : Oper} {t : Env} {d : Option Tmp} {v : Value} (h : ∀ i, d = some i → i ∉ o.looksAt ops) (H : AHeap) : aopX P o.op (putD t d v) H = aopX P o.op t H := by
  have h2 := looks_op h
  unfold aopX
  rw [aop_put h H]
  have : abig P o.op (putD t d v) H = abig P o.op t H := by
    obtain ⟨dst, op, ty, pos, af, g⟩ := o
    cases op with
    | convert a b x =>
      have hx := ev_put (t := t) (v := v) (h2 x (by simp [Op.operands]))
      simp only [abig, hx]
    | _ => rfl
  rw [this]
theorem aopX_of {o : Op} {t : Env} {r : Value × AHeap} (h : aop P o t H = some r) : aopX P o t H = some r := by
  unfold aopX; rw [h]
theorem one_put {C : Calling} {ops : Array Oper} {o : Oper} {t : Env} {d : Option Tmp} {v : Value} (h : ∀ i, d = some i → i ∉ o.looksAt ops) (H : AHeap) (K : Value → AHeap → Prop) :
    wpOne P C o (putD t d v) H K = wpOne P C o t H K := by
  have h1 := aopX_put (P := P) (t := t) (v := v) h H
  have h2 := looks_op h
  obtain ⟨dst, op, ty, pos, af, g⟩ := o
  unfold wpOne
  dsimp only at h1 h2 ⊢
  split
  · rename_i f args ats
    have e1 : ev (putD t d v) f = ev t f := ev_put (h2 f (by simp [Op.operands, Call.operands]))
    have e2 : args.toList.map (ev (putD t d v)) = args.toList.map (ev t) := List.map_congr_left fun x hx => ev_put (h2 x (by simp [Op.operands, Call.operands]; exact .inr (by simpa using hx)))
    rw [e1, e2]
  · rw [h1]
theorem put_put_comm (t : Env) {x y : Option Tmp} (v u : Value) (h : ∀ d, x = some d → y ≠ some d) : putD (putD t x v) y u = putD (putD t y u) x v := by
  cases x with
  | none => rfl
  | some i =>
    cases y with
    | none => rfl
    | some j =>
      have hne : i ≠ j := fun e => h i rfl (by rw [e])
      funext k
      simp only [putD, upd]
      by_cases h1 : k = j
      · subst h1; rw [if_pos rfl, if_neg (fun e => hne e.symm), if_pos rfl]
      · rw [if_neg h1, if_neg h1]

/-- The form of what a quiet operation answers. -/
def QForm (P : Program) (o : Op) (t : Env) : Prop := ∃ r : AHeap → Option Value, (∀ H, aop P o t H = (r H).map fun v => (v, H)) ∧ (readsB o = false → ∀ H H', r H = r H')
theorem qform_of {o : Op} {t : Env} (r : Option Value) (h : ∀ H, aop P o t H = r.map fun v => (v, H)) : QForm P o t := ⟨fun _ => r, h, fun _ _ _ => rfl⟩
theorem quiet_form {o : Op} {t : Env} (hq : quietB o = true) : QForm P o t := by
  cases o <;> first | (simp [quietB] at hq; done) | skip
  case move x => exact qform_of (some (ev t x)) fun _ => rfl
  case assign x => exact qform_of (some (ev t x)) fun _ => rfl
  case pick c x y =>
    refine qform_of (match ev t c with | .bool b => some (if b then ev t x else ev t y) | _ => none) fun H => ?_
    simp only [aop]
    cases ev t c <;> rfl
  case build ty ps => exact qform_of _ fun _ => rfl
  case load ty x =>
    refine ⟨fun H => match ev t x with | .pointer (some ⟨i, o, none⟩) => H.load P ty i o | _ => none, fun H => ?_, fun h => by simp [readsB] at h⟩
    simp only [aop]
    split
    · rename_i h; rw [h]
    · rename_i h
      split
      · rename_i h1; exact absurd h1 (h _ _)
      · rfl
  case nilCheck x =>
    refine qform_of (match ev t x with | .pointer (some a) => some (.pointer (some a)) | .iface ty v => some (.iface ty v) | .func (.func f) xs ys => some (.func (.func f) xs ys) | _ => none) fun H => ?_
    simp only [aop]
    cases ev t x with
    | pointer a => cases a <;> rfl
    | func f _ _ => cases f <;> rfl
    | _ => rfl
  case binOp => exact qform_of _ fun _ => rfl
  case unOp => exact qform_of _ fun _ => rfl
  case convert => exact qform_of _ fun _ => rfl
  case makeInterface a x =>
    refine qform_of (match P.underlying a with | some (.interface _) => none | some _ => some (.iface a (ev t x)) | none => none) fun H => ?_
    simp only [aop]
    cases P.underlying a with
    | none => rfl
    | some d => cases d <;> rfl
  case makeFunc => exact qform_of (some _) fun _ => rfl
  case slice a x lo hi mx => exact ⟨fun H => aslice P H a (ev t x) (lo.map (ev t)) (hi.map (ev t)) (mx.map (ev t)), fun H => rfl, fun h => by simp [readsB] at h⟩
  case fieldAddr a x f =>
    refine qform_of (match ev t x, tfield P a f with | .pointer (some ⟨i, o, none⟩), some (_, off) => some (.pointer (some ⟨i, o + off, none⟩)) | _, _ => none) fun H => ?_
    simp only [aop]
    split
    · rename_i h1 h2; rw [h1, h2]; rfl
    · rename_i h
      split
      · rename_i i o off h1 h2; exact absurd h2 (h _ _ _ _ h1)
      · rfl
  case field => exact qform_of _ fun _ => rfl
  case indexAddr => exact qform_of _ fun _ => rfl
  case index => exact qform_of _ fun _ => rfl
  case extract x i =>
    refine qform_of (match ev t x with | .tuple ⟨vs⟩ => vs[i]? | _ => none) fun H => ?_
    simp only [aop]
    cases ev t x <;> rfl
  case call c =>
    obtain ⟨callee, args, ats⟩ := c
    cases callee <;> first | (simp [quietB] at hq; done) | skip
    rename_i b
    generalize hxs : args.toList.map (ev t) = xs
    have e : ∀ H, aop P (.call ⟨.builtin b, args, ats⟩) t H = abuiltin P b ats xs H := fun H => by rw [← hxs]; rfl
    cases b <;> first | (simp [quietB] at hq; done) | skip
    case len =>
      match xs with
      | [x] => exact qform_of (alenV P (ats[0]?.bind P.underlying) x) fun H => by rw [e]; rfl
      | [] => exact qform_of none fun H => by rw [e]; rfl
      | _ :: _ :: _ => exact qform_of none fun H => by rw [e]; rfl
    case min =>
      match xs with
      | [x, y] => exact qform_of (amin2 x y) fun H => by rw [e]; rfl
      | [x, y, z] => exact qform_of ((amin2 x y).bind fun v => amin2 v z) fun H => by rw [e]; simp only [abuiltin]; cases amin2 x y <;> rfl
      | [] => exact qform_of none fun H => by rw [e]; rfl
      | [_] => exact qform_of none fun H => by rw [e]; rfl
      | _ :: _ :: _ :: _ :: _ => exact qform_of none fun H => by rw [e]; rfl
    case max =>
      match xs with
      | [x, y] => exact qform_of (amax2 x y) fun H => by rw [e]; rfl
      | [x, y, z] => exact qform_of ((amax2 x y).bind fun v => amax2 v z) fun H => by rw [e]; simp only [abuiltin]; cases amax2 x y <;> rfl
      | [] => exact qform_of none fun H => by rw [e]; rfl
      | [_] => exact qform_of none fun H => by rw [e]; rfl
      | _ :: _ :: _ :: _ :: _ => exact qform_of none fun H => by rw [e]; rfl

theorem quiet_heap {o : Op} {t : Env} {H H1 : AHeap} {v : Value} (hq : quietB o = true) (h : aop P o t H = some (v, H1)) : H1 = H := by
  obtain ⟨r, h1, _⟩ := quiet_form (P := P) (t := t) hq
  rw [h1] at h
  cases hr : r H with
  | none => rw [hr] at h; cases h
  | some u => rw [hr] at h; cases h; rfl
theorem quiet_any {o : Op} {t : Env} {H H1 : AHeap} {v : Value} (hq : quietB o = true) (hn : readsB o = false) (h : aop P o t H = some (v, H1)) (H' : AHeap) : aop P o t H' = some (v, H') := by
  obtain ⟨r, h1, h2⟩ := quiet_form (P := P) (t := t) hq
  rw [h1] at h ⊢
  rw [h2 hn H' H]
  cases hr : r H with
  | none => rw [hr] at h; cases h
  | some u => rw [hr] at h; cases h; rfl

/- whatever comes up -/
theorem one_to {C C' : Calling} {o : Oper} {t : Env} {K K' : Value → AHeap → Prop} (h : wpOne P C o t H K) (hc : ∀ f args, C f args H K → C' f args H K') (hk : ∀ v H', K v H' → K' v H') : wpOne P C' o t H K' := by
  unfold wpOne at h ⊢
  split at h
  · rename_i f args ats ho
    split at h
    · exact hc _ _ h
    · exact h.elim
  · rename_i hno
    split at h
    · exact hk _ _ h
    · exact h.elim
theorem one_mono {o : Oper} {t : Env} {K K' : Value → AHeap → Prop} (h : wpOne P (RCalls P) o t H K) (hk : ∀ v H', K v H' → K' v H') : wpOne P (RCalls P) o t H K' :=
  one_to h (fun _ _ q => q.mono hk) hk

/-- What an operation that may be taken ahead yields; it leaves the heap alone. -/
def Yl (P : Program) (ops : Array Oper) (o : Oper) (t : Env) (v : Value) (H : AHeap) : Prop :=
  (wantB ops.toList o t = some false ∧ v = undef) ∨ (wantB ops.toList o t = some true ∧ ∀ K : Value → AHeap → Prop, K v H → wpOne P (RCalls P) o t H K)

def aStep (P : Program) (ops : Array Oper) (pl : List Pledge) (i : Nat) (K : Env → AHeap → Prop) (t : Env) (H : AHeap) : Prop :=
  ∃ o, ops[i]? = some o ∧ ((∃ v, Yl P ops o t v H ∧ K (putD t o.dst v) H) ∨ (wantB ops.toList o t = some true ∧ wpOne P (RCalls P) o t H fun v H' => owed P ops i H' pl ∧ K (putD t o.dst v) H'))
theorem aStep_mono {ops : Array Oper} {pl pl' : List Pledge} {i : Nat} {t : Env} {K K' : Env → AHeap → Prop} (h : aStep P ops pl' i K t H) (hp : ∀ H', owed P ops i H' pl' → owed P ops i H' pl) (hk : ∀ t H, K t H → K' t H) : aStep P ops pl i K' t H := by
  obtain ⟨o, ho, h⟩ := h
  refine ⟨o, ho, ?_⟩
  rcases h with ⟨v, h1, h2⟩ | ⟨h1, h2⟩
  · exact .inl ⟨v, h1, hk _ _ h2⟩
  · exact .inr ⟨h1, one_mono h2 fun v H' q => ⟨hp _ q.1, hk _ _ q.2⟩⟩

def aAny (P : Program) (ops : Array Oper) (pl : List Pledge) (K : Env → AHeap → Prop) : Nat → Array Bool → Env → AHeap → Prop
  | 0, listed, t, H => Region.ready .any ops listed = [] ∧ K t H
  | fuel + 1, listed, t, H => (Region.ready .any ops listed = [] → K t H) ∧
    ∀ i ∈ Region.ready .any ops listed, aStep P ops pl i (fun t' H' => aAny P ops pl K fuel (listed.setIfInBounds i true) t' H') t H
theorem aAny_weaken {ops : Array Oper} {pl pl' : List Pledge} {K : Env → AHeap → Prop} (hp : ∀ i H', owed P ops i H' pl' → owed P ops i H' pl) :
    ∀ (fuel : Nat) (listed : Array Bool) (t : Env) (H : AHeap), aAny P ops pl' K fuel listed t H → aAny P ops pl K fuel listed t H
  | 0, _, _, _, h => h
  | fuel + 1, _, _, _, h => ⟨h.1, fun i hi => aStep_mono (h.2 i hi) (hp i) fun t H q => aAny_weaken hp fuel _ t H q⟩

theorem take_first {ops : Array Oper} {i : Nat} {oi : Oper} {v : Value} {pl pl' : List Pledge} {K : Env → AHeap → Prop} (hi : ops[i]? = some oi)
    (hpl : ∀ j H', owed P ops j H' pl' → owed P ops j H' pl) (Y : Env → AHeap → Prop) (hY : ∀ t H, Y t H → Yl P ops oi t v H) (hYput : ∀ t H d u, (∀ k, d = some k → k ∉ oi.looksAt ops) → Y t H → Y (putD t d u) H)
    (hYstep : ∀ j t H H', waitsB ops i j = false → Y t H → owed P ops j H' pl' → Y t H') :
    ∀ (fuel : Nat) (listed : Array Bool) (t : Env) (H : AHeap),
      (∀ j oj, ops[j]? = some oj → j ≠ i → listed.getD j true = false → (∀ e ∈ oj.after, Region.binds .any e = true → e.on ≠ i) → oi.apart ops oj = true) →
      i ∈ Region.ready .any ops listed → Y t H →
      aAny P ops pl' K fuel (listed.setIfInBounds i true) (putD t oi.dst v) H → aAny P ops pl K (fuel + 1) listed t H := by
  intro fuel
  induction fuel with
  | zero =>
    intro listed t H _ hr hy hG
    refine ⟨fun h => (by rw [h] at hr; cases hr), fun j hj => ?_⟩
    by_cases hji : j = i
    · subst hji; exact ⟨oi, hi, .inl ⟨v, hY t H hy, hG⟩⟩
    · have := ready_mono hj hji
      rw [hG.1] at this
      cases this
  | succ fuel ih =>
    intro listed t H hfree hr hy hG
    refine ⟨fun h => (by rw [h] at hr; cases hr), fun j hj => ?_⟩
    by_cases hji : j = i
    · subst hji
      exact ⟨oi, hi, .inl ⟨v, hY t H hy, aAny_weaken hpl _ _ _ _ hG⟩⟩
    · have h1 := hG.2 j (ready_mono hj hji)
      obtain ⟨hjun, oj, hoj, hall⟩ := mem_ready.1 hj
      have hnot : ∀ e ∈ oj.after, Region.binds .any e = true → e.on ≠ i := fun e he hb heq => by
        have h1 := hall e he hb
        have h0 := (mem_ready.1 hr).1
        rw [heq] at h1
        rcases Nat.lt_or_ge i listed.size with h' | h'
        · simp [h'] at h0 h1; rw [h0] at h1; cases h1
        · simp [Array.getElem?_eq_none h'] at h1
      have hap := hfree j oj hoj hji hjun hnot
      obtain ⟨a1, a2, a3⟩ := Oper.apart_spec hap
      have hfree' : ∀ k ok, ops[k]? = some ok → k ≠ i → (listed.setIfInBounds j true).getD k true = false →
          (∀ e ∈ ok.after, Region.binds .any e = true → e.on ≠ i) → oi.apart ops ok = true := fun k ok hk hki hun hno => by
        refine hfree k ok hk hki ?_ hno
        by_cases hjk : j = k
        · subst hjk; exact hjun
        · rw [getD_set_ne true hjk] at hun; exact hun
      have hw : waitsB ops i j = false := by
        unfold waitsB
        rw [hoj]
        simp only
        rw [← Bool.not_eq_true]
        intro hc
        obtain ⟨e, he, hb⟩ := Array.any_eq_true'.1 hc
        simp only [Bool.and_eq_true, beq_iff_eq] at hb
        exact hnot e he hb.1 hb.2
      have next : ∀ u H', Y (putD t oj.dst u) H' → aAny P ops pl' K fuel ((listed.setIfInBounds i true).setIfInBounds j true) (putD (putD t oi.dst v) oj.dst u) H' →
          aAny P ops pl K (fuel + 1) (listed.setIfInBounds j true) (putD t oj.dst u) H' := fun u H' hy' hg => by
        refine ih (listed.setIfInBounds j true) (putD t oj.dst u) H' hfree' (ready_mono hr (Ne.symm hji)) hy' ?_
        rw [put_put_comm t v u a2] at hg
        rw [Array.setIfInBounds_comm _ _ hji]
        exact hg
      obtain ⟨oj', hoj', h1⟩ := h1
      rw [hoj] at hoj'; cases hoj'
      refine ⟨oj, hoj, ?_⟩
      rcases h1 with ⟨u, h2, h3⟩ | ⟨h2, h3⟩
      · refine .inl ⟨u, ?_, next u H (hYput t H oj.dst u a3 hy) h3⟩
        unfold Yl at h2 ⊢
        rw [want_put a1] at h2
        rcases h2 with h2 | ⟨h2, h4⟩
        · exact .inl h2
        · exact .inr ⟨h2, fun K' k => by have := h4 K' k; rw [one_put a1] at this; exact this⟩
      · rw [want_put a1] at h2
        rw [one_put a1] at h3
        refine .inr ⟨h2, one_mono h3 fun u H' q => ⟨hpl j H' q.1, next u H' (hYput t H' oj.dst u a3 (hYstep j t H H' hw hy q.1)) q.2⟩⟩

theorem aop_one {o : Oper} {t : Env} {v : Value} {K : Value → AHeap → Prop} (hc : ∀ f args ats, o.op ≠ .call ⟨.value f, args, ats⟩) (h : aop P o.op t H = some (v, H)) (k : K v H) : wpOne P (RCalls P) o t H K := by
  unfold wpOne
  split
  · rename_i f args ats ho; exact absurd ho (hc _ _ _)
  · rw [aopX_of h]; exact k
theorem quiet_nocall {o : Op} (h : quietB o = true) : ∀ f args ats, o ≠ .call ⟨.value f, args, ats⟩ := by
  intro f args ats e; subst e; simp [quietB] at h

theorem draw_any {C : Calling} (hC : C.Sound P) {ops : Array Oper} {K : Env → AHeap → Prop} : ∀ (ord : List (Nat × Option (List Nat))) (listed : Array Bool) (rd : List Nat) (t : Env) (H : AHeap) (pl : List Pledge),
    (∀ p ∈ pl, p.i ∈ rd) → drawChk ops ord listed rd = true → wpDraw P C ops.toList ord t H pl K → aAny P ops pl K ord.length listed t H
  | [], listed, rd, t, H, pl, _, hc, h => by
    simp only [drawChk, beq_iff_eq] at hc
    exact ⟨hc, h⟩
  | (i, none) :: rest, listed, rd, t, H, pl, hpl, hc, h => by
    simp only [drawChk, Bool.and_eq_true] at hc
    obtain ⟨⟨hf, hr⟩, hc⟩ := hc
    simp only [wpDraw, Array.getElem?_toList] at h
    cases hi : ops[i]? with
    | none => rw [hi] at h; exact h.elim
    | some o =>
      rw [hi] at h
      dsimp only at h
      have hfree := fun j oj => Region.free_spec hi hf j oj
      have hready : i ∈ Region.ready .any ops listed := by simpa using hr
      have hra : readsAt ops i = readsB o.op := by unfold readsAt; rw [hi]; rfl
      have hsub : ∀ p ∈ pl, p.i ∈ (if readsAt ops i = true then i :: rd else rd) := fun p hp => by split <;> simp [hpl p hp]
      split at h
      · exact h.elim
      · rename_i hw
        exact take_first hi (fun _ _ q => q) (fun t _ => wantB ops.toList o t = some false) (fun t H q => .inl ⟨q, rfl⟩) (fun t H d u hd q => by rw [want_put hd]; exact q) (fun _ _ _ _ _ q _ => q) _ _ _ _ hfree hready hw (draw_any hC rest _ _ _ _ pl hsub hc h)
      · rename_i hw
        split at h
        · rename_i hq
          cases ha : aop P o.op t H with
          | none => rw [ha] at h; exact h.elim
          | some r =>
            obtain ⟨v, H1⟩ := r
            rw [ha] at h
            have := quiet_heap hq ha
            subst this
            by_cases hrd : readsB o.op = true
            · simp only [hrd, if_true] at h
              refine take_first (pl' := ⟨i, o.op, t, v⟩ :: pl) hi (fun _ _ q => q.2) (fun t' H' => wantB ops.toList o t' = some true ∧ (∀ H2, aop P o.op t' H2 = aop P o.op t H2) ∧ aop P o.op t H' = some (v, H')) (fun t' H' q => .inr ⟨q.1, fun K' k => aop_one (quiet_nocall hq) (by rw [q.2.1]; exact q.2.2) k⟩)
                (fun t' H' d u hd q => ⟨by rw [want_put hd]; exact q.1, fun H2 => by rw [aop_put hd]; exact q.2.1 H2, q.2.2⟩) (fun j t' H' H2 hw' q ho => ⟨q.1, q.2.1, ho.1 hw'⟩) _ _ _ _ hfree hready ⟨hw, fun _ => rfl, ha⟩ (draw_any hC rest _ _ _ _ _ ?_ hc h)
              rw [hra, if_pos hrd]
              intro p hp
              rcases List.mem_cons.1 hp with rfl | hp
              · simp
              · simp [hpl p hp]
            · have hrd' : readsB o.op = false := by simpa using hrd
              rw [hrd'] at h
              simp only [Bool.false_eq_true, if_false] at h
              refine take_first (pl' := pl) hi (fun _ _ q => q) (fun t' _ => wantB ops.toList o t' = some true ∧ ∀ H2, aop P o.op t' H2 = some (v, H2)) (fun t' H' q => .inr ⟨q.1, fun K' k => aop_one (quiet_nocall hq) (q.2 _) k⟩)
                (fun t' H' d u hd q => ⟨by rw [want_put hd]; exact q.1, fun H2 => by rw [aop_put hd]; exact q.2 H2⟩) (fun j t' H' H2 hw' q ho => q) _ _ _ _ hfree hready ⟨hw, quiet_any hq hrd' ha⟩ (draw_any hC rest _ _ _ _ _ hsub hc h)
        · rename_i hq
          obtain ⟨v, hp, h⟩ := h
          have hp' : PureOne P (RCalls P) o t v := fun H K k => by
            exact one_to (hp H K k) (fun _ _ q => hC _ _ _ _ q) (fun _ _ q => q)
          refine take_first (pl' := pl) hi (fun _ _ q => q) (fun t' _ => wantB ops.toList o t' = some true ∧ PureOne P (RCalls P) o t' v) (fun t' H' q => .inr ⟨q.1, fun K' k => q.2 H' K' k⟩)
            (fun t' H' d u hd q => ⟨by rw [want_put hd]; exact q.1, fun H2 K' k => by rw [one_put hd]; exact q.2 H2 K' k⟩) (fun j t' H' H2 hw' q ho => q) _ _ _ _ hfree hready ⟨hw, hp'⟩ (draw_any hC rest _ _ _ _ _ hsub hc h)
  | (i, some cs) :: rest, listed, rd, t, H, pl, hpl, hc, h => by
    simp only [drawChk, Bool.and_eq_true, beq_iff_eq] at hc
    obtain ⟨⟨hr, hcs⟩, hc⟩ := hc
    simp only [wpDraw, Array.getElem?_toList] at h
    cases hi : ops[i]? with
    | none => rw [hi] at h; exact h.elim
    | some o =>
      rw [hi] at h
      dsimp only at h
      refine ⟨fun h0 => (by rw [h0] at hr; cases hr), fun j hj => ?_⟩
      rw [hr] at hj
      have hji : j = i := by simpa using hj
      subst hji
      refine ⟨o, hi, ?_⟩
      split at h
      · exact h.elim
      · rename_i hw
        exact .inl ⟨undef, .inl ⟨hw, rfl⟩, draw_any hC rest _ _ _ _ pl hpl hc h⟩
      · rename_i hw
        refine .inr ⟨hw, ?_⟩
        have h2 : wpOne P (RCalls P) o t H fun v H' => owedL P cs H' pl ∧ wpDraw P C ops.toList rest (putD t o.dst v) H' pl K := one_to h (fun _ _ q => hC _ _ _ _ q) (fun _ _ q => q)
        exact one_mono h2 fun v H' q => ⟨owed_of hcs pl hpl q.1, draw_any hC rest _ _ _ _ pl hpl hc q.2⟩

/-- In the model. -/
theorem any_sound {ops : Array Oper} {N : Nat} {Q : Exit → Act → World → Prop} {pl : List Pledge} {K : Env → AHeap → Prop} (hT : ZerosPlain P) (hall : ∀ o ∈ ops.toList, operOk P N o = true) :
    ∀ (fuel : Nat) (listed : Array Bool) (t : Env) (H : AHeap) (m : Emb) (a : Act) (w : World), a.tmps.size = N → a.defers = [] → EnvR m t a → R P m H w → aAny P ops pl K fuel listed t H →
      (∀ t' H' m' a' w', K t' H' → EnvR m' t' a' → a'.tmps.size = N → a'.defers = [] → R P m' H' w' → Kept m H w m' H' w' → Q .normal a' w') → wpAny P .any ops Q fuel listed a w
  | 0, listed, t, H, m, a, w, hN, hD, hE, hR, h, hq => ⟨h.1, hq t H m a w h.2 hE hN hD hR (Kept.refl _ _ _)⟩
  | fuel + 1, listed, t, H, m, a, w, hN, hD, hE, hR, h, hq => by
    refine ⟨fun h0 => hq t H m a w (h.1 h0) hE hN hD hR (Kept.refl _ _ _), fun i hi => ?_⟩
    obtain ⟨o, ho, hs⟩ := h.2 i hi
    have hmem : o ∈ ops.toList := by rw [← Array.getElem?_toList] at ho; exact List.mem_of_getElem? ho
    have hok := hall o hmem
    simp only [operOk, Bool.and_eq_true] at hok
    have hdst : ∀ i, o.dst = some i → i < a.tmps.size := by
      intro i hi
      have := hok.2
      rw [hi] at this
      rw [hN]; simpa using this
    have hss : ∀ (j : Nat) (o' : Oper) (d : Nat), ops[j]? = some o' → o'.dst = some d → d < a.tmps.size := by
      intro j o' d hj hd
      have := hall o' (by rw [← Array.getElem?_toList] at hj; exact List.mem_of_getElem? hj)
      simp only [operOk, Bool.and_eq_true, hd] at this
      rw [hN]; simpa using this.2
    have go : ∀ v v' H' m' w', aAny P ops pl K fuel (listed.setIfInBounds i true) (putD t o.dst v) H' → VR m' v v' → R P m' H' w' → Kept m H w m' H' w' → wpAny P .any ops Q fuel (listed.setIfInBounds i true) (a.put o.dst v') w' :=
      fun v v' H' m' w' k e1 e2 e3 => any_sound hT hall fuel _ _ H' m' _ w' (by rw [size_put]; exact hN) (by rw [defers_put]; exact hD) ((hE.mono e3.le).put e1 hdst) e2 k
        fun t2 H2 m2 a2 w2 k q1 q2 q3 q4 q5 => hq t2 H2 m2 a2 w2 k q1 q2 q3 q4 (e3.trans q5)
    unfold wpOp
    rw [ho]
    dsimp only
    rcases hs with ⟨v, hy, k⟩ | ⟨hw, h1⟩
    · rcases hy with ⟨hw, rfl⟩ | ⟨hw, hy⟩
      · rw [want_rel hE hss hw]
        simp only [Bool.false_eq_true, if_false]
        exact go undef undef H m w k (.tuple [] [] .nil) hR (Kept.refl _ _ _)
      · rw [want_rel hE hss hw]
        simp only [if_true]
        left
        refine one_sound hT RCalls.sound hok.1 hE hR (hy (fun v' H' => v' = v ∧ H' = H) ⟨rfl, rfl⟩) ?_
        rintro v1 v' H' m' w' ⟨rfl, rfl⟩ e1 e2 e3
        exact go v1 v' H' m' w' k e1 e2 e3
    · rw [want_rel hE hss hw]
      simp only [if_true]
      left
      exact one_sound hT RCalls.sound hok.1 hE hR h1 fun v v' H' m' w' k e1 e2 e3 => go v v' H' m' w' k.2 e1 e2 e3

theorem draw_sound {C : Calling} {ops : Array Oper} {N : Nat} {id : Nat} {Q : Exit → Act → World → Prop} (hM : P.follows .mixedOrders = true) (hT : ZerosPlain P) (hC : C.Sound P) (hall : ∀ o ∈ ops.toList, operOk P N o = true)
    {t : Env} {a : Act} {K : Env → AHeap → Prop} (hN : a.tmps.size = N) (hD : a.defers = []) (hE : EnvR m t a) (hR : R P m H w) (h : DrawOk P C ops t H K)
    (hq : ∀ t' H' m' a' w', K t' H' → EnvR m' t' a' → a'.tmps.size = N → a'.defers = [] → R P m' H' w' → Kept m H w m' H' w' → Q .normal a' w') : (Code.region id ops true).wp P Q a w := by
  obtain ⟨ord, hc, h⟩ := h
  simp only [Bool.and_eq_true, beq_iff_eq] at hc
  have h1 := draw_any hC ord _ [] t H [] (by simp) hc.1 h
  rw [hc.2] at h1
  refine wp_region_any hM (any_sound hT hall ops.size _ t H m a _ hN hD hE (hR.drawn _) h1 fun t' H' m' a' w' k e1 e2 e3 e4 e5 => hq t' H' m' a' w' k e1 e2 e3 e4 (e5.drawn _))

end Go.LH
