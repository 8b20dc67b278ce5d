/-
  The logical heap: calls; one operation; operations in order.
-/
import Derived.Test.YtmjlmlipnejbfaaGreatDoorLHb
import Derived.Tactics
set_option linter.all false
namespace Go.LH
variable {P : Program} {m : Emb} {H : AHeap} {w : World}

/-- What a call's first step leads to. -/
def CallRes (P : Program) (r : Result Next) (Q : Value → World → Prop) : Prop :=
  match r with
  | .ok (.value v) w' => Q v w'
  | .ok (.enter f args) w' => Calls P f args w' fun e w'' => ∃ v, e = .returned v ∧ Q v w''
  | .ok (.row row args) w' => Rows P row args w' Q
  | _ => False

/-- A call over the logical heap: in whatever world stands for the heap it comes back, with a value and a world that stand for what Q speaks of. -/
def RCalls (P : Program) : Calling := fun f args H Q =>
  ∀ (m : Emb) (w : World) (args' : Array Value), VRs m args args'.toList → R P m H w →
    CallRes P ((callFunc f args').run P w) fun v' w' => ∃ v H' m', Q v H' ∧ VR m' v v' ∧ R P m' H' w' ∧ Kept m H w m' H' w'

theorem CallRes.mono {r : Result Next} {Q Q' : Value → World → Prop} (h : CallRes P r Q) (hq : ∀ v w, Q v w → Q' v w) : CallRes P r Q' := by
  unfold CallRes at h ⊢
  split at h
  · exact hq _ _ h
  · exact h.mono fun e w' ⟨v, e1, q⟩ => ⟨v, e1, hq _ _ q⟩
  · exact Rows.mono h hq
  · exact h.elim
theorem RCalls.mono {f : FuncId} {args : List Value} {Q Q' : Value → AHeap → Prop} (h : RCalls P f args H Q) (hq : ∀ v H', Q v H' → Q' v H') : RCalls P f args H Q' :=
  fun m w args' ha hR => (h m w args' ha hR).mono fun _ _ ⟨v, H', m', q, r⟩ => ⟨v, H', m', hq _ _ q, r⟩

/-- One heap knows no more than another one. -/
structure AHeap.Le (H H' : AHeap) : Prop where
  next : H'.next ≤ H.next
  get : ∀ j o, H.get j = some o → H'.get j = some o
theorem AHeap.Le.refl (H : AHeap) : H.Le H := ⟨Nat.le_refl _, fun _ _ h => h⟩
theorem AHeap.Le.trans {a b c : AHeap} (h : a.Le b) (k : b.Le c) : a.Le c := ⟨Nat.le_trans k.next h.next, fun j o e => k.get j o (h.get j o e)⟩
def AHeap.Wf (H : AHeap) : Prop := ∀ j o, H.get j = some o → j < H.next
theorem R.wf (h : R P m H w) : H.Wf := fun j o e => by
  obtain ⟨l, hl, _⟩ := h.obj j o e
  apply Classical.byContradiction
  intro hn
  rw [h.fresh j (by omega)] at hl
  cases hl
theorem R.forget {H2 : AHeap} (h : R P m H w) (hl : H2.Le H) : R P m H2 w :=
  ⟨fun i o e => h.obj i o (hl.get i o e), fun i hi => h.fresh i (Nat.le_trans hl.next hi), h.block,
   fun i j oi oj li lj hij hi hrw hj => h.sep i j oi oj li lj hij (hl.get _ _ hi) hrw (hl.get _ _ hj), h.glob⟩
theorem Kept.forget {m0 m : Emb} {H0 H H2 : AHeap} {w0 w : World} (h : Kept m0 H0 w0 m H w) (hl : H2.Le H) : Kept m0 H0 w0 m H2 w :=
  ⟨h.os, h.tape, h.output, h.size, h.block, fun k hk ⟨i, o, l, h1, h2, h3, h4⟩ => h.writes k hk ⟨i, o, l, hl.get _ _ h1, h2, h3, h4⟩, h.le, Nat.le_trans h.next hl.next⟩
/-- What is left over may be forgotten. -/
theorem RCalls.forget {f : FuncId} {args : List Value} {K : Value → AHeap → Prop} (h : RCalls P f args H fun v H' => ∃ H2 : AHeap, H2.Le H' ∧ K v H2) : RCalls P f args H K :=
  fun m w args' ha hR => (h m w args' ha hR).mono fun _ _ ⟨v, H', m', ⟨H2, hl, k⟩, q1, q2, q3⟩ => ⟨v, H2, m', k, q1, q2.forget hl, q3.forget hl⟩
/-- A call needs no more of the heap than this. -/
theorem RCalls.weaken {f : FuncId} {args : List Value} {H2 : AHeap} {K : Value → AHeap → Prop} (hl : H2.Le H) (h : RCalls P f args H2 K) : RCalls P f args H K :=
  fun m w args' ha hR => (h m w args' ha (hR.forget hl)).mono fun _ w' ⟨v, H', m', k, q1, q2, q3⟩ => by
    have hw : ∀ k, Writes m H2 k → Writes m H k := fun k ⟨i, o, l, h1, h2, h3, h4⟩ => ⟨i, o, l, hl.get _ _ h1, h2, h3, h4⟩
    exact ⟨v, H', m', k, q1, q2, ⟨q3.os, q3.tape, q3.output, q3.size, fun k hk hn => q3.block k hk fun q => hn (hw k q), fun k hk q => hw k (q3.writes k hk q), q3.le, Nat.le_trans hl.next q3.next⟩⟩
theorem RCalls.wf {f : FuncId} {args : List Value} {K : Value → AHeap → Prop} (h : H.Wf → RCalls P f args H K) : RCalls P f args H K :=
  fun m w args' ha hR => h hR.wf m w args' ha hR

def Calling.Sound (P : Program) (C : Calling) : Prop := ∀ f args H Q, C f args H Q → RCalls P f args H Q
theorem RCalls.sound : Calling.Sound P (RCalls P) := fun _ _ _ _ h => h

def operOk (P : Program) (N : Nat) (o : Oper) : Bool := opOk P o.op && (match o.dst with | some d => decide (d < N) | none => true)

theorem EnvR.put {t : Env} {a : Act} {v v' : Value} (hE : EnvR m t a) (hv : VR m v v') {d : Option Tmp} (hd : ∀ i, d = some i → i < a.tmps.size) : EnvR m (putD t d v) (a.put d v') := by
  cases d with
  | none => exact hE
  | some i =>
    intro j
    simp only [putD, upd, Act.put]
    by_cases hj : j = i
    · subst hj
      rw [if_pos rfl]
      have hi := hd j rfl
      simp [Array.getD_eq_getD_getElem?, Array.getElem?_setIfInBounds, hi]
      exact hv
    · rw [if_neg hj]
      have := hE j
      simp only [Array.getD_eq_getD_getElem?] at this ⊢
      rw [Array.getElem?_setIfInBounds_ne (fun e => hj e.symm)]
      exact this
theorem size_put (a : Act) (d : Option Tmp) (v : Value) : (a.put d v).tmps.size = a.tmps.size := by
  cases d <;> simp [Act.put]
theorem defers_put (a : Act) (d : Option Tmp) (v : Value) : (a.put d v).defers = a.defers := by
  cases d <;> simp [Act.put]

theorem vrs_array {xs : List Value} {ys : Array Value} {zs : List Value} (h : VRs m xs ys.toList) (e : zs = ys.toList) : VRs m xs zs := by rw [e]; exact h

/-- One operation. -/
theorem one_sound {C : Calling} {o : Oper} {t : Env} {a : Act} {K : Value → AHeap → Prop} {next : Act → World → Prop} {Q : Exit → Act → World → Prop} (hT : ZerosPlain P) (hC : C.Sound P) (hok : opOk P o.op = true)
    (hE : EnvR m t a) (hR : R P m H w) (h : wpOne P C o t H K)
    (hn : ∀ v v' H' m' w', K v H' → VR m' v v' → R P m' H' w' → Kept m H w m' H' w' → next (a.put o.dst v') w') : o.wp P a w next Q := by
  have plain : ∀ v H', aopX P o.op t H = some (v, H') → K v H' → o.wp P a w next Q := by
    intro v H' hb hk
    obtain ⟨v', w', m', hr, q1, q2, q3⟩ := aopX_goes hT hok hE hR hb
    unfold Oper.wp
    rcases hr with hr | ⟨hr, hu⟩
    · rw [hr]; exact hn v v' H' m' w' hk q1 q2 q3
    · rw [hr]; subst hu; exact hn v undef H' m' w' hk q1 q2 q3
  unfold wpOne at h
  split at h
  · rename_i f args ats hop
    split at h
    · rename_i g xs ys hev
      have hokf : opndOk P f = true ∧ args.toList.all (opndOk P) = true := by
        rw [hop] at hok
        simp [opOk, Op.operands, Call.operands] at hok
        refine ⟨hok.1, List.all_eq_true.2 fun x hx => ?_⟩
        obtain ⟨i, hi, rfl⟩ := Array.getElem_of_mem (by simpa using hx)
        exact hok.2 i hi
      have h1 := ev_rel hR hE hokf.1
      rw [hev] at h1
      have h2 := evs_rel hR hE hokf.2
      generalize haf : a.eval f = f' at h1
      cases h1 with
      | func _ xs ys xs' ys' q1 q2 =>
        have hargs : VRs m (xs ++ (args.toList.map (ev t) ++ ys)) (xs'.toArray ++ args.map a.eval ++ ys'.toArray).toList := by
          refine vrs_array (q1.append (h2.append q2)) ?_ |> fun h => h
          simp
        have := hC _ _ _ _ h m w _ hargs hR
        unfold Oper.wp
        have hrun : (execOp a.eval o).run P w = (callFunc g (xs'.toArray ++ args.map a.eval ++ ys'.toArray)).run P w := by
          simp only [execOp, hop, resolve, haf, Deferred.ofValue, Sem.run_bind, Sem.run_pure, Result.andThen_ok, invoke]
        rw [hrun]
        unfold CallRes at this
        split at this
        · rename_i v w' hr
          rw [hr]
          obtain ⟨u, H', m', k1, k2, k3, k4⟩ := this
          exact hn u v H' m' w' k1 k2 k3 k4
        · rename_i f2 args2 w' hr
          rw [hr]
          refine this.mono ?_
          rintro e w2 ⟨v, rfl, u, H', m', k1, k2, k3, k4⟩
          exact hn u v H' m' w2 k1 k2 k3 k4
        · rename_i row args2 w' hr
          rw [hr]
          refine Rows.mono this ?_
          rintro v w2 ⟨u, H', m', k1, k2, k3, k4⟩
          exact hn u v H' m' w2 k1 k2 k3 k4
        · exact this.elim
    · exact h.elim
  · split at h
    · rename_i v H' hb
      exact plain v H' hb h
    · exact h.elim

/-- Whether an operation is carried out is the same in the model. -/
theorem want_rel {ops : Array Oper} {o : Oper} {t : Env} {a : Act} {b : Bool} (hE : EnvR m t a) (hs : ∀ (j : Nat) (o' : Oper) (d : Nat), ops[j]? = some o' → o'.dst = some d → d < a.tmps.size) (h : wantB ops.toList o t = some b) :
    Region.wanted o (yielded ops a.tmps) = b := by
  unfold wantB at h
  unfold Region.wanted
  split at h
  · rename_i hg
    cases h
    rw [hg]
  · rename_i j want hg
    rw [hg]
    dsimp only
    split at h
    · rename_i d hd
      split at h
      · rename_i x hx
        cases h
        have hv := hE d
        rw [hx] at hv
        have hget : ∃ u, a.tmps[d]? = some u ∧ VR m (.bool x) u := by
          cases hj : ops[j]? with
          | none => simp [hj] at hd
          | some o' =>
            have hdo : o'.dst = some d := by simpa [hj] using hd
            have hlt := hs j o' d hj hdo
            refine ⟨a.tmps[d], by simp [hlt], ?_⟩
            simpa [Array.getD_eq_getD_getElem?, hlt] using hv
        obtain ⟨u, hu, hvu⟩ := hget
        cases hvu
        have hdd : (ops[j]?).bind (·.dst) = some d := by simpa using hd
        unfold yielded
        rw [hdd]
        simp [hu]
      · rename_i x hx
        cases h
        have hv := hE d
        rw [hx] at hv
        have hget : ∃ u, a.tmps[d]? = some u ∧ VR m (.tuple x) u := by
          cases hj : ops[j]? with
          | none => simp [hj] at hd
          | some o' =>
            have hdo : o'.dst = some d := by simpa [hj] using hd
            have hlt := hs j o' d hj hdo
            refine ⟨a.tmps[d], by simp [hlt], ?_⟩
            simpa [Array.getD_eq_getD_getElem?, hlt] using hv
        obtain ⟨u, hu, hvu⟩ := hget
        have hdd : (ops[j]?).bind (·.dst) = some d := by simpa using hd
        unfold yielded
        rw [hdd]
        cases hvu
        simp [hu]
      · cases h
    · cases h

/-- Operations one behind the other. -/
theorem ops_sound {C : Calling} {ops : Array Oper} {N : Nat} {Q : Exit → Act → World → Prop} (hT : ZerosPlain P) (hC : C.Sound P) (hall : ∀ o ∈ ops.toList, operOk P N o = true) :
    ∀ (l : List Oper) (t : Env) (H : AHeap) (m : Emb) (a : Act) (w : World) (K : Env → AHeap → Prop), (∀ o ∈ l, operOk P N o = true) → a.tmps.size = N → a.defers = [] → EnvR m t a → R P m H w → wpOps P C ops.toList l t H K →
      (∀ t' H' m' a' w', K t' H' → EnvR m' t' a' → a'.tmps.size = N → a'.defers = [] → R P m' H' w' → Kept m H w m' H' w' → Q .normal a' w') → wpList P ops Q l a w
  | [], t, H, m, a, w, K, _, hN, hD, hE, hR, h, hq => hq t H m a w h hE hN hD hR (Kept.refl _ _ _)
  | o :: rest, t, H, m, a, w, K, hl, hN, hD, hE, hR, h, hq => by
    have ho := hl o (by simp)
    simp only [operOk, Bool.and_eq_true] at ho
    have hdst : ∀ i, o.dst = some i → i < a.tmps.size := by
      intro i hi
      have := ho.2
      rw [hi] at this
      rw [hN]; simpa using this
    have hs : ∀ (j : Nat) (o' : Oper) (d : Nat), ops[j]? = some o' → o'.dst = some d → d < a.tmps.size := by
      intro j o' d hj hd
      have := hall o' (by rw [← Array.getElem?_toList] at hj; exact List.mem_of_getElem? hj)
      simp only [operOk, Bool.and_eq_true, hd] at this
      rw [hN]; simpa using this.2
    simp only [wpOps] at h
    unfold wpList
    split at h
    · rename_i hw
      rw [want_rel hE hs hw]
      simp only [if_true]
      left
      refine one_sound hT hC ho.1 hE hR h fun v v' H' m' w' hk hv hR' hK => ?_
      exact ops_sound hT hC hall rest _ H' m' _ w' K (fun o ho => hl o (by simp [ho])) (by rw [size_put]; exact hN) (by rw [defers_put]; exact hD) ((hE.mono hK.le).put hv hdst) hR' hk
        fun t2 H2 m2 a2 w2 k e1 e2 e3 e4 e5 => hq t2 H2 m2 a2 w2 k e1 e2 e3 e4 (hK.trans e5)
    · rename_i hw
      rw [want_rel hE hs hw]
      simp only [Bool.false_eq_true, if_false]
      exact ops_sound hT hC hall rest _ H m _ w K (fun o ho => hl o (by simp [ho])) (by rw [size_put]; exact hN) (by rw [defers_put]; exact hD) (hE.put (.tuple [] [] .nil) hdst) hR h hq
    · exact h.elim

end Go.LH
