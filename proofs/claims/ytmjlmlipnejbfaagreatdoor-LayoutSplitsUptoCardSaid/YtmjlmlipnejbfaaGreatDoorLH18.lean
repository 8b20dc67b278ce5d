/-
  The logical heap: a call that leaves nothing behind may be taken whatever the heap.
-/
import Derived.Test.YtmjlmlipnejbfaaGreatDoorLH10
set_option linter.all false
namespace Go.LH
variable {P : Program} {m : Emb} {H : AHeap} {w : World}

theorem vrs_same : ∀ {xs xs' : List Value}, VRs m xs xs' → (∀ v ∈ xs, ∀ v', VR m v v' → v' = v) → xs' = xs
  | _, _, .nil, _ => rfl
  | _, _, .cons v v' vs vs' h k, hp => by rw [hp v (by simp) v' h, vrs_same k fun u hu => hp u (by simp [hu])]
theorem Plain.eq {v v' : Value} (h : Plain v) : VR m v v' → v' = v := by
  induction h generalizing v' with
  | bool b => intro h; cases h; rfl
  | int k n => intro h; cases h; rfl
  | string s => intro h; cases h; rfl
  | ptrNil => intro h; cases h; rfl
  | sliceNil => intro h; cases h; rfl
  | mapNil => intro h; cases h; rfl
  | func f =>
    intro h
    cases h with
    | func _ _ _ xs' ys' h k => cases h; cases k; rfl
  | nilFunc => intro h; cases h; rfl
  | nilIface => intro h; cases h; rfl
  | agg xs _ ih =>
    intro h
    cases h with
    | agg _ xs' h => rw [vrs_same h fun v hv v' q => ih v hv q]
  | tuple xs _ ih =>
    intro h
    cases h with
    | tuple _ xs' h => rw [vrs_same h fun v hv v' q => ih v hv q]

/-- Nothing that the heap may write was written: the world stands for it as before. -/
theorem back {m0 m' : Emb} {H0 H' : AHeap} {w' : World} (hR : R P m H w) (hk : Kept m0 H0 w m' H' w') (hn : ∀ k, ¬ Writes m0 H0 k) : R P m H w' ∧ Kept m H w m H w' := by
  refine ⟨⟨fun i o hi => ?_, hR.fresh, fun i l hi => Nat.lt_of_lt_of_le (hR.block i l hi) hk.size, hR.sep, hR.glob⟩,
    ⟨hk.os, hk.tape, hk.output, hk.size, fun k hlt _ => hk.block k hlt (hn k), fun _ _ h => h, Emb.le.refl _, Nat.le_refl _⟩⟩
  obtain ⟨l, hl, ho⟩ := hR.obj i o hi
  exact ⟨l, hl, ho.other (Emb.le.refl _) (hk.block _ (hR.block i l hl) (hn _))⟩

/-- The heap with no objects. -/
def emp (P : Program) : AHeap := ⟨fun _ => none, P.globals.size⟩
/-- What a call does with plain arguments in the heap with no objects, it does in every heap. -/
theorem RCalls.pure {f : FuncId} {args : List Value} {v : Value} (hv : Plain v) (ha : ∀ x ∈ args, Plain x) (h : RCalls P f args (emp P) fun u _ => u = v) (H : AHeap) (K : Value → AHeap → Prop) (k : K v H) : RCalls P f args H K := by
  intro m w args' hargs hR
  have e : args'.toList = args := vrs_same hargs fun x hx x' q => (ha x hx).eq q
  have hR0 : R P (fun i => if i < P.globals.size then m i else none) (emp P) w := by
    refine ⟨fun i o hi => (by cases hi), fun i hi => ?_, fun i l hi => ?_, fun i j oi oj li lj _ hi => (by cases hi), fun g hg => ?_⟩
    · have : ¬ i < P.globals.size := by simp [emp] at hi; omega
      simp [this]
    · split at hi
      · exact hR.block i l hi
      · cases hi
    · obtain ⟨l, q1, q2⟩ := hR.glob g hg
      exact ⟨l, by simp [hg, q1], q2⟩
  have hargs0 : VRs (fun i => if i < P.globals.size then m i else none) args args'.toList := by
    rw [e]
    refine VRs.of_get rfl fun i x x' e1 e2 => ?_
    rw [e1] at e2; cases e2
    exact (ha x (List.mem_of_getElem? e1)).vr
  refine (h _ w args' hargs0 hR0).mono ?_
  rintro v' w' ⟨u, H', m', rfl, q1, q2, q3⟩
  obtain ⟨b1, b2⟩ := back hR q3 fun k ⟨i, o, l, hi, _⟩ => by cases hi
  have : v' = u := hv.eq q1
  subst this
  exact ⟨v', H, m, k, hv.vr, b1, b2⟩

def roObj : AObj → Option AObj
  | .cells cs e _ => some (.cells cs e false)
  | .raw _ => none
/-- The heap, for reading only. -/
def AHeap.ro (H : AHeap) : AHeap := ⟨fun i => (H.get i).bind roObj, H.next⟩
theorem R.ro (hR : R P m H w) : R P m H.ro w := by
  have key : ∀ i o, H.ro.get i = some o → o.rw = false ∧ ∃ l, m i = some l ∧ OR m w l o := by
    intro i o hi
    simp only [AHeap.ro, Option.bind_eq_some_iff] at hi
    obtain ⟨o', h1, h2⟩ := hi
    obtain ⟨l, hl, ho⟩ := hR.obj i o' h1
    cases o' with
    | raw x => cases h2
    | cells cs e b =>
      cases h2
      refine ⟨rfl, l, hl, ?_⟩
      cases ho with
      | cells _ _ _ hs he ha hc hw => exact .cells cs e false hs he ha hc (by intro h; cases h)
  exact ⟨fun i o hi => (key i o hi).2, hR.fresh, hR.block, fun i j oi oj li lj _ hi hrw => absurd ((key i oi hi).1.symm.trans hrw) (by decide), hR.glob⟩
/-- A call that writes nothing of the heap and comes back with a plain value. -/
theorem RCalls.pureRo {f : FuncId} {args : List Value} {v : Value} (hv : Plain v) (H : AHeap) (h : RCalls P f args H.ro fun u _ => u = v) (K : Value → AHeap → Prop) (k : K v H) : RCalls P f args H K := by
  intro m w args' hargs hR
  refine (h m w args' hargs hR.ro).mono ?_
  rintro v' w' ⟨u, H', m', rfl, q1, q2, q3⟩
  obtain ⟨b1, b2⟩ := back hR q3 fun k ⟨i, o, l, hi, hrw, _⟩ => by
    simp only [AHeap.ro, Option.bind_eq_some_iff] at hi
    obtain ⟨o', h1, h2⟩ := hi
    cases o' with
    | raw x => cases h2
    | cells cs e b => cases h2; cases hrw
  have : v' = u := hv.eq q1
  subst this
  exact ⟨v', H, m, k, hv.vr, b1, b2⟩
end Go.LH
