/-
  The logical heap: calls with plain arguments that are worked out.
-/
import Derived.Test.YtmjlmlipnejbfaaGreatDoorLH16
set_option linter.all false
namespace Go.LH
variable {P : Program}

noncomputable def okFn (P : Program) (f : FuncId) : Bool := match P.funcs[f]? with
  | some fn => match fn.body with
    | some c => fn.name != "runtime.NumGoroutine" && codeOk P fn.ntmps c
    | none => false
  | none => false
theorem okFn_ok : FuncsOk P (okFn P) := by
  intro f fn c h hf hb
  unfold okFn at h
  rw [hf] at h
  simp only [hb] at h
  exact h
/-- Whether a call with these arguments comes back with this value. -/
noncomputable def ranB (P : Program) (f : FuncId) (args : List Value) (v : Value) : Bool := match xcalls P (okFn P) 1000000000 f args .leaf P.globals.size with
  | some (u, _, _) => veq u v
  | none => false
theorem ran {f : FuncId} {args : List Value} {v : Value} (hM : P.follows .mixedOrders = true) (h : ranB P f args v = true) (hv : plainAny v = true) (ha : args.all plainAny = true) (H : AHeap) (K : Value → AHeap → Prop) (k : K v H) : RCalls P f args H K := by
  unfold ranB at h
  split at h
  · rename_i u t n hr
    have := veq_eq h
    subst this
    refine RCalls.pure (plain_of_any hv) (fun x hx => plain_of_any (List.all_eq_true.1 ha x hx)) ?_ H K k
    rw [← emp_leaf]
    exact xcalls_ok hM okFn_ok _ _ _ _ _ _ _ _ hr _ rfl
  · cases h
end Go.LH
