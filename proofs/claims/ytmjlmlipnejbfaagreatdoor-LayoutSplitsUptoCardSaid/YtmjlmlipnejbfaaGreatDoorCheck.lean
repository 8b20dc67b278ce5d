/-
  Plans: whether they are right; how many leaves they have.
-/
import Derived.Test.YtmjlmlipnejbfaaGreatDoorMeasure
set_option linter.all false
namespace Go.LH.Ty
open Go.Proofs
theorem al3 {H : AHeap} : allocT Tryz.prog H 3 = some (.pointer (some ⟨H.next, 0, none⟩), H.add (.cells [.int .i64 0] 1 true)) := alloc_eq (by kernel_rfl) (by kernel_rfl) (by kernel_rfl)
theorem ld29 {H : AHeap} {i o : Nat} : AHeap.load Tryz.prog H 29 i o = cellE (H.get i) o := load_cell (n := 1) (by kernel_rfl) (by kernel_rfl)
theorem ln29 {x : Value} {H : AHeap} : abuiltin Tryz.prog .len #[29] [x] H = (alenV Tryz.prog (some (.slice 24)) x).map fun v => (v, H) := by rw [b_len, show (#[29][0]?.bind (Program.underlying Tryz.prog)) = some (.slice 24) from by kernel_rfl]
theorem tf31_4 : tfield Tryz.prog 31 4 = some (29, 5) := by kernel_rfl
attribute [go_sem] al3 ld29 ln29 tf31_4
end Go.LH.Ty
namespace Go.LH.Plan
open Go.Proofs Go.LH.Ty Go.LH.Rect Go.LH.Solve Go.LH.Cut
mutual
theorem PlanIs.ro {H : AHeap} : ∀ (p : Plan) (v : PV), PlanIs H p v → PlanIs H.ro p v
  | .mk kind size name kids float, v, h => by
    simp only [PlanIs] at h ⊢
    obtain ⟨h1, h2, h3, h4, h5, h6, vs, h7, h8⟩ := h
    exact ⟨h1, h2, h3, h4, h5, h6.ro, vs, h7.ro, PlansIs.ro kids vs h8⟩
theorem PlansIs.ro {H : AHeap} : ∀ (ps : List Plan) (vs : List PV), PlansIs H ps vs → PlansIs H.ro ps vs
  | [], [], _ => by simp [PlansIs]
  | p :: ps, v :: vs, h => by
    simp only [PlansIs] at h ⊢
    exact ⟨PlanIs.ro p v h.1, PlansIs.ro ps vs h.2⟩
  | [], _ :: _, h => by simp [PlansIs] at h
  | _ :: _, [], h => by simp [PlansIs] at h
end
theorem PlanIs.parts {H : AHeap} : ∀ {p : Plan} {v : PV}, PlanIs H p v → v.kind = p.kind ∧ v.sk = p.size.kind ∧ v.sn = p.size.n ∧ SlIs rcells 4 H v.fb v.fi v.fn p.float ∧ ∃ vs, SlIs pcells 6 H v.kb v.ki v.kn vs ∧ PlansIs H p.kids vs ∧ (v.kb = true → v.kn ≤ v.kc)
  | .mk _ _ _ _ _, _, h => by
    simp only [PlanIs] at h
    obtain ⟨h1, h2, h3, h4, h5, h6, vs, h7, h8⟩ := h
    exact ⟨h1, h2, h3, h6, vs, h7, h8, h5⟩
def checkM (p : Plan) : Int := if (measM p 1 0).1 = true ∧ (p.float.length : Int) ≤ 24 - (measM p 1 0).2 then 0 else 100
def countM (p : Plan) : Int × Int := if checkM p = 0 then ((measM p 1 0).2, (p.float.length : Int)) else (0, 0)
theorem checkM_zero {p : Plan} : checkM p = 0 ↔ (measM p 1 0).1 = true ∧ (p.float.length : Int) ≤ 24 - (measM p 1 0).2 := by
  unfold checkM; split <;> simp_all
set_option maxRecDepth 100000 in
set_option maxHeartbeats 1000000 in
theorem Check_any (p : Plan) (v : PV) (H : AHeap) (hp : PlanIs H p v) (K : Value → AHeap → Prop) (h : ∀ H', K (.int .i64 (checkM p)) H') : RCalls Tryz.prog 7 [pv v] H K := by
  refine RCalls.wf fun hwf => ?_
  obtain ⟨e1, e2, e3, hfl, -⟩ := hp.parts
  obtain ⟨hb, hfn, -, -, hfbd, -⟩ := hfl
  have hmb := measM_bd p 1 0
  refine rcalls_enter (P := Tryz.prog) (rs := [.tmp 2]) (by kernel_rfl) C13_sound Tryz.func7 rfl (by kernel_rfl) rfl rfl ?_
  simp (maxSteps := 4000000) (implicitDefEqProofs := false) (disch := first | assumption | omega | (simp (implicitDefEqProofs := false) only [next_add, next_put, next_drop, next_bump, next_putS, next_dropS, List.length_set, List.length_append, List.length_cons, List.length_nil, List.length_take]; first | done | omega)) only [go_sem, Nat.reduceBEq, reduceIte, Nat.reduceAdd, dec_lt_t, dec_lt_f, dec_le_t, dec_le_f, dec_gt_t, dec_gt_f, dec_ge_t, dec_ge_f, dec_eq_t, dec_eq_f, dec_ne_t, dec_ne_f]
  refine measure_spec p v 1 0 H _ (H.next + 1) hp hwf ?_ (by omega) ?_ ?_ (by omega) (by omega) (by omega) _ ?_
  · exact fun j o hj => by have q3 := hwf j o hj; first | (simp (maxSteps := 4000000) (implicitDefEqProofs := false) (disch := first | assumption | omega | (simp (implicitDefEqProofs := false) only [next_add, next_put, next_drop, next_bump, next_putS, next_dropS, List.length_set, List.length_append, List.length_cons, List.length_nil, List.length_take]; first | done | omega)) only [go_sem, Nat.reduceBEq, reduceIte, Nat.reduceAdd]; done) | (simp (maxSteps := 4000000) (implicitDefEqProofs := false) (disch := first | assumption | omega | (simp (implicitDefEqProofs := false) only [next_add, next_put, next_drop, next_bump, next_putS, next_dropS, List.length_set, List.length_append, List.length_cons, List.length_nil, List.length_take]; first | done | omega)) only [go_sem, Nat.reduceBEq, reduceIte, Nat.reduceAdd]; exact hj)
  · first | omega | (simp (maxSteps := 4000000) (implicitDefEqProofs := false) (disch := first | assumption | omega | (simp (implicitDefEqProofs := false) only [next_add, next_put, next_drop, next_bump, next_putS, next_dropS, List.length_set, List.length_append, List.length_cons, List.length_nil, List.length_take]; first | done | omega)) only [go_sem, Nat.reduceBEq, reduceIte, Nat.reduceAdd]; done) | (simp (maxSteps := 4000000) (implicitDefEqProofs := false) (disch := first | assumption | omega | (simp (implicitDefEqProofs := false) only [next_add, next_put, next_drop, next_bump, next_putS, next_dropS, List.length_set, List.length_append, List.length_cons, List.length_nil, List.length_take]; first | done | omega)) only [go_sem, Nat.reduceBEq, reduceIte, Nat.reduceAdd]; omega)
  · simp (maxSteps := 4000000) (implicitDefEqProofs := false) (disch := first | assumption | omega | (simp (implicitDefEqProofs := false) only [next_add, next_put, next_drop, next_bump, next_putS, next_dropS, List.length_set, List.length_append, List.length_cons, List.length_nil, List.length_take]; first | done | omega)) only [go_sem, Nat.reduceBEq, reduceIte, Nat.reduceAdd]
  intro m hm
  simp (implicitDefEqProofs := false) only [next_add, next_put, next_drop, next_bump, next_putS, next_dropS] at hm
  simp (maxSteps := 4000000) (implicitDefEqProofs := false) (disch := first | assumption | omega | (simp (implicitDefEqProofs := false) only [next_add, next_put, next_drop, next_bump, next_putS, next_dropS, List.length_set, List.length_append, List.length_cons, List.length_nil, List.length_take]; first | done | omega)) only [go_sem, Nat.reduceBEq, reduceIte, Nat.reduceAdd, dec_lt_t, dec_lt_f, dec_le_t, dec_le_f, dec_gt_t, dec_gt_f, dec_ge_t, dec_ge_f, dec_eq_t, dec_eq_f, dec_ne_t, dec_ne_f]
  refine condV_split (fun hc => ?_) (fun hc => ?_)
  · simp (maxSteps := 4000000) (implicitDefEqProofs := false) (disch := first | assumption | omega | (simp (implicitDefEqProofs := false) only [next_add, next_put, next_drop, next_bump, next_putS, next_dropS, List.length_set, List.length_append, List.length_cons, List.length_nil, List.length_take]; first | done | omega)) only [go_sem, Nat.reduceBEq, reduceIte, Nat.reduceAdd, dec_lt_t, dec_lt_f, dec_le_t, dec_le_f, dec_gt_t, dec_gt_f, dec_ge_t, dec_ge_f, dec_eq_t, dec_eq_f, dec_ne_t, dec_ne_f]
    have : checkM p = 100 := by
      unfold checkM
      rw [if_neg]
      simp at hc
      intro q
      rcases hc with hc | hc
      · rw [q.1] at hc; cases hc
      · rw [hfn] at hc; omega
    rw [this] at h; exact h _
  · simp (maxSteps := 4000000) (implicitDefEqProofs := false) (disch := first | assumption | omega | (simp (implicitDefEqProofs := false) only [next_add, next_put, next_drop, next_bump, next_putS, next_dropS, List.length_set, List.length_append, List.length_cons, List.length_nil, List.length_take]; first | done | omega)) only [go_sem, Nat.reduceBEq, reduceIte, Nat.reduceAdd, dec_lt_t, dec_lt_f, dec_le_t, dec_le_f, dec_gt_t, dec_gt_f, dec_ge_t, dec_ge_f, dec_eq_t, dec_eq_f, dec_ne_t, dec_ne_f]
    have : checkM p = 0 := by
      rw [checkM_zero]
      simp at hc
      exact ⟨hc.1, by rw [hfn] at hc; omega⟩
    rw [this] at h; exact h _
set_option maxRecDepth 100000 in
theorem Check_spec (p : Plan) (v : PV) (H : AHeap) (hp : PlanIs H p v) (K : Value → AHeap → Prop) (h : K (.int .i64 (checkM p)) H) : RCalls Tryz.prog 7 [pv v] H K :=
  RCalls.pureRo (plain_of_any rfl) H (Check_any p v H.ro (PlanIs.ro p v hp) _ fun _ => rfl) K h
set_option maxRecDepth 100000 in
set_option maxHeartbeats 1000000 in
theorem Count_any (p : Plan) (v : PV) (H : AHeap) (hp : PlanIs H p v) (K : Value → AHeap → Prop) (h : ∀ H', K (.tuple [.int .i64 (countM p).1, .int .i64 (countM p).2].toArray) H') : RCalls Tryz.prog 14 [pv v] H K := by
  refine RCalls.wf fun hwf => ?_
  obtain ⟨e1, e2, e3, hfl, -⟩ := hp.parts
  obtain ⟨hb, hfn, -, -, hfbd, -⟩ := hfl
  have hmb := measM_bd p 1 0
  refine rcalls_enter (P := Tryz.prog) (rs := [.tmp 2, .tmp 3]) (by kernel_rfl) C13_sound Tryz.func14 rfl (by kernel_rfl) rfl rfl ?_
  simp (maxSteps := 4000000) (implicitDefEqProofs := false) (disch := first | assumption | omega | (simp (implicitDefEqProofs := false) only [next_add, next_put, next_drop, next_bump, next_putS, next_dropS, List.length_set, List.length_append, List.length_cons, List.length_nil, List.length_take]; first | done | omega)) only [go_sem, Nat.reduceBEq, reduceIte, Nat.reduceAdd, dec_lt_t, dec_lt_f, dec_le_t, dec_le_f, dec_gt_t, dec_gt_f, dec_ge_t, dec_ge_f, dec_eq_t, dec_eq_f, dec_ne_t, dec_ne_f]
  refine Check_spec p v _ (hp.mono ?_ ?_) _ ?_
  · exact fun j o hj => by have q3 := hwf j o hj; first | (simp (maxSteps := 4000000) (implicitDefEqProofs := false) (disch := first | assumption | omega | (simp (implicitDefEqProofs := false) only [next_add, next_put, next_drop, next_bump, next_putS, next_dropS, List.length_set, List.length_append, List.length_cons, List.length_nil, List.length_take]; first | done | omega)) only [go_sem, Nat.reduceBEq, reduceIte, Nat.reduceAdd]; done) | (simp (maxSteps := 4000000) (implicitDefEqProofs := false) (disch := first | assumption | omega | (simp (implicitDefEqProofs := false) only [next_add, next_put, next_drop, next_bump, next_putS, next_dropS, List.length_set, List.length_append, List.length_cons, List.length_nil, List.length_take]; first | done | omega)) only [go_sem, Nat.reduceBEq, reduceIte, Nat.reduceAdd]; exact hj)
  · simp (maxSteps := 4000000) (implicitDefEqProofs := false) (disch := first | assumption | omega | (simp (implicitDefEqProofs := false) only [next_add, next_put, next_drop, next_bump, next_putS, next_dropS, List.length_set, List.length_append, List.length_cons, List.length_nil, List.length_take]; first | done | omega)) only [go_sem, Nat.reduceBEq, reduceIte, Nat.reduceAdd]; omega
  simp (maxSteps := 4000000) (implicitDefEqProofs := false) (disch := first | assumption | omega | (simp (implicitDefEqProofs := false) only [next_add, next_put, next_drop, next_bump, next_putS, next_dropS, List.length_set, List.length_append, List.length_cons, List.length_nil, List.length_take]; first | done | omega)) only [go_sem, Nat.reduceBEq, reduceIte, Nat.reduceAdd, dec_lt_t, dec_lt_f, dec_le_t, dec_le_f, dec_gt_t, dec_gt_f, dec_ge_t, dec_ge_f, dec_eq_t, dec_eq_f, dec_ne_t, dec_ne_f]
  refine condV_split (fun hc => ?_) (fun hc => ?_)
  · simp (maxSteps := 4000000) (implicitDefEqProofs := false) (disch := first | assumption | omega | (simp (implicitDefEqProofs := false) only [next_add, next_put, next_drop, next_bump, next_putS, next_dropS, List.length_set, List.length_append, List.length_cons, List.length_nil, List.length_take]; first | done | omega)) only [go_sem, Nat.reduceBEq, reduceIte, Nat.reduceAdd, dec_lt_t, dec_lt_f, dec_le_t, dec_le_f, dec_gt_t, dec_gt_f, dec_ge_t, dec_ge_f, dec_eq_t, dec_eq_f, dec_ne_t, dec_ne_f]
    have : countM p = (0, 0) := by unfold countM; rw [if_neg (by simpa using hc)]
    rw [this] at h; exact h _
  · have hc0 : checkM p = 0 := by simpa using hc
    have : countM p = ((measM p 1 0).2, (p.float.length : Int)) := by unfold countM; rw [if_pos hc0]
    rw [this] at h
    simp (maxSteps := 4000000) (implicitDefEqProofs := false) (disch := first | assumption | omega | (simp (implicitDefEqProofs := false) only [next_add, next_put, next_drop, next_bump, next_putS, next_dropS, List.length_set, List.length_append, List.length_cons, List.length_nil, List.length_take]; first | done | omega)) only [go_sem, Nat.reduceBEq, reduceIte, Nat.reduceAdd, dec_lt_t, dec_lt_f, dec_le_t, dec_le_f, dec_gt_t, dec_gt_f, dec_ge_t, dec_ge_f, dec_eq_t, dec_eq_f, dec_ne_t, dec_ne_f]
    refine measure_spec p v 1 0 H _ (H.next + 1) hp hwf ?_ (by omega) ?_ ?_ (by omega) (by omega) (by omega) _ ?_
    · exact fun j o hj => by have q3 := hwf j o hj; first | (simp (maxSteps := 4000000) (implicitDefEqProofs := false) (disch := first | assumption | omega | (simp (implicitDefEqProofs := false) only [next_add, next_put, next_drop, next_bump, next_putS, next_dropS, List.length_set, List.length_append, List.length_cons, List.length_nil, List.length_take]; first | done | omega)) only [go_sem, Nat.reduceBEq, reduceIte, Nat.reduceAdd]; done) | (simp (maxSteps := 4000000) (implicitDefEqProofs := false) (disch := first | assumption | omega | (simp (implicitDefEqProofs := false) only [next_add, next_put, next_drop, next_bump, next_putS, next_dropS, List.length_set, List.length_append, List.length_cons, List.length_nil, List.length_take]; first | done | omega)) only [go_sem, Nat.reduceBEq, reduceIte, Nat.reduceAdd]; exact hj)
    · first | omega | (simp (maxSteps := 4000000) (implicitDefEqProofs := false) (disch := first | assumption | omega | (simp (implicitDefEqProofs := false) only [next_add, next_put, next_drop, next_bump, next_putS, next_dropS, List.length_set, List.length_append, List.length_cons, List.length_nil, List.length_take]; first | done | omega)) only [go_sem, Nat.reduceBEq, reduceIte, Nat.reduceAdd]; done) | (simp (maxSteps := 4000000) (implicitDefEqProofs := false) (disch := first | assumption | omega | (simp (implicitDefEqProofs := false) only [next_add, next_put, next_drop, next_bump, next_putS, next_dropS, List.length_set, List.length_append, List.length_cons, List.length_nil, List.length_take]; first | done | omega)) only [go_sem, Nat.reduceBEq, reduceIte, Nat.reduceAdd]; omega)
    · simp (maxSteps := 4000000) (implicitDefEqProofs := false) (disch := first | assumption | omega | (simp (implicitDefEqProofs := false) only [next_add, next_put, next_drop, next_bump, next_putS, next_dropS, List.length_set, List.length_append, List.length_cons, List.length_nil, List.length_take]; first | done | omega)) only [go_sem, Nat.reduceBEq, reduceIte, Nat.reduceAdd]
    intro m hm
    simp (implicitDefEqProofs := false) only [next_add, next_put, next_drop, next_bump, next_putS, next_dropS] at hm
    simp (maxSteps := 4000000) (implicitDefEqProofs := false) (disch := first | assumption | omega | (simp (implicitDefEqProofs := false) only [next_add, next_put, next_drop, next_bump, next_putS, next_dropS, List.length_set, List.length_append, List.length_cons, List.length_nil, List.length_take]; first | done | omega)) only [go_sem, Nat.reduceBEq, reduceIte, Nat.reduceAdd, dec_lt_t, dec_lt_f, dec_le_t, dec_le_f, dec_gt_t, dec_gt_f, dec_ge_t, dec_ge_f, dec_eq_t, dec_eq_f, dec_ne_t, dec_ne_f]
    refine draw_at 5 [(0, none), (1, none), (2, none), (3, none), (4, none), (5, none)] (by kernel_rfl) ?_
    simp (maxSteps := 4000000) (implicitDefEqProofs := false) (disch := first | assumption | omega | (simp (implicitDefEqProofs := false) only [next_add, next_put, next_drop, next_bump, next_putS, next_dropS, List.length_set, List.length_append, List.length_cons, List.length_nil, List.length_take]; first | done | omega)) only [go_sem, Nat.reduceBEq, reduceIte, Nat.reduceAdd, dec_lt_t, dec_lt_f, dec_le_t, dec_le_f, dec_gt_t, dec_gt_f, dec_ge_t, dec_ge_f, dec_eq_t, dec_eq_f, dec_ne_t, dec_ne_f]
    rw [hfn]
    exact h _
set_option maxRecDepth 100000 in
theorem Count_spec (p : Plan) (v : PV) (H : AHeap) (hp : PlanIs H p v) (K : Value → AHeap → Prop) (h : K (.tuple [.int .i64 (countM p).1, .int .i64 (countM p).2].toArray) H) : RCalls Tryz.prog 14 [pv v] H K :=
  RCalls.pureRo (plain_of_any rfl) H (Count_any p v H.ro (PlanIs.ro p v hp) _ fun _ => rfl) K h
end Go.LH.Plan
