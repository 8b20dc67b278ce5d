/-
  Plans: placed.
-/
import Derived.Test.YtmjlmlipnejbfaaGreatDoorPlace
set_option linter.all false
namespace Go.LH.Ty
open Go.Proofs
theorem ab70 {parts : List (Nat × Value)} : abuild Tryz.prog 70 parts = (afillL [(0, 1)] [.slice none 0 0] parts).map fun cs => .agg cs.toArray := abuild_struct (by kernel_rfl) (by kernel_rfl) parts
theorem bx70 {H : AHeap} {v : Value} : boxE Tryz.prog H 70 v = guardO (v.cells.toList.all oneCell) (some (.pointer (some ⟨H.next, 0, none⟩), H.add (.cells v.cells.toList 1 true))) := box_eq (by kernel_rfl)
attribute [go_sem] ab70 bx70
end Go.LH.Ty
namespace Go.LH.Plan
open Go.Proofs Go.LH.Ty Go.LH.Rect Go.LH.Solve Go.LH.Cut
def floatM (r : Rect) : Nat → List Rect → List Spot → List Spot
  | _, [], ss => ss
  | n, f :: fs, ss => floatM r (n + 1) fs (addM ss (intoM (shiftM f r.x r.y) r) (n + 1) false)
def placeM (p : Plan) (r : Rect) : List Spot := if checkM p = 0 then floatM (cleanM r) 0 p.float (layM p (cleanM r) []) else []
theorem frame1 {H0 B : AHeap} {px si m m0 : Nat} {a : AObj} (ok : POk H0 B px si m) (h0 : B.next ≤ m0) (hp : px < m0) (hm : m0 + 1 ≤ m) (h1 : si ≠ m0) : POk H0 ((B.put m0 a).bump (m0 + 1)) px si m := by
  obtain ⟨o1, o2, o3, o4, o5, o6, o7, o8, o8', o9, o10⟩ := ok
  refine ⟨o1, o2, o3, o4, o5, hm, ?_, ?_, ?_, o9, ?_⟩
  · intro j q hq
    show j < m0 + 1
    rw [gx_bump, gx_put] at hq
    split at hq
    · omega
    · have := o7 _ _ hq; omega
  · rw [gx_bump, gx_put, if_neg h1]; exact o8
  · rw [gx_bump, gx_put, if_neg (by omega)]; exact o8'
  · intro j o hj
    have := o7 _ _ (o10 _ _ hj)
    rw [gx_bump, gx_put, if_neg (by omega)]; exact o10 _ _ hj
theorem frame1_back {H0 B : AHeap} {px si m m0 : Nat} {a : AObj} (ok : POk H0 ((B.put m0 a).bump (m0 + 1)) px si m) (hw : B.Wf) (h0 : B.next ≤ m0) (hp : B.get px = none) (hs : H0.Sub B) (hm : m0 + 1 ≤ m) : POk H0 B px si m ∧ si ≠ m0 := by
  obtain ⟨o1, o2, o3, o4, o5, o6, o7, o8, o8', o9, o10⟩ := ok
  have h1 : si ≠ m0 := by intro e; rw [e, gx_bump, gx_put, if_pos rfl] at o8; cases o8
  refine ⟨⟨o1, o2, o3, o4, o5, by omega, hw, ?_, hp, o9, hs⟩, h1⟩
  rw [gx_bump, gx_put, if_neg h1] at o8; exact o8
structure T4 where
  k : Nat
  si : Nat
  m : Nat
  ss : List Spot
set_option maxRecDepth 100000 in
set_option maxHeartbeats 4000000 in
theorem Place_spec (p : Plan) (v : PV) (r : Rect) (H : AHeap) (hp : PlanIs H p v) (K : Value → AHeap → Prop)
    (h : ∀ j m, H.next ≤ j → j < m → K (apS j (placeM p r).length) ((H.putS j (placeM p r).length (.cells ((placeM p r).flatMap spc) 7 true)).bump m)) : RCalls Tryz.prog 8 [pv v, rv r] H K := by
  refine RCalls.wf fun hwf => RCalls.forget ?_
  obtain ⟨e1, e2, e3, hfl, -⟩ := hp.parts
  have hfl' := hfl
  obtain ⟨hb, hfn, hflt, hfobj, hfbd, hfext⟩ := hfl'
  have hcl := cleanM_bd r
  refine rcalls_enter (P := Tryz.prog) (rs := [.tmp 4]) (by kernel_rfl) C13_sound Tryz.func8 rfl (by kernel_rfl) rfl rfl ?_
  simp (maxSteps := 4000000) (implicitDefEqProofs := false) (disch := first | assumption | omega | (simp (implicitDefEqProofs := false) only [next_add, next_put, next_drop, next_bump, next_putS, next_dropS, List.length_set, List.length_append, List.length_cons, List.length_nil, List.length_take]; first | done | omega)) only [go_sem, Nat.reduceBEq, reduceIte, Nat.reduceAdd, dec_lt_t, dec_lt_f, dec_le_t, dec_le_f, dec_gt_t, dec_gt_f, dec_ge_t, dec_ge_f, dec_eq_t, dec_eq_f, dec_ne_t, dec_ne_f]
  refine Check_spec p v _ (hp.mono ?_ ?_) _ ?_
  · exact fun j o hj => by have q3 := hwf j o hj; simp (maxSteps := 4000000) (implicitDefEqProofs := false) (disch := first | assumption | omega | (simp (implicitDefEqProofs := false) only [next_add, next_put, next_drop, next_bump, next_putS, next_dropS, List.length_set, List.length_append, List.length_cons, List.length_nil, List.length_take]; first | done | omega)) only [go_sem, Nat.reduceBEq, reduceIte, Nat.reduceAdd, hj]
  · simp (maxSteps := 4000000) (implicitDefEqProofs := false) (disch := first | assumption | omega | (simp (implicitDefEqProofs := false) only [next_add, next_put, next_drop, next_bump, next_putS, next_dropS, List.length_set, List.length_append, List.length_cons, List.length_nil, List.length_take]; first | done | omega)) only [go_sem, Nat.reduceBEq, reduceIte, Nat.reduceAdd]; omega
  simp (maxSteps := 4000000) (implicitDefEqProofs := false) (disch := first | assumption | omega | (simp (implicitDefEqProofs := false) only [next_add, next_put, next_drop, next_bump, next_putS, next_dropS, List.length_set, List.length_append, List.length_cons, List.length_nil, List.length_take]; first | done | omega)) only [go_sem, Nat.reduceBEq, reduceIte, Nat.reduceAdd, dec_lt_t, dec_lt_f, dec_le_t, dec_le_f, dec_gt_t, dec_gt_f, dec_ge_t, dec_ge_f, dec_eq_t, dec_eq_f, dec_ne_t, dec_ne_f]
  refine condV_split (fun hc => ?_) (fun hc => ?_)
  · have hpm : placeM p r = [] := by unfold placeM; rw [if_neg (by simpa using hc)]
    simp (maxSteps := 4000000) (implicitDefEqProofs := false) (disch := first | assumption | omega | (simp (implicitDefEqProofs := false) only [next_add, next_put, next_drop, next_bump, next_putS, next_dropS, List.length_set, List.length_append, List.length_cons, List.length_nil, List.length_take]; first | done | omega)) only [go_sem, Nat.reduceBEq, reduceIte, Nat.reduceAdd, dec_lt_t, dec_lt_f, dec_le_t, dec_le_f, dec_gt_t, dec_gt_f, dec_ge_t, dec_ge_f, dec_eq_t, dec_eq_f, dec_ne_t, dec_ne_f]
    rw [hpm] at h
    refine ⟨_, ?_, h H.next (H.next + 2) (Nat.le_refl _) (by omega)⟩
    rw [List.length_nil]
    ((with_reducible first | refine lex_bump ?_ ?_ | refine lex_sub ?_ ?_); all_goals repeat' (first | (with_reducible exact SubX.refl _ _) | (with_reducible refine SubX.of ?_; assumption) | (with_reducible apply subx_bump) | (with_reducible apply subx_bumpA) | (with_reducible apply subx_putS) | (with_reducible apply subx_put) | (with_reducible apply subx_addA) | (with_reducible apply subx_dropA) | (with_reducible apply subx_add hwf) | (with_reducible apply subx_bput hwf) | (with_reducible apply subx_bputS hwf) | (with_reducible apply subx_drop hwf) | (with_reducible apply subx_dropS hwf) | omega | (simp (implicitDefEqProofs := false) only [next_add, next_put, next_drop, next_bump, next_putS, next_dropS]; omega) | (left; simp; done) | (right; left; omega) | (right; right; assumption) | (right; left; simp (implicitDefEqProofs := false) only [next_add, next_put, next_drop, next_bump, next_putS, next_dropS]; omega) | (intro h0; omega) | (intro h0; simp (maxSteps := 4000000) (implicitDefEqProofs := false) (disch := first | assumption | omega | (simp (implicitDefEqProofs := false) only [next_add, next_put, next_drop, next_bump, next_putS, next_dropS, List.length_set, List.length_append, List.length_cons, List.length_nil, List.length_take]; first | done | omega)) only [go_sem, Nat.reduceBEq, reduceIte, Nat.reduceAdd]; done) | (simp (maxSteps := 4000000) (implicitDefEqProofs := false) (disch := first | assumption | omega | (simp (implicitDefEqProofs := false) only [next_add, next_put, next_drop, next_bump, next_putS, next_dropS, List.length_set, List.length_append, List.length_cons, List.length_nil, List.length_take]; first | done | omega)) only [go_sem, Nat.reduceBEq, reduceIte, Nat.reduceAdd]; done)))
  have hc0 : checkM p = 0 := by simpa using hc
  have hpm : placeM p r = floatM (cleanM r) 0 p.float (layM p (cleanM r) []) := by unfold placeM; rw [if_pos hc0]
  obtain ⟨hme, hmf⟩ := checkM_zero.1 hc0
  have hnl := meas_leaves p 1 0 hme
  have hms : Ms p := ⟨1, 0, hme⟩
  have hmb := measM_bd p 1 0
  obtain ⟨B, hB⟩ : ∃ B, B = ((H.put H.next (.cells [.int .i64 v.kind, .int .i64 v.sk, .int .i64 v.sn, .string v.name, slV v.kb v.ki v.kn v.kc, slV v.fb v.fi v.fn v.fc] 6 true)).put (H.next + 1) (.cells [.int .i64 (cleanM r).x, .int .i64 (cleanM r).y, .int .i64 (cleanM r).w, .int .i64 (cleanM r).h] 4 true)).bump (H.next + 2) := ⟨_, rfl⟩
  have hBn : B.next = H.next + 2 := by rw [hB]; rfl
  have hB0 : B.get H.next = some (.cells [.int .i64 v.kind, .int .i64 v.sk, .int .i64 v.sn, .string v.name, slV v.kb v.ki v.kn v.kc, slV v.fb v.fi v.fn v.fc] 6 true) := by
    rw [hB]; simp (maxSteps := 4000000) (implicitDefEqProofs := false) (disch := first | assumption | omega | (simp (implicitDefEqProofs := false) only [next_add, next_put, next_drop, next_bump, next_putS, next_dropS, List.length_set, List.length_append, List.length_cons, List.length_nil, List.length_take]; first | done | omega)) only [go_sem, Nat.reduceBEq, reduceIte, Nat.reduceAdd]
  have hB1 : B.get (H.next + 1) = some (.cells [.int .i64 (cleanM r).x, .int .i64 (cleanM r).y, .int .i64 (cleanM r).w, .int .i64 (cleanM r).h] 4 true) := by
    rw [hB]; simp (maxSteps := 4000000) (implicitDefEqProofs := false) (disch := first | assumption | omega | (simp (implicitDefEqProofs := false) only [next_add, next_put, next_drop, next_bump, next_putS, next_dropS, List.length_set, List.length_append, List.length_cons, List.length_nil, List.length_take]; first | done | omega)) only [go_sem, Nat.reduceBEq, reduceIte, Nat.reduceAdd]
  have hBw : B.Wf := by rw [hB]; exact wf_frame2 hwf
  have hHB : H.Sub B := by
    intro j o hj
    have := hwf _ _ hj
    rw [hB, gx_bump, gx_put, gx_put, if_neg (by omega), if_neg (by omega)]; exact hj
  have hBo : ∀ {j}, H.next + 2 ≤ j → B.get j = none := by
    intro j hj
    cases e : B.get j with
    | none => rfl
    | some o => have := hBw _ _ e; omega
  have hok : POk H B (H.next + 2) (H.next + 3) (H.next + 4) := ⟨by omega, by omega, by omega, by omega, by omega, by omega, hBw, hBo (by omega), hBo (by omega), hwf, hHB⟩
  simp (maxSteps := 4000000) (implicitDefEqProofs := false) (disch := first | assumption | omega | (simp (implicitDefEqProofs := false) only [next_add, next_put, next_drop, next_bump, next_putS, next_dropS, List.length_set, List.length_append, List.length_cons, List.length_nil, List.length_take]; first | done | omega)) only [go_sem, Nat.reduceBEq, reduceIte, Nat.reduceAdd, dec_lt_t, dec_lt_f, dec_le_t, dec_le_f, dec_gt_t, dec_gt_f, dec_ge_t, dec_ge_f, dec_eq_t, dec_eq_f, dec_ne_t, dec_ne_f]
  refine RCalls.weaken (H2 := PH B (H.next + 2) (H.next + 3) (H.next + 4) []) ?_ ?_
  · unfold PH
    rw [hB]
    simp only [List.length_nil, apS_zero]
    ((with_reducible first | refine lex_bump ?_ ?_ | refine lex_sub ?_ ?_); all_goals repeat' (first | (with_reducible exact SubX.refl _ _) | (with_reducible refine SubX.of ?_; assumption) | (with_reducible apply subx_bump) | (with_reducible apply subx_bumpA) | (with_reducible apply subx_putS) | (with_reducible apply subx_put) | (with_reducible apply subx_addA) | (with_reducible apply subx_dropA) | (with_reducible apply subx_add hwf) | (with_reducible apply subx_bput hwf) | (with_reducible apply subx_bputS hwf) | (with_reducible apply subx_drop hwf) | (with_reducible apply subx_dropS hwf) | omega | (simp (implicitDefEqProofs := false) only [next_add, next_put, next_drop, next_bump, next_putS, next_dropS]; omega) | (left; simp; done) | (right; left; omega) | (right; right; assumption) | (right; left; simp (implicitDefEqProofs := false) only [next_add, next_put, next_drop, next_bump, next_putS, next_dropS]; omega) | (intro h0; omega) | (intro h0; simp (maxSteps := 4000000) (implicitDefEqProofs := false) (disch := first | assumption | omega | (simp (implicitDefEqProofs := false) only [next_add, next_put, next_drop, next_bump, next_putS, next_dropS, List.length_set, List.length_append, List.length_cons, List.length_nil, List.length_take]; first | done | omega)) only [go_sem, Nat.reduceBEq, reduceIte, Nat.reduceAdd]; done) | (simp (maxSteps := 4000000) (implicitDefEqProofs := false) (disch := first | assumption | omega | (simp (implicitDefEqProofs := false) only [next_add, next_put, next_drop, next_bump, next_putS, next_dropS, List.length_set, List.length_append, List.length_cons, List.length_nil, List.length_take]; first | done | omega)) only [go_sem, Nat.reduceBEq, reduceIte, Nat.reduceAdd]; done)))
  refine lay_spec p v (cleanM r) [] H B (H.next + 2) (H.next + 3) (H.next + 4) hp hms (clean_RB r) hok (by simp only [List.length_nil]; omega) _ ?_
  intro si1 m1 hm1 ok1
  have hll := layM_len p (cleanM r) [] hms
  rw [List.length_nil] at hll
  have y0 : H.next ≠ si1 := fun e => (by have := ok1.no; rw [← e, hB0] at this; cases this)
  have y1 : H.next + 1 ≠ si1 := fun e => (by have := ok1.no; rw [← e, hB1] at this; cases this)
  have hs1 := ok1.hsi
  simp (maxSteps := 4000000) (implicitDefEqProofs := false) (disch := first | assumption | omega | (simp (implicitDefEqProofs := false) only [next_add, next_put, next_drop, next_bump, next_putS, next_dropS, List.length_set, List.length_append, List.length_cons, List.length_nil, List.length_take]; first | done | omega)) only [go_sem, Nat.reduceBEq, reduceIte, Nat.reduceAdd, PH, hB0, hB1, dec_lt_t, dec_lt_f, dec_le_t, dec_le_f, dec_gt_t, dec_gt_f, dec_ge_t, dec_ge_f, dec_eq_t, dec_eq_f, dec_ne_t, dec_ne_f]
  refine loop_st (σ := T4) C13_mono [6, 7, 22, 23, 24, 25, 26, 27, 28, 29, 30, 31, 32, 33, 34, 35, 36, 37, 38, 39] (fun s => [(22, .int .i64 (s.k : Int))]) (fun s => PH B (H.next + 2) s.si s.m s.ss)
    (fun s => s.k ≤ p.float.length ∧ POk H B (H.next + 2) s.si s.m ∧ H.next + 4 ≤ s.m ∧ floatM (cleanM r) 0 p.float (layM p (cleanM r) []) = floatM (cleanM r) s.k (p.float.drop s.k) s.ss ∧ s.ss.length ≤ 100 + s.k)
    (fun s => p.float.length - s.k) ⟨0, si1, m1, layM p (cleanM r) []⟩ (by kernel_rfl) ⟨by simp, ok1, hm1, rfl, by dsimp only; omega⟩ ?_ ?_ ?_
  · simp (maxSteps := 4000000) (implicitDefEqProofs := false) (disch := first | assumption | omega | (simp (implicitDefEqProofs := false) only [next_add, next_put, next_drop, next_bump, next_putS, next_dropS, List.length_set, List.length_append, List.length_cons, List.length_nil, List.length_take]; first | done | omega)) only [go_sem, Nat.reduceBEq, reduceIte, Nat.reduceAdd, envHas_cons, envHas_nil, cast_succ, cast_zero]
  · dsimp only
    first | exact .refl _ | (unfold PH; exact .refl _)
  rintro ⟨k, si, m, ss⟩ u ⟨g1, g2, g3, g4, g5⟩ ⟨f22, -⟩
  dsimp only at *
  have g2' := g2
  obtain ⟨o1, o2, o3, o4, o5, o6, o7, o8, o8', o9, o10⟩ := g2'
  have y0 : H.next ≠ si := fun e => (by have := o8; rw [← e, hB0] at this; cases this)
  have y1 : H.next + 1 ≠ si := fun e => (by have := o8; rw [← e, hB1] at this; cases this)
  by_cases hlt2 : k < p.float.length
  · obtain ⟨rr, w, ho⟩ := hfobj (by omega)
    have hfi := hflt (by omega)
    have hoB := hHB _ _ ho
    have hdr : floatM (cleanM r) k (p.float.drop k) ss = floatM (cleanM r) (k + 1) (p.float.drop (k + 1)) (addM ss (intoM (shiftM (nth p.float k) (cleanM r).x (cleanM r).y) (cleanM r)) (k + 1) false) := by
      rw [drop_nth hlt2, floatM]
    have hal : ∀ x z t, (addM ss x z t).length = ss.length + 1 := by intro x z t; simp [addM]
    simp (maxSteps := 4000000) (implicitDefEqProofs := false) (disch := first | assumption | omega | (simp (implicitDefEqProofs := false) only [next_add, next_put, next_drop, next_bump, next_putS, next_dropS, List.length_set, List.length_append, List.length_cons, List.length_nil, List.length_take]; first | done | omega)) only [go_sem, Nat.reduceBEq, reduceIte, Nat.reduceAdd, PH, f22, hB0, hB1, hoB, dec_lt_t, dec_lt_f, dec_le_t, dec_le_f, dec_gt_t, dec_gt_f, dec_ge_t, dec_ge_f, dec_eq_t, dec_eq_f, dec_ne_t, dec_ne_f]
    refine draw_at 9 [(0, none), (1, none), (2, none), (3, none), (4, none), (5, none), (7, none), (9, none), (10, none), (6, none), (8, none), (11, some [1, 3, 5, 7])] (by kernel_rfl) ?_
    simp (maxSteps := 4000000) (implicitDefEqProofs := false) (disch := first | assumption | omega | (simp (implicitDefEqProofs := false) only [next_add, next_put, next_drop, next_bump, next_putS, next_dropS, List.length_set, List.length_append, List.length_cons, List.length_nil, List.length_take]; first | done | omega)) only [go_sem, Nat.reduceBEq, reduceIte, Nat.reduceAdd, f22, hB0, hB1, hoB, cast_succ, dec_lt_t, dec_lt_f, dec_le_t, dec_le_f, dec_gt_t, dec_gt_f, dec_ge_t, dec_ge_f, dec_eq_t, dec_eq_f, dec_ne_t, dec_ne_f]
    refine RCalls.weaken (H2 := PH ((B.put m (.cells [.int .i64 (nth p.float k).x, .int .i64 (nth p.float k).y, .int .i64 (nth p.float k).w, .int .i64 (nth p.float k).h] 4 true)).bump (m + 1)) (H.next + 2) si (m + 1) ss) ?_ ?_
    · unfold PH
      ((with_reducible first | refine lex_bump ?_ ?_ | refine lex_sub ?_ ?_); all_goals repeat' (first | (with_reducible exact SubX.refl _ _) | (with_reducible refine SubX.of ?_; assumption) | (with_reducible apply subx_bump) | (with_reducible apply subx_bumpA) | (with_reducible apply subx_putS) | (with_reducible apply subx_put) | (with_reducible apply subx_addA) | (with_reducible apply subx_dropA) | (with_reducible apply subx_add hBw) | (with_reducible apply subx_bput hBw) | (with_reducible apply subx_bputS hBw) | (with_reducible apply subx_drop hBw) | (with_reducible apply subx_dropS hBw) | omega | (simp (implicitDefEqProofs := false) only [next_add, next_put, next_drop, next_bump, next_putS, next_dropS]; omega) | (left; simp; done) | (right; left; omega) | (right; right; assumption) | (right; left; simp (implicitDefEqProofs := false) only [next_add, next_put, next_drop, next_bump, next_putS, next_dropS]; omega) | (intro h0; omega) | (intro h0; simp (maxSteps := 4000000) (implicitDefEqProofs := false) (disch := first | assumption | omega | (simp (implicitDefEqProofs := false) only [next_add, next_put, next_drop, next_bump, next_putS, next_dropS, List.length_set, List.length_append, List.length_cons, List.length_nil, List.length_take]; first | done | omega)) only [go_sem, Nat.reduceBEq, reduceIte, Nat.reduceAdd]; done) | (simp (maxSteps := 4000000) (implicitDefEqProofs := false) (disch := first | assumption | omega | (simp (implicitDefEqProofs := false) only [next_add, next_put, next_drop, next_bump, next_putS, next_dropS, List.length_set, List.length_append, List.length_cons, List.length_nil, List.length_take]; first | done | omega)) only [go_sem, Nat.reduceBEq, reduceIte, Nat.reduceAdd]; done)))
    refine add_spec H _ (H.next + 2) si (m + 1) ss (frame1 ⟨o1, o2, o3, by omega, by omega, by omega, o7, o8, o8', o9, o10⟩ o6 o4 (Nat.le_refl _) (by omega)) (by omega) (intoM (shiftM (nth p.float k) (cleanM r).x (cleanM r).y) (cleanM r)) (k + 1) false _ ?_
    intro si3 m5 hm5 ok3'
    obtain ⟨ok3, y5⟩ := frame1_back ok3' o7 o6 o8' o10 (by omega)
    have y3 : H.next ≠ si3 := fun e => (by have := ok3.no; rw [← e, hB0] at this; cases this)
    have y4 : H.next + 1 ≠ si3 := fun e => (by have := ok3.no; rw [← e, hB1] at this; cases this)
    simp (maxSteps := 4000000) (implicitDefEqProofs := false) (disch := first | assumption | omega | (simp (implicitDefEqProofs := false) only [next_add, next_put, next_drop, next_bump, next_putS, next_dropS, List.length_set, List.length_append, List.length_cons, List.length_nil, List.length_take]; first | done | omega)) only [go_sem, Nat.reduceBEq, reduceIte, Nat.reduceAdd, PH, f22, hB0, hB1, dec_lt_t, dec_lt_f, dec_le_t, dec_le_f, dec_gt_t, dec_gt_f, dec_ge_t, dec_ge_f, dec_eq_t, dec_eq_f, dec_ne_t, dec_ne_f]
    refine ⟨⟨k + 1, si3, m5, addM ss (intoM (shiftM (nth p.float k) (cleanM r).x (cleanM r).y) (cleanM r)) (k + 1) false⟩, ⟨by dsimp only; omega, ok3, by dsimp only; omega, by dsimp only; rw [g4, hdr], by dsimp only; rw [hal]; omega⟩, ?_, ?_, by dsimp only; omega⟩
    · simp (maxSteps := 4000000) (implicitDefEqProofs := false) (disch := first | assumption | omega | (simp (implicitDefEqProofs := false) only [next_add, next_put, next_drop, next_bump, next_putS, next_dropS, List.length_set, List.length_append, List.length_cons, List.length_nil, List.length_take]; first | done | omega)) only [go_sem, Nat.reduceBEq, reduceIte, Nat.reduceAdd, f22, envHas_cons, envHas_nil, cast_succ, cast_zero]
    · dsimp only
      have := ok3.no
      have y6 := ok3.ne
      ((with_reducible first | refine lex_bump ?_ ?_ | refine lex_sub ?_ ?_); all_goals repeat' (first | (with_reducible exact SubX.refl _ _) | (with_reducible refine SubX.of ?_; assumption) | (with_reducible apply subx_bump) | (with_reducible apply subx_bumpA) | (with_reducible apply subx_putS) | (with_reducible apply subx_put) | (with_reducible apply subx_addA) | (with_reducible apply subx_dropA) | (with_reducible apply subx_add hBw) | (with_reducible apply subx_bput hBw) | (with_reducible apply subx_bputS hBw) | (with_reducible apply subx_drop hBw) | (with_reducible apply subx_dropS hBw) | omega | (simp (implicitDefEqProofs := false) only [next_add, next_put, next_drop, next_bump, next_putS, next_dropS]; omega) | (left; simp; done) | (right; left; omega) | (right; right; assumption) | (right; left; simp (implicitDefEqProofs := false) only [next_add, next_put, next_drop, next_bump, next_putS, next_dropS]; omega) | (intro h0; omega) | (intro h0; simp (maxSteps := 4000000) (implicitDefEqProofs := false) (disch := first | assumption | omega | (simp (implicitDefEqProofs := false) only [next_add, next_put, next_drop, next_bump, next_putS, next_dropS, List.length_set, List.length_append, List.length_cons, List.length_nil, List.length_take]; first | done | omega)) only [go_sem, Nat.reduceBEq, reduceIte, Nat.reduceAdd]; done) | (simp (maxSteps := 4000000) (implicitDefEqProofs := false) (disch := first | assumption | omega | (simp (implicitDefEqProofs := false) only [next_add, next_put, next_drop, next_bump, next_putS, next_dropS, List.length_set, List.length_append, List.length_cons, List.length_nil, List.length_take]; first | done | omega)) only [go_sem, Nat.reduceBEq, reduceIte, Nat.reduceAdd]; done)))
  · have hke : k = p.float.length := by omega
    rw [hke, List.drop_of_length_le (Nat.le_refl _), floatM] at g4
    rw [hpm, g4] at h
    simp (maxSteps := 4000000) (implicitDefEqProofs := false) (disch := first | assumption | omega | (simp (implicitDefEqProofs := false) only [next_add, next_put, next_drop, next_bump, next_putS, next_dropS, List.length_set, List.length_append, List.length_cons, List.length_nil, List.length_take]; first | done | omega)) only [go_sem, Nat.reduceBEq, reduceIte, Nat.reduceAdd, PH, f22, dec_lt_t, dec_lt_f, dec_le_t, dec_le_f, dec_gt_t, dec_gt_f, dec_ge_t, dec_ge_f, dec_eq_t, dec_eq_f, dec_ne_t, dec_ne_f]
    refine ⟨_, ?_, h si m o2 o5⟩
    rw [hB]
    ((with_reducible first | refine lex_bump ?_ ?_ | refine lex_sub ?_ ?_); all_goals repeat' (first | (with_reducible exact SubX.refl _ _) | (with_reducible refine SubX.of ?_; assumption) | (with_reducible apply subx_bump) | (with_reducible apply subx_bumpA) | (with_reducible apply subx_putS) | (with_reducible apply subx_put) | (with_reducible apply subx_addA) | (with_reducible apply subx_dropA) | (with_reducible apply subx_add hwf) | (with_reducible apply subx_bput hwf) | (with_reducible apply subx_bputS hwf) | (with_reducible apply subx_drop hwf) | (with_reducible apply subx_dropS hwf) | omega | (simp (implicitDefEqProofs := false) only [next_add, next_put, next_drop, next_bump, next_putS, next_dropS]; omega) | (left; simp; done) | (right; left; omega) | (right; right; assumption) | (right; left; simp (implicitDefEqProofs := false) only [next_add, next_put, next_drop, next_bump, next_putS, next_dropS]; omega) | (intro h0; omega) | (intro h0; simp (maxSteps := 4000000) (implicitDefEqProofs := false) (disch := first | assumption | omega | (simp (implicitDefEqProofs := false) only [next_add, next_put, next_drop, next_bump, next_putS, next_dropS, List.length_set, List.length_append, List.length_cons, List.length_nil, List.length_take]; first | done | omega)) only [go_sem, Nat.reduceBEq, reduceIte, Nat.reduceAdd]; done) | (simp (maxSteps := 4000000) (implicitDefEqProofs := false) (disch := first | assumption | omega | (simp (implicitDefEqProofs := false) only [next_add, next_put, next_drop, next_bump, next_putS, next_dropS, List.length_set, List.length_append, List.length_cons, List.length_nil, List.length_take]; first | done | omega)) only [go_sem, Nat.reduceBEq, reduceIte, Nat.reduceAdd]; done)))
end Go.LH.Plan
