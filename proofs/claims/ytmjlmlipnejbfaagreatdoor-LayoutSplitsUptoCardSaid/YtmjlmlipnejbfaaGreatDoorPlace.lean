/-
  Plans: laid, with what floats.
-/
import Derived.Test.YtmjlmlipnejbfaaGreatDoorSplit
set_option linter.all false
namespace Go.LH.Ty
open Go.Proofs
theorem ts31 : tsz Tryz.prog 31 = some 6 := by kernel_rfl
theorem un28 : type_of% Tryz.underlying28 := Tryz.underlying28
attribute [go_sem] ts31 un28
end Go.LH.Ty
namespace Go.LH.Plan
open Go.Proofs Go.LH.Ty Go.LH.Rect Go.LH.Solve Go.LH.Cut
def lineR (r : Rect) : Rect := ⟨r.x, r.y, r.w, min 1 (max (r.h - 1) 0)⟩
def downR (r : Rect) : Rect := ⟨r.x, r.y + min 1 (max (r.h - 1) 0), r.w, r.h - min 1 (max (r.h - 1) 0)⟩
theorem downR_RB {r : Rect} (h : RB r) : RB (downR r) := by unfold RB at *; unfold downR; dsimp only; omega
theorem wf_frame2 {B : AHeap} (hw : B.Wf) {a b : AObj} : (((B.put B.next a).put (B.next + 1) b).bump (B.next + 2)).Wf := by
  intro j q hq
  show j < B.next + 2
  rw [gx_bump, gx_put, gx_put] at hq
  split at hq
  · omega
  · split at hq
    · omega
    · have := hw _ _ hq; omega
theorem frame2 {H0 B : AHeap} {px si m m0 : Nat} {a b : AObj} (ok : POk H0 B px si m) (h0 : B.next ≤ m0) (hp : px < m0) (hm : m0 + 2 ≤ m) (h1 : si ≠ m0) (h2 : si ≠ m0 + 1) : POk H0 (((B.put m0 a).put (m0 + 1) b).bump (m0 + 2)) px si m := by
  obtain ⟨o1, o2, o3, o4, o5, o6, o7, o8, o8', o9, o10⟩ := ok
  refine ⟨o1, o2, o3, o4, o5, hm, ?_, ?_, ?_, o9, ?_⟩
  · intro j q hq
    show j < m0 + 2
    rw [gx_bump, gx_put, gx_put] at hq
    split at hq
    · omega
    · split at hq
      · omega
      · have := o7 _ _ hq; omega
  · rw [gx_bump, gx_put, gx_put, if_neg h2, if_neg h1]; exact o8
  · rw [gx_bump, gx_put, gx_put, if_neg (by omega), if_neg (by omega)]; exact o8'
  · intro j o hj
    have := o7 _ _ (o10 _ _ hj)
    rw [gx_bump, gx_put, gx_put, if_neg (by omega), if_neg (by omega)]; exact o10 _ _ hj
theorem frame2_back {H0 B : AHeap} {px si m m0 : Nat} {a b : AObj} (ok : POk H0 (((B.put m0 a).put (m0 + 1) b).bump (m0 + 2)) px si m) (hw : B.Wf) (h0 : B.next ≤ m0) (hp : B.get px = none) (hs : H0.Sub B) (hm : m0 + 2 ≤ m) : POk H0 B px si m ∧ si ≠ m0 ∧ si ≠ m0 + 1 := by
  obtain ⟨o1, o2, o3, o4, o5, o6, o7, o8, o8', o9, o10⟩ := ok
  have h2 : si ≠ m0 + 1 := by intro e; rw [e, gx_bump, gx_put, if_pos rfl] at o8; cases o8
  have h1 : si ≠ m0 := by intro e; rw [e, gx_bump, gx_put, gx_put, if_neg (by omega), if_pos rfl] at o8; cases o8
  refine ⟨⟨o1, o2, o3, o4, o5, by omega, hw, ?_, hp, o9, hs⟩, h1, h2⟩
  rw [gx_bump, gx_put, gx_put, if_neg h2, if_neg h1] at o8; exact o8
theorem stack_step {k : Nat} {r : Rect} {ss : List Spot} : stackM (k + 1) r ss = stackM k (downR r) (addM ss (cleanM (lineR r)) 0 true) := rfl
structure T3 where
  k : Nat
  r : Rect
  si : Nat
  m : Nat
  ss : List Spot
/-- s[1:] -/
theorem as_lo {P : Program} {H : AHeap} {t e : TypeId} {z i n c : Nat} {k : IntKind} {x : Int} {cs : List Value} {w : Bool} (hu : P.underlying t = some (.slice e)) (hs : tsz P e = some z) (h0 : 0 ≤ x) (h1 : x ≤ n) (hc : n ≤ c) (ho : H.get i = some (.cells cs z w)) :
    aslice P H t (slV true i n c) (some (.int k x)) none none = some (.slice (some ⟨i, 0 + x.toNat * z, none⟩) (n - x.toNat) (c - x.toNat)) := by
  simp only [aslice, hu, slV, hs, ho, asliceBounds, abound, Option.isNone_none, Option.isSome_none, Bool.and_false, Option.bind_some]
  rw [if_neg (by simp), if_pos ⟨h0, h1⟩]
  simp
set_option maxRecDepth 100000 in
set_option maxHeartbeats 4000000 in
theorem lay_spec : ∀ p : Plan, LayOk p := by
  refine plan_ind fun kind size name kids float ih => ?_
  intro v r ss H0 B px si m hp hms hr ok hlen K h
  have hms' := hms.parts
  simp only [Plan.kind, Plan.kids, Plan.size] at hms'
  obtain ⟨hok, hms'⟩ := hms'
  have hparts := hp.parts
  simp only [Plan.kind, Plan.kids, Plan.size, Plan.float] at hparts
  obtain ⟨e1, e2, e3, hfl, vs, hks, hkids, hkc⟩ := hparts
  have hlv := hkids.length
  obtain ⟨hb, hkn, hklt, hkobj, hkbnd, hkext⟩ := hks
  have ok' := ok
  obtain ⟨o1, o2, o3, o4, o5, o6, o7, o8, o8', o9, o10⟩ := ok'
  simp only [layM] at h
  simp only [nleaves] at hlen
  refine RCalls.forget ?_
  refine rcalls_enter (P := Tryz.prog) (rs := []) (by kernel_rfl) C13_sound Tryz.func23 rfl (by kernel_rfl) rfl rfl ?_
  by_cases h1 : kind = 1
  · rw [if_pos h1] at h
    simp (maxSteps := 4000000) (implicitDefEqProofs := false) (disch := first | assumption | omega | (simp (implicitDefEqProofs := false) only [next_add, next_put, next_drop, next_bump, next_putS, next_dropS, List.length_set, List.length_append, List.length_cons, List.length_nil, List.length_take]; first | done | omega)) only [go_sem, Nat.reduceBEq, reduceIte, Nat.reduceAdd, PH, e1, h1, dec_lt_t, dec_lt_f, dec_le_t, dec_le_f, dec_gt_t, dec_gt_f, dec_ge_t, dec_ge_f, dec_eq_t, dec_eq_f, dec_ne_t, dec_ne_f]
    refine RCalls.weaken (H2 := PH B px si (m + 2) ss) ?_ ?_
    · unfold PH
      ((with_reducible first | refine lex_bump ?_ ?_ | refine lex_sub ?_ ?_); all_goals repeat' (first | (with_reducible exact SubX.refl _ _) | (with_reducible refine SubX.of ?_; assumption) | (with_reducible apply subx_bump) | (with_reducible apply subx_bumpA) | (with_reducible apply subx_putS) | (with_reducible apply subx_put) | (with_reducible apply subx_addA) | (with_reducible apply subx_dropA) | (with_reducible apply subx_add o7) | (with_reducible apply subx_bput o7) | (with_reducible apply subx_bputS o7) | (with_reducible apply subx_drop o7) | (with_reducible apply subx_dropS o7) | omega | (simp (implicitDefEqProofs := false) only [next_add, next_put, next_drop, next_bump, next_putS, next_dropS]; omega) | (left; simp; done) | (right; left; omega) | (right; right; assumption) | (right; left; simp (implicitDefEqProofs := false) only [next_add, next_put, next_drop, next_bump, next_putS, next_dropS]; omega) | (intro h0; omega) | (intro h0; simp (maxSteps := 4000000) (implicitDefEqProofs := false) (disch := first | assumption | omega | (simp (implicitDefEqProofs := false) only [next_add, next_put, next_drop, next_bump, next_putS, next_dropS, List.length_set, List.length_append, List.length_cons, List.length_nil, List.length_take]; first | done | omega)) only [go_sem, Nat.reduceBEq, reduceIte, Nat.reduceAdd]; done) | (simp (maxSteps := 4000000) (implicitDefEqProofs := false) (disch := first | assumption | omega | (simp (implicitDefEqProofs := false) only [next_add, next_put, next_drop, next_bump, next_putS, next_dropS, List.length_set, List.length_append, List.length_cons, List.length_nil, List.length_take]; first | done | omega)) only [go_sem, Nat.reduceBEq, reduceIte, Nat.reduceAdd]; done)))
    refine add_spec H0 B px si (m + 2) ss ⟨o1, o2, o3, by omega, by omega, by omega, o7, o8, o8', o9, o10⟩ (by omega) r 0 false _ ?_
    intro si' m' hm' ok2
    simp (maxSteps := 4000000) (implicitDefEqProofs := false) (disch := first | assumption | omega | (simp (implicitDefEqProofs := false) only [next_add, next_put, next_drop, next_bump, next_putS, next_dropS, List.length_set, List.length_append, List.length_cons, List.length_nil, List.length_take]; first | done | omega)) only [go_sem, Nat.reduceBEq, reduceIte, Nat.reduceAdd, cast_zero, dec_lt_t, dec_lt_f, dec_le_t, dec_le_f, dec_gt_t, dec_gt_f, dec_ge_t, dec_ge_f, dec_eq_t, dec_eq_f, dec_ne_t, dec_ne_f]
    exact ⟨_, .refl _, h si' m' (by omega) ok2⟩
  rw [if_neg h1] at h
  rw [if_neg h1] at hlen
  rcases hms' with q | ⟨hk, hc1, hc16, hkms⟩
  · exact absurd q h1
  by_cases h4 : kind = 4
  · rw [if_pos h4] at h
    obtain ⟨rr, w, ho⟩ := hkobj (by omega)
    have hki := hklt (by omega)
    have hkb : v.kb = true := by rcases hb with q | q; exact q; omega
    have hoB := o10 _ _ ho
    have hkc' := hkc hkb
    have hkin := o7 _ _ hoB
    have hpk : v.ki ≠ px := by intro e; rw [e, o8'] at hoB; cases hoB
    have hsk : v.ki ≠ si := by intro e; rw [e, o8] at hoB; cases hoB
    have hnl : nleavesK kids = kids.length := nleavesK_one kids fun k hkk => (hkms k hkk).2 h4
    rw [hnl] at hlen
    simp (maxSteps := 4000000) (implicitDefEqProofs := false) (disch := first | assumption | omega | (simp (implicitDefEqProofs := false) only [next_add, next_put, next_drop, next_bump, next_putS, next_dropS, List.length_set, List.length_append, List.length_cons, List.length_nil, List.length_take]; first | done | omega)) only [go_sem, Nat.reduceBEq, reduceIte, Nat.reduceAdd, PH, e1, h4, hkb, dec_lt_t, dec_lt_f, dec_le_t, dec_le_f, dec_gt_t, dec_gt_f, dec_ge_t, dec_ge_f, dec_eq_t, dec_eq_f, dec_ne_t, dec_ne_f]
    refine stepV_go (as_lo (e := 31) (z := 6) (cs := vs.flatMap pcells ++ rr) (w := w) (by kernel_rfl) (by kernel_rfl) (by omega) (by omega) hkc' ?_) ?_
    · simp (maxSteps := 4000000) (implicitDefEqProofs := false) (disch := first | assumption | omega | (simp (implicitDefEqProofs := false) only [next_add, next_put, next_drop, next_bump, next_putS, next_dropS, List.length_set, List.length_append, List.length_cons, List.length_nil, List.length_take]; first | done | omega)) only [go_sem, Nat.reduceBEq, reduceIte, Nat.reduceAdd, hoB]
    simp (maxSteps := 4000000) (implicitDefEqProofs := false) (disch := first | assumption | omega | (simp (implicitDefEqProofs := false) only [next_add, next_put, next_drop, next_bump, next_putS, next_dropS, List.length_set, List.length_append, List.length_cons, List.length_nil, List.length_take]; first | done | omega)) only [go_sem, Nat.reduceBEq, reduceIte, Nat.reduceAdd, dec_lt_t, dec_lt_f, dec_le_t, dec_le_f, dec_gt_t, dec_gt_f, dec_ge_t, dec_ge_f, dec_eq_t, dec_eq_f, dec_ne_t, dec_ne_f]
    have hn1 : v.kn - Int.toNat 1 = kids.length - 1 := by rw [hkn, ← hlv]; rfl
    rw [hn1]
    refine loop_st (σ := T3) C13_mono [6, 24, 25, 26, 27, 28, 29, 30, 31, 32, 33, 34, 35, 36, 37, 38, 39, 40, 41, 42, 43, 44, 45, 46, 47, 48, 49] (fun s => [(24, .int .i64 (s.k : Int))])
      (fun s => PH (((B.put m (.cells [.int .i64 v.kind, .int .i64 v.sk, .int .i64 v.sn, .string v.name, slV v.kb v.ki v.kn v.kc, slV v.fb v.fi v.fn v.fc] 6 true)).put (m + 1) (.cells (rcells s.r) 4 true)).bump (m + 2)) px s.si s.m s.ss)
      (fun s => s.k ≤ kids.length - 1 ∧ RB s.r ∧ POk H0 B px s.si s.m ∧ s.si ≠ m ∧ s.si ≠ m + 1 ∧ m + 2 ≤ s.m ∧ stackM (kids.length - 1) r ss = stackM (kids.length - 1 - s.k) s.r s.ss ∧ s.ss.length + (kids.length - 1 - s.k) + 1 ≤ 500)
      (fun s => kids.length - 1 - s.k) ⟨0, r, si, m + 2, ss⟩ (by kernel_rfl) ⟨by simp, hr, ⟨o1, o2, o3, by dsimp only; omega, by dsimp only; omega, by dsimp only; omega, o7, o8, o8', o9, o10⟩, by dsimp only; omega, by dsimp only; omega, by simp, rfl, by dsimp only; omega⟩ ?_ ?_ ?_
    · simp (maxSteps := 4000000) (implicitDefEqProofs := false) (disch := first | assumption | omega | (simp (implicitDefEqProofs := false) only [next_add, next_put, next_drop, next_bump, next_putS, next_dropS, List.length_set, List.length_append, List.length_cons, List.length_nil, List.length_take]; first | done | omega)) only [go_sem, Nat.reduceBEq, reduceIte, Nat.reduceAdd, envHas_cons, envHas_nil, cast_succ, cast_zero]
    · dsimp only
      unfold PH
      simp only [rcells]
      ((with_reducible first | refine lex_bump ?_ ?_ | refine lex_sub ?_ ?_); all_goals repeat' (first | (with_reducible exact SubX.refl _ _) | (with_reducible refine SubX.of ?_; assumption) | (with_reducible apply subx_bump) | (with_reducible apply subx_bumpA) | (with_reducible apply subx_putS) | (with_reducible apply subx_put) | (with_reducible apply subx_addA) | (with_reducible apply subx_dropA) | (with_reducible apply subx_add o7) | (with_reducible apply subx_bput o7) | (with_reducible apply subx_bputS o7) | (with_reducible apply subx_drop o7) | (with_reducible apply subx_dropS o7) | omega | (simp (implicitDefEqProofs := false) only [next_add, next_put, next_drop, next_bump, next_putS, next_dropS]; omega) | (left; simp; done) | (right; left; omega) | (right; right; assumption) | (right; left; simp (implicitDefEqProofs := false) only [next_add, next_put, next_drop, next_bump, next_putS, next_dropS]; omega) | (intro h0; omega) | (intro h0; simp (maxSteps := 4000000) (implicitDefEqProofs := false) (disch := first | assumption | omega | (simp (implicitDefEqProofs := false) only [next_add, next_put, next_drop, next_bump, next_putS, next_dropS, List.length_set, List.length_append, List.length_cons, List.length_nil, List.length_take]; first | done | omega)) only [go_sem, Nat.reduceBEq, reduceIte, Nat.reduceAdd, e1, h4, hkb]; done) | (simp (maxSteps := 4000000) (implicitDefEqProofs := false) (disch := first | assumption | omega | (simp (implicitDefEqProofs := false) only [next_add, next_put, next_drop, next_bump, next_putS, next_dropS, List.length_set, List.length_append, List.length_cons, List.length_nil, List.length_take]; first | done | omega)) only [go_sem, Nat.reduceBEq, reduceIte, Nat.reduceAdd, e1, h4, hkb]; done)))
    rintro ⟨k, r2, si2, m4, ss2⟩ u2 ⟨g1, g2, g3, g4, g5, g6, g7, g8⟩ ⟨f24, -⟩
    dsimp only at *
    have g3' := g3
    obtain ⟨u1, u2', u3, u4, u5, u6, u7, u8, u8', u9, u10⟩ := g3'
    have g2' := g2
    unfold RB at g2'
    by_cases hlt2 : k < kids.length - 1
    · simp (maxSteps := 4000000) (implicitDefEqProofs := false) (disch := first | assumption | omega | (simp (implicitDefEqProofs := false) only [next_add, next_put, next_drop, next_bump, next_putS, next_dropS, List.length_set, List.length_append, List.length_cons, List.length_nil, List.length_take]; first | done | omega)) only [go_sem, Nat.reduceBEq, reduceIte, Nat.reduceAdd, PH, rcells, f24, dec_lt_t, dec_lt_f, dec_le_t, dec_le_f, dec_gt_t, dec_gt_f, dec_ge_t, dec_ge_f, dec_eq_t, dec_eq_f, dec_ne_t, dec_ne_f]
      refine draw_at 10 [(0, none), (1, none), (2, none), (3, none), (4, none), (5, none), (6, none), (7, none), (8, none), (9, none), (10, none), (11, some [8]), (12, none), (13, some [])] (by kernel_rfl) ?_
      simp (maxSteps := 4000000) (implicitDefEqProofs := false) (disch := first | assumption | omega | (simp (implicitDefEqProofs := false) only [next_add, next_put, next_drop, next_bump, next_putS, next_dropS, List.length_set, List.length_append, List.length_cons, List.length_nil, List.length_take]; first | done | omega)) only [go_sem, Nat.reduceBEq, reduceIte, Nat.reduceAdd, f24, dec_lt_t, dec_lt_f, dec_le_t, dec_le_f, dec_gt_t, dec_gt_f, dec_ge_t, dec_ge_f, dec_eq_t, dec_eq_f, dec_ne_t, dec_ne_f]
      have hst : stackM (kids.length - 1 - k) r2 ss2 = stackM (kids.length - 1 - (k + 1)) (downR r2) (addM ss2 (cleanM (lineR r2)) 0 true) := by
        obtain ⟨q, hq⟩ : ∃ q, kids.length - 1 - k = q + 1 := ⟨kids.length - 1 - k - 1, by omega⟩
        have hq2 : kids.length - 1 - (k + 1) = q := by omega
        rw [hq, hq2, stack_step]
      have hal : (addM ss2 (cleanM (lineR r2)) 0 true).length = ss2.length + 1 := by simp [addM]
      refine RCalls.weaken (H2 := PH (((B.put m (.cells [.int .i64 v.kind, .int .i64 v.sk, .int .i64 v.sn, .string v.name, slV v.kb v.ki v.kn v.kc, slV v.fb v.fi v.fn v.fc] 6 true)).put (m + 1) (.cells (rcells (downR r2)) 4 true)).bump (m + 2)) px si2 (m4 + 1) ss2) ?_ ?_
      · unfold PH
        simp only [rcells, downR]
        ((with_reducible first | refine lex_bump ?_ ?_ | refine lex_sub ?_ ?_); all_goals repeat' (first | (with_reducible exact SubX.refl _ _) | (with_reducible refine SubX.of ?_; assumption) | (with_reducible apply subx_bump) | (with_reducible apply subx_bumpA) | (with_reducible apply subx_putS) | (with_reducible apply subx_put) | (with_reducible apply subx_addA) | (with_reducible apply subx_dropA) | (with_reducible apply subx_add o7) | (with_reducible apply subx_bput o7) | (with_reducible apply subx_bputS o7) | (with_reducible apply subx_drop o7) | (with_reducible apply subx_dropS o7) | omega | (simp (implicitDefEqProofs := false) only [next_add, next_put, next_drop, next_bump, next_putS, next_dropS]; omega) | (left; simp; done) | (right; left; omega) | (right; right; assumption) | (right; left; simp (implicitDefEqProofs := false) only [next_add, next_put, next_drop, next_bump, next_putS, next_dropS]; omega) | (intro h0; omega) | (intro h0; simp (maxSteps := 4000000) (implicitDefEqProofs := false) (disch := first | assumption | omega | (simp (implicitDefEqProofs := false) only [next_add, next_put, next_drop, next_bump, next_putS, next_dropS, List.length_set, List.length_append, List.length_cons, List.length_nil, List.length_take]; first | done | omega)) only [go_sem, Nat.reduceBEq, reduceIte, Nat.reduceAdd]; done) | (simp (maxSteps := 4000000) (implicitDefEqProofs := false) (disch := first | assumption | omega | (simp (implicitDefEqProofs := false) only [next_add, next_put, next_drop, next_bump, next_putS, next_dropS, List.length_set, List.length_append, List.length_cons, List.length_nil, List.length_take]; first | done | omega)) only [go_sem, Nat.reduceBEq, reduceIte, Nat.reduceAdd]; done)))
      refine add_spec H0 _ px si2 (m4 + 1) ss2 (frame2 ⟨u1, u2', u3, by omega, by omega, by omega, u7, u8, u8', u9, u10⟩ o6 o4 (by omega) g4 g5) (by omega) (cleanM (lineR r2)) 0 true _ ?_
      intro si3 m5 hm5 ok3
      obtain ⟨ok4, y1, y2⟩ := frame2_back ok3 o7 o6 o8' o10 (by omega)
      simp (maxSteps := 4000000) (implicitDefEqProofs := false) (disch := first | assumption | omega | (simp (implicitDefEqProofs := false) only [next_add, next_put, next_drop, next_bump, next_putS, next_dropS, List.length_set, List.length_append, List.length_cons, List.length_nil, List.length_take]; first | done | omega)) only [go_sem, Nat.reduceBEq, reduceIte, Nat.reduceAdd, f24, dec_lt_t, dec_lt_f, dec_le_t, dec_le_f, dec_gt_t, dec_gt_f, dec_ge_t, dec_ge_f, dec_eq_t, dec_eq_f, dec_ne_t, dec_ne_f]
      refine ⟨⟨k + 1, downR r2, si3, m5, addM ss2 (cleanM (lineR r2)) 0 true⟩, ⟨by dsimp only; omega, downR_RB g2, ok4, y1, y2, by dsimp only; omega, by dsimp only; rw [g7, hst], by dsimp only; rw [hal]; omega⟩, ?_, ?_, by dsimp only; omega⟩
      · simp (maxSteps := 4000000) (implicitDefEqProofs := false) (disch := first | assumption | omega | (simp (implicitDefEqProofs := false) only [next_add, next_put, next_drop, next_bump, next_putS, next_dropS, List.length_set, List.length_append, List.length_cons, List.length_nil, List.length_take]; first | done | omega)) only [go_sem, Nat.reduceBEq, reduceIte, Nat.reduceAdd, f24, envHas_cons, envHas_nil, cast_succ, cast_zero]
      · dsimp only
        exact .refl _
    · have hke : kids.length - 1 - k = 0 := by omega
      rw [hke, stackM] at g7
      rw [g7] at h
      simp (maxSteps := 4000000) (implicitDefEqProofs := false) (disch := first | assumption | omega | (simp (implicitDefEqProofs := false) only [next_add, next_put, next_drop, next_bump, next_putS, next_dropS, List.length_set, List.length_append, List.length_cons, List.length_nil, List.length_take]; first | done | omega)) only [go_sem, Nat.reduceBEq, reduceIte, Nat.reduceAdd, PH, rcells, f24, dec_lt_t, dec_lt_f, dec_le_t, dec_le_f, dec_gt_t, dec_gt_f, dec_ge_t, dec_ge_f, dec_eq_t, dec_eq_f, dec_ne_t, dec_ne_f]
      refine RCalls.weaken (H2 := PH B px si2 m4 ss2) ?_ ?_
      · unfold PH
        ((with_reducible first | refine lex_bump ?_ ?_ | refine lex_sub ?_ ?_); all_goals repeat' (first | (with_reducible exact SubX.refl _ _) | (with_reducible refine SubX.of ?_; assumption) | (with_reducible apply subx_bump) | (with_reducible apply subx_bumpA) | (with_reducible apply subx_putS) | (with_reducible apply subx_put) | (with_reducible apply subx_addA) | (with_reducible apply subx_dropA) | (with_reducible apply subx_add o7) | (with_reducible apply subx_bput o7) | (with_reducible apply subx_bputS o7) | (with_reducible apply subx_drop o7) | (with_reducible apply subx_dropS o7) | omega | (simp (implicitDefEqProofs := false) only [next_add, next_put, next_drop, next_bump, next_putS, next_dropS]; omega) | (left; simp; done) | (right; left; omega) | (right; right; assumption) | (right; left; simp (implicitDefEqProofs := false) only [next_add, next_put, next_drop, next_bump, next_putS, next_dropS]; omega) | (intro h0; omega) | (intro h0; simp (maxSteps := 4000000) (implicitDefEqProofs := false) (disch := first | assumption | omega | (simp (implicitDefEqProofs := false) only [next_add, next_put, next_drop, next_bump, next_putS, next_dropS, List.length_set, List.length_append, List.length_cons, List.length_nil, List.length_take]; first | done | omega)) only [go_sem, Nat.reduceBEq, reduceIte, Nat.reduceAdd]; done) | (simp (maxSteps := 4000000) (implicitDefEqProofs := false) (disch := first | assumption | omega | (simp (implicitDefEqProofs := false) only [next_add, next_put, next_drop, next_bump, next_putS, next_dropS, List.length_set, List.length_append, List.length_cons, List.length_nil, List.length_take]; first | done | omega)) only [go_sem, Nat.reduceBEq, reduceIte, Nat.reduceAdd]; done)))
      refine add_spec H0 B px si2 m4 ss2 g3 (by omega) (cleanM r2) 0 false _ ?_
      intro si3 m5 hm5 ok3
      simp (maxSteps := 4000000) (implicitDefEqProofs := false) (disch := first | assumption | omega | (simp (implicitDefEqProofs := false) only [next_add, next_put, next_drop, next_bump, next_putS, next_dropS, List.length_set, List.length_append, List.length_cons, List.length_nil, List.length_take]; first | done | omega)) only [go_sem, Nat.reduceBEq, reduceIte, Nat.reduceAdd, dec_lt_t, dec_lt_f, dec_le_t, dec_le_f, dec_gt_t, dec_gt_f, dec_ge_t, dec_ge_f, dec_eq_t, dec_eq_f, dec_ne_t, dec_ne_f]
      exact ⟨_, .refl _, h si3 m5 (by omega) ok3⟩
  · rw [if_neg h4] at h
    have hk' : kind = 2 ∨ kind = 3 := by omega
    simp (maxSteps := 4000000) (implicitDefEqProofs := false) (disch := first | assumption | omega | (simp (implicitDefEqProofs := false) only [next_add, next_put, next_drop, next_bump, next_putS, next_dropS, List.length_set, List.length_append, List.length_cons, List.length_nil, List.length_take]; first | done | omega)) only [go_sem, Nat.reduceBEq, reduceIte, Nat.reduceAdd, PH, dec_lt_t, dec_lt_f, dec_le_t, dec_le_f, dec_gt_t, dec_gt_f, dec_ge_t, dec_ge_f, dec_eq_t, dec_eq_f, dec_ne_t, dec_ne_f]
    refine RCalls.weaken (H2 := PH B px si (m + 2) ss) ?_ ?_
    · unfold PH
      ((with_reducible first | refine lex_bump ?_ ?_ | refine lex_sub ?_ ?_); all_goals repeat' (first | (with_reducible exact SubX.refl _ _) | (with_reducible refine SubX.of ?_; assumption) | (with_reducible apply subx_bump) | (with_reducible apply subx_bumpA) | (with_reducible apply subx_putS) | (with_reducible apply subx_put) | (with_reducible apply subx_addA) | (with_reducible apply subx_dropA) | (with_reducible apply subx_add o7) | (with_reducible apply subx_bput o7) | (with_reducible apply subx_bputS o7) | (with_reducible apply subx_drop o7) | (with_reducible apply subx_dropS o7) | omega | (simp (implicitDefEqProofs := false) only [next_add, next_put, next_drop, next_bump, next_putS, next_dropS]; omega) | (left; simp; done) | (right; left; omega) | (right; right; assumption) | (right; left; simp (implicitDefEqProofs := false) only [next_add, next_put, next_drop, next_bump, next_putS, next_dropS]; omega) | (intro h0; omega) | (intro h0; simp (maxSteps := 4000000) (implicitDefEqProofs := false) (disch := first | assumption | omega | (simp (implicitDefEqProofs := false) only [next_add, next_put, next_drop, next_bump, next_putS, next_dropS, List.length_set, List.length_append, List.length_cons, List.length_nil, List.length_take]; first | done | omega)) only [go_sem, Nat.reduceBEq, reduceIte, Nat.reduceAdd]; done) | (simp (maxSteps := 4000000) (implicitDefEqProofs := false) (disch := first | assumption | omega | (simp (implicitDefEqProofs := false) only [next_add, next_put, next_drop, next_bump, next_putS, next_dropS, List.length_set, List.length_append, List.length_cons, List.length_nil, List.length_take]; first | done | omega)) only [go_sem, Nat.reduceBEq, reduceIte, Nat.reduceAdd]; done)))
    refine split_spec kind size name kids float ih hms hk' v r ss H0 B px si (m + 2) hp hr ⟨o1, o2, o3, by omega, by omega, by omega, o7, o8, o8', o9, o10⟩ hlen _ ?_
    intro si' m' hm' ok2
    simp (maxSteps := 4000000) (implicitDefEqProofs := false) (disch := first | assumption | omega | (simp (implicitDefEqProofs := false) only [next_add, next_put, next_drop, next_bump, next_putS, next_dropS, List.length_set, List.length_append, List.length_cons, List.length_nil, List.length_take]; first | done | omega)) only [go_sem, Nat.reduceBEq, reduceIte, Nat.reduceAdd, dec_lt_t, dec_lt_f, dec_le_t, dec_le_f, dec_gt_t, dec_gt_f, dec_ge_t, dec_ge_f, dec_eq_t, dec_eq_f, dec_ne_t, dec_ne_f]
    exact ⟨_, .refl _, h si' m' (by omega) ok2⟩
end Go.LH.Plan
