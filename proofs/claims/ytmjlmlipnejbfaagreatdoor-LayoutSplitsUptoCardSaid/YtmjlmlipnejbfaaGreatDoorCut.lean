/-
  A rectangle that is cut.
-/
import Derived.Test.YtmjlmlipnejbfaaGreatDoorSolve
set_option linter.all false
namespace Go.LH.Ty
open Go.Proofs
theorem aw29 {H : AHeap} {i j n k c : Nat} {w : Bool} {cs new : List Value} (hk : 0 < k) (hobj : 0 < n → H.get i = some (.cells cs 4 true)) (hcs : cs.length = n * 4) (hx : H.get j = some (.cells new 4 w)) (hnew : new.length = k * 4) (hone : new.all oneCell = true) (hb1 : (n + k) * 32 ≤ 140737488355328) (hb2 : n + k ≤ 140737488355328) : abuiltin Tryz.prog .append #[29, 29] [apS i n, .slice (some ⟨j, 0, none⟩) k c] H = some (apS H.next (n + k), (H.dropS i n).add (.cells (cs ++ new) 4 true)) := append_apS (e := 24) (t1 := 24) (zero := [.int .i64 0, .int .i64 0, .int .i64 0, .int .i64 0]) (by decide) (by kernel_rfl) (by kernel_rfl) (by kernel_rfl) (by kernel_rfl) (by kernel_rfl) rfl hk hobj hcs hx hnew hone hb1 hb2
theorem bs29 {H : AHeap} {v : Value} : abuildSlice Tryz.prog H 29 1 [(0, v)] = guardO (v.cells.toList.length == 4) (guardO (v.cells.toList.all oneCell) (some (.slice (some ⟨H.next, 0, none⟩) 1 1, H.add (.cells v.cells.toList 4 true)))) := build_one (e := 24) (zero := [.int .i64 0, .int .i64 0, .int .i64 0, .int .i64 0]) (by kernel_rfl) (by kernel_rfl) (by kernel_rfl) rfl (by decide)
theorem ts3 : tsz Tryz.prog 3 = some 1 := by kernel_rfl
theorem un37 : type_of% Tryz.underlying37 := Tryz.underlying37
attribute [go_sem] bs29 ts3 un37
end Go.LH.Ty
namespace Go.LH.Cut
open Go.Proofs Go.LH.Ty Go.LH.Rect Go.LH.Solve
instance : Inhabited Rect := ⟨⟨0, 0, 0, 0⟩⟩
def rcells (r : Rect) : List Value := [.int .i64 r.x, .int .i64 r.y, .int .i64 r.w, .int .i64 r.h]
theorem rc_z (x : Rect) : (rcells x).length = 4 := rfl
theorem rc_agg {xs : List Rect} {r : List Value} {k : Nat} (h : k < xs.length) : takeE (xs.flatMap rcells ++ r) (k * 4) 4 = some (rcells (nth xs k)) := flat_take rc_z h
theorem rc_agg0 {xs : List Rect} {k : Nat} (h : k < xs.length) : takeE (xs.flatMap rcells) (k * 4) 4 = some (rcells (nth xs k)) := by have := rc_agg (r := []) h; rwa [List.append_nil] at this
theorem rc_cell {xs : List Rect} {r : List Value} {k j : Nat} (h : k < xs.length) (hj : j < 4) : (xs.flatMap rcells ++ r)[k * 4 + j]? = (rcells (nth xs k))[j]? := flat_cell rc_z h hj
theorem rc_cell0 {xs : List Rect} {r : List Value} {k : Nat} (h : k < xs.length) : (xs.flatMap rcells ++ r)[k * 4]? = (rcells (nth xs k))[0]? := flat_cell (j := 0) rc_z h (by decide)
theorem rc_cell1 {xs : List Rect} {k j : Nat} (h : k < xs.length) (hj : j < 4) : (xs.flatMap rcells)[k * 4 + j]? = (rcells (nth xs k))[j]? := by have := rc_cell (r := []) h hj; rwa [List.append_nil] at this
theorem rc_cell2 {xs : List Rect} {k : Nat} (h : k < xs.length) : (xs.flatMap rcells)[k * 4]? = (rcells (nth xs k))[0]? := by have := rc_cell0 (r := []) h; rwa [List.append_nil] at this
theorem rc_len {xs : List Rect} : (xs.flatMap rcells).length = xs.length * 4 := flat_length rc_z xs
theorem rc_app {xs : List Rect} {x : Rect} : xs.flatMap rcells ++ rcells x = (xs ++ [x]).flatMap rcells := by simp
attribute [go_sem] rc_agg rc_agg0 rc_cell rc_cell0 rc_cell1 rc_cell2 rcells

/-- One part, and what is left. -/
def cut1 (r : Rect) (n : Int) (across : Bool) : Rect × Rect :=
  if across = true then (cleanM ⟨r.x, r.y, r.w, clampM n 0 r.h⟩, ⟨r.x, r.y + clampM n 0 r.h, r.w, r.h - clampM n 0 r.h⟩)
  else (cleanM ⟨r.x, r.y, clampM n 0 r.w, r.h⟩, ⟨r.x + clampM n 0 r.w, r.y, r.w - clampM n 0 r.w, r.h⟩)
def cutL (across : Bool) : Rect → List Int → List Rect
  | _, [] => []
  | r, n :: ns => (cut1 r n across).1 :: cutL across (cut1 r n across).2 ns
def restL (across : Bool) : Rect → List Int → Rect
  | r, [] => r
  | r, n :: ns => restL across (cut1 r n across).2 ns
theorem cutL_snoc (across : Bool) : ∀ (ns : List Int) (r : Rect) (n : Int), cutL across r (ns ++ [n]) = cutL across r ns ++ [(cut1 (restL across r ns) n across).1]
  | [], r, n => rfl
  | x :: ns, r, n => by simp only [List.cons_append, cutL, restL, cutL_snoc across ns]
theorem restL_snoc (across : Bool) : ∀ (ns : List Int) (r : Rect) (n : Int), restL across r (ns ++ [n]) = (cut1 (restL across r ns) n across).2
  | [], r, n => rfl
  | x :: ns, r, n => by simp only [List.cons_append, restL, restL_snoc across ns]
theorem cutL_len (across : Bool) : ∀ (ns : List Int) (r : Rect), (cutL across r ns).length = ns.length
  | [], r => rfl
  | x :: ns, r => by simp only [cutL, List.length_cons, cutL_len across ns]
def RB (r : Rect) : Prop := -5000 ≤ r.x ∧ r.x ≤ 5000 ∧ -5000 ≤ r.y ∧ r.y ≤ 5000 ∧ 0 ≤ r.w ∧ r.w ≤ 200 ∧ 0 ≤ r.h ∧ r.h ≤ 200 ∧ r.x + r.w ≤ 5000 ∧ r.y + r.h ≤ 5000
theorem cut1_RB {r : Rect} (h : RB r) (n : Int) (across : Bool) : RB (cut1 r n across).2 := by
  unfold RB at *
  unfold cut1
  cases across
  · have := clamp_bd n 0 r.w (by omega)
    simp; omega
  · have := clamp_bd n 0 r.h (by omega)
    simp; omega
theorem restL_RB (across : Bool) : ∀ (ns : List Int) (r : Rect), RB r → RB (restL across r ns)
  | [], r, h => h
  | x :: ns, r, h => restL_RB across ns _ (cut1_RB h x across)
def cutM (r : Rect) (ns : List Int) (across : Bool) : List Rect := cutL across (cleanM r) (ns.take 16)
structure S0 where
  k : Nat
  i : Nat
  m : Nat
set_option maxRecDepth 100000 in
set_option maxHeartbeats 1000000 in
theorem Cut_spec (r : Rect) (xs : List Int) (across b : Bool) (i n c : Nat) (H : AHeap) (hs : SlIs ic 1 H b i n xs) (hl16 : xs.length ≤ 16) (hcap : b = true → xs.length ≤ c) (K : Value → AHeap → Prop)
    (h : ∀ j m, H.next ≤ j → j < m → K (apS j xs.length) ((H.putS j xs.length (.cells ((cutM r xs across).flatMap rcells) 4 true)).bump m)) :
    RCalls Tryz.prog 50 [rv r, slV b i n c, .bool across] H K := by
  refine RCalls.wf fun hwf => RCalls.forget ?_
  obtain ⟨hb, rfl, hlt, hobj, hbnd, hext⟩ := hs
  have hcl := cleanM_bd r
  have htk16 : xs.take 16 = xs := List.take_of_length_le hl16
  have hcut : cutM r xs across = cutL across (cleanM r) xs := by rw [cutM, htk16]
  refine rcalls_enter (P := Tryz.prog) (rs := [.tmp 6]) (by kernel_rfl) C13_sound Tryz.func50 rfl (by kernel_rfl) rfl rfl ?_
  simp (maxSteps := 4000000) (implicitDefEqProofs := false) (disch := first | assumption | omega | (simp (implicitDefEqProofs := false) only [next_add, next_put, next_drop, next_bump, next_putS, next_dropS, List.length_set, List.length_append, List.length_cons, List.length_nil, List.length_take]; first | done | omega)) only [go_sem, Nat.reduceBEq, reduceIte, Nat.reduceAdd, dec_lt_t, dec_lt_f, dec_le_t, dec_le_f, dec_gt_t, dec_gt_f, dec_ge_t, dec_ge_f, dec_eq_t, dec_eq_f, dec_ne_t, dec_ne_f]
  have hmin : (min (xs.length : Int) 16) = (xs.length : Int) := by omega
  refine stepV_go (as_hi (e := 3) (z := 1) (by kernel_rfl) (by kernel_rfl) (by omega) (fun q => ?_) (by rcases hb with q | q; exact .inl q; exact .inr (by omega)) (fun q => ?_)) ?_
  · have := hcap q; omega
  · obtain ⟨h1, cs, w, e⟩ := hext q
    exact ⟨cs, w, by simp (maxSteps := 4000000) (implicitDefEqProofs := false) (disch := first | assumption | omega | (simp (implicitDefEqProofs := false) only [next_add, next_put, next_drop, next_bump, next_putS, next_dropS, List.length_set, List.length_append, List.length_cons, List.length_nil, List.length_take]; first | done | omega)) only [go_sem, Nat.reduceBEq, reduceIte, Nat.reduceAdd, e]⟩
  rw [hmin]
  simp (maxSteps := 4000000) (implicitDefEqProofs := false) (disch := first | assumption | omega | (simp (implicitDefEqProofs := false) only [next_add, next_put, next_drop, next_bump, next_putS, next_dropS, List.length_set, List.length_append, List.length_cons, List.length_nil, List.length_take]; first | done | omega)) only [go_sem, Nat.reduceBEq, reduceIte, Nat.reduceAdd, dec_lt_t, dec_lt_f, dec_le_t, dec_le_f, dec_gt_t, dec_gt_f, dec_ge_t, dec_ge_f, dec_eq_t, dec_eq_f, dec_ne_t, dec_ne_f]
  refine loop_st (σ := S0) C13_mono [7, 9, 10, 19, 20, 21, 22, 23, 24, 25, 26, 27, 28, 29, 30, 31, 32, 33, 34, 35, 36, 37, 38, 39, 40, 41, 42, 43, 44, 45, 46, 47, 48, 49, 50, 51, 52, 53, 54, 55, 56, 57, 58, 59, 60, 61, 62, 63, 64] (fun s => [(7, apS s.i s.k), (19, .int .i64 (s.k : Int))])
    (fun s => ((H.put H.next (.cells (rcells (restL across (cleanM r) (xs.take s.k))) 4 true)).putS s.i s.k (.cells ((cutL across (cleanM r) (xs.take s.k)).flatMap rcells) 4 true)).bump s.m)
    (fun s => s.k ≤ xs.length ∧ H.next < s.i ∧ s.i < s.m) (fun s => xs.length - s.k) ⟨0, H.next + 1, H.next + 2⟩ (by kernel_rfl) ⟨by simp, by simp, by simp⟩ ?_ ?_ ?_
  · simp (maxSteps := 4000000) (implicitDefEqProofs := false) (disch := first | assumption | omega | (simp (implicitDefEqProofs := false) only [next_add, next_put, next_drop, next_bump, next_putS, next_dropS, List.length_set, List.length_append, List.length_cons, List.length_nil, List.length_take]; first | done | omega)) only [go_sem, Nat.reduceBEq, reduceIte, Nat.reduceAdd, apS_zero, envHas_cons, envHas_nil, cast_succ, cast_zero]
  · dsimp only
    rw [List.take_zero, restL, cutL]
    ((with_reducible first | refine lex_bump ?_ ?_ | refine lex_sub ?_ ?_); all_goals repeat' (first | (with_reducible exact SubX.refl _ _) | (with_reducible refine SubX.of ?_; assumption) | (with_reducible apply subx_bump) | (with_reducible apply subx_bumpA) | (with_reducible apply subx_putS) | (with_reducible apply subx_put) | (with_reducible apply subx_addA) | (with_reducible apply subx_dropA) | (with_reducible apply subx_add hwf) | (with_reducible apply subx_bput hwf) | (with_reducible apply subx_bputS hwf) | (with_reducible apply subx_drop hwf) | (with_reducible apply subx_dropS hwf) | omega | (simp (implicitDefEqProofs := false) only [next_add, next_put, next_drop, next_bump, next_putS, next_dropS]; omega) | (left; simp; done) | (right; left; omega) | (right; right; assumption) | (right; left; simp (implicitDefEqProofs := false) only [next_add, next_put, next_drop, next_bump, next_putS, next_dropS]; omega) | (intro h0; omega) | (intro h0; simp (maxSteps := 4000000) (implicitDefEqProofs := false) (disch := first | assumption | omega | (simp (implicitDefEqProofs := false) only [next_add, next_put, next_drop, next_bump, next_putS, next_dropS, List.length_set, List.length_append, List.length_cons, List.length_nil, List.length_take]; first | done | omega)) only [go_sem, Nat.reduceBEq, reduceIte, Nat.reduceAdd]; done) | (simp (maxSteps := 4000000) (implicitDefEqProofs := false) (disch := first | assumption | omega | (simp (implicitDefEqProofs := false) only [next_add, next_put, next_drop, next_bump, next_putS, next_dropS, List.length_set, List.length_append, List.length_cons, List.length_nil, List.length_take]; first | done | omega)) only [go_sem, Nat.reduceBEq, reduceIte, Nat.reduceAdd]; done)))
  rintro ⟨k, i1, m⟩ u ⟨hk, q1, q2⟩ ⟨e7, e19, -⟩
  dsimp only at *
  by_cases hlt2 : k < xs.length
  · obtain ⟨rr, w, ho⟩ := hobj (by omega)
    have hlt' := hlt (by omega)
    have htake : xs.take (k + 1) = xs.take k ++ [nth xs k] := take_succ_nth hlt2
    have hc1 : cutL across (cleanM r) (xs.take (k + 1)) = cutL across (cleanM r) (xs.take k) ++ [(cut1 (restL across (cleanM r) (xs.take k)) (nth xs k) across).1] := by rw [htake, cutL_snoc]
    have hr1 : restL across (cleanM r) (xs.take (k + 1)) = (cut1 (restL across (cleanM r) (xs.take k)) (nth xs k) across).2 := by rw [htake, restL_snoc]
    have hRB := restL_RB across (xs.take k) (cleanM r) hcl
    have hcl2 : (cutL across (cleanM r) (xs.take k)).length = k := by rw [cutL_len, List.length_take]; omega
    generalize restL across (cleanM r) (xs.take k) = R at *
    generalize hCL : cutL across (cleanM r) (xs.take k) = CL at *
    unfold RB at hRB
    have hw := clamp_bd (nth xs k) 0 R.w (by omega)
    have hh := clamp_bd (nth xs k) 0 R.h (by omega)
    cases across
    · skip
      simp (maxSteps := 4000000) (implicitDefEqProofs := false) (disch := first | assumption | omega | (simp (implicitDefEqProofs := false) only [next_add, next_put, next_drop, next_bump, next_putS, next_dropS, List.length_set, List.length_append, List.length_cons, List.length_nil, List.length_take]; first | done | omega)) only [go_sem, Nat.reduceBEq, reduceIte, Nat.reduceAdd, e7, e19, ho, dec_lt_t, dec_lt_f, dec_le_t, dec_le_f, dec_gt_t, dec_gt_f, dec_ge_t, dec_ge_f, dec_eq_t, dec_eq_f, dec_ne_t, dec_ne_f]
      refine draw_at 11 [(0, none), (1, none), (2, none), (3, none), (4, none), (5, none), (6, none), (7, none), (8, none), (9, none), (10, none), (11, some [8]), (12, none), (13, some [])] (by kernel_rfl) ?_
      simp (maxSteps := 4000000) (implicitDefEqProofs := false) (disch := first | assumption | omega | (simp (implicitDefEqProofs := false) only [next_add, next_put, next_drop, next_bump, next_putS, next_dropS, List.length_set, List.length_append, List.length_cons, List.length_nil, List.length_take]; first | done | omega)) only [go_sem, Nat.reduceBEq, reduceIte, Nat.reduceAdd, e7, e19, ho, dec_lt_t, dec_lt_f, dec_le_t, dec_le_f, dec_gt_t, dec_gt_f, dec_ge_t, dec_ge_f, dec_eq_t, dec_eq_f, dec_ne_t, dec_ne_f]
      refine stepVH_go (aw29 (k := 1) (w := true) (cs := CL.flatMap rcells) (new := rcells (cut1 R (nth xs k) false).1) (by decide) (fun h0 => ?_) (by rw [rc_len, hcl2]) ?_ rfl rfl (by omega) (by omega)) ?_
      · simp (maxSteps := 4000000) (implicitDefEqProofs := false) (disch := first | assumption | omega | (simp (implicitDefEqProofs := false) only [next_add, next_put, next_drop, next_bump, next_putS, next_dropS, List.length_set, List.length_append, List.length_cons, List.length_nil, List.length_take]; first | done | omega)) only [go_sem, Nat.reduceBEq, reduceIte, Nat.reduceAdd]
      · simp (maxSteps := 4000000) (implicitDefEqProofs := false) (disch := first | assumption | omega | (simp (implicitDefEqProofs := false) only [next_add, next_put, next_drop, next_bump, next_putS, next_dropS, List.length_set, List.length_append, List.length_cons, List.length_nil, List.length_take]; first | done | omega)) only [go_sem, Nat.reduceBEq, reduceIte, Nat.reduceAdd]
        rfl
      simp (maxSteps := 4000000) (implicitDefEqProofs := false) (disch := first | assumption | omega | (simp (implicitDefEqProofs := false) only [next_add, next_put, next_drop, next_bump, next_putS, next_dropS, List.length_set, List.length_append, List.length_cons, List.length_nil, List.length_take]; first | done | omega)) only [go_sem, Nat.reduceBEq, reduceIte, Nat.reduceAdd, e7, e19, ho, dec_lt_t, dec_lt_f, dec_le_t, dec_le_f, dec_gt_t, dec_gt_f, dec_ge_t, dec_ge_f, dec_eq_t, dec_eq_f, dec_ne_t, dec_ne_f]
      refine ⟨⟨k + 1, m + 2, m + 3⟩, ⟨by dsimp only; omega, by dsimp only; omega, by dsimp only; omega⟩, ?_, ?_, by dsimp only; omega⟩
      · simp (maxSteps := 4000000) (implicitDefEqProofs := false) (disch := first | assumption | omega | (simp (implicitDefEqProofs := false) only [next_add, next_put, next_drop, next_bump, next_putS, next_dropS, List.length_set, List.length_append, List.length_cons, List.length_nil, List.length_take]; first | done | omega)) only [go_sem, Nat.reduceBEq, reduceIte, Nat.reduceAdd, e7, e19, envHas_cons, envHas_nil, cast_succ, cast_zero]
      · dsimp only
        rw [hc1, hr1]
        have e2 : (CL ++ [(cut1 R (nth xs k) false).1]).flatMap rcells = CL.flatMap rcells ++ rcells (cut1 R (nth xs k) false).1 := by simp
        rw [e2]
        simp only [cut1, Bool.false_eq_true, if_false, if_true, rcells]
        ((with_reducible first | refine lex_bump ?_ ?_ | refine lex_sub ?_ ?_); all_goals repeat' (first | (with_reducible exact SubX.refl _ _) | (with_reducible refine SubX.of ?_; assumption) | (with_reducible apply subx_bump) | (with_reducible apply subx_bumpA) | (with_reducible apply subx_putS) | (with_reducible apply subx_put) | (with_reducible apply subx_addA) | (with_reducible apply subx_dropA) | (with_reducible apply subx_add hwf) | (with_reducible apply subx_bput hwf) | (with_reducible apply subx_bputS hwf) | (with_reducible apply subx_drop hwf) | (with_reducible apply subx_dropS hwf) | omega | (simp (implicitDefEqProofs := false) only [next_add, next_put, next_drop, next_bump, next_putS, next_dropS]; omega) | (left; simp; done) | (right; left; omega) | (right; right; assumption) | (right; left; simp (implicitDefEqProofs := false) only [next_add, next_put, next_drop, next_bump, next_putS, next_dropS]; omega) | (intro h0; omega) | (intro h0; simp (maxSteps := 4000000) (implicitDefEqProofs := false) (disch := first | assumption | omega | (simp (implicitDefEqProofs := false) only [next_add, next_put, next_drop, next_bump, next_putS, next_dropS, List.length_set, List.length_append, List.length_cons, List.length_nil, List.length_take]; first | done | omega)) only [go_sem, Nat.reduceBEq, reduceIte, Nat.reduceAdd]; done) | (simp (maxSteps := 4000000) (implicitDefEqProofs := false) (disch := first | assumption | omega | (simp (implicitDefEqProofs := false) only [next_add, next_put, next_drop, next_bump, next_putS, next_dropS, List.length_set, List.length_append, List.length_cons, List.length_nil, List.length_take]; first | done | omega)) only [go_sem, Nat.reduceBEq, reduceIte, Nat.reduceAdd]; done)))
    · skip
      simp (maxSteps := 4000000) (implicitDefEqProofs := false) (disch := first | assumption | omega | (simp (implicitDefEqProofs := false) only [next_add, next_put, next_drop, next_bump, next_putS, next_dropS, List.length_set, List.length_append, List.length_cons, List.length_nil, List.length_take]; first | done | omega)) only [go_sem, Nat.reduceBEq, reduceIte, Nat.reduceAdd, e7, e19, ho, dec_lt_t, dec_lt_f, dec_le_t, dec_le_f, dec_gt_t, dec_gt_f, dec_ge_t, dec_ge_f, dec_eq_t, dec_eq_f, dec_ne_t, dec_ne_f]
      refine draw_at 9 [(0, none), (1, none), (2, none), (3, none), (4, none), (5, none), (6, none), (7, none), (8, none), (9, none), (10, none), (11, some [8]), (12, none), (13, some [])] (by kernel_rfl) ?_
      simp (maxSteps := 4000000) (implicitDefEqProofs := false) (disch := first | assumption | omega | (simp (implicitDefEqProofs := false) only [next_add, next_put, next_drop, next_bump, next_putS, next_dropS, List.length_set, List.length_append, List.length_cons, List.length_nil, List.length_take]; first | done | omega)) only [go_sem, Nat.reduceBEq, reduceIte, Nat.reduceAdd, e7, e19, ho, dec_lt_t, dec_lt_f, dec_le_t, dec_le_f, dec_gt_t, dec_gt_f, dec_ge_t, dec_ge_f, dec_eq_t, dec_eq_f, dec_ne_t, dec_ne_f]
      refine stepVH_go (aw29 (k := 1) (w := true) (cs := CL.flatMap rcells) (new := rcells (cut1 R (nth xs k) true).1) (by decide) (fun h0 => ?_) (by rw [rc_len, hcl2]) ?_ rfl rfl (by omega) (by omega)) ?_
      · simp (maxSteps := 4000000) (implicitDefEqProofs := false) (disch := first | assumption | omega | (simp (implicitDefEqProofs := false) only [next_add, next_put, next_drop, next_bump, next_putS, next_dropS, List.length_set, List.length_append, List.length_cons, List.length_nil, List.length_take]; first | done | omega)) only [go_sem, Nat.reduceBEq, reduceIte, Nat.reduceAdd]
      · simp (maxSteps := 4000000) (implicitDefEqProofs := false) (disch := first | assumption | omega | (simp (implicitDefEqProofs := false) only [next_add, next_put, next_drop, next_bump, next_putS, next_dropS, List.length_set, List.length_append, List.length_cons, List.length_nil, List.length_take]; first | done | omega)) only [go_sem, Nat.reduceBEq, reduceIte, Nat.reduceAdd]
        rfl
      simp (maxSteps := 4000000) (implicitDefEqProofs := false) (disch := first | assumption | omega | (simp (implicitDefEqProofs := false) only [next_add, next_put, next_drop, next_bump, next_putS, next_dropS, List.length_set, List.length_append, List.length_cons, List.length_nil, List.length_take]; first | done | omega)) only [go_sem, Nat.reduceBEq, reduceIte, Nat.reduceAdd, e7, e19, ho, dec_lt_t, dec_lt_f, dec_le_t, dec_le_f, dec_gt_t, dec_gt_f, dec_ge_t, dec_ge_f, dec_eq_t, dec_eq_f, dec_ne_t, dec_ne_f]
      refine ⟨⟨k + 1, m + 2, m + 3⟩, ⟨by dsimp only; omega, by dsimp only; omega, by dsimp only; omega⟩, ?_, ?_, by dsimp only; omega⟩
      · simp (maxSteps := 4000000) (implicitDefEqProofs := false) (disch := first | assumption | omega | (simp (implicitDefEqProofs := false) only [next_add, next_put, next_drop, next_bump, next_putS, next_dropS, List.length_set, List.length_append, List.length_cons, List.length_nil, List.length_take]; first | done | omega)) only [go_sem, Nat.reduceBEq, reduceIte, Nat.reduceAdd, e7, e19, envHas_cons, envHas_nil, cast_succ, cast_zero]
      · dsimp only
        rw [hc1, hr1]
        have e2 : (CL ++ [(cut1 R (nth xs k) true).1]).flatMap rcells = CL.flatMap rcells ++ rcells (cut1 R (nth xs k) true).1 := by simp
        rw [e2]
        simp only [cut1, Bool.false_eq_true, if_false, if_true, rcells]
        ((with_reducible first | refine lex_bump ?_ ?_ | refine lex_sub ?_ ?_); all_goals repeat' (first | (with_reducible exact SubX.refl _ _) | (with_reducible refine SubX.of ?_; assumption) | (with_reducible apply subx_bump) | (with_reducible apply subx_bumpA) | (with_reducible apply subx_putS) | (with_reducible apply subx_put) | (with_reducible apply subx_addA) | (with_reducible apply subx_dropA) | (with_reducible apply subx_add hwf) | (with_reducible apply subx_bput hwf) | (with_reducible apply subx_bputS hwf) | (with_reducible apply subx_drop hwf) | (with_reducible apply subx_dropS hwf) | omega | (simp (implicitDefEqProofs := false) only [next_add, next_put, next_drop, next_bump, next_putS, next_dropS]; omega) | (left; simp; done) | (right; left; omega) | (right; right; assumption) | (right; left; simp (implicitDefEqProofs := false) only [next_add, next_put, next_drop, next_bump, next_putS, next_dropS]; omega) | (intro h0; omega) | (intro h0; simp (maxSteps := 4000000) (implicitDefEqProofs := false) (disch := first | assumption | omega | (simp (implicitDefEqProofs := false) only [next_add, next_put, next_drop, next_bump, next_putS, next_dropS, List.length_set, List.length_append, List.length_cons, List.length_nil, List.length_take]; first | done | omega)) only [go_sem, Nat.reduceBEq, reduceIte, Nat.reduceAdd]; done) | (simp (maxSteps := 4000000) (implicitDefEqProofs := false) (disch := first | assumption | omega | (simp (implicitDefEqProofs := false) only [next_add, next_put, next_drop, next_bump, next_putS, next_dropS, List.length_set, List.length_append, List.length_cons, List.length_nil, List.length_take]; first | done | omega)) only [go_sem, Nat.reduceBEq, reduceIte, Nat.reduceAdd]; done)))
  · obtain rfl : k = xs.length := by omega
    have htk : xs.take xs.length = xs := List.take_of_length_le (Nat.le_refl _)
    simp (maxSteps := 4000000) (implicitDefEqProofs := false) (disch := first | assumption | omega | (simp (implicitDefEqProofs := false) only [next_add, next_put, next_drop, next_bump, next_putS, next_dropS, List.length_set, List.length_append, List.length_cons, List.length_nil, List.length_take]; first | done | omega)) only [go_sem, Nat.reduceBEq, reduceIte, Nat.reduceAdd, e7, e19, htk, dec_lt_t, dec_lt_f, dec_le_t, dec_le_f, dec_gt_t, dec_gt_f, dec_ge_t, dec_ge_f, dec_eq_t, dec_eq_f, dec_ne_t, dec_ne_f]
    refine ⟨_, ?_, h i1 m (by omega) q2⟩
    rw [hcut]
    ((with_reducible first | refine lex_bump ?_ ?_ | refine lex_sub ?_ ?_); all_goals repeat' (first | (with_reducible exact SubX.refl _ _) | (with_reducible refine SubX.of ?_; assumption) | (with_reducible apply subx_bump) | (with_reducible apply subx_bumpA) | (with_reducible apply subx_putS) | (with_reducible apply subx_put) | (with_reducible apply subx_addA) | (with_reducible apply subx_dropA) | (with_reducible apply subx_add hwf) | (with_reducible apply subx_bput hwf) | (with_reducible apply subx_bputS hwf) | (with_reducible apply subx_drop hwf) | (with_reducible apply subx_dropS hwf) | omega | (simp (implicitDefEqProofs := false) only [next_add, next_put, next_drop, next_bump, next_putS, next_dropS]; omega) | (left; simp; done) | (right; left; omega) | (right; right; assumption) | (right; left; simp (implicitDefEqProofs := false) only [next_add, next_put, next_drop, next_bump, next_putS, next_dropS]; omega) | (intro h0; omega) | (intro h0; simp (maxSteps := 4000000) (implicitDefEqProofs := false) (disch := first | assumption | omega | (simp (implicitDefEqProofs := false) only [next_add, next_put, next_drop, next_bump, next_putS, next_dropS, List.length_set, List.length_append, List.length_cons, List.length_nil, List.length_take]; first | done | omega)) only [go_sem, Nat.reduceBEq, reduceIte, Nat.reduceAdd]; done) | (simp (maxSteps := 4000000) (implicitDefEqProofs := false) (disch := first | assumption | omega | (simp (implicitDefEqProofs := false) only [next_add, next_put, next_drop, next_bump, next_putS, next_dropS, List.length_set, List.length_append, List.length_cons, List.length_nil, List.length_take]; first | done | omega)) only [go_sem, Nat.reduceBEq, reduceIte, Nat.reduceAdd]; done)))
end Go.LH.Cut
