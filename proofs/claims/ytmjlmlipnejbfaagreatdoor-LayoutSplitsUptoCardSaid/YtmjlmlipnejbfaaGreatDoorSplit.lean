/-
  Plans: how a split is laid.
-/
import Derived.Test.YtmjlmlipnejbfaaGreatDoorLay
set_option linter.all false
namespace Go.LH.Ty
open Go.Proofs
theorem aw22 {H : AHeap} {i j n k c : Nat} {w : Bool} {cs new : List Value} (hk : 0 < k) (hobj : 0 < n → H.get i = some (.cells cs 2 true)) (hcs : cs.length = n * 2) (hx : H.get j = some (.cells new 2 w)) (hnew : new.length = k * 2) (hone : new.all oneCell = true) (hb1 : (n + k) * 16 ≤ 140737488355328) (hb2 : n + k ≤ 140737488355328) : abuiltin Tryz.prog .append #[22, 22] [apS i n, .slice (some ⟨j, 0, none⟩) k c] H = some (apS H.next (n + k), (H.dropS i n).add (.cells (cs ++ new) 2 true)) := append_apS (e := 27) (t1 := 27) (zero := [.int .i64 0, .int .i64 0]) (by decide) (by kernel_rfl) (by kernel_rfl) (by kernel_rfl) (by kernel_rfl) (by kernel_rfl) rfl hk hobj hcs hx hnew hone hb1 hb2
theorem bs22 {H : AHeap} {v : Value} : abuildSlice Tryz.prog H 22 1 [(0, v)] = guardO (v.cells.toList.length == 2) (guardO (v.cells.toList.all oneCell) (some (.slice (some ⟨H.next, 0, none⟩) 1 1, H.add (.cells v.cells.toList 2 true)))) := build_one (e := 27) (zero := [.int .i64 0, .int .i64 0]) (by kernel_rfl) (by kernel_rfl) (by kernel_rfl) rfl (by decide)
theorem ia29 {i n c o : Nat} {k : IntKind} {x : Int} (h0 : 0 ≤ x) (h1 : x < n) : aindexAddr Tryz.prog 29 (.slice (some ⟨i, o, none⟩) n c) (.int k x) = some (.pointer (some ⟨i, o + x.toNat * 4, none⟩)) := ia_slice (e := 24) (by kernel_rfl) (by kernel_rfl) h0 h1
theorem ip29 {i n : Nat} {k : IntKind} {x : Int} (h0 : 0 ≤ x) (h1 : x < n) : aindexAddr Tryz.prog 29 (apS i n) (.int k x) = some (.pointer (some ⟨i, x.toNat * 4, none⟩)) := ia_apS (e := 24) (by kernel_rfl) (by kernel_rfl) h0 h1
theorem iv29 {i n c : Nat} {b : Bool} {k : IntKind} {x : Int} (hb : b = true ∨ n = 0) (h0 : 0 ≤ x) (h1 : x < n) : aindexAddr Tryz.prog 29 (slV b i n c) (.int k x) = some (.pointer (some ⟨i, x.toNat * 4, none⟩)) := ia_slV (e := 24) (by kernel_rfl) (by kernel_rfl) hb h0 h1
theorem ms37 {H : AHeap} {l c : Int} (h1 : 0 ≤ l) (h2 : l ≤ c) (h3 : c ≤ 140737488355328) (h4 : c * 8 ≤ 140737488355328) : amakeSlice Tryz.prog H 37 (.int .i64 l) (.int .i64 c) = some (.slice (some ⟨H.next, 0, none⟩) l.toNat c.toNat, H.add (.cells (azeros [.int .i64 0] c.toNat) 1 true)) := make_eq (e := 3) (bytes := 8) (by kernel_rfl) (by kernel_rfl) (by kernel_rfl) (by kernel_rfl) rfl rfl h1 h2 h3 h4
attribute [go_sem] bs22 ia29 ip29 iv29 ms37
end Go.LH.Ty
namespace Go.LH.Plan
open Go.Proofs Go.LH.Ty Go.LH.Rect Go.LH.Solve Go.LH.Cut
def LayOk (p : Plan) : Prop := ∀ (v : PV) (r : Rect) (ss : List Spot) (H0 B : AHeap) (px si m : Nat), PlanIs H0 p v → Ms p → RB r → POk H0 B px si m → ss.length + nleaves p ≤ 500 → ∀ (K : Value → AHeap → Prop),
  (∀ si' m', m ≤ m' → POk H0 B px si' m' → K (.tuple #[]) (PH B px si' m' (layM p r ss))) →
  RCalls Tryz.prog 23 [.pointer (some ⟨px, 0, none⟩), pv v, rv r] (PH B px si m ss) K
theorem PH_next {B : AHeap} {px si m : Nat} {ss : List Spot} : (PH B px si m ss).next = m := rfl
theorem PH.wf {H0 B : AHeap} {px si m : Nat} (ok : POk H0 B px si m) (ss : List Spot) : (PH B px si m ss).Wf := by
  obtain ⟨o1, o2, o3, o4, o5, o6, o7, -, -, -, -⟩ := ok
  intro j q hq
  unfold PH at hq ⊢
  rw [gx_bump, gx_putS, gx_put] at hq
  show j < m
  split at hq
  · rename_i e; omega
  · split at hq
    · omega
    · have := o7 _ _ hq; omega
theorem nleavesK_le : ∀ {ps : List Plan} {k : Nat}, k < ps.length → nleavesK (ps.drop k) = nleaves (nth ps k) + nleavesK (ps.drop (k + 1)) := by
  intro ps k h
  rw [drop_nth h, nleavesK]
theorem layKs_drop {ps : List Plan} {rs : List Rect} {k : Nat} {ss : List Spot} (h : k < ps.length) (h2 : k < rs.length) : layKs (ps.drop k) (rs.drop k) ss = layKs (ps.drop (k + 1)) (rs.drop (k + 1)) (layM (nth ps k) (nth rs k) ss) := by
  rw [drop_nth h, drop_nth h2, layKs]
theorem clean_RB (r : Rect) : RB (cleanM r) := cleanM_bd r
theorem cutL_RB (across : Bool) : ∀ (ns : List Int) (r : Rect), ∀ x ∈ cutL across r ns, RB x
  | [], r, x, h => by simp [cutL] at h
  | n :: ns, r, x, h => by
    simp only [cutL] at h
    rcases List.mem_cons.1 h with rfl | h
    · unfold cut1; split <;> exact clean_RB _
    · exact cutL_RB across ns _ x h
theorem sizes_at {H : AHeap} {ps : List Plan} {vs : List PV} (h : PlansIs H ps vs) {k : Nat} (hk : k < ps.length) : (nth vs k).sk = (nth ps k).size.kind ∧ (nth vs k).sn = (nth ps k).size.n :=
  ⟨(h.nth k hk).parts.2.1, (h.nth k hk).parts.2.2.1⟩
structure T0 where
  k : Nat
  i : Nat
  m : Nat
structure T2 where
  k : Nat
  si : Nat
  m : Nat
  ss : List Spot
theorem slIs_ap {α : Type} {f : α → List Value} {z : Nat} {H : AHeap} {i n : Nat} {xs : List α} (hl : n = xs.length) (hb : n ≤ 9223372036854775807) (hi : 0 < n → i < H.next) (h : 0 < n → H.get i = some (.cells (xs.flatMap f) z true)) : SlIs f z H (decide (0 < n)) i n xs :=
  ⟨by by_cases q : 0 < n; exact .inl (by simpa using q); exact .inr (by omega), hl, hi, fun q => ⟨[], true, by rw [h q, List.append_nil]⟩, hb, fun q => by have := of_decide_eq_true q; exact ⟨hi this, _, true, h this⟩⟩
theorem rep_flat : ∀ n, (List.replicate n (0 : Int)).flatMap ic = List.replicate n (.int .i64 0)
  | 0 => rfl
  | n + 1 => by rw [List.replicate_succ, List.replicate_succ, List.flatMap_cons, rep_flat n]; rfl
theorem slIs_mk {α : Type} {f : α → List Value} {z : Nat} {H : AHeap} {i n : Nat} {xs : List α} (hl : n = xs.length) (hb : n ≤ 9223372036854775807) (hi : i < H.next) (h : H.get i = some (.cells (xs.flatMap f) z true)) : SlIs f z H true i n xs :=
  ⟨.inl rfl, hl, fun _ => hi, fun _ => ⟨[], true, by rw [h, List.append_nil]⟩, hb, fun _ => ⟨hi, _, true, h⟩⟩
set_option maxRecDepth 100000 in
set_option maxHeartbeats 4000000 in
theorem split_spec (kind : Int) (size : Size) (name : ByteArray) (kids : List Plan) (float : List Rect) (ih : ∀ k ∈ kids, LayOk k) (hms : Ms (.mk kind size name kids float)) (hk : kind = 2 ∨ kind = 3)
    (v : PV) (r : Rect) (ss : List Spot) (H0 B : AHeap) (px si m : Nat) (hp : PlanIs H0 (.mk kind size name kids float) v) (hr : RB r) (ok : POk H0 B px si m) (hlen : ss.length + nleavesK kids ≤ 500) (K : Value → AHeap → Prop)
    (h : ∀ si' m', m ≤ m' → POk H0 B px si' m' → K (.tuple #[]) (PH B px si' m' (layKs kids (cutM r (lensM (totalM kind r) (kids.map Plan.size)) (decide (kind = 3))) ss))) :
    RCalls Tryz.prog 39 [.pointer (some ⟨px, 0, none⟩), pv v, rv r] (PH B px si m ss) K := by
  refine RCalls.forget ?_
  have hwfP := PH.wf ok ss
  obtain ⟨hok, hms⟩ := hms.parts
  simp only [Plan.kind, Plan.kids, Plan.size] at hok hms
  have hk1 : kind ≠ 1 := by omega
  rcases hms with q | ⟨-, hc1, hc16, hkms⟩
  · exact absurd q hk1
  obtain ⟨e1, e2, e3, hfl, vs, hks, hkids, hkc⟩ := hp.parts
  simp only [Plan.kind, Plan.kids, Plan.size, Plan.float] at e1 e2 e3 hfl hkids
  have hlv := hkids.length
  obtain ⟨hb, hkn, hklt, hkobj, hkbnd, hkext⟩ := hks
  obtain ⟨rr, w, ho⟩ := hkobj (by omega)
  have hki := hklt (by omega)
  have hkb : v.kb = true := by rcases hb with q | q; exact q; omega
  have ok' := ok
  obtain ⟨o1, o2, o3, o4, o5, o6, o7, o8, o8', o9, o10⟩ := ok'
  have hoB := o10 _ _ ho
  unfold RB at hr
  have hpx := PH.wf ok ss
  obtain ⟨X, hX⟩ : ∃ X, X = ((PH B px si m ss).add (.cells [.int .i64 v.kind, .int .i64 v.sk, .int .i64 v.sn, .string v.name, slV v.kb v.ki v.kn v.kc, slV v.fb v.fi v.fn v.fc] 6 true)).add (.cells [.int .i64 r.x, .int .i64 r.y, .int .i64 r.w, .int .i64 r.h] 4 true) := ⟨_, rfl⟩
  have hPn : (PH B px si m ss).next = m := rfl
  have hXn : X.next = m + 2 := by rw [hX]; rfl
  have hXw : X.Wf := by rw [hX]; exact wf_add (wf_add hwfP _) _
  have hX0 : X.get m = some (.cells [.int .i64 v.kind, .int .i64 v.sk, .int .i64 v.sn, .string v.name, slV v.kb v.ki v.kn v.kc, slV v.fb v.fi v.fn v.fc] 6 true) := by
    rw [hX]; unfold PH; simp (maxSteps := 4000000) (implicitDefEqProofs := false) (disch := first | assumption | omega | (simp (implicitDefEqProofs := false) only [next_add, next_put, next_drop, next_bump, next_putS, next_dropS, List.length_set, List.length_append, List.length_cons, List.length_nil, List.length_take]; first | done | omega)) only [go_sem, Nat.reduceBEq, reduceIte, Nat.reduceAdd]
  have hX1 : X.get (m + 1) = some (.cells [.int .i64 r.x, .int .i64 r.y, .int .i64 r.w, .int .i64 r.h] 4 true) := by
    rw [hX]; unfold PH; simp (maxSteps := 4000000) (implicitDefEqProofs := false) (disch := first | assumption | omega | (simp (implicitDefEqProofs := false) only [next_add, next_put, next_drop, next_bump, next_putS, next_dropS, List.length_set, List.length_append, List.length_cons, List.length_nil, List.length_take]; first | done | omega)) only [go_sem, Nat.reduceBEq, reduceIte, Nat.reduceAdd]
  have hXk : X.get v.ki = some (.cells (vs.flatMap pcells ++ rr) 6 w) := by
    rw [hX]; unfold PH; simp (maxSteps := 4000000) (implicitDefEqProofs := false) (disch := first | assumption | omega | (simp (implicitDefEqProofs := false) only [next_add, next_put, next_drop, next_bump, next_putS, next_dropS, List.length_set, List.length_append, List.length_cons, List.length_nil, List.length_take]; first | done | omega)) only [go_sem, Nat.reduceBEq, reduceIte, Nat.reduceAdd, hoB]
  have hXp : X.get px = some (.cells [apS si ss.length] 1 true) := by
    rw [hX]; unfold PH; simp (maxSteps := 4000000) (implicitDefEqProofs := false) (disch := first | assumption | omega | (simp (implicitDefEqProofs := false) only [next_add, next_put, next_drop, next_bump, next_putS, next_dropS, List.length_set, List.length_append, List.length_cons, List.length_nil, List.length_take]; first | done | omega)) only [go_sem, Nat.reduceBEq, reduceIte, Nat.reduceAdd]
  have hXs : 0 < ss.length → X.get si = some (.cells (ss.flatMap spc) 7 true) := by
    intro h0; rw [hX]; unfold PH; simp (maxSteps := 4000000) (implicitDefEqProofs := false) (disch := first | assumption | omega | (simp (implicitDefEqProofs := false) only [next_add, next_put, next_drop, next_bump, next_putS, next_dropS, List.length_set, List.length_append, List.length_cons, List.length_nil, List.length_take]; first | done | omega)) only [go_sem, Nat.reduceBEq, reduceIte, Nat.reduceAdd]
  have hBX : B.Sub X := by
    intro j o hj
    have q1 := o7 _ _ hj
    have q2 : j ≠ px := by intro e; rw [e, o8'] at hj; cases hj
    have q3 : j ≠ si := by intro e; rw [e, o8] at hj; cases hj
    rw [hX]; unfold PH; simp (maxSteps := 4000000) (implicitDefEqProofs := false) (disch := first | assumption | omega | (simp (implicitDefEqProofs := false) only [next_add, next_put, next_drop, next_bump, next_putS, next_dropS, List.length_set, List.length_append, List.length_cons, List.length_nil, List.length_take]; first | done | omega)) only [go_sem, Nat.reduceBEq, reduceIte, Nat.reduceAdd, hj]
  have hvk : ∀ {n : Int}, kind = n → v.kind = n := fun e => e1.trans e
  have hvn : (v.kn : Int) = (kids.length : Int) := by rw [hkn, ← hlv]
  have hszl : (kids.map Plan.size).length = kids.length := List.length_map ..
  have hsz : ∀ k, k < kids.length → nth (kids.map Plan.size) k = (nth kids k).size := fun k hk => nth_map hk
  have hkl2 := hkbnd
  generalize hS : kids.map Plan.size = sizes at *
  refine rcalls_enter (P := Tryz.prog) (rs := []) (by kernel_rfl) C13_sound Tryz.func39 rfl (by kernel_rfl) rfl rfl ?_
  rcases hk with rfl | rfl
  · rw [show decide ((2 : Int) = 3) = false from by decide] at h
    simp (maxSteps := 4000000) (implicitDefEqProofs := false) (disch := first | assumption | omega | (simp (implicitDefEqProofs := false) only [next_add, next_put, next_drop, next_bump, next_putS, next_dropS, List.length_set, List.length_append, List.length_cons, List.length_nil, List.length_take]; first | done | omega)) only [go_sem, Nat.reduceBEq, reduceIte, Nat.reduceAdd, PH_next, dec_lt_t, dec_lt_f, dec_le_t, dec_le_f, dec_gt_t, dec_gt_f, dec_ge_t, dec_ge_f, dec_eq_t, dec_eq_f, dec_ne_t, dec_ne_f]
    refine draw_at 1 [(0, none), (1, none), (2, none), (3, none), (4, none), (5, none), (6, none)] (by kernel_rfl) ?_
    simp (maxSteps := 4000000) (implicitDefEqProofs := false) (disch := first | assumption | omega | (simp (implicitDefEqProofs := false) only [next_add, next_put, next_drop, next_bump, next_putS, next_dropS, List.length_set, List.length_append, List.length_cons, List.length_nil, List.length_take]; first | done | omega)) only [go_sem, Nat.reduceBEq, reduceIte, Nat.reduceAdd, PH_next, hX0, hX1, dec_lt_t, dec_lt_f, dec_le_t, dec_le_f, dec_gt_t, dec_gt_f, dec_ge_t, dec_ge_f, dec_eq_t, dec_eq_f, dec_ne_t, dec_ne_f]
    rw [← hX]
    refine loop_st (σ := T0) C13_mono [8, 10, 27, 28, 29, 30, 31, 32, 33, 34, 35, 36] (fun s => [(8, apS s.i s.k), (27, .int .i64 (s.k : Int))]) (fun s => (X.putS s.i s.k (.cells ((sizes.take s.k).flatMap scells) 2 true)).bump s.m)
      (fun s => s.k ≤ kids.length ∧ m + 2 ≤ s.i ∧ s.i < s.m) (fun s => kids.length - s.k) ⟨0, m + 2, m + 3⟩ (by kernel_rfl) ⟨by simp, by simp, by simp⟩ ?_ ?_ ?_
    · simp (maxSteps := 4000000) (implicitDefEqProofs := false) (disch := first | assumption | omega | (simp (implicitDefEqProofs := false) only [next_add, next_put, next_drop, next_bump, next_putS, next_dropS, List.length_set, List.length_append, List.length_cons, List.length_nil, List.length_take]; first | done | omega)) only [go_sem, Nat.reduceBEq, reduceIte, Nat.reduceAdd, apS_zero, envHas_cons, envHas_nil, cast_succ, cast_zero]
    · dsimp only
      ((with_reducible first | refine lex_bump ?_ ?_ | refine lex_sub ?_ ?_); all_goals repeat' (first | (with_reducible exact SubX.refl _ _) | (with_reducible refine SubX.of ?_; assumption) | (with_reducible apply subx_bump) | (with_reducible apply subx_bumpA) | (with_reducible apply subx_putS) | (with_reducible apply subx_put) | (with_reducible apply subx_addA) | (with_reducible apply subx_dropA) | (with_reducible apply subx_add hXw) | (with_reducible apply subx_bput hXw) | (with_reducible apply subx_bputS hXw) | (with_reducible apply subx_drop hXw) | (with_reducible apply subx_dropS hXw) | omega | (simp (implicitDefEqProofs := false) only [next_add, next_put, next_drop, next_bump, next_putS, next_dropS]; omega) | (left; simp; done) | (right; left; omega) | (right; right; assumption) | (right; left; simp (implicitDefEqProofs := false) only [next_add, next_put, next_drop, next_bump, next_putS, next_dropS]; omega) | (intro h0; omega) | (intro h0; simp (maxSteps := 4000000) (implicitDefEqProofs := false) (disch := first | assumption | omega | (simp (implicitDefEqProofs := false) only [next_add, next_put, next_drop, next_bump, next_putS, next_dropS, List.length_set, List.length_append, List.length_cons, List.length_nil, List.length_take]; first | done | omega)) only [go_sem, Nat.reduceBEq, reduceIte, Nat.reduceAdd, hXn]; done) | (simp (maxSteps := 4000000) (implicitDefEqProofs := false) (disch := first | assumption | omega | (simp (implicitDefEqProofs := false) only [next_add, next_put, next_drop, next_bump, next_putS, next_dropS, List.length_set, List.length_append, List.length_cons, List.length_nil, List.length_take]; first | done | omega)) only [go_sem, Nat.reduceBEq, reduceIte, Nat.reduceAdd, hXn]; done)))
    rintro ⟨k, i1, m1⟩ u ⟨g1, g2, g3⟩ ⟨f8, f27, -⟩
    dsimp only at *
    by_cases hlt2 : k < kids.length
    · have hkv : k < vs.length := by omega
      obtain ⟨s1, s2⟩ := sizes_at hkids hlt2
      have htk : sizes.take (k + 1) = sizes.take k ++ [nth sizes k] := take_succ_nth (by omega)
      have hkl : (sizes.take k).length = k := by rw [List.length_take]; omega
      have hnk := hsz k hlt2
      simp (maxSteps := 4000000) (implicitDefEqProofs := false) (disch := first | assumption | omega | (simp (implicitDefEqProofs := false) only [next_add, next_put, next_drop, next_bump, next_putS, next_dropS, List.length_set, List.length_append, List.length_cons, List.length_nil, List.length_take]; first | done | omega)) only [go_sem, Nat.reduceBEq, reduceIte, Nat.reduceAdd, f8, f27, hXk, hvn, dec_lt_t, dec_lt_f, dec_le_t, dec_le_f, dec_gt_t, dec_gt_f, dec_ge_t, dec_ge_f, dec_eq_t, dec_eq_f, dec_ne_t, dec_ne_f]
      refine stepVH_go (aw22 (k := 1) (w := true) (cs := (sizes.take k).flatMap scells) (new := scells (nth sizes k)) (by decide) (fun h0 => ?_) (by rw [sz_len, hkl]) ?_ rfl rfl (by omega) (by omega)) ?_
      · simp (maxSteps := 4000000) (implicitDefEqProofs := false) (disch := first | assumption | omega | (simp (implicitDefEqProofs := false) only [next_add, next_put, next_drop, next_bump, next_putS, next_dropS, List.length_set, List.length_append, List.length_cons, List.length_nil, List.length_take]; first | done | omega)) only [go_sem, Nat.reduceBEq, reduceIte, Nat.reduceAdd]
      · rw [hnk]
        simp (maxSteps := 4000000) (implicitDefEqProofs := false) (disch := first | assumption | omega | (simp (implicitDefEqProofs := false) only [next_add, next_put, next_drop, next_bump, next_putS, next_dropS, List.length_set, List.length_append, List.length_cons, List.length_nil, List.length_take]; first | done | omega)) only [go_sem, Nat.reduceBEq, reduceIte, Nat.reduceAdd, s1, s2]
      simp (maxSteps := 4000000) (implicitDefEqProofs := false) (disch := first | assumption | omega | (simp (implicitDefEqProofs := false) only [next_add, next_put, next_drop, next_bump, next_putS, next_dropS, List.length_set, List.length_append, List.length_cons, List.length_nil, List.length_take]; first | done | omega)) only [go_sem, Nat.reduceBEq, reduceIte, Nat.reduceAdd, f8, f27, dec_lt_t, dec_lt_f, dec_le_t, dec_le_f, dec_gt_t, dec_gt_f, dec_ge_t, dec_ge_f, dec_eq_t, dec_eq_f, dec_ne_t, dec_ne_f]
      refine ⟨⟨k + 1, m1 + 2, m1 + 3⟩, ⟨by dsimp only; omega, by dsimp only; omega, by dsimp only; omega⟩, ?_, ?_, by dsimp only; omega⟩
      · simp (maxSteps := 4000000) (implicitDefEqProofs := false) (disch := first | assumption | omega | (simp (implicitDefEqProofs := false) only [next_add, next_put, next_drop, next_bump, next_putS, next_dropS, List.length_set, List.length_append, List.length_cons, List.length_nil, List.length_take]; first | done | omega)) only [go_sem, Nat.reduceBEq, reduceIte, Nat.reduceAdd, f8, f27, envHas_cons, envHas_nil, cast_succ, cast_zero]
      · dsimp only
        rw [htk]
        have e9 : (sizes.take k ++ [nth sizes k]).flatMap scells = (sizes.take k).flatMap scells ++ scells (nth sizes k) := by simp
        rw [e9]
        ((with_reducible first | refine lex_bump ?_ ?_ | refine lex_sub ?_ ?_); all_goals repeat' (first | (with_reducible exact SubX.refl _ _) | (with_reducible refine SubX.of ?_; assumption) | (with_reducible apply subx_bump) | (with_reducible apply subx_bumpA) | (with_reducible apply subx_putS) | (with_reducible apply subx_put) | (with_reducible apply subx_addA) | (with_reducible apply subx_dropA) | (with_reducible apply subx_add hXw) | (with_reducible apply subx_bput hXw) | (with_reducible apply subx_bputS hXw) | (with_reducible apply subx_drop hXw) | (with_reducible apply subx_dropS hXw) | omega | (simp (implicitDefEqProofs := false) only [next_add, next_put, next_drop, next_bump, next_putS, next_dropS]; omega) | (left; simp; done) | (right; left; omega) | (right; right; assumption) | (right; left; simp (implicitDefEqProofs := false) only [next_add, next_put, next_drop, next_bump, next_putS, next_dropS]; omega) | (intro h0; omega) | (intro h0; simp (maxSteps := 4000000) (implicitDefEqProofs := false) (disch := first | assumption | omega | (simp (implicitDefEqProofs := false) only [next_add, next_put, next_drop, next_bump, next_putS, next_dropS, List.length_set, List.length_append, List.length_cons, List.length_nil, List.length_take]; first | done | omega)) only [go_sem, Nat.reduceBEq, reduceIte, Nat.reduceAdd, hXn]; done) | (simp (maxSteps := 4000000) (implicitDefEqProofs := false) (disch := first | assumption | omega | (simp (implicitDefEqProofs := false) only [next_add, next_put, next_drop, next_bump, next_putS, next_dropS, List.length_set, List.length_append, List.length_cons, List.length_nil, List.length_take]; first | done | omega)) only [go_sem, Nat.reduceBEq, reduceIte, Nat.reduceAdd, hXn]; done)))
    · obtain rfl : k = kids.length := by omega
      have htk : sizes.take kids.length = sizes := List.take_of_length_le (by omega)
      rw [htk]
      rw [← hszl] at f8 ⊢
      have hsl : SlIs scells 2 ((X.putS i1 sizes.length (.cells (sizes.flatMap scells) 2 true)).bump m1) (decide (0 < sizes.length)) i1 sizes.length sizes :=
        slIs_ap rfl (by omega) (fun _ => g3) (fun h0 => by simp (maxSteps := 4000000) (implicitDefEqProofs := false) (disch := first | assumption | omega | (simp (implicitDefEqProofs := false) only [next_add, next_put, next_drop, next_bump, next_putS, next_dropS, List.length_set, List.length_append, List.length_cons, List.length_nil, List.length_take]; first | done | omega)) only [go_sem, Nat.reduceBEq, reduceIte, Nat.reduceAdd])
      simp (maxSteps := 4000000) (implicitDefEqProofs := false) (disch := first | assumption | omega | (simp (implicitDefEqProofs := false) only [next_add, next_put, next_drop, next_bump, next_putS, next_dropS, List.length_set, List.length_append, List.length_cons, List.length_nil, List.length_take]; first | done | omega)) only [go_sem, Nat.reduceBEq, reduceIte, Nat.reduceAdd, f8, f27, hvn, dec_lt_t, dec_lt_f, dec_le_t, dec_le_f, dec_gt_t, dec_gt_f, dec_ge_t, dec_ge_f, dec_eq_t, dec_eq_f, dec_ne_t, dec_ne_f]
      by_cases he : shareE (totalM 2 r) sizes = 0
      · have hlm : lensM (totalM 2 r) sizes = shareO (totalM 2 r) sizes := by unfold lensM; rw [if_pos he]
        refine Share_ok (totalM 2 r) sizes (decide (0 < sizes.length)) i1 sizes.length sizes.length _ hsl he _ ?_
        intro jL m2 hj hm2
        simp (implicitDefEqProofs := false) only [next_add, next_put, next_drop, next_bump, next_putS, next_dropS] at hj
        simp (maxSteps := 4000000) (implicitDefEqProofs := false) (disch := first | assumption | omega | (simp (implicitDefEqProofs := false) only [next_add, next_put, next_drop, next_bump, next_putS, next_dropS, List.length_set, List.length_append, List.length_cons, List.length_nil, List.length_take]; first | done | omega)) only [go_sem, Nat.reduceBEq, reduceIte, Nat.reduceAdd, f8, f27, hX1, hXn, dec_lt_t, dec_lt_f, dec_le_t, dec_le_f, dec_gt_t, dec_gt_f, dec_ge_t, dec_ge_f, dec_eq_t, dec_eq_f, dec_ne_t, dec_ne_f]
        refine Cut_spec r (lensM (totalM 2 r) sizes) false (decide (0 < sizes.length)) jL sizes.length sizes.length _ (slIs_ap (by rw [lensM_len]) (by omega) (fun _ => by simp (implicitDefEqProofs := false) only [next_add, next_put, next_drop, next_bump, next_putS, next_dropS]; omega) (fun h0 => by rw [hlm]; simp (maxSteps := 4000000) (implicitDefEqProofs := false) (disch := first | assumption | omega | (simp (implicitDefEqProofs := false) only [next_add, next_put, next_drop, next_bump, next_putS, next_dropS, List.length_set, List.length_append, List.length_cons, List.length_nil, List.length_take]; first | done | omega)) only [go_sem, Nat.reduceBEq, reduceIte, Nat.reduceAdd])) (by rw [lensM_len]; omega) (by intro _; rw [lensM_len]; omega) _ ?_
        intro qq m3 hqq hm3
        simp (implicitDefEqProofs := false) only [next_add, next_put, next_drop, next_bump, next_putS, next_dropS] at hqq
        have hpl : (cutM r (lensM (totalM 2 r) sizes) false).length = kids.length := by rw [cutM_len (by rw [lensM_len]; omega), lensM_len, hszl]
        have hpRB : ∀ x ∈ cutM r (lensM (totalM 2 r) sizes) false, RB x := cutL_RB _ _ _
        rw [lensM_len]
        generalize cutM r (lensM (totalM 2 r) sizes) false = parts at *
        simp (maxSteps := 4000000) (implicitDefEqProofs := false) (disch := first | assumption | omega | (simp (implicitDefEqProofs := false) only [next_add, next_put, next_drop, next_bump, next_putS, next_dropS, List.length_set, List.length_append, List.length_cons, List.length_nil, List.length_take]; first | done | omega)) only [go_sem, Nat.reduceBEq, reduceIte, Nat.reduceAdd, f8, f27, hXn, dec_lt_t, dec_lt_f, dec_le_t, dec_le_f, dec_gt_t, dec_gt_f, dec_ge_t, dec_ge_f, dec_eq_t, dec_eq_f, dec_ne_t, dec_ne_f]
        obtain ⟨B2, hB2⟩ : ∃ B2, B2 = (((B.put m (.cells [.int .i64 v.kind, .int .i64 v.sk, .int .i64 v.sn, .string v.name, slV v.kb v.ki v.kn v.kc, slV v.fb v.fi v.fn v.fc] 6 true)).put (m + 1) (.cells [.int .i64 r.x, .int .i64 r.y, .int .i64 r.w, .int .i64 r.h] 4 true)).putS qq sizes.length (.cells (parts.flatMap rcells) 4 true)).bump m3 := ⟨_, rfl⟩
        have hB2w : B2.Wf := by
          rw [hB2]
          intro j q hq
          show j < m3
          rw [gx_bump, gx_putS, gx_put, gx_put] at hq
          split at hq
          · omega
          · split at hq
            · omega
            · split at hq
              · omega
              · have := o7 _ _ hq; omega
        have hno : ∀ {j}, j ≠ m → j ≠ m + 1 → j ≠ qq → B2.get j = B.get j := by
          intro j q1 q2 q3
          rw [hB2, gx_bump, gx_putS, gx_put, gx_put, if_neg (fun q => q3 q.1), if_neg q2, if_neg q1]
        have hBB : B.Sub B2 := by
          intro j o hj
          have := o7 _ _ hj
          rw [hno (by omega) (by omega) (by omega)]; exact hj
        have hB20 : B2.get m = some (.cells [.int .i64 v.kind, .int .i64 v.sk, .int .i64 v.sn, .string v.name, slV v.kb v.ki v.kn v.kc, slV v.fb v.fi v.fn v.fc] 6 true) := by
          rw [hB2]; simp (maxSteps := 4000000) (implicitDefEqProofs := false) (disch := first | assumption | omega | (simp (implicitDefEqProofs := false) only [next_add, next_put, next_drop, next_bump, next_putS, next_dropS, List.length_set, List.length_append, List.length_cons, List.length_nil, List.length_take]; first | done | omega)) only [go_sem, Nat.reduceBEq, reduceIte, Nat.reduceAdd]
        have hB2p : B2.get qq = some (.cells (parts.flatMap rcells) 4 true) := by
          rw [hB2]; simp (maxSteps := 4000000) (implicitDefEqProofs := false) (disch := first | assumption | omega | (simp (implicitDefEqProofs := false) only [next_add, next_put, next_drop, next_bump, next_putS, next_dropS, List.length_set, List.length_append, List.length_cons, List.length_nil, List.length_take]; first | done | omega)) only [go_sem, Nat.reduceBEq, reduceIte, Nat.reduceAdd]
        have hB2k : B2.get v.ki = some (.cells (vs.flatMap pcells ++ rr) 6 w) := hBB _ _ hoB
        have hok2 : POk H0 B2 px si m3 := ⟨o1, o2, o3, by omega, by omega, by rw [hB2]; exact Nat.le_refl _, hB2w, by rw [hno (by omega) (by omega) (by omega)]; exact o8, by rw [hno (by omega) (by omega) (by omega)]; exact o8', o9, fun j o q => hBB _ _ (o10 _ _ q)⟩
        refine loop_st (σ := T2) C13_mono [14, 15, 62, 63, 64, 65, 66, 67, 68, 69, 70, 71, 72, 73, 74, 75] (fun s => [(62, .int .i64 (s.k : Int))]) (fun s => PH B2 px s.si s.m s.ss)
          (fun s => s.k ≤ kids.length ∧ POk H0 B2 px s.si s.m ∧ m3 ≤ s.m ∧ layKs kids parts ss = layKs (kids.drop s.k) (parts.drop s.k) s.ss ∧ s.ss.length + nleavesK (kids.drop s.k) ≤ 500)
          (fun s => kids.length - s.k) ⟨0, si, m3, ss⟩ (by kernel_rfl) ⟨by simp, hok2, by simp, rfl, by simpa using hlen⟩ ?_ ?_ ?_
        · simp (maxSteps := 4000000) (implicitDefEqProofs := false) (disch := first | assumption | omega | (simp (implicitDefEqProofs := false) only [next_add, next_put, next_drop, next_bump, next_putS, next_dropS, List.length_set, List.length_append, List.length_cons, List.length_nil, List.length_take]; first | done | omega)) only [go_sem, Nat.reduceBEq, reduceIte, Nat.reduceAdd, envHas_cons, envHas_nil, cast_succ, cast_zero]
        · dsimp only
          unfold PH
          rw [hB2]
          ((with_reducible first | refine lex_bump ?_ ?_ | refine lex_sub ?_ ?_); all_goals repeat' (first | (with_reducible exact SubX.refl _ _) | (with_reducible refine SubX.of ?_; assumption) | (with_reducible apply subx_bump) | (with_reducible apply subx_bumpA) | (with_reducible apply subx_putS) | (with_reducible apply subx_put) | (with_reducible apply subx_addA) | (with_reducible apply subx_dropA) | (with_reducible apply subx_add o7) | (with_reducible apply subx_bput o7) | (with_reducible apply subx_bputS o7) | (with_reducible apply subx_drop o7) | (with_reducible apply subx_dropS o7) | omega | (simp (implicitDefEqProofs := false) only [next_add, next_put, next_drop, next_bump, next_putS, next_dropS]; omega) | (left; simp; done) | (right; left; omega) | (right; right; assumption) | (right; left; simp (implicitDefEqProofs := false) only [next_add, next_put, next_drop, next_bump, next_putS, next_dropS]; omega) | (intro h0; omega) | (intro h0; simp (maxSteps := 4000000) (implicitDefEqProofs := false) (disch := first | assumption | omega | (simp (implicitDefEqProofs := false) only [next_add, next_put, next_drop, next_bump, next_putS, next_dropS, List.length_set, List.length_append, List.length_cons, List.length_nil, List.length_take]; first | done | omega)) only [go_sem, Nat.reduceBEq, reduceIte, Nat.reduceAdd, hX0, hX1, hXp, hXs, hXn]; done) | (simp (maxSteps := 4000000) (implicitDefEqProofs := false) (disch := first | assumption | omega | (simp (implicitDefEqProofs := false) only [next_add, next_put, next_drop, next_bump, next_putS, next_dropS, List.length_set, List.length_append, List.length_cons, List.length_nil, List.length_take]; first | done | omega)) only [go_sem, Nat.reduceBEq, reduceIte, Nat.reduceAdd, hX0, hX1, hXp, hXs, hXn]; done)))
        rintro ⟨k, si2, m4, ss2⟩ u2 ⟨g1, g2, g3, g4, g5⟩ ⟨f62, -⟩
        dsimp only at *
        have g2' := g2
        obtain ⟨u1, u2', u3, u4, u5, u6, u7, u8, u8', u9, u10⟩ := g2'
        have hm4 : m + 1 < m3 := by omega
        have hqm : qq < m3 := hm3
        have hsn : ∀ {j o}, B2.get j = some o → j ≠ si2 ∧ j ≠ px := by
          intro j o hj
          exact ⟨fun e => (by rw [e, u8] at hj; cases hj), fun e => (by rw [e, u8'] at hj; cases hj)⟩
        obtain ⟨y1, y2⟩ := hsn hB20
        obtain ⟨y3, y4⟩ := hsn hB2p
        obtain ⟨y5, y6⟩ := hsn hB2k
        have y7 := hB2w _ _ hB2k
        by_cases hlt2 : k < kids.length
        · have hkp : k < parts.length := by omega
          have hkv : k < vs.length := by omega
          have hnl := nleavesK_le hlt2
          have hld := layKs_drop (ss := ss2) hlt2 hkp
          simp (maxSteps := 4000000) (implicitDefEqProofs := false) (disch := first | assumption | omega | (simp (implicitDefEqProofs := false) only [next_add, next_put, next_drop, next_bump, next_putS, next_dropS, List.length_set, List.length_append, List.length_cons, List.length_nil, List.length_take]; first | done | omega)) only [go_sem, Nat.reduceBEq, reduceIte, Nat.reduceAdd, PH, f62, hB20, hB2p, hB2k, dec_lt_t, dec_lt_f, dec_le_t, dec_le_f, dec_gt_t, dec_gt_f, dec_ge_t, dec_ge_f, dec_eq_t, dec_eq_f, dec_ne_t, dec_ne_f]
          refine draw_at 21 [(0, none), (1, none), (2, none), (3, none), (4, none), (5, none), (6, none), (7, some [2])] (by kernel_rfl) ?_
          simp (maxSteps := 4000000) (implicitDefEqProofs := false) (disch := first | assumption | omega | (simp (implicitDefEqProofs := false) only [next_add, next_put, next_drop, next_bump, next_putS, next_dropS, List.length_set, List.length_append, List.length_cons, List.length_nil, List.length_take]; first | done | omega)) only [go_sem, Nat.reduceBEq, reduceIte, Nat.reduceAdd, f62, hB20, hB2p, hB2k, dec_lt_t, dec_lt_f, dec_le_t, dec_le_f, dec_gt_t, dec_gt_f, dec_ge_t, dec_ge_f, dec_eq_t, dec_eq_f, dec_ne_t, dec_ne_f]
          have hkm := nth_mem hlt2
          refine RCalls.weaken (H2 := PH B2 px si2 (m4 + 1) ss2) ?_ ?_
          · unfold PH
            ((with_reducible first | refine lex_bump ?_ ?_ | refine lex_sub ?_ ?_); all_goals repeat' (first | (with_reducible exact SubX.refl _ _) | (with_reducible refine SubX.of ?_; assumption) | (with_reducible apply subx_bump) | (with_reducible apply subx_bumpA) | (with_reducible apply subx_putS) | (with_reducible apply subx_put) | (with_reducible apply subx_addA) | (with_reducible apply subx_dropA) | (with_reducible apply subx_add hB2w) | (with_reducible apply subx_bput hB2w) | (with_reducible apply subx_bputS hB2w) | (with_reducible apply subx_drop hB2w) | (with_reducible apply subx_dropS hB2w) | omega | (simp (implicitDefEqProofs := false) only [next_add, next_put, next_drop, next_bump, next_putS, next_dropS]; omega) | (left; simp; done) | (right; left; omega) | (right; right; assumption) | (right; left; simp (implicitDefEqProofs := false) only [next_add, next_put, next_drop, next_bump, next_putS, next_dropS]; omega) | (intro h0; omega) | (intro h0; simp (maxSteps := 4000000) (implicitDefEqProofs := false) (disch := first | assumption | omega | (simp (implicitDefEqProofs := false) only [next_add, next_put, next_drop, next_bump, next_putS, next_dropS, List.length_set, List.length_append, List.length_cons, List.length_nil, List.length_take]; first | done | omega)) only [go_sem, Nat.reduceBEq, reduceIte, Nat.reduceAdd]; done) | (simp (maxSteps := 4000000) (implicitDefEqProofs := false) (disch := first | assumption | omega | (simp (implicitDefEqProofs := false) only [next_add, next_put, next_drop, next_bump, next_putS, next_dropS, List.length_set, List.length_append, List.length_cons, List.length_nil, List.length_take]; first | done | omega)) only [go_sem, Nat.reduceBEq, reduceIte, Nat.reduceAdd]; done)))
          refine ih (nth kids k) hkm (nth vs k) (nth parts k) ss2 H0 B2 px si2 (m4 + 1) (hkids.nth k hlt2) (hkms _ hkm).1 (hpRB _ (nth_mem hkp)) ⟨u1, u2', u3, by omega, by omega, by omega, u7, u8, u8', u9, u10⟩ (by omega) _ ?_
          intro si3 m5 hm5 ok3
          have y8 : m ≠ si3 := fun e => (by have := ok3.no; rw [← e, hB20] at this; cases this)
          simp (maxSteps := 4000000) (implicitDefEqProofs := false) (disch := first | assumption | omega | (simp (implicitDefEqProofs := false) only [next_add, next_put, next_drop, next_bump, next_putS, next_dropS, List.length_set, List.length_append, List.length_cons, List.length_nil, List.length_take]; first | done | omega)) only [go_sem, Nat.reduceBEq, reduceIte, Nat.reduceAdd, PH, f62, hB20, hB2p, hB2k, dec_lt_t, dec_lt_f, dec_le_t, dec_le_f, dec_gt_t, dec_gt_f, dec_ge_t, dec_ge_f, dec_eq_t, dec_eq_f, dec_ne_t, dec_ne_f]
          refine ⟨⟨k + 1, si3, m5, layM (nth kids k) (nth parts k) ss2⟩, ⟨by dsimp only; omega, ok3, by dsimp only; omega, by dsimp only; rw [g4, hld], by dsimp only; rw [layM_len _ _ _ (hkms _ hkm).1]; omega⟩, ?_, ?_, by dsimp only; omega⟩
          · simp (maxSteps := 4000000) (implicitDefEqProofs := false) (disch := first | assumption | omega | (simp (implicitDefEqProofs := false) only [next_add, next_put, next_drop, next_bump, next_putS, next_dropS, List.length_set, List.length_append, List.length_cons, List.length_nil, List.length_take]; first | done | omega)) only [go_sem, Nat.reduceBEq, reduceIte, Nat.reduceAdd, f62, envHas_cons, envHas_nil, cast_succ, cast_zero]
          · dsimp only
            first | exact .refl _ | (unfold PH; exact .refl _)
        · have hke : k = kids.length := by omega
          rw [hke, List.drop_of_length_le (Nat.le_refl _), layKs] at g4
          rw [g4] at h
          have u8B : B.get si2 = none := by
            cases e : B.get si2 with
            | none => rfl
            | some o => rw [hBB _ _ e] at u8; cases u8
          simp (maxSteps := 4000000) (implicitDefEqProofs := false) (disch := first | assumption | omega | (simp (implicitDefEqProofs := false) only [next_add, next_put, next_drop, next_bump, next_putS, next_dropS, List.length_set, List.length_append, List.length_cons, List.length_nil, List.length_take]; first | done | omega)) only [go_sem, Nat.reduceBEq, reduceIte, Nat.reduceAdd, f62, dec_lt_t, dec_lt_f, dec_le_t, dec_le_f, dec_gt_t, dec_gt_f, dec_ge_t, dec_ge_f, dec_eq_t, dec_eq_f, dec_ne_t, dec_ne_f]
          refine ⟨_, ?_, h si2 m4 (by omega) ⟨o1, u2', u3, u4, u5, by omega, o7, u8B, o8', o9, o10⟩⟩
          unfold PH
          ((with_reducible first | refine lex_bump ?_ ?_ | refine lex_sub ?_ ?_); all_goals repeat' (first | (with_reducible exact SubX.refl _ _) | (with_reducible refine SubX.of ?_; assumption) | (with_reducible apply subx_bump) | (with_reducible apply subx_bumpA) | (with_reducible apply subx_putS) | (with_reducible apply subx_put) | (with_reducible apply subx_addA) | (with_reducible apply subx_dropA) | (with_reducible apply subx_add o7) | (with_reducible apply subx_bput o7) | (with_reducible apply subx_bputS o7) | (with_reducible apply subx_drop o7) | (with_reducible apply subx_dropS o7) | omega | (simp (implicitDefEqProofs := false) only [next_add, next_put, next_drop, next_bump, next_putS, next_dropS]; omega) | (left; simp; done) | (right; left; omega) | (right; right; assumption) | (right; left; simp (implicitDefEqProofs := false) only [next_add, next_put, next_drop, next_bump, next_putS, next_dropS]; omega) | (intro h0; omega) | (intro h0; simp (maxSteps := 4000000) (implicitDefEqProofs := false) (disch := first | assumption | omega | (simp (implicitDefEqProofs := false) only [next_add, next_put, next_drop, next_bump, next_putS, next_dropS, List.length_set, List.length_append, List.length_cons, List.length_nil, List.length_take]; first | done | omega)) only [go_sem, Nat.reduceBEq, reduceIte, Nat.reduceAdd]; done) | (simp (maxSteps := 4000000) (implicitDefEqProofs := false) (disch := first | assumption | omega | (simp (implicitDefEqProofs := false) only [next_add, next_put, next_drop, next_bump, next_putS, next_dropS, List.length_set, List.length_append, List.length_cons, List.length_nil, List.length_take]; first | done | omega)) only [go_sem, Nat.reduceBEq, reduceIte, Nat.reduceAdd]; done)))

      · have hlm : lensM (totalM 2 r) sizes = List.replicate sizes.length 1 := by unfold lensM; rw [if_neg he]
        refine Share_err (totalM 2 r) sizes (decide (0 < sizes.length)) i1 sizes.length sizes.length _ hsl he _ ?_
        have he2 : (shareE (totalM 2 r) sizes != 0) = true := by simpa using he
        simp (maxSteps := 4000000) (implicitDefEqProofs := false) (disch := first | assumption | omega | (simp (implicitDefEqProofs := false) only [next_add, next_put, next_drop, next_bump, next_putS, next_dropS, List.length_set, List.length_append, List.length_cons, List.length_nil, List.length_take]; first | done | omega)) only [go_sem, Nat.reduceBEq, reduceIte, Nat.reduceAdd, f8, f27, he2, azeros_one, hXn, dec_lt_t, dec_lt_f, dec_le_t, dec_le_f, dec_gt_t, dec_gt_f, dec_ge_t, dec_ge_f, dec_eq_t, dec_eq_f, dec_ne_t, dec_ne_f]
        refine loop_st (σ := Nat) C13_mono [13, 50, 51, 52, 53, 54, 55, 56] (fun k => [(50, .int .i64 (k : Int))]) (fun k => (((X.putS i1 sizes.length (.cells (sizes.flatMap scells) 2 true)).bump m1).put m1 (.cells ((List.replicate k (1 : Int) ++ List.replicate (sizes.length - k) 0).flatMap ic) 1 true)).bump (m1 + 1))
          (fun k => k ≤ sizes.length) (fun k => sizes.length - k) 0 (by kernel_rfl) (Nat.zero_le _) ?_ ?_ ?_
        · simp (maxSteps := 4000000) (implicitDefEqProofs := false) (disch := first | assumption | omega | (simp (implicitDefEqProofs := false) only [next_add, next_put, next_drop, next_bump, next_putS, next_dropS, List.length_set, List.length_append, List.length_cons, List.length_nil, List.length_take]; first | done | omega)) only [go_sem, Nat.reduceBEq, reduceIte, Nat.reduceAdd, envHas_cons, envHas_nil, cast_succ, cast_zero]
        · rw [List.replicate_zero, List.nil_append, Nat.sub_zero]
          have e0 := rep_flat sizes.length
          rw [e0]
          ((with_reducible first | refine lex_bump ?_ ?_ | refine lex_sub ?_ ?_); all_goals repeat' (first | (with_reducible exact SubX.refl _ _) | (with_reducible refine SubX.of ?_; assumption) | (with_reducible apply subx_bump) | (with_reducible apply subx_bumpA) | (with_reducible apply subx_putS) | (with_reducible apply subx_put) | (with_reducible apply subx_addA) | (with_reducible apply subx_dropA) | (with_reducible apply subx_add hXw) | (with_reducible apply subx_bput hXw) | (with_reducible apply subx_bputS hXw) | (with_reducible apply subx_drop hXw) | (with_reducible apply subx_dropS hXw) | omega | (simp (implicitDefEqProofs := false) only [next_add, next_put, next_drop, next_bump, next_putS, next_dropS]; omega) | (left; simp; done) | (right; left; omega) | (right; right; assumption) | (right; left; simp (implicitDefEqProofs := false) only [next_add, next_put, next_drop, next_bump, next_putS, next_dropS]; omega) | (intro h0; omega) | (intro h0; simp (maxSteps := 4000000) (implicitDefEqProofs := false) (disch := first | assumption | omega | (simp (implicitDefEqProofs := false) only [next_add, next_put, next_drop, next_bump, next_putS, next_dropS, List.length_set, List.length_append, List.length_cons, List.length_nil, List.length_take]; first | done | omega)) only [go_sem, Nat.reduceBEq, reduceIte, Nat.reduceAdd, hXn]; done) | (simp (maxSteps := 4000000) (implicitDefEqProofs := false) (disch := first | assumption | omega | (simp (implicitDefEqProofs := false) only [next_add, next_put, next_drop, next_bump, next_putS, next_dropS, List.length_set, List.length_append, List.length_cons, List.length_nil, List.length_take]; first | done | omega)) only [go_sem, Nat.reduceBEq, reduceIte, Nat.reduceAdd, hXn]; done)))
        rintro k u3 hk ⟨f50, -⟩
        by_cases hlt3 : k < sizes.length
        · have hlr : k < (List.replicate k (1 : Int) ++ List.replicate (sizes.length - k) 0).length := by simp; omega
          simp (maxSteps := 4000000) (implicitDefEqProofs := false) (disch := first | assumption | omega | (simp (implicitDefEqProofs := false) only [next_add, next_put, next_drop, next_bump, next_putS, next_dropS, List.length_set, List.length_append, List.length_cons, List.length_nil, List.length_take]; first | done | omega)) only [go_sem, Nat.reduceBEq, reduceIte, Nat.reduceAdd, f8, f27, f50, ic_store, hXn, dec_lt_t, dec_lt_f, dec_le_t, dec_le_f, dec_gt_t, dec_gt_f, dec_ge_t, dec_ge_f, dec_eq_t, dec_eq_f, dec_ne_t, dec_ne_f]
          refine ⟨k + 1, by omega, ?_, ?_, by omega⟩
          · simp (maxSteps := 4000000) (implicitDefEqProofs := false) (disch := first | assumption | omega | (simp (implicitDefEqProofs := false) only [next_add, next_put, next_drop, next_bump, next_putS, next_dropS, List.length_set, List.length_append, List.length_cons, List.length_nil, List.length_take]; first | done | omega)) only [go_sem, Nat.reduceBEq, reduceIte, Nat.reduceAdd, f8, f27, f50, envHas_cons, envHas_nil, cast_succ, cast_zero]
          · have e1 : (List.replicate k (1 : Int) ++ List.replicate (sizes.length - k) 0).set k 1 = List.replicate (k + 1) 1 ++ List.replicate (sizes.length - (k + 1)) 0 := by
              rw [List.set_append_right _ _ (by simp), List.length_replicate, Nat.sub_self]
              obtain ⟨q, hq⟩ : ∃ q, sizes.length - k = q + 1 := ⟨sizes.length - k - 1, by omega⟩
              have hq2 : sizes.length - (k + 1) = q := by omega
              rw [hq, hq2, List.replicate_succ, List.set_cons_zero, List.replicate_succ', List.append_assoc]
              rfl
            rw [← e1]
            ((with_reducible first | refine lex_bump ?_ ?_ | refine lex_sub ?_ ?_); all_goals repeat' (first | (with_reducible exact SubX.refl _ _) | (with_reducible refine SubX.of ?_; assumption) | (with_reducible apply subx_bump) | (with_reducible apply subx_bumpA) | (with_reducible apply subx_putS) | (with_reducible apply subx_put) | (with_reducible apply subx_addA) | (with_reducible apply subx_dropA) | (with_reducible apply subx_add hXw) | (with_reducible apply subx_bput hXw) | (with_reducible apply subx_bputS hXw) | (with_reducible apply subx_drop hXw) | (with_reducible apply subx_dropS hXw) | omega | (simp (implicitDefEqProofs := false) only [next_add, next_put, next_drop, next_bump, next_putS, next_dropS]; omega) | (left; simp; done) | (right; left; omega) | (right; right; assumption) | (right; left; simp (implicitDefEqProofs := false) only [next_add, next_put, next_drop, next_bump, next_putS, next_dropS]; omega) | (intro h0; omega) | (intro h0; simp (maxSteps := 4000000) (implicitDefEqProofs := false) (disch := first | assumption | omega | (simp (implicitDefEqProofs := false) only [next_add, next_put, next_drop, next_bump, next_putS, next_dropS, List.length_set, List.length_append, List.length_cons, List.length_nil, List.length_take]; first | done | omega)) only [go_sem, Nat.reduceBEq, reduceIte, Nat.reduceAdd, hXn]; done) | (simp (maxSteps := 4000000) (implicitDefEqProofs := false) (disch := first | assumption | omega | (simp (implicitDefEqProofs := false) only [next_add, next_put, next_drop, next_bump, next_putS, next_dropS, List.length_set, List.length_append, List.length_cons, List.length_nil, List.length_take]; first | done | omega)) only [go_sem, Nat.reduceBEq, reduceIte, Nat.reduceAdd, hXn]; done)))
        · obtain rfl : k = sizes.length := by omega
          have e1 : List.replicate sizes.length (1 : Int) ++ List.replicate (sizes.length - sizes.length) 0 = List.replicate sizes.length 1 := by simp
          rw [e1]
          have jLx : m1 = m1 := rfl
          simp (maxSteps := 4000000) (implicitDefEqProofs := false) (disch := first | assumption | omega | (simp (implicitDefEqProofs := false) only [next_add, next_put, next_drop, next_bump, next_putS, next_dropS, List.length_set, List.length_append, List.length_cons, List.length_nil, List.length_take]; first | done | omega)) only [go_sem, Nat.reduceBEq, reduceIte, Nat.reduceAdd, f8, f27, f50, hX1, hXn, dec_lt_t, dec_lt_f, dec_le_t, dec_le_f, dec_gt_t, dec_gt_f, dec_ge_t, dec_ge_f, dec_eq_t, dec_eq_f, dec_ne_t, dec_ne_f]
          refine Cut_spec r (lensM (totalM 2 r) sizes) false true m1 sizes.length sizes.length _ (slIs_mk (by rw [lensM_len]) (by omega) (by simp (implicitDefEqProofs := false) only [next_add, next_put, next_drop, next_bump, next_putS, next_dropS]; omega) (by rw [hlm]; simp (maxSteps := 4000000) (implicitDefEqProofs := false) (disch := first | assumption | omega | (simp (implicitDefEqProofs := false) only [next_add, next_put, next_drop, next_bump, next_putS, next_dropS, List.length_set, List.length_append, List.length_cons, List.length_nil, List.length_take]; first | done | omega)) only [go_sem, Nat.reduceBEq, reduceIte, Nat.reduceAdd])) (by rw [lensM_len]; omega) (by intro _; rw [lensM_len]; omega) _ ?_
          intro qq m3 hqq hm3
          simp (implicitDefEqProofs := false) only [next_add, next_put, next_drop, next_bump, next_putS, next_dropS] at hqq
          have hpl : (cutM r (lensM (totalM 2 r) sizes) false).length = kids.length := by rw [cutM_len (by rw [lensM_len]; omega), lensM_len, hszl]
          have hpRB : ∀ x ∈ cutM r (lensM (totalM 2 r) sizes) false, RB x := cutL_RB _ _ _
          rw [lensM_len]
          generalize cutM r (lensM (totalM 2 r) sizes) false = parts at *
          simp (maxSteps := 4000000) (implicitDefEqProofs := false) (disch := first | assumption | omega | (simp (implicitDefEqProofs := false) only [next_add, next_put, next_drop, next_bump, next_putS, next_dropS, List.length_set, List.length_append, List.length_cons, List.length_nil, List.length_take]; first | done | omega)) only [go_sem, Nat.reduceBEq, reduceIte, Nat.reduceAdd, f8, f27, hXn, dec_lt_t, dec_lt_f, dec_le_t, dec_le_f, dec_gt_t, dec_gt_f, dec_ge_t, dec_ge_f, dec_eq_t, dec_eq_f, dec_ne_t, dec_ne_f]
          obtain ⟨B2, hB2⟩ : ∃ B2, B2 = (((B.put m (.cells [.int .i64 v.kind, .int .i64 v.sk, .int .i64 v.sn, .string v.name, slV v.kb v.ki v.kn v.kc, slV v.fb v.fi v.fn v.fc] 6 true)).put (m + 1) (.cells [.int .i64 r.x, .int .i64 r.y, .int .i64 r.w, .int .i64 r.h] 4 true)).putS qq sizes.length (.cells (parts.flatMap rcells) 4 true)).bump m3 := ⟨_, rfl⟩
          have hB2w : B2.Wf := by
            rw [hB2]
            intro j q hq
            show j < m3
            rw [gx_bump, gx_putS, gx_put, gx_put] at hq
            split at hq
            · omega
            · split at hq
              · omega
              · split at hq
                · omega
                · have := o7 _ _ hq; omega
          have hno : ∀ {j}, j ≠ m → j ≠ m + 1 → j ≠ qq → B2.get j = B.get j := by
            intro j q1 q2 q3
            rw [hB2, gx_bump, gx_putS, gx_put, gx_put, if_neg (fun q => q3 q.1), if_neg q2, if_neg q1]
          have hBB : B.Sub B2 := by
            intro j o hj
            have := o7 _ _ hj
            rw [hno (by omega) (by omega) (by omega)]; exact hj
          have hB20 : B2.get m = some (.cells [.int .i64 v.kind, .int .i64 v.sk, .int .i64 v.sn, .string v.name, slV v.kb v.ki v.kn v.kc, slV v.fb v.fi v.fn v.fc] 6 true) := by
            rw [hB2]; simp (maxSteps := 4000000) (implicitDefEqProofs := false) (disch := first | assumption | omega | (simp (implicitDefEqProofs := false) only [next_add, next_put, next_drop, next_bump, next_putS, next_dropS, List.length_set, List.length_append, List.length_cons, List.length_nil, List.length_take]; first | done | omega)) only [go_sem, Nat.reduceBEq, reduceIte, Nat.reduceAdd]
          have hB2p : B2.get qq = some (.cells (parts.flatMap rcells) 4 true) := by
            rw [hB2]; simp (maxSteps := 4000000) (implicitDefEqProofs := false) (disch := first | assumption | omega | (simp (implicitDefEqProofs := false) only [next_add, next_put, next_drop, next_bump, next_putS, next_dropS, List.length_set, List.length_append, List.length_cons, List.length_nil, List.length_take]; first | done | omega)) only [go_sem, Nat.reduceBEq, reduceIte, Nat.reduceAdd]
          have hB2k : B2.get v.ki = some (.cells (vs.flatMap pcells ++ rr) 6 w) := hBB _ _ hoB
          have hok2 : POk H0 B2 px si m3 := ⟨o1, o2, o3, by omega, by omega, by rw [hB2]; exact Nat.le_refl _, hB2w, by rw [hno (by omega) (by omega) (by omega)]; exact o8, by rw [hno (by omega) (by omega) (by omega)]; exact o8', o9, fun j o q => hBB _ _ (o10 _ _ q)⟩
          refine loop_st (σ := T2) C13_mono [14, 15, 62, 63, 64, 65, 66, 67, 68, 69, 70, 71, 72, 73, 74, 75] (fun s => [(62, .int .i64 (s.k : Int))]) (fun s => PH B2 px s.si s.m s.ss)
            (fun s => s.k ≤ kids.length ∧ POk H0 B2 px s.si s.m ∧ m3 ≤ s.m ∧ layKs kids parts ss = layKs (kids.drop s.k) (parts.drop s.k) s.ss ∧ s.ss.length + nleavesK (kids.drop s.k) ≤ 500)
            (fun s => kids.length - s.k) ⟨0, si, m3, ss⟩ (by kernel_rfl) ⟨by simp, hok2, by simp, rfl, by simpa using hlen⟩ ?_ ?_ ?_
          · simp (maxSteps := 4000000) (implicitDefEqProofs := false) (disch := first | assumption | omega | (simp (implicitDefEqProofs := false) only [next_add, next_put, next_drop, next_bump, next_putS, next_dropS, List.length_set, List.length_append, List.length_cons, List.length_nil, List.length_take]; first | done | omega)) only [go_sem, Nat.reduceBEq, reduceIte, Nat.reduceAdd, envHas_cons, envHas_nil, cast_succ, cast_zero]
          · dsimp only
            unfold PH
            rw [hB2]
            ((with_reducible first | refine lex_bump ?_ ?_ | refine lex_sub ?_ ?_); all_goals repeat' (first | (with_reducible exact SubX.refl _ _) | (with_reducible refine SubX.of ?_; assumption) | (with_reducible apply subx_bump) | (with_reducible apply subx_bumpA) | (with_reducible apply subx_putS) | (with_reducible apply subx_put) | (with_reducible apply subx_addA) | (with_reducible apply subx_dropA) | (with_reducible apply subx_add o7) | (with_reducible apply subx_bput o7) | (with_reducible apply subx_bputS o7) | (with_reducible apply subx_drop o7) | (with_reducible apply subx_dropS o7) | omega | (simp (implicitDefEqProofs := false) only [next_add, next_put, next_drop, next_bump, next_putS, next_dropS]; omega) | (left; simp; done) | (right; left; omega) | (right; right; assumption) | (right; left; simp (implicitDefEqProofs := false) only [next_add, next_put, next_drop, next_bump, next_putS, next_dropS]; omega) | (intro h0; omega) | (intro h0; simp (maxSteps := 4000000) (implicitDefEqProofs := false) (disch := first | assumption | omega | (simp (implicitDefEqProofs := false) only [next_add, next_put, next_drop, next_bump, next_putS, next_dropS, List.length_set, List.length_append, List.length_cons, List.length_nil, List.length_take]; first | done | omega)) only [go_sem, Nat.reduceBEq, reduceIte, Nat.reduceAdd, hX0, hX1, hXp, hXs, hXn]; done) | (simp (maxSteps := 4000000) (implicitDefEqProofs := false) (disch := first | assumption | omega | (simp (implicitDefEqProofs := false) only [next_add, next_put, next_drop, next_bump, next_putS, next_dropS, List.length_set, List.length_append, List.length_cons, List.length_nil, List.length_take]; first | done | omega)) only [go_sem, Nat.reduceBEq, reduceIte, Nat.reduceAdd, hX0, hX1, hXp, hXs, hXn]; done)))
          rintro ⟨k, si2, m4, ss2⟩ u2 ⟨g1, g2, g3, g4, g5⟩ ⟨f62, -⟩
          dsimp only at *
          have g2' := g2
          obtain ⟨u1, u2', u3, u4, u5, u6, u7, u8, u8', u9, u10⟩ := g2'
          have hm4 : m + 1 < m3 := by omega
          have hqm : qq < m3 := hm3
          have hsn : ∀ {j o}, B2.get j = some o → j ≠ si2 ∧ j ≠ px := by
            intro j o hj
            exact ⟨fun e => (by rw [e, u8] at hj; cases hj), fun e => (by rw [e, u8'] at hj; cases hj)⟩
          obtain ⟨y1, y2⟩ := hsn hB20
          obtain ⟨y3, y4⟩ := hsn hB2p
          obtain ⟨y5, y6⟩ := hsn hB2k
          have y7 := hB2w _ _ hB2k
          by_cases hlt2 : k < kids.length
          · have hkp : k < parts.length := by omega
            have hkv : k < vs.length := by omega
            have hnl := nleavesK_le hlt2
            have hld := layKs_drop (ss := ss2) hlt2 hkp
            simp (maxSteps := 4000000) (implicitDefEqProofs := false) (disch := first | assumption | omega | (simp (implicitDefEqProofs := false) only [next_add, next_put, next_drop, next_bump, next_putS, next_dropS, List.length_set, List.length_append, List.length_cons, List.length_nil, List.length_take]; first | done | omega)) only [go_sem, Nat.reduceBEq, reduceIte, Nat.reduceAdd, PH, f62, hB20, hB2p, hB2k, dec_lt_t, dec_lt_f, dec_le_t, dec_le_f, dec_gt_t, dec_gt_f, dec_ge_t, dec_ge_f, dec_eq_t, dec_eq_f, dec_ne_t, dec_ne_f]
            refine draw_at 21 [(0, none), (1, none), (2, none), (3, none), (4, none), (5, none), (6, none), (7, some [2])] (by kernel_rfl) ?_
            simp (maxSteps := 4000000) (implicitDefEqProofs := false) (disch := first | assumption | omega | (simp (implicitDefEqProofs := false) only [next_add, next_put, next_drop, next_bump, next_putS, next_dropS, List.length_set, List.length_append, List.length_cons, List.length_nil, List.length_take]; first | done | omega)) only [go_sem, Nat.reduceBEq, reduceIte, Nat.reduceAdd, f62, hB20, hB2p, hB2k, dec_lt_t, dec_lt_f, dec_le_t, dec_le_f, dec_gt_t, dec_gt_f, dec_ge_t, dec_ge_f, dec_eq_t, dec_eq_f, dec_ne_t, dec_ne_f]
            have hkm := nth_mem hlt2
            refine RCalls.weaken (H2 := PH B2 px si2 (m4 + 1) ss2) ?_ ?_
            · unfold PH
              ((with_reducible first | refine lex_bump ?_ ?_ | refine lex_sub ?_ ?_); all_goals repeat' (first | (with_reducible exact SubX.refl _ _) | (with_reducible refine SubX.of ?_; assumption) | (with_reducible apply subx_bump) | (with_reducible apply subx_bumpA) | (with_reducible apply subx_putS) | (with_reducible apply subx_put) | (with_reducible apply subx_addA) | (with_reducible apply subx_dropA) | (with_reducible apply subx_add hB2w) | (with_reducible apply subx_bput hB2w) | (with_reducible apply subx_bputS hB2w) | (with_reducible apply subx_drop hB2w) | (with_reducible apply subx_dropS hB2w) | omega | (simp (implicitDefEqProofs := false) only [next_add, next_put, next_drop, next_bump, next_putS, next_dropS]; omega) | (left; simp; done) | (right; left; omega) | (right; right; assumption) | (right; left; simp (implicitDefEqProofs := false) only [next_add, next_put, next_drop, next_bump, next_putS, next_dropS]; omega) | (intro h0; omega) | (intro h0; simp (maxSteps := 4000000) (implicitDefEqProofs := false) (disch := first | assumption | omega | (simp (implicitDefEqProofs := false) only [next_add, next_put, next_drop, next_bump, next_putS, next_dropS, List.length_set, List.length_append, List.length_cons, List.length_nil, List.length_take]; first | done | omega)) only [go_sem, Nat.reduceBEq, reduceIte, Nat.reduceAdd]; done) | (simp (maxSteps := 4000000) (implicitDefEqProofs := false) (disch := first | assumption | omega | (simp (implicitDefEqProofs := false) only [next_add, next_put, next_drop, next_bump, next_putS, next_dropS, List.length_set, List.length_append, List.length_cons, List.length_nil, List.length_take]; first | done | omega)) only [go_sem, Nat.reduceBEq, reduceIte, Nat.reduceAdd]; done)))
            refine ih (nth kids k) hkm (nth vs k) (nth parts k) ss2 H0 B2 px si2 (m4 + 1) (hkids.nth k hlt2) (hkms _ hkm).1 (hpRB _ (nth_mem hkp)) ⟨u1, u2', u3, by omega, by omega, by omega, u7, u8, u8', u9, u10⟩ (by omega) _ ?_
            intro si3 m5 hm5 ok3
            have y8 : m ≠ si3 := fun e => (by have := ok3.no; rw [← e, hB20] at this; cases this)
            simp (maxSteps := 4000000) (implicitDefEqProofs := false) (disch := first | assumption | omega | (simp (implicitDefEqProofs := false) only [next_add, next_put, next_drop, next_bump, next_putS, next_dropS, List.length_set, List.length_append, List.length_cons, List.length_nil, List.length_take]; first | done | omega)) only [go_sem, Nat.reduceBEq, reduceIte, Nat.reduceAdd, PH, f62, hB20, hB2p, hB2k, dec_lt_t, dec_lt_f, dec_le_t, dec_le_f, dec_gt_t, dec_gt_f, dec_ge_t, dec_ge_f, dec_eq_t, dec_eq_f, dec_ne_t, dec_ne_f]
            refine ⟨⟨k + 1, si3, m5, layM (nth kids k) (nth parts k) ss2⟩, ⟨by dsimp only; omega, ok3, by dsimp only; omega, by dsimp only; rw [g4, hld], by dsimp only; rw [layM_len _ _ _ (hkms _ hkm).1]; omega⟩, ?_, ?_, by dsimp only; omega⟩
            · simp (maxSteps := 4000000) (implicitDefEqProofs := false) (disch := first | assumption | omega | (simp (implicitDefEqProofs := false) only [next_add, next_put, next_drop, next_bump, next_putS, next_dropS, List.length_set, List.length_append, List.length_cons, List.length_nil, List.length_take]; first | done | omega)) only [go_sem, Nat.reduceBEq, reduceIte, Nat.reduceAdd, f62, envHas_cons, envHas_nil, cast_succ, cast_zero]
            · dsimp only
              first | exact .refl _ | (unfold PH; exact .refl _)
          · have hke : k = kids.length := by omega
            rw [hke, List.drop_of_length_le (Nat.le_refl _), layKs] at g4
            rw [g4] at h
            have u8B : B.get si2 = none := by
              cases e : B.get si2 with
              | none => rfl
              | some o => rw [hBB _ _ e] at u8; cases u8
            simp (maxSteps := 4000000) (implicitDefEqProofs := false) (disch := first | assumption | omega | (simp (implicitDefEqProofs := false) only [next_add, next_put, next_drop, next_bump, next_putS, next_dropS, List.length_set, List.length_append, List.length_cons, List.length_nil, List.length_take]; first | done | omega)) only [go_sem, Nat.reduceBEq, reduceIte, Nat.reduceAdd, f62, dec_lt_t, dec_lt_f, dec_le_t, dec_le_f, dec_gt_t, dec_gt_f, dec_ge_t, dec_ge_f, dec_eq_t, dec_eq_f, dec_ne_t, dec_ne_f]
            refine ⟨_, ?_, h si2 m4 (by omega) ⟨o1, u2', u3, u4, u5, by omega, o7, u8B, o8', o9, o10⟩⟩
            unfold PH
            ((with_reducible first | refine lex_bump ?_ ?_ | refine lex_sub ?_ ?_); all_goals repeat' (first | (with_reducible exact SubX.refl _ _) | (with_reducible refine SubX.of ?_; assumption) | (with_reducible apply subx_bump) | (with_reducible apply subx_bumpA) | (with_reducible apply subx_putS) | (with_reducible apply subx_put) | (with_reducible apply subx_addA) | (with_reducible apply subx_dropA) | (with_reducible apply subx_add o7) | (with_reducible apply subx_bput o7) | (with_reducible apply subx_bputS o7) | (with_reducible apply subx_drop o7) | (with_reducible apply subx_dropS o7) | omega | (simp (implicitDefEqProofs := false) only [next_add, next_put, next_drop, next_bump, next_putS, next_dropS]; omega) | (left; simp; done) | (right; left; omega) | (right; right; assumption) | (right; left; simp (implicitDefEqProofs := false) only [next_add, next_put, next_drop, next_bump, next_putS, next_dropS]; omega) | (intro h0; omega) | (intro h0; simp (maxSteps := 4000000) (implicitDefEqProofs := false) (disch := first | assumption | omega | (simp (implicitDefEqProofs := false) only [next_add, next_put, next_drop, next_bump, next_putS, next_dropS, List.length_set, List.length_append, List.length_cons, List.length_nil, List.length_take]; first | done | omega)) only [go_sem, Nat.reduceBEq, reduceIte, Nat.reduceAdd]; done) | (simp (maxSteps := 4000000) (implicitDefEqProofs := false) (disch := first | assumption | omega | (simp (implicitDefEqProofs := false) only [next_add, next_put, next_drop, next_bump, next_putS, next_dropS, List.length_set, List.length_append, List.length_cons, List.length_nil, List.length_take]; first | done | omega)) only [go_sem, Nat.reduceBEq, reduceIte, Nat.reduceAdd]; done)))

  · rw [show decide ((3 : Int) = 3) = true from by decide] at h
    simp (maxSteps := 4000000) (implicitDefEqProofs := false) (disch := first | assumption | omega | (simp (implicitDefEqProofs := false) only [next_add, next_put, next_drop, next_bump, next_putS, next_dropS, List.length_set, List.length_append, List.length_cons, List.length_nil, List.length_take]; first | done | omega)) only [go_sem, Nat.reduceBEq, reduceIte, Nat.reduceAdd, PH_next, dec_lt_t, dec_lt_f, dec_le_t, dec_le_f, dec_gt_t, dec_gt_f, dec_ge_t, dec_ge_f, dec_eq_t, dec_eq_f, dec_ne_t, dec_ne_f]
    refine draw_at 1 [(0, none), (1, none), (2, none), (3, none), (4, none), (5, none), (6, none)] (by kernel_rfl) ?_
    simp (maxSteps := 4000000) (implicitDefEqProofs := false) (disch := first | assumption | omega | (simp (implicitDefEqProofs := false) only [next_add, next_put, next_drop, next_bump, next_putS, next_dropS, List.length_set, List.length_append, List.length_cons, List.length_nil, List.length_take]; first | done | omega)) only [go_sem, Nat.reduceBEq, reduceIte, Nat.reduceAdd, PH_next, hX0, hX1, dec_lt_t, dec_lt_f, dec_le_t, dec_le_f, dec_gt_t, dec_gt_f, dec_ge_t, dec_ge_f, dec_eq_t, dec_eq_f, dec_ne_t, dec_ne_f]
    rw [← hX]
    refine loop_st (σ := T0) C13_mono [8, 10, 27, 28, 29, 30, 31, 32, 33, 34, 35, 36] (fun s => [(8, apS s.i s.k), (27, .int .i64 (s.k : Int))]) (fun s => (X.putS s.i s.k (.cells ((sizes.take s.k).flatMap scells) 2 true)).bump s.m)
      (fun s => s.k ≤ kids.length ∧ m + 2 ≤ s.i ∧ s.i < s.m) (fun s => kids.length - s.k) ⟨0, m + 2, m + 3⟩ (by kernel_rfl) ⟨by simp, by simp, by simp⟩ ?_ ?_ ?_
    · simp (maxSteps := 4000000) (implicitDefEqProofs := false) (disch := first | assumption | omega | (simp (implicitDefEqProofs := false) only [next_add, next_put, next_drop, next_bump, next_putS, next_dropS, List.length_set, List.length_append, List.length_cons, List.length_nil, List.length_take]; first | done | omega)) only [go_sem, Nat.reduceBEq, reduceIte, Nat.reduceAdd, apS_zero, envHas_cons, envHas_nil, cast_succ, cast_zero]
    · dsimp only
      ((with_reducible first | refine lex_bump ?_ ?_ | refine lex_sub ?_ ?_); all_goals repeat' (first | (with_reducible exact SubX.refl _ _) | (with_reducible refine SubX.of ?_; assumption) | (with_reducible apply subx_bump) | (with_reducible apply subx_bumpA) | (with_reducible apply subx_putS) | (with_reducible apply subx_put) | (with_reducible apply subx_addA) | (with_reducible apply subx_dropA) | (with_reducible apply subx_add hXw) | (with_reducible apply subx_bput hXw) | (with_reducible apply subx_bputS hXw) | (with_reducible apply subx_drop hXw) | (with_reducible apply subx_dropS hXw) | omega | (simp (implicitDefEqProofs := false) only [next_add, next_put, next_drop, next_bump, next_putS, next_dropS]; omega) | (left; simp; done) | (right; left; omega) | (right; right; assumption) | (right; left; simp (implicitDefEqProofs := false) only [next_add, next_put, next_drop, next_bump, next_putS, next_dropS]; omega) | (intro h0; omega) | (intro h0; simp (maxSteps := 4000000) (implicitDefEqProofs := false) (disch := first | assumption | omega | (simp (implicitDefEqProofs := false) only [next_add, next_put, next_drop, next_bump, next_putS, next_dropS, List.length_set, List.length_append, List.length_cons, List.length_nil, List.length_take]; first | done | omega)) only [go_sem, Nat.reduceBEq, reduceIte, Nat.reduceAdd, hXn]; done) | (simp (maxSteps := 4000000) (implicitDefEqProofs := false) (disch := first | assumption | omega | (simp (implicitDefEqProofs := false) only [next_add, next_put, next_drop, next_bump, next_putS, next_dropS, List.length_set, List.length_append, List.length_cons, List.length_nil, List.length_take]; first | done | omega)) only [go_sem, Nat.reduceBEq, reduceIte, Nat.reduceAdd, hXn]; done)))
    rintro ⟨k, i1, m1⟩ u ⟨g1, g2, g3⟩ ⟨f8, f27, -⟩
    dsimp only at *
    by_cases hlt2 : k < kids.length
    · have hkv : k < vs.length := by omega
      obtain ⟨s1, s2⟩ := sizes_at hkids hlt2
      have htk : sizes.take (k + 1) = sizes.take k ++ [nth sizes k] := take_succ_nth (by omega)
      have hkl : (sizes.take k).length = k := by rw [List.length_take]; omega
      have hnk := hsz k hlt2
      simp (maxSteps := 4000000) (implicitDefEqProofs := false) (disch := first | assumption | omega | (simp (implicitDefEqProofs := false) only [next_add, next_put, next_drop, next_bump, next_putS, next_dropS, List.length_set, List.length_append, List.length_cons, List.length_nil, List.length_take]; first | done | omega)) only [go_sem, Nat.reduceBEq, reduceIte, Nat.reduceAdd, f8, f27, hXk, hvn, dec_lt_t, dec_lt_f, dec_le_t, dec_le_f, dec_gt_t, dec_gt_f, dec_ge_t, dec_ge_f, dec_eq_t, dec_eq_f, dec_ne_t, dec_ne_f]
      refine stepVH_go (aw22 (k := 1) (w := true) (cs := (sizes.take k).flatMap scells) (new := scells (nth sizes k)) (by decide) (fun h0 => ?_) (by rw [sz_len, hkl]) ?_ rfl rfl (by omega) (by omega)) ?_
      · simp (maxSteps := 4000000) (implicitDefEqProofs := false) (disch := first | assumption | omega | (simp (implicitDefEqProofs := false) only [next_add, next_put, next_drop, next_bump, next_putS, next_dropS, List.length_set, List.length_append, List.length_cons, List.length_nil, List.length_take]; first | done | omega)) only [go_sem, Nat.reduceBEq, reduceIte, Nat.reduceAdd]
      · rw [hnk]
        simp (maxSteps := 4000000) (implicitDefEqProofs := false) (disch := first | assumption | omega | (simp (implicitDefEqProofs := false) only [next_add, next_put, next_drop, next_bump, next_putS, next_dropS, List.length_set, List.length_append, List.length_cons, List.length_nil, List.length_take]; first | done | omega)) only [go_sem, Nat.reduceBEq, reduceIte, Nat.reduceAdd, s1, s2]
      simp (maxSteps := 4000000) (implicitDefEqProofs := false) (disch := first | assumption | omega | (simp (implicitDefEqProofs := false) only [next_add, next_put, next_drop, next_bump, next_putS, next_dropS, List.length_set, List.length_append, List.length_cons, List.length_nil, List.length_take]; first | done | omega)) only [go_sem, Nat.reduceBEq, reduceIte, Nat.reduceAdd, f8, f27, dec_lt_t, dec_lt_f, dec_le_t, dec_le_f, dec_gt_t, dec_gt_f, dec_ge_t, dec_ge_f, dec_eq_t, dec_eq_f, dec_ne_t, dec_ne_f]
      refine ⟨⟨k + 1, m1 + 2, m1 + 3⟩, ⟨by dsimp only; omega, by dsimp only; omega, by dsimp only; omega⟩, ?_, ?_, by dsimp only; omega⟩
      · simp (maxSteps := 4000000) (implicitDefEqProofs := false) (disch := first | assumption | omega | (simp (implicitDefEqProofs := false) only [next_add, next_put, next_drop, next_bump, next_putS, next_dropS, List.length_set, List.length_append, List.length_cons, List.length_nil, List.length_take]; first | done | omega)) only [go_sem, Nat.reduceBEq, reduceIte, Nat.reduceAdd, f8, f27, envHas_cons, envHas_nil, cast_succ, cast_zero]
      · dsimp only
        rw [htk]
        have e9 : (sizes.take k ++ [nth sizes k]).flatMap scells = (sizes.take k).flatMap scells ++ scells (nth sizes k) := by simp
        rw [e9]
        ((with_reducible first | refine lex_bump ?_ ?_ | refine lex_sub ?_ ?_); all_goals repeat' (first | (with_reducible exact SubX.refl _ _) | (with_reducible refine SubX.of ?_; assumption) | (with_reducible apply subx_bump) | (with_reducible apply subx_bumpA) | (with_reducible apply subx_putS) | (with_reducible apply subx_put) | (with_reducible apply subx_addA) | (with_reducible apply subx_dropA) | (with_reducible apply subx_add hXw) | (with_reducible apply subx_bput hXw) | (with_reducible apply subx_bputS hXw) | (with_reducible apply subx_drop hXw) | (with_reducible apply subx_dropS hXw) | omega | (simp (implicitDefEqProofs := false) only [next_add, next_put, next_drop, next_bump, next_putS, next_dropS]; omega) | (left; simp; done) | (right; left; omega) | (right; right; assumption) | (right; left; simp (implicitDefEqProofs := false) only [next_add, next_put, next_drop, next_bump, next_putS, next_dropS]; omega) | (intro h0; omega) | (intro h0; simp (maxSteps := 4000000) (implicitDefEqProofs := false) (disch := first | assumption | omega | (simp (implicitDefEqProofs := false) only [next_add, next_put, next_drop, next_bump, next_putS, next_dropS, List.length_set, List.length_append, List.length_cons, List.length_nil, List.length_take]; first | done | omega)) only [go_sem, Nat.reduceBEq, reduceIte, Nat.reduceAdd, hXn]; done) | (simp (maxSteps := 4000000) (implicitDefEqProofs := false) (disch := first | assumption | omega | (simp (implicitDefEqProofs := false) only [next_add, next_put, next_drop, next_bump, next_putS, next_dropS, List.length_set, List.length_append, List.length_cons, List.length_nil, List.length_take]; first | done | omega)) only [go_sem, Nat.reduceBEq, reduceIte, Nat.reduceAdd, hXn]; done)))
    · obtain rfl : k = kids.length := by omega
      have htk : sizes.take kids.length = sizes := List.take_of_length_le (by omega)
      rw [htk]
      rw [← hszl] at f8 ⊢
      have hsl : SlIs scells 2 ((X.putS i1 sizes.length (.cells (sizes.flatMap scells) 2 true)).bump m1) (decide (0 < sizes.length)) i1 sizes.length sizes :=
        slIs_ap rfl (by omega) (fun _ => g3) (fun h0 => by simp (maxSteps := 4000000) (implicitDefEqProofs := false) (disch := first | assumption | omega | (simp (implicitDefEqProofs := false) only [next_add, next_put, next_drop, next_bump, next_putS, next_dropS, List.length_set, List.length_append, List.length_cons, List.length_nil, List.length_take]; first | done | omega)) only [go_sem, Nat.reduceBEq, reduceIte, Nat.reduceAdd])
      simp (maxSteps := 4000000) (implicitDefEqProofs := false) (disch := first | assumption | omega | (simp (implicitDefEqProofs := false) only [next_add, next_put, next_drop, next_bump, next_putS, next_dropS, List.length_set, List.length_append, List.length_cons, List.length_nil, List.length_take]; first | done | omega)) only [go_sem, Nat.reduceBEq, reduceIte, Nat.reduceAdd, f8, f27, hvn, dec_lt_t, dec_lt_f, dec_le_t, dec_le_f, dec_gt_t, dec_gt_f, dec_ge_t, dec_ge_f, dec_eq_t, dec_eq_f, dec_ne_t, dec_ne_f]
      by_cases he : shareE (totalM 3 r) sizes = 0
      · have hlm : lensM (totalM 3 r) sizes = shareO (totalM 3 r) sizes := by unfold lensM; rw [if_pos he]
        refine Share_ok (totalM 3 r) sizes (decide (0 < sizes.length)) i1 sizes.length sizes.length _ hsl he _ ?_
        intro jL m2 hj hm2
        simp (implicitDefEqProofs := false) only [next_add, next_put, next_drop, next_bump, next_putS, next_dropS] at hj
        simp (maxSteps := 4000000) (implicitDefEqProofs := false) (disch := first | assumption | omega | (simp (implicitDefEqProofs := false) only [next_add, next_put, next_drop, next_bump, next_putS, next_dropS, List.length_set, List.length_append, List.length_cons, List.length_nil, List.length_take]; first | done | omega)) only [go_sem, Nat.reduceBEq, reduceIte, Nat.reduceAdd, f8, f27, hX1, hXn, dec_lt_t, dec_lt_f, dec_le_t, dec_le_f, dec_gt_t, dec_gt_f, dec_ge_t, dec_ge_f, dec_eq_t, dec_eq_f, dec_ne_t, dec_ne_f]
        refine Cut_spec r (lensM (totalM 3 r) sizes) true (decide (0 < sizes.length)) jL sizes.length sizes.length _ (slIs_ap (by rw [lensM_len]) (by omega) (fun _ => by simp (implicitDefEqProofs := false) only [next_add, next_put, next_drop, next_bump, next_putS, next_dropS]; omega) (fun h0 => by rw [hlm]; simp (maxSteps := 4000000) (implicitDefEqProofs := false) (disch := first | assumption | omega | (simp (implicitDefEqProofs := false) only [next_add, next_put, next_drop, next_bump, next_putS, next_dropS, List.length_set, List.length_append, List.length_cons, List.length_nil, List.length_take]; first | done | omega)) only [go_sem, Nat.reduceBEq, reduceIte, Nat.reduceAdd])) (by rw [lensM_len]; omega) (by intro _; rw [lensM_len]; omega) _ ?_
        intro qq m3 hqq hm3
        simp (implicitDefEqProofs := false) only [next_add, next_put, next_drop, next_bump, next_putS, next_dropS] at hqq
        have hpl : (cutM r (lensM (totalM 3 r) sizes) true).length = kids.length := by rw [cutM_len (by rw [lensM_len]; omega), lensM_len, hszl]
        have hpRB : ∀ x ∈ cutM r (lensM (totalM 3 r) sizes) true, RB x := cutL_RB _ _ _
        rw [lensM_len]
        generalize cutM r (lensM (totalM 3 r) sizes) true = parts at *
        simp (maxSteps := 4000000) (implicitDefEqProofs := false) (disch := first | assumption | omega | (simp (implicitDefEqProofs := false) only [next_add, next_put, next_drop, next_bump, next_putS, next_dropS, List.length_set, List.length_append, List.length_cons, List.length_nil, List.length_take]; first | done | omega)) only [go_sem, Nat.reduceBEq, reduceIte, Nat.reduceAdd, f8, f27, hXn, dec_lt_t, dec_lt_f, dec_le_t, dec_le_f, dec_gt_t, dec_gt_f, dec_ge_t, dec_ge_f, dec_eq_t, dec_eq_f, dec_ne_t, dec_ne_f]
        obtain ⟨B2, hB2⟩ : ∃ B2, B2 = (((B.put m (.cells [.int .i64 v.kind, .int .i64 v.sk, .int .i64 v.sn, .string v.name, slV v.kb v.ki v.kn v.kc, slV v.fb v.fi v.fn v.fc] 6 true)).put (m + 1) (.cells [.int .i64 r.x, .int .i64 r.y, .int .i64 r.w, .int .i64 r.h] 4 true)).putS qq sizes.length (.cells (parts.flatMap rcells) 4 true)).bump m3 := ⟨_, rfl⟩
        have hB2w : B2.Wf := by
          rw [hB2]
          intro j q hq
          show j < m3
          rw [gx_bump, gx_putS, gx_put, gx_put] at hq
          split at hq
          · omega
          · split at hq
            · omega
            · split at hq
              · omega
              · have := o7 _ _ hq; omega
        have hno : ∀ {j}, j ≠ m → j ≠ m + 1 → j ≠ qq → B2.get j = B.get j := by
          intro j q1 q2 q3
          rw [hB2, gx_bump, gx_putS, gx_put, gx_put, if_neg (fun q => q3 q.1), if_neg q2, if_neg q1]
        have hBB : B.Sub B2 := by
          intro j o hj
          have := o7 _ _ hj
          rw [hno (by omega) (by omega) (by omega)]; exact hj
        have hB20 : B2.get m = some (.cells [.int .i64 v.kind, .int .i64 v.sk, .int .i64 v.sn, .string v.name, slV v.kb v.ki v.kn v.kc, slV v.fb v.fi v.fn v.fc] 6 true) := by
          rw [hB2]; simp (maxSteps := 4000000) (implicitDefEqProofs := false) (disch := first | assumption | omega | (simp (implicitDefEqProofs := false) only [next_add, next_put, next_drop, next_bump, next_putS, next_dropS, List.length_set, List.length_append, List.length_cons, List.length_nil, List.length_take]; first | done | omega)) only [go_sem, Nat.reduceBEq, reduceIte, Nat.reduceAdd]
        have hB2p : B2.get qq = some (.cells (parts.flatMap rcells) 4 true) := by
          rw [hB2]; simp (maxSteps := 4000000) (implicitDefEqProofs := false) (disch := first | assumption | omega | (simp (implicitDefEqProofs := false) only [next_add, next_put, next_drop, next_bump, next_putS, next_dropS, List.length_set, List.length_append, List.length_cons, List.length_nil, List.length_take]; first | done | omega)) only [go_sem, Nat.reduceBEq, reduceIte, Nat.reduceAdd]
        have hB2k : B2.get v.ki = some (.cells (vs.flatMap pcells ++ rr) 6 w) := hBB _ _ hoB
        have hok2 : POk H0 B2 px si m3 := ⟨o1, o2, o3, by omega, by omega, by rw [hB2]; exact Nat.le_refl _, hB2w, by rw [hno (by omega) (by omega) (by omega)]; exact o8, by rw [hno (by omega) (by omega) (by omega)]; exact o8', o9, fun j o q => hBB _ _ (o10 _ _ q)⟩
        refine loop_st (σ := T2) C13_mono [14, 15, 62, 63, 64, 65, 66, 67, 68, 69, 70, 71, 72, 73, 74, 75] (fun s => [(62, .int .i64 (s.k : Int))]) (fun s => PH B2 px s.si s.m s.ss)
          (fun s => s.k ≤ kids.length ∧ POk H0 B2 px s.si s.m ∧ m3 ≤ s.m ∧ layKs kids parts ss = layKs (kids.drop s.k) (parts.drop s.k) s.ss ∧ s.ss.length + nleavesK (kids.drop s.k) ≤ 500)
          (fun s => kids.length - s.k) ⟨0, si, m3, ss⟩ (by kernel_rfl) ⟨by simp, hok2, by simp, rfl, by simpa using hlen⟩ ?_ ?_ ?_
        · simp (maxSteps := 4000000) (implicitDefEqProofs := false) (disch := first | assumption | omega | (simp (implicitDefEqProofs := false) only [next_add, next_put, next_drop, next_bump, next_putS, next_dropS, List.length_set, List.length_append, List.length_cons, List.length_nil, List.length_take]; first | done | omega)) only [go_sem, Nat.reduceBEq, reduceIte, Nat.reduceAdd, envHas_cons, envHas_nil, cast_succ, cast_zero]
        · dsimp only
          unfold PH
          rw [hB2]
          ((with_reducible first | refine lex_bump ?_ ?_ | refine lex_sub ?_ ?_); all_goals repeat' (first | (with_reducible exact SubX.refl _ _) | (with_reducible refine SubX.of ?_; assumption) | (with_reducible apply subx_bump) | (with_reducible apply subx_bumpA) | (with_reducible apply subx_putS) | (with_reducible apply subx_put) | (with_reducible apply subx_addA) | (with_reducible apply subx_dropA) | (with_reducible apply subx_add o7) | (with_reducible apply subx_bput o7) | (with_reducible apply subx_bputS o7) | (with_reducible apply subx_drop o7) | (with_reducible apply subx_dropS o7) | omega | (simp (implicitDefEqProofs := false) only [next_add, next_put, next_drop, next_bump, next_putS, next_dropS]; omega) | (left; simp; done) | (right; left; omega) | (right; right; assumption) | (right; left; simp (implicitDefEqProofs := false) only [next_add, next_put, next_drop, next_bump, next_putS, next_dropS]; omega) | (intro h0; omega) | (intro h0; simp (maxSteps := 4000000) (implicitDefEqProofs := false) (disch := first | assumption | omega | (simp (implicitDefEqProofs := false) only [next_add, next_put, next_drop, next_bump, next_putS, next_dropS, List.length_set, List.length_append, List.length_cons, List.length_nil, List.length_take]; first | done | omega)) only [go_sem, Nat.reduceBEq, reduceIte, Nat.reduceAdd, hX0, hX1, hXp, hXs, hXn]; done) | (simp (maxSteps := 4000000) (implicitDefEqProofs := false) (disch := first | assumption | omega | (simp (implicitDefEqProofs := false) only [next_add, next_put, next_drop, next_bump, next_putS, next_dropS, List.length_set, List.length_append, List.length_cons, List.length_nil, List.length_take]; first | done | omega)) only [go_sem, Nat.reduceBEq, reduceIte, Nat.reduceAdd, hX0, hX1, hXp, hXs, hXn]; done)))
        rintro ⟨k, si2, m4, ss2⟩ u2 ⟨g1, g2, g3, g4, g5⟩ ⟨f62, -⟩
        dsimp only at *
        have g2' := g2
        obtain ⟨u1, u2', u3, u4, u5, u6, u7, u8, u8', u9, u10⟩ := g2'
        have hm4 : m + 1 < m3 := by omega
        have hqm : qq < m3 := hm3
        have hsn : ∀ {j o}, B2.get j = some o → j ≠ si2 ∧ j ≠ px := by
          intro j o hj
          exact ⟨fun e => (by rw [e, u8] at hj; cases hj), fun e => (by rw [e, u8'] at hj; cases hj)⟩
        obtain ⟨y1, y2⟩ := hsn hB20
        obtain ⟨y3, y4⟩ := hsn hB2p
        obtain ⟨y5, y6⟩ := hsn hB2k
        have y7 := hB2w _ _ hB2k
        by_cases hlt2 : k < kids.length
        · have hkp : k < parts.length := by omega
          have hkv : k < vs.length := by omega
          have hnl := nleavesK_le hlt2
          have hld := layKs_drop (ss := ss2) hlt2 hkp
          simp (maxSteps := 4000000) (implicitDefEqProofs := false) (disch := first | assumption | omega | (simp (implicitDefEqProofs := false) only [next_add, next_put, next_drop, next_bump, next_putS, next_dropS, List.length_set, List.length_append, List.length_cons, List.length_nil, List.length_take]; first | done | omega)) only [go_sem, Nat.reduceBEq, reduceIte, Nat.reduceAdd, PH, f62, hB20, hB2p, hB2k, dec_lt_t, dec_lt_f, dec_le_t, dec_le_f, dec_gt_t, dec_gt_f, dec_ge_t, dec_ge_f, dec_eq_t, dec_eq_f, dec_ne_t, dec_ne_f]
          refine draw_at 21 [(0, none), (1, none), (2, none), (3, none), (4, none), (5, none), (6, none), (7, some [2])] (by kernel_rfl) ?_
          simp (maxSteps := 4000000) (implicitDefEqProofs := false) (disch := first | assumption | omega | (simp (implicitDefEqProofs := false) only [next_add, next_put, next_drop, next_bump, next_putS, next_dropS, List.length_set, List.length_append, List.length_cons, List.length_nil, List.length_take]; first | done | omega)) only [go_sem, Nat.reduceBEq, reduceIte, Nat.reduceAdd, f62, hB20, hB2p, hB2k, dec_lt_t, dec_lt_f, dec_le_t, dec_le_f, dec_gt_t, dec_gt_f, dec_ge_t, dec_ge_f, dec_eq_t, dec_eq_f, dec_ne_t, dec_ne_f]
          have hkm := nth_mem hlt2
          refine RCalls.weaken (H2 := PH B2 px si2 (m4 + 1) ss2) ?_ ?_
          · unfold PH
            ((with_reducible first | refine lex_bump ?_ ?_ | refine lex_sub ?_ ?_); all_goals repeat' (first | (with_reducible exact SubX.refl _ _) | (with_reducible refine SubX.of ?_; assumption) | (with_reducible apply subx_bump) | (with_reducible apply subx_bumpA) | (with_reducible apply subx_putS) | (with_reducible apply subx_put) | (with_reducible apply subx_addA) | (with_reducible apply subx_dropA) | (with_reducible apply subx_add hB2w) | (with_reducible apply subx_bput hB2w) | (with_reducible apply subx_bputS hB2w) | (with_reducible apply subx_drop hB2w) | (with_reducible apply subx_dropS hB2w) | omega | (simp (implicitDefEqProofs := false) only [next_add, next_put, next_drop, next_bump, next_putS, next_dropS]; omega) | (left; simp; done) | (right; left; omega) | (right; right; assumption) | (right; left; simp (implicitDefEqProofs := false) only [next_add, next_put, next_drop, next_bump, next_putS, next_dropS]; omega) | (intro h0; omega) | (intro h0; simp (maxSteps := 4000000) (implicitDefEqProofs := false) (disch := first | assumption | omega | (simp (implicitDefEqProofs := false) only [next_add, next_put, next_drop, next_bump, next_putS, next_dropS, List.length_set, List.length_append, List.length_cons, List.length_nil, List.length_take]; first | done | omega)) only [go_sem, Nat.reduceBEq, reduceIte, Nat.reduceAdd]; done) | (simp (maxSteps := 4000000) (implicitDefEqProofs := false) (disch := first | assumption | omega | (simp (implicitDefEqProofs := false) only [next_add, next_put, next_drop, next_bump, next_putS, next_dropS, List.length_set, List.length_append, List.length_cons, List.length_nil, List.length_take]; first | done | omega)) only [go_sem, Nat.reduceBEq, reduceIte, Nat.reduceAdd]; done)))
          refine ih (nth kids k) hkm (nth vs k) (nth parts k) ss2 H0 B2 px si2 (m4 + 1) (hkids.nth k hlt2) (hkms _ hkm).1 (hpRB _ (nth_mem hkp)) ⟨u1, u2', u3, by omega, by omega, by omega, u7, u8, u8', u9, u10⟩ (by omega) _ ?_
          intro si3 m5 hm5 ok3
          have y8 : m ≠ si3 := fun e => (by have := ok3.no; rw [← e, hB20] at this; cases this)
          simp (maxSteps := 4000000) (implicitDefEqProofs := false) (disch := first | assumption | omega | (simp (implicitDefEqProofs := false) only [next_add, next_put, next_drop, next_bump, next_putS, next_dropS, List.length_set, List.length_append, List.length_cons, List.length_nil, List.length_take]; first | done | omega)) only [go_sem, Nat.reduceBEq, reduceIte, Nat.reduceAdd, PH, f62, hB20, hB2p, hB2k, dec_lt_t, dec_lt_f, dec_le_t, dec_le_f, dec_gt_t, dec_gt_f, dec_ge_t, dec_ge_f, dec_eq_t, dec_eq_f, dec_ne_t, dec_ne_f]
          refine ⟨⟨k + 1, si3, m5, layM (nth kids k) (nth parts k) ss2⟩, ⟨by dsimp only; omega, ok3, by dsimp only; omega, by dsimp only; rw [g4, hld], by dsimp only; rw [layM_len _ _ _ (hkms _ hkm).1]; omega⟩, ?_, ?_, by dsimp only; omega⟩
          · simp (maxSteps := 4000000) (implicitDefEqProofs := false) (disch := first | assumption | omega | (simp (implicitDefEqProofs := false) only [next_add, next_put, next_drop, next_bump, next_putS, next_dropS, List.length_set, List.length_append, List.length_cons, List.length_nil, List.length_take]; first | done | omega)) only [go_sem, Nat.reduceBEq, reduceIte, Nat.reduceAdd, f62, envHas_cons, envHas_nil, cast_succ, cast_zero]
          · dsimp only
            first | exact .refl _ | (unfold PH; exact .refl _)
        · have hke : k = kids.length := by omega
          rw [hke, List.drop_of_length_le (Nat.le_refl _), layKs] at g4
          rw [g4] at h
          have u8B : B.get si2 = none := by
            cases e : B.get si2 with
            | none => rfl
            | some o => rw [hBB _ _ e] at u8; cases u8
          simp (maxSteps := 4000000) (implicitDefEqProofs := false) (disch := first | assumption | omega | (simp (implicitDefEqProofs := false) only [next_add, next_put, next_drop, next_bump, next_putS, next_dropS, List.length_set, List.length_append, List.length_cons, List.length_nil, List.length_take]; first | done | omega)) only [go_sem, Nat.reduceBEq, reduceIte, Nat.reduceAdd, f62, dec_lt_t, dec_lt_f, dec_le_t, dec_le_f, dec_gt_t, dec_gt_f, dec_ge_t, dec_ge_f, dec_eq_t, dec_eq_f, dec_ne_t, dec_ne_f]
          refine ⟨_, ?_, h si2 m4 (by omega) ⟨o1, u2', u3, u4, u5, by omega, o7, u8B, o8', o9, o10⟩⟩
          unfold PH
          ((with_reducible first | refine lex_bump ?_ ?_ | refine lex_sub ?_ ?_); all_goals repeat' (first | (with_reducible exact SubX.refl _ _) | (with_reducible refine SubX.of ?_; assumption) | (with_reducible apply subx_bump) | (with_reducible apply subx_bumpA) | (with_reducible apply subx_putS) | (with_reducible apply subx_put) | (with_reducible apply subx_addA) | (with_reducible apply subx_dropA) | (with_reducible apply subx_add o7) | (with_reducible apply subx_bput o7) | (with_reducible apply subx_bputS o7) | (with_reducible apply subx_drop o7) | (with_reducible apply subx_dropS o7) | omega | (simp (implicitDefEqProofs := false) only [next_add, next_put, next_drop, next_bump, next_putS, next_dropS]; omega) | (left; simp; done) | (right; left; omega) | (right; right; assumption) | (right; left; simp (implicitDefEqProofs := false) only [next_add, next_put, next_drop, next_bump, next_putS, next_dropS]; omega) | (intro h0; omega) | (intro h0; simp (maxSteps := 4000000) (implicitDefEqProofs := false) (disch := first | assumption | omega | (simp (implicitDefEqProofs := false) only [next_add, next_put, next_drop, next_bump, next_putS, next_dropS, List.length_set, List.length_append, List.length_cons, List.length_nil, List.length_take]; first | done | omega)) only [go_sem, Nat.reduceBEq, reduceIte, Nat.reduceAdd]; done) | (simp (maxSteps := 4000000) (implicitDefEqProofs := false) (disch := first | assumption | omega | (simp (implicitDefEqProofs := false) only [next_add, next_put, next_drop, next_bump, next_putS, next_dropS, List.length_set, List.length_append, List.length_cons, List.length_nil, List.length_take]; first | done | omega)) only [go_sem, Nat.reduceBEq, reduceIte, Nat.reduceAdd]; done)))

      · have hlm : lensM (totalM 3 r) sizes = List.replicate sizes.length 1 := by unfold lensM; rw [if_neg he]
        refine Share_err (totalM 3 r) sizes (decide (0 < sizes.length)) i1 sizes.length sizes.length _ hsl he _ ?_
        have he2 : (shareE (totalM 3 r) sizes != 0) = true := by simpa using he
        simp (maxSteps := 4000000) (implicitDefEqProofs := false) (disch := first | assumption | omega | (simp (implicitDefEqProofs := false) only [next_add, next_put, next_drop, next_bump, next_putS, next_dropS, List.length_set, List.length_append, List.length_cons, List.length_nil, List.length_take]; first | done | omega)) only [go_sem, Nat.reduceBEq, reduceIte, Nat.reduceAdd, f8, f27, he2, azeros_one, hXn, dec_lt_t, dec_lt_f, dec_le_t, dec_le_f, dec_gt_t, dec_gt_f, dec_ge_t, dec_ge_f, dec_eq_t, dec_eq_f, dec_ne_t, dec_ne_f]
        refine loop_st (σ := Nat) C13_mono [13, 50, 51, 52, 53, 54, 55, 56] (fun k => [(50, .int .i64 (k : Int))]) (fun k => (((X.putS i1 sizes.length (.cells (sizes.flatMap scells) 2 true)).bump m1).put m1 (.cells ((List.replicate k (1 : Int) ++ List.replicate (sizes.length - k) 0).flatMap ic) 1 true)).bump (m1 + 1))
          (fun k => k ≤ sizes.length) (fun k => sizes.length - k) 0 (by kernel_rfl) (Nat.zero_le _) ?_ ?_ ?_
        · simp (maxSteps := 4000000) (implicitDefEqProofs := false) (disch := first | assumption | omega | (simp (implicitDefEqProofs := false) only [next_add, next_put, next_drop, next_bump, next_putS, next_dropS, List.length_set, List.length_append, List.length_cons, List.length_nil, List.length_take]; first | done | omega)) only [go_sem, Nat.reduceBEq, reduceIte, Nat.reduceAdd, envHas_cons, envHas_nil, cast_succ, cast_zero]
        · rw [List.replicate_zero, List.nil_append, Nat.sub_zero]
          have e0 := rep_flat sizes.length
          rw [e0]
          ((with_reducible first | refine lex_bump ?_ ?_ | refine lex_sub ?_ ?_); all_goals repeat' (first | (with_reducible exact SubX.refl _ _) | (with_reducible refine SubX.of ?_; assumption) | (with_reducible apply subx_bump) | (with_reducible apply subx_bumpA) | (with_reducible apply subx_putS) | (with_reducible apply subx_put) | (with_reducible apply subx_addA) | (with_reducible apply subx_dropA) | (with_reducible apply subx_add hXw) | (with_reducible apply subx_bput hXw) | (with_reducible apply subx_bputS hXw) | (with_reducible apply subx_drop hXw) | (with_reducible apply subx_dropS hXw) | omega | (simp (implicitDefEqProofs := false) only [next_add, next_put, next_drop, next_bump, next_putS, next_dropS]; omega) | (left; simp; done) | (right; left; omega) | (right; right; assumption) | (right; left; simp (implicitDefEqProofs := false) only [next_add, next_put, next_drop, next_bump, next_putS, next_dropS]; omega) | (intro h0; omega) | (intro h0; simp (maxSteps := 4000000) (implicitDefEqProofs := false) (disch := first | assumption | omega | (simp (implicitDefEqProofs := false) only [next_add, next_put, next_drop, next_bump, next_putS, next_dropS, List.length_set, List.length_append, List.length_cons, List.length_nil, List.length_take]; first | done | omega)) only [go_sem, Nat.reduceBEq, reduceIte, Nat.reduceAdd, hXn]; done) | (simp (maxSteps := 4000000) (implicitDefEqProofs := false) (disch := first | assumption | omega | (simp (implicitDefEqProofs := false) only [next_add, next_put, next_drop, next_bump, next_putS, next_dropS, List.length_set, List.length_append, List.length_cons, List.length_nil, List.length_take]; first | done | omega)) only [go_sem, Nat.reduceBEq, reduceIte, Nat.reduceAdd, hXn]; done)))
        rintro k u3 hk ⟨f50, -⟩
        by_cases hlt3 : k < sizes.length
        · have hlr : k < (List.replicate k (1 : Int) ++ List.replicate (sizes.length - k) 0).length := by simp; omega
          simp (maxSteps := 4000000) (implicitDefEqProofs := false) (disch := first | assumption | omega | (simp (implicitDefEqProofs := false) only [next_add, next_put, next_drop, next_bump, next_putS, next_dropS, List.length_set, List.length_append, List.length_cons, List.length_nil, List.length_take]; first | done | omega)) only [go_sem, Nat.reduceBEq, reduceIte, Nat.reduceAdd, f8, f27, f50, ic_store, hXn, dec_lt_t, dec_lt_f, dec_le_t, dec_le_f, dec_gt_t, dec_gt_f, dec_ge_t, dec_ge_f, dec_eq_t, dec_eq_f, dec_ne_t, dec_ne_f]
          refine ⟨k + 1, by omega, ?_, ?_, by omega⟩
          · simp (maxSteps := 4000000) (implicitDefEqProofs := false) (disch := first | assumption | omega | (simp (implicitDefEqProofs := false) only [next_add, next_put, next_drop, next_bump, next_putS, next_dropS, List.length_set, List.length_append, List.length_cons, List.length_nil, List.length_take]; first | done | omega)) only [go_sem, Nat.reduceBEq, reduceIte, Nat.reduceAdd, f8, f27, f50, envHas_cons, envHas_nil, cast_succ, cast_zero]
          · have e1 : (List.replicate k (1 : Int) ++ List.replicate (sizes.length - k) 0).set k 1 = List.replicate (k + 1) 1 ++ List.replicate (sizes.length - (k + 1)) 0 := by
              rw [List.set_append_right _ _ (by simp), List.length_replicate, Nat.sub_self]
              obtain ⟨q, hq⟩ : ∃ q, sizes.length - k = q + 1 := ⟨sizes.length - k - 1, by omega⟩
              have hq2 : sizes.length - (k + 1) = q := by omega
              rw [hq, hq2, List.replicate_succ, List.set_cons_zero, List.replicate_succ', List.append_assoc]
              rfl
            rw [← e1]
            ((with_reducible first | refine lex_bump ?_ ?_ | refine lex_sub ?_ ?_); all_goals repeat' (first | (with_reducible exact SubX.refl _ _) | (with_reducible refine SubX.of ?_; assumption) | (with_reducible apply subx_bump) | (with_reducible apply subx_bumpA) | (with_reducible apply subx_putS) | (with_reducible apply subx_put) | (with_reducible apply subx_addA) | (with_reducible apply subx_dropA) | (with_reducible apply subx_add hXw) | (with_reducible apply subx_bput hXw) | (with_reducible apply subx_bputS hXw) | (with_reducible apply subx_drop hXw) | (with_reducible apply subx_dropS hXw) | omega | (simp (implicitDefEqProofs := false) only [next_add, next_put, next_drop, next_bump, next_putS, next_dropS]; omega) | (left; simp; done) | (right; left; omega) | (right; right; assumption) | (right; left; simp (implicitDefEqProofs := false) only [next_add, next_put, next_drop, next_bump, next_putS, next_dropS]; omega) | (intro h0; omega) | (intro h0; simp (maxSteps := 4000000) (implicitDefEqProofs := false) (disch := first | assumption | omega | (simp (implicitDefEqProofs := false) only [next_add, next_put, next_drop, next_bump, next_putS, next_dropS, List.length_set, List.length_append, List.length_cons, List.length_nil, List.length_take]; first | done | omega)) only [go_sem, Nat.reduceBEq, reduceIte, Nat.reduceAdd, hXn]; done) | (simp (maxSteps := 4000000) (implicitDefEqProofs := false) (disch := first | assumption | omega | (simp (implicitDefEqProofs := false) only [next_add, next_put, next_drop, next_bump, next_putS, next_dropS, List.length_set, List.length_append, List.length_cons, List.length_nil, List.length_take]; first | done | omega)) only [go_sem, Nat.reduceBEq, reduceIte, Nat.reduceAdd, hXn]; done)))
        · obtain rfl : k = sizes.length := by omega
          have e1 : List.replicate sizes.length (1 : Int) ++ List.replicate (sizes.length - sizes.length) 0 = List.replicate sizes.length 1 := by simp
          rw [e1]
          have jLx : m1 = m1 := rfl
          simp (maxSteps := 4000000) (implicitDefEqProofs := false) (disch := first | assumption | omega | (simp (implicitDefEqProofs := false) only [next_add, next_put, next_drop, next_bump, next_putS, next_dropS, List.length_set, List.length_append, List.length_cons, List.length_nil, List.length_take]; first | done | omega)) only [go_sem, Nat.reduceBEq, reduceIte, Nat.reduceAdd, f8, f27, f50, hX1, hXn, dec_lt_t, dec_lt_f, dec_le_t, dec_le_f, dec_gt_t, dec_gt_f, dec_ge_t, dec_ge_f, dec_eq_t, dec_eq_f, dec_ne_t, dec_ne_f]
          refine Cut_spec r (lensM (totalM 3 r) sizes) true true m1 sizes.length sizes.length _ (slIs_mk (by rw [lensM_len]) (by omega) (by simp (implicitDefEqProofs := false) only [next_add, next_put, next_drop, next_bump, next_putS, next_dropS]; omega) (by rw [hlm]; simp (maxSteps := 4000000) (implicitDefEqProofs := false) (disch := first | assumption | omega | (simp (implicitDefEqProofs := false) only [next_add, next_put, next_drop, next_bump, next_putS, next_dropS, List.length_set, List.length_append, List.length_cons, List.length_nil, List.length_take]; first | done | omega)) only [go_sem, Nat.reduceBEq, reduceIte, Nat.reduceAdd])) (by rw [lensM_len]; omega) (by intro _; rw [lensM_len]; omega) _ ?_
          intro qq m3 hqq hm3
          simp (implicitDefEqProofs := false) only [next_add, next_put, next_drop, next_bump, next_putS, next_dropS] at hqq
          have hpl : (cutM r (lensM (totalM 3 r) sizes) true).length = kids.length := by rw [cutM_len (by rw [lensM_len]; omega), lensM_len, hszl]
          have hpRB : ∀ x ∈ cutM r (lensM (totalM 3 r) sizes) true, RB x := cutL_RB _ _ _
          rw [lensM_len]
          generalize cutM r (lensM (totalM 3 r) sizes) true = parts at *
          simp (maxSteps := 4000000) (implicitDefEqProofs := false) (disch := first | assumption | omega | (simp (implicitDefEqProofs := false) only [next_add, next_put, next_drop, next_bump, next_putS, next_dropS, List.length_set, List.length_append, List.length_cons, List.length_nil, List.length_take]; first | done | omega)) only [go_sem, Nat.reduceBEq, reduceIte, Nat.reduceAdd, f8, f27, hXn, dec_lt_t, dec_lt_f, dec_le_t, dec_le_f, dec_gt_t, dec_gt_f, dec_ge_t, dec_ge_f, dec_eq_t, dec_eq_f, dec_ne_t, dec_ne_f]
          obtain ⟨B2, hB2⟩ : ∃ B2, B2 = (((B.put m (.cells [.int .i64 v.kind, .int .i64 v.sk, .int .i64 v.sn, .string v.name, slV v.kb v.ki v.kn v.kc, slV v.fb v.fi v.fn v.fc] 6 true)).put (m + 1) (.cells [.int .i64 r.x, .int .i64 r.y, .int .i64 r.w, .int .i64 r.h] 4 true)).putS qq sizes.length (.cells (parts.flatMap rcells) 4 true)).bump m3 := ⟨_, rfl⟩
          have hB2w : B2.Wf := by
            rw [hB2]
            intro j q hq
            show j < m3
            rw [gx_bump, gx_putS, gx_put, gx_put] at hq
            split at hq
            · omega
            · split at hq
              · omega
              · split at hq
                · omega
                · have := o7 _ _ hq; omega
          have hno : ∀ {j}, j ≠ m → j ≠ m + 1 → j ≠ qq → B2.get j = B.get j := by
            intro j q1 q2 q3
            rw [hB2, gx_bump, gx_putS, gx_put, gx_put, if_neg (fun q => q3 q.1), if_neg q2, if_neg q1]
          have hBB : B.Sub B2 := by
            intro j o hj
            have := o7 _ _ hj
            rw [hno (by omega) (by omega) (by omega)]; exact hj
          have hB20 : B2.get m = some (.cells [.int .i64 v.kind, .int .i64 v.sk, .int .i64 v.sn, .string v.name, slV v.kb v.ki v.kn v.kc, slV v.fb v.fi v.fn v.fc] 6 true) := by
            rw [hB2]; simp (maxSteps := 4000000) (implicitDefEqProofs := false) (disch := first | assumption | omega | (simp (implicitDefEqProofs := false) only [next_add, next_put, next_drop, next_bump, next_putS, next_dropS, List.length_set, List.length_append, List.length_cons, List.length_nil, List.length_take]; first | done | omega)) only [go_sem, Nat.reduceBEq, reduceIte, Nat.reduceAdd]
          have hB2p : B2.get qq = some (.cells (parts.flatMap rcells) 4 true) := by
            rw [hB2]; simp (maxSteps := 4000000) (implicitDefEqProofs := false) (disch := first | assumption | omega | (simp (implicitDefEqProofs := false) only [next_add, next_put, next_drop, next_bump, next_putS, next_dropS, List.length_set, List.length_append, List.length_cons, List.length_nil, List.length_take]; first | done | omega)) only [go_sem, Nat.reduceBEq, reduceIte, Nat.reduceAdd]
          have hB2k : B2.get v.ki = some (.cells (vs.flatMap pcells ++ rr) 6 w) := hBB _ _ hoB
          have hok2 : POk H0 B2 px si m3 := ⟨o1, o2, o3, by omega, by omega, by rw [hB2]; exact Nat.le_refl _, hB2w, by rw [hno (by omega) (by omega) (by omega)]; exact o8, by rw [hno (by omega) (by omega) (by omega)]; exact o8', o9, fun j o q => hBB _ _ (o10 _ _ q)⟩
          refine loop_st (σ := T2) C13_mono [14, 15, 62, 63, 64, 65, 66, 67, 68, 69, 70, 71, 72, 73, 74, 75] (fun s => [(62, .int .i64 (s.k : Int))]) (fun s => PH B2 px s.si s.m s.ss)
            (fun s => s.k ≤ kids.length ∧ POk H0 B2 px s.si s.m ∧ m3 ≤ s.m ∧ layKs kids parts ss = layKs (kids.drop s.k) (parts.drop s.k) s.ss ∧ s.ss.length + nleavesK (kids.drop s.k) ≤ 500)
            (fun s => kids.length - s.k) ⟨0, si, m3, ss⟩ (by kernel_rfl) ⟨by simp, hok2, by simp, rfl, by simpa using hlen⟩ ?_ ?_ ?_
          · simp (maxSteps := 4000000) (implicitDefEqProofs := false) (disch := first | assumption | omega | (simp (implicitDefEqProofs := false) only [next_add, next_put, next_drop, next_bump, next_putS, next_dropS, List.length_set, List.length_append, List.length_cons, List.length_nil, List.length_take]; first | done | omega)) only [go_sem, Nat.reduceBEq, reduceIte, Nat.reduceAdd, envHas_cons, envHas_nil, cast_succ, cast_zero]
          · dsimp only
            unfold PH
            rw [hB2]
            ((with_reducible first | refine lex_bump ?_ ?_ | refine lex_sub ?_ ?_); all_goals repeat' (first | (with_reducible exact SubX.refl _ _) | (with_reducible refine SubX.of ?_; assumption) | (with_reducible apply subx_bump) | (with_reducible apply subx_bumpA) | (with_reducible apply subx_putS) | (with_reducible apply subx_put) | (with_reducible apply subx_addA) | (with_reducible apply subx_dropA) | (with_reducible apply subx_add o7) | (with_reducible apply subx_bput o7) | (with_reducible apply subx_bputS o7) | (with_reducible apply subx_drop o7) | (with_reducible apply subx_dropS o7) | omega | (simp (implicitDefEqProofs := false) only [next_add, next_put, next_drop, next_bump, next_putS, next_dropS]; omega) | (left; simp; done) | (right; left; omega) | (right; right; assumption) | (right; left; simp (implicitDefEqProofs := false) only [next_add, next_put, next_drop, next_bump, next_putS, next_dropS]; omega) | (intro h0; omega) | (intro h0; simp (maxSteps := 4000000) (implicitDefEqProofs := false) (disch := first | assumption | omega | (simp (implicitDefEqProofs := false) only [next_add, next_put, next_drop, next_bump, next_putS, next_dropS, List.length_set, List.length_append, List.length_cons, List.length_nil, List.length_take]; first | done | omega)) only [go_sem, Nat.reduceBEq, reduceIte, Nat.reduceAdd, hX0, hX1, hXp, hXs, hXn]; done) | (simp (maxSteps := 4000000) (implicitDefEqProofs := false) (disch := first | assumption | omega | (simp (implicitDefEqProofs := false) only [next_add, next_put, next_drop, next_bump, next_putS, next_dropS, List.length_set, List.length_append, List.length_cons, List.length_nil, List.length_take]; first | done | omega)) only [go_sem, Nat.reduceBEq, reduceIte, Nat.reduceAdd, hX0, hX1, hXp, hXs, hXn]; done)))
          rintro ⟨k, si2, m4, ss2⟩ u2 ⟨g1, g2, g3, g4, g5⟩ ⟨f62, -⟩
          dsimp only at *
          have g2' := g2
          obtain ⟨u1, u2', u3, u4, u5, u6, u7, u8, u8', u9, u10⟩ := g2'
          have hm4 : m + 1 < m3 := by omega
          have hqm : qq < m3 := hm3
          have hsn : ∀ {j o}, B2.get j = some o → j ≠ si2 ∧ j ≠ px := by
            intro j o hj
            exact ⟨fun e => (by rw [e, u8] at hj; cases hj), fun e => (by rw [e, u8'] at hj; cases hj)⟩
          obtain ⟨y1, y2⟩ := hsn hB20
          obtain ⟨y3, y4⟩ := hsn hB2p
          obtain ⟨y5, y6⟩ := hsn hB2k
          have y7 := hB2w _ _ hB2k
          by_cases hlt2 : k < kids.length
          · have hkp : k < parts.length := by omega
            have hkv : k < vs.length := by omega
            have hnl := nleavesK_le hlt2
            have hld := layKs_drop (ss := ss2) hlt2 hkp
            simp (maxSteps := 4000000) (implicitDefEqProofs := false) (disch := first | assumption | omega | (simp (implicitDefEqProofs := false) only [next_add, next_put, next_drop, next_bump, next_putS, next_dropS, List.length_set, List.length_append, List.length_cons, List.length_nil, List.length_take]; first | done | omega)) only [go_sem, Nat.reduceBEq, reduceIte, Nat.reduceAdd, PH, f62, hB20, hB2p, hB2k, dec_lt_t, dec_lt_f, dec_le_t, dec_le_f, dec_gt_t, dec_gt_f, dec_ge_t, dec_ge_f, dec_eq_t, dec_eq_f, dec_ne_t, dec_ne_f]
            refine draw_at 21 [(0, none), (1, none), (2, none), (3, none), (4, none), (5, none), (6, none), (7, some [2])] (by kernel_rfl) ?_
            simp (maxSteps := 4000000) (implicitDefEqProofs := false) (disch := first | assumption | omega | (simp (implicitDefEqProofs := false) only [next_add, next_put, next_drop, next_bump, next_putS, next_dropS, List.length_set, List.length_append, List.length_cons, List.length_nil, List.length_take]; first | done | omega)) only [go_sem, Nat.reduceBEq, reduceIte, Nat.reduceAdd, f62, hB20, hB2p, hB2k, dec_lt_t, dec_lt_f, dec_le_t, dec_le_f, dec_gt_t, dec_gt_f, dec_ge_t, dec_ge_f, dec_eq_t, dec_eq_f, dec_ne_t, dec_ne_f]
            have hkm := nth_mem hlt2
            refine RCalls.weaken (H2 := PH B2 px si2 (m4 + 1) ss2) ?_ ?_
            · unfold PH
              ((with_reducible first | refine lex_bump ?_ ?_ | refine lex_sub ?_ ?_); all_goals repeat' (first | (with_reducible exact SubX.refl _ _) | (with_reducible refine SubX.of ?_; assumption) | (with_reducible apply subx_bump) | (with_reducible apply subx_bumpA) | (with_reducible apply subx_putS) | (with_reducible apply subx_put) | (with_reducible apply subx_addA) | (with_reducible apply subx_dropA) | (with_reducible apply subx_add hB2w) | (with_reducible apply subx_bput hB2w) | (with_reducible apply subx_bputS hB2w) | (with_reducible apply subx_drop hB2w) | (with_reducible apply subx_dropS hB2w) | omega | (simp (implicitDefEqProofs := false) only [next_add, next_put, next_drop, next_bump, next_putS, next_dropS]; omega) | (left; simp; done) | (right; left; omega) | (right; right; assumption) | (right; left; simp (implicitDefEqProofs := false) only [next_add, next_put, next_drop, next_bump, next_putS, next_dropS]; omega) | (intro h0; omega) | (intro h0; simp (maxSteps := 4000000) (implicitDefEqProofs := false) (disch := first | assumption | omega | (simp (implicitDefEqProofs := false) only [next_add, next_put, next_drop, next_bump, next_putS, next_dropS, List.length_set, List.length_append, List.length_cons, List.length_nil, List.length_take]; first | done | omega)) only [go_sem, Nat.reduceBEq, reduceIte, Nat.reduceAdd]; done) | (simp (maxSteps := 4000000) (implicitDefEqProofs := false) (disch := first | assumption | omega | (simp (implicitDefEqProofs := false) only [next_add, next_put, next_drop, next_bump, next_putS, next_dropS, List.length_set, List.length_append, List.length_cons, List.length_nil, List.length_take]; first | done | omega)) only [go_sem, Nat.reduceBEq, reduceIte, Nat.reduceAdd]; done)))
            refine ih (nth kids k) hkm (nth vs k) (nth parts k) ss2 H0 B2 px si2 (m4 + 1) (hkids.nth k hlt2) (hkms _ hkm).1 (hpRB _ (nth_mem hkp)) ⟨u1, u2', u3, by omega, by omega, by omega, u7, u8, u8', u9, u10⟩ (by omega) _ ?_
            intro si3 m5 hm5 ok3
            have y8 : m ≠ si3 := fun e => (by have := ok3.no; rw [← e, hB20] at this; cases this)
            simp (maxSteps := 4000000) (implicitDefEqProofs := false) (disch := first | assumption | omega | (simp (implicitDefEqProofs := false) only [next_add, next_put, next_drop, next_bump, next_putS, next_dropS, List.length_set, List.length_append, List.length_cons, List.length_nil, List.length_take]; first | done | omega)) only [go_sem, Nat.reduceBEq, reduceIte, Nat.reduceAdd, PH, f62, hB20, hB2p, hB2k, dec_lt_t, dec_lt_f, dec_le_t, dec_le_f, dec_gt_t, dec_gt_f, dec_ge_t, dec_ge_f, dec_eq_t, dec_eq_f, dec_ne_t, dec_ne_f]
            refine ⟨⟨k + 1, si3, m5, layM (nth kids k) (nth parts k) ss2⟩, ⟨by dsimp only; omega, ok3, by dsimp only; omega, by dsimp only; rw [g4, hld], by dsimp only; rw [layM_len _ _ _ (hkms _ hkm).1]; omega⟩, ?_, ?_, by dsimp only; omega⟩
            · simp (maxSteps := 4000000) (implicitDefEqProofs := false) (disch := first | assumption | omega | (simp (implicitDefEqProofs := false) only [next_add, next_put, next_drop, next_bump, next_putS, next_dropS, List.length_set, List.length_append, List.length_cons, List.length_nil, List.length_take]; first | done | omega)) only [go_sem, Nat.reduceBEq, reduceIte, Nat.reduceAdd, f62, envHas_cons, envHas_nil, cast_succ, cast_zero]
            · dsimp only
              first | exact .refl _ | (unfold PH; exact .refl _)
          · have hke : k = kids.length := by omega
            rw [hke, List.drop_of_length_le (Nat.le_refl _), layKs] at g4
            rw [g4] at h
            have u8B : B.get si2 = none := by
              cases e : B.get si2 with
              | none => rfl
              | some o => rw [hBB _ _ e] at u8; cases u8
            simp (maxSteps := 4000000) (implicitDefEqProofs := false) (disch := first | assumption | omega | (simp (implicitDefEqProofs := false) only [next_add, next_put, next_drop, next_bump, next_putS, next_dropS, List.length_set, List.length_append, List.length_cons, List.length_nil, List.length_take]; first | done | omega)) only [go_sem, Nat.reduceBEq, reduceIte, Nat.reduceAdd, f62, dec_lt_t, dec_lt_f, dec_le_t, dec_le_f, dec_gt_t, dec_gt_f, dec_ge_t, dec_ge_f, dec_eq_t, dec_eq_f, dec_ne_t, dec_ne_f]
            refine ⟨_, ?_, h si2 m4 (by omega) ⟨o1, u2', u3, u4, u5, by omega, o7, u8B, o8', o9, o10⟩⟩
            unfold PH
            ((with_reducible first | refine lex_bump ?_ ?_ | refine lex_sub ?_ ?_); all_goals repeat' (first | (with_reducible exact SubX.refl _ _) | (with_reducible refine SubX.of ?_; assumption) | (with_reducible apply subx_bump) | (with_reducible apply subx_bumpA) | (with_reducible apply subx_putS) | (with_reducible apply subx_put) | (with_reducible apply subx_addA) | (with_reducible apply subx_dropA) | (with_reducible apply subx_add o7) | (with_reducible apply subx_bput o7) | (with_reducible apply subx_bputS o7) | (with_reducible apply subx_drop o7) | (with_reducible apply subx_dropS o7) | omega | (simp (implicitDefEqProofs := false) only [next_add, next_put, next_drop, next_bump, next_putS, next_dropS]; omega) | (left; simp; done) | (right; left; omega) | (right; right; assumption) | (right; left; simp (implicitDefEqProofs := false) only [next_add, next_put, next_drop, next_bump, next_putS, next_dropS]; omega) | (intro h0; omega) | (intro h0; simp (maxSteps := 4000000) (implicitDefEqProofs := false) (disch := first | assumption | omega | (simp (implicitDefEqProofs := false) only [next_add, next_put, next_drop, next_bump, next_putS, next_dropS, List.length_set, List.length_append, List.length_cons, List.length_nil, List.length_take]; first | done | omega)) only [go_sem, Nat.reduceBEq, reduceIte, Nat.reduceAdd]; done) | (simp (maxSteps := 4000000) (implicitDefEqProofs := false) (disch := first | assumption | omega | (simp (implicitDefEqProofs := false) only [next_add, next_put, next_drop, next_bump, next_putS, next_dropS, List.length_set, List.length_append, List.length_cons, List.length_nil, List.length_take]; first | done | omega)) only [go_sem, Nat.reduceBEq, reduceIte, Nat.reduceAdd]; done)))

end Go.LH.Plan
