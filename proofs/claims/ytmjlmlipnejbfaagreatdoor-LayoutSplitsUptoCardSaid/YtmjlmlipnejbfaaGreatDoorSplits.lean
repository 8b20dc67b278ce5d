/-
  A split of leaves: the law.
-/
import Derived.Test.YtmjlmlipnejbfaaGreatDoorShareLaw
import Derived.Test.YtmjlmlipnejbfaaGreatDoorAlive
set_option linter.all false
namespace Go.LH.Ty
open Go.Proofs
theorem ab31 {parts : List (Nat × Value)} : abuild Tryz.prog 31 parts = (afillL [(0, 1), (1, 2), (3, 1), (4, 1), (5, 1)] [.int .i64 0, .int .i64 0, .int .i64 0, .string ByteArray.empty, .slice none 0 0, .slice none 0 0] parts).map fun cs => .agg cs.toArray := abuild_struct (by kernel_rfl) (by kernel_rfl) parts
theorem al41 {H : AHeap} : allocT Tryz.prog H 41 = some (.pointer (some ⟨H.next, 0, none⟩), H.add (.cells [.int .i64 0, .int .i64 0, .int .i64 0, .int .i64 0, .int .i64 0, .int .i64 0, .bool false] 7 true)) := alloc_eq (by kernel_rfl) (by kernel_rfl) (by kernel_rfl)
theorem aw28 {H : AHeap} {i j n k c : Nat} {w : Bool} {cs new : List Value} (hk : 0 < k) (hobj : 0 < n → H.get i = some (.cells cs 6 true)) (hcs : cs.length = n * 6) (hx : H.get j = some (.cells new 6 w)) (hnew : new.length = k * 6) (hone : new.all oneCell = true) (hb1 : (n + k) * 88 ≤ 140737488355328) (hb2 : n + k ≤ 140737488355328) : abuiltin Tryz.prog .append #[28, 28] [apS i n, .slice (some ⟨j, 0, none⟩) k c] H = some (apS H.next (n + k), (H.dropS i n).add (.cells (cs ++ new) 6 true)) := append_apS (e := 31) (t1 := 31) (zero := [.int .i64 0, .int .i64 0, .int .i64 0, .string ByteArray.empty, .slice none 0 0, .slice none 0 0]) (by decide) (by kernel_rfl) (by kernel_rfl) (by kernel_rfl) (by kernel_rfl) (by kernel_rfl) rfl hk hobj hcs hx hnew hone hb1 hb2
theorem bs28 {H : AHeap} {v : Value} : abuildSlice Tryz.prog H 28 1 [(0, v)] = guardO (v.cells.toList.length == 6) (guardO (v.cells.toList.all oneCell) (some (.slice (some ⟨H.next, 0, none⟩) 1 1, H.add (.cells v.cells.toList 6 true)))) := build_one (e := 31) (zero := [.int .i64 0, .int .i64 0, .int .i64 0, .string ByteArray.empty, .slice none 0 0, .slice none 0 0]) (by kernel_rfl) (by kernel_rfl) (by kernel_rfl) rfl (by decide)
theorem ia34 {i n c o : Nat} {k : IntKind} {x : Int} (h0 : 0 ≤ x) (h1 : x < n) : aindexAddr Tryz.prog 34 (.slice (some ⟨i, o, none⟩) n c) (.int k x) = some (.pointer (some ⟨i, o + x.toNat * 7, none⟩)) := ia_slice (e := 41) (by kernel_rfl) (by kernel_rfl) h0 h1
theorem ip34 {i n : Nat} {k : IntKind} {x : Int} (h0 : 0 ≤ x) (h1 : x < n) : aindexAddr Tryz.prog 34 (apS i n) (.int k x) = some (.pointer (some ⟨i, x.toNat * 7, none⟩)) := ia_apS (e := 41) (by kernel_rfl) (by kernel_rfl) h0 h1
theorem iv34 {i n c : Nat} {b : Bool} {k : IntKind} {x : Int} (hb : b = true ∨ n = 0) (h0 : 0 ≤ x) (h1 : x < n) : aindexAddr Tryz.prog 34 (slV b i n c) (.int k x) = some (.pointer (some ⟨i, x.toNat * 7, none⟩)) := ia_slV (e := 41) (by kernel_rfl) (by kernel_rfl) hb h0 h1
theorem ld41 {H : AHeap} {i o : Nat} : AHeap.load Tryz.prog H 41 i o = aggE (H.get i) o 7 := load_agg (by kernel_rfl) (by kernel_rfl)
theorem so28 {H : AHeap} {i o : Nat} {v : Value} : AHeap.store Tryz.prog H 28 i o v = storeS 1 H i (H.get i) o v.cells.toList := store_S (by kernel_rfl)
theorem so41 {H : AHeap} {i o : Nat} {v : Value} : AHeap.store Tryz.prog H 41 i o v = storeS 7 H i (H.get i) o v.cells.toList := store_S (by kernel_rfl)
theorem tf41_1 : tfield Tryz.prog 41 1 = some (24, 1) := by kernel_rfl
attribute [go_sem] ab31 al41 bs28 ia34 ip34 iv34 ld41 so28 so41 tf41_1
end Go.LH.Ty
namespace Go.LH.Plan
open Go.Proofs Go.LH.Ty Go.LH.Rect Go.LH.Solve Go.LH.Cut
def leaf (s : Size) : Plan := .mk 1 s ByteArray.empty [] []
def leafV (s : Size) : PV := ⟨1, s.kind, s.n, ByteArray.empty, false, 0, 0, 0, false, 0, 0, 0⟩
def splitP (down : Bool) (sizes : List Size) : Plan := .mk (if down = true then 3 else 2) ⟨0, 0⟩ ByteArray.empty (sizes.map leaf) []
theorem leafs_is {H : AHeap} : ∀ sizes : List Size, PlansIs H (sizes.map leaf) (sizes.map leafV)
  | [] => by simp [PlansIs]
  | s :: sizes => by
    simp only [List.map_cons, PlansIs]
    refine ⟨?_, leafs_is sizes⟩
    simp only [leaf, PlanIs]
    exact ⟨rfl, rfl, rfl, rfl, (fun q => by cases q), ⟨.inr rfl, rfl, fun q => absurd q (Nat.lt_irrefl 0), fun q => absurd q (Nat.lt_irrefl 0), Nat.zero_le _, fun q => by cases q⟩, [], ⟨.inr rfl, rfl, fun q => absurd q (Nat.lt_irrefl 0), fun q => absurd q (Nat.lt_irrefl 0), Nat.zero_le _, fun q => by cases q⟩, by simp [PlansIs]⟩
theorem layKs_leafs : ∀ (sizes : List Size) (rs : List Rect) (ss : List Spot), rs.length = sizes.length → (layKs (sizes.map leaf) rs ss).length = ss.length + rs.length ∧ (∀ k, k < ss.length → nth (layKs (sizes.map leaf) rs ss) k = nth ss k) ∧ ∀ k, k < rs.length → (nth (layKs (sizes.map leaf) rs ss) (ss.length + k)).r = nth rs k
  | [], [], ss, _ => by simp [layKs]
  | [], _ :: _, _, h => by simp at h
  | _ :: _, [], _, h => by simp at h
  | s :: sizes, r :: rs, ss, h => by
    have e : layM (leaf s) r ss = addM ss r 0 false := by simp [leaf, layM]
    rw [List.map_cons, layKs, e]
    obtain ⟨h1, h2, h3⟩ := layKs_leafs sizes rs (addM ss r 0 false) (by simpa using h)
    have hl : (addM ss r 0 false).length = ss.length + 1 := by simp [addM]
    refine ⟨by rw [h1, hl, List.length_cons]; omega, fun k hk => ?_, fun k hk => ?_⟩
    · rw [h2 k (by omega)]; exact nth_append_left hk
    · cases k with
      | zero =>
        rw [Nat.add_zero, h2 _ (by omega), nth_cons_zero]
        have : nth (addM ss r 0 false) ss.length = ⟨ss.length, r, 0, false⟩ := nth_snoc
        rw [this]
      | succ k =>
        have := h3 k (by simpa using hk)
        rw [hl] at this
        rw [nth_cons_succ, ← this]
        congr 2; omega
theorem cutL_nth (across : Bool) : ∀ (ns : List Int) (r : Rect), RB r → (if across = true then 0 < r.w ∧ sumL ns = r.h else 0 < r.h ∧ sumL ns = r.w) → (∀ x ∈ ns, 1 ≤ x) → ∀ k, k < ns.length →
    nth (cutL across r ns) k = if across = true then ⟨r.x, r.y + sumL (ns.take k), r.w, nth ns k⟩ else ⟨r.x + sumL (ns.take k), r.y, nth ns k, r.h⟩
  | [], _, _, _, _, k, hk => by simp at hk
  | n :: ns, r, hr, hs, hp, k, hk => by
    have hn := hp n (by simp)
    have hp' : ∀ x ∈ ns, 1 ≤ x := fun x hx => hp x (by simp [hx])
    have h0 : 0 ≤ sumL ns := sumL_nonneg hp'
    rw [sumL_cons] at hs
    rw [cutL]
    cases across
    · simp only [Bool.false_eq_true, if_false] at hs ⊢
      have hcl : clampM n 0 r.w = n := by unfold clampM; omega
      have hr' := hr
      unfold RB at hr'
      cases k with
      | zero =>
        rw [nth_cons_zero, nth_cons_zero, List.take_zero, sumL_nil]
        simp only [cut1, Bool.false_eq_true, if_false, hcl]
        rw [cleanM_id (by unfold RB; dsimp only; omega) (by dsimp only; omega) (by dsimp only; omega)]
        simp
      | succ k =>
        rw [nth_cons_succ, nth_cons_succ, List.take_succ_cons, sumL_cons]
        rw [cutL_nth false ns _ (cut1_RB hr n false) (by simp only [cut1, Bool.false_eq_true, if_false, hcl]; omega) hp' k (by simpa using hk)]
        simp only [cut1, Bool.false_eq_true, if_false, hcl]
        congr 1; omega
    · simp only [if_true] at hs ⊢
      have hcl : clampM n 0 r.h = n := by unfold clampM; omega
      have hr' := hr
      unfold RB at hr'
      cases k with
      | zero =>
        rw [nth_cons_zero, nth_cons_zero, List.take_zero, sumL_nil]
        simp only [cut1, if_true, hcl]
        rw [cleanM_id (by unfold RB; dsimp only; omega) (by dsimp only; omega) (by dsimp only; omega)]
        simp
      | succ k =>
        rw [nth_cons_succ, nth_cons_succ, List.take_succ_cons, sumL_cons]
        rw [cutL_nth true ns _ (cut1_RB hr n true) (by simp only [cut1, if_true, hcl]; omega) hp' k (by simpa using hk)]
        simp only [cut1, if_true, hcl]
        congr 1; omega
theorem split_ok {down : Bool} {sizes : List Size} (hc : checkM (splitP down sizes) = 0) : 1 ≤ sizes.length ∧ sizes.length ≤ 16 ∧ anyBad sizes = false := by
  obtain ⟨hm, -⟩ := checkM_zero.1 hc
  have hp := Ms.parts ⟨1, 0, hm⟩
  simp only [splitP, Plan.kind, Plan.kids, Plan.size] at hp
  obtain ⟨-, hp⟩ := hp
  rcases hp with hp | ⟨-, h1, h2, h3⟩
  · cases down <;> simp at hp
  · rw [List.length_map] at h1 h2
    refine ⟨h1, h2, List.any_eq_false.2 fun s hs => ?_⟩
    have := (h3 (leaf s) (List.mem_map_of_mem hs)).1.parts.1
    rw [bad_eq, show okSize s = true from this]; simp
def lenOf (down : Bool) (r : Rect) : Int := if down = true then r.h else r.w
theorem split_place {down : Bool} {sizes : List Size} (hc : checkM (splitP down sizes) = 0) (r : Rect) : (placeM (splitP down sizes) r).length = sizes.length ∧
    (shareE (lenOf down (cleanM r)) sizes = 0 ∨ (shareE (lenOf down (cleanM r)) sizes = 90 ∧ lenOf down (cleanM r) < sizes.length)) ∧
    (shareE (lenOf down (cleanM r)) sizes = 0 → ∀ k, k < sizes.length → (nth (placeM (splitP down sizes) r) k).r = if down = true then ⟨(cleanM r).x, (cleanM r).y + sumL ((shareO (lenOf down (cleanM r)) sizes).take k), (cleanM r).w, nth (shareO (lenOf down (cleanM r)) sizes) k⟩ else ⟨(cleanM r).x + sumL ((shareO (lenOf down (cleanM r)) sizes).take k), (cleanM r).y, nth (shareO (lenOf down (cleanM r)) sizes) k, (cleanM r).h⟩) := by
  obtain ⟨h1, h2, h3⟩ := split_ok hc
  have hcl := cleanM_bd r
  have htot : totalM (if down = true then 3 else 2) (cleanM r) = lenOf down (cleanM r) := by cases down <;> rfl
  have hdec : decide ((if down = true then (3 : Int) else 2) = 3) = down := by cases down <;> rfl
  have hms : (sizes.map leaf).map Plan.size = sizes := by rw [List.map_map]; exact List.map_id' sizes
  have hpl : placeM (splitP down sizes) r = layKs (sizes.map leaf) (cutM (cleanM r) (lensM (lenOf down (cleanM r)) sizes) down) [] := by
    unfold placeM
    rw [if_pos hc]
    show floatM _ _ [] _ = _
    rw [floatM, splitP, layM, if_neg (by cases down <;> simp), if_neg (by cases down <;> simp), hms, htot, hdec]
  have hcl2 : (cutM (cleanM r) (lensM (lenOf down (cleanM r)) sizes) down).length = sizes.length := by rw [cutM_len (by rw [lensM_len]; omega), lensM_len]
  obtain ⟨q1, -, q3⟩ := layKs_leafs sizes _ [] hcl2
  rw [hpl]
  refine ⟨by rw [q1, hcl2]; simp, ?_, fun he k hk => ?_⟩
  · unfold shareE
    rw [if_neg (by simp only [not_or]; refine ⟨by omega, ?_, by simp [h3]⟩; unfold lenOf; split <;> omega), if_neg (by omega)]
    by_cases h : lenOf down (cleanM r) < sizes.length
    · rw [if_pos h]; exact .inr ⟨rfl, h⟩
    · rw [if_neg h]; exact .inl rfl
  · have := q3 k (by omega)
    rw [List.length_nil, Nat.zero_add] at this
    rw [this]
    obtain ⟨s1, s2⟩ := share_sum he
    obtain ⟨-, -, -, -, s5⟩ := share_parts he
    have hlm : lensM (lenOf down (cleanM r)) sizes = shareO (lenOf down (cleanM r)) sizes := by unfold lensM; rw [if_pos he]
    have hso := shareO_len (lenOf down (cleanM r)) sizes
    rw [cutM, hlm, cleanM_clean, List.take_of_length_le (by omega)]
    refine cutL_nth down _ _ hcl ?_ s2 k (by omega)
    have hz := cleanM_zero (r := r)
    rw [s1]
    cases down
    · simp only [Bool.false_eq_true, if_false, lenOf] at s5 ⊢
      exact ⟨by omega, trivial⟩
    · simp only [if_true, lenOf] at s5 ⊢
      exact ⟨by omega, trivial⟩
structure V0 where
  k : Nat
  i : Nat
  m : Nat
set_option maxRecDepth 100000 in
set_option maxHeartbeats 4000000 in
theorem Splits_spec (sizes : List Size) (b : Bool) (i n c : Nat) (down : Bool) (r : Rect) (H : AHeap) (hs : SlIs scells 2 H b i n sizes) (hbig : sizes.length ≤ 1048576) (K : Value → AHeap → Prop) (h : ∀ H', K (.bool true) H') :
    RCalls Tryz.prog 3 [slV b i n c, .bool down, rv r] H K := by
  refine RCalls.wf fun hwf => ?_
  have hs' := hs
  obtain ⟨hb, rfl, hlt, hobj, hbnd, hext⟩ := hs'
  have hcl := cleanM_bd r
  refine rcalls_enter (P := Tryz.prog) (rs := [.tmp 6]) (by kernel_rfl) C13_sound Tryz.func3 rfl (by kernel_rfl) rfl rfl ?_
  cases down
  · simp (maxSteps := 4000000) (implicitDefEqProofs := false) (disch := first | assumption | omega | (simp (implicitDefEqProofs := false) only [next_add, next_put, next_drop, next_bump, next_putS, next_dropS, List.length_set, List.length_append, List.length_cons, List.length_nil, List.length_take]; first | done | omega)) only [go_sem, Nat.reduceBEq, reduceIte, Nat.reduceAdd]
    refine Alive.alive_spec _ _ ?_
    simp (maxSteps := 4000000) (implicitDefEqProofs := false) (disch := first | assumption | omega | (simp (implicitDefEqProofs := false) only [next_add, next_put, next_drop, next_bump, next_putS, next_dropS, List.length_set, List.length_append, List.length_cons, List.length_nil, List.length_take]; first | done | omega)) only [go_sem, Nat.reduceBEq, reduceIte, Nat.reduceAdd, dec_lt_t, dec_lt_f, dec_le_t, dec_le_f, dec_gt_t, dec_gt_f, dec_ge_t, dec_ge_f, dec_eq_t, dec_eq_f, dec_ne_t, dec_ne_f]
    refine loop_st (σ := V0) C13_mono [9, 25, 26, 27, 28, 29, 30, 31, 32, 33, 34, 35, 36] (fun s => [(25, .int .i64 (s.k : Int))])
      (fun s => (((H.put H.next (.cells [.int .i64 r.x, .int .i64 r.y, .int .i64 r.w, .int .i64 r.h] 4 true)).put (H.next + 1) (.cells [.int .i64 2, .int .i64 0, .int .i64 0, .string ByteArray.empty, apS s.i s.k, .slice none 0 0] 6 true)).putS s.i s.k (.cells (((sizes.map leafV).take s.k).flatMap pcells) 6 true)).bump s.m)
      (fun s => s.k ≤ sizes.length ∧ H.next + 2 ≤ s.i ∧ s.i < s.m) (fun s => sizes.length - s.k) ⟨0, H.next + 2, H.next + 3⟩ (by kernel_rfl) ⟨by simp, by simp, by simp⟩ ?_ ?_ ?_
    · simp (maxSteps := 4000000) (implicitDefEqProofs := false) (disch := first | assumption | omega | (simp (implicitDefEqProofs := false) only [next_add, next_put, next_drop, next_bump, next_putS, next_dropS, List.length_set, List.length_append, List.length_cons, List.length_nil, List.length_take]; first | done | omega)) only [go_sem, Nat.reduceBEq, reduceIte, Nat.reduceAdd, envHas_cons, envHas_nil, cast_succ, cast_zero]
    · dsimp only
      rw [apS_zero]
      ((with_reducible first | refine lex_bump ?_ ?_ | refine lex_sub ?_ ?_); all_goals repeat' (first | (with_reducible exact SubX.refl _ _) | (with_reducible refine SubX.of ?_; assumption) | (with_reducible apply subx_bump) | (with_reducible apply subx_bumpA) | (with_reducible apply subx_putS) | (with_reducible apply subx_put) | (with_reducible apply subx_addA) | (with_reducible apply subx_dropA) | (with_reducible apply subx_add hwf) | (with_reducible apply subx_bput hwf) | (with_reducible apply subx_bputS hwf) | (with_reducible apply subx_drop hwf) | (with_reducible apply subx_dropS hwf) | omega | (simp (implicitDefEqProofs := false) only [next_add, next_put, next_drop, next_bump, next_putS, next_dropS]; omega) | (left; simp; done) | (right; left; omega) | (right; right; assumption) | (right; left; simp (implicitDefEqProofs := false) only [next_add, next_put, next_drop, next_bump, next_putS, next_dropS]; omega) | (intro h0; omega) | (intro h0; simp (maxSteps := 4000000) (implicitDefEqProofs := false) (disch := first | assumption | omega | (simp (implicitDefEqProofs := false) only [next_add, next_put, next_drop, next_bump, next_putS, next_dropS, List.length_set, List.length_append, List.length_cons, List.length_nil, List.length_take]; first | done | omega)) only [go_sem, Nat.reduceBEq, reduceIte, Nat.reduceAdd]; done) | (simp (maxSteps := 4000000) (implicitDefEqProofs := false) (disch := first | assumption | omega | (simp (implicitDefEqProofs := false) only [next_add, next_put, next_drop, next_bump, next_putS, next_dropS, List.length_set, List.length_append, List.length_cons, List.length_nil, List.length_take]; first | done | omega)) only [go_sem, Nat.reduceBEq, reduceIte, Nat.reduceAdd]; done)))
    rintro ⟨k, i1, m1⟩ u ⟨g1, g2, g3⟩ ⟨f25, -⟩
    dsimp only at *
    have hll : (sizes.map leafV).length = sizes.length := List.length_map ..
    by_cases hlt2 : k < sizes.length
    · obtain ⟨rr, w, ho⟩ := hobj (by omega)
      have hlt' := hlt (by omega)
      have htk : (sizes.map leafV).take (k + 1) = (sizes.map leafV).take k ++ [leafV (nth sizes k)] := by rw [take_succ_nth (by omega), nth_map hlt2]
      have hkl : ((sizes.map leafV).take k).length = k := by rw [List.length_take]; omega
      simp (maxSteps := 4000000) (implicitDefEqProofs := false) (disch := first | assumption | omega | (simp (implicitDefEqProofs := false) only [next_add, next_put, next_drop, next_bump, next_putS, next_dropS, List.length_set, List.length_append, List.length_cons, List.length_nil, List.length_take]; first | done | omega)) only [go_sem, Nat.reduceBEq, reduceIte, Nat.reduceAdd, f25, ho, dec_lt_t, dec_lt_f, dec_le_t, dec_le_f, dec_gt_t, dec_gt_f, dec_ge_t, dec_ge_f, dec_eq_t, dec_eq_f, dec_ne_t, dec_ne_f]
      refine stepVH_go (aw28 (k := 1) (w := true) (cs := ((sizes.map leafV).take k).flatMap pcells) (new := pcells (leafV (nth sizes k))) (by decide) (fun h0 => ?_) (by rw [pc_len, hkl]) ?_ rfl rfl (by omega) (by omega)) ?_
      · simp (maxSteps := 4000000) (implicitDefEqProofs := false) (disch := first | assumption | omega | (simp (implicitDefEqProofs := false) only [next_add, next_put, next_drop, next_bump, next_putS, next_dropS, List.length_set, List.length_append, List.length_cons, List.length_nil, List.length_take]; first | done | omega)) only [go_sem, Nat.reduceBEq, reduceIte, Nat.reduceAdd]
      · simp only [pcells, leafV, slV]
        simp (maxSteps := 4000000) (implicitDefEqProofs := false) (disch := first | assumption | omega | (simp (implicitDefEqProofs := false) only [next_add, next_put, next_drop, next_bump, next_putS, next_dropS, List.length_set, List.length_append, List.length_cons, List.length_nil, List.length_take]; first | done | omega)) only [go_sem, Nat.reduceBEq, reduceIte, Nat.reduceAdd]
      simp (maxSteps := 4000000) (implicitDefEqProofs := false) (disch := first | assumption | omega | (simp (implicitDefEqProofs := false) only [next_add, next_put, next_drop, next_bump, next_putS, next_dropS, List.length_set, List.length_append, List.length_cons, List.length_nil, List.length_take]; first | done | omega)) only [go_sem, Nat.reduceBEq, reduceIte, Nat.reduceAdd, f25, dec_lt_t, dec_lt_f, dec_le_t, dec_le_f, dec_gt_t, dec_gt_f, dec_ge_t, dec_ge_f, dec_eq_t, dec_eq_f, dec_ne_t, dec_ne_f]
      refine ⟨⟨k + 1, m1 + 2, m1 + 3⟩, ⟨by dsimp only; omega, by dsimp only; omega, by dsimp only; omega⟩, ?_, ?_, by dsimp only; omega⟩
      · simp (maxSteps := 4000000) (implicitDefEqProofs := false) (disch := first | assumption | omega | (simp (implicitDefEqProofs := false) only [next_add, next_put, next_drop, next_bump, next_putS, next_dropS, List.length_set, List.length_append, List.length_cons, List.length_nil, List.length_take]; first | done | omega)) only [go_sem, Nat.reduceBEq, reduceIte, Nat.reduceAdd, f25, envHas_cons, envHas_nil, cast_succ, cast_zero]
      · dsimp only
        rw [htk]
        have e9 : ((sizes.map leafV).take k ++ [leafV (nth sizes k)]).flatMap pcells = ((sizes.map leafV).take k).flatMap pcells ++ pcells (leafV (nth sizes k)) := by simp
        rw [e9]
        ((with_reducible first | refine lex_bump ?_ ?_ | refine lex_sub ?_ ?_); all_goals repeat' (first | (with_reducible exact SubX.refl _ _) | (with_reducible refine SubX.of ?_; assumption) | (with_reducible apply subx_bump) | (with_reducible apply subx_bumpA) | (with_reducible apply subx_putS) | (with_reducible apply subx_put) | (with_reducible apply subx_addA) | (with_reducible apply subx_dropA) | (with_reducible apply subx_add hwf) | (with_reducible apply subx_bput hwf) | (with_reducible apply subx_bputS hwf) | (with_reducible apply subx_drop hwf) | (with_reducible apply subx_dropS hwf) | omega | (simp (implicitDefEqProofs := false) only [next_add, next_put, next_drop, next_bump, next_putS, next_dropS]; omega) | (left; simp; done) | (right; left; omega) | (right; right; assumption) | (right; left; simp (implicitDefEqProofs := false) only [next_add, next_put, next_drop, next_bump, next_putS, next_dropS]; omega) | (intro h0; omega) | (intro h0; simp (maxSteps := 4000000) (implicitDefEqProofs := false) (disch := first | assumption | omega | (simp (implicitDefEqProofs := false) only [next_add, next_put, next_drop, next_bump, next_putS, next_dropS, List.length_set, List.length_append, List.length_cons, List.length_nil, List.length_take]; first | done | omega)) only [go_sem, Nat.reduceBEq, reduceIte, Nat.reduceAdd]; done) | (simp (maxSteps := 4000000) (implicitDefEqProofs := false) (disch := first | assumption | omega | (simp (implicitDefEqProofs := false) only [next_add, next_put, next_drop, next_bump, next_putS, next_dropS, List.length_set, List.length_append, List.length_cons, List.length_nil, List.length_take]; first | done | omega)) only [go_sem, Nat.reduceBEq, reduceIte, Nat.reduceAdd]; done)))
    · obtain rfl : k = sizes.length := by omega
      have htk : (sizes.map leafV).take sizes.length = sizes.map leafV := List.take_of_length_le (by omega)
      rw [htk]
      obtain ⟨X, hX⟩ : ∃ X, X = (((H.put H.next (.cells [.int .i64 r.x, .int .i64 r.y, .int .i64 r.w, .int .i64 r.h] 4 true)).put (H.next + 1) (.cells [.int .i64 2, .int .i64 0, .int .i64 0, .string ByteArray.empty, apS i1 sizes.length, .slice none 0 0] 6 true)).putS i1 sizes.length (.cells ((sizes.map leafV).flatMap pcells) 6 true)).bump m1 := ⟨_, rfl⟩
      rw [← hX]
      have hXn : X.next = m1 := by rw [hX]; rfl
      have hX0 : X.get H.next = some (.cells [.int .i64 r.x, .int .i64 r.y, .int .i64 r.w, .int .i64 r.h] 4 true) := by rw [hX]; simp (maxSteps := 4000000) (implicitDefEqProofs := false) (disch := first | assumption | omega | (simp (implicitDefEqProofs := false) only [next_add, next_put, next_drop, next_bump, next_putS, next_dropS, List.length_set, List.length_append, List.length_cons, List.length_nil, List.length_take]; first | done | omega)) only [go_sem, Nat.reduceBEq, reduceIte, Nat.reduceAdd]
      have hX1 : X.get (H.next + 1) = some (.cells [.int .i64 2, .int .i64 0, .int .i64 0, .string ByteArray.empty, apS i1 sizes.length, .slice none 0 0] 6 true) := by rw [hX]; simp (maxSteps := 4000000) (implicitDefEqProofs := false) (disch := first | assumption | omega | (simp (implicitDefEqProofs := false) only [next_add, next_put, next_drop, next_bump, next_putS, next_dropS, List.length_set, List.length_append, List.length_cons, List.length_nil, List.length_take]; first | done | omega)) only [go_sem, Nat.reduceBEq, reduceIte, Nat.reduceAdd]
      have hXk : 0 < sizes.length → X.get i1 = some (.cells ((sizes.map leafV).flatMap pcells) 6 true) := by intro h0; rw [hX]; simp (maxSteps := 4000000) (implicitDefEqProofs := false) (disch := first | assumption | omega | (simp (implicitDefEqProofs := false) only [next_add, next_put, next_drop, next_bump, next_putS, next_dropS, List.length_set, List.length_append, List.length_cons, List.length_nil, List.length_take]; first | done | omega)) only [go_sem, Nat.reduceBEq, reduceIte, Nat.reduceAdd]
      have hXw : X.Wf := by
        rw [hX]
        intro j q hq
        show j < m1
        rw [gx_bump, gx_putS, gx_put, gx_put] at hq
        split at hq
        · omega
        · split at hq
          · omega
          · split at hq
            · omega
            · have := hwf _ _ hq; omega
      have hHX : H.Sub X := by
        intro j o hj
        have := hwf _ _ hj
        rw [hX, gx_bump, gx_putS, gx_put, gx_put, if_neg (by omega), if_neg (by omega), if_neg (by omega)]; exact hj
      have hpl : PlanIs X (splitP false sizes) ⟨2, 0, 0, ByteArray.empty, decide (0 < sizes.length), i1, sizes.length, sizes.length, false, 0, 0, 0⟩ := by
        simp only [splitP, PlanIs]
        refine ⟨by simp, by simp, by simp, by simp, fun _ => Nat.le_refl _, ⟨.inr rfl, rfl, fun q => absurd q (Nat.lt_irrefl 0), fun q => absurd q (Nat.lt_irrefl 0), Nat.zero_le _, fun q => by cases q⟩, sizes.map leafV, slIs_ap hll.symm (by omega) (fun _ => by omega) hXk, leafs_is sizes⟩
      simp (maxSteps := 4000000) (implicitDefEqProofs := false) (disch := first | assumption | omega | (simp (implicitDefEqProofs := false) only [next_add, next_put, next_drop, next_bump, next_putS, next_dropS, List.length_set, List.length_append, List.length_cons, List.length_nil, List.length_take]; first | done | omega)) only [go_sem, Nat.reduceBEq, reduceIte, Nat.reduceAdd, f25, hX0, hX1, dec_lt_t, dec_lt_f, dec_le_t, dec_le_f, dec_gt_t, dec_gt_f, dec_ge_t, dec_ge_f, dec_eq_t, dec_eq_f, dec_ne_t, dec_ne_f]
      refine Check_spec (splitP false sizes) ⟨2, 0, 0, ByteArray.empty, decide (0 < sizes.length), i1, sizes.length, sizes.length, false, 0, 0, 0⟩ X hpl _ ?_
      simp (maxSteps := 4000000) (implicitDefEqProofs := false) (disch := first | assumption | omega | (simp (implicitDefEqProofs := false) only [next_add, next_put, next_drop, next_bump, next_putS, next_dropS, List.length_set, List.length_append, List.length_cons, List.length_nil, List.length_take]; first | done | omega)) only [go_sem, Nat.reduceBEq, reduceIte, Nat.reduceAdd, f25, hX0, hX1, dec_lt_t, dec_lt_f, dec_le_t, dec_le_f, dec_gt_t, dec_gt_f, dec_ge_t, dec_ge_f, dec_eq_t, dec_eq_f, dec_ne_t, dec_ne_f]
      refine condV_split (fun hc => ?_) (fun hc => ?_)
      · have hpm : placeM (splitP false sizes) r = [] := by unfold placeM; rw [if_neg (by simpa using hc)]
        simp (maxSteps := 4000000) (implicitDefEqProofs := false) (disch := first | assumption | omega | (simp (implicitDefEqProofs := false) only [next_add, next_put, next_drop, next_bump, next_putS, next_dropS, List.length_set, List.length_append, List.length_cons, List.length_nil, List.length_take]; first | done | omega)) only [go_sem, Nat.reduceBEq, reduceIte, Nat.reduceAdd, f25, hX0, hX1, dec_lt_t, dec_lt_f, dec_le_t, dec_le_f, dec_gt_t, dec_gt_f, dec_ge_t, dec_ge_f, dec_eq_t, dec_eq_f, dec_ne_t, dec_ne_f]
        refine Place_spec (splitP false sizes) ⟨2, 0, 0, ByteArray.empty, decide (0 < sizes.length), i1, sizes.length, sizes.length, false, 0, 0, 0⟩ r X hpl _ ?_
        intro jg mg hjg hmg
        rw [hpm, List.length_nil]
        simp (maxSteps := 4000000) (implicitDefEqProofs := false) (disch := first | assumption | omega | (simp (implicitDefEqProofs := false) only [next_add, next_put, next_drop, next_bump, next_putS, next_dropS, List.length_set, List.length_append, List.length_cons, List.length_nil, List.length_take]; first | done | omega)) only [go_sem, Nat.reduceBEq, reduceIte, Nat.reduceAdd, cast_zero, dec_lt_t, dec_lt_f, dec_le_t, dec_le_f, dec_gt_t, dec_gt_f, dec_ge_t, dec_ge_f, dec_eq_t, dec_eq_f, dec_ne_t, dec_ne_f]
        exact h _
      · have hc0 : checkM (splitP false sizes) = 0 := by simpa using hc
        obtain ⟨hSl, hSe, hSn⟩ := split_place hc0 r
        simp (maxSteps := 4000000) (implicitDefEqProofs := false) (disch := first | assumption | omega | (simp (implicitDefEqProofs := false) only [next_add, next_put, next_drop, next_bump, next_putS, next_dropS, List.length_set, List.length_append, List.length_cons, List.length_nil, List.length_take]; first | done | omega)) only [go_sem, Nat.reduceBEq, reduceIte, Nat.reduceAdd, f25, hX0, hX1, dec_lt_t, dec_lt_f, dec_le_t, dec_le_f, dec_gt_t, dec_gt_f, dec_ge_t, dec_ge_f, dec_eq_t, dec_eq_f, dec_ne_t, dec_ne_f]
        refine Place_spec (splitP false sizes) ⟨2, 0, 0, ByteArray.empty, decide (0 < sizes.length), i1, sizes.length, sizes.length, false, 0, 0, 0⟩ r X hpl _ ?_
        intro jg mg hjg hmg
        rw [hSl]
        generalize placeM (splitP false sizes) r = S at *
        have hlo : lenOf false (cleanM r) = (cleanM r).w := rfl
        rw [hlo] at hSe hSn
        simp (maxSteps := 4000000) (implicitDefEqProofs := false) (disch := first | assumption | omega | (simp (implicitDefEqProofs := false) only [next_add, next_put, next_drop, next_bump, next_putS, next_dropS, List.length_set, List.length_append, List.length_cons, List.length_nil, List.length_take]; first | done | omega)) only [go_sem, Nat.reduceBEq, reduceIte, Nat.reduceAdd, f25, hX0, hX1, dec_lt_t, dec_lt_f, dec_le_t, dec_le_f, dec_gt_t, dec_gt_f, dec_ge_t, dec_ge_f, dec_eq_t, dec_eq_f, dec_ne_t, dec_ne_f]
        have hmono : ∀ {Z : AHeap}, H.Sub Z → H.next ≤ Z.next → SlIs scells 2 Z b i sizes.length sizes := fun q1 q2 => hs.mono q1 q2
        have hsub2 : ∀ o o2, H.Sub (((X.putS jg sizes.length o).bump mg).put H.next o2) := by
          intro o o2 j q hj
          have := hwf _ _ hj
          rw [gx_put, gx_bump, gx_putS, if_neg (by omega), if_neg (by omega)]; exact hHX _ _ hj
        rcases hSe with he | ⟨he, hlt90⟩
        · refine Share_ok (cleanM r).w sizes b i sizes.length c _ (hmono (hsub2 _ _) (by simp (implicitDefEqProofs := false) only [next_add, next_put, next_drop, next_bump, next_putS, next_dropS]; omega)) he _ ?_
          intro jn mn hjn hmn
          simp (implicitDefEqProofs := false) only [next_add, next_put, next_drop, next_bump, next_putS, next_dropS] at hjn
          obtain ⟨hs1, hs2⟩ := share_sum he
          have hsl := shareO_len (cleanM r).w sizes
          have hSn' := hSn he
          obtain ⟨p1, p2, -⟩ := split_ok hc0
          generalize shareO (cleanM r).w sizes = L at *
          simp (maxSteps := 4000000) (implicitDefEqProofs := false) (disch := first | assumption | omega | (simp (implicitDefEqProofs := false) only [next_add, next_put, next_drop, next_bump, next_putS, next_dropS, List.length_set, List.length_append, List.length_cons, List.length_nil, List.length_take]; first | done | omega)) only [go_sem, Nat.reduceBEq, reduceIte, Nat.reduceAdd, f25, hX0, hX1, dec_lt_t, dec_lt_f, dec_le_t, dec_le_f, dec_gt_t, dec_gt_f, dec_ge_t, dec_ge_f, dec_eq_t, dec_eq_f, dec_ne_t, dec_ne_f]
          obtain ⟨Y, hY⟩ : ∃ Y, Y = ((((X.putS jg sizes.length (.cells (S.flatMap spc) 7 true)).bump mg).put H.next (.cells [.int .i64 (cleanM r).x, .int .i64 (cleanM r).y, .int .i64 (cleanM r).w, .int .i64 (cleanM r).h] 4 true)).put jn (.cells (L.flatMap ic) 1 true)).bump mn := ⟨_, rfl⟩
          rw [← hY]
          have hY0 : Y.get H.next = some (.cells [.int .i64 (cleanM r).x, .int .i64 (cleanM r).y, .int .i64 (cleanM r).w, .int .i64 (cleanM r).h] 4 true) := by rw [hY]; simp (maxSteps := 4000000) (implicitDefEqProofs := false) (disch := first | assumption | omega | (simp (implicitDefEqProofs := false) only [next_add, next_put, next_drop, next_bump, next_putS, next_dropS, List.length_set, List.length_append, List.length_cons, List.length_nil, List.length_take]; first | done | omega)) only [go_sem, Nat.reduceBEq, reduceIte, Nat.reduceAdd]
          have hYg : Y.get jg = some (.cells (S.flatMap spc) 7 true) := by rw [hY]; simp (maxSteps := 4000000) (implicitDefEqProofs := false) (disch := first | assumption | omega | (simp (implicitDefEqProofs := false) only [next_add, next_put, next_drop, next_bump, next_putS, next_dropS, List.length_set, List.length_append, List.length_cons, List.length_nil, List.length_take]; first | done | omega)) only [go_sem, Nat.reduceBEq, reduceIte, Nat.reduceAdd]
          have hYn : Y.get jn = some (.cells (L.flatMap ic) 1 true) := by rw [hY]; simp (maxSteps := 4000000) (implicitDefEqProofs := false) (disch := first | assumption | omega | (simp (implicitDefEqProofs := false) only [next_add, next_put, next_drop, next_bump, next_putS, next_dropS, List.length_set, List.length_append, List.length_cons, List.length_nil, List.length_take]; first | done | omega)) only [go_sem, Nat.reduceBEq, reduceIte, Nat.reduceAdd]
          have hYm : Y.next = mn := by rw [hY]; rfl
          have hYw : Y.Wf := by
            rw [hY]
            intro j q hq
            show j < mn
            rw [gx_bump, gx_put, gx_put, gx_bump, gx_putS] at hq
            split at hq
            · omega
            · split at hq
              · omega
              · split at hq
                · omega
                · have := hXw _ _ hq; omega
          have hsb : ∀ k, 0 ≤ sumL (L.take k) ∧ sumL (L.take k) ≤ 3200 := by
            intro k
            have q1 : ∀ x ∈ L.take k, 1 ≤ x := fun x hx => hs2 x (List.mem_of_mem_take hx)
            have q2 := sumL_nonneg q1
            have q3 : sumL L = sumL (L.take k) + sumL (L.drop k) := by rw [← sumL_append, List.take_append_drop]
            have q4 : 0 ≤ sumL (L.drop k) := sumL_nonneg fun x hx => hs2 x (List.mem_of_mem_drop hx)
            omega
          refine loop_st (σ := Nat × Nat) C13_mono [6, 14, 15, 16, 17, 83, 84, 85, 86, 87, 88, 89, 90, 91, 92, 93, 94, 95, 96, 97, 98, 99, 100, 101, 102, 103, 104, 105, 106, 107, 108, 109, 110, 111, 112, 113, 114, 115, 116, 117, 118, 119, 120, 121, 122, 123, 124, 125] (fun s => [(83, .int .i64 (s.1 : Int)), (14, .int .i64 (sumL (L.take s.1)))]) (fun s => Y.bump s.2)
            (fun s => s.1 ≤ sizes.length ∧ mn ≤ s.2) (fun s => sizes.length - s.1) (0, mn) (by kernel_rfl) ⟨by simp, by simp⟩ ?_ ?_ ?_
          · simp (maxSteps := 4000000) (implicitDefEqProofs := false) (disch := first | assumption | omega | (simp (implicitDefEqProofs := false) only [next_add, next_put, next_drop, next_bump, next_putS, next_dropS, List.length_set, List.length_append, List.length_cons, List.length_nil, List.length_take]; first | done | omega)) only [go_sem, Nat.reduceBEq, reduceIte, Nat.reduceAdd, List.take_zero, sumL_nil, envHas_cons, envHas_nil, cast_succ, cast_zero]
          · dsimp only
            ((with_reducible first | refine lex_bump ?_ ?_ | refine lex_sub ?_ ?_); all_goals repeat' (first | (with_reducible exact SubX.refl _ _) | (with_reducible refine SubX.of ?_; assumption) | (with_reducible apply subx_bump) | (with_reducible apply subx_bumpA) | (with_reducible apply subx_putS) | (with_reducible apply subx_put) | (with_reducible apply subx_addA) | (with_reducible apply subx_dropA) | (with_reducible apply subx_add hYw) | (with_reducible apply subx_bput hYw) | (with_reducible apply subx_bputS hYw) | (with_reducible apply subx_drop hYw) | (with_reducible apply subx_dropS hYw) | omega | (simp (implicitDefEqProofs := false) only [next_add, next_put, next_drop, next_bump, next_putS, next_dropS]; omega) | (left; simp; done) | (right; left; omega) | (right; right; assumption) | (right; left; simp (implicitDefEqProofs := false) only [next_add, next_put, next_drop, next_bump, next_putS, next_dropS]; omega) | (intro h0; omega) | (intro h0; simp (maxSteps := 4000000) (implicitDefEqProofs := false) (disch := first | assumption | omega | (simp (implicitDefEqProofs := false) only [next_add, next_put, next_drop, next_bump, next_putS, next_dropS, List.length_set, List.length_append, List.length_cons, List.length_nil, List.length_take]; first | done | omega)) only [go_sem, Nat.reduceBEq, reduceIte, Nat.reduceAdd]; done) | (simp (maxSteps := 4000000) (implicitDefEqProofs := false) (disch := first | assumption | omega | (simp (implicitDefEqProofs := false) only [next_add, next_put, next_drop, next_bump, next_putS, next_dropS, List.length_set, List.length_append, List.length_cons, List.length_nil, List.length_take]; first | done | omega)) only [go_sem, Nat.reduceBEq, reduceIte, Nat.reduceAdd]; done)))
          rintro ⟨k, m5⟩ u5 ⟨w1, w2⟩ ⟨f83, f14, -⟩
          dsimp only at *
          by_cases hk5 : k < sizes.length
          · have hkS : k < S.length := by omega
            have hkL : k < L.length := by omega
            have hnk := hSn' k hk5
            simp only [Bool.false_eq_true, if_false, if_true] at hnk
            have hsk := hsb k
            have hsk1 := hsb (k + 1)
            have htk5 : sumL (L.take (k + 1)) = sumL (L.take k) + nth L k := by rw [take_succ_nth hkL, sumL_append]; simp [sumL_cons, sumL_nil]
            simp (maxSteps := 4000000) (implicitDefEqProofs := false) (disch := first | assumption | omega | (simp (implicitDefEqProofs := false) only [next_add, next_put, next_drop, next_bump, next_putS, next_dropS, List.length_set, List.length_append, List.length_cons, List.length_nil, List.length_take]; first | done | omega)) only [go_sem, Nat.reduceBEq, reduceIte, Nat.reduceAdd, f83, f14, hY0, hYg, hYn, dec_lt_t, dec_lt_f, dec_le_t, dec_le_f, dec_gt_t, dec_gt_f, dec_ge_t, dec_ge_f, dec_eq_t, dec_eq_f, dec_ne_t, dec_ne_f]
            refine draw_at 25 [(0, none), (1, none), (2, none), (3, none), (4, none), (5, none), (6, none), (7, none), (8, none), (9, none), (10, none), (11, none), (12, none), (13, some [1, 5, 9, 11]), (14, some [])] (by kernel_rfl) ?_
            simp (maxSteps := 4000000) (implicitDefEqProofs := false) (disch := first | assumption | omega | (simp (implicitDefEqProofs := false) only [next_add, next_put, next_drop, next_bump, next_putS, next_dropS, List.length_set, List.length_append, List.length_cons, List.length_nil, List.length_take]; first | done | omega)) only [go_sem, Nat.reduceBEq, reduceIte, Nat.reduceAdd, f83, f14, hY0, hYg, hYn, hnk, dec_lt_t, dec_lt_f, dec_le_t, dec_le_f, dec_gt_t, dec_gt_f, dec_ge_t, dec_ge_f, dec_eq_t, dec_eq_f, dec_ne_t, dec_ne_f]
            refine ⟨(k + 1, m5 + 2), ⟨by dsimp only; omega, by dsimp only; omega⟩, ?_, ?_, by dsimp only; omega⟩
            · simp (maxSteps := 4000000) (implicitDefEqProofs := false) (disch := first | assumption | omega | (simp (implicitDefEqProofs := false) only [next_add, next_put, next_drop, next_bump, next_putS, next_dropS, List.length_set, List.length_append, List.length_cons, List.length_nil, List.length_take]; first | done | omega)) only [go_sem, Nat.reduceBEq, reduceIte, Nat.reduceAdd, f83, f14, htk5, envHas_cons, envHas_nil, cast_succ, cast_zero]
            · dsimp only
              ((with_reducible first | refine lex_bump ?_ ?_ | refine lex_sub ?_ ?_); all_goals repeat' (first | (with_reducible exact SubX.refl _ _) | (with_reducible refine SubX.of ?_; assumption) | (with_reducible apply subx_bump) | (with_reducible apply subx_bumpA) | (with_reducible apply subx_putS) | (with_reducible apply subx_put) | (with_reducible apply subx_addA) | (with_reducible apply subx_dropA) | (with_reducible apply subx_add hYw) | (with_reducible apply subx_bput hYw) | (with_reducible apply subx_bputS hYw) | (with_reducible apply subx_drop hYw) | (with_reducible apply subx_dropS hYw) | omega | (simp (implicitDefEqProofs := false) only [next_add, next_put, next_drop, next_bump, next_putS, next_dropS]; omega) | (left; simp; done) | (right; left; omega) | (right; right; assumption) | (right; left; simp (implicitDefEqProofs := false) only [next_add, next_put, next_drop, next_bump, next_putS, next_dropS]; omega) | (intro h0; omega) | (intro h0; simp (maxSteps := 4000000) (implicitDefEqProofs := false) (disch := first | assumption | omega | (simp (implicitDefEqProofs := false) only [next_add, next_put, next_drop, next_bump, next_putS, next_dropS, List.length_set, List.length_append, List.length_cons, List.length_nil, List.length_take]; first | done | omega)) only [go_sem, Nat.reduceBEq, reduceIte, Nat.reduceAdd]; done) | (simp (maxSteps := 4000000) (implicitDefEqProofs := false) (disch := first | assumption | omega | (simp (implicitDefEqProofs := false) only [next_add, next_put, next_drop, next_bump, next_putS, next_dropS, List.length_set, List.length_append, List.length_cons, List.length_nil, List.length_take]; first | done | omega)) only [go_sem, Nat.reduceBEq, reduceIte, Nat.reduceAdd]; done)))
          · have hke : k = sizes.length := by omega
            have htk6 : L.take k = L := List.take_of_length_le (by omega)
            simp (maxSteps := 4000000) (implicitDefEqProofs := false) (disch := first | assumption | omega | (simp (implicitDefEqProofs := false) only [next_add, next_put, next_drop, next_bump, next_putS, next_dropS, List.length_set, List.length_append, List.length_cons, List.length_nil, List.length_take]; first | done | omega)) only [go_sem, Nat.reduceBEq, reduceIte, Nat.reduceAdd, f83, f14, htk6, hs1, dec_lt_t, dec_lt_f, dec_le_t, dec_le_f, dec_gt_t, dec_gt_f, dec_ge_t, dec_ge_f, dec_eq_t, dec_eq_f, dec_ne_t, dec_ne_f]
            exact h _
        · refine Share_err (cleanM r).w sizes b i sizes.length c _ (hmono (hsub2 _ _) (by simp (implicitDefEqProofs := false) only [next_add, next_put, next_drop, next_bump, next_putS, next_dropS]; omega)) (by omega) _ ?_
          rw [he]
          simp (maxSteps := 4000000) (implicitDefEqProofs := false) (disch := first | assumption | omega | (simp (implicitDefEqProofs := false) only [next_add, next_put, next_drop, next_bump, next_putS, next_dropS, List.length_set, List.length_append, List.length_cons, List.length_nil, List.length_take]; first | done | omega)) only [go_sem, Nat.reduceBEq, reduceIte, Nat.reduceAdd, dec_lt_t, dec_lt_f, dec_le_t, dec_le_f, dec_gt_t, dec_gt_f, dec_ge_t, dec_ge_f, dec_eq_t, dec_eq_f, dec_ne_t, dec_ne_f]
          exact h _
  · simp (maxSteps := 4000000) (implicitDefEqProofs := false) (disch := first | assumption | omega | (simp (implicitDefEqProofs := false) only [next_add, next_put, next_drop, next_bump, next_putS, next_dropS, List.length_set, List.length_append, List.length_cons, List.length_nil, List.length_take]; first | done | omega)) only [go_sem, Nat.reduceBEq, reduceIte, Nat.reduceAdd]
    refine Alive.alive_spec _ _ ?_
    simp (maxSteps := 4000000) (implicitDefEqProofs := false) (disch := first | assumption | omega | (simp (implicitDefEqProofs := false) only [next_add, next_put, next_drop, next_bump, next_putS, next_dropS, List.length_set, List.length_append, List.length_cons, List.length_nil, List.length_take]; first | done | omega)) only [go_sem, Nat.reduceBEq, reduceIte, Nat.reduceAdd, dec_lt_t, dec_lt_f, dec_le_t, dec_le_f, dec_gt_t, dec_gt_f, dec_ge_t, dec_ge_f, dec_eq_t, dec_eq_f, dec_ne_t, dec_ne_f]
    refine loop_st (σ := V0) C13_mono [9, 25, 26, 27, 28, 29, 30, 31, 32, 33, 34, 35, 36] (fun s => [(25, .int .i64 (s.k : Int))])
      (fun s => (((H.put H.next (.cells [.int .i64 r.x, .int .i64 r.y, .int .i64 r.w, .int .i64 r.h] 4 true)).put (H.next + 1) (.cells [.int .i64 3, .int .i64 0, .int .i64 0, .string ByteArray.empty, apS s.i s.k, .slice none 0 0] 6 true)).putS s.i s.k (.cells (((sizes.map leafV).take s.k).flatMap pcells) 6 true)).bump s.m)
      (fun s => s.k ≤ sizes.length ∧ H.next + 2 ≤ s.i ∧ s.i < s.m) (fun s => sizes.length - s.k) ⟨0, H.next + 2, H.next + 3⟩ (by kernel_rfl) ⟨by simp, by simp, by simp⟩ ?_ ?_ ?_
    · simp (maxSteps := 4000000) (implicitDefEqProofs := false) (disch := first | assumption | omega | (simp (implicitDefEqProofs := false) only [next_add, next_put, next_drop, next_bump, next_putS, next_dropS, List.length_set, List.length_append, List.length_cons, List.length_nil, List.length_take]; first | done | omega)) only [go_sem, Nat.reduceBEq, reduceIte, Nat.reduceAdd, envHas_cons, envHas_nil, cast_succ, cast_zero]
    · dsimp only
      rw [apS_zero]
      ((with_reducible first | refine lex_bump ?_ ?_ | refine lex_sub ?_ ?_); all_goals repeat' (first | (with_reducible exact SubX.refl _ _) | (with_reducible refine SubX.of ?_; assumption) | (with_reducible apply subx_bump) | (with_reducible apply subx_bumpA) | (with_reducible apply subx_putS) | (with_reducible apply subx_put) | (with_reducible apply subx_addA) | (with_reducible apply subx_dropA) | (with_reducible apply subx_add hwf) | (with_reducible apply subx_bput hwf) | (with_reducible apply subx_bputS hwf) | (with_reducible apply subx_drop hwf) | (with_reducible apply subx_dropS hwf) | omega | (simp (implicitDefEqProofs := false) only [next_add, next_put, next_drop, next_bump, next_putS, next_dropS]; omega) | (left; simp; done) | (right; left; omega) | (right; right; assumption) | (right; left; simp (implicitDefEqProofs := false) only [next_add, next_put, next_drop, next_bump, next_putS, next_dropS]; omega) | (intro h0; omega) | (intro h0; simp (maxSteps := 4000000) (implicitDefEqProofs := false) (disch := first | assumption | omega | (simp (implicitDefEqProofs := false) only [next_add, next_put, next_drop, next_bump, next_putS, next_dropS, List.length_set, List.length_append, List.length_cons, List.length_nil, List.length_take]; first | done | omega)) only [go_sem, Nat.reduceBEq, reduceIte, Nat.reduceAdd]; done) | (simp (maxSteps := 4000000) (implicitDefEqProofs := false) (disch := first | assumption | omega | (simp (implicitDefEqProofs := false) only [next_add, next_put, next_drop, next_bump, next_putS, next_dropS, List.length_set, List.length_append, List.length_cons, List.length_nil, List.length_take]; first | done | omega)) only [go_sem, Nat.reduceBEq, reduceIte, Nat.reduceAdd]; done)))
    rintro ⟨k, i1, m1⟩ u ⟨g1, g2, g3⟩ ⟨f25, -⟩
    dsimp only at *
    have hll : (sizes.map leafV).length = sizes.length := List.length_map ..
    by_cases hlt2 : k < sizes.length
    · obtain ⟨rr, w, ho⟩ := hobj (by omega)
      have hlt' := hlt (by omega)
      have htk : (sizes.map leafV).take (k + 1) = (sizes.map leafV).take k ++ [leafV (nth sizes k)] := by rw [take_succ_nth (by omega), nth_map hlt2]
      have hkl : ((sizes.map leafV).take k).length = k := by rw [List.length_take]; omega
      simp (maxSteps := 4000000) (implicitDefEqProofs := false) (disch := first | assumption | omega | (simp (implicitDefEqProofs := false) only [next_add, next_put, next_drop, next_bump, next_putS, next_dropS, List.length_set, List.length_append, List.length_cons, List.length_nil, List.length_take]; first | done | omega)) only [go_sem, Nat.reduceBEq, reduceIte, Nat.reduceAdd, f25, ho, dec_lt_t, dec_lt_f, dec_le_t, dec_le_f, dec_gt_t, dec_gt_f, dec_ge_t, dec_ge_f, dec_eq_t, dec_eq_f, dec_ne_t, dec_ne_f]
      refine stepVH_go (aw28 (k := 1) (w := true) (cs := ((sizes.map leafV).take k).flatMap pcells) (new := pcells (leafV (nth sizes k))) (by decide) (fun h0 => ?_) (by rw [pc_len, hkl]) ?_ rfl rfl (by omega) (by omega)) ?_
      · simp (maxSteps := 4000000) (implicitDefEqProofs := false) (disch := first | assumption | omega | (simp (implicitDefEqProofs := false) only [next_add, next_put, next_drop, next_bump, next_putS, next_dropS, List.length_set, List.length_append, List.length_cons, List.length_nil, List.length_take]; first | done | omega)) only [go_sem, Nat.reduceBEq, reduceIte, Nat.reduceAdd]
      · simp only [pcells, leafV, slV]
        simp (maxSteps := 4000000) (implicitDefEqProofs := false) (disch := first | assumption | omega | (simp (implicitDefEqProofs := false) only [next_add, next_put, next_drop, next_bump, next_putS, next_dropS, List.length_set, List.length_append, List.length_cons, List.length_nil, List.length_take]; first | done | omega)) only [go_sem, Nat.reduceBEq, reduceIte, Nat.reduceAdd]
      simp (maxSteps := 4000000) (implicitDefEqProofs := false) (disch := first | assumption | omega | (simp (implicitDefEqProofs := false) only [next_add, next_put, next_drop, next_bump, next_putS, next_dropS, List.length_set, List.length_append, List.length_cons, List.length_nil, List.length_take]; first | done | omega)) only [go_sem, Nat.reduceBEq, reduceIte, Nat.reduceAdd, f25, dec_lt_t, dec_lt_f, dec_le_t, dec_le_f, dec_gt_t, dec_gt_f, dec_ge_t, dec_ge_f, dec_eq_t, dec_eq_f, dec_ne_t, dec_ne_f]
      refine ⟨⟨k + 1, m1 + 2, m1 + 3⟩, ⟨by dsimp only; omega, by dsimp only; omega, by dsimp only; omega⟩, ?_, ?_, by dsimp only; omega⟩
      · simp (maxSteps := 4000000) (implicitDefEqProofs := false) (disch := first | assumption | omega | (simp (implicitDefEqProofs := false) only [next_add, next_put, next_drop, next_bump, next_putS, next_dropS, List.length_set, List.length_append, List.length_cons, List.length_nil, List.length_take]; first | done | omega)) only [go_sem, Nat.reduceBEq, reduceIte, Nat.reduceAdd, f25, envHas_cons, envHas_nil, cast_succ, cast_zero]
      · dsimp only
        rw [htk]
        have e9 : ((sizes.map leafV).take k ++ [leafV (nth sizes k)]).flatMap pcells = ((sizes.map leafV).take k).flatMap pcells ++ pcells (leafV (nth sizes k)) := by simp
        rw [e9]
        ((with_reducible first | refine lex_bump ?_ ?_ | refine lex_sub ?_ ?_); all_goals repeat' (first | (with_reducible exact SubX.refl _ _) | (with_reducible refine SubX.of ?_; assumption) | (with_reducible apply subx_bump) | (with_reducible apply subx_bumpA) | (with_reducible apply subx_putS) | (with_reducible apply subx_put) | (with_reducible apply subx_addA) | (with_reducible apply subx_dropA) | (with_reducible apply subx_add hwf) | (with_reducible apply subx_bput hwf) | (with_reducible apply subx_bputS hwf) | (with_reducible apply subx_drop hwf) | (with_reducible apply subx_dropS hwf) | omega | (simp (implicitDefEqProofs := false) only [next_add, next_put, next_drop, next_bump, next_putS, next_dropS]; omega) | (left; simp; done) | (right; left; omega) | (right; right; assumption) | (right; left; simp (implicitDefEqProofs := false) only [next_add, next_put, next_drop, next_bump, next_putS, next_dropS]; omega) | (intro h0; omega) | (intro h0; simp (maxSteps := 4000000) (implicitDefEqProofs := false) (disch := first | assumption | omega | (simp (implicitDefEqProofs := false) only [next_add, next_put, next_drop, next_bump, next_putS, next_dropS, List.length_set, List.length_append, List.length_cons, List.length_nil, List.length_take]; first | done | omega)) only [go_sem, Nat.reduceBEq, reduceIte, Nat.reduceAdd]; done) | (simp (maxSteps := 4000000) (implicitDefEqProofs := false) (disch := first | assumption | omega | (simp (implicitDefEqProofs := false) only [next_add, next_put, next_drop, next_bump, next_putS, next_dropS, List.length_set, List.length_append, List.length_cons, List.length_nil, List.length_take]; first | done | omega)) only [go_sem, Nat.reduceBEq, reduceIte, Nat.reduceAdd]; done)))
    · obtain rfl : k = sizes.length := by omega
      have htk : (sizes.map leafV).take sizes.length = sizes.map leafV := List.take_of_length_le (by omega)
      rw [htk]
      obtain ⟨X, hX⟩ : ∃ X, X = (((H.put H.next (.cells [.int .i64 r.x, .int .i64 r.y, .int .i64 r.w, .int .i64 r.h] 4 true)).put (H.next + 1) (.cells [.int .i64 3, .int .i64 0, .int .i64 0, .string ByteArray.empty, apS i1 sizes.length, .slice none 0 0] 6 true)).putS i1 sizes.length (.cells ((sizes.map leafV).flatMap pcells) 6 true)).bump m1 := ⟨_, rfl⟩
      rw [← hX]
      have hXn : X.next = m1 := by rw [hX]; rfl
      have hX0 : X.get H.next = some (.cells [.int .i64 r.x, .int .i64 r.y, .int .i64 r.w, .int .i64 r.h] 4 true) := by rw [hX]; simp (maxSteps := 4000000) (implicitDefEqProofs := false) (disch := first | assumption | omega | (simp (implicitDefEqProofs := false) only [next_add, next_put, next_drop, next_bump, next_putS, next_dropS, List.length_set, List.length_append, List.length_cons, List.length_nil, List.length_take]; first | done | omega)) only [go_sem, Nat.reduceBEq, reduceIte, Nat.reduceAdd]
      have hX1 : X.get (H.next + 1) = some (.cells [.int .i64 3, .int .i64 0, .int .i64 0, .string ByteArray.empty, apS i1 sizes.length, .slice none 0 0] 6 true) := by rw [hX]; simp (maxSteps := 4000000) (implicitDefEqProofs := false) (disch := first | assumption | omega | (simp (implicitDefEqProofs := false) only [next_add, next_put, next_drop, next_bump, next_putS, next_dropS, List.length_set, List.length_append, List.length_cons, List.length_nil, List.length_take]; first | done | omega)) only [go_sem, Nat.reduceBEq, reduceIte, Nat.reduceAdd]
      have hXk : 0 < sizes.length → X.get i1 = some (.cells ((sizes.map leafV).flatMap pcells) 6 true) := by intro h0; rw [hX]; simp (maxSteps := 4000000) (implicitDefEqProofs := false) (disch := first | assumption | omega | (simp (implicitDefEqProofs := false) only [next_add, next_put, next_drop, next_bump, next_putS, next_dropS, List.length_set, List.length_append, List.length_cons, List.length_nil, List.length_take]; first | done | omega)) only [go_sem, Nat.reduceBEq, reduceIte, Nat.reduceAdd]
      have hXw : X.Wf := by
        rw [hX]
        intro j q hq
        show j < m1
        rw [gx_bump, gx_putS, gx_put, gx_put] at hq
        split at hq
        · omega
        · split at hq
          · omega
          · split at hq
            · omega
            · have := hwf _ _ hq; omega
      have hHX : H.Sub X := by
        intro j o hj
        have := hwf _ _ hj
        rw [hX, gx_bump, gx_putS, gx_put, gx_put, if_neg (by omega), if_neg (by omega), if_neg (by omega)]; exact hj
      have hpl : PlanIs X (splitP true sizes) ⟨3, 0, 0, ByteArray.empty, decide (0 < sizes.length), i1, sizes.length, sizes.length, false, 0, 0, 0⟩ := by
        simp only [splitP, PlanIs]
        refine ⟨by simp, by simp, by simp, by simp, fun _ => Nat.le_refl _, ⟨.inr rfl, rfl, fun q => absurd q (Nat.lt_irrefl 0), fun q => absurd q (Nat.lt_irrefl 0), Nat.zero_le _, fun q => by cases q⟩, sizes.map leafV, slIs_ap hll.symm (by omega) (fun _ => by omega) hXk, leafs_is sizes⟩
      simp (maxSteps := 4000000) (implicitDefEqProofs := false) (disch := first | assumption | omega | (simp (implicitDefEqProofs := false) only [next_add, next_put, next_drop, next_bump, next_putS, next_dropS, List.length_set, List.length_append, List.length_cons, List.length_nil, List.length_take]; first | done | omega)) only [go_sem, Nat.reduceBEq, reduceIte, Nat.reduceAdd, f25, hX0, hX1, dec_lt_t, dec_lt_f, dec_le_t, dec_le_f, dec_gt_t, dec_gt_f, dec_ge_t, dec_ge_f, dec_eq_t, dec_eq_f, dec_ne_t, dec_ne_f]
      refine Check_spec (splitP true sizes) ⟨3, 0, 0, ByteArray.empty, decide (0 < sizes.length), i1, sizes.length, sizes.length, false, 0, 0, 0⟩ X hpl _ ?_
      simp (maxSteps := 4000000) (implicitDefEqProofs := false) (disch := first | assumption | omega | (simp (implicitDefEqProofs := false) only [next_add, next_put, next_drop, next_bump, next_putS, next_dropS, List.length_set, List.length_append, List.length_cons, List.length_nil, List.length_take]; first | done | omega)) only [go_sem, Nat.reduceBEq, reduceIte, Nat.reduceAdd, f25, hX0, hX1, dec_lt_t, dec_lt_f, dec_le_t, dec_le_f, dec_gt_t, dec_gt_f, dec_ge_t, dec_ge_f, dec_eq_t, dec_eq_f, dec_ne_t, dec_ne_f]
      refine condV_split (fun hc => ?_) (fun hc => ?_)
      · have hpm : placeM (splitP true sizes) r = [] := by unfold placeM; rw [if_neg (by simpa using hc)]
        simp (maxSteps := 4000000) (implicitDefEqProofs := false) (disch := first | assumption | omega | (simp (implicitDefEqProofs := false) only [next_add, next_put, next_drop, next_bump, next_putS, next_dropS, List.length_set, List.length_append, List.length_cons, List.length_nil, List.length_take]; first | done | omega)) only [go_sem, Nat.reduceBEq, reduceIte, Nat.reduceAdd, f25, hX0, hX1, dec_lt_t, dec_lt_f, dec_le_t, dec_le_f, dec_gt_t, dec_gt_f, dec_ge_t, dec_ge_f, dec_eq_t, dec_eq_f, dec_ne_t, dec_ne_f]
        refine Place_spec (splitP true sizes) ⟨3, 0, 0, ByteArray.empty, decide (0 < sizes.length), i1, sizes.length, sizes.length, false, 0, 0, 0⟩ r X hpl _ ?_
        intro jg mg hjg hmg
        rw [hpm, List.length_nil]
        simp (maxSteps := 4000000) (implicitDefEqProofs := false) (disch := first | assumption | omega | (simp (implicitDefEqProofs := false) only [next_add, next_put, next_drop, next_bump, next_putS, next_dropS, List.length_set, List.length_append, List.length_cons, List.length_nil, List.length_take]; first | done | omega)) only [go_sem, Nat.reduceBEq, reduceIte, Nat.reduceAdd, cast_zero, dec_lt_t, dec_lt_f, dec_le_t, dec_le_f, dec_gt_t, dec_gt_f, dec_ge_t, dec_ge_f, dec_eq_t, dec_eq_f, dec_ne_t, dec_ne_f]
        exact h _
      · have hc0 : checkM (splitP true sizes) = 0 := by simpa using hc
        obtain ⟨hSl, hSe, hSn⟩ := split_place hc0 r
        simp (maxSteps := 4000000) (implicitDefEqProofs := false) (disch := first | assumption | omega | (simp (implicitDefEqProofs := false) only [next_add, next_put, next_drop, next_bump, next_putS, next_dropS, List.length_set, List.length_append, List.length_cons, List.length_nil, List.length_take]; first | done | omega)) only [go_sem, Nat.reduceBEq, reduceIte, Nat.reduceAdd, f25, hX0, hX1, dec_lt_t, dec_lt_f, dec_le_t, dec_le_f, dec_gt_t, dec_gt_f, dec_ge_t, dec_ge_f, dec_eq_t, dec_eq_f, dec_ne_t, dec_ne_f]
        refine Place_spec (splitP true sizes) ⟨3, 0, 0, ByteArray.empty, decide (0 < sizes.length), i1, sizes.length, sizes.length, false, 0, 0, 0⟩ r X hpl _ ?_
        intro jg mg hjg hmg
        rw [hSl]
        generalize placeM (splitP true sizes) r = S at *
        have hlo : lenOf true (cleanM r) = (cleanM r).h := rfl
        rw [hlo] at hSe hSn
        simp (maxSteps := 4000000) (implicitDefEqProofs := false) (disch := first | assumption | omega | (simp (implicitDefEqProofs := false) only [next_add, next_put, next_drop, next_bump, next_putS, next_dropS, List.length_set, List.length_append, List.length_cons, List.length_nil, List.length_take]; first | done | omega)) only [go_sem, Nat.reduceBEq, reduceIte, Nat.reduceAdd, f25, hX0, hX1, dec_lt_t, dec_lt_f, dec_le_t, dec_le_f, dec_gt_t, dec_gt_f, dec_ge_t, dec_ge_f, dec_eq_t, dec_eq_f, dec_ne_t, dec_ne_f]
        have hmono : ∀ {Z : AHeap}, H.Sub Z → H.next ≤ Z.next → SlIs scells 2 Z b i sizes.length sizes := fun q1 q2 => hs.mono q1 q2
        have hsub2 : ∀ o o2, H.Sub (((X.putS jg sizes.length o).bump mg).put H.next o2) := by
          intro o o2 j q hj
          have := hwf _ _ hj
          rw [gx_put, gx_bump, gx_putS, if_neg (by omega), if_neg (by omega)]; exact hHX _ _ hj
        rcases hSe with he | ⟨he, hlt90⟩
        · refine Share_ok (cleanM r).h sizes b i sizes.length c _ (hmono (hsub2 _ _) (by simp (implicitDefEqProofs := false) only [next_add, next_put, next_drop, next_bump, next_putS, next_dropS]; omega)) he _ ?_
          intro jn mn hjn hmn
          simp (implicitDefEqProofs := false) only [next_add, next_put, next_drop, next_bump, next_putS, next_dropS] at hjn
          obtain ⟨hs1, hs2⟩ := share_sum he
          have hsl := shareO_len (cleanM r).h sizes
          have hSn' := hSn he
          obtain ⟨p1, p2, -⟩ := split_ok hc0
          generalize shareO (cleanM r).h sizes = L at *
          simp (maxSteps := 4000000) (implicitDefEqProofs := false) (disch := first | assumption | omega | (simp (implicitDefEqProofs := false) only [next_add, next_put, next_drop, next_bump, next_putS, next_dropS, List.length_set, List.length_append, List.length_cons, List.length_nil, List.length_take]; first | done | omega)) only [go_sem, Nat.reduceBEq, reduceIte, Nat.reduceAdd, f25, hX0, hX1, dec_lt_t, dec_lt_f, dec_le_t, dec_le_f, dec_gt_t, dec_gt_f, dec_ge_t, dec_ge_f, dec_eq_t, dec_eq_f, dec_ne_t, dec_ne_f]
          obtain ⟨Y, hY⟩ : ∃ Y, Y = ((((X.putS jg sizes.length (.cells (S.flatMap spc) 7 true)).bump mg).put H.next (.cells [.int .i64 (cleanM r).x, .int .i64 (cleanM r).y, .int .i64 (cleanM r).w, .int .i64 (cleanM r).h] 4 true)).put jn (.cells (L.flatMap ic) 1 true)).bump mn := ⟨_, rfl⟩
          rw [← hY]
          have hY0 : Y.get H.next = some (.cells [.int .i64 (cleanM r).x, .int .i64 (cleanM r).y, .int .i64 (cleanM r).w, .int .i64 (cleanM r).h] 4 true) := by rw [hY]; simp (maxSteps := 4000000) (implicitDefEqProofs := false) (disch := first | assumption | omega | (simp (implicitDefEqProofs := false) only [next_add, next_put, next_drop, next_bump, next_putS, next_dropS, List.length_set, List.length_append, List.length_cons, List.length_nil, List.length_take]; first | done | omega)) only [go_sem, Nat.reduceBEq, reduceIte, Nat.reduceAdd]
          have hYg : Y.get jg = some (.cells (S.flatMap spc) 7 true) := by rw [hY]; simp (maxSteps := 4000000) (implicitDefEqProofs := false) (disch := first | assumption | omega | (simp (implicitDefEqProofs := false) only [next_add, next_put, next_drop, next_bump, next_putS, next_dropS, List.length_set, List.length_append, List.length_cons, List.length_nil, List.length_take]; first | done | omega)) only [go_sem, Nat.reduceBEq, reduceIte, Nat.reduceAdd]
          have hYn : Y.get jn = some (.cells (L.flatMap ic) 1 true) := by rw [hY]; simp (maxSteps := 4000000) (implicitDefEqProofs := false) (disch := first | assumption | omega | (simp (implicitDefEqProofs := false) only [next_add, next_put, next_drop, next_bump, next_putS, next_dropS, List.length_set, List.length_append, List.length_cons, List.length_nil, List.length_take]; first | done | omega)) only [go_sem, Nat.reduceBEq, reduceIte, Nat.reduceAdd]
          have hYm : Y.next = mn := by rw [hY]; rfl
          have hYw : Y.Wf := by
            rw [hY]
            intro j q hq
            show j < mn
            rw [gx_bump, gx_put, gx_put, gx_bump, gx_putS] at hq
            split at hq
            · omega
            · split at hq
              · omega
              · split at hq
                · omega
                · have := hXw _ _ hq; omega
          have hsb : ∀ k, 0 ≤ sumL (L.take k) ∧ sumL (L.take k) ≤ 3200 := by
            intro k
            have q1 : ∀ x ∈ L.take k, 1 ≤ x := fun x hx => hs2 x (List.mem_of_mem_take hx)
            have q2 := sumL_nonneg q1
            have q3 : sumL L = sumL (L.take k) + sumL (L.drop k) := by rw [← sumL_append, List.take_append_drop]
            have q4 : 0 ≤ sumL (L.drop k) := sumL_nonneg fun x hx => hs2 x (List.mem_of_mem_drop hx)
            omega
          refine loop_st (σ := Nat × Nat) C13_mono [6, 14, 15, 16, 17, 83, 84, 85, 86, 87, 88, 89, 90, 91, 92, 93, 94, 95, 96, 97, 98, 99, 100, 101, 102, 103, 104, 105, 106, 107, 108, 109, 110, 111, 112, 113, 114, 115, 116, 117, 118, 119, 120, 121, 122, 123, 124, 125] (fun s => [(83, .int .i64 (s.1 : Int)), (14, .int .i64 (sumL (L.take s.1)))]) (fun s => Y.bump s.2)
            (fun s => s.1 ≤ sizes.length ∧ mn ≤ s.2) (fun s => sizes.length - s.1) (0, mn) (by kernel_rfl) ⟨by simp, by simp⟩ ?_ ?_ ?_
          · simp (maxSteps := 4000000) (implicitDefEqProofs := false) (disch := first | assumption | omega | (simp (implicitDefEqProofs := false) only [next_add, next_put, next_drop, next_bump, next_putS, next_dropS, List.length_set, List.length_append, List.length_cons, List.length_nil, List.length_take]; first | done | omega)) only [go_sem, Nat.reduceBEq, reduceIte, Nat.reduceAdd, List.take_zero, sumL_nil, envHas_cons, envHas_nil, cast_succ, cast_zero]
          · dsimp only
            ((with_reducible first | refine lex_bump ?_ ?_ | refine lex_sub ?_ ?_); all_goals repeat' (first | (with_reducible exact SubX.refl _ _) | (with_reducible refine SubX.of ?_; assumption) | (with_reducible apply subx_bump) | (with_reducible apply subx_bumpA) | (with_reducible apply subx_putS) | (with_reducible apply subx_put) | (with_reducible apply subx_addA) | (with_reducible apply subx_dropA) | (with_reducible apply subx_add hYw) | (with_reducible apply subx_bput hYw) | (with_reducible apply subx_bputS hYw) | (with_reducible apply subx_drop hYw) | (with_reducible apply subx_dropS hYw) | omega | (simp (implicitDefEqProofs := false) only [next_add, next_put, next_drop, next_bump, next_putS, next_dropS]; omega) | (left; simp; done) | (right; left; omega) | (right; right; assumption) | (right; left; simp (implicitDefEqProofs := false) only [next_add, next_put, next_drop, next_bump, next_putS, next_dropS]; omega) | (intro h0; omega) | (intro h0; simp (maxSteps := 4000000) (implicitDefEqProofs := false) (disch := first | assumption | omega | (simp (implicitDefEqProofs := false) only [next_add, next_put, next_drop, next_bump, next_putS, next_dropS, List.length_set, List.length_append, List.length_cons, List.length_nil, List.length_take]; first | done | omega)) only [go_sem, Nat.reduceBEq, reduceIte, Nat.reduceAdd]; done) | (simp (maxSteps := 4000000) (implicitDefEqProofs := false) (disch := first | assumption | omega | (simp (implicitDefEqProofs := false) only [next_add, next_put, next_drop, next_bump, next_putS, next_dropS, List.length_set, List.length_append, List.length_cons, List.length_nil, List.length_take]; first | done | omega)) only [go_sem, Nat.reduceBEq, reduceIte, Nat.reduceAdd]; done)))
          rintro ⟨k, m5⟩ u5 ⟨w1, w2⟩ ⟨f83, f14, -⟩
          dsimp only at *
          by_cases hk5 : k < sizes.length
          · have hkS : k < S.length := by omega
            have hkL : k < L.length := by omega
            have hnk := hSn' k hk5
            simp only [Bool.false_eq_true, if_false, if_true] at hnk
            have hsk := hsb k
            have hsk1 := hsb (k + 1)
            have htk5 : sumL (L.take (k + 1)) = sumL (L.take k) + nth L k := by rw [take_succ_nth hkL, sumL_append]; simp [sumL_cons, sumL_nil]
            simp (maxSteps := 4000000) (implicitDefEqProofs := false) (disch := first | assumption | omega | (simp (implicitDefEqProofs := false) only [next_add, next_put, next_drop, next_bump, next_putS, next_dropS, List.length_set, List.length_append, List.length_cons, List.length_nil, List.length_take]; first | done | omega)) only [go_sem, Nat.reduceBEq, reduceIte, Nat.reduceAdd, f83, f14, hY0, hYg, hYn, dec_lt_t, dec_lt_f, dec_le_t, dec_le_f, dec_gt_t, dec_gt_f, dec_ge_t, dec_ge_f, dec_eq_t, dec_eq_f, dec_ne_t, dec_ne_f]
            refine draw_at 25 [(0, none), (1, none), (2, none), (3, none), (4, none), (5, none), (6, none), (7, none), (8, none), (9, none), (10, none), (11, none), (12, none), (13, some [1, 5, 9, 11]), (14, some [])] (by kernel_rfl) ?_
            simp (maxSteps := 4000000) (implicitDefEqProofs := false) (disch := first | assumption | omega | (simp (implicitDefEqProofs := false) only [next_add, next_put, next_drop, next_bump, next_putS, next_dropS, List.length_set, List.length_append, List.length_cons, List.length_nil, List.length_take]; first | done | omega)) only [go_sem, Nat.reduceBEq, reduceIte, Nat.reduceAdd, f83, f14, hY0, hYg, hYn, hnk, dec_lt_t, dec_lt_f, dec_le_t, dec_le_f, dec_gt_t, dec_gt_f, dec_ge_t, dec_ge_f, dec_eq_t, dec_eq_f, dec_ne_t, dec_ne_f]
            refine draw_at 27 [(0, none), (1, none), (2, none), (3, none), (4, none), (5, none), (6, none), (7, none), (8, none), (9, none), (10, none), (11, none), (12, none), (13, some [])] (by kernel_rfl) ?_
            simp (maxSteps := 4000000) (implicitDefEqProofs := false) (disch := first | assumption | omega | (simp (implicitDefEqProofs := false) only [next_add, next_put, next_drop, next_bump, next_putS, next_dropS, List.length_set, List.length_append, List.length_cons, List.length_nil, List.length_take]; first | done | omega)) only [go_sem, Nat.reduceBEq, reduceIte, Nat.reduceAdd, f83, f14, hY0, hYg, hYn, hnk, dec_lt_t, dec_lt_f, dec_le_t, dec_le_f, dec_gt_t, dec_gt_f, dec_ge_t, dec_ge_f, dec_eq_t, dec_eq_f, dec_ne_t, dec_ne_f]
            refine ⟨(k + 1, m5 + 2), ⟨by dsimp only; omega, by dsimp only; omega⟩, ?_, ?_, by dsimp only; omega⟩
            · simp (maxSteps := 4000000) (implicitDefEqProofs := false) (disch := first | assumption | omega | (simp (implicitDefEqProofs := false) only [next_add, next_put, next_drop, next_bump, next_putS, next_dropS, List.length_set, List.length_append, List.length_cons, List.length_nil, List.length_take]; first | done | omega)) only [go_sem, Nat.reduceBEq, reduceIte, Nat.reduceAdd, f83, f14, htk5, envHas_cons, envHas_nil, cast_succ, cast_zero]
            · dsimp only
              ((with_reducible first | refine lex_bump ?_ ?_ | refine lex_sub ?_ ?_); all_goals repeat' (first | (with_reducible exact SubX.refl _ _) | (with_reducible refine SubX.of ?_; assumption) | (with_reducible apply subx_bump) | (with_reducible apply subx_bumpA) | (with_reducible apply subx_putS) | (with_reducible apply subx_put) | (with_reducible apply subx_addA) | (with_reducible apply subx_dropA) | (with_reducible apply subx_add hYw) | (with_reducible apply subx_bput hYw) | (with_reducible apply subx_bputS hYw) | (with_reducible apply subx_drop hYw) | (with_reducible apply subx_dropS hYw) | omega | (simp (implicitDefEqProofs := false) only [next_add, next_put, next_drop, next_bump, next_putS, next_dropS]; omega) | (left; simp; done) | (right; left; omega) | (right; right; assumption) | (right; left; simp (implicitDefEqProofs := false) only [next_add, next_put, next_drop, next_bump, next_putS, next_dropS]; omega) | (intro h0; omega) | (intro h0; simp (maxSteps := 4000000) (implicitDefEqProofs := false) (disch := first | assumption | omega | (simp (implicitDefEqProofs := false) only [next_add, next_put, next_drop, next_bump, next_putS, next_dropS, List.length_set, List.length_append, List.length_cons, List.length_nil, List.length_take]; first | done | omega)) only [go_sem, Nat.reduceBEq, reduceIte, Nat.reduceAdd]; done) | (simp (maxSteps := 4000000) (implicitDefEqProofs := false) (disch := first | assumption | omega | (simp (implicitDefEqProofs := false) only [next_add, next_put, next_drop, next_bump, next_putS, next_dropS, List.length_set, List.length_append, List.length_cons, List.length_nil, List.length_take]; first | done | omega)) only [go_sem, Nat.reduceBEq, reduceIte, Nat.reduceAdd]; done)))
          · have hke : k = sizes.length := by omega
            have htk6 : L.take k = L := List.take_of_length_le (by omega)
            simp (maxSteps := 4000000) (implicitDefEqProofs := false) (disch := first | assumption | omega | (simp (implicitDefEqProofs := false) only [next_add, next_put, next_drop, next_bump, next_putS, next_dropS, List.length_set, List.length_append, List.length_cons, List.length_nil, List.length_take]; first | done | omega)) only [go_sem, Nat.reduceBEq, reduceIte, Nat.reduceAdd, f83, f14, htk6, hs1, dec_lt_t, dec_lt_f, dec_le_t, dec_le_f, dec_gt_t, dec_gt_f, dec_ge_t, dec_ge_f, dec_eq_t, dec_eq_f, dec_ne_t, dec_ne_f]
            exact h _
        · refine Share_err (cleanM r).h sizes b i sizes.length c _ (hmono (hsub2 _ _) (by simp (implicitDefEqProofs := false) only [next_add, next_put, next_drop, next_bump, next_putS, next_dropS]; omega)) (by omega) _ ?_
          rw [he]
          simp (maxSteps := 4000000) (implicitDefEqProofs := false) (disch := first | assumption | omega | (simp (implicitDefEqProofs := false) only [next_add, next_put, next_drop, next_bump, next_putS, next_dropS, List.length_set, List.length_append, List.length_cons, List.length_nil, List.length_take]; first | done | omega)) only [go_sem, Nat.reduceBEq, reduceIte, Nat.reduceAdd, dec_lt_t, dec_lt_f, dec_le_t, dec_le_f, dec_gt_t, dec_gt_f, dec_ge_t, dec_ge_f, dec_eq_t, dec_eq_f, dec_ne_t, dec_ne_f]
          exact h _
end Go.LH.Plan
