/-
  Plans: how they are laid.
-/
import Derived.Test.YtmjlmlipnejbfaaGreatDoorCheck
set_option linter.all false
namespace Go.LH.Ty
open Go.Proofs
theorem ab41 {parts : List (Nat × Value)} : abuild Tryz.prog 41 parts = (afillL [(0, 1), (1, 4), (5, 1), (6, 1)] [.int .i64 0, .int .i64 0, .int .i64 0, .int .i64 0, .int .i64 0, .int .i64 0, .bool false] parts).map fun cs => .agg cs.toArray := abuild_struct (by kernel_rfl) (by kernel_rfl) parts
theorem aw34 {H : AHeap} {i j n k c : Nat} {w : Bool} {cs new : List Value} (hk : 0 < k) (hobj : 0 < n → H.get i = some (.cells cs 7 true)) (hcs : cs.length = n * 7) (hx : H.get j = some (.cells new 7 w)) (hnew : new.length = k * 7) (hone : new.all oneCell = true) (hb1 : (n + k) * 56 ≤ 140737488355328) (hb2 : n + k ≤ 140737488355328) : abuiltin Tryz.prog .append #[34, 34] [apS i n, .slice (some ⟨j, 0, none⟩) k c] H = some (apS H.next (n + k), (H.dropS i n).add (.cells (cs ++ new) 7 true)) := append_apS (e := 41) (t1 := 41) (zero := [.int .i64 0, .int .i64 0, .int .i64 0, .int .i64 0, .int .i64 0, .int .i64 0, .bool false]) (by decide) (by kernel_rfl) (by kernel_rfl) (by kernel_rfl) (by kernel_rfl) (by kernel_rfl) rfl hk hobj hcs hx hnew hone hb1 hb2
theorem bs34 {H : AHeap} {v : Value} : abuildSlice Tryz.prog H 34 1 [(0, v)] = guardO (v.cells.toList.length == 7) (guardO (v.cells.toList.all oneCell) (some (.slice (some ⟨H.next, 0, none⟩) 1 1, H.add (.cells v.cells.toList 7 true)))) := build_one (e := 41) (zero := [.int .i64 0, .int .i64 0, .int .i64 0, .int .i64 0, .int .i64 0, .int .i64 0, .bool false]) (by kernel_rfl) (by kernel_rfl) (by kernel_rfl) rfl (by decide)
theorem ld34 {H : AHeap} {i o : Nat} : AHeap.load Tryz.prog H 34 i o = cellE (H.get i) o := load_cell (n := 1) (by kernel_rfl) (by kernel_rfl)
theorem ln34 {x : Value} {H : AHeap} : abuiltin Tryz.prog .len #[34] [x] H = (alenV Tryz.prog (some (.slice 41)) x).map fun v => (v, H) := by rw [b_len, show (#[34][0]?.bind (Program.underlying Tryz.prog)) = some (.slice 41) from by kernel_rfl]
theorem so34 {H : AHeap} {i o : Nat} {v : Value} : AHeap.store Tryz.prog H 34 i o v = storeS 1 H i (H.get i) o v.cells.toList := store_S (by kernel_rfl)
theorem tf70_0 : tfield Tryz.prog 70 0 = some (34, 0) := by kernel_rfl
attribute [go_sem] ab41 bs34 ld34 ln34 so34 tf70_0
end Go.LH.Ty
namespace Go.LH.Plan
open Go.Proofs Go.LH.Ty Go.LH.Rect Go.LH.Solve Go.LH.Cut
structure Spot where
  pane : Nat
  r : Rect
  z : Nat
  title : Bool
  deriving Inhabited
def spc (s : Spot) : List Value := [.int .i64 (s.pane : Int), .int .i64 s.r.x, .int .i64 s.r.y, .int .i64 s.r.w, .int .i64 s.r.h, .int .i64 (s.z : Int), .bool s.title]
theorem sp_z (x : Spot) : (spc x).length = 7 := rfl
theorem sp_agg {xs : List Spot} {r : List Value} {k : Nat} (h : k < xs.length) : takeE (xs.flatMap spc ++ r) (k * 7) 7 = some (spc (nth xs k)) := flat_take sp_z h
theorem sp_agg0 {xs : List Spot} {k : Nat} (h : k < xs.length) : takeE (xs.flatMap spc) (k * 7) 7 = some (spc (nth xs k)) := by have := sp_agg (r := []) h; rwa [List.append_nil] at this
theorem sp_cell {xs : List Spot} {r : List Value} {k j : Nat} (h : k < xs.length) (hj : j < 7) : (xs.flatMap spc ++ r)[k * 7 + j]? = (spc (nth xs k))[j]? := flat_cell sp_z h hj
theorem sp_cell0 {xs : List Spot} {r : List Value} {k : Nat} (h : k < xs.length) : (xs.flatMap spc ++ r)[k * 7]? = (spc (nth xs k))[0]? := flat_cell (j := 0) sp_z h (by decide)
theorem sp_cell1 {xs : List Spot} {k j : Nat} (h : k < xs.length) (hj : j < 7) : (xs.flatMap spc)[k * 7 + j]? = (spc (nth xs k))[j]? := by have := sp_cell (r := []) h hj; rwa [List.append_nil] at this
theorem sp_cell2 {xs : List Spot} {k : Nat} (h : k < xs.length) : (xs.flatMap spc)[k * 7]? = (spc (nth xs k))[0]? := by have := sp_cell0 (r := []) h; rwa [List.append_nil] at this
theorem sp_len {xs : List Spot} : (xs.flatMap spc).length = xs.length * 7 := flat_length sp_z xs
theorem sp_app {xs : List Spot} {x : Spot} : xs.flatMap spc ++ spc x = (xs ++ [x]).flatMap spc := by simp
attribute [go_sem] sp_agg sp_agg0 sp_cell sp_cell0 sp_cell1 sp_cell2 spc

def addM (ss : List Spot) (r : Rect) (z : Nat) (t : Bool) : List Spot := ss ++ [⟨ss.length, r, z, t⟩]
def stackM : Nat → Rect → List Spot → List Spot
  | 0, r, ss => addM ss (cleanM r) 0 false
  | k + 1, r, ss => stackM k ⟨r.x, r.y + min 1 (max (r.h - 1) 0), r.w, r.h - min 1 (max (r.h - 1) 0)⟩ (addM ss (cleanM ⟨r.x, r.y, r.w, min 1 (max (r.h - 1) 0)⟩) 0 true)
def lensM (total : Int) (sizes : List Size) : List Int := if shareE total sizes = 0 then shareO total sizes else List.replicate sizes.length 1
def totalM (kind : Int) (r : Rect) : Int := if kind = 3 then r.h else r.w
mutual
def layM : Plan → Rect → List Spot → List Spot
  | .mk kind _ _ kids _, r, ss =>
    if kind = 1 then addM ss r 0 false
    else if kind = 4 then stackM (kids.length - 1) r ss
    else layKs kids (cutM r (lensM (totalM kind r) (kids.map Plan.size)) (decide (kind = 3))) ss
def layKs : List Plan → List Rect → List Spot → List Spot
  | [], _, ss => ss
  | _ :: _, [], ss => ss
  | p :: ps, r :: rs, ss => layKs ps rs (layM p r ss)
end
mutual
def nleaves : Plan → Nat
  | .mk kind _ _ kids _ => if kind = 1 then 1 else nleavesK kids
def nleavesK : List Plan → Nat
  | [] => 0
  | p :: ps => nleaves p + nleavesK ps
end
/-- Right plans: as measure finds them. -/
def Ms (p : Plan) : Prop := ∃ d l, (measM p d l).1 = true
theorem measKs_all {kind : Int} : ∀ {ps : List Plan} {d : Nat} {l : Int}, (measKs kind ps d l).1 = true → ∀ k ∈ ps, Ms k ∧ (kind = 4 → k.kind = 1)
  | [], _, _, _, _, hk => by simp at hk
  | p :: ps, d, l, h, k, hk => by
    simp only [measKs] at h
    split at h
    · cases h
    · rename_i hn
      split at h
      · rename_i hp
        rcases List.mem_cons.1 hk with rfl | hk
        · exact ⟨⟨d, l, hp⟩, fun e => by
            apply Classical.byContradiction
            intro q; exact hn ⟨e, q⟩⟩
        · exact measKs_all h k hk
      · cases h
theorem Ms.parts {p : Plan} (h : Ms p) : okSize p.size = true ∧ (p.kind = 1 ∨ ((p.kind = 2 ∨ p.kind = 3 ∨ p.kind = 4) ∧ 1 ≤ p.kids.length ∧ p.kids.length ≤ 16 ∧ ∀ k ∈ p.kids, Ms k ∧ (p.kind = 4 → k.kind = 1))) := by
  obtain ⟨kind, size, name, kids, float⟩ := p
  obtain ⟨d, l, h⟩ := h
  simp only [measM] at h
  split at h
  · cases h
  · rename_i h1
    have hs : okSize size = true := by
      cases q : okSize size
      · exact absurd (.inr q) h1
      · rfl
    refine ⟨hs, ?_⟩
    split at h
    · rename_i h2; exact .inl h2
    · split at h
      · rename_i h3
        split at h
        · cases h
        · rename_i h4
          exact .inr ⟨h3, by show 1 ≤ kids.length; omega, by show kids.length ≤ 16; omega, measKs_all h⟩
      · cases h
mutual
theorem meas_leaves : ∀ (p : Plan) (d : Nat) (l : Int), (measM p d l).1 = true → (measM p d l).2 = l + nleaves p
  | .mk kind size name kids float, d, l, h => by
    simp only [measM] at h ⊢
    simp only [nleaves]
    split at h
    · cases h
    · rename_i h1
      rw [if_neg h1]
      split at h
      · rename_i h2; rw [if_pos h2, if_pos h2]; rfl
      · rename_i h2
        rw [if_neg h2, if_neg h2]
        split at h
        · rename_i h3
          rw [if_pos h3]
          split at h
          · cases h
          · rename_i h4
            rw [if_neg h4]
            exact measK_leaves kind kids _ _ h
        · cases h
theorem measK_leaves (kind : Int) : ∀ (ps : List Plan) (d : Nat) (l : Int), (measKs kind ps d l).1 = true → (measKs kind ps d l).2 = l + nleavesK ps
  | [], d, l, h => by simp [measKs, nleavesK]
  | p :: ps, d, l, h => by
    simp only [measKs] at h ⊢
    simp only [nleavesK]
    split at h
    · cases h
    · rename_i h1
      rw [if_neg h1]
      split at h
      · rename_i h2
        rw [if_pos h2, measK_leaves kind ps d _ h, meas_leaves p d l h2]
        omega
      · cases h
end
theorem stackM_len : ∀ (k : Nat) (r : Rect) (ss : List Spot), (stackM k r ss).length = ss.length + (k + 1)
  | 0, r, ss => by simp [stackM, addM]
  | k + 1, r, ss => by rw [stackM, stackM_len k]; simp [addM]; omega
theorem backM_len : ∀ (k : Nat) (out : List Int) (left : Int), (backM k out left).1.length = out.length
  | 0, _, _ => rfl
  | k + 1, out, left => by
    rw [backM]
    split
    · rw [backM_len k]; simp
    · rfl
theorem spreadM_len (left : Int) (L : Nat) : ∀ (is : List Nat) (n : Nat) (out : List Int), (spreadM left L n is out).length = out.length
  | [], _, _ => rfl
  | i :: is, n, out => by rw [spreadM, spreadM_len left L is]; simp
theorem shareO_len (total : Int) (sizes : List Size) : (shareO total sizes).length = sizes.length := by
  unfold shareO
  dsimp only
  split
  · simp [lastM, backM_len]
  · rw [spreadM_len, backM_len]; simp
theorem lensM_len (total : Int) (sizes : List Size) : (lensM total sizes).length = sizes.length := by
  unfold lensM
  split
  · exact shareO_len _ _
  · simp
theorem cutM_len {r : Rect} {ns : List Int} {across : Bool} (h : ns.length ≤ 16) : (cutM r ns across).length = ns.length := by
  rw [cutM, cutL_len, List.length_take]; omega
theorem nleavesK_one : ∀ (ps : List Plan), (∀ k ∈ ps, k.kind = 1) → nleavesK ps = ps.length
  | [], _ => rfl
  | p :: ps, h => by
    have h1 := h p (by simp)
    obtain ⟨kind, size, name, kids, float⟩ := p
    simp only [Plan.kind] at h1
    rw [nleavesK, nleaves, if_pos h1, nleavesK_one ps fun k hk => h k (by simp [hk])]
    simp; omega
mutual
theorem layM_len : ∀ (p : Plan) (r : Rect) (ss : List Spot), Ms p → (layM p r ss).length = ss.length + nleaves p
  | .mk kind size name kids float, r, ss, h => by
    have hp := h.parts
    simp only [Plan.kind, Plan.kids] at hp
    obtain ⟨-, hp⟩ := hp
    simp only [layM, nleaves]
    by_cases h1 : kind = 1
    · rw [if_pos h1, if_pos h1]; simp [addM]
    · rw [if_neg h1, if_neg h1]
      rcases hp with hp | ⟨h2, h3, h4, h5⟩
      · exact absurd hp h1
      · by_cases hk : kind = 4
        · rw [if_pos hk, stackM_len, nleavesK_one kids fun k hkk => (h5 k hkk).2 hk]; omega
        · rw [if_neg hk]
          exact layKs_len kids _ ss (fun k hkk => (h5 k hkk).1) (by rw [cutM_len (by rw [lensM_len]; simpa using h4), lensM_len]; simp)
theorem layKs_len : ∀ (ps : List Plan) (rs : List Rect) (ss : List Spot), (∀ k ∈ ps, Ms k) → rs.length = ps.length → (layKs ps rs ss).length = ss.length + nleavesK ps
  | [], _, ss, _, _ => by simp [layKs, nleavesK]
  | p :: ps, [], _, _, h => by simp at h
  | p :: ps, r :: rs, ss, hm, h => by
    rw [layKs, layKs_len ps rs _ (fun k hk => hm k (by simp [hk])) (by simpa using h), layM_len p r ss (hm p (by simp)), nleavesK]
    omega
end
/-- The placer's heap: over all else. -/
def PH (B : AHeap) (px si m : Nat) (ss : List Spot) : AHeap := ((B.put px (.cells [apS si ss.length] 1 true)).putS si ss.length (.cells (ss.flatMap spc) 7 true)).bump m
structure POk (H0 B : AHeap) (px si m : Nat) : Prop where
  hpx : H0.next ≤ px
  hsi : H0.next ≤ si
  ne : px ≠ si
  pm : px < m
  sm : si < m
  bm : B.next ≤ m
  wf : B.Wf
  no : B.get si = none
  no' : B.get px = none
  wf0 : H0.Wf
  sub : H0.Sub B
set_option maxRecDepth 100000 in
set_option maxHeartbeats 1000000 in
theorem add_spec (H0 B : AHeap) (px si m : Nat) (ss : List Spot) (ok : POk H0 B px si m) (hs : ss.length ≤ 1000) (r : Rect) (z : Nat) (t : Bool) (K : Value → AHeap → Prop)
    (h : ∀ si' m', m ≤ m' → POk H0 B px si' m' → K (.tuple #[]) (PH B px si' m' (addM ss r z t))) :
    RCalls Tryz.prog 24 [.pointer (some ⟨px, 0, none⟩), rv r, .int .i64 (z : Int), .bool t] (PH B px si m ss) K := by
  refine RCalls.forget ?_
  obtain ⟨o1, o2, o3, o4, o5, o6, o7, o8, o8', o9, o10⟩ := ok
  have hB : ∀ {j : Nat} {o : AObj}, B.get j = some o → j < m := fun e => Nat.lt_of_lt_of_le (o7 _ _ e) o6
  unfold PH at *
  refine rcalls_enter (P := Tryz.prog) (rs := []) (by kernel_rfl) C13_sound Tryz.func24 rfl (by kernel_rfl) rfl rfl ?_
  simp (maxSteps := 4000000) (implicitDefEqProofs := false) (disch := first | assumption | omega | (simp (implicitDefEqProofs := false) only [next_add, next_put, next_drop, next_bump, next_putS, next_dropS, List.length_set, List.length_append, List.length_cons, List.length_nil, List.length_take]; first | done | omega)) only [go_sem, Nat.reduceBEq, reduceIte, Nat.reduceAdd, dec_lt_t, dec_lt_f, dec_le_t, dec_le_f, dec_gt_t, dec_gt_f, dec_ge_t, dec_ge_f, dec_eq_t, dec_eq_f, dec_ne_t, dec_ne_f]
  refine draw_at 1 [(0, none), (1, none), (2, none), (3, none), (4, none), (5, none), (6, none), (7, none), (8, none), (9, none), (10, none), (11, none), (12, none), (13, none), (14, some [4, 8, 10]), (15, some [8, 10]), (16, none), (17, none), (18, some [])] (by kernel_rfl) ?_
  simp (maxSteps := 4000000) (implicitDefEqProofs := false) (disch := first | assumption | omega | (simp (implicitDefEqProofs := false) only [next_add, next_put, next_drop, next_bump, next_putS, next_dropS, List.length_set, List.length_append, List.length_cons, List.length_nil, List.length_take]; first | done | omega)) only [go_sem, Nat.reduceBEq, reduceIte, Nat.reduceAdd, dec_lt_t, dec_lt_f, dec_le_t, dec_le_f, dec_gt_t, dec_gt_f, dec_ge_t, dec_ge_f, dec_eq_t, dec_eq_f, dec_ne_t, dec_ne_f]
  refine drawVH_go (aw34 (k := 1) (w := true) (cs := ss.flatMap spc) (new := spc ⟨ss.length, r, z, t⟩) (by decide) (fun h0 => ?_) (by rw [sp_len]) ?_ rfl rfl (by omega) (by omega)) ?_ ?_
  · simp (maxSteps := 4000000) (implicitDefEqProofs := false) (disch := first | assumption | omega | (simp (implicitDefEqProofs := false) only [next_add, next_put, next_drop, next_bump, next_putS, next_dropS, List.length_set, List.length_append, List.length_cons, List.length_nil, List.length_take]; first | done | omega)) only [go_sem, Nat.reduceBEq, reduceIte, Nat.reduceAdd]
  · simp (maxSteps := 4000000) (implicitDefEqProofs := false) (disch := first | assumption | omega | (simp (implicitDefEqProofs := false) only [next_add, next_put, next_drop, next_bump, next_putS, next_dropS, List.length_set, List.length_append, List.length_cons, List.length_nil, List.length_take]; first | done | omega)) only [go_sem, Nat.reduceBEq, reduceIte, Nat.reduceAdd]
  · simp (maxSteps := 4000000) (implicitDefEqProofs := false) (disch := first | assumption | omega | (simp (implicitDefEqProofs := false) only [next_add, next_put, next_drop, next_bump, next_putS, next_dropS, List.length_set, List.length_append, List.length_cons, List.length_nil, List.length_take]; first | done | omega)) only [go_sem, Nat.reduceBEq, reduceIte, Nat.reduceAdd]
  simp (maxSteps := 4000000) (implicitDefEqProofs := false) (disch := first | assumption | omega | (simp (implicitDefEqProofs := false) only [next_add, next_put, next_drop, next_bump, next_putS, next_dropS, List.length_set, List.length_append, List.length_cons, List.length_nil, List.length_take]; first | done | omega)) only [go_sem, Nat.reduceBEq, reduceIte, Nat.reduceAdd]
  refine ⟨_, ?_, h (m + 1 + 1) (m + 3) (by omega) ⟨o1, by omega, by omega, by omega, by omega, by omega, o7, ?_, o8', o9, o10⟩⟩
  · have e1 : (addM ss r z t).length = ss.length + 1 := by simp [addM]
    have e2 : (addM ss r z t).flatMap spc = ss.flatMap spc ++ spc ⟨ss.length, r, z, t⟩ := by simp [addM]
    rw [e1, e2]
    ((with_reducible first | refine lex_bump ?_ ?_ | refine lex_sub ?_ ?_); all_goals repeat' (first | (with_reducible exact SubX.refl _ _) | (with_reducible refine SubX.of ?_; assumption) | (with_reducible apply subx_bump) | (with_reducible apply subx_bumpA) | (with_reducible apply subx_putS) | (with_reducible apply subx_put) | (with_reducible apply subx_addA) | (with_reducible apply subx_dropA) | (with_reducible apply subx_add o7) | (with_reducible apply subx_bput o7) | (with_reducible apply subx_bputS o7) | (with_reducible apply subx_drop o7) | (with_reducible apply subx_dropS o7) | omega | (simp (implicitDefEqProofs := false) only [next_add, next_put, next_drop, next_bump, next_putS, next_dropS]; omega) | (left; simp; done) | (right; left; omega) | (right; right; assumption) | (right; left; simp (implicitDefEqProofs := false) only [next_add, next_put, next_drop, next_bump, next_putS, next_dropS]; omega) | (intro h0; omega) | (intro h0; simp (maxSteps := 4000000) (implicitDefEqProofs := false) (disch := first | assumption | omega | (simp (implicitDefEqProofs := false) only [next_add, next_put, next_drop, next_bump, next_putS, next_dropS, List.length_set, List.length_append, List.length_cons, List.length_nil, List.length_take]; first | done | omega)) only [go_sem, Nat.reduceBEq, reduceIte, Nat.reduceAdd]; done) | (simp (maxSteps := 4000000) (implicitDefEqProofs := false) (disch := first | assumption | omega | (simp (implicitDefEqProofs := false) only [next_add, next_put, next_drop, next_bump, next_putS, next_dropS, List.length_set, List.length_append, List.length_cons, List.length_nil, List.length_take]; first | done | omega)) only [go_sem, Nat.reduceBEq, reduceIte, Nat.reduceAdd]; done)))
  · cases e : B.get (m + 1 + 1) with
    | none => rfl
    | some o => have := hB e; omega
end Go.LH.Plan
