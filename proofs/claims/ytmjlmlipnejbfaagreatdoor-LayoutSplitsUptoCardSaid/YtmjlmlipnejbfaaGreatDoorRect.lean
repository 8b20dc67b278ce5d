/-
  Rectangles: what the program's functions of layer 2 compute.
-/
import Derived.Test.YtmjlmlipnejbfaaGreatDoorTy
import Derived.Test.YtmjlmlipnejbfaaGreatDoorLH21
set_option linter.all false
namespace Go.LH.Ty
open Go.Proofs
theorem ab24 {parts : List (Nat × Value)} : abuild Tryz.prog 24 parts = (afillL [(0, 1), (1, 1), (2, 1), (3, 1)] [.int .i64 0, .int .i64 0, .int .i64 0, .int .i64 0] parts).map fun cs => .agg cs.toArray := abuild_struct (by kernel_rfl) (by kernel_rfl) parts
theorem al24 {H : AHeap} : allocT Tryz.prog H 24 = some (.pointer (some ⟨H.next, 0, none⟩), H.add (.cells [.int .i64 0, .int .i64 0, .int .i64 0, .int .i64 0] 4 true)) := alloc_eq (by kernel_rfl) (by kernel_rfl) (by kernel_rfl)
theorem ap3 {cs : List Value} {o : Nat} : apart Tryz.prog 3 cs o = cs[o]? := apart_cell (n := 1) (by kernel_rfl) (by kernel_rfl)
theorem bx24 {H : AHeap} {v : Value} : boxE Tryz.prog H 24 v = guardO (v.cells.toList.all oneCell) (some (.pointer (some ⟨H.next, 0, none⟩), H.add (.cells v.cells.toList 4 true))) := box_eq (by kernel_rfl)
theorem eq24 {x1 y1 : Int} {x2 y2 : Int} {x3 y3 : Int} {x4 y4 : Int} : abin Tryz.prog .eql 24 (.agg [.int .i64 x1, .int .i64 x2, .int .i64 x3, .int .i64 x4].toArray) (.agg [.int .i64 y1, .int .i64 y2, .int .i64 y3, .int .i64 y4].toArray) = some (.bool (((x1 == y1) && ((x2 == y2) && ((x3 == y3) && ((x4 == y4) && true)))))) := by kernel_rfl
theorem fa24_2 {cs : List Value} : afieldV Tryz.prog 24 (.agg cs.toArray) 2 = apart Tryz.prog 3 cs 2 := field_agg (by kernel_rfl)
theorem ld24 {H : AHeap} {i o : Nat} : AHeap.load Tryz.prog H 24 i o = aggE (H.get i) o 4 := load_agg (by kernel_rfl) (by kernel_rfl)
theorem ld3 {H : AHeap} {i o : Nat} : AHeap.load Tryz.prog H 3 i o = cellE (H.get i) o := load_cell (n := 1) (by kernel_rfl) (by kernel_rfl)
theorem nq24 {x1 y1 : Int} {x2 y2 : Int} {x3 y3 : Int} {x4 y4 : Int} : abin Tryz.prog .neq 24 (.agg [.int .i64 x1, .int .i64 x2, .int .i64 x3, .int .i64 x4].toArray) (.agg [.int .i64 y1, .int .i64 y2, .int .i64 y3, .int .i64 y4].toArray) = some (.bool (!((x1 == y1) && ((x2 == y2) && ((x3 == y3) && ((x4 == y4) && true)))))) := by kernel_rfl
theorem so24 {H : AHeap} {i o : Nat} {v : Value} : AHeap.store Tryz.prog H 24 i o v = storeS 4 H i (H.get i) o v.cells.toList := store_S (by kernel_rfl)
theorem so3 {H : AHeap} {i o : Nat} {v : Value} : AHeap.store Tryz.prog H 3 i o v = storeS 1 H i (H.get i) o v.cells.toList := store_S (by kernel_rfl)
theorem tf24_0 : tfield Tryz.prog 24 0 = some (3, 0) := by kernel_rfl
theorem tf24_1 : tfield Tryz.prog 24 1 = some (3, 1) := by kernel_rfl
theorem tf24_2 : tfield Tryz.prog 24 2 = some (3, 2) := by kernel_rfl
theorem tf24_3 : tfield Tryz.prog 24 3 = some (3, 3) := by kernel_rfl
theorem un24 : type_of% Tryz.underlying24 := Tryz.underlying24
attribute [go_sem] ab24 al24 ap3 bx24 eq24 fa24_2 ld24 ld3 nq24 so24 so3 tf24_0 tf24_1 tf24_2 tf24_3 un24
end Go.LH.Ty
namespace Go.LH.Rect
open Go.Proofs Go.LH.Ty
structure Rect where
  x : Int
  y : Int
  w : Int
  h : Int
  deriving DecidableEq
@[reducible] def rv (r : Rect) : Value := .agg [.int .i64 r.x, .int .i64 r.y, .int .i64 r.w, .int .i64 r.h].toArray

theorem rect_eta (r : Rect) : (⟨r.x, r.y, r.w, r.h⟩ : Rect) = r := rfl
attribute [go_sem] rect_eta
def clampM (n lo hi : Int) : Int := max lo (min n hi)
set_option maxRecDepth 100000 in
theorem Clamp_spec (n lo hi : Int) (H : AHeap) (K : Value → AHeap → Prop) (h : K (.int .i64 (clampM n lo hi)) H) : RCalls Tryz.prog 26 [.int .i64 n, .int .i64 lo, .int .i64 hi] H K := by
  refine rcalls_enter (P := Tryz.prog) (rs := [.tmp 6]) (by kernel_rfl) RCalls.sound Tryz.func26 rfl (by kernel_rfl) rfl rfl ?_
  simp (maxSteps := 4000000) (implicitDefEqProofs := false) (disch := first | assumption | omega | (simp (implicitDefEqProofs := false) only [next_add, next_put, next_drop, next_bump, next_putS, next_dropS, List.length_set, List.length_append, List.length_cons, List.length_nil, List.length_take]; first | done | omega)) only [go_sem, Nat.reduceBEq, reduceIte, Nat.reduceAdd]
  repeat' (first
    | (refine guardB_split_t (fun hb => ?_) (fun hb => ?_) <;> simp (maxSteps := 4000000) (implicitDefEqProofs := false) (disch := first | assumption | omega | (simp (implicitDefEqProofs := false) only [next_add, next_put, next_drop, next_bump, next_putS, next_dropS, List.length_set, List.length_append, List.length_cons, List.length_nil, List.length_take]; first | done | omega)) only [go_sem, Nat.reduceBEq, reduceIte, Nat.reduceAdd, *])
    | (refine guardB_split_f (fun hb => ?_) (fun hb => ?_) <;> simp (maxSteps := 4000000) (implicitDefEqProofs := false) (disch := first | assumption | omega | (simp (implicitDefEqProofs := false) only [next_add, next_put, next_drop, next_bump, next_putS, next_dropS, List.length_set, List.length_append, List.length_cons, List.length_nil, List.length_take]; first | done | omega)) only [go_sem, Nat.reduceBEq, reduceIte, Nat.reduceAdd, *])
    | (refine gSd_split (fun hb => ?_) (fun hb => ?_) <;> simp (maxSteps := 4000000) (implicitDefEqProofs := false) (disch := first | assumption | omega | (simp (implicitDefEqProofs := false) only [next_add, next_put, next_drop, next_bump, next_putS, next_dropS, List.length_set, List.length_append, List.length_cons, List.length_nil, List.length_take]; first | done | omega)) only [go_sem, Nat.reduceBEq, reduceIte, Nat.reduceAdd, gK_some, gK_none, *])
    | (refine condV_split (fun hb => ?_) (fun hb => ?_) <;> simp (maxSteps := 4000000) (implicitDefEqProofs := false) (disch := first | assumption | omega | (simp (implicitDefEqProofs := false) only [next_add, next_put, next_drop, next_bump, next_putS, next_dropS, List.length_set, List.length_append, List.length_cons, List.length_nil, List.length_take]; first | done | omega)) only [go_sem, Nat.reduceBEq, reduceIte, Nat.reduceAdd, *]))
  exact h
def p_Clamp : List Value → Option Value
  | [.int .i64 n, .int .i64 lo, .int .i64 hi] => some (.int .i64 (clampM n lo hi))
  | _ => none
def C1 : Calling := ovr (RCalls Tryz.prog) 26 p_Clamp
set_option maxRecDepth 100000 in
theorem C1_sound : C1.Sound Tryz.prog := ovr_sound RCalls.sound fun args v hv H K hk => by
  unfold p_Clamp at hv
  split at hv
  · cases hv; exact Clamp_spec _ _ _ H K hk
  · cases hv
theorem C1_mono : C1.Mono := ovr_mono RCalls.isMono
theorem C1_call {g : FuncId} {args : List Value} {H : AHeap} {K : Value → AHeap → Prop} : callG C1 g args H K = ovrG (g == 26) (RCalls Tryz.prog) g p_Clamp args H K := call_ovr
theorem C1_pure {g : FuncId} {args : List Value} {K : Value → Prop} : pureG C1 g args K = ovrP (g == 26) (RCalls Tryz.prog) g p_Clamp args K := pure_ovr
theorem C1_val {n lo hi : Int} : p_Clamp [.int .i64 n, .int .i64 lo, .int .i64 hi] = some (.int .i64 (clampM n lo hi)) := rfl
attribute [go_sem] C1_call C1_pure C1_val

def cleanM (r : Rect) : Rect :=
  let x := clampM r.x (-5000) 5000
  let y := clampM r.y (-5000) 5000
  let w := clampM r.w 0 (min 200 (5000 - x))
  let h := clampM r.h 0 (min 200 (5000 - y))
  if w = 0 ∨ h = 0 then ⟨0, 0, 0, 0⟩ else ⟨x, y, w, h⟩
theorem clamp_bd (n lo hi : Int) (h : lo ≤ hi) : lo ≤ clampM n lo hi ∧ clampM n lo hi ≤ hi := by unfold clampM; omega
theorem cleanM_bd (r : Rect) : -5000 ≤ (cleanM r).x ∧ (cleanM r).x ≤ 5000 ∧ -5000 ≤ (cleanM r).y ∧ (cleanM r).y ≤ 5000 ∧ 0 ≤ (cleanM r).w ∧ (cleanM r).w ≤ 200 ∧ 0 ≤ (cleanM r).h ∧ (cleanM r).h ≤ 200
    ∧ (cleanM r).x + (cleanM r).w ≤ 5000 ∧ (cleanM r).y + (cleanM r).h ≤ 5000 := by
  unfold cleanM clampM
  dsimp only
  split
  · simp
  · dsimp only; omega

set_option maxRecDepth 100000 in
theorem Clean_any (r : Rect) (H : AHeap) (K : Value → AHeap → Prop) (h : ∀ H', K (rv (cleanM r)) H') : RCalls Tryz.prog 9 [rv r] H K := by
  have hx := clamp_bd r.x (-5000) 5000 (by omega)
  have hy := clamp_bd r.y (-5000) 5000 (by omega)
  have h' : ∀ W Z, W = clampM r.w 0 (min 200 (5000 - clampM r.x (-5000) 5000)) → Z = clampM r.h 0 (min 200 (5000 - clampM r.y (-5000) 5000)) → ∀ H', K (rv (if W = 0 ∨ Z = 0 then ⟨0, 0, 0, 0⟩ else ⟨clampM r.x (-5000) 5000, clampM r.y (-5000) 5000, W, Z⟩)) H' := by
    intro W Z e1 e2; rw [e1, e2]; exact h
  clear h
  refine rcalls_enter (P := Tryz.prog) (rs := [.cell 2 24]) (by kernel_rfl) C1_sound Tryz.func9 rfl (by kernel_rfl) rfl rfl ?_
  simp (maxSteps := 4000000) (implicitDefEqProofs := false) (disch := first | assumption | omega | (simp (implicitDefEqProofs := false) only [next_add, next_put, next_drop, next_bump, next_putS, next_dropS, List.length_set, List.length_append, List.length_cons, List.length_nil, List.length_take]; first | done | omega)) only [go_sem, Nat.reduceBEq, reduceIte, Nat.reduceAdd]
  repeat' (first
    | (refine draw_at 1 [(0, none), (1, none), (3, none), (4, none), (2, none), (6, none), (5, none), (7, some []), (8, none), (9, some [])] (by kernel_rfl) ?_; simp (maxSteps := 4000000) (implicitDefEqProofs := false) (disch := first | assumption | omega | (simp (implicitDefEqProofs := false) only [next_add, next_put, next_drop, next_bump, next_putS, next_dropS, List.length_set, List.length_append, List.length_cons, List.length_nil, List.length_take]; first | done | omega)) only [go_sem, Nat.reduceBEq, reduceIte, Nat.reduceAdd])
    | (refine draw_at 2 [(0, none), (1, none), (2, none), (3, none), (4, none), (5, none), (7, none), (8, none), (9, none), (10, none), (11, none), (12, none), (6, none), (14, none), (13, none), (15, some []), (16, none), (17, some [])] (by kernel_rfl) ?_; simp (maxSteps := 4000000) (implicitDefEqProofs := false) (disch := first | assumption | omega | (simp (implicitDefEqProofs := false) only [next_add, next_put, next_drop, next_bump, next_putS, next_dropS, List.length_set, List.length_append, List.length_cons, List.length_nil, List.length_take]; first | done | omega)) only [go_sem, Nat.reduceBEq, reduceIte, Nat.reduceAdd])
    | (refine guardB_split_t (fun hb => ?_) (fun hb => ?_) <;> simp (maxSteps := 4000000) (implicitDefEqProofs := false) (disch := first | assumption | omega | (simp (implicitDefEqProofs := false) only [next_add, next_put, next_drop, next_bump, next_putS, next_dropS, List.length_set, List.length_append, List.length_cons, List.length_nil, List.length_take]; first | done | omega)) only [go_sem, Nat.reduceBEq, reduceIte, Nat.reduceAdd, *])
    | (refine guardB_split_f (fun hb => ?_) (fun hb => ?_) <;> simp (maxSteps := 4000000) (implicitDefEqProofs := false) (disch := first | assumption | omega | (simp (implicitDefEqProofs := false) only [next_add, next_put, next_drop, next_bump, next_putS, next_dropS, List.length_set, List.length_append, List.length_cons, List.length_nil, List.length_take]; first | done | omega)) only [go_sem, Nat.reduceBEq, reduceIte, Nat.reduceAdd, *])
    | (refine gSd_split (fun hb => ?_) (fun hb => ?_) <;> simp (maxSteps := 4000000) (implicitDefEqProofs := false) (disch := first | assumption | omega | (simp (implicitDefEqProofs := false) only [next_add, next_put, next_drop, next_bump, next_putS, next_dropS, List.length_set, List.length_append, List.length_cons, List.length_nil, List.length_take]; first | done | omega)) only [go_sem, Nat.reduceBEq, reduceIte, Nat.reduceAdd, gK_some, gK_none, *])
    | (refine condV_split (fun hb => ?_) (fun hb => ?_) <;> simp (maxSteps := 4000000) (implicitDefEqProofs := false) (disch := first | assumption | omega | (simp (implicitDefEqProofs := false) only [next_add, next_put, next_drop, next_bump, next_putS, next_dropS, List.length_set, List.length_append, List.length_cons, List.length_nil, List.length_take]; first | done | omega)) only [go_sem, Nat.reduceBEq, reduceIte, Nat.reduceAdd, *]))
  all_goals try simp only [beq_iff_eq, beq_eq_false_iff_ne, ne_eq] at *
  all_goals have h2 := h' _ _ rfl rfl
  all_goals first
    | (rw [if_neg (by simp_all)] at h2; exact h2 _)
    | (rw [if_pos (by simp_all)] at h2; exact h2 _)
set_option maxRecDepth 100000 in
theorem Clean_spec (r : Rect) (H : AHeap) (K : Value → AHeap → Prop) (h : K (rv (cleanM r)) H) : RCalls Tryz.prog 9 [rv r] H K :=
  RCalls.pureRo (plain_of_any rfl) H (Clean_any r H.ro _ fun _ => rfl) K h

def p_Clean : List Value → Option Value
  | [.agg ⟨[.int .i64 x, .int .i64 y, .int .i64 w, .int .i64 h]⟩] => some (.agg ⟨[.int .i64 (cleanM ⟨x, y, w, h⟩).x, .int .i64 (cleanM ⟨x, y, w, h⟩).y, .int .i64 (cleanM ⟨x, y, w, h⟩).w, .int .i64 (cleanM ⟨x, y, w, h⟩).h]⟩)
  | _ => none
def C2 : Calling := ovr (C1) 9 p_Clean
set_option maxRecDepth 100000 in
theorem C2_sound : C2.Sound Tryz.prog := ovr_sound C1_sound fun args v hv H K hk => by
  unfold p_Clean at hv
  split at hv
  · cases hv; exact Clean_spec ⟨_, _, _, _⟩ H K hk
  · cases hv
theorem C2_mono : C2.Mono := ovr_mono C1_mono
theorem C2_call {g : FuncId} {args : List Value} {H : AHeap} {K : Value → AHeap → Prop} : callG C2 g args H K = ovrG (g == 9) (C1) g p_Clean args H K := call_ovr
theorem C2_pure {g : FuncId} {args : List Value} {K : Value → Prop} : pureG C2 g args K = ovrP (g == 9) (C1) g p_Clean args K := pure_ovr
theorem C2_val {x y w h : Int} : p_Clean [.agg [.int .i64 x, .int .i64 y, .int .i64 w, .int .i64 h].toArray] = some (.agg [.int .i64 (cleanM ⟨x, y, w, h⟩).x, .int .i64 (cleanM ⟨x, y, w, h⟩).y, .int .i64 (cleanM ⟨x, y, w, h⟩).w, .int .i64 (cleanM ⟨x, y, w, h⟩).h].toArray) := rfl
attribute [go_sem] C2_call C2_pure C2_val


set_option maxRecDepth 100000 in
theorem Empty_any (r : Rect) (H : AHeap) (K : Value → AHeap → Prop) (h : ∀ H', K (.bool ((cleanM r).w == 0)) H') : RCalls Tryz.prog 13 [rv r] H K := by
  refine rcalls_enter (P := Tryz.prog) (rs := [.tmp 2]) (by kernel_rfl) C2_sound Tryz.func13 rfl (by kernel_rfl) rfl rfl ?_
  simp (maxSteps := 4000000) (implicitDefEqProofs := false) (disch := first | assumption | omega | (simp (implicitDefEqProofs := false) only [next_add, next_put, next_drop, next_bump, next_putS, next_dropS, List.length_set, List.length_append, List.length_cons, List.length_nil, List.length_take]; first | done | omega)) only [go_sem, Nat.reduceBEq, reduceIte, Nat.reduceAdd]
  repeat' (first
    | (refine guardB_split_t (fun hb => ?_) (fun hb => ?_) <;> simp (maxSteps := 4000000) (implicitDefEqProofs := false) (disch := first | assumption | omega | (simp (implicitDefEqProofs := false) only [next_add, next_put, next_drop, next_bump, next_putS, next_dropS, List.length_set, List.length_append, List.length_cons, List.length_nil, List.length_take]; first | done | omega)) only [go_sem, Nat.reduceBEq, reduceIte, Nat.reduceAdd, *])
    | (refine guardB_split_f (fun hb => ?_) (fun hb => ?_) <;> simp (maxSteps := 4000000) (implicitDefEqProofs := false) (disch := first | assumption | omega | (simp (implicitDefEqProofs := false) only [next_add, next_put, next_drop, next_bump, next_putS, next_dropS, List.length_set, List.length_append, List.length_cons, List.length_nil, List.length_take]; first | done | omega)) only [go_sem, Nat.reduceBEq, reduceIte, Nat.reduceAdd, *])
    | (refine gSd_split (fun hb => ?_) (fun hb => ?_) <;> simp (maxSteps := 4000000) (implicitDefEqProofs := false) (disch := first | assumption | omega | (simp (implicitDefEqProofs := false) only [next_add, next_put, next_drop, next_bump, next_putS, next_dropS, List.length_set, List.length_append, List.length_cons, List.length_nil, List.length_take]; first | done | omega)) only [go_sem, Nat.reduceBEq, reduceIte, Nat.reduceAdd, gK_some, gK_none, *])
    | (refine condV_split (fun hb => ?_) (fun hb => ?_) <;> simp (maxSteps := 4000000) (implicitDefEqProofs := false) (disch := first | assumption | omega | (simp (implicitDefEqProofs := false) only [next_add, next_put, next_drop, next_bump, next_putS, next_dropS, List.length_set, List.length_append, List.length_cons, List.length_nil, List.length_take]; first | done | omega)) only [go_sem, Nat.reduceBEq, reduceIte, Nat.reduceAdd, *]))
  exact h _
set_option maxRecDepth 100000 in
theorem Empty_spec (r : Rect) (H : AHeap) (K : Value → AHeap → Prop) (h : K (.bool ((cleanM r).w == 0)) H) : RCalls Tryz.prog 13 [rv r] H K :=
  RCalls.pureRo (plain_of_any rfl) H (Empty_any r H.ro _ fun _ => rfl) K h
def p_Empty : List Value → Option Value
  | [.agg ⟨[.int .i64 x, .int .i64 y, .int .i64 w, .int .i64 h]⟩] => some (.bool ((cleanM ⟨x, y, w, h⟩).w == 0))
  | _ => none
def C3 : Calling := ovr (C2) 13 p_Empty
set_option maxRecDepth 100000 in
theorem C3_sound : C3.Sound Tryz.prog := ovr_sound C2_sound fun args v hv H K hk => by
  unfold p_Empty at hv
  split at hv
  · cases hv; exact Empty_spec ⟨_, _, _, _⟩ H K hk
  · cases hv
theorem C3_mono : C3.Mono := ovr_mono C2_mono
theorem C3_call {g : FuncId} {args : List Value} {H : AHeap} {K : Value → AHeap → Prop} : callG C3 g args H K = ovrG (g == 13) (C2) g p_Empty args H K := call_ovr
theorem C3_pure {g : FuncId} {args : List Value} {K : Value → Prop} : pureG C3 g args K = ovrP (g == 13) (C2) g p_Empty args K := pure_ovr
theorem C3_val {x y w h : Int} : p_Empty [.agg [.int .i64 x, .int .i64 y, .int .i64 w, .int .i64 h].toArray] = some (.bool ((cleanM ⟨x, y, w, h⟩).w == 0)) := rfl
attribute [go_sem] C3_call C3_pure C3_val


def areaM (r : Rect) : Int := (cleanM r).w * (cleanM r).h
theorem areaM_bd (r : Rect) : 0 ≤ areaM r ∧ areaM r ≤ 40000 := by
  obtain ⟨_, _, _, _, h1, h2, h3, h4, _⟩ := cleanM_bd r
  unfold areaM
  exact ⟨Int.mul_nonneg h1 h3, Int.mul_le_mul h2 h4 h3 (by omega)⟩
set_option maxRecDepth 100000 in
theorem Area_any (r : Rect) (H : AHeap) (K : Value → AHeap → Prop) (h : ∀ H', K (.int .i64 (areaM r)) H') : RCalls Tryz.prog 16 [rv r] H K := by
  have hb := areaM_bd r
  unfold areaM at *
  refine rcalls_enter (P := Tryz.prog) (rs := [.tmp 2]) (by kernel_rfl) C3_sound Tryz.func16 rfl (by kernel_rfl) rfl rfl ?_
  simp (maxSteps := 4000000) (implicitDefEqProofs := false) (disch := first | assumption | omega | (simp (implicitDefEqProofs := false) only [next_add, next_put, next_drop, next_bump, next_putS, next_dropS, List.length_set, List.length_append, List.length_cons, List.length_nil, List.length_take]; first | done | omega)) only [go_sem, Nat.reduceBEq, reduceIte, Nat.reduceAdd]
  repeat' (first
    | (refine guardB_split_t (fun hb => ?_) (fun hb => ?_) <;> simp (maxSteps := 4000000) (implicitDefEqProofs := false) (disch := first | assumption | omega | (simp (implicitDefEqProofs := false) only [next_add, next_put, next_drop, next_bump, next_putS, next_dropS, List.length_set, List.length_append, List.length_cons, List.length_nil, List.length_take]; first | done | omega)) only [go_sem, Nat.reduceBEq, reduceIte, Nat.reduceAdd, *])
    | (refine guardB_split_f (fun hb => ?_) (fun hb => ?_) <;> simp (maxSteps := 4000000) (implicitDefEqProofs := false) (disch := first | assumption | omega | (simp (implicitDefEqProofs := false) only [next_add, next_put, next_drop, next_bump, next_putS, next_dropS, List.length_set, List.length_append, List.length_cons, List.length_nil, List.length_take]; first | done | omega)) only [go_sem, Nat.reduceBEq, reduceIte, Nat.reduceAdd, *])
    | (refine gSd_split (fun hb => ?_) (fun hb => ?_) <;> simp (maxSteps := 4000000) (implicitDefEqProofs := false) (disch := first | assumption | omega | (simp (implicitDefEqProofs := false) only [next_add, next_put, next_drop, next_bump, next_putS, next_dropS, List.length_set, List.length_append, List.length_cons, List.length_nil, List.length_take]; first | done | omega)) only [go_sem, Nat.reduceBEq, reduceIte, Nat.reduceAdd, gK_some, gK_none, *])
    | (refine condV_split (fun hb => ?_) (fun hb => ?_) <;> simp (maxSteps := 4000000) (implicitDefEqProofs := false) (disch := first | assumption | omega | (simp (implicitDefEqProofs := false) only [next_add, next_put, next_drop, next_bump, next_putS, next_dropS, List.length_set, List.length_append, List.length_cons, List.length_nil, List.length_take]; first | done | omega)) only [go_sem, Nat.reduceBEq, reduceIte, Nat.reduceAdd, *]))
  exact h _
set_option maxRecDepth 100000 in
theorem Area_spec (r : Rect) (H : AHeap) (K : Value → AHeap → Prop) (h : K (.int .i64 (areaM r)) H) : RCalls Tryz.prog 16 [rv r] H K :=
  RCalls.pureRo (plain_of_any rfl) H (Area_any r H.ro _ fun _ => rfl) K h
def p_Area : List Value → Option Value
  | [.agg ⟨[.int .i64 x, .int .i64 y, .int .i64 w, .int .i64 h]⟩] => some (.int .i64 (areaM ⟨x, y, w, h⟩))
  | _ => none
def C4 : Calling := ovr (C3) 16 p_Area
set_option maxRecDepth 100000 in
theorem C4_sound : C4.Sound Tryz.prog := ovr_sound C3_sound fun args v hv H K hk => by
  unfold p_Area at hv
  split at hv
  · cases hv; exact Area_spec ⟨_, _, _, _⟩ H K hk
  · cases hv
theorem C4_mono : C4.Mono := ovr_mono C3_mono
theorem C4_call {g : FuncId} {args : List Value} {H : AHeap} {K : Value → AHeap → Prop} : callG C4 g args H K = ovrG (g == 16) (C3) g p_Area args H K := call_ovr
theorem C4_pure {g : FuncId} {args : List Value} {K : Value → Prop} : pureG C4 g args K = ovrP (g == 16) (C3) g p_Area args K := pure_ovr
theorem C4_val {x y w h : Int} : p_Area [.agg [.int .i64 x, .int .i64 y, .int .i64 w, .int .i64 h].toArray] = some (.int .i64 (areaM ⟨x, y, w, h⟩)) := rfl
attribute [go_sem] C4_call C4_pure C4_val


@[reducible] def rA (x y w h : Int) : Value := .agg [.int .i64 x, .int .i64 y, .int .i64 w, .int .i64 h].toArray
set_option maxRecDepth 100000 in
theorem at_any (x y w h : Int) (H : AHeap) (K : Value → AHeap → Prop) (hk : ∀ H', K (rA x y w h) H') : RCalls Tryz.prog 11 [.int .i64 x, .int .i64 y, .int .i64 w, .int .i64 h] H K := by
  refine rcalls_enter (P := Tryz.prog) (rs := [.cell 8 24]) (by kernel_rfl) C4_sound Tryz.func11 rfl (by kernel_rfl) rfl rfl ?_
  simp (maxSteps := 4000000) (implicitDefEqProofs := false) (disch := first | assumption | omega | (simp (implicitDefEqProofs := false) only [next_add, next_put, next_drop, next_bump, next_putS, next_dropS, List.length_set, List.length_append, List.length_cons, List.length_nil, List.length_take]; first | done | omega)) only [go_sem, Nat.reduceBEq, reduceIte, Nat.reduceAdd]
  repeat' (first
    | (refine guardB_split_t (fun hb => ?_) (fun hb => ?_) <;> simp (maxSteps := 4000000) (implicitDefEqProofs := false) (disch := first | assumption | omega | (simp (implicitDefEqProofs := false) only [next_add, next_put, next_drop, next_bump, next_putS, next_dropS, List.length_set, List.length_append, List.length_cons, List.length_nil, List.length_take]; first | done | omega)) only [go_sem, Nat.reduceBEq, reduceIte, Nat.reduceAdd, *])
    | (refine guardB_split_f (fun hb => ?_) (fun hb => ?_) <;> simp (maxSteps := 4000000) (implicitDefEqProofs := false) (disch := first | assumption | omega | (simp (implicitDefEqProofs := false) only [next_add, next_put, next_drop, next_bump, next_putS, next_dropS, List.length_set, List.length_append, List.length_cons, List.length_nil, List.length_take]; first | done | omega)) only [go_sem, Nat.reduceBEq, reduceIte, Nat.reduceAdd, *])
    | (refine gSd_split (fun hb => ?_) (fun hb => ?_) <;> simp (maxSteps := 4000000) (implicitDefEqProofs := false) (disch := first | assumption | omega | (simp (implicitDefEqProofs := false) only [next_add, next_put, next_drop, next_bump, next_putS, next_dropS, List.length_set, List.length_append, List.length_cons, List.length_nil, List.length_take]; first | done | omega)) only [go_sem, Nat.reduceBEq, reduceIte, Nat.reduceAdd, gK_some, gK_none, *])
    | (refine condV_split (fun hb => ?_) (fun hb => ?_) <;> simp (maxSteps := 4000000) (implicitDefEqProofs := false) (disch := first | assumption | omega | (simp (implicitDefEqProofs := false) only [next_add, next_put, next_drop, next_bump, next_putS, next_dropS, List.length_set, List.length_append, List.length_cons, List.length_nil, List.length_take]; first | done | omega)) only [go_sem, Nat.reduceBEq, reduceIte, Nat.reduceAdd, *]))
  exact hk _
set_option maxRecDepth 100000 in
theorem at_spec (x y w h : Int) (H : AHeap) (K : Value → AHeap → Prop) (hk : K (rA x y w h) H) : RCalls Tryz.prog 11 [.int .i64 x, .int .i64 y, .int .i64 w, .int .i64 h] H K :=
  RCalls.pureRo (plain_of_any rfl) H (at_any x y w h H.ro _ fun _ => rfl) K hk
def p_at : List Value → Option Value
  | [.int .i64 x, .int .i64 y, .int .i64 w, .int .i64 h] => some (.agg ⟨[.int .i64 x, .int .i64 y, .int .i64 w, .int .i64 h]⟩)
  | _ => none
def C5 : Calling := ovr (C4) 11 p_at
set_option maxRecDepth 100000 in
theorem C5_sound : C5.Sound Tryz.prog := ovr_sound C4_sound fun args v hv H K hk => by
  unfold p_at at hv
  split at hv
  · cases hv; exact at_spec _ _ _ _ H K hk
  · cases hv
theorem C5_mono : C5.Mono := ovr_mono C4_mono
theorem C5_call {g : FuncId} {args : List Value} {H : AHeap} {K : Value → AHeap → Prop} : callG C5 g args H K = ovrG (g == 11) (C4) g p_at args H K := call_ovr
theorem C5_pure {g : FuncId} {args : List Value} {K : Value → Prop} : pureG C5 g args K = ovrP (g == 11) (C4) g p_at args K := pure_ovr
theorem C5_val {x y w h : Int} : p_at [.int .i64 x, .int .i64 y, .int .i64 w, .int .i64 h] = some (.agg [.int .i64 x, .int .i64 y, .int .i64 w, .int .i64 h].toArray) := rfl
attribute [go_sem] C5_call C5_pure C5_val


def sumM (a b : Int) : Int :=
  if 0 < a ∧ 0 < b ∧ IntKind.i64.wrap (a + b) < 0 then 9223372036854775807
  else if a < 0 ∧ b < 0 ∧ 0 ≤ IntKind.i64.wrap (a + b) then -9223372036854775808
  else IntKind.i64.wrap (a + b)
set_option maxRecDepth 100000 in
theorem Sum_spec (a b : Int) (H : AHeap) (K : Value → AHeap → Prop) (h : K (.int .i64 (sumM a b)) H) : RCalls Tryz.prog 31 [.int .i64 a, .int .i64 b] H K := by
  unfold sumM at h
  refine rcalls_enter (P := Tryz.prog) (rs := [.tmp 4]) (by kernel_rfl) C5_sound Tryz.func31 rfl (by kernel_rfl) rfl rfl ?_
  simp (maxSteps := 4000000) (implicitDefEqProofs := false) (disch := first | assumption | omega | (simp (implicitDefEqProofs := false) only [next_add, next_put, next_drop, next_bump, next_putS, next_dropS, List.length_set, List.length_append, List.length_cons, List.length_nil, List.length_take]; first | done | omega)) only [go_sem, Nat.reduceBEq, reduceIte, Nat.reduceAdd]
  repeat' (first
    | (refine guardB_split_t (fun hb => ?_) (fun hb => ?_) <;> simp (maxSteps := 4000000) (implicitDefEqProofs := false) (disch := first | assumption | omega | (simp (implicitDefEqProofs := false) only [next_add, next_put, next_drop, next_bump, next_putS, next_dropS, List.length_set, List.length_append, List.length_cons, List.length_nil, List.length_take]; first | done | omega)) only [go_sem, Nat.reduceBEq, reduceIte, Nat.reduceAdd, *])
    | (refine guardB_split_f (fun hb => ?_) (fun hb => ?_) <;> simp (maxSteps := 4000000) (implicitDefEqProofs := false) (disch := first | assumption | omega | (simp (implicitDefEqProofs := false) only [next_add, next_put, next_drop, next_bump, next_putS, next_dropS, List.length_set, List.length_append, List.length_cons, List.length_nil, List.length_take]; first | done | omega)) only [go_sem, Nat.reduceBEq, reduceIte, Nat.reduceAdd, *])
    | (refine gSd_split (fun hb => ?_) (fun hb => ?_) <;> simp (maxSteps := 4000000) (implicitDefEqProofs := false) (disch := first | assumption | omega | (simp (implicitDefEqProofs := false) only [next_add, next_put, next_drop, next_bump, next_putS, next_dropS, List.length_set, List.length_append, List.length_cons, List.length_nil, List.length_take]; first | done | omega)) only [go_sem, Nat.reduceBEq, reduceIte, Nat.reduceAdd, gK_some, gK_none, *])
    | (refine condV_split (fun hb => ?_) (fun hb => ?_) <;> simp (maxSteps := 4000000) (implicitDefEqProofs := false) (disch := first | assumption | omega | (simp (implicitDefEqProofs := false) only [next_add, next_put, next_drop, next_bump, next_putS, next_dropS, List.length_set, List.length_append, List.length_cons, List.length_nil, List.length_take]; first | done | omega)) only [go_sem, Nat.reduceBEq, reduceIte, Nat.reduceAdd, *]))
  all_goals generalize IntKind.i64.wrap (a + b) = c at *
  all_goals simp only [Bool.and_eq_true, Bool.and_eq_false_iff, decide_eq_true_eq, decide_eq_false_iff_not] at *
  all_goals first
    | (exfalso; omega)
    | (rw [if_pos (by omega)] at h; exact h)
    | (rw [if_neg (by omega), if_pos (by omega)] at h; exact h)
    | (rw [if_neg (by omega), if_neg (by omega)] at h; exact h)
def p_Sum : List Value → Option Value
  | [.int .i64 a, .int .i64 b] => some (.int .i64 (sumM a b))
  | _ => none
def C6 : Calling := ovr (C5) 31 p_Sum
set_option maxRecDepth 100000 in
theorem C6_sound : C6.Sound Tryz.prog := ovr_sound C5_sound fun args v hv H K hk => by
  unfold p_Sum at hv
  split at hv
  · cases hv; exact Sum_spec _ _ H K hk
  · cases hv
theorem C6_mono : C6.Mono := ovr_mono C5_mono
theorem C6_call {g : FuncId} {args : List Value} {H : AHeap} {K : Value → AHeap → Prop} : callG C6 g args H K = ovrG (g == 31) (C5) g p_Sum args H K := call_ovr
theorem C6_pure {g : FuncId} {args : List Value} {K : Value → Prop} : pureG C6 g args K = ovrP (g == 31) (C5) g p_Sum args K := pure_ovr
theorem C6_val {a b : Int} : p_Sum [.int .i64 a, .int .i64 b] = some (.int .i64 (sumM a b)) := rfl
attribute [go_sem] C6_call C6_pure C6_val


def hasM (r : Rect) (x y : Int) : Bool := decide ((cleanM r).x ≤ x ∧ x < (cleanM r).x + (cleanM r).w ∧ (cleanM r).y ≤ y ∧ y < (cleanM r).y + (cleanM r).h)
set_option maxRecDepth 100000 in
theorem Has_any (r : Rect) (x y : Int) (H : AHeap) (K : Value → AHeap → Prop) (h : ∀ H', K (.bool (hasM r x y)) H') : RCalls Tryz.prog 38 [rv r, .int .i64 x, .int .i64 y] H K := by
  have hb := cleanM_bd r
  have h' : ∀ b, b = hasM r x y → ∀ H', K (.bool b) H' := by intro b e; rw [e]; exact h
  clear h
  refine rcalls_enter (P := Tryz.prog) (rs := [.tmp 6]) (by kernel_rfl) C6_sound Tryz.func38 rfl (by kernel_rfl) rfl rfl ?_
  simp (maxSteps := 4000000) (implicitDefEqProofs := false) (disch := first | assumption | omega | (simp (implicitDefEqProofs := false) only [next_add, next_put, next_drop, next_bump, next_putS, next_dropS, List.length_set, List.length_append, List.length_cons, List.length_nil, List.length_take]; first | done | omega)) only [go_sem, Nat.reduceBEq, reduceIte, Nat.reduceAdd]
  repeat' (first
    | (refine guardB_split_t (fun hb => ?_) (fun hb => ?_) <;> simp (maxSteps := 4000000) (implicitDefEqProofs := false) (disch := first | assumption | omega | (simp (implicitDefEqProofs := false) only [next_add, next_put, next_drop, next_bump, next_putS, next_dropS, List.length_set, List.length_append, List.length_cons, List.length_nil, List.length_take]; first | done | omega)) only [go_sem, Nat.reduceBEq, reduceIte, Nat.reduceAdd, *])
    | (refine guardB_split_f (fun hb => ?_) (fun hb => ?_) <;> simp (maxSteps := 4000000) (implicitDefEqProofs := false) (disch := first | assumption | omega | (simp (implicitDefEqProofs := false) only [next_add, next_put, next_drop, next_bump, next_putS, next_dropS, List.length_set, List.length_append, List.length_cons, List.length_nil, List.length_take]; first | done | omega)) only [go_sem, Nat.reduceBEq, reduceIte, Nat.reduceAdd, *])
    | (refine gSd_split (fun hb => ?_) (fun hb => ?_) <;> simp (maxSteps := 4000000) (implicitDefEqProofs := false) (disch := first | assumption | omega | (simp (implicitDefEqProofs := false) only [next_add, next_put, next_drop, next_bump, next_putS, next_dropS, List.length_set, List.length_append, List.length_cons, List.length_nil, List.length_take]; first | done | omega)) only [go_sem, Nat.reduceBEq, reduceIte, Nat.reduceAdd, gK_some, gK_none, *])
    | (refine condV_split (fun hb => ?_) (fun hb => ?_) <;> simp (maxSteps := 4000000) (implicitDefEqProofs := false) (disch := first | assumption | omega | (simp (implicitDefEqProofs := false) only [next_add, next_put, next_drop, next_bump, next_putS, next_dropS, List.length_set, List.length_append, List.length_cons, List.length_nil, List.length_take]; first | done | omega)) only [go_sem, Nat.reduceBEq, reduceIte, Nat.reduceAdd, *]))
  all_goals refine h' _ ?_ _
  all_goals (simp only [hasM]; rw [Bool.eq_iff_iff]; simp only [Bool.and_eq_true, decide_eq_true_eq]; omega)
set_option maxRecDepth 100000 in
theorem Has_spec (r : Rect) (x y : Int) (H : AHeap) (K : Value → AHeap → Prop) (h : K (.bool (hasM r x y)) H) : RCalls Tryz.prog 38 [rv r, .int .i64 x, .int .i64 y] H K :=
  RCalls.pureRo (plain_of_any rfl) H (Has_any r x y H.ro _ fun _ => rfl) K h

def betweenM (x y r b : Int) : Rect := cleanM ⟨x, y, IntKind.i64.wrap (r - x), IntKind.i64.wrap (b - y)⟩
set_option maxRecDepth 100000 in
theorem between_any (x y r b : Int) (H : AHeap) (K : Value → AHeap → Prop) (h : ∀ H', K (rv (betweenM x y r b)) H') : RCalls Tryz.prog 32 [.int .i64 x, .int .i64 y, .int .i64 r, .int .i64 b] H K := by
  refine rcalls_enter (P := Tryz.prog) (rs := [.cell 8 24]) (by kernel_rfl) C6_sound Tryz.func32 rfl (by kernel_rfl) rfl rfl ?_
  simp (maxSteps := 4000000) (implicitDefEqProofs := false) (disch := first | assumption | omega | (simp (implicitDefEqProofs := false) only [next_add, next_put, next_drop, next_bump, next_putS, next_dropS, List.length_set, List.length_append, List.length_cons, List.length_nil, List.length_take]; first | done | omega)) only [go_sem, Nat.reduceBEq, reduceIte, Nat.reduceAdd]
  repeat' (first
    | (refine guardB_split_t (fun hb => ?_) (fun hb => ?_) <;> simp (maxSteps := 4000000) (implicitDefEqProofs := false) (disch := first | assumption | omega | (simp (implicitDefEqProofs := false) only [next_add, next_put, next_drop, next_bump, next_putS, next_dropS, List.length_set, List.length_append, List.length_cons, List.length_nil, List.length_take]; first | done | omega)) only [go_sem, Nat.reduceBEq, reduceIte, Nat.reduceAdd, *])
    | (refine guardB_split_f (fun hb => ?_) (fun hb => ?_) <;> simp (maxSteps := 4000000) (implicitDefEqProofs := false) (disch := first | assumption | omega | (simp (implicitDefEqProofs := false) only [next_add, next_put, next_drop, next_bump, next_putS, next_dropS, List.length_set, List.length_append, List.length_cons, List.length_nil, List.length_take]; first | done | omega)) only [go_sem, Nat.reduceBEq, reduceIte, Nat.reduceAdd, *])
    | (refine gSd_split (fun hb => ?_) (fun hb => ?_) <;> simp (maxSteps := 4000000) (implicitDefEqProofs := false) (disch := first | assumption | omega | (simp (implicitDefEqProofs := false) only [next_add, next_put, next_drop, next_bump, next_putS, next_dropS, List.length_set, List.length_append, List.length_cons, List.length_nil, List.length_take]; first | done | omega)) only [go_sem, Nat.reduceBEq, reduceIte, Nat.reduceAdd, gK_some, gK_none, *])
    | (refine condV_split (fun hb => ?_) (fun hb => ?_) <;> simp (maxSteps := 4000000) (implicitDefEqProofs := false) (disch := first | assumption | omega | (simp (implicitDefEqProofs := false) only [next_add, next_put, next_drop, next_bump, next_putS, next_dropS, List.length_set, List.length_append, List.length_cons, List.length_nil, List.length_take]; first | done | omega)) only [go_sem, Nat.reduceBEq, reduceIte, Nat.reduceAdd, *]))
  exact h _
set_option maxRecDepth 100000 in
theorem between_spec (x y r b : Int) (H : AHeap) (K : Value → AHeap → Prop) (h : K (rv (betweenM x y r b)) H) : RCalls Tryz.prog 32 [.int .i64 x, .int .i64 y, .int .i64 r, .int .i64 b] H K :=
  RCalls.pureRo (plain_of_any rfl) H (between_any x y r b H.ro _ fun _ => rfl) K h
def p_between : List Value → Option Value
  | [.int .i64 x, .int .i64 y, .int .i64 r, .int .i64 b] => some (.agg ⟨[.int .i64 (betweenM x y r b).x, .int .i64 (betweenM x y r b).y, .int .i64 (betweenM x y r b).w, .int .i64 (betweenM x y r b).h]⟩)
  | _ => none
def C7 : Calling := ovr (C6) 32 p_between
set_option maxRecDepth 100000 in
theorem C7_sound : C7.Sound Tryz.prog := ovr_sound C6_sound fun args v hv H K hk => by
  unfold p_between at hv
  split at hv
  · cases hv; exact between_spec _ _ _ _ H K hk
  · cases hv
theorem C7_mono : C7.Mono := ovr_mono C6_mono
theorem C7_call {g : FuncId} {args : List Value} {H : AHeap} {K : Value → AHeap → Prop} : callG C7 g args H K = ovrG (g == 32) (C6) g p_between args H K := call_ovr
theorem C7_pure {g : FuncId} {args : List Value} {K : Value → Prop} : pureG C7 g args K = ovrP (g == 32) (C6) g p_between args K := pure_ovr
theorem C7_val {x y r b : Int} : p_between [.int .i64 x, .int .i64 y, .int .i64 r, .int .i64 b] = some (.agg [.int .i64 (betweenM x y r b).x, .int .i64 (betweenM x y r b).y, .int .i64 (betweenM x y r b).w, .int .i64 (betweenM x y r b).h].toArray) := rfl
attribute [go_sem] C7_call C7_pure C7_val


def meetM (a b : Rect) : Rect := betweenM (max (cleanM a).x (cleanM b).x) (max (cleanM a).y (cleanM b).y) (min ((cleanM a).x + (cleanM a).w) ((cleanM b).x + (cleanM b).w)) (min ((cleanM a).y + (cleanM a).h) ((cleanM b).y + (cleanM b).h))
set_option maxRecDepth 100000 in
theorem Meet_any (a b : Rect) (H : AHeap) (K : Value → AHeap → Prop) (h : ∀ H', K (rv (meetM a b)) H') : RCalls Tryz.prog 17 [rv a, rv b] H K := by
  have ha := cleanM_bd a
  have hb := cleanM_bd b
  refine rcalls_enter (P := Tryz.prog) (rs := [.cell 4 24]) (by kernel_rfl) C7_sound Tryz.func17 rfl (by kernel_rfl) rfl rfl ?_
  simp (maxSteps := 4000000) (implicitDefEqProofs := false) (disch := first | assumption | omega | (simp (implicitDefEqProofs := false) only [next_add, next_put, next_drop, next_bump, next_putS, next_dropS, List.length_set, List.length_append, List.length_cons, List.length_nil, List.length_take]; first | done | omega)) only [go_sem, Nat.reduceBEq, reduceIte, Nat.reduceAdd]
  repeat' (first
    | (refine draw_at 1 [(0, none), (2, none), (1, none), (3, none), (4, some [2]), (5, some [])] (by kernel_rfl) ?_; simp (maxSteps := 4000000) (implicitDefEqProofs := false) (disch := first | assumption | omega | (simp (implicitDefEqProofs := false) only [next_add, next_put, next_drop, next_bump, next_putS, next_dropS, List.length_set, List.length_append, List.length_cons, List.length_nil, List.length_take]; first | done | omega)) only [go_sem, Nat.reduceBEq, reduceIte, Nat.reduceAdd])
    | (refine guardB_split_t (fun hb => ?_) (fun hb => ?_) <;> simp (maxSteps := 4000000) (implicitDefEqProofs := false) (disch := first | assumption | omega | (simp (implicitDefEqProofs := false) only [next_add, next_put, next_drop, next_bump, next_putS, next_dropS, List.length_set, List.length_append, List.length_cons, List.length_nil, List.length_take]; first | done | omega)) only [go_sem, Nat.reduceBEq, reduceIte, Nat.reduceAdd, *])
    | (refine guardB_split_f (fun hb => ?_) (fun hb => ?_) <;> simp (maxSteps := 4000000) (implicitDefEqProofs := false) (disch := first | assumption | omega | (simp (implicitDefEqProofs := false) only [next_add, next_put, next_drop, next_bump, next_putS, next_dropS, List.length_set, List.length_append, List.length_cons, List.length_nil, List.length_take]; first | done | omega)) only [go_sem, Nat.reduceBEq, reduceIte, Nat.reduceAdd, *])
    | (refine gSd_split (fun hb => ?_) (fun hb => ?_) <;> simp (maxSteps := 4000000) (implicitDefEqProofs := false) (disch := first | assumption | omega | (simp (implicitDefEqProofs := false) only [next_add, next_put, next_drop, next_bump, next_putS, next_dropS, List.length_set, List.length_append, List.length_cons, List.length_nil, List.length_take]; first | done | omega)) only [go_sem, Nat.reduceBEq, reduceIte, Nat.reduceAdd, gK_some, gK_none, *])
    | (refine condV_split (fun hb => ?_) (fun hb => ?_) <;> simp (maxSteps := 4000000) (implicitDefEqProofs := false) (disch := first | assumption | omega | (simp (implicitDefEqProofs := false) only [next_add, next_put, next_drop, next_bump, next_putS, next_dropS, List.length_set, List.length_append, List.length_cons, List.length_nil, List.length_take]; first | done | omega)) only [go_sem, Nat.reduceBEq, reduceIte, Nat.reduceAdd, *]))
  exact h _
set_option maxRecDepth 100000 in
theorem Meet_spec (a b : Rect) (H : AHeap) (K : Value → AHeap → Prop) (h : K (rv (meetM a b)) H) : RCalls Tryz.prog 17 [rv a, rv b] H K :=
  RCalls.pureRo (plain_of_any rfl) H (Meet_any a b H.ro _ fun _ => rfl) K h
def p_Meet : List Value → Option Value
  | [.agg ⟨[.int .i64 x, .int .i64 y, .int .i64 w, .int .i64 h]⟩, .agg ⟨[.int .i64 x', .int .i64 y', .int .i64 w', .int .i64 h']⟩] => some (.agg ⟨[.int .i64 (meetM ⟨x, y, w, h⟩ ⟨x', y', w', h'⟩).x, .int .i64 (meetM ⟨x, y, w, h⟩ ⟨x', y', w', h'⟩).y, .int .i64 (meetM ⟨x, y, w, h⟩ ⟨x', y', w', h'⟩).w, .int .i64 (meetM ⟨x, y, w, h⟩ ⟨x', y', w', h'⟩).h]⟩)
  | _ => none
def C8 : Calling := ovr (C7) 17 p_Meet
set_option maxRecDepth 100000 in
theorem C8_sound : C8.Sound Tryz.prog := ovr_sound C7_sound fun args v hv H K hk => by
  unfold p_Meet at hv
  split at hv
  · cases hv; exact Meet_spec ⟨_, _, _, _⟩ ⟨_, _, _, _⟩ H K hk
  · cases hv
theorem C8_mono : C8.Mono := ovr_mono C7_mono
theorem C8_call {g : FuncId} {args : List Value} {H : AHeap} {K : Value → AHeap → Prop} : callG C8 g args H K = ovrG (g == 17) (C7) g p_Meet args H K := call_ovr
theorem C8_pure {g : FuncId} {args : List Value} {K : Value → Prop} : pureG C8 g args K = ovrP (g == 17) (C7) g p_Meet args K := pure_ovr
theorem C8_val {x y w h x' y' w' h' : Int} : p_Meet [.agg [.int .i64 x, .int .i64 y, .int .i64 w, .int .i64 h].toArray, .agg [.int .i64 x', .int .i64 y', .int .i64 w', .int .i64 h'].toArray] = some (.agg [.int .i64 (meetM ⟨x, y, w, h⟩ ⟨x', y', w', h'⟩).x, .int .i64 (meetM ⟨x, y, w, h⟩ ⟨x', y', w', h'⟩).y, .int .i64 (meetM ⟨x, y, w, h⟩ ⟨x', y', w', h'⟩).w, .int .i64 (meetM ⟨x, y, w, h⟩ ⟨x', y', w', h'⟩).h].toArray) := rfl
attribute [go_sem] C8_call C8_pure C8_val


def withinM (a b : Rect) : Bool := decide (meetM a b = cleanM a)
theorem rect_eq {a b : Rect} : decide (a = b) = (a.x == b.x && (a.y == b.y && (a.w == b.w && a.h == b.h))) := by
  rw [Bool.eq_iff_iff]
  obtain ⟨_, _, _, _⟩ := a
  obtain ⟨_, _, _, _⟩ := b
  simp
set_option maxRecDepth 100000 in
theorem Within_any (a b : Rect) (H : AHeap) (K : Value → AHeap → Prop) (h : ∀ H', K (.bool (withinM a b)) H') : RCalls Tryz.prog 15 [rv a, rv b] H K := by
  unfold withinM at h
  rw [rect_eq] at h
  refine rcalls_enter (P := Tryz.prog) (rs := [.tmp 4]) (by kernel_rfl) C8_sound Tryz.func15 rfl (by kernel_rfl) rfl rfl ?_
  simp (maxSteps := 4000000) (implicitDefEqProofs := false) (disch := first | assumption | omega | (simp (implicitDefEqProofs := false) only [next_add, next_put, next_drop, next_bump, next_putS, next_dropS, List.length_set, List.length_append, List.length_cons, List.length_nil, List.length_take]; first | done | omega)) only [go_sem, Nat.reduceBEq, reduceIte, Nat.reduceAdd]
  repeat' (first
    | (refine draw_at 1 [(0, none), (1, none), (3, none), (2, none), (4, none), (5, none), (6, none)] (by kernel_rfl) ?_; simp (maxSteps := 4000000) (implicitDefEqProofs := false) (disch := first | assumption | omega | (simp (implicitDefEqProofs := false) only [next_add, next_put, next_drop, next_bump, next_putS, next_dropS, List.length_set, List.length_append, List.length_cons, List.length_nil, List.length_take]; first | done | omega)) only [go_sem, Nat.reduceBEq, reduceIte, Nat.reduceAdd])
    | (refine guardB_split_t (fun hb => ?_) (fun hb => ?_) <;> simp (maxSteps := 4000000) (implicitDefEqProofs := false) (disch := first | assumption | omega | (simp (implicitDefEqProofs := false) only [next_add, next_put, next_drop, next_bump, next_putS, next_dropS, List.length_set, List.length_append, List.length_cons, List.length_nil, List.length_take]; first | done | omega)) only [go_sem, Nat.reduceBEq, reduceIte, Nat.reduceAdd, *])
    | (refine guardB_split_f (fun hb => ?_) (fun hb => ?_) <;> simp (maxSteps := 4000000) (implicitDefEqProofs := false) (disch := first | assumption | omega | (simp (implicitDefEqProofs := false) only [next_add, next_put, next_drop, next_bump, next_putS, next_dropS, List.length_set, List.length_append, List.length_cons, List.length_nil, List.length_take]; first | done | omega)) only [go_sem, Nat.reduceBEq, reduceIte, Nat.reduceAdd, *])
    | (refine gSd_split (fun hb => ?_) (fun hb => ?_) <;> simp (maxSteps := 4000000) (implicitDefEqProofs := false) (disch := first | assumption | omega | (simp (implicitDefEqProofs := false) only [next_add, next_put, next_drop, next_bump, next_putS, next_dropS, List.length_set, List.length_append, List.length_cons, List.length_nil, List.length_take]; first | done | omega)) only [go_sem, Nat.reduceBEq, reduceIte, Nat.reduceAdd, gK_some, gK_none, *])
    | (refine condV_split (fun hb => ?_) (fun hb => ?_) <;> simp (maxSteps := 4000000) (implicitDefEqProofs := false) (disch := first | assumption | omega | (simp (implicitDefEqProofs := false) only [next_add, next_put, next_drop, next_bump, next_putS, next_dropS, List.length_set, List.length_append, List.length_cons, List.length_nil, List.length_take]; first | done | omega)) only [go_sem, Nat.reduceBEq, reduceIte, Nat.reduceAdd, *]))
  exact h _
set_option maxRecDepth 100000 in
theorem Within_spec (a b : Rect) (H : AHeap) (K : Value → AHeap → Prop) (h : K (.bool (withinM a b)) H) : RCalls Tryz.prog 15 [rv a, rv b] H K :=
  RCalls.pureRo (plain_of_any rfl) H (Within_any a b H.ro _ fun _ => rfl) K h
def p_Within : List Value → Option Value
  | [.agg ⟨[.int .i64 x, .int .i64 y, .int .i64 w, .int .i64 h]⟩, .agg ⟨[.int .i64 x', .int .i64 y', .int .i64 w', .int .i64 h']⟩] => some (.bool (withinM ⟨x, y, w, h⟩ ⟨x', y', w', h'⟩))
  | _ => none
def C9 : Calling := ovr (C8) 15 p_Within
set_option maxRecDepth 100000 in
theorem C9_sound : C9.Sound Tryz.prog := ovr_sound C8_sound fun args v hv H K hk => by
  unfold p_Within at hv
  split at hv
  · cases hv; exact Within_spec ⟨_, _, _, _⟩ ⟨_, _, _, _⟩ H K hk
  · cases hv
theorem C9_mono : C9.Mono := ovr_mono C8_mono
theorem C9_call {g : FuncId} {args : List Value} {H : AHeap} {K : Value → AHeap → Prop} : callG C9 g args H K = ovrG (g == 15) (C8) g p_Within args H K := call_ovr
theorem C9_pure {g : FuncId} {args : List Value} {K : Value → Prop} : pureG C9 g args K = ovrP (g == 15) (C8) g p_Within args K := pure_ovr
theorem C9_val {x y w h x' y' w' h' : Int} : p_Within [.agg [.int .i64 x, .int .i64 y, .int .i64 w, .int .i64 h].toArray, .agg [.int .i64 x', .int .i64 y', .int .i64 w', .int .i64 h'].toArray] = some (.bool (withinM ⟨x, y, w, h⟩ ⟨x', y', w', h'⟩)) := rfl
attribute [go_sem] C9_call C9_pure C9_val


def shiftM (r : Rect) (dx dy : Int) : Rect := cleanM ⟨sumM (cleanM r).x dx, sumM (cleanM r).y dy, (cleanM r).w, (cleanM r).h⟩
set_option maxRecDepth 100000 in
theorem Shift_any (a : Rect) (dx dy : Int) (H : AHeap) (K : Value → AHeap → Prop) (h : ∀ H', K (rv (shiftM a dx dy)) H') : RCalls Tryz.prog 12 [rv a, .int .i64 dx, .int .i64 dy] H K := by
  refine rcalls_enter (P := Tryz.prog) (rs := [.cell 6 24]) (by kernel_rfl) C9_sound Tryz.func12 rfl (by kernel_rfl) rfl rfl ?_
  simp (maxSteps := 4000000) (implicitDefEqProofs := false) (disch := first | assumption | omega | (simp (implicitDefEqProofs := false) only [next_add, next_put, next_drop, next_bump, next_putS, next_dropS, List.length_set, List.length_append, List.length_cons, List.length_nil, List.length_take]; first | done | omega)) only [go_sem, Nat.reduceBEq, reduceIte, Nat.reduceAdd]
  repeat' (first
    | (refine draw_at 2 [(0, none), (1, none), (2, none), (4, none), (5, none), (6, none), (3, none), (8, none), (7, none), (9, some []), (10, none), (11, some [])] (by kernel_rfl) ?_; simp (maxSteps := 4000000) (implicitDefEqProofs := false) (disch := first | assumption | omega | (simp (implicitDefEqProofs := false) only [next_add, next_put, next_drop, next_bump, next_putS, next_dropS, List.length_set, List.length_append, List.length_cons, List.length_nil, List.length_take]; first | done | omega)) only [go_sem, Nat.reduceBEq, reduceIte, Nat.reduceAdd])
    | (refine guardB_split_t (fun hb => ?_) (fun hb => ?_) <;> simp (maxSteps := 4000000) (implicitDefEqProofs := false) (disch := first | assumption | omega | (simp (implicitDefEqProofs := false) only [next_add, next_put, next_drop, next_bump, next_putS, next_dropS, List.length_set, List.length_append, List.length_cons, List.length_nil, List.length_take]; first | done | omega)) only [go_sem, Nat.reduceBEq, reduceIte, Nat.reduceAdd, *])
    | (refine guardB_split_f (fun hb => ?_) (fun hb => ?_) <;> simp (maxSteps := 4000000) (implicitDefEqProofs := false) (disch := first | assumption | omega | (simp (implicitDefEqProofs := false) only [next_add, next_put, next_drop, next_bump, next_putS, next_dropS, List.length_set, List.length_append, List.length_cons, List.length_nil, List.length_take]; first | done | omega)) only [go_sem, Nat.reduceBEq, reduceIte, Nat.reduceAdd, *])
    | (refine gSd_split (fun hb => ?_) (fun hb => ?_) <;> simp (maxSteps := 4000000) (implicitDefEqProofs := false) (disch := first | assumption | omega | (simp (implicitDefEqProofs := false) only [next_add, next_put, next_drop, next_bump, next_putS, next_dropS, List.length_set, List.length_append, List.length_cons, List.length_nil, List.length_take]; first | done | omega)) only [go_sem, Nat.reduceBEq, reduceIte, Nat.reduceAdd, gK_some, gK_none, *])
    | (refine condV_split (fun hb => ?_) (fun hb => ?_) <;> simp (maxSteps := 4000000) (implicitDefEqProofs := false) (disch := first | assumption | omega | (simp (implicitDefEqProofs := false) only [next_add, next_put, next_drop, next_bump, next_putS, next_dropS, List.length_set, List.length_append, List.length_cons, List.length_nil, List.length_take]; first | done | omega)) only [go_sem, Nat.reduceBEq, reduceIte, Nat.reduceAdd, *]))
  exact h _
set_option maxRecDepth 100000 in
theorem Shift_spec (a : Rect) (dx dy : Int) (H : AHeap) (K : Value → AHeap → Prop) (h : K (rv (shiftM a dx dy)) H) : RCalls Tryz.prog 12 [rv a, .int .i64 dx, .int .i64 dy] H K :=
  RCalls.pureRo (plain_of_any rfl) H (Shift_any a dx dy H.ro _ fun _ => rfl) K h
def p_Shift : List Value → Option Value
  | [.agg ⟨[.int .i64 x, .int .i64 y, .int .i64 w, .int .i64 h]⟩, .int .i64 dx, .int .i64 dy] => some (.agg ⟨[.int .i64 (shiftM ⟨x, y, w, h⟩ dx dy).x, .int .i64 (shiftM ⟨x, y, w, h⟩ dx dy).y, .int .i64 (shiftM ⟨x, y, w, h⟩ dx dy).w, .int .i64 (shiftM ⟨x, y, w, h⟩ dx dy).h]⟩)
  | _ => none
def C10 : Calling := ovr (C9) 12 p_Shift
set_option maxRecDepth 100000 in
theorem C10_sound : C10.Sound Tryz.prog := ovr_sound C9_sound fun args v hv H K hk => by
  unfold p_Shift at hv
  split at hv
  · cases hv; exact Shift_spec ⟨_, _, _, _⟩ _ _ H K hk
  · cases hv
theorem C10_mono : C10.Mono := ovr_mono C9_mono
theorem C10_call {g : FuncId} {args : List Value} {H : AHeap} {K : Value → AHeap → Prop} : callG C10 g args H K = ovrG (g == 12) (C9) g p_Shift args H K := call_ovr
theorem C10_pure {g : FuncId} {args : List Value} {K : Value → Prop} : pureG C10 g args K = ovrP (g == 12) (C9) g p_Shift args K := pure_ovr
theorem C10_val {x y w h dx dy : Int} : p_Shift [.agg [.int .i64 x, .int .i64 y, .int .i64 w, .int .i64 h].toArray, .int .i64 dx, .int .i64 dy] = some (.agg [.int .i64 (shiftM ⟨x, y, w, h⟩ dx dy).x, .int .i64 (shiftM ⟨x, y, w, h⟩ dx dy).y, .int .i64 (shiftM ⟨x, y, w, h⟩ dx dy).w, .int .i64 (shiftM ⟨x, y, w, h⟩ dx dy).h].toArray) := rfl
attribute [go_sem] C10_call C10_pure C10_val


def intoM (r b : Rect) : Rect :=
  cleanM ⟨clampM (cleanM r).x (cleanM b).x ((cleanM b).x + (cleanM b).w - min (cleanM r).w (cleanM b).w), clampM (cleanM r).y (cleanM b).y ((cleanM b).y + (cleanM b).h - min (cleanM r).h (cleanM b).h), min (cleanM r).w (cleanM b).w, min (cleanM r).h (cleanM b).h⟩
set_option maxRecDepth 100000 in
theorem Into_any (a b : Rect) (H : AHeap) (K : Value → AHeap → Prop) (h : ∀ H', K (rv (intoM a b)) H') : RCalls Tryz.prog 25 [rv a, rv b] H K := by
  have ha := cleanM_bd a
  have hb := cleanM_bd b
  refine rcalls_enter (P := Tryz.prog) (rs := [.cell 4 24]) (by kernel_rfl) C10_sound Tryz.func25 rfl (by kernel_rfl) rfl rfl ?_
  simp (maxSteps := 4000000) (implicitDefEqProofs := false) (disch := first | assumption | omega | (simp (implicitDefEqProofs := false) only [next_add, next_put, next_drop, next_bump, next_putS, next_dropS, List.length_set, List.length_append, List.length_cons, List.length_nil, List.length_take]; first | done | omega)) only [go_sem, Nat.reduceBEq, reduceIte, Nat.reduceAdd]
  repeat' (first
    | (refine draw_at 1 [(0, none), (2, none), (1, none), (3, none), (4, some [2]), (5, some [])] (by kernel_rfl) ?_; simp (maxSteps := 4000000) (implicitDefEqProofs := false) (disch := first | assumption | omega | (simp (implicitDefEqProofs := false) only [next_add, next_put, next_drop, next_bump, next_putS, next_dropS, List.length_set, List.length_append, List.length_cons, List.length_nil, List.length_take]; first | done | omega)) only [go_sem, Nat.reduceBEq, reduceIte, Nat.reduceAdd])
    | (refine draw_at 2 [(0, none), (1, none), (2, none), (3, none), (4, none), (5, none), (6, none), (7, none), (8, none), (9, none), (10, none), (11, some [8]), (12, none), (13, some [])] (by kernel_rfl) ?_; simp (maxSteps := 4000000) (implicitDefEqProofs := false) (disch := first | assumption | omega | (simp (implicitDefEqProofs := false) only [next_add, next_put, next_drop, next_bump, next_putS, next_dropS, List.length_set, List.length_append, List.length_cons, List.length_nil, List.length_take]; first | done | omega)) only [go_sem, Nat.reduceBEq, reduceIte, Nat.reduceAdd])
    | (refine guardB_split_t (fun hb => ?_) (fun hb => ?_) <;> simp (maxSteps := 4000000) (implicitDefEqProofs := false) (disch := first | assumption | omega | (simp (implicitDefEqProofs := false) only [next_add, next_put, next_drop, next_bump, next_putS, next_dropS, List.length_set, List.length_append, List.length_cons, List.length_nil, List.length_take]; first | done | omega)) only [go_sem, Nat.reduceBEq, reduceIte, Nat.reduceAdd, *])
    | (refine guardB_split_f (fun hb => ?_) (fun hb => ?_) <;> simp (maxSteps := 4000000) (implicitDefEqProofs := false) (disch := first | assumption | omega | (simp (implicitDefEqProofs := false) only [next_add, next_put, next_drop, next_bump, next_putS, next_dropS, List.length_set, List.length_append, List.length_cons, List.length_nil, List.length_take]; first | done | omega)) only [go_sem, Nat.reduceBEq, reduceIte, Nat.reduceAdd, *])
    | (refine gSd_split (fun hb => ?_) (fun hb => ?_) <;> simp (maxSteps := 4000000) (implicitDefEqProofs := false) (disch := first | assumption | omega | (simp (implicitDefEqProofs := false) only [next_add, next_put, next_drop, next_bump, next_putS, next_dropS, List.length_set, List.length_append, List.length_cons, List.length_nil, List.length_take]; first | done | omega)) only [go_sem, Nat.reduceBEq, reduceIte, Nat.reduceAdd, gK_some, gK_none, *])
    | (refine condV_split (fun hb => ?_) (fun hb => ?_) <;> simp (maxSteps := 4000000) (implicitDefEqProofs := false) (disch := first | assumption | omega | (simp (implicitDefEqProofs := false) only [next_add, next_put, next_drop, next_bump, next_putS, next_dropS, List.length_set, List.length_append, List.length_cons, List.length_nil, List.length_take]; first | done | omega)) only [go_sem, Nat.reduceBEq, reduceIte, Nat.reduceAdd, *]))
  exact h _
set_option maxRecDepth 100000 in
theorem Into_spec (a b : Rect) (H : AHeap) (K : Value → AHeap → Prop) (h : K (rv (intoM a b)) H) : RCalls Tryz.prog 25 [rv a, rv b] H K :=
  RCalls.pureRo (plain_of_any rfl) H (Into_any a b H.ro _ fun _ => rfl) K h
def p_Into : List Value → Option Value
  | [.agg ⟨[.int .i64 x, .int .i64 y, .int .i64 w, .int .i64 h]⟩, .agg ⟨[.int .i64 x', .int .i64 y', .int .i64 w', .int .i64 h']⟩] => some (.agg ⟨[.int .i64 (intoM ⟨x, y, w, h⟩ ⟨x', y', w', h'⟩).x, .int .i64 (intoM ⟨x, y, w, h⟩ ⟨x', y', w', h'⟩).y, .int .i64 (intoM ⟨x, y, w, h⟩ ⟨x', y', w', h'⟩).w, .int .i64 (intoM ⟨x, y, w, h⟩ ⟨x', y', w', h'⟩).h]⟩)
  | _ => none
def C11 : Calling := ovr (C10) 25 p_Into
set_option maxRecDepth 100000 in
theorem C11_sound : C11.Sound Tryz.prog := ovr_sound C10_sound fun args v hv H K hk => by
  unfold p_Into at hv
  split at hv
  · cases hv; exact Into_spec ⟨_, _, _, _⟩ ⟨_, _, _, _⟩ H K hk
  · cases hv
theorem C11_mono : C11.Mono := ovr_mono C10_mono
theorem C11_call {g : FuncId} {args : List Value} {H : AHeap} {K : Value → AHeap → Prop} : callG C11 g args H K = ovrG (g == 25) (C10) g p_Into args H K := call_ovr
theorem C11_pure {g : FuncId} {args : List Value} {K : Value → Prop} : pureG C11 g args K = ovrP (g == 25) (C10) g p_Into args K := pure_ovr
theorem C11_val {x y w h x' y' w' h' : Int} : p_Into [.agg [.int .i64 x, .int .i64 y, .int .i64 w, .int .i64 h].toArray, .agg [.int .i64 x', .int .i64 y', .int .i64 w', .int .i64 h'].toArray] = some (.agg [.int .i64 (intoM ⟨x, y, w, h⟩ ⟨x', y', w', h'⟩).x, .int .i64 (intoM ⟨x, y, w, h⟩ ⟨x', y', w', h'⟩).y, .int .i64 (intoM ⟨x, y, w, h⟩ ⟨x', y', w', h'⟩).w, .int .i64 (intoM ⟨x, y, w, h⟩ ⟨x', y', w', h'⟩).h].toArray) := rfl
attribute [go_sem] C11_call C11_pure C11_val

end Go.LH.Rect
