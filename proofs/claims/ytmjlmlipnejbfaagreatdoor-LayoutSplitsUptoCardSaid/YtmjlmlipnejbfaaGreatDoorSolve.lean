/-
  Sharing a length out: what the program's functions of layer 9 compute.
-/
import Derived.Test.YtmjlmlipnejbfaaGreatDoorRect
set_option linter.all false
namespace Go.LH.Ty
open Go.Proofs
theorem al27 {H : AHeap} : allocT Tryz.prog H 27 = some (.pointer (some ⟨H.next, 0, none⟩), H.add (.cells [.int .i64 0, .int .i64 0] 2 true)) := alloc_eq (by kernel_rfl) (by kernel_rfl) (by kernel_rfl)
theorem aw37 {H : AHeap} {i j n k c : Nat} {w : Bool} {cs new : List Value} (hk : 0 < k) (hobj : 0 < n → H.get i = some (.cells cs 1 true)) (hcs : cs.length = n * 1) (hx : H.get j = some (.cells new 1 w)) (hnew : new.length = k * 1) (hone : new.all oneCell = true) (hb1 : (n + k) * 8 ≤ 140737488355328) (hb2 : n + k ≤ 140737488355328) : abuiltin Tryz.prog .append #[37, 37] [apS i n, .slice (some ⟨j, 0, none⟩) k c] H = some (apS H.next (n + k), (H.dropS i n).add (.cells (cs ++ new) 1 true)) := append_apS (e := 3) (t1 := 3) (zero := [.int .i64 0]) (by decide) (by kernel_rfl) (by kernel_rfl) (by kernel_rfl) (by kernel_rfl) (by kernel_rfl) rfl hk hobj hcs hx hnew hone hb1 hb2
theorem bs37 {H : AHeap} {v : Value} : abuildSlice Tryz.prog H 37 1 [(0, v)] = guardO (v.cells.toList.length == 1) (guardO (v.cells.toList.all oneCell) (some (.slice (some ⟨H.next, 0, none⟩) 1 1, H.add (.cells v.cells.toList 1 true)))) := build_one (e := 3) (zero := [.int .i64 0]) (by kernel_rfl) (by kernel_rfl) (by kernel_rfl) rfl (by decide)
theorem bx27 {H : AHeap} {v : Value} : boxE Tryz.prog H 27 v = guardO (v.cells.toList.all oneCell) (some (.pointer (some ⟨H.next, 0, none⟩), H.add (.cells v.cells.toList 2 true))) := box_eq (by kernel_rfl)
theorem ia22 {i n c o : Nat} {k : IntKind} {x : Int} (h0 : 0 ≤ x) (h1 : x < n) : aindexAddr Tryz.prog 22 (.slice (some ⟨i, o, none⟩) n c) (.int k x) = some (.pointer (some ⟨i, o + x.toNat * 2, none⟩)) := ia_slice (e := 27) (by kernel_rfl) (by kernel_rfl) h0 h1
theorem ia37 {i n c o : Nat} {k : IntKind} {x : Int} (h0 : 0 ≤ x) (h1 : x < n) : aindexAddr Tryz.prog 37 (.slice (some ⟨i, o, none⟩) n c) (.int k x) = some (.pointer (some ⟨i, o + x.toNat * 1, none⟩)) := ia_slice (e := 3) (by kernel_rfl) (by kernel_rfl) h0 h1
theorem ip22 {i n : Nat} {k : IntKind} {x : Int} (h0 : 0 ≤ x) (h1 : x < n) : aindexAddr Tryz.prog 22 (apS i n) (.int k x) = some (.pointer (some ⟨i, x.toNat * 2, none⟩)) := ia_apS (e := 27) (by kernel_rfl) (by kernel_rfl) h0 h1
theorem ip37 {i n : Nat} {k : IntKind} {x : Int} (h0 : 0 ≤ x) (h1 : x < n) : aindexAddr Tryz.prog 37 (apS i n) (.int k x) = some (.pointer (some ⟨i, x.toNat * 1, none⟩)) := ia_apS (e := 3) (by kernel_rfl) (by kernel_rfl) h0 h1
theorem iv22 {i n c : Nat} {b : Bool} {k : IntKind} {x : Int} (hb : b = true ∨ n = 0) (h0 : 0 ≤ x) (h1 : x < n) : aindexAddr Tryz.prog 22 (slV b i n c) (.int k x) = some (.pointer (some ⟨i, x.toNat * 2, none⟩)) := ia_slV (e := 27) (by kernel_rfl) (by kernel_rfl) hb h0 h1
theorem iv37 {i n c : Nat} {b : Bool} {k : IntKind} {x : Int} (hb : b = true ∨ n = 0) (h0 : 0 ≤ x) (h1 : x < n) : aindexAddr Tryz.prog 37 (slV b i n c) (.int k x) = some (.pointer (some ⟨i, x.toNat * 1, none⟩)) := ia_slV (e := 3) (by kernel_rfl) (by kernel_rfl) hb h0 h1
theorem ld27 {H : AHeap} {i o : Nat} : AHeap.load Tryz.prog H 27 i o = aggE (H.get i) o 2 := load_agg (by kernel_rfl) (by kernel_rfl)
theorem ln22 {x : Value} {H : AHeap} : abuiltin Tryz.prog .len #[22] [x] H = (alenV Tryz.prog (some (.slice 27)) x).map fun v => (v, H) := by rw [b_len, show (#[22][0]?.bind (Program.underlying Tryz.prog)) = some (.slice 27) from by kernel_rfl]
theorem ln37 {x : Value} {H : AHeap} : abuiltin Tryz.prog .len #[37] [x] H = (alenV Tryz.prog (some (.slice 3)) x).map fun v => (v, H) := by rw [b_len, show (#[37][0]?.bind (Program.underlying Tryz.prog)) = some (.slice 3) from by kernel_rfl]
theorem so27 {H : AHeap} {i o : Nat} {v : Value} : AHeap.store Tryz.prog H 27 i o v = storeS 2 H i (H.get i) o v.cells.toList := store_S (by kernel_rfl)
theorem tf27_0 : tfield Tryz.prog 27 0 = some (3, 0) := by kernel_rfl
theorem tf27_1 : tfield Tryz.prog 27 1 = some (3, 1) := by kernel_rfl
attribute [go_sem] al27 bs37 bx27 ia22 ia37 ip22 ip37 iv22 iv37 ld27 ln22 ln37 so27 tf27_0 tf27_1
end Go.LH.Ty
namespace Go.LH.Solve
open Go.Proofs Go.LH.Ty Go.LH.Rect
structure Size where
  kind : Int
  n : Int
  deriving DecidableEq, Inhabited
@[reducible] def sv (s : Size) : Value := .agg [.int .i64 s.kind, .int .i64 s.n].toArray
def scells (s : Size) : List Value := [.int .i64 s.kind, .int .i64 s.n]
theorem size_eta (s : Size) : (⟨s.kind, s.n⟩ : Size) = s := rfl
def ic (n : Int) : List Value := [.int .i64 n]
attribute [go_sem] size_eta
theorem sz_z (x : Size) : (scells x).length = 2 := rfl
theorem sz_agg {xs : List Size} {r : List Value} {k : Nat} (h : k < xs.length) : takeE (xs.flatMap scells ++ r) (k * 2) 2 = some (scells (nth xs k)) := flat_take sz_z h
theorem sz_agg0 {xs : List Size} {k : Nat} (h : k < xs.length) : takeE (xs.flatMap scells) (k * 2) 2 = some (scells (nth xs k)) := by have := sz_agg (r := []) h; rwa [List.append_nil] at this
theorem sz_cell {xs : List Size} {r : List Value} {k j : Nat} (h : k < xs.length) (hj : j < 2) : (xs.flatMap scells ++ r)[k * 2 + j]? = (scells (nth xs k))[j]? := flat_cell sz_z h hj
theorem sz_cell0 {xs : List Size} {r : List Value} {k : Nat} (h : k < xs.length) : (xs.flatMap scells ++ r)[k * 2]? = (scells (nth xs k))[0]? := flat_cell (j := 0) sz_z h (by decide)
theorem sz_cell1 {xs : List Size} {k j : Nat} (h : k < xs.length) (hj : j < 2) : (xs.flatMap scells)[k * 2 + j]? = (scells (nth xs k))[j]? := by have := sz_cell (r := []) h hj; rwa [List.append_nil] at this
theorem sz_cell2 {xs : List Size} {k : Nat} (h : k < xs.length) : (xs.flatMap scells)[k * 2]? = (scells (nth xs k))[0]? := by have := sz_cell0 (r := []) h; rwa [List.append_nil] at this
theorem sz_len {xs : List Size} : (xs.flatMap scells).length = xs.length * 2 := flat_length sz_z xs
theorem sz_app {xs : List Size} {x : Size} : xs.flatMap scells ++ scells x = (xs ++ [x]).flatMap scells := by simp
attribute [go_sem] sz_agg sz_agg0 sz_cell sz_cell0 sz_cell1 sz_cell2 scells

theorem ic_z (x : Int) : (ic x).length = 1 := rfl
theorem ic_agg {xs : List Int} {r : List Value} {k : Nat} (h : k < xs.length) : takeE (xs.flatMap ic ++ r) (k * 1) 1 = some (ic (nth xs k)) := flat_take ic_z h
theorem ic_agg0 {xs : List Int} {k : Nat} (h : k < xs.length) : takeE (xs.flatMap ic) (k * 1) 1 = some (ic (nth xs k)) := by have := ic_agg (r := []) h; rwa [List.append_nil] at this
theorem ic_cell {xs : List Int} {r : List Value} {k j : Nat} (h : k < xs.length) (hj : j < 1) : (xs.flatMap ic ++ r)[k * 1 + j]? = (ic (nth xs k))[j]? := flat_cell ic_z h hj
theorem ic_cell0 {xs : List Int} {r : List Value} {k : Nat} (h : k < xs.length) : (xs.flatMap ic ++ r)[k * 1]? = (ic (nth xs k))[0]? := flat_cell (j := 0) ic_z h (by decide)
theorem ic_cell1 {xs : List Int} {k j : Nat} (h : k < xs.length) (hj : j < 1) : (xs.flatMap ic)[k * 1 + j]? = (ic (nth xs k))[j]? := by have := ic_cell (r := []) h hj; rwa [List.append_nil] at this
theorem ic_cell2 {xs : List Int} {k : Nat} (h : k < xs.length) : (xs.flatMap ic)[k * 1]? = (ic (nth xs k))[0]? := by have := ic_cell0 (r := []) h; rwa [List.append_nil] at this
theorem ic_len {xs : List Int} : (xs.flatMap ic).length = xs.length * 1 := flat_length ic_z xs
theorem ic_app {xs : List Int} {x : Int} : xs.flatMap ic ++ ic x = (xs ++ [x]).flatMap ic := by simp
attribute [go_sem] ic_agg ic_agg0 ic_cell ic_cell0 ic_cell1 ic_cell2 ic

def okSize (s : Size) : Bool := s.kind == 0 || (s.kind == 1 && (decide (s.n ≥ 1) && decide (s.n ≤ 200))) || (s.kind == 2 && (decide (s.n ≥ 1) && decide (s.n ≤ 100)))
theorem okSize_iff {s : Size} : okSize s = true ↔ s.kind = 0 ∨ (s.kind = 1 ∧ 1 ≤ s.n ∧ s.n ≤ 200) ∨ (s.kind = 2 ∧ 1 ≤ s.n ∧ s.n ≤ 100) := by
  simp [okSize, or_assoc]
def chk (s : Size) : Int := if okSize s = true then 0 else 1
set_option maxRecDepth 100000 in
theorem Check_any (s : Size) (H : AHeap) (K : Value → AHeap → Prop) (h : ∀ H', K (.int .i64 (chk s)) H') : RCalls Tryz.prog 29 [sv s] H K := by
  refine rcalls_enter (P := Tryz.prog) (rs := [.tmp 2]) (by kernel_rfl) C11_sound Tryz.func29 rfl (by kernel_rfl) rfl rfl ?_
  simp (maxSteps := 4000000) (implicitDefEqProofs := false) (disch := first | assumption | omega | (simp (implicitDefEqProofs := false) only [next_add, next_put, next_drop, next_bump, next_putS, next_dropS, List.length_set, List.length_append, List.length_cons, List.length_nil, List.length_take]; first | done | omega)) only [go_sem, Nat.reduceBEq, reduceIte, Nat.reduceAdd]
  repeat' (first
    | (refine guardB_split_t (fun hb => ?_) (fun hb => ?_) <;> simp (maxSteps := 4000000) (implicitDefEqProofs := false) (disch := first | assumption | omega | (simp (implicitDefEqProofs := false) only [next_add, next_put, next_drop, next_bump, next_putS, next_dropS, List.length_set, List.length_append, List.length_cons, List.length_nil, List.length_take]; first | done | omega)) only [go_sem, Nat.reduceBEq, reduceIte, Nat.reduceAdd, *])
    | (refine guardB_split_f (fun hb => ?_) (fun hb => ?_) <;> simp (maxSteps := 4000000) (implicitDefEqProofs := false) (disch := first | assumption | omega | (simp (implicitDefEqProofs := false) only [next_add, next_put, next_drop, next_bump, next_putS, next_dropS, List.length_set, List.length_append, List.length_cons, List.length_nil, List.length_take]; first | done | omega)) only [go_sem, Nat.reduceBEq, reduceIte, Nat.reduceAdd, *])
    | (refine gSd_split (fun hb => ?_) (fun hb => ?_) <;> simp (maxSteps := 4000000) (implicitDefEqProofs := false) (disch := first | assumption | omega | (simp (implicitDefEqProofs := false) only [next_add, next_put, next_drop, next_bump, next_putS, next_dropS, List.length_set, List.length_append, List.length_cons, List.length_nil, List.length_take]; first | done | omega)) only [go_sem, Nat.reduceBEq, reduceIte, Nat.reduceAdd, gK_some, gK_none, *])
    | (refine condV_split (fun hb => ?_) (fun hb => ?_) <;> simp (maxSteps := 4000000) (implicitDefEqProofs := false) (disch := first | assumption | omega | (simp (implicitDefEqProofs := false) only [next_add, next_put, next_drop, next_bump, next_putS, next_dropS, List.length_set, List.length_append, List.length_cons, List.length_nil, List.length_take]; first | done | omega)) only [go_sem, Nat.reduceBEq, reduceIte, Nat.reduceAdd, *]))
  all_goals (simp only [chk, okSize, Bool.and_assoc] at *; simp_all only [Bool.or_true, Bool.or_false, Bool.true_or, Bool.false_or, if_true, if_false, Bool.false_eq_true, Bool.and_assoc])
set_option maxRecDepth 100000 in
theorem Check_spec (s : Size) (H : AHeap) (K : Value → AHeap → Prop) (h : K (.int .i64 (chk s)) H) : RCalls Tryz.prog 29 [sv s] H K :=
  RCalls.pureRo (plain_of_any rfl) H (Check_any s H.ro _ fun _ => rfl) K h
def p_SCheck : List Value → Option Value
  | [.agg ⟨[.int .i64 k, .int .i64 n]⟩] => some (.int .i64 (chk ⟨k, n⟩))
  | _ => none
def C12 : Calling := ovr (C11) 29 p_SCheck
set_option maxRecDepth 100000 in
theorem C12_sound : C12.Sound Tryz.prog := ovr_sound C11_sound fun args v hv H K hk => by
  unfold p_SCheck at hv
  split at hv
  · cases hv; exact Check_spec ⟨_, _⟩ H K hk
  · cases hv
theorem C12_mono : C12.Mono := ovr_mono C11_mono
theorem C12_call {g : FuncId} {args : List Value} {H : AHeap} {K : Value → AHeap → Prop} : callG C12 g args H K = ovrG (g == 29) (C11) g p_SCheck args H K := call_ovr
theorem C12_pure {g : FuncId} {args : List Value} {K : Value → Prop} : pureG C12 g args K = ovrP (g == 29) (C11) g p_SCheck args K := pure_ovr
theorem C12_val {k n : Int} : p_SCheck [.agg [.int .i64 k, .int .i64 n].toArray] = some (.int .i64 (chk ⟨k, n⟩)) := rfl
attribute [go_sem] C12_call C12_pure C12_val


def bad (s : Size) : Bool := chk s != 0
theorem bad_eq (s : Size) : bad s = !okSize s := by unfold bad chk; cases okSize s <;> rfl
set_option maxRecDepth 100000 in
theorem bad_any (s : Size) (H : AHeap) (K : Value → AHeap → Prop) (h : ∀ H', K (.bool (bad s)) H') : RCalls Tryz.prog 28 [sv s] H K := by
  refine rcalls_enter (P := Tryz.prog) (rs := [.tmp 2]) (by kernel_rfl) C12_sound Tryz.func28 rfl (by kernel_rfl) rfl rfl ?_
  simp (maxSteps := 4000000) (implicitDefEqProofs := false) (disch := first | assumption | omega | (simp (implicitDefEqProofs := false) only [next_add, next_put, next_drop, next_bump, next_putS, next_dropS, List.length_set, List.length_append, List.length_cons, List.length_nil, List.length_take]; first | done | omega)) only [go_sem, Nat.reduceBEq, reduceIte, Nat.reduceAdd]
  repeat' (first
    | (refine guardB_split_t (fun hb => ?_) (fun hb => ?_) <;> simp (maxSteps := 4000000) (implicitDefEqProofs := false) (disch := first | assumption | omega | (simp (implicitDefEqProofs := false) only [next_add, next_put, next_drop, next_bump, next_putS, next_dropS, List.length_set, List.length_append, List.length_cons, List.length_nil, List.length_take]; first | done | omega)) only [go_sem, Nat.reduceBEq, reduceIte, Nat.reduceAdd, *])
    | (refine guardB_split_f (fun hb => ?_) (fun hb => ?_) <;> simp (maxSteps := 4000000) (implicitDefEqProofs := false) (disch := first | assumption | omega | (simp (implicitDefEqProofs := false) only [next_add, next_put, next_drop, next_bump, next_putS, next_dropS, List.length_set, List.length_append, List.length_cons, List.length_nil, List.length_take]; first | done | omega)) only [go_sem, Nat.reduceBEq, reduceIte, Nat.reduceAdd, *])
    | (refine gSd_split (fun hb => ?_) (fun hb => ?_) <;> simp (maxSteps := 4000000) (implicitDefEqProofs := false) (disch := first | assumption | omega | (simp (implicitDefEqProofs := false) only [next_add, next_put, next_drop, next_bump, next_putS, next_dropS, List.length_set, List.length_append, List.length_cons, List.length_nil, List.length_take]; first | done | omega)) only [go_sem, Nat.reduceBEq, reduceIte, Nat.reduceAdd, gK_some, gK_none, *])
    | (refine condV_split (fun hb => ?_) (fun hb => ?_) <;> simp (maxSteps := 4000000) (implicitDefEqProofs := false) (disch := first | assumption | omega | (simp (implicitDefEqProofs := false) only [next_add, next_put, next_drop, next_bump, next_putS, next_dropS, List.length_set, List.length_append, List.length_cons, List.length_nil, List.length_take]; first | done | omega)) only [go_sem, Nat.reduceBEq, reduceIte, Nat.reduceAdd, *]))
  exact h _
set_option maxRecDepth 100000 in
theorem bad_spec (s : Size) (H : AHeap) (K : Value → AHeap → Prop) (h : K (.bool (bad s)) H) : RCalls Tryz.prog 28 [sv s] H K :=
  RCalls.pureRo (plain_of_any rfl) H (bad_any s H.ro _ fun _ => rfl) K h
def p_Share1 : List Value → Option Value
  | [.agg ⟨[.int .i64 k, .int .i64 n]⟩] => some (.bool (bad ⟨k, n⟩))
  | _ => none
def C13 : Calling := ovr (C12) 28 p_Share1
set_option maxRecDepth 100000 in
theorem C13_sound : C13.Sound Tryz.prog := ovr_sound C12_sound fun args v hv H K hk => by
  unfold p_Share1 at hv
  split at hv
  · cases hv; exact bad_spec ⟨_, _⟩ H K hk
  · cases hv
theorem C13_mono : C13.Mono := ovr_mono C12_mono
theorem C13_call {g : FuncId} {args : List Value} {H : AHeap} {K : Value → AHeap → Prop} : callG C13 g args H K = ovrG (g == 28) (C12) g p_Share1 args H K := call_ovr
theorem C13_pure {g : FuncId} {args : List Value} {K : Value → Prop} : pureG C13 g args K = ovrP (g == 28) (C12) g p_Share1 args K := pure_ovr
theorem C13_val {k n : Int} : p_Share1 [.agg [.int .i64 k, .int .i64 n].toArray] = some (.bool (bad ⟨k, n⟩)) := rfl
attribute [go_sem] C13_call C13_pure C13_val


def fv28 : Value := .func (.func 28) [].toArray [].toArray
set_option maxRecDepth 100000 in
theorem Index_any (xs : List Size) (b : Bool) (i n c : Nat) (H : AHeap) (hs : SlIs scells 2 H b i n xs) (K : Value → AHeap → Prop)
    (h1 : ∀ k, k < xs.length → bad (nth xs k) = true → ∀ H', K (.int .i64 (k : Int)) H') (h2 : (∀ k, k < xs.length → bad (nth xs k) = false) → ∀ H', K (.int .i64 (-1)) H') :
    RCalls Tryz.prog 40 [slV b i n c, .func (.func 28) [].toArray [].toArray] H K := by
  obtain ⟨hb, rfl, hlt, hobj, hbnd, -⟩ := hs
  refine rcalls_enter (P := Tryz.prog) (rs := [.tmp 4]) (by kernel_rfl) C13_sound Tryz.func40 rfl (by kernel_rfl) rfl rfl ?_
  simp (maxSteps := 4000000) (implicitDefEqProofs := false) (disch := first | assumption | omega | (simp (implicitDefEqProofs := false) only [next_add, next_put, next_drop, next_bump, next_putS, next_dropS, List.length_set, List.length_append, List.length_cons, List.length_nil, List.length_take]; first | done | omega)) only [go_sem, Nat.reduceBEq, reduceIte, Nat.reduceAdd]
  refine loop_st (σ := Nat) C13_mono [4, 5, 8, 9, 10, 11, 12, 13, 14, 15, 16, 17, 18] (fun k => [(8, .int .i64 (k : Int))]) (fun _ => H) (fun k => k ≤ xs.length ∧ ∀ j, j < k → bad (nth xs j) = false) (fun k => xs.length - k) 0 (by kernel_rfl) ⟨by omega, by intro j hj; omega⟩ ⟨rfl, trivial⟩ (.refl _) ?_
  rintro k u ⟨hk, hpre⟩ ⟨h8, -⟩
  by_cases hlt2 : k < xs.length
  · obtain ⟨r, w, ho⟩ := hobj (by omega)
    simp (maxSteps := 4000000) (implicitDefEqProofs := false) (disch := first | assumption | omega | (simp (implicitDefEqProofs := false) only [next_add, next_put, next_drop, next_bump, next_putS, next_dropS, List.length_set, List.length_append, List.length_cons, List.length_nil, List.length_take]; first | done | omega)) only [go_sem, Nat.reduceBEq, reduceIte, Nat.reduceAdd, h8, ho, dec_lt_t, dec_lt_f, dec_le_t, dec_le_f, dec_gt_t, dec_gt_f, dec_ge_t, dec_ge_f, dec_eq_t, dec_eq_f, dec_ne_t, dec_ne_f]
    refine condV_split (fun hb => ?_) (fun hb => ?_)
    · simp (maxSteps := 4000000) (implicitDefEqProofs := false) (disch := first | assumption | omega | (simp (implicitDefEqProofs := false) only [next_add, next_put, next_drop, next_bump, next_putS, next_dropS, List.length_set, List.length_append, List.length_cons, List.length_nil, List.length_take]; first | done | omega)) only [go_sem, Nat.reduceBEq, reduceIte, Nat.reduceAdd, h8, ho]
      exact h1 k hlt2 hb _
    · simp (maxSteps := 4000000) (implicitDefEqProofs := false) (disch := first | assumption | omega | (simp (implicitDefEqProofs := false) only [next_add, next_put, next_drop, next_bump, next_putS, next_dropS, List.length_set, List.length_append, List.length_cons, List.length_nil, List.length_take]; first | done | omega)) only [go_sem, Nat.reduceBEq, reduceIte, Nat.reduceAdd, h8, ho]
      refine ⟨k + 1, ⟨by omega, fun j hj => ?_⟩, ?_, .refl _, by omega⟩
      · by_cases e : j = k
        · subst e; exact hb
        · exact hpre j (by omega)
      · simp (maxSteps := 4000000) (implicitDefEqProofs := false) (disch := first | assumption | omega | (simp (implicitDefEqProofs := false) only [next_add, next_put, next_drop, next_bump, next_putS, next_dropS, List.length_set, List.length_append, List.length_cons, List.length_nil, List.length_take]; first | done | omega)) only [go_sem, Nat.reduceBEq, reduceIte, Nat.reduceAdd, h8, envHas_cons, envHas_nil, cast_succ, cast_zero]
  · simp (maxSteps := 4000000) (implicitDefEqProofs := false) (disch := first | assumption | omega | (simp (implicitDefEqProofs := false) only [next_add, next_put, next_drop, next_bump, next_putS, next_dropS, List.length_set, List.length_append, List.length_cons, List.length_nil, List.length_take]; first | done | omega)) only [go_sem, Nat.reduceBEq, reduceIte, Nat.reduceAdd, h8, dec_lt_t, dec_lt_f, dec_le_t, dec_le_f, dec_gt_t, dec_gt_f, dec_ge_t, dec_ge_f, dec_eq_t, dec_eq_f, dec_ne_t, dec_ne_f]
    exact h2 (fun j hj => hpre j (by omega)) _
def anyBad (xs : List Size) : Bool := xs.any bad
set_option maxRecDepth 100000 in
theorem Contains_any (xs : List Size) (b : Bool) (i n c : Nat) (H : AHeap) (hs : SlIs scells 2 H b i n xs) (K : Value → AHeap → Prop)
    (h : ∀ H', K (.bool (anyBad xs)) H') : RCalls Tryz.prog 27 [slV b i n c, .func (.func 28) [].toArray [].toArray] H K := by
  refine rcalls_enter (P := Tryz.prog) (rs := [.tmp 4]) (by kernel_rfl) C13_sound Tryz.func27 rfl (by kernel_rfl) rfl rfl ?_
  simp (maxSteps := 4000000) (implicitDefEqProofs := false) (disch := first | assumption | omega | (simp (implicitDefEqProofs := false) only [next_add, next_put, next_drop, next_bump, next_putS, next_dropS, List.length_set, List.length_append, List.length_cons, List.length_nil, List.length_take]; first | done | omega)) only [go_sem, Nat.reduceBEq, reduceIte, Nat.reduceAdd]
  repeat' (first
    | (refine guardB_split_t (fun hb => ?_) (fun hb => ?_) <;> simp (maxSteps := 4000000) (implicitDefEqProofs := false) (disch := first | assumption | omega | (simp (implicitDefEqProofs := false) only [next_add, next_put, next_drop, next_bump, next_putS, next_dropS, List.length_set, List.length_append, List.length_cons, List.length_nil, List.length_take]; first | done | omega)) only [go_sem, Nat.reduceBEq, reduceIte, Nat.reduceAdd, *])
    | (refine guardB_split_f (fun hb => ?_) (fun hb => ?_) <;> simp (maxSteps := 4000000) (implicitDefEqProofs := false) (disch := first | assumption | omega | (simp (implicitDefEqProofs := false) only [next_add, next_put, next_drop, next_bump, next_putS, next_dropS, List.length_set, List.length_append, List.length_cons, List.length_nil, List.length_take]; first | done | omega)) only [go_sem, Nat.reduceBEq, reduceIte, Nat.reduceAdd, *])
    | (refine gSd_split (fun hb => ?_) (fun hb => ?_) <;> simp (maxSteps := 4000000) (implicitDefEqProofs := false) (disch := first | assumption | omega | (simp (implicitDefEqProofs := false) only [next_add, next_put, next_drop, next_bump, next_putS, next_dropS, List.length_set, List.length_append, List.length_cons, List.length_nil, List.length_take]; first | done | omega)) only [go_sem, Nat.reduceBEq, reduceIte, Nat.reduceAdd, gK_some, gK_none, *])
    | (refine condV_split (fun hb => ?_) (fun hb => ?_) <;> simp (maxSteps := 4000000) (implicitDefEqProofs := false) (disch := first | assumption | omega | (simp (implicitDefEqProofs := false) only [next_add, next_put, next_drop, next_bump, next_putS, next_dropS, List.length_set, List.length_append, List.length_cons, List.length_nil, List.length_take]; first | done | omega)) only [go_sem, Nat.reduceBEq, reduceIte, Nat.reduceAdd, *]))
  refine Index_any xs b i n c H hs _ (fun k hk hb H' => ?_) (fun hb H' => ?_)
  · simp (maxSteps := 4000000) (implicitDefEqProofs := false) (disch := first | assumption | omega | (simp (implicitDefEqProofs := false) only [next_add, next_put, next_drop, next_bump, next_putS, next_dropS, List.length_set, List.length_append, List.length_cons, List.length_nil, List.length_take]; first | done | omega)) only [go_sem, Nat.reduceBEq, reduceIte, Nat.reduceAdd, dec_lt_t, dec_lt_f, dec_le_t, dec_le_f, dec_gt_t, dec_gt_f, dec_ge_t, dec_ge_f, dec_eq_t, dec_eq_f, dec_ne_t, dec_ne_f]
    have e : anyBad xs = true := List.any_eq_true.2 ⟨nth xs k, nth_mem hk, hb⟩
    rw [e] at h; exact h _
  · simp (maxSteps := 4000000) (implicitDefEqProofs := false) (disch := first | assumption | omega | (simp (implicitDefEqProofs := false) only [next_add, next_put, next_drop, next_bump, next_putS, next_dropS, List.length_set, List.length_append, List.length_cons, List.length_nil, List.length_take]; first | done | omega)) only [go_sem, Nat.reduceBEq, reduceIte, Nat.reduceAdd, dec_lt_t, dec_lt_f, dec_le_t, dec_le_f, dec_gt_t, dec_gt_f, dec_ge_t, dec_ge_f, dec_eq_t, dec_eq_f, dec_ne_t, dec_ne_f]
    have e : anyBad xs = false := by
      refine List.any_eq_false.2 fun x hx => ?_
      obtain ⟨k, hk, rfl⟩ := List.getElem_of_mem hx
      have := hb k hk
      rw [nth_eq hk] at this
      simp [this]
    rw [e] at h; exact h _
set_option maxRecDepth 100000 in
theorem Contains_spec (xs : List Size) (b : Bool) (i n c : Nat) (H : AHeap) (hs : SlIs scells 2 H b i n xs) (K : Value → AHeap → Prop)
    (h : K (.bool (anyBad xs)) H) : RCalls Tryz.prog 27 [slV b i n c, .func (.func 28) [].toArray [].toArray] H K :=
  RCalls.pureRo (plain_of_any rfl) H (Contains_any xs b i n c H.ro hs.ro _ fun _ => rfl) K h

def wantsM (total : Int) (s : Size) : Int := if s.kind = 1 then s.n else if s.kind = 2 then max (total * s.n / 100) 1 else 1
set_option maxRecDepth 100000 in
theorem wants_any (total : Int) (s : Size) (h1 : 1 ≤ total) (h2 : total ≤ 200) (hs : okSize s = true) (H : AHeap) (K : Value → AHeap → Prop) (h : ∀ H', K (.int .i64 (wantsM total s)) H') : RCalls Tryz.prog 30 [.int .i64 total, sv s] H K := by
  rw [okSize_iff] at hs
  have hq : s.kind = 2 → 0 ≤ total * s.n ∧ total * s.n ≤ 20000 := by
    intro e
    have hn : 1 ≤ s.n ∧ s.n ≤ 100 := by omega
    exact ⟨Int.mul_nonneg (by omega) (by omega), by have := Int.mul_le_mul h2 hn.2 (by omega) (by omega); omega⟩
  refine rcalls_enter (P := Tryz.prog) (rs := [.tmp 4]) (by kernel_rfl) C13_sound Tryz.func30 rfl (by kernel_rfl) rfl rfl ?_
  simp (maxSteps := 4000000) (implicitDefEqProofs := false) (disch := first | assumption | omega | (simp (implicitDefEqProofs := false) only [next_add, next_put, next_drop, next_bump, next_putS, next_dropS, List.length_set, List.length_append, List.length_cons, List.length_nil, List.length_take]; first | done | omega)) only [go_sem, Nat.reduceBEq, reduceIte, Nat.reduceAdd, b_quo]
  repeat' (first
    | (refine guardB_split_t (fun hb => ?_) (fun hb => ?_) <;> simp (maxSteps := 4000000) (implicitDefEqProofs := false) (disch := first | assumption | omega | (simp (implicitDefEqProofs := false) only [next_add, next_put, next_drop, next_bump, next_putS, next_dropS, List.length_set, List.length_append, List.length_cons, List.length_nil, List.length_take]; first | done | omega)) only [go_sem, Nat.reduceBEq, reduceIte, Nat.reduceAdd, b_quo, *])
    | (refine guardB_split_f (fun hb => ?_) (fun hb => ?_) <;> simp (maxSteps := 4000000) (implicitDefEqProofs := false) (disch := first | assumption | omega | (simp (implicitDefEqProofs := false) only [next_add, next_put, next_drop, next_bump, next_putS, next_dropS, List.length_set, List.length_append, List.length_cons, List.length_nil, List.length_take]; first | done | omega)) only [go_sem, Nat.reduceBEq, reduceIte, Nat.reduceAdd, b_quo, *])
    | (refine gSd_split (fun hb => ?_) (fun hb => ?_) <;> simp (maxSteps := 4000000) (implicitDefEqProofs := false) (disch := first | assumption | omega | (simp (implicitDefEqProofs := false) only [next_add, next_put, next_drop, next_bump, next_putS, next_dropS, List.length_set, List.length_append, List.length_cons, List.length_nil, List.length_take]; first | done | omega)) only [go_sem, Nat.reduceBEq, reduceIte, Nat.reduceAdd, b_quo, gK_some, gK_none, *])
    | (refine condV_split (fun hb => ?_) (fun hb => ?_) <;> simp (maxSteps := 4000000) (implicitDefEqProofs := false) (disch := first | assumption | omega | (simp (implicitDefEqProofs := false) only [next_add, next_put, next_drop, next_bump, next_putS, next_dropS, List.length_set, List.length_append, List.length_cons, List.length_nil, List.length_take]; first | done | omega)) only [go_sem, Nat.reduceBEq, reduceIte, Nat.reduceAdd, b_quo, *]))
  all_goals simp only [beq_iff_eq, beq_eq_false_iff_ne] at *
  · simp_all [wantsM]
  · rename_i h0
    have q := hq hb
    have e1 : IntKind.i64.wrap (total * s.n) = total * s.n := wrap_in (by omega) (by omega)
    have e2 : (total * s.n).tdiv 100 = total * s.n / 100 := Int.tdiv_eq_ediv_of_nonneg q.1
    have e3 : IntKind.i64.wrap (total * s.n / 100) = total * s.n / 100 := wrap_in (by omega) (by omega)
    rw [e1, e2, e3]
    unfold wantsM at h
    rw [if_neg h0, if_pos hb] at h
    exact h _
  · simp_all [wantsM]
set_option maxRecDepth 100000 in
theorem wants_spec (total : Int) (s : Size) (h1 : 1 ≤ total) (h2 : total ≤ 200) (hs : okSize s = true) (H : AHeap) (K : Value → AHeap → Prop) (h : K (.int .i64 (wantsM total s)) H) : RCalls Tryz.prog 30 [.int .i64 total, sv s] H K :=
  RCalls.pureRo (plain_of_any rfl) H (wants_any total s h1 h2 hs H.ro _ fun _ => rfl) K h
theorem wantsM_bd {total : Int} {s : Size} (h1 : 1 ≤ total) (h2 : total ≤ 200) (hs : okSize s = true) : 1 ≤ wantsM total s ∧ wantsM total s ≤ 200 := by
  rw [okSize_iff] at hs
  unfold wantsM
  split
  · omega
  · split
    · rename_i e
      have hn : 1 ≤ s.n ∧ s.n ≤ 100 := by omega
      have q : total * s.n ≤ 20000 := by have := Int.mul_le_mul h2 hn.2 (by omega) (by omega); omega
      omega
    · omega

/- the plain law -/
def sumL (l : List Int) : Int := l.foldr (· + ·) 0
theorem sumL_nil : sumL [] = 0 := rfl
theorem sumL_cons (x : Int) (l : List Int) : sumL (x :: l) = x + sumL l := rfl
theorem sumL_append (a b : List Int) : sumL (a ++ b) = sumL a + sumL b := by
  induction a with
  | nil => simp [sumL_nil]
  | cons x a ih => rw [List.cons_append, sumL_cons, sumL_cons, ih]; omega
theorem sumL_set : ∀ (l : List Int) (k : Nat) (y : Int), k < l.length → sumL (l.set k y) = sumL l - nth l k + y
  | x :: l, 0, y, _ => by simp [sumL_cons, nth_cons_zero]; omega
  | x :: l, k + 1, y, h => by
    rw [List.set_cons_succ, sumL_cons, sumL_cons, sumL_set l k y (by simpa using h), nth_cons_succ]; omega
theorem sumL_bd {l : List Int} {a b : Int} (h : ∀ x ∈ l, a ≤ x ∧ x ≤ b) : l.length * a ≤ sumL l ∧ sumL l ≤ l.length * b := by
  induction l with
  | nil => simp [sumL_nil]
  | cons x l ih =>
    have h1 := ih fun y hy => h y (by simp [hy])
    have h2 := h x (by simp)
    rw [sumL_cons, List.length_cons]
    have e1 : ((l.length + 1 : Nat) : Int) * a = l.length * a + a := by rw [Int.natCast_add, Int.add_mul]; simp
    have e2 : ((l.length + 1 : Nat) : Int) * b = l.length * b + b := by rw [Int.natCast_add, Int.add_mul]; simp
    omega
/-- What is too much is taken from the last ones. -/
def backM : Nat → List Int → Int → List Int × Int
  | 0, out, left => (out, left)
  | k + 1, out, left => if left < 0 then backM k (out.set k (nth out k - min (nth out k - 1) (-left))) (left + min (nth out k - 1) (-left)) else (out, left)
/-- What is left is shared. -/
def spreadM (left : Int) (L : Nat) : Nat → List Nat → List Int → List Int
  | _, [], out => out
  | n, i :: is, out => spreadM left L (n + 1) is (out.set i (if (n : Int) < left % L then nth out i + left / L + 1 else nth out i + left / L))
def flexes (sizes : List Size) : List Nat := (List.range sizes.length).filter fun i => (nth sizes i).kind == 0
def lastM (out : List Int) (left : Int) : List Int := out.set (out.length - 1) (nth out (out.length - 1) + left)
def shareO (total : Int) (sizes : List Size) : List Int :=
  let b := backM sizes.length (sizes.map (wantsM total)) (total - sumL (sizes.map (wantsM total)))
  if flexes sizes = [] then lastM b.1 b.2 else spreadM b.2 (flexes sizes).length 0 (flexes sizes) b.1
/-- The error, 0 of none. -/
def shareE (total : Int) (sizes : List Size) : Int :=
  if sizes.length = 0 ∨ total > 200 ∨ anyBad sizes = true then 1 else if sizes.length > 16 then 3 else if total < sizes.length then 90 else 0

def outs (total : Int) (sizes : List Size) : List Int := sizes.map (wantsM total)
def flexTo (sizes : List Size) (k : Nat) : List Nat := (List.range k).filter fun i => (nth sizes i).kind == 0
def ni (n : Nat) : List Value := [.int .i64 (n : Int)]
theorem ni_z (x : Nat) : (ni x).length = 1 := rfl
theorem ni_agg {xs : List Nat} {r : List Value} {k : Nat} (h : k < xs.length) : takeE (xs.flatMap ni ++ r) (k * 1) 1 = some (ni (nth xs k)) := flat_take ni_z h
theorem ni_agg0 {xs : List Nat} {k : Nat} (h : k < xs.length) : takeE (xs.flatMap ni) (k * 1) 1 = some (ni (nth xs k)) := by have := ni_agg (r := []) h; rwa [List.append_nil] at this
theorem ni_cell {xs : List Nat} {r : List Value} {k j : Nat} (h : k < xs.length) (hj : j < 1) : (xs.flatMap ni ++ r)[k * 1 + j]? = (ni (nth xs k))[j]? := flat_cell ni_z h hj
theorem ni_cell0 {xs : List Nat} {r : List Value} {k : Nat} (h : k < xs.length) : (xs.flatMap ni ++ r)[k * 1]? = (ni (nth xs k))[0]? := flat_cell (j := 0) ni_z h (by decide)
theorem ni_cell1 {xs : List Nat} {k j : Nat} (h : k < xs.length) (hj : j < 1) : (xs.flatMap ni)[k * 1 + j]? = (ni (nth xs k))[j]? := by have := ni_cell (r := []) h hj; rwa [List.append_nil] at this
theorem ni_cell2 {xs : List Nat} {k : Nat} (h : k < xs.length) : (xs.flatMap ni)[k * 1]? = (ni (nth xs k))[0]? := by have := ni_cell0 (r := []) h; rwa [List.append_nil] at this
theorem ni_len {xs : List Nat} : (xs.flatMap ni).length = xs.length * 1 := flat_length ni_z xs
theorem ni_app {xs : List Nat} {x : Nat} : xs.flatMap ni ++ ni x = (xs ++ [x]).flatMap ni := by simp
attribute [go_sem] ni_agg ni_agg0 ni_cell ni_cell0 ni_cell1 ni_cell2 ni

theorem flexTo_succ (sizes : List Size) (k : Nat) : flexTo sizes (k + 1) = if (nth sizes k).kind == 0 then flexTo sizes k ++ [k] else flexTo sizes k := by
  unfold flexTo
  rw [List.range_succ, List.filter_append]
  by_cases h : ((nth sizes k).kind == 0) = true
  · simp [List.filter_cons, h]
  · simp [List.filter_cons, h]
theorem flexTo_len (sizes : List Size) (k : Nat) : (flexTo sizes k).length ≤ k := by
  have := List.length_filter_le (fun i => (nth sizes i).kind == 0) (List.range k)
  simpa [flexTo] using this
theorem flexTo_lt {sizes : List Size} {k i : Nat} (h : i ∈ flexTo sizes k) : i < k := by
  simp [flexTo] at h; exact h.1
theorem ic_store {l : List Int} {k : Nat} {y : Int} (h : k < l.length) : spliceE (l.flatMap ic) (k * 1) [.int .i64 y] = some ((l.set k y).flatMap ic) := by
  have := splice_flat (f := ic) (z := 1) (r := []) (xs := l) (k := k) (y := y) (fun _ => rfl) h
  simpa [ic] using this
theorem sumL_ones : ∀ (l : List Int), (∀ j, j < l.length → nth l j = 1) → sumL l = l.length
  | [], _ => rfl
  | x :: l, h => by
    have h0 := h 0 (by simp)
    have h1 := sumL_ones l fun j hj => by have := h (j + 1) (by simp; omega); rwa [nth_cons_succ] at this
    rw [nth_cons_zero] at h0
    rw [sumL_cons, h1, h0, List.length_cons]; omega
theorem nth_bd {l : List Int} {a b : Int} (h : ∀ x ∈ l, a ≤ x ∧ x ≤ b) {k : Nat} (hk : k < l.length) : a ≤ nth l k ∧ nth l k ≤ b := h _ (nth_mem hk)
theorem set_bd {l : List Int} {a b : Int} (h : ∀ x ∈ l, a ≤ x ∧ x ≤ b) {k : Nat} {y : Int} (hy : a ≤ y ∧ y ≤ b) : ∀ x ∈ l.set k y, a ≤ x ∧ x ≤ b := by
  intro x hx
  rcases List.mem_or_eq_of_mem_set hx with q | q
  · exact h x q
  · rw [q]; exact hy
structure S1 where
  k : Nat
  out : List Int
  left : Int
structure S2 where
  k : Nat
  out : List Int
set_option maxRecDepth 100000 in
set_option maxHeartbeats 1000000 in
theorem Share_eany (total : Int) (xs : List Size) (b : Bool) (i n c : Nat) (H : AHeap) (hs : SlIs scells 2 H b i n xs) (he : shareE total xs ≠ 0) (K : Value → AHeap → Prop)
    (h : ∀ H', K (.tuple [.slice none 0 0, .int .i64 (shareE total xs)].toArray) H') :
    RCalls Tryz.prog 10 [.int .i64 total, slV b i n c] H K := by
  have hs' := hs
  obtain ⟨hb, rfl, hlt, hobj, hbnd, -⟩ := hs
  unfold shareE at he h
  refine rcalls_enter (P := Tryz.prog) (rs := [.tmp 4, .tmp 5]) (by kernel_rfl) C13_sound Tryz.func10 rfl (by kernel_rfl) rfl rfl ?_
  by_cases hl0 : xs.length = 0
  · rw [if_pos (.inl hl0)] at h
    simp (maxSteps := 4000000) (implicitDefEqProofs := false) (disch := first | assumption | omega | (simp (implicitDefEqProofs := false) only [next_add, next_put, next_drop, next_bump, next_putS, next_dropS, List.length_set, List.length_append, List.length_cons, List.length_nil, List.length_take]; first | done | omega)) only [go_sem, Nat.reduceBEq, reduceIte, Nat.reduceAdd, hl0, cast_zero, dec_lt_t, dec_lt_f, dec_le_t, dec_le_f, dec_gt_t, dec_gt_f, dec_ge_t, dec_ge_f, dec_eq_t, dec_eq_f, dec_ne_t, dec_ne_f]
    exact h _
  by_cases ht : total > 200
  · rw [if_pos (.inr (.inl ht))] at h
    simp (maxSteps := 4000000) (implicitDefEqProofs := false) (disch := first | assumption | omega | (simp (implicitDefEqProofs := false) only [next_add, next_put, next_drop, next_bump, next_putS, next_dropS, List.length_set, List.length_append, List.length_cons, List.length_nil, List.length_take]; first | done | omega)) only [go_sem, Nat.reduceBEq, reduceIte, Nat.reduceAdd, dec_lt_t, dec_lt_f, dec_le_t, dec_le_f, dec_gt_t, dec_gt_f, dec_ge_t, dec_ge_f, dec_eq_t, dec_eq_f, dec_ne_t, dec_ne_f]
    exact h _
  simp (maxSteps := 4000000) (implicitDefEqProofs := false) (disch := first | assumption | omega | (simp (implicitDefEqProofs := false) only [next_add, next_put, next_drop, next_bump, next_putS, next_dropS, List.length_set, List.length_append, List.length_cons, List.length_nil, List.length_take]; first | done | omega)) only [go_sem, Nat.reduceBEq, reduceIte, Nat.reduceAdd, dec_lt_t, dec_lt_f, dec_le_t, dec_le_f, dec_gt_t, dec_gt_f, dec_ge_t, dec_ge_f, dec_eq_t, dec_eq_f, dec_ne_t, dec_ne_f]
  refine Contains_spec xs b i _ c H hs' _ ?_
  by_cases hbad : anyBad xs = true
  · rw [if_pos (.inr (.inr hbad))] at h
    simp (maxSteps := 4000000) (implicitDefEqProofs := false) (disch := first | assumption | omega | (simp (implicitDefEqProofs := false) only [next_add, next_put, next_drop, next_bump, next_putS, next_dropS, List.length_set, List.length_append, List.length_cons, List.length_nil, List.length_take]; first | done | omega)) only [go_sem, Nat.reduceBEq, reduceIte, Nat.reduceAdd, hbad, dec_lt_t, dec_lt_f, dec_le_t, dec_le_f, dec_gt_t, dec_gt_f, dec_ge_t, dec_ge_f, dec_eq_t, dec_eq_f, dec_ne_t, dec_ne_f]
    exact h _
  have ebad : anyBad xs = false := by simpa using hbad
  rw [if_neg (by simp [hl0, ht, ebad])] at he h
  by_cases h16 : xs.length > 16
  · rw [if_pos h16] at h
    simp (maxSteps := 4000000) (implicitDefEqProofs := false) (disch := first | assumption | omega | (simp (implicitDefEqProofs := false) only [next_add, next_put, next_drop, next_bump, next_putS, next_dropS, List.length_set, List.length_append, List.length_cons, List.length_nil, List.length_take]; first | done | omega)) only [go_sem, Nat.reduceBEq, reduceIte, Nat.reduceAdd, ebad, dec_lt_t, dec_lt_f, dec_le_t, dec_le_f, dec_gt_t, dec_gt_f, dec_ge_t, dec_ge_f, dec_eq_t, dec_eq_f, dec_ne_t, dec_ne_f]
    exact h _
  rw [if_neg h16] at he h
  by_cases hr : total < xs.length
  · rw [if_pos hr] at h
    simp (maxSteps := 4000000) (implicitDefEqProofs := false) (disch := first | assumption | omega | (simp (implicitDefEqProofs := false) only [next_add, next_put, next_drop, next_bump, next_putS, next_dropS, List.length_set, List.length_append, List.length_cons, List.length_nil, List.length_take]; first | done | omega)) only [go_sem, Nat.reduceBEq, reduceIte, Nat.reduceAdd, ebad, dec_lt_t, dec_lt_f, dec_le_t, dec_le_f, dec_gt_t, dec_gt_f, dec_ge_t, dec_ge_f, dec_eq_t, dec_eq_f, dec_ne_t, dec_ne_f]
    exact h _
  · rw [if_neg hr] at he; exact absurd rfl he
set_option maxRecDepth 100000 in
theorem Share_err (total : Int) (xs : List Size) (b : Bool) (i n c : Nat) (H : AHeap) (hs : SlIs scells 2 H b i n xs) (he : shareE total xs ≠ 0) (K : Value → AHeap → Prop)
    (h : K (.tuple [.slice none 0 0, .int .i64 (shareE total xs)].toArray) H) :
    RCalls Tryz.prog 10 [.int .i64 total, slV b i n c] H K :=
  RCalls.pureRo (plain_of_any rfl) H (Share_eany total xs b i n c H.ro hs.ro he _ fun _ => rfl) K h
/-- The first loop's state. -/
structure S0 where
  k : Nat
  i : Nat
  j : Nat
  n : Nat
set_option maxRecDepth 100000 in
set_option maxHeartbeats 1000000 in
theorem Share_ok (total : Int) (xs : List Size) (b : Bool) (i n c : Nat) (H : AHeap) (hs : SlIs scells 2 H b i n xs) (he : shareE total xs = 0) (K : Value → AHeap → Prop)
    (h : ∀ j m, H.next ≤ j → j < m → K (.tuple [apS j xs.length, .int .i64 0].toArray) ((H.put j (.cells ((shareO total xs).flatMap ic) 1 true)).bump m)) :
    RCalls Tryz.prog 10 [.int .i64 total, slV b i n c] H K := by
  refine RCalls.wf fun hwf => RCalls.forget ?_
  have hs' := hs
  obtain ⟨hb, rfl, hlt, hobj, hbnd, -⟩ := hs
  unfold shareE at he
  have hE : ¬(xs.length = 0 ∨ total > 200 ∨ anyBad xs = true) ∧ ¬ xs.length > 16 ∧ ¬ total < xs.length := by
    split at he
    · cases he
    · rename_i q1
      split at he
      · cases he
      · rename_i q2
        split at he
        · cases he
        · rename_i q3; exact ⟨q1, q2, q3⟩
  clear he
  simp only [not_or] at hE
  obtain ⟨⟨hl0, ht, hbad⟩, hl16, hroom⟩ := hE
  have hok : ∀ k, k < xs.length → okSize (nth xs k) = true := by
    intro k hk
    have : bad (nth xs k) = false := by
      have := List.any_eq_false.1 (by simpa [anyBad] using hbad : xs.any bad = false) (nth xs k) (nth_mem hk)
      simpa using this
    rw [bad_eq] at this; simpa using this
  refine rcalls_enter (P := Tryz.prog) (rs := [.tmp 4, .tmp 5]) (by kernel_rfl) C13_sound Tryz.func10 rfl (by kernel_rfl) rfl rfl ?_
  simp (maxSteps := 4000000) (implicitDefEqProofs := false) (disch := first | assumption | omega | (simp (implicitDefEqProofs := false) only [next_add, next_put, next_drop, next_bump, next_putS, next_dropS, List.length_set, List.length_append, List.length_cons, List.length_nil, List.length_take]; first | done | omega)) only [go_sem, Nat.reduceBEq, reduceIte, Nat.reduceAdd, dec_lt_t, dec_lt_f, dec_le_t, dec_le_f, dec_gt_t, dec_gt_f, dec_ge_t, dec_ge_f, dec_eq_t, dec_eq_f, dec_ne_t, dec_ne_f]
  refine Contains_spec xs b i _ c H hs' _ ?_
  have ebad : anyBad xs = false := by simpa using hbad
  simp (maxSteps := 4000000) (implicitDefEqProofs := false) (disch := first | assumption | omega | (simp (implicitDefEqProofs := false) only [next_add, next_put, next_drop, next_bump, next_putS, next_dropS, List.length_set, List.length_append, List.length_cons, List.length_nil, List.length_take]; first | done | omega)) only [go_sem, Nat.reduceBEq, reduceIte, Nat.reduceAdd, ebad, dec_lt_t, dec_lt_f, dec_le_t, dec_le_f, dec_gt_t, dec_gt_f, dec_ge_t, dec_ge_f, dec_eq_t, dec_eq_f, dec_ne_t, dec_ne_f]
  have hol : (outs total xs).length = xs.length := by simp [outs]
  have hon : ∀ k, k < xs.length → nth (outs total xs) k = wantsM total (nth xs k) := fun k hk => nth_map hk
  have hob : ∀ x ∈ outs total xs, 1 ≤ x ∧ x ≤ 200 := by
    intro x hx
    obtain ⟨y, hy, rfl⟩ := List.mem_map.1 hx
    obtain ⟨k, hk, rfl⟩ := List.getElem_of_mem hy
    have := hok k hk
    rw [nth_eq hk] at this
    exact wantsM_bd (by omega) (by omega) this
  have hsb : ∀ k, 0 ≤ sumL ((outs total xs).take k) ∧ sumL ((outs total xs).take k) ≤ 3200 := by
    intro k
    have := sumL_bd (l := (outs total xs).take k) fun x hx => hob x (List.mem_of_mem_take hx)
    have hlk : ((outs total xs).take k).length ≤ 16 := by rw [List.length_take]; omega
    omega
  refine loop_st (σ := S0) C13_mono [6, 7, 8, 9, 10, 39, 40, 41, 42, 43, 44, 45, 46, 47, 48, 49, 50, 51, 52, 53, 54, 55, 56, 57, 58, 59, 60, 61, 62, 63] (fun s => [(6, apS s.i s.k), (7, apS s.j (flexTo xs s.k).length), (8, .int .i64 (total - sumL ((outs total xs).take s.k))), (39, .int .i64 (s.k : Int))])
    (fun s => ((H.putS s.i s.k (.cells (((outs total xs).take s.k).flatMap ic) 1 true)).putS s.j (flexTo xs s.k).length (.cells ((flexTo xs s.k).flatMap ni) 1 true)).bump s.n)
    (fun s => s.k ≤ xs.length ∧ H.next ≤ s.i ∧ H.next ≤ s.j ∧ s.i ≠ s.j ∧ s.i < s.n ∧ s.j < s.n) (fun s => xs.length - s.k) ⟨0, H.next, H.next + 1, H.next + 2⟩ (by kernel_rfl) ⟨by simp, by simp, by simp, by simp, by simp, by simp⟩ ?_ ?_ ?_
  · simp (maxSteps := 4000000) (implicitDefEqProofs := false) (disch := first | assumption | omega | (simp (implicitDefEqProofs := false) only [next_add, next_put, next_drop, next_bump, next_putS, next_dropS, List.length_set, List.length_append, List.length_cons, List.length_nil, List.length_take]; first | done | omega)) only [go_sem, Nat.reduceBEq, reduceIte, Nat.reduceAdd, envHas_cons, envHas_nil, cast_succ, cast_zero]
    simp [flexTo, apS_zero, sumL_nil]
  · dsimp only
    rw [show flexTo xs 0 = [] from rfl, List.length_nil]
    ((with_reducible first | refine lex_bump ?_ ?_ | refine lex_sub ?_ ?_); all_goals repeat' (first | (with_reducible exact SubX.refl _ _) | (with_reducible refine SubX.of ?_; assumption) | (with_reducible apply subx_bump) | (with_reducible apply subx_bumpA) | (with_reducible apply subx_putS) | (with_reducible apply subx_put) | (with_reducible apply subx_addA) | (with_reducible apply subx_dropA) | (with_reducible apply subx_add hwf) | (with_reducible apply subx_bput hwf) | (with_reducible apply subx_bputS hwf) | (with_reducible apply subx_drop hwf) | (with_reducible apply subx_dropS hwf) | omega | (simp (implicitDefEqProofs := false) only [next_add, next_put, next_drop, next_bump, next_putS, next_dropS]; omega) | (left; simp; done) | (right; left; omega) | (right; right; assumption) | (right; left; simp (implicitDefEqProofs := false) only [next_add, next_put, next_drop, next_bump, next_putS, next_dropS]; omega) | (intro h0; omega) | (intro h0; simp (maxSteps := 4000000) (implicitDefEqProofs := false) (disch := first | assumption | omega | (simp (implicitDefEqProofs := false) only [next_add, next_put, next_drop, next_bump, next_putS, next_dropS, List.length_set, List.length_append, List.length_cons, List.length_nil, List.length_take]; first | done | omega)) only [go_sem, Nat.reduceBEq, reduceIte, Nat.reduceAdd]; done) | (simp (maxSteps := 4000000) (implicitDefEqProofs := false) (disch := first | assumption | omega | (simp (implicitDefEqProofs := false) only [next_add, next_put, next_drop, next_bump, next_putS, next_dropS, List.length_set, List.length_append, List.length_cons, List.length_nil, List.length_take]; first | done | omega)) only [go_sem, Nat.reduceBEq, reduceIte, Nat.reduceAdd]; done)))
  rintro ⟨k, i1, j1, m⟩ u ⟨hk, q1, q2, q3, q4, q5⟩ ⟨e6, e7, e8, e39, -⟩
  dsimp only at *
  by_cases hlt2 : k < xs.length
  · obtain ⟨r, w, ho⟩ := hobj (by omega)
    have hlt' := hlt (by omega)
    have sb1 := hsb k
    have sb2 := hsb (k + 1)
    have htake : (outs total xs).take (k + 1) = (outs total xs).take k ++ [wantsM total (nth xs k)] := by rw [take_succ_nth (by omega), hon k hlt2]
    have hsum : sumL ((outs total xs).take (k + 1)) = sumL ((outs total xs).take k) + wantsM total (nth xs k) := by rw [htake, sumL_append]; simp [sumL_cons, sumL_nil]
    have happ : ((outs total xs).take k).flatMap ic ++ [.int .i64 (wantsM total (nth xs k))] = ((outs total xs).take (k + 1)).flatMap ic := by rw [htake]; simp [ic]
    have hkl : ((outs total xs).take k).length = k := by rw [List.length_take]; omega
    have hk1 : k < ((outs total xs).take (k + 1)).length := by rw [List.length_take]; omega
    have hnk : nth ((outs total xs).take (k + 1)) k = wantsM total (nth xs k) := by
      have := nth_snoc (xs := (outs total xs).take k) (y := wantsM total (nth xs k))
      rw [hkl] at this; rw [htake]; exact this
    have hcl : (((outs total xs).take k).flatMap ic).length = k * 1 := by rw [ic_len, hkl]
    have hfl := flexTo_len xs k
    simp (maxSteps := 4000000) (implicitDefEqProofs := false) (disch := first | assumption | omega | (simp (implicitDefEqProofs := false) only [next_add, next_put, next_drop, next_bump, next_putS, next_dropS, List.length_set, List.length_append, List.length_cons, List.length_nil, List.length_take]; first | done | omega)) only [go_sem, Nat.reduceBEq, reduceIte, Nat.reduceAdd, e6, e7, e8, e39, ho, dec_lt_t, dec_lt_f, dec_le_t, dec_le_f, dec_gt_t, dec_gt_f, dec_ge_t, dec_ge_f, dec_eq_t, dec_eq_f, dec_ne_t, dec_ne_f]
    refine wants_spec total (nth xs k) (by omega) (by omega) (hok k hlt2) _ _ ?_
    simp (maxSteps := 4000000) (implicitDefEqProofs := false) (disch := first | assumption | omega | (simp (implicitDefEqProofs := false) only [next_add, next_put, next_drop, next_bump, next_putS, next_dropS, List.length_set, List.length_append, List.length_cons, List.length_nil, List.length_take]; first | done | omega)) only [go_sem, Nat.reduceBEq, reduceIte, Nat.reduceAdd, e6, e7, e8, e39, ho, dec_lt_t, dec_lt_f, dec_le_t, dec_le_f, dec_gt_t, dec_gt_f, dec_ge_t, dec_ge_f, dec_eq_t, dec_eq_f, dec_ne_t, dec_ne_f]
    refine stepVH_go (aw37 (k := 1) (w := true) (new := [.int .i64 (wantsM total (nth xs k))]) (by decide) (fun h0 => ?_) hcl ?_ rfl rfl (by omega) (by omega)) ?_
    · simp (maxSteps := 4000000) (implicitDefEqProofs := false) (disch := first | assumption | omega | (simp (implicitDefEqProofs := false) only [next_add, next_put, next_drop, next_bump, next_putS, next_dropS, List.length_set, List.length_append, List.length_cons, List.length_nil, List.length_take]; first | done | omega)) only [go_sem, Nat.reduceBEq, reduceIte, Nat.reduceAdd]
    · simp (maxSteps := 4000000) (implicitDefEqProofs := false) (disch := first | assumption | omega | (simp (implicitDefEqProofs := false) only [next_add, next_put, next_drop, next_bump, next_putS, next_dropS, List.length_set, List.length_append, List.length_cons, List.length_nil, List.length_take]; first | done | omega)) only [go_sem, Nat.reduceBEq, reduceIte, Nat.reduceAdd]
    simp (maxSteps := 4000000) (implicitDefEqProofs := false) (disch := first | assumption | omega | (simp (implicitDefEqProofs := false) only [next_add, next_put, next_drop, next_bump, next_putS, next_dropS, List.length_set, List.length_append, List.length_cons, List.length_nil, List.length_take]; first | done | omega)) only [go_sem, Nat.reduceBEq, reduceIte, Nat.reduceAdd, e6, e7, e8, e39, ho, happ, hnk, dec_lt_t, dec_lt_f, dec_le_t, dec_le_f, dec_gt_t, dec_gt_f, dec_ge_t, dec_ge_f, dec_eq_t, dec_eq_f, dec_ne_t, dec_ne_f]
    refine condV_split (fun hb => ?_) (fun hb => ?_)
    · simp (maxSteps := 4000000) (implicitDefEqProofs := false) (disch := first | assumption | omega | (simp (implicitDefEqProofs := false) only [next_add, next_put, next_drop, next_bump, next_putS, next_dropS, List.length_set, List.length_append, List.length_cons, List.length_nil, List.length_take]; first | done | omega)) only [go_sem, Nat.reduceBEq, reduceIte, Nat.reduceAdd, e6, e7, e8, e39, ho, happ, hnk, dec_lt_t, dec_lt_f, dec_le_t, dec_le_f, dec_gt_t, dec_gt_f, dec_ge_t, dec_ge_f, dec_eq_t, dec_eq_f, dec_ne_t, dec_ne_f]
      refine stepVH_go (aw37 (k := 1) (w := true) (new := [.int .i64 (k : Int)]) (cs := (flexTo xs k).flatMap ni) (by decide) (fun h0 => ?_) (by rw [ni_len]) ?_ rfl rfl (by omega) (by omega)) ?_
      · simp (maxSteps := 4000000) (implicitDefEqProofs := false) (disch := first | assumption | omega | (simp (implicitDefEqProofs := false) only [next_add, next_put, next_drop, next_bump, next_putS, next_dropS, List.length_set, List.length_append, List.length_cons, List.length_nil, List.length_take]; first | done | omega)) only [go_sem, Nat.reduceBEq, reduceIte, Nat.reduceAdd]
      · simp (maxSteps := 4000000) (implicitDefEqProofs := false) (disch := first | assumption | omega | (simp (implicitDefEqProofs := false) only [next_add, next_put, next_drop, next_bump, next_putS, next_dropS, List.length_set, List.length_append, List.length_cons, List.length_nil, List.length_take]; first | done | omega)) only [go_sem, Nat.reduceBEq, reduceIte, Nat.reduceAdd]
      simp (maxSteps := 4000000) (implicitDefEqProofs := false) (disch := first | assumption | omega | (simp (implicitDefEqProofs := false) only [next_add, next_put, next_drop, next_bump, next_putS, next_dropS, List.length_set, List.length_append, List.length_cons, List.length_nil, List.length_take]; first | done | omega)) only [go_sem, Nat.reduceBEq, reduceIte, Nat.reduceAdd, e6, e7, e8, e39, ho, happ, hnk, dec_lt_t, dec_lt_f, dec_le_t, dec_le_f, dec_gt_t, dec_gt_f, dec_ge_t, dec_ge_f, dec_eq_t, dec_eq_f, dec_ne_t, dec_ne_f]
      have hft : flexTo xs (k + 1) = flexTo xs k ++ [k] := by rw [flexTo_succ, if_pos hb]
      refine ⟨⟨k + 1, m + 2, m + 4, m + 5⟩, ⟨by dsimp only; omega, by dsimp only; omega, by dsimp only; omega, by dsimp only; omega, by dsimp only; omega, by dsimp only; omega⟩, ?_, ?_, by dsimp only; omega⟩
      · simp (maxSteps := 4000000) (implicitDefEqProofs := false) (disch := first | assumption | omega | (simp (implicitDefEqProofs := false) only [next_add, next_put, next_drop, next_bump, next_putS, next_dropS, List.length_set, List.length_append, List.length_cons, List.length_nil, List.length_take]; first | done | omega)) only [go_sem, Nat.reduceBEq, reduceIte, Nat.reduceAdd, envHas_cons, envHas_nil, cast_succ, cast_zero]
        simp [hft, hsum]
        omega
      · rw [hft]
        have e1 : (flexTo xs k ++ [k]).flatMap ni = (flexTo xs k).flatMap ni ++ [.int .i64 (k : Int)] := by simp [ni]
        have e2 : (flexTo xs k ++ [k]).length = (flexTo xs k).length + 1 := by simp
        rw [e1, e2]
        dsimp only
        ((with_reducible first | refine lex_bump ?_ ?_ | refine lex_sub ?_ ?_); all_goals repeat' (first | (with_reducible exact SubX.refl _ _) | (with_reducible refine SubX.of ?_; assumption) | (with_reducible apply subx_bump) | (with_reducible apply subx_bumpA) | (with_reducible apply subx_putS) | (with_reducible apply subx_put) | (with_reducible apply subx_addA) | (with_reducible apply subx_dropA) | (with_reducible apply subx_add hwf) | (with_reducible apply subx_bput hwf) | (with_reducible apply subx_bputS hwf) | (with_reducible apply subx_drop hwf) | (with_reducible apply subx_dropS hwf) | omega | (simp (implicitDefEqProofs := false) only [next_add, next_put, next_drop, next_bump, next_putS, next_dropS]; omega) | (left; simp; done) | (right; left; omega) | (right; right; assumption) | (right; left; simp (implicitDefEqProofs := false) only [next_add, next_put, next_drop, next_bump, next_putS, next_dropS]; omega) | (intro h0; omega) | (intro h0; simp (maxSteps := 4000000) (implicitDefEqProofs := false) (disch := first | assumption | omega | (simp (implicitDefEqProofs := false) only [next_add, next_put, next_drop, next_bump, next_putS, next_dropS, List.length_set, List.length_append, List.length_cons, List.length_nil, List.length_take]; first | done | omega)) only [go_sem, Nat.reduceBEq, reduceIte, Nat.reduceAdd]; done) | (simp (maxSteps := 4000000) (implicitDefEqProofs := false) (disch := first | assumption | omega | (simp (implicitDefEqProofs := false) only [next_add, next_put, next_drop, next_bump, next_putS, next_dropS, List.length_set, List.length_append, List.length_cons, List.length_nil, List.length_take]; first | done | omega)) only [go_sem, Nat.reduceBEq, reduceIte, Nat.reduceAdd]; done)))
    · simp (maxSteps := 4000000) (implicitDefEqProofs := false) (disch := first | assumption | omega | (simp (implicitDefEqProofs := false) only [next_add, next_put, next_drop, next_bump, next_putS, next_dropS, List.length_set, List.length_append, List.length_cons, List.length_nil, List.length_take]; first | done | omega)) only [go_sem, Nat.reduceBEq, reduceIte, Nat.reduceAdd, e6, e7, e8, e39, ho, happ, hnk, dec_lt_t, dec_lt_f, dec_le_t, dec_le_f, dec_gt_t, dec_gt_f, dec_ge_t, dec_ge_f, dec_eq_t, dec_eq_f, dec_ne_t, dec_ne_f]
      have hft : flexTo xs (k + 1) = flexTo xs k := by rw [flexTo_succ, if_neg (by simpa using hb)]
      refine ⟨⟨k + 1, m + 2, j1, m + 3⟩, ⟨by dsimp only; omega, by dsimp only; omega, by dsimp only; omega, by dsimp only; omega, by dsimp only; omega, by dsimp only; omega⟩, ?_, ?_, by dsimp only; omega⟩
      · simp (maxSteps := 4000000) (implicitDefEqProofs := false) (disch := first | assumption | omega | (simp (implicitDefEqProofs := false) only [next_add, next_put, next_drop, next_bump, next_putS, next_dropS, List.length_set, List.length_append, List.length_cons, List.length_nil, List.length_take]; first | done | omega)) only [go_sem, Nat.reduceBEq, reduceIte, Nat.reduceAdd, envHas_cons, envHas_nil, cast_succ, cast_zero]
        rw [hft]
        refine ⟨e7, ?_⟩
        rw [hsum]
        congr 1
        omega
      · rw [hft]
        dsimp only
        ((with_reducible first | refine lex_bump ?_ ?_ | refine lex_sub ?_ ?_); all_goals repeat' (first | (with_reducible exact SubX.refl _ _) | (with_reducible refine SubX.of ?_; assumption) | (with_reducible apply subx_bump) | (with_reducible apply subx_bumpA) | (with_reducible apply subx_putS) | (with_reducible apply subx_put) | (with_reducible apply subx_addA) | (with_reducible apply subx_dropA) | (with_reducible apply subx_add hwf) | (with_reducible apply subx_bput hwf) | (with_reducible apply subx_bputS hwf) | (with_reducible apply subx_drop hwf) | (with_reducible apply subx_dropS hwf) | omega | (simp (implicitDefEqProofs := false) only [next_add, next_put, next_drop, next_bump, next_putS, next_dropS]; omega) | (left; simp; done) | (right; left; omega) | (right; right; assumption) | (right; left; simp (implicitDefEqProofs := false) only [next_add, next_put, next_drop, next_bump, next_putS, next_dropS]; omega) | (intro h0; omega) | (intro h0; simp (maxSteps := 4000000) (implicitDefEqProofs := false) (disch := first | assumption | omega | (simp (implicitDefEqProofs := false) only [next_add, next_put, next_drop, next_bump, next_putS, next_dropS, List.length_set, List.length_append, List.length_cons, List.length_nil, List.length_take]; first | done | omega)) only [go_sem, Nat.reduceBEq, reduceIte, Nat.reduceAdd]; done) | (simp (maxSteps := 4000000) (implicitDefEqProofs := false) (disch := first | assumption | omega | (simp (implicitDefEqProofs := false) only [next_add, next_put, next_drop, next_bump, next_putS, next_dropS, List.length_set, List.length_append, List.length_cons, List.length_nil, List.length_take]; first | done | omega)) only [go_sem, Nat.reduceBEq, reduceIte, Nat.reduceAdd]; done)))
  obtain rfl : k = xs.length := by omega
  have htk : (outs total xs).take xs.length = outs total xs := List.take_of_length_le (by omega)
  have hsl := hsb xs.length
  rw [htk] at e8 hsl ⊢
  have hfl := flexTo_len xs xs.length
  simp (maxSteps := 4000000) (implicitDefEqProofs := false) (disch := first | assumption | omega | (simp (implicitDefEqProofs := false) only [next_add, next_put, next_drop, next_bump, next_putS, next_dropS, List.length_set, List.length_append, List.length_cons, List.length_nil, List.length_take]; first | done | omega)) only [go_sem, Nat.reduceBEq, reduceIte, Nat.reduceAdd, e6, e7, e8, e39, dec_lt_t, dec_lt_f, dec_le_t, dec_le_f, dec_gt_t, dec_gt_f, dec_ge_t, dec_ge_f, dec_eq_t, dec_eq_f, dec_ne_t, dec_ne_f]
  refine loop_st (σ := S1) C13_mono [8, 11, 12, 67, 68, 69, 70, 71, 72, 73, 74, 75, 76, 77, 78, 79, 80, 81, 82, 83, 84, 85, 86, 87, 88] (fun s => [(8, .int .i64 s.left), (11, .int .i64 ((s.k : Int) - 1))])
    (fun s => ((H.put i1 (.cells (s.out.flatMap ic) 1 true)).putS j1 (flexTo xs xs.length).length (.cells ((flexTo xs xs.length).flatMap ni) 1 true)).bump m)
    (fun s => s.k ≤ xs.length ∧ s.out.length = xs.length ∧ (∀ x ∈ s.out, 1 ≤ x ∧ x ≤ 200) ∧ sumL s.out + s.left = total ∧ (s.left < 0 → ∀ j, s.k ≤ j → j < xs.length → nth s.out j = 1) ∧ backM s.k s.out s.left = backM xs.length (outs total xs) (total - sumL (outs total xs)) ∧ -3200 ≤ s.left ∧ s.left ≤ 200)
    (fun s => s.k) ⟨xs.length, outs total xs, total - sumL (outs total xs)⟩ (by kernel_rfl) ⟨by simp, by simpa using hol, hob, by dsimp only; omega, by intro _ j hj hj2; dsimp only at hj; omega, rfl, by dsimp only; omega, by dsimp only; omega⟩ ?_ ?_ ?_
  · simp (maxSteps := 4000000) (implicitDefEqProofs := false) (disch := first | assumption | omega | (simp (implicitDefEqProofs := false) only [next_add, next_put, next_drop, next_bump, next_putS, next_dropS, List.length_set, List.length_append, List.length_cons, List.length_nil, List.length_take]; first | done | omega)) only [go_sem, Nat.reduceBEq, reduceIte, Nat.reduceAdd, e8, envHas_cons, envHas_nil, cast_succ, cast_zero]
  · dsimp only
    ((with_reducible first | refine lex_bump ?_ ?_ | refine lex_sub ?_ ?_); all_goals repeat' (first | (with_reducible exact SubX.refl _ _) | (with_reducible refine SubX.of ?_; assumption) | (with_reducible apply subx_bump) | (with_reducible apply subx_bumpA) | (with_reducible apply subx_putS) | (with_reducible apply subx_put) | (with_reducible apply subx_addA) | (with_reducible apply subx_dropA) | (with_reducible apply subx_add hwf) | (with_reducible apply subx_bput hwf) | (with_reducible apply subx_bputS hwf) | (with_reducible apply subx_drop hwf) | (with_reducible apply subx_dropS hwf) | omega | (simp (implicitDefEqProofs := false) only [next_add, next_put, next_drop, next_bump, next_putS, next_dropS]; omega) | (left; simp; done) | (right; left; omega) | (right; right; assumption) | (right; left; simp (implicitDefEqProofs := false) only [next_add, next_put, next_drop, next_bump, next_putS, next_dropS]; omega) | (intro h0; omega) | (intro h0; simp (maxSteps := 4000000) (implicitDefEqProofs := false) (disch := first | assumption | omega | (simp (implicitDefEqProofs := false) only [next_add, next_put, next_drop, next_bump, next_putS, next_dropS, List.length_set, List.length_append, List.length_cons, List.length_nil, List.length_take]; first | done | omega)) only [go_sem, Nat.reduceBEq, reduceIte, Nat.reduceAdd]; done) | (simp (maxSteps := 4000000) (implicitDefEqProofs := false) (disch := first | assumption | omega | (simp (implicitDefEqProofs := false) only [next_add, next_put, next_drop, next_bump, next_putS, next_dropS, List.length_set, List.length_append, List.length_cons, List.length_nil, List.length_take]; first | done | omega)) only [go_sem, Nat.reduceBEq, reduceIte, Nat.reduceAdd]; done)))
  rintro ⟨k, out, left⟩ v ⟨hk2, p1, p2, p3, p4, p5, p6, p7⟩ ⟨f8, f11, -⟩
  dsimp only at *
  have hsum := sumL_bd p2
  by_cases hneg : left < 0
  · have hkp : 0 < k := by
      apply Classical.byContradiction
      intro h0
      have := sumL_ones out fun j hj => p4 hneg j (by omega) (by omega)
      omega
    obtain ⟨k, rfl⟩ : ∃ k', k = k' + 1 := ⟨k - 1, by omega⟩
    have hik : (((k + 1 : Nat) : Int) - 1).toNat = k := by omega
    have hkc : ((k + 1 : Nat) : Int) - 1 = (k : Int) := by omega
    have hkl : k < out.length := by omega
    have hbk := nth_bd p2 hkl
    simp (maxSteps := 4000000) (implicitDefEqProofs := false) (disch := first | assumption | omega | (simp (implicitDefEqProofs := false) only [next_add, next_put, next_drop, next_bump, next_putS, next_dropS, List.length_set, List.length_append, List.length_cons, List.length_nil, List.length_take]; first | done | omega)) only [go_sem, Nat.reduceBEq, reduceIte, Nat.reduceAdd, e6, e7, f8, f11, hkc, ic_store, dec_lt_t, dec_lt_f, dec_le_t, dec_le_f, dec_gt_t, dec_gt_f, dec_ge_t, dec_ge_f, dec_eq_t, dec_eq_f, dec_ne_t, dec_ne_f]
    have hls : (out.set k (nth out k - min (nth out k - 1) (-left))).length = xs.length := by rw [List.length_set]; exact p1
    refine ⟨⟨k, out.set k (nth out k - min (nth out k - 1) (-left)), left + min (nth out k - 1) (-left)⟩, ⟨by dsimp only; omega, hls, ?_, ?_, ?_, ?_, by dsimp only; omega, by dsimp only; omega⟩, ?_, ?_, by dsimp only; omega⟩
    · exact set_bd p2 (by omega)
    · dsimp only; rw [sumL_set _ _ _ hkl]; omega
    · dsimp only
      intro hn j hj hj2
      rw [nth_set hkl]
      split
      · omega
      · exact p4 hneg j (by omega) hj2
    · dsimp only
      rw [← p5, backM, if_pos hneg]
    · simp (maxSteps := 4000000) (implicitDefEqProofs := false) (disch := first | assumption | omega | (simp (implicitDefEqProofs := false) only [next_add, next_put, next_drop, next_bump, next_putS, next_dropS, List.length_set, List.length_append, List.length_cons, List.length_nil, List.length_take]; first | done | omega)) only [go_sem, Nat.reduceBEq, reduceIte, Nat.reduceAdd, e6, e7, f8, f11, hkc, envHas_cons, envHas_nil, cast_succ, cast_zero]
    · dsimp only
      ((with_reducible first | refine lex_bump ?_ ?_ | refine lex_sub ?_ ?_); all_goals repeat' (first | (with_reducible exact SubX.refl _ _) | (with_reducible refine SubX.of ?_; assumption) | (with_reducible apply subx_bump) | (with_reducible apply subx_bumpA) | (with_reducible apply subx_putS) | (with_reducible apply subx_put) | (with_reducible apply subx_addA) | (with_reducible apply subx_dropA) | (with_reducible apply subx_add hwf) | (with_reducible apply subx_bput hwf) | (with_reducible apply subx_bputS hwf) | (with_reducible apply subx_drop hwf) | (with_reducible apply subx_dropS hwf) | omega | (simp (implicitDefEqProofs := false) only [next_add, next_put, next_drop, next_bump, next_putS, next_dropS]; omega) | (left; simp; done) | (right; left; omega) | (right; right; assumption) | (right; left; simp (implicitDefEqProofs := false) only [next_add, next_put, next_drop, next_bump, next_putS, next_dropS]; omega) | (intro h0; omega) | (intro h0; simp (maxSteps := 4000000) (implicitDefEqProofs := false) (disch := first | assumption | omega | (simp (implicitDefEqProofs := false) only [next_add, next_put, next_drop, next_bump, next_putS, next_dropS, List.length_set, List.length_append, List.length_cons, List.length_nil, List.length_take]; first | done | omega)) only [go_sem, Nat.reduceBEq, reduceIte, Nat.reduceAdd]; done) | (simp (maxSteps := 4000000) (implicitDefEqProofs := false) (disch := first | assumption | omega | (simp (implicitDefEqProofs := false) only [next_add, next_put, next_drop, next_bump, next_putS, next_dropS, List.length_set, List.length_append, List.length_cons, List.length_nil, List.length_take]; first | done | omega)) only [go_sem, Nat.reduceBEq, reduceIte, Nat.reduceAdd]; done)))
  have hfin : backM xs.length (outs total xs) (total - sumL (outs total xs)) = (out, left) := by
    rw [← p5]
    cases k with
    | zero => rfl
    | succ k => rw [backM, if_neg hneg]
  have hO : shareO total xs = if flexTo xs xs.length = [] then lastM out left else spreadM left (flexTo xs xs.length).length 0 (flexTo xs xs.length) out := by
    show (if flexes xs = [] then _ else _) = _
    rw [show backM xs.length (xs.map (wantsM total)) (total - sumL (xs.map (wantsM total))) = (out, left) from hfin]
    rfl
  by_cases hfx : flexTo xs xs.length = []
  · rw [if_pos hfx] at hO
    rw [hfx] at e7 ⊢
    have hll : ((xs.length : Int) - 1).toNat = xs.length - 1 := by omega
    have hl1 : xs.length - 1 < out.length := by omega
    have hbk := nth_bd p2 hl1
    have hO' : shareO total xs = out.set (xs.length - 1) (nth out (xs.length - 1) + left) := by rw [hO, lastM, p1]
    simp (maxSteps := 4000000) (implicitDefEqProofs := false) (disch := first | assumption | omega | (simp (implicitDefEqProofs := false) only [next_add, next_put, next_drop, next_bump, next_putS, next_dropS, List.length_set, List.length_append, List.length_cons, List.length_nil, List.length_take]; first | done | omega)) only [go_sem, Nat.reduceBEq, reduceIte, Nat.reduceAdd, e6, e7, f8, f11, hll, ic_store, List.length_nil, dec_lt_t, dec_lt_f, dec_le_t, dec_le_f, dec_gt_t, dec_gt_f, dec_ge_t, dec_ge_f, dec_eq_t, dec_eq_f, dec_ne_t, dec_ne_f]
    refine ⟨_, ?_, h i1 m q1 q4⟩
    rw [hO']
    ((with_reducible first | refine lex_bump ?_ ?_ | refine lex_sub ?_ ?_); all_goals repeat' (first | (with_reducible exact SubX.refl _ _) | (with_reducible refine SubX.of ?_; assumption) | (with_reducible apply subx_bump) | (with_reducible apply subx_bumpA) | (with_reducible apply subx_putS) | (with_reducible apply subx_put) | (with_reducible apply subx_addA) | (with_reducible apply subx_dropA) | (with_reducible apply subx_add hwf) | (with_reducible apply subx_bput hwf) | (with_reducible apply subx_bputS hwf) | (with_reducible apply subx_drop hwf) | (with_reducible apply subx_dropS hwf) | omega | (simp (implicitDefEqProofs := false) only [next_add, next_put, next_drop, next_bump, next_putS, next_dropS]; omega) | (left; simp; done) | (right; left; omega) | (right; right; assumption) | (right; left; simp (implicitDefEqProofs := false) only [next_add, next_put, next_drop, next_bump, next_putS, next_dropS]; omega) | (intro h0; omega) | (intro h0; simp (maxSteps := 4000000) (implicitDefEqProofs := false) (disch := first | assumption | omega | (simp (implicitDefEqProofs := false) only [next_add, next_put, next_drop, next_bump, next_putS, next_dropS, List.length_set, List.length_append, List.length_cons, List.length_nil, List.length_take]; first | done | omega)) only [go_sem, Nat.reduceBEq, reduceIte, Nat.reduceAdd]; done) | (simp (maxSteps := 4000000) (implicitDefEqProofs := false) (disch := first | assumption | omega | (simp (implicitDefEqProofs := false) only [next_add, next_put, next_drop, next_bump, next_putS, next_dropS, List.length_set, List.length_append, List.length_cons, List.length_nil, List.length_take]; first | done | omega)) only [go_sem, Nat.reduceBEq, reduceIte, Nat.reduceAdd]; done)))
  · rw [if_neg hfx] at hO
    have hfp : 0 < (flexTo xs xs.length).length := List.length_pos_iff.2 hfx
    simp (maxSteps := 4000000) (implicitDefEqProofs := false) (disch := first | assumption | omega | (simp (implicitDefEqProofs := false) only [next_add, next_put, next_drop, next_bump, next_putS, next_dropS, List.length_set, List.length_append, List.length_cons, List.length_nil, List.length_take]; first | done | omega)) only [go_sem, Nat.reduceBEq, reduceIte, Nat.reduceAdd, e6, e7, f8, f11, dec_lt_t, dec_lt_f, dec_le_t, dec_le_f, dec_gt_t, dec_gt_f, dec_ge_t, dec_ge_f, dec_eq_t, dec_eq_f, dec_ne_t, dec_ne_f]
    have hL : ∀ n, n < (flexTo xs xs.length).length → nth (flexTo xs xs.length) n < xs.length := fun n hn => flexTo_lt (nth_mem hn)
    have hdiv : left.tdiv ((flexTo xs xs.length).length : Int) = left / ((flexTo xs xs.length).length : Int) := Int.tdiv_eq_ediv_of_nonneg (by omega)
    have hmod : left.tmod ((flexTo xs xs.length).length : Int) = left % ((flexTo xs xs.length).length : Int) := Int.tmod_eq_emod_of_nonneg (by omega)
    have hdb : 0 ≤ left / ((flexTo xs xs.length).length : Int) ∧ left / ((flexTo xs xs.length).length : Int) ≤ 200 := by
      refine ⟨Int.ediv_nonneg (by omega) (by omega), ?_⟩
      exact Int.le_trans (Int.ediv_le_self _ (by omega)) p7
    generalize hFX : flexTo xs xs.length = fx at *
    generalize hQ : left / (fx.length : Int) = dq at *
    refine loop_st (σ := S2) C13_mono [13, 14, 104, 105, 106, 107, 108, 109, 110, 111, 112, 113, 114, 115, 116, 117, 118, 119, 120, 121, 122, 123, 124, 125, 126, 127, 128, 129, 130, 131] (fun s => [(104, .int .i64 (s.k : Int))])
      (fun s => ((H.put i1 (.cells (s.out.flatMap ic) 1 true)).putS j1 fx.length (.cells (fx.flatMap ni) 1 true)).bump m)
      (fun s => s.k ≤ fx.length ∧ s.out.length = xs.length ∧ (∀ x ∈ s.out, 1 ≤ x ∧ x ≤ 1000 + 300 * s.k) ∧ spreadM left fx.length s.k (fx.drop s.k) s.out = shareO total xs)
      (fun s => fx.length - s.k) ⟨0, out⟩ (by kernel_rfl) ⟨by simp, p1, fun x hx => by have := p2 x hx; dsimp only; omega, by rw [hO]; rfl⟩ ?_ ?_ ?_
    · simp (maxSteps := 4000000) (implicitDefEqProofs := false) (disch := first | assumption | omega | (simp (implicitDefEqProofs := false) only [next_add, next_put, next_drop, next_bump, next_putS, next_dropS, List.length_set, List.length_append, List.length_cons, List.length_nil, List.length_take]; first | done | omega)) only [go_sem, Nat.reduceBEq, reduceIte, Nat.reduceAdd, envHas_cons, envHas_nil, cast_succ, cast_zero]
    · dsimp only
      ((with_reducible first | refine lex_bump ?_ ?_ | refine lex_sub ?_ ?_); all_goals repeat' (first | (with_reducible exact SubX.refl _ _) | (with_reducible refine SubX.of ?_; assumption) | (with_reducible apply subx_bump) | (with_reducible apply subx_bumpA) | (with_reducible apply subx_putS) | (with_reducible apply subx_put) | (with_reducible apply subx_addA) | (with_reducible apply subx_dropA) | (with_reducible apply subx_add hwf) | (with_reducible apply subx_bput hwf) | (with_reducible apply subx_bputS hwf) | (with_reducible apply subx_drop hwf) | (with_reducible apply subx_dropS hwf) | omega | (simp (implicitDefEqProofs := false) only [next_add, next_put, next_drop, next_bump, next_putS, next_dropS]; omega) | (left; simp; done) | (right; left; omega) | (right; right; assumption) | (right; left; simp (implicitDefEqProofs := false) only [next_add, next_put, next_drop, next_bump, next_putS, next_dropS]; omega) | (intro h0; omega) | (intro h0; simp (maxSteps := 4000000) (implicitDefEqProofs := false) (disch := first | assumption | omega | (simp (implicitDefEqProofs := false) only [next_add, next_put, next_drop, next_bump, next_putS, next_dropS, List.length_set, List.length_append, List.length_cons, List.length_nil, List.length_take]; first | done | omega)) only [go_sem, Nat.reduceBEq, reduceIte, Nat.reduceAdd]; done) | (simp (maxSteps := 4000000) (implicitDefEqProofs := false) (disch := first | assumption | omega | (simp (implicitDefEqProofs := false) only [next_add, next_put, next_drop, next_bump, next_putS, next_dropS, List.length_set, List.length_append, List.length_cons, List.length_nil, List.length_take]; first | done | omega)) only [go_sem, Nat.reduceBEq, reduceIte, Nat.reduceAdd]; done)))
    rintro ⟨n, o2⟩ u2 ⟨hn, r1, r2, r3⟩ ⟨g104, -⟩
    dsimp only at *
    by_cases hnl : n < fx.length
    · have hix := hL n hnl
      have hix2 : nth fx n < o2.length := by omega
      have hbk := nth_bd r2 hix2
      have hns : ∀ y, nth (o2.set (nth fx n) y) (nth fx n) = y := fun y => by rw [nth_set hix2, if_pos rfl]
      have hss : ∀ y z, (o2.set (nth fx n) y).set (nth fx n) z = o2.set (nth fx n) z := fun y z => List.set_set ..
      have hsl : ∀ y, nth fx n < (o2.set (nth fx n) y).length := fun y => by rw [List.length_set]; exact hix2
      have hdr : spreadM left fx.length n (fx.drop n) o2 = spreadM left fx.length (n + 1) (fx.drop (n + 1)) (o2.set (nth fx n) (if (n : Int) < left % (fx.length : Int) then nth o2 (nth fx n) + dq + 1 else nth o2 (nth fx n) + dq)) := by
        rw [drop_nth hnl, spreadM, hQ]
      simp (maxSteps := 4000000) (implicitDefEqProofs := false) (disch := first | assumption | omega | (simp (implicitDefEqProofs := false) only [next_add, next_put, next_drop, next_bump, next_putS, next_dropS, List.length_set, List.length_append, List.length_cons, List.length_nil, List.length_take]; first | done | omega)) only [go_sem, Nat.reduceBEq, reduceIte, Nat.reduceAdd, e6, e7, f8, g104, b_quo, b_rem, hdiv, hmod, dec_lt_t, dec_lt_f, dec_le_t, dec_le_f, dec_gt_t, dec_gt_f, dec_ge_t, dec_ge_f, dec_eq_t, dec_eq_f, dec_ne_t, dec_ne_f]
      refine draw_at 29 [(0, none), (1, none), (2, none), (3, none), (4, none), (5, none), (6, none), (7, none), (8, none), (9, none), (10, some [])] (by kernel_rfl) ?_
      simp (maxSteps := 4000000) (implicitDefEqProofs := false) (disch := first | assumption | omega | (simp (implicitDefEqProofs := false) only [next_add, next_put, next_drop, next_bump, next_putS, next_dropS, List.length_set, List.length_append, List.length_cons, List.length_nil, List.length_take]; first | done | omega)) only [go_sem, Nat.reduceBEq, reduceIte, Nat.reduceAdd, e6, e7, f8, g104, b_quo, b_rem, hdiv, hmod, ic_store, dec_lt_t, dec_lt_f, dec_le_t, dec_le_f, dec_gt_t, dec_gt_f, dec_ge_t, dec_ge_f, dec_eq_t, dec_eq_f, dec_ne_t, dec_ne_f]
      refine condV_split (fun hb => ?_) (fun hb => ?_)
      · simp (maxSteps := 4000000) (implicitDefEqProofs := false) (disch := first | assumption | omega | (simp (implicitDefEqProofs := false) only [next_add, next_put, next_drop, next_bump, next_putS, next_dropS, List.length_set, List.length_append, List.length_cons, List.length_nil, List.length_take]; first | done | omega)) only [go_sem, Nat.reduceBEq, reduceIte, Nat.reduceAdd, e6, e7, f8, g104, hns, hss, hsl, ic_store, dec_lt_t, dec_lt_f, dec_le_t, dec_le_f, dec_gt_t, dec_gt_f, dec_ge_t, dec_ge_f, dec_eq_t, dec_eq_f, dec_ne_t, dec_ne_f]
        refine ⟨⟨n + 1, o2.set (nth fx n) (nth o2 (nth fx n) + dq + 1)⟩, ⟨by dsimp only; omega, by dsimp only; rw [List.length_set]; exact r1, ?_, ?_⟩, ?_, ?_, by dsimp only; omega⟩
        · dsimp only
          refine fun x hx => ?_
          have := set_bd (a := 1) (b := 1000 + 300 * ((n + 1 : Nat) : Int)) (fun x hx => by have := r2 x hx; omega) (y := nth o2 (nth fx n) + dq + 1) (by omega) x hx
          exact this
        · dsimp only
          rw [hdr, if_pos (by simpa using hb)] at r3
          exact r3
        · simp (maxSteps := 4000000) (implicitDefEqProofs := false) (disch := first | assumption | omega | (simp (implicitDefEqProofs := false) only [next_add, next_put, next_drop, next_bump, next_putS, next_dropS, List.length_set, List.length_append, List.length_cons, List.length_nil, List.length_take]; first | done | omega)) only [go_sem, Nat.reduceBEq, reduceIte, Nat.reduceAdd, envHas_cons, envHas_nil, cast_succ, cast_zero]
        · dsimp only
          ((with_reducible first | refine lex_bump ?_ ?_ | refine lex_sub ?_ ?_); all_goals repeat' (first | (with_reducible exact SubX.refl _ _) | (with_reducible refine SubX.of ?_; assumption) | (with_reducible apply subx_bump) | (with_reducible apply subx_bumpA) | (with_reducible apply subx_putS) | (with_reducible apply subx_put) | (with_reducible apply subx_addA) | (with_reducible apply subx_dropA) | (with_reducible apply subx_add hwf) | (with_reducible apply subx_bput hwf) | (with_reducible apply subx_bputS hwf) | (with_reducible apply subx_drop hwf) | (with_reducible apply subx_dropS hwf) | omega | (simp (implicitDefEqProofs := false) only [next_add, next_put, next_drop, next_bump, next_putS, next_dropS]; omega) | (left; simp; done) | (right; left; omega) | (right; right; assumption) | (right; left; simp (implicitDefEqProofs := false) only [next_add, next_put, next_drop, next_bump, next_putS, next_dropS]; omega) | (intro h0; omega) | (intro h0; simp (maxSteps := 4000000) (implicitDefEqProofs := false) (disch := first | assumption | omega | (simp (implicitDefEqProofs := false) only [next_add, next_put, next_drop, next_bump, next_putS, next_dropS, List.length_set, List.length_append, List.length_cons, List.length_nil, List.length_take]; first | done | omega)) only [go_sem, Nat.reduceBEq, reduceIte, Nat.reduceAdd]; done) | (simp (maxSteps := 4000000) (implicitDefEqProofs := false) (disch := first | assumption | omega | (simp (implicitDefEqProofs := false) only [next_add, next_put, next_drop, next_bump, next_putS, next_dropS, List.length_set, List.length_append, List.length_cons, List.length_nil, List.length_take]; first | done | omega)) only [go_sem, Nat.reduceBEq, reduceIte, Nat.reduceAdd]; done)))
      · simp (maxSteps := 4000000) (implicitDefEqProofs := false) (disch := first | assumption | omega | (simp (implicitDefEqProofs := false) only [next_add, next_put, next_drop, next_bump, next_putS, next_dropS, List.length_set, List.length_append, List.length_cons, List.length_nil, List.length_take]; first | done | omega)) only [go_sem, Nat.reduceBEq, reduceIte, Nat.reduceAdd, e6, e7, f8, g104, hns, hss, ic_store, dec_lt_t, dec_lt_f, dec_le_t, dec_le_f, dec_gt_t, dec_gt_f, dec_ge_t, dec_ge_f, dec_eq_t, dec_eq_f, dec_ne_t, dec_ne_f]
        refine ⟨⟨n + 1, o2.set (nth fx n) (nth o2 (nth fx n) + dq)⟩, ⟨by dsimp only; omega, by dsimp only; rw [List.length_set]; exact r1, ?_, ?_⟩, ?_, ?_, by dsimp only; omega⟩
        · dsimp only
          refine fun x hx => ?_
          have := set_bd (a := 1) (b := 1000 + 300 * ((n + 1 : Nat) : Int)) (fun x hx => by have := r2 x hx; omega) (y := nth o2 (nth fx n) + dq) (by omega) x hx
          exact this
        · dsimp only
          rw [hdr, if_neg (by simpa using hb)] at r3
          exact r3
        · simp (maxSteps := 4000000) (implicitDefEqProofs := false) (disch := first | assumption | omega | (simp (implicitDefEqProofs := false) only [next_add, next_put, next_drop, next_bump, next_putS, next_dropS, List.length_set, List.length_append, List.length_cons, List.length_nil, List.length_take]; first | done | omega)) only [go_sem, Nat.reduceBEq, reduceIte, Nat.reduceAdd, envHas_cons, envHas_nil, cast_succ, cast_zero]
        · dsimp only
          ((with_reducible first | refine lex_bump ?_ ?_ | refine lex_sub ?_ ?_); all_goals repeat' (first | (with_reducible exact SubX.refl _ _) | (with_reducible refine SubX.of ?_; assumption) | (with_reducible apply subx_bump) | (with_reducible apply subx_bumpA) | (with_reducible apply subx_putS) | (with_reducible apply subx_put) | (with_reducible apply subx_addA) | (with_reducible apply subx_dropA) | (with_reducible apply subx_add hwf) | (with_reducible apply subx_bput hwf) | (with_reducible apply subx_bputS hwf) | (with_reducible apply subx_drop hwf) | (with_reducible apply subx_dropS hwf) | omega | (simp (implicitDefEqProofs := false) only [next_add, next_put, next_drop, next_bump, next_putS, next_dropS]; omega) | (left; simp; done) | (right; left; omega) | (right; right; assumption) | (right; left; simp (implicitDefEqProofs := false) only [next_add, next_put, next_drop, next_bump, next_putS, next_dropS]; omega) | (intro h0; omega) | (intro h0; simp (maxSteps := 4000000) (implicitDefEqProofs := false) (disch := first | assumption | omega | (simp (implicitDefEqProofs := false) only [next_add, next_put, next_drop, next_bump, next_putS, next_dropS, List.length_set, List.length_append, List.length_cons, List.length_nil, List.length_take]; first | done | omega)) only [go_sem, Nat.reduceBEq, reduceIte, Nat.reduceAdd]; done) | (simp (maxSteps := 4000000) (implicitDefEqProofs := false) (disch := first | assumption | omega | (simp (implicitDefEqProofs := false) only [next_add, next_put, next_drop, next_bump, next_putS, next_dropS, List.length_set, List.length_append, List.length_cons, List.length_nil, List.length_take]; first | done | omega)) only [go_sem, Nat.reduceBEq, reduceIte, Nat.reduceAdd]; done)))
    · have hnn : n = fx.length := by omega
      rw [List.drop_of_length_le (by omega), spreadM] at r3
      simp (maxSteps := 4000000) (implicitDefEqProofs := false) (disch := first | assumption | omega | (simp (implicitDefEqProofs := false) only [next_add, next_put, next_drop, next_bump, next_putS, next_dropS, List.length_set, List.length_append, List.length_cons, List.length_nil, List.length_take]; first | done | omega)) only [go_sem, Nat.reduceBEq, reduceIte, Nat.reduceAdd, e6, e7, f8, g104, dec_lt_t, dec_lt_f, dec_le_t, dec_le_f, dec_gt_t, dec_gt_f, dec_ge_t, dec_ge_f, dec_eq_t, dec_eq_f, dec_ne_t, dec_ne_f]
      refine ⟨_, ?_, h i1 m q1 q4⟩
      rw [← r3]
      ((with_reducible first | refine lex_bump ?_ ?_ | refine lex_sub ?_ ?_); all_goals repeat' (first | (with_reducible exact SubX.refl _ _) | (with_reducible refine SubX.of ?_; assumption) | (with_reducible apply subx_bump) | (with_reducible apply subx_bumpA) | (with_reducible apply subx_putS) | (with_reducible apply subx_put) | (with_reducible apply subx_addA) | (with_reducible apply subx_dropA) | (with_reducible apply subx_add hwf) | (with_reducible apply subx_bput hwf) | (with_reducible apply subx_bputS hwf) | (with_reducible apply subx_drop hwf) | (with_reducible apply subx_dropS hwf) | omega | (simp (implicitDefEqProofs := false) only [next_add, next_put, next_drop, next_bump, next_putS, next_dropS]; omega) | (left; simp; done) | (right; left; omega) | (right; right; assumption) | (right; left; simp (implicitDefEqProofs := false) only [next_add, next_put, next_drop, next_bump, next_putS, next_dropS]; omega) | (intro h0; omega) | (intro h0; simp (maxSteps := 4000000) (implicitDefEqProofs := false) (disch := first | assumption | omega | (simp (implicitDefEqProofs := false) only [next_add, next_put, next_drop, next_bump, next_putS, next_dropS, List.length_set, List.length_append, List.length_cons, List.length_nil, List.length_take]; first | done | omega)) only [go_sem, Nat.reduceBEq, reduceIte, Nat.reduceAdd]; done) | (simp (maxSteps := 4000000) (implicitDefEqProofs := false) (disch := first | assumption | omega | (simp (implicitDefEqProofs := false) only [next_add, next_put, next_drop, next_bump, next_putS, next_dropS, List.length_set, List.length_append, List.length_cons, List.length_nil, List.length_take]; first | done | omega)) only [go_sem, Nat.reduceBEq, reduceIte, Nat.reduceAdd]; done)))
end Go.LH.Solve
