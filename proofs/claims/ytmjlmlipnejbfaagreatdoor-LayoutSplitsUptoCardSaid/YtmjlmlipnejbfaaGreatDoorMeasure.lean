/-
  Plans: what may be read of them; how they are measured.
-/
import Derived.Test.YtmjlmlipnejbfaaGreatDoorCut
set_option linter.all false
namespace Go.LH.Ty
open Go.Proofs
theorem al31 {H : AHeap} : allocT Tryz.prog H 31 = some (.pointer (some ⟨H.next, 0, none⟩), H.add (.cells [.int .i64 0, .int .i64 0, .int .i64 0, .string ByteArray.empty, .slice none 0 0, .slice none 0 0] 6 true)) := alloc_eq (by kernel_rfl) (by kernel_rfl) (by kernel_rfl)
theorem bx31 {H : AHeap} {v : Value} : boxE Tryz.prog H 31 v = guardO (v.cells.toList.all oneCell) (some (.pointer (some ⟨H.next, 0, none⟩), H.add (.cells v.cells.toList 6 true))) := box_eq (by kernel_rfl)
theorem ia28 {i n c o : Nat} {k : IntKind} {x : Int} (h0 : 0 ≤ x) (h1 : x < n) : aindexAddr Tryz.prog 28 (.slice (some ⟨i, o, none⟩) n c) (.int k x) = some (.pointer (some ⟨i, o + x.toNat * 6, none⟩)) := ia_slice (e := 31) (by kernel_rfl) (by kernel_rfl) h0 h1
theorem ip28 {i n : Nat} {k : IntKind} {x : Int} (h0 : 0 ≤ x) (h1 : x < n) : aindexAddr Tryz.prog 28 (apS i n) (.int k x) = some (.pointer (some ⟨i, x.toNat * 6, none⟩)) := ia_apS (e := 31) (by kernel_rfl) (by kernel_rfl) h0 h1
theorem iv28 {i n c : Nat} {b : Bool} {k : IntKind} {x : Int} (hb : b = true ∨ n = 0) (h0 : 0 ≤ x) (h1 : x < n) : aindexAddr Tryz.prog 28 (slV b i n c) (.int k x) = some (.pointer (some ⟨i, x.toNat * 6, none⟩)) := ia_slV (e := 31) (by kernel_rfl) (by kernel_rfl) hb h0 h1
theorem ld28 {H : AHeap} {i o : Nat} : AHeap.load Tryz.prog H 28 i o = cellE (H.get i) o := load_cell (n := 1) (by kernel_rfl) (by kernel_rfl)
theorem ld31 {H : AHeap} {i o : Nat} : AHeap.load Tryz.prog H 31 i o = aggE (H.get i) o 6 := load_agg (by kernel_rfl) (by kernel_rfl)
theorem ln28 {x : Value} {H : AHeap} : abuiltin Tryz.prog .len #[28] [x] H = (alenV Tryz.prog (some (.slice 31)) x).map fun v => (v, H) := by rw [b_len, show (#[28][0]?.bind (Program.underlying Tryz.prog)) = some (.slice 31) from by kernel_rfl]
theorem so31 {H : AHeap} {i o : Nat} {v : Value} : AHeap.store Tryz.prog H 31 i o v = storeS 6 H i (H.get i) o v.cells.toList := store_S (by kernel_rfl)
theorem tf31_0 : tfield Tryz.prog 31 0 = some (3, 0) := by kernel_rfl
theorem tf31_1 : tfield Tryz.prog 31 1 = some (27, 1) := by kernel_rfl
theorem tf31_3 : tfield Tryz.prog 31 3 = some (28, 4) := by kernel_rfl
attribute [go_sem] al31 bx31 ia28 ip28 iv28 ld28 ld31 ln28 so31 tf31_0 tf31_1 tf31_3
end Go.LH.Ty
namespace Go.LH.Plan
open Go.Proofs Go.LH.Ty Go.LH.Rect Go.LH.Solve Go.LH.Cut
inductive Plan where
  | mk (kind : Int) (size : Size) (name : ByteArray) (kids : List Plan) (float : List Rect)
def Plan.kind : Plan → Int | .mk k _ _ _ _ => k
def Plan.size : Plan → Size | .mk _ s _ _ _ => s
def Plan.kids : Plan → List Plan | .mk _ _ _ ks _ => ks
def Plan.float : Plan → List Rect | .mk _ _ _ _ f => f
instance : Inhabited Plan := ⟨.mk 0 ⟨0, 0⟩ ByteArray.empty [] []⟩
instance : Inhabited ByteArray := ⟨ByteArray.empty⟩
/-- A plan's cells. -/
structure PV where
  kind : Int
  sk : Int
  sn : Int
  name : ByteArray
  kb : Bool
  ki : Nat
  kn : Nat
  kc : Nat
  fb : Bool
  fi : Nat
  fn : Nat
  fc : Nat
  deriving Inhabited
def pcells (v : PV) : List Value := [.int .i64 v.kind, .int .i64 v.sk, .int .i64 v.sn, .string v.name, slV v.kb v.ki v.kn v.kc, slV v.fb v.fi v.fn v.fc]
theorem pc_z (x : PV) : (pcells x).length = 6 := rfl
theorem pc_agg {xs : List PV} {r : List Value} {k : Nat} (h : k < xs.length) : takeE (xs.flatMap pcells ++ r) (k * 6) 6 = some (pcells (nth xs k)) := flat_take pc_z h
theorem pc_agg0 {xs : List PV} {k : Nat} (h : k < xs.length) : takeE (xs.flatMap pcells) (k * 6) 6 = some (pcells (nth xs k)) := by have := pc_agg (r := []) h; rwa [List.append_nil] at this
theorem pc_cell {xs : List PV} {r : List Value} {k j : Nat} (h : k < xs.length) (hj : j < 6) : (xs.flatMap pcells ++ r)[k * 6 + j]? = (pcells (nth xs k))[j]? := flat_cell pc_z h hj
theorem pc_cell0 {xs : List PV} {r : List Value} {k : Nat} (h : k < xs.length) : (xs.flatMap pcells ++ r)[k * 6]? = (pcells (nth xs k))[0]? := flat_cell (j := 0) pc_z h (by decide)
theorem pc_cell1 {xs : List PV} {k j : Nat} (h : k < xs.length) (hj : j < 6) : (xs.flatMap pcells)[k * 6 + j]? = (pcells (nth xs k))[j]? := by have := pc_cell (r := []) h hj; rwa [List.append_nil] at this
theorem pc_cell2 {xs : List PV} {k : Nat} (h : k < xs.length) : (xs.flatMap pcells)[k * 6]? = (pcells (nth xs k))[0]? := by have := pc_cell0 (r := []) h; rwa [List.append_nil] at this
theorem pc_len {xs : List PV} : (xs.flatMap pcells).length = xs.length * 6 := flat_length pc_z xs
theorem pc_app {xs : List PV} {x : PV} : xs.flatMap pcells ++ pcells x = (xs ++ [x]).flatMap pcells := by simp
attribute [go_sem] pc_agg pc_agg0 pc_cell pc_cell0 pc_cell1 pc_cell2 pcells

@[reducible] def pv (v : PV) : Value := .agg [.int .i64 v.kind, .int .i64 v.sk, .int .i64 v.sn, .string v.name, slV v.kb v.ki v.kn v.kc, slV v.fb v.fi v.fn v.fc].toArray
mutual
/-- Cells that stand for a plan. -/
def PlanIs (H : AHeap) : Plan → PV → Prop
  | .mk kind size name kids float, v => v.kind = kind ∧ v.sk = size.kind ∧ v.sn = size.n ∧ v.name = name ∧ (v.kb = true → v.kn ≤ v.kc) ∧ SlIs rcells 4 H v.fb v.fi v.fn float ∧ ∃ vs : List PV, SlIs pcells 6 H v.kb v.ki v.kn vs ∧ PlansIs H kids vs
def PlansIs (H : AHeap) : List Plan → List PV → Prop
  | [], [] => True
  | p :: ps, v :: vs => PlanIs H p v ∧ PlansIs H ps vs
  | _, _ => False
end
theorem PlansIs.length {H : AHeap} : ∀ {ps : List Plan} {vs : List PV}, PlansIs H ps vs → ps.length = vs.length
  | [], [], _ => rfl
  | p :: ps, v :: vs, h => by simp only [PlansIs] at h; simp [PlansIs.length h.2]
  | [], _ :: _, h => by simp [PlansIs] at h
  | _ :: _, [], h => by simp [PlansIs] at h
theorem PlansIs.nth {H : AHeap} : ∀ {ps : List Plan} {vs : List PV}, PlansIs H ps vs → ∀ k, k < ps.length → PlanIs H (Go.LH.nth ps k) (Go.LH.nth vs k)
  | [], [], _, k, hk => by simp at hk
  | p :: ps, v :: vs, h, 0, _ => by simp only [PlansIs] at h; simpa [nth_cons_zero] using h.1
  | p :: ps, v :: vs, h, k + 1, hk => by
    simp only [PlansIs] at h
    rw [nth_cons_succ, nth_cons_succ]; exact h.2.nth k (by simpa using hk)
  | [], _ :: _, h, _, _ => by simp [PlansIs] at h
  | _ :: _, [], h, _, _ => by simp [PlansIs] at h
mutual
theorem PlanIs.mono {H H' : AHeap} (hs : H.Sub H') (hn : H.next ≤ H'.next) : ∀ (p : Plan) (v : PV), PlanIs H p v → PlanIs H' p v
  | .mk kind size name kids float, v, h => by
    simp only [PlanIs] at h ⊢
    obtain ⟨h1, h2, h3, h4, h5, h6, vs, h7, h8⟩ := h
    exact ⟨h1, h2, h3, h4, h5, h6.mono hs hn, vs, h7.mono hs hn, PlansIs.mono hs hn kids vs h8⟩
theorem PlansIs.mono {H H' : AHeap} (hs : H.Sub H') (hn : H.next ≤ H'.next) : ∀ (ps : List Plan) (vs : List PV), PlansIs H ps vs → PlansIs H' ps vs
  | [], [], _ => by simp [PlansIs]
  | p :: ps, v :: vs, h => by
    simp only [PlansIs] at h ⊢
    exact ⟨PlanIs.mono hs hn p v h.1, PlansIs.mono hs hn ps vs h.2⟩
  | [], _ :: _, h => by simp [PlansIs] at h
  | _ :: _, [], h => by simp [PlansIs] at h
end
theorem plan_ind {motive : Plan → Prop} (h : ∀ kind size name kids float, (∀ k ∈ kids, motive k) → motive (.mk kind size name kids float)) : ∀ p, motive p
  | .mk kind size name kids float => h kind size name kids float fun k _ => plan_ind h k
mutual
/-- Is a plan right? And how many leaves there are then. -/
def measM : Plan → Nat → Int → Bool × Int
  | .mk kind size _ kids _, deep, l =>
    if deep > 12 ∨ okSize size = false then (false, l)
    else if kind = 1 then (decide (l + 1 ≤ 24), l + 1)
    else if kind = 2 ∨ kind = 3 ∨ kind = 4 then
      if kids.length < 1 ∨ kids.length > 16 then (false, l) else measKs kind kids (deep + 1) l
    else (false, l)
def measKs (kind : Int) : List Plan → Nat → Int → Bool × Int
  | [], _, l => (true, l)
  | p :: ps, deep, l =>
    if kind = 4 ∧ p.kind ≠ 1 then (false, l)
    else if (measM p deep l).1 = true then measKs kind ps deep (measM p deep l).2 else (false, (measM p deep l).2)
end
mutual
theorem measM_bd : ∀ (p : Plan) (deep : Nat) (l : Int), l ≤ (measM p deep l).2 ∧ ((measM p deep l).1 = true → (measM p deep l).2 ≤ max l 24) ∧ (measM p deep l).2 ≤ max l 24 + 1
  | .mk kind size name kids float, deep, l => by
    simp only [measM]
    split
    · simp; omega
    · split
      · simp; omega
      · split
        · split
          · simp; omega
          · exact measKs_bd kind kids (deep + 1) l
        · simp; omega
theorem measKs_bd (kind : Int) : ∀ (ps : List Plan) (deep : Nat) (l : Int), l ≤ (measKs kind ps deep l).2 ∧ ((measKs kind ps deep l).1 = true → (measKs kind ps deep l).2 ≤ max l 24) ∧ (measKs kind ps deep l).2 ≤ max l 24 + 1
  | [], deep, l => by simp [measKs]; omega
  | p :: ps, deep, l => by
    simp only [measKs]
    have h1 := measM_bd p deep l
    have h2 := measKs_bd kind ps deep (measM p deep l).2
    split
    · simp; omega
    · split
      · rename_i h; have := h1.2.1 h; refine ⟨by omega, fun q => ?_, ?_⟩
        · have := h2.2.1 q; omega
        · omega
      · simp; omega
end
theorem PlanIs.kind {H : AHeap} : ∀ {p : Plan} {v : PV}, PlanIs H p v → v.kind = p.kind
  | .mk _ _ _ _ _, _, h => by simp only [PlanIs] at h; exact h.1
theorem measKs_drop {kind : Int} {kids : List Plan} {k deep : Nat} {l : Int} (h : k < kids.length) : measKs kind (kids.drop k) deep l =
    if kind = 4 ∧ (nth kids k).kind ≠ 1 then (false, l) else if (measM (nth kids k) deep l).1 = true then measKs kind (kids.drop (k + 1)) deep (measM (nth kids k) deep l).2 else (false, (measM (nth kids k) deep l).2) := by
  rw [drop_nth h, measKs]
structure S0 where
  k : Nat
  l : Int
  m : Nat
set_option maxRecDepth 100000 in
set_option maxHeartbeats 1000000 in
theorem measure_spec : ∀ (p : Plan) (v : PV) (deep : Nat) (l : Int) (H0 H : AHeap) (lv : Nat), PlanIs H0 p v → H0.Wf → H0.Sub H → H0.next ≤ lv → lv < H.next → H.get lv = some (.cells [.int .i64 l] 1 true) → 0 ≤ l → l ≤ 100 → deep ≤ 100 →
    ∀ (K : Value → AHeap → Prop), (∀ m, H.next ≤ m → K (.bool (measM p deep l).1) ((H.put lv (.cells [.int .i64 (measM p deep l).2] 1 true)).bump m)) →
    RCalls Tryz.prog 22 [pv v, .int .i64 (deep : Int), .pointer (some ⟨lv, 0, none⟩)] H K := by
  refine plan_ind fun kind size name kids float ih => ?_
  intro v deep l H0 H lv hp hwf0 hsub hlv hlt hget hl0 hl1 hd K h
  refine RCalls.wf fun hwf => RCalls.forget ?_
  simp only [PlanIs] at hp
  obtain ⟨e1, e2, e3, e4, hkc, hfl, vs, hks, hkids⟩ := hp
  have hlen := hkids.length
  obtain ⟨hb, hkn, hklt, hkobj, hkbnd, hkext⟩ := hks
  rw [hkn] at hb hklt hkobj hkbnd
  simp only [measM] at h
  have hwf2 := fun o => wf_put hwf hlt o
  refine rcalls_enter (P := Tryz.prog) (rs := [.tmp 6]) (by kernel_rfl) C13_sound Tryz.func22 rfl (by kernel_rfl) rfl rfl ?_
  simp (maxSteps := 4000000) (implicitDefEqProofs := false) (disch := first | assumption | omega | (simp (implicitDefEqProofs := false) only [next_add, next_put, next_drop, next_bump, next_putS, next_dropS, List.length_set, List.length_append, List.length_cons, List.length_nil, List.length_take]; first | done | omega)) only [go_sem, Nat.reduceBEq, reduceIte, Nat.reduceAdd, e1, e2, e3, e4, hkn, hget, dec_lt_t, dec_lt_f, dec_le_t, dec_le_f, dec_gt_t, dec_gt_f, dec_ge_t, dec_ge_f, dec_eq_t, dec_eq_f, dec_ne_t, dec_ne_f]
  have hchk : ∀ {b : Bool}, (decide ((deep : Int) > 12) || (chk size != 0)) = b → decide (deep > 12 ∨ okSize size = false) = b := by
    intro b hc
    rw [← hc]
    have e1 : decide ((deep : Int) > 12) = decide (deep > 12) := by rw [Bool.eq_iff_iff]; simp; omega
    rw [e1, chk]
    cases okSize size <;> simp
  refine condV_split (fun hc => ?_) (fun hc => ?_)
  · rw [if_pos (of_decide_eq_true (hchk hc))] at h
    dsimp only at h
    simp (maxSteps := 4000000) (implicitDefEqProofs := false) (disch := first | assumption | omega | (simp (implicitDefEqProofs := false) only [next_add, next_put, next_drop, next_bump, next_putS, next_dropS, List.length_set, List.length_append, List.length_cons, List.length_nil, List.length_take]; first | done | omega)) only [go_sem, Nat.reduceBEq, reduceIte, Nat.reduceAdd, dec_lt_t, dec_lt_f, dec_le_t, dec_le_f, dec_gt_t, dec_gt_f, dec_ge_t, dec_ge_f, dec_eq_t, dec_eq_f, dec_ne_t, dec_ne_f]
    refine ⟨_, ?_, h (H.next + 1) (by omega)⟩
    ((with_reducible first | refine lex_bump ?_ ?_ | refine lex_sub ?_ ?_); all_goals repeat' (first | (with_reducible exact SubX.refl _ _) | (with_reducible refine SubX.of ?_; assumption) | (with_reducible apply subx_bump) | (with_reducible apply subx_bumpA) | (with_reducible apply subx_putS) | (with_reducible apply subx_put) | (with_reducible apply subx_addA) | (with_reducible apply subx_dropA) | (with_reducible apply subx_add hwf) | (with_reducible apply subx_bput hwf) | (with_reducible apply subx_bputS hwf) | (with_reducible apply subx_drop hwf) | (with_reducible apply subx_dropS hwf) | omega | (simp (implicitDefEqProofs := false) only [next_add, next_put, next_drop, next_bump, next_putS, next_dropS]; omega) | (left; simp; done) | (right; left; omega) | (right; right; assumption) | (right; left; simp (implicitDefEqProofs := false) only [next_add, next_put, next_drop, next_bump, next_putS, next_dropS]; omega) | (intro h0; omega) | (intro h0; simp (maxSteps := 4000000) (implicitDefEqProofs := false) (disch := first | assumption | omega | (simp (implicitDefEqProofs := false) only [next_add, next_put, next_drop, next_bump, next_putS, next_dropS, List.length_set, List.length_append, List.length_cons, List.length_nil, List.length_take]; first | done | omega)) only [go_sem, Nat.reduceBEq, reduceIte, Nat.reduceAdd, hget]; done) | (simp (maxSteps := 4000000) (implicitDefEqProofs := false) (disch := first | assumption | omega | (simp (implicitDefEqProofs := false) only [next_add, next_put, next_drop, next_bump, next_putS, next_dropS, List.length_set, List.length_append, List.length_cons, List.length_nil, List.length_take]; first | done | omega)) only [go_sem, Nat.reduceBEq, reduceIte, Nat.reduceAdd, hget]; done)))
  rw [if_neg (of_decide_eq_false (hchk hc))] at h
  have hd12 : deep ≤ 12 := by
    have := of_decide_eq_false (hchk hc); omega
  simp (maxSteps := 4000000) (implicitDefEqProofs := false) (disch := first | assumption | omega | (simp (implicitDefEqProofs := false) only [next_add, next_put, next_drop, next_bump, next_putS, next_dropS, List.length_set, List.length_append, List.length_cons, List.length_nil, List.length_take]; first | done | omega)) only [go_sem, Nat.reduceBEq, reduceIte, Nat.reduceAdd, e1, e2, e3, e4, hkn, hget, dec_lt_t, dec_lt_f, dec_le_t, dec_le_f, dec_gt_t, dec_gt_f, dec_ge_t, dec_ge_f, dec_eq_t, dec_eq_f, dec_ne_t, dec_ne_f]
  refine condV_split (fun h1 => ?_) (fun h1 => ?_)
  · have k1 : kind = 1 := by simpa using h1
    rw [if_pos k1] at h
    dsimp only at h
    simp (maxSteps := 4000000) (implicitDefEqProofs := false) (disch := first | assumption | omega | (simp (implicitDefEqProofs := false) only [next_add, next_put, next_drop, next_bump, next_putS, next_dropS, List.length_set, List.length_append, List.length_cons, List.length_nil, List.length_take]; first | done | omega)) only [go_sem, Nat.reduceBEq, reduceIte, Nat.reduceAdd, hget, dec_lt_t, dec_lt_f, dec_le_t, dec_le_f, dec_gt_t, dec_gt_f, dec_ge_t, dec_ge_f, dec_eq_t, dec_eq_f, dec_ne_t, dec_ne_f]
    refine ⟨_, ?_, h (H.next + 1) (by omega)⟩
    ((with_reducible first | refine lex_bump ?_ ?_ | refine lex_sub ?_ ?_); all_goals repeat' (first | (with_reducible exact SubX.refl _ _) | (with_reducible refine SubX.of ?_; assumption) | (with_reducible apply subx_bump) | (with_reducible apply subx_bumpA) | (with_reducible apply subx_putS) | (with_reducible apply subx_put) | (with_reducible apply subx_addA) | (with_reducible apply subx_dropA) | (with_reducible apply subx_add hwf) | (with_reducible apply subx_bput hwf) | (with_reducible apply subx_bputS hwf) | (with_reducible apply subx_drop hwf) | (with_reducible apply subx_dropS hwf) | omega | (simp (implicitDefEqProofs := false) only [next_add, next_put, next_drop, next_bump, next_putS, next_dropS]; omega) | (left; simp; done) | (right; left; omega) | (right; right; assumption) | (right; left; simp (implicitDefEqProofs := false) only [next_add, next_put, next_drop, next_bump, next_putS, next_dropS]; omega) | (intro h0; omega) | (intro h0; simp (maxSteps := 4000000) (implicitDefEqProofs := false) (disch := first | assumption | omega | (simp (implicitDefEqProofs := false) only [next_add, next_put, next_drop, next_bump, next_putS, next_dropS, List.length_set, List.length_append, List.length_cons, List.length_nil, List.length_take]; first | done | omega)) only [go_sem, Nat.reduceBEq, reduceIte, Nat.reduceAdd, hget]; done) | (simp (maxSteps := 4000000) (implicitDefEqProofs := false) (disch := first | assumption | omega | (simp (implicitDefEqProofs := false) only [next_add, next_put, next_drop, next_bump, next_putS, next_dropS, List.length_set, List.length_append, List.length_cons, List.length_nil, List.length_take]; first | done | omega)) only [go_sem, Nat.reduceBEq, reduceIte, Nat.reduceAdd, hget]; done)))
  have k1 : kind ≠ 1 := by simpa using h1
  rw [if_neg k1] at h
  simp (maxSteps := 4000000) (implicitDefEqProofs := false) (disch := first | assumption | omega | (simp (implicitDefEqProofs := false) only [next_add, next_put, next_drop, next_bump, next_putS, next_dropS, List.length_set, List.length_append, List.length_cons, List.length_nil, List.length_take]; first | done | omega)) only [go_sem, Nat.reduceBEq, reduceIte, Nat.reduceAdd, e1, e2, e3, e4, hkn, hget, dec_lt_t, dec_lt_f, dec_le_t, dec_le_f, dec_gt_t, dec_gt_f, dec_ge_t, dec_ge_f, dec_eq_t, dec_eq_f, dec_ne_t, dec_ne_f]
  by_cases hk : kind = 2 ∨ kind = 3 ∨ kind = 4
  · rw [if_pos hk] at h
    by_cases hcnt : kids.length < 1 ∨ kids.length > 16
    · rw [if_pos hcnt] at h
      dsimp only at h
      rcases hk with rfl | rfl | rfl
      all_goals
        simp (maxSteps := 4000000) (implicitDefEqProofs := false) (disch := first | assumption | omega | (simp (implicitDefEqProofs := false) only [next_add, next_put, next_drop, next_bump, next_putS, next_dropS, List.length_set, List.length_append, List.length_cons, List.length_nil, List.length_take]; first | done | omega)) only [go_sem, Nat.reduceBEq, reduceIte, Nat.reduceAdd, e1, e2, e3, e4, hkn, hget, dec_lt_t, dec_lt_f, dec_le_t, dec_le_f, dec_gt_t, dec_gt_f, dec_ge_t, dec_ge_f, dec_eq_t, dec_eq_f, dec_ne_t, dec_ne_f]
        refine condV_split (fun hq => ?_) (fun hq => ?_)
        · simp (maxSteps := 4000000) (implicitDefEqProofs := false) (disch := first | assumption | omega | (simp (implicitDefEqProofs := false) only [next_add, next_put, next_drop, next_bump, next_putS, next_dropS, List.length_set, List.length_append, List.length_cons, List.length_nil, List.length_take]; first | done | omega)) only [go_sem, Nat.reduceBEq, reduceIte, Nat.reduceAdd, dec_lt_t, dec_lt_f, dec_le_t, dec_le_f, dec_gt_t, dec_gt_f, dec_ge_t, dec_ge_f, dec_eq_t, dec_eq_f, dec_ne_t, dec_ne_f]
          refine ⟨_, ?_, h (H.next + 1) (by omega)⟩
          ((with_reducible first | refine lex_bump ?_ ?_ | refine lex_sub ?_ ?_); all_goals repeat' (first | (with_reducible exact SubX.refl _ _) | (with_reducible refine SubX.of ?_; assumption) | (with_reducible apply subx_bump) | (with_reducible apply subx_bumpA) | (with_reducible apply subx_putS) | (with_reducible apply subx_put) | (with_reducible apply subx_addA) | (with_reducible apply subx_dropA) | (with_reducible apply subx_add hwf) | (with_reducible apply subx_bput hwf) | (with_reducible apply subx_bputS hwf) | (with_reducible apply subx_drop hwf) | (with_reducible apply subx_dropS hwf) | omega | (simp (implicitDefEqProofs := false) only [next_add, next_put, next_drop, next_bump, next_putS, next_dropS]; omega) | (left; simp; done) | (right; left; omega) | (right; right; assumption) | (right; left; simp (implicitDefEqProofs := false) only [next_add, next_put, next_drop, next_bump, next_putS, next_dropS]; omega) | (intro h0; omega) | (intro h0; simp (maxSteps := 4000000) (implicitDefEqProofs := false) (disch := first | assumption | omega | (simp (implicitDefEqProofs := false) only [next_add, next_put, next_drop, next_bump, next_putS, next_dropS, List.length_set, List.length_append, List.length_cons, List.length_nil, List.length_take]; first | done | omega)) only [go_sem, Nat.reduceBEq, reduceIte, Nat.reduceAdd, hget]; done) | (simp (maxSteps := 4000000) (implicitDefEqProofs := false) (disch := first | assumption | omega | (simp (implicitDefEqProofs := false) only [next_add, next_put, next_drop, next_bump, next_putS, next_dropS, List.length_set, List.length_append, List.length_cons, List.length_nil, List.length_take]; first | done | omega)) only [go_sem, Nat.reduceBEq, reduceIte, Nat.reduceAdd, hget]; done)))
        · exfalso
          simp at hq
          omega
    · rw [if_neg hcnt] at h
      have hc2 : (decide ((vs.length : Int) < 1) || decide ((vs.length : Int) > 16)) = false := by simp; omega
      have hkb : v.kb = true := by rcases hb with q | q; exact q; omega
      obtain ⟨r, w, ho⟩ := hkobj (by omega)
      have ho1 := hsub _ _ ho
      have hlt3 := hklt (by omega)
      have hmd := measKs_bd kind kids (deep + 1) l
      rcases hk with rfl | rfl | rfl
      · simp (maxSteps := 4000000) (implicitDefEqProofs := false) (disch := first | assumption | omega | (simp (implicitDefEqProofs := false) only [next_add, next_put, next_drop, next_bump, next_putS, next_dropS, List.length_set, List.length_append, List.length_cons, List.length_nil, List.length_take]; first | done | omega)) only [go_sem, Nat.reduceBEq, reduceIte, Nat.reduceAdd, e1, e2, e3, e4, hkn, hget, hc2, dec_lt_t, dec_lt_f, dec_le_t, dec_le_f, dec_gt_t, dec_gt_f, dec_ge_t, dec_ge_f, dec_eq_t, dec_eq_f, dec_ne_t, dec_ne_f]
        refine loop_st (σ := S0) C13_mono [6, 8, 47, 48, 49, 50, 51, 52, 53, 54, 55, 56, 57, 58, 59, 60, 61, 62, 63, 64, 65, 66, 67] (fun s => [(47, .int .i64 (s.k : Int))])
          (fun s => ((H.put lv (.cells [.int .i64 s.l] 1 true)).put H.next (.cells [.int .i64 v.kind, .int .i64 size.kind, .int .i64 size.n, .string name, slV v.kb v.ki vs.length v.kc, slV v.fb v.fi v.fn v.fc] 6 true)).bump s.m)
          (fun s => s.k ≤ kids.length ∧ measKs v.kind kids (deep + 1) l = measKs v.kind (kids.drop s.k) (deep + 1) s.l ∧ l ≤ s.l ∧ s.l ≤ max l 24 ∧ H.next < s.m) (fun s => kids.length - s.k) ⟨0, l, H.next + 1⟩ (by kernel_rfl) ⟨by simp, rfl, by dsimp only; omega, by dsimp only; omega, by dsimp only; omega⟩ ?_ ?_ ?_
        · simp (maxSteps := 4000000) (implicitDefEqProofs := false) (disch := first | assumption | omega | (simp (implicitDefEqProofs := false) only [next_add, next_put, next_drop, next_bump, next_putS, next_dropS, List.length_set, List.length_append, List.length_cons, List.length_nil, List.length_take]; first | done | omega)) only [go_sem, Nat.reduceBEq, reduceIte, Nat.reduceAdd, envHas_cons, envHas_nil, cast_succ, cast_zero]
        · dsimp only
          ((with_reducible first | refine lex_bump ?_ ?_ | refine lex_sub ?_ ?_); all_goals repeat' (first | (with_reducible exact SubX.refl _ _) | (with_reducible refine SubX.of ?_; assumption) | (with_reducible apply subx_bump) | (with_reducible apply subx_bumpA) | (with_reducible apply subx_putS) | (with_reducible apply subx_put) | (with_reducible apply subx_addA) | (with_reducible apply subx_dropA) | (with_reducible apply subx_add hwf) | (with_reducible apply subx_bput hwf) | (with_reducible apply subx_bputS hwf) | (with_reducible apply subx_drop hwf) | (with_reducible apply subx_dropS hwf) | omega | (simp (implicitDefEqProofs := false) only [next_add, next_put, next_drop, next_bump, next_putS, next_dropS]; omega) | (left; simp; done) | (right; left; omega) | (right; right; assumption) | (right; left; simp (implicitDefEqProofs := false) only [next_add, next_put, next_drop, next_bump, next_putS, next_dropS]; omega) | (intro h0; omega) | (intro h0; simp (maxSteps := 4000000) (implicitDefEqProofs := false) (disch := first | assumption | omega | (simp (implicitDefEqProofs := false) only [next_add, next_put, next_drop, next_bump, next_putS, next_dropS, List.length_set, List.length_append, List.length_cons, List.length_nil, List.length_take]; first | done | omega)) only [go_sem, Nat.reduceBEq, reduceIte, Nat.reduceAdd, hget, e1]; done) | (simp (maxSteps := 4000000) (implicitDefEqProofs := false) (disch := first | assumption | omega | (simp (implicitDefEqProofs := false) only [next_add, next_put, next_drop, next_bump, next_putS, next_dropS, List.length_set, List.length_append, List.length_cons, List.length_nil, List.length_take]; first | done | omega)) only [go_sem, Nat.reduceBEq, reduceIte, Nat.reduceAdd, hget, e1]; done)))
        rintro ⟨k, l2, m⟩ u ⟨g1, g2, g3, g4, g5⟩ ⟨f47, -⟩
        dsimp only at *
        by_cases hlt2 : k < kids.length
        · have hkm := nth_mem hlt2
          have hpk := hkids.nth k hlt2
          have hkk := hpk.kind
          have hmm := measM_bd (nth kids k) (deep + 1) l2
          have hdr := measKs_drop (kind := v.kind) (deep := deep + 1) (l := l2) hlt2
          rw [e1] at g2 hdr
          simp (maxSteps := 4000000) (implicitDefEqProofs := false) (disch := first | assumption | omega | (simp (implicitDefEqProofs := false) only [next_add, next_put, next_drop, next_bump, next_putS, next_dropS, List.length_set, List.length_append, List.length_cons, List.length_nil, List.length_take]; first | done | omega)) only [go_sem, Nat.reduceBEq, reduceIte, Nat.reduceAdd, f47, e1, ho1, dec_lt_t, dec_lt_f, dec_le_t, dec_le_f, dec_gt_t, dec_gt_f, dec_ge_t, dec_ge_f, dec_eq_t, dec_eq_f, dec_ne_t, dec_ne_f]
          rw [if_neg (by omega)] at hdr
          refine ih (nth kids k) hkm (nth vs k) (deep + 1) l2 H0 _ lv hpk hwf0 ?_ hlv ?_ ?_ (by omega) (by omega) (by omega) _ ?_
          · exact fun j o hj => by have q1 := hsub j o hj; have q2 := hwf0 j o hj; have q3 := hwf j o q1; first | (simp (maxSteps := 4000000) (implicitDefEqProofs := false) (disch := first | assumption | omega | (simp (implicitDefEqProofs := false) only [next_add, next_put, next_drop, next_bump, next_putS, next_dropS, List.length_set, List.length_append, List.length_cons, List.length_nil, List.length_take]; first | done | omega)) only [go_sem, Nat.reduceBEq, reduceIte, Nat.reduceAdd]; done) | (simp (maxSteps := 4000000) (implicitDefEqProofs := false) (disch := first | assumption | omega | (simp (implicitDefEqProofs := false) only [next_add, next_put, next_drop, next_bump, next_putS, next_dropS, List.length_set, List.length_append, List.length_cons, List.length_nil, List.length_take]; first | done | omega)) only [go_sem, Nat.reduceBEq, reduceIte, Nat.reduceAdd]; exact q1)
          · first | omega | (simp (maxSteps := 4000000) (implicitDefEqProofs := false) (disch := first | assumption | omega | (simp (implicitDefEqProofs := false) only [next_add, next_put, next_drop, next_bump, next_putS, next_dropS, List.length_set, List.length_append, List.length_cons, List.length_nil, List.length_take]; first | done | omega)) only [go_sem, Nat.reduceBEq, reduceIte, Nat.reduceAdd]; omega) | (simp (maxSteps := 4000000) (implicitDefEqProofs := false) (disch := first | assumption | omega | (simp (implicitDefEqProofs := false) only [next_add, next_put, next_drop, next_bump, next_putS, next_dropS, List.length_set, List.length_append, List.length_cons, List.length_nil, List.length_take]; first | done | omega)) only [go_sem, Nat.reduceBEq, reduceIte, Nat.reduceAdd]; done)
          · simp (maxSteps := 4000000) (implicitDefEqProofs := false) (disch := first | assumption | omega | (simp (implicitDefEqProofs := false) only [next_add, next_put, next_drop, next_bump, next_putS, next_dropS, List.length_set, List.length_append, List.length_cons, List.length_nil, List.length_take]; first | done | omega)) only [go_sem, Nat.reduceBEq, reduceIte, Nat.reduceAdd]
          intro m2 hm2
          simp (implicitDefEqProofs := false) only [next_add, next_put, next_drop, next_bump, next_putS, next_dropS] at hm2
          simp (maxSteps := 4000000) (implicitDefEqProofs := false) (disch := first | assumption | omega | (simp (implicitDefEqProofs := false) only [next_add, next_put, next_drop, next_bump, next_putS, next_dropS, List.length_set, List.length_append, List.length_cons, List.length_nil, List.length_take]; first | done | omega)) only [go_sem, Nat.reduceBEq, reduceIte, Nat.reduceAdd, f47, dec_lt_t, dec_lt_f, dec_le_t, dec_le_f, dec_gt_t, dec_gt_f, dec_ge_t, dec_ge_f, dec_eq_t, dec_eq_f, dec_ne_t, dec_ne_f]
          refine condV_split (fun hq => ?_) (fun hq => ?_)
          · have hq' : (measM (nth kids k) (deep + 1) l2).1 = false := by simpa using hq
            rw [if_neg (by rw [hq']; simp)] at hdr
            rw [g2, hdr] at h
            dsimp only at h
            simp (maxSteps := 4000000) (implicitDefEqProofs := false) (disch := first | assumption | omega | (simp (implicitDefEqProofs := false) only [next_add, next_put, next_drop, next_bump, next_putS, next_dropS, List.length_set, List.length_append, List.length_cons, List.length_nil, List.length_take]; first | done | omega)) only [go_sem, Nat.reduceBEq, reduceIte, Nat.reduceAdd, f47, dec_lt_t, dec_lt_f, dec_le_t, dec_le_f, dec_gt_t, dec_gt_f, dec_ge_t, dec_ge_f, dec_eq_t, dec_eq_f, dec_ne_t, dec_ne_f]
            refine ⟨_, ?_, h m2 (by omega)⟩
            ((with_reducible first | refine lex_bump ?_ ?_ | refine lex_sub ?_ ?_); all_goals repeat' (first | (with_reducible exact SubX.refl _ _) | (with_reducible refine SubX.of ?_; assumption) | (with_reducible apply subx_bump) | (with_reducible apply subx_bumpA) | (with_reducible apply subx_putS) | (with_reducible apply subx_put) | (with_reducible apply subx_addA) | (with_reducible apply subx_dropA) | (with_reducible apply subx_add hwf) | (with_reducible apply subx_bput hwf) | (with_reducible apply subx_bputS hwf) | (with_reducible apply subx_drop hwf) | (with_reducible apply subx_dropS hwf) | omega | (simp (implicitDefEqProofs := false) only [next_add, next_put, next_drop, next_bump, next_putS, next_dropS]; omega) | (left; simp; done) | (right; left; omega) | (right; right; assumption) | (right; left; simp (implicitDefEqProofs := false) only [next_add, next_put, next_drop, next_bump, next_putS, next_dropS]; omega) | (intro h0; omega) | (intro h0; simp (maxSteps := 4000000) (implicitDefEqProofs := false) (disch := first | assumption | omega | (simp (implicitDefEqProofs := false) only [next_add, next_put, next_drop, next_bump, next_putS, next_dropS, List.length_set, List.length_append, List.length_cons, List.length_nil, List.length_take]; first | done | omega)) only [go_sem, Nat.reduceBEq, reduceIte, Nat.reduceAdd, hget]; done) | (simp (maxSteps := 4000000) (implicitDefEqProofs := false) (disch := first | assumption | omega | (simp (implicitDefEqProofs := false) only [next_add, next_put, next_drop, next_bump, next_putS, next_dropS, List.length_set, List.length_append, List.length_cons, List.length_nil, List.length_take]; first | done | omega)) only [go_sem, Nat.reduceBEq, reduceIte, Nat.reduceAdd, hget]; done)))
          · have hq' : (measM (nth kids k) (deep + 1) l2).1 = true := by simpa using hq
            rw [if_pos hq'] at hdr
            simp (maxSteps := 4000000) (implicitDefEqProofs := false) (disch := first | assumption | omega | (simp (implicitDefEqProofs := false) only [next_add, next_put, next_drop, next_bump, next_putS, next_dropS, List.length_set, List.length_append, List.length_cons, List.length_nil, List.length_take]; first | done | omega)) only [go_sem, Nat.reduceBEq, reduceIte, Nat.reduceAdd, f47, dec_lt_t, dec_lt_f, dec_le_t, dec_le_f, dec_gt_t, dec_gt_f, dec_ge_t, dec_ge_f, dec_eq_t, dec_eq_f, dec_ne_t, dec_ne_f]
            refine ⟨⟨k + 1, (measM (nth kids k) (deep + 1) l2).2, m2⟩, ⟨by dsimp only; omega, by dsimp only; rw [g2, hdr], by dsimp only; omega, by have := hmm.2.1 hq'; dsimp only; omega, by dsimp only; omega⟩, ?_, ?_, by dsimp only; omega⟩
            · simp (maxSteps := 4000000) (implicitDefEqProofs := false) (disch := first | assumption | omega | (simp (implicitDefEqProofs := false) only [next_add, next_put, next_drop, next_bump, next_putS, next_dropS, List.length_set, List.length_append, List.length_cons, List.length_nil, List.length_take]; first | done | omega)) only [go_sem, Nat.reduceBEq, reduceIte, Nat.reduceAdd, f47, envHas_cons, envHas_nil, cast_succ, cast_zero]
            · dsimp only
              ((with_reducible first | refine lex_bump ?_ ?_ | refine lex_sub ?_ ?_); all_goals repeat' (first | (with_reducible exact SubX.refl _ _) | (with_reducible refine SubX.of ?_; assumption) | (with_reducible apply subx_bump) | (with_reducible apply subx_bumpA) | (with_reducible apply subx_putS) | (with_reducible apply subx_put) | (with_reducible apply subx_addA) | (with_reducible apply subx_dropA) | (with_reducible apply subx_add hwf) | (with_reducible apply subx_bput hwf) | (with_reducible apply subx_bputS hwf) | (with_reducible apply subx_drop hwf) | (with_reducible apply subx_dropS hwf) | omega | (simp (implicitDefEqProofs := false) only [next_add, next_put, next_drop, next_bump, next_putS, next_dropS]; omega) | (left; simp; done) | (right; left; omega) | (right; right; assumption) | (right; left; simp (implicitDefEqProofs := false) only [next_add, next_put, next_drop, next_bump, next_putS, next_dropS]; omega) | (intro h0; omega) | (intro h0; simp (maxSteps := 4000000) (implicitDefEqProofs := false) (disch := first | assumption | omega | (simp (implicitDefEqProofs := false) only [next_add, next_put, next_drop, next_bump, next_putS, next_dropS, List.length_set, List.length_append, List.length_cons, List.length_nil, List.length_take]; first | done | omega)) only [go_sem, Nat.reduceBEq, reduceIte, Nat.reduceAdd, hget, e1]; done) | (simp (maxSteps := 4000000) (implicitDefEqProofs := false) (disch := first | assumption | omega | (simp (implicitDefEqProofs := false) only [next_add, next_put, next_drop, next_bump, next_putS, next_dropS, List.length_set, List.length_append, List.length_cons, List.length_nil, List.length_take]; first | done | omega)) only [go_sem, Nat.reduceBEq, reduceIte, Nat.reduceAdd, hget, e1]; done)))
        · have hke : k = kids.length := by omega
          rw [hke, List.drop_of_length_le (Nat.le_refl _), measKs] at g2
          rw [e1] at g2
          rw [g2] at h
          dsimp only at h
          simp (maxSteps := 4000000) (implicitDefEqProofs := false) (disch := first | assumption | omega | (simp (implicitDefEqProofs := false) only [next_add, next_put, next_drop, next_bump, next_putS, next_dropS, List.length_set, List.length_append, List.length_cons, List.length_nil, List.length_take]; first | done | omega)) only [go_sem, Nat.reduceBEq, reduceIte, Nat.reduceAdd, f47, dec_lt_t, dec_lt_f, dec_le_t, dec_le_f, dec_gt_t, dec_gt_f, dec_ge_t, dec_ge_f, dec_eq_t, dec_eq_f, dec_ne_t, dec_ne_f]
          refine ⟨_, ?_, h m (by omega)⟩
          ((with_reducible first | refine lex_bump ?_ ?_ | refine lex_sub ?_ ?_); all_goals repeat' (first | (with_reducible exact SubX.refl _ _) | (with_reducible refine SubX.of ?_; assumption) | (with_reducible apply subx_bump) | (with_reducible apply subx_bumpA) | (with_reducible apply subx_putS) | (with_reducible apply subx_put) | (with_reducible apply subx_addA) | (with_reducible apply subx_dropA) | (with_reducible apply subx_add hwf) | (with_reducible apply subx_bput hwf) | (with_reducible apply subx_bputS hwf) | (with_reducible apply subx_drop hwf) | (with_reducible apply subx_dropS hwf) | omega | (simp (implicitDefEqProofs := false) only [next_add, next_put, next_drop, next_bump, next_putS, next_dropS]; omega) | (left; simp; done) | (right; left; omega) | (right; right; assumption) | (right; left; simp (implicitDefEqProofs := false) only [next_add, next_put, next_drop, next_bump, next_putS, next_dropS]; omega) | (intro h0; omega) | (intro h0; simp (maxSteps := 4000000) (implicitDefEqProofs := false) (disch := first | assumption | omega | (simp (implicitDefEqProofs := false) only [next_add, next_put, next_drop, next_bump, next_putS, next_dropS, List.length_set, List.length_append, List.length_cons, List.length_nil, List.length_take]; first | done | omega)) only [go_sem, Nat.reduceBEq, reduceIte, Nat.reduceAdd, hget]; done) | (simp (maxSteps := 4000000) (implicitDefEqProofs := false) (disch := first | assumption | omega | (simp (implicitDefEqProofs := false) only [next_add, next_put, next_drop, next_bump, next_putS, next_dropS, List.length_set, List.length_append, List.length_cons, List.length_nil, List.length_take]; first | done | omega)) only [go_sem, Nat.reduceBEq, reduceIte, Nat.reduceAdd, hget]; done)))
      · simp (maxSteps := 4000000) (implicitDefEqProofs := false) (disch := first | assumption | omega | (simp (implicitDefEqProofs := false) only [next_add, next_put, next_drop, next_bump, next_putS, next_dropS, List.length_set, List.length_append, List.length_cons, List.length_nil, List.length_take]; first | done | omega)) only [go_sem, Nat.reduceBEq, reduceIte, Nat.reduceAdd, e1, e2, e3, e4, hkn, hget, hc2, dec_lt_t, dec_lt_f, dec_le_t, dec_le_f, dec_gt_t, dec_gt_f, dec_ge_t, dec_ge_f, dec_eq_t, dec_eq_f, dec_ne_t, dec_ne_f]
        refine loop_st (σ := S0) C13_mono [6, 8, 47, 48, 49, 50, 51, 52, 53, 54, 55, 56, 57, 58, 59, 60, 61, 62, 63, 64, 65, 66, 67] (fun s => [(47, .int .i64 (s.k : Int))])
          (fun s => ((H.put lv (.cells [.int .i64 s.l] 1 true)).put H.next (.cells [.int .i64 v.kind, .int .i64 size.kind, .int .i64 size.n, .string name, slV v.kb v.ki vs.length v.kc, slV v.fb v.fi v.fn v.fc] 6 true)).bump s.m)
          (fun s => s.k ≤ kids.length ∧ measKs v.kind kids (deep + 1) l = measKs v.kind (kids.drop s.k) (deep + 1) s.l ∧ l ≤ s.l ∧ s.l ≤ max l 24 ∧ H.next < s.m) (fun s => kids.length - s.k) ⟨0, l, H.next + 1⟩ (by kernel_rfl) ⟨by simp, rfl, by dsimp only; omega, by dsimp only; omega, by dsimp only; omega⟩ ?_ ?_ ?_
        · simp (maxSteps := 4000000) (implicitDefEqProofs := false) (disch := first | assumption | omega | (simp (implicitDefEqProofs := false) only [next_add, next_put, next_drop, next_bump, next_putS, next_dropS, List.length_set, List.length_append, List.length_cons, List.length_nil, List.length_take]; first | done | omega)) only [go_sem, Nat.reduceBEq, reduceIte, Nat.reduceAdd, envHas_cons, envHas_nil, cast_succ, cast_zero]
        · dsimp only
          ((with_reducible first | refine lex_bump ?_ ?_ | refine lex_sub ?_ ?_); all_goals repeat' (first | (with_reducible exact SubX.refl _ _) | (with_reducible refine SubX.of ?_; assumption) | (with_reducible apply subx_bump) | (with_reducible apply subx_bumpA) | (with_reducible apply subx_putS) | (with_reducible apply subx_put) | (with_reducible apply subx_addA) | (with_reducible apply subx_dropA) | (with_reducible apply subx_add hwf) | (with_reducible apply subx_bput hwf) | (with_reducible apply subx_bputS hwf) | (with_reducible apply subx_drop hwf) | (with_reducible apply subx_dropS hwf) | omega | (simp (implicitDefEqProofs := false) only [next_add, next_put, next_drop, next_bump, next_putS, next_dropS]; omega) | (left; simp; done) | (right; left; omega) | (right; right; assumption) | (right; left; simp (implicitDefEqProofs := false) only [next_add, next_put, next_drop, next_bump, next_putS, next_dropS]; omega) | (intro h0; omega) | (intro h0; simp (maxSteps := 4000000) (implicitDefEqProofs := false) (disch := first | assumption | omega | (simp (implicitDefEqProofs := false) only [next_add, next_put, next_drop, next_bump, next_putS, next_dropS, List.length_set, List.length_append, List.length_cons, List.length_nil, List.length_take]; first | done | omega)) only [go_sem, Nat.reduceBEq, reduceIte, Nat.reduceAdd, hget, e1]; done) | (simp (maxSteps := 4000000) (implicitDefEqProofs := false) (disch := first | assumption | omega | (simp (implicitDefEqProofs := false) only [next_add, next_put, next_drop, next_bump, next_putS, next_dropS, List.length_set, List.length_append, List.length_cons, List.length_nil, List.length_take]; first | done | omega)) only [go_sem, Nat.reduceBEq, reduceIte, Nat.reduceAdd, hget, e1]; done)))
        rintro ⟨k, l2, m⟩ u ⟨g1, g2, g3, g4, g5⟩ ⟨f47, -⟩
        dsimp only at *
        by_cases hlt2 : k < kids.length
        · have hkm := nth_mem hlt2
          have hpk := hkids.nth k hlt2
          have hkk := hpk.kind
          have hmm := measM_bd (nth kids k) (deep + 1) l2
          have hdr := measKs_drop (kind := v.kind) (deep := deep + 1) (l := l2) hlt2
          rw [e1] at g2 hdr
          simp (maxSteps := 4000000) (implicitDefEqProofs := false) (disch := first | assumption | omega | (simp (implicitDefEqProofs := false) only [next_add, next_put, next_drop, next_bump, next_putS, next_dropS, List.length_set, List.length_append, List.length_cons, List.length_nil, List.length_take]; first | done | omega)) only [go_sem, Nat.reduceBEq, reduceIte, Nat.reduceAdd, f47, e1, ho1, dec_lt_t, dec_lt_f, dec_le_t, dec_le_f, dec_gt_t, dec_gt_f, dec_ge_t, dec_ge_f, dec_eq_t, dec_eq_f, dec_ne_t, dec_ne_f]
          rw [if_neg (by omega)] at hdr
          refine ih (nth kids k) hkm (nth vs k) (deep + 1) l2 H0 _ lv hpk hwf0 ?_ hlv ?_ ?_ (by omega) (by omega) (by omega) _ ?_
          · exact fun j o hj => by have q1 := hsub j o hj; have q2 := hwf0 j o hj; have q3 := hwf j o q1; first | (simp (maxSteps := 4000000) (implicitDefEqProofs := false) (disch := first | assumption | omega | (simp (implicitDefEqProofs := false) only [next_add, next_put, next_drop, next_bump, next_putS, next_dropS, List.length_set, List.length_append, List.length_cons, List.length_nil, List.length_take]; first | done | omega)) only [go_sem, Nat.reduceBEq, reduceIte, Nat.reduceAdd]; done) | (simp (maxSteps := 4000000) (implicitDefEqProofs := false) (disch := first | assumption | omega | (simp (implicitDefEqProofs := false) only [next_add, next_put, next_drop, next_bump, next_putS, next_dropS, List.length_set, List.length_append, List.length_cons, List.length_nil, List.length_take]; first | done | omega)) only [go_sem, Nat.reduceBEq, reduceIte, Nat.reduceAdd]; exact q1)
          · first | omega | (simp (maxSteps := 4000000) (implicitDefEqProofs := false) (disch := first | assumption | omega | (simp (implicitDefEqProofs := false) only [next_add, next_put, next_drop, next_bump, next_putS, next_dropS, List.length_set, List.length_append, List.length_cons, List.length_nil, List.length_take]; first | done | omega)) only [go_sem, Nat.reduceBEq, reduceIte, Nat.reduceAdd]; omega) | (simp (maxSteps := 4000000) (implicitDefEqProofs := false) (disch := first | assumption | omega | (simp (implicitDefEqProofs := false) only [next_add, next_put, next_drop, next_bump, next_putS, next_dropS, List.length_set, List.length_append, List.length_cons, List.length_nil, List.length_take]; first | done | omega)) only [go_sem, Nat.reduceBEq, reduceIte, Nat.reduceAdd]; done)
          · simp (maxSteps := 4000000) (implicitDefEqProofs := false) (disch := first | assumption | omega | (simp (implicitDefEqProofs := false) only [next_add, next_put, next_drop, next_bump, next_putS, next_dropS, List.length_set, List.length_append, List.length_cons, List.length_nil, List.length_take]; first | done | omega)) only [go_sem, Nat.reduceBEq, reduceIte, Nat.reduceAdd]
          intro m2 hm2
          simp (implicitDefEqProofs := false) only [next_add, next_put, next_drop, next_bump, next_putS, next_dropS] at hm2
          simp (maxSteps := 4000000) (implicitDefEqProofs := false) (disch := first | assumption | omega | (simp (implicitDefEqProofs := false) only [next_add, next_put, next_drop, next_bump, next_putS, next_dropS, List.length_set, List.length_append, List.length_cons, List.length_nil, List.length_take]; first | done | omega)) only [go_sem, Nat.reduceBEq, reduceIte, Nat.reduceAdd, f47, dec_lt_t, dec_lt_f, dec_le_t, dec_le_f, dec_gt_t, dec_gt_f, dec_ge_t, dec_ge_f, dec_eq_t, dec_eq_f, dec_ne_t, dec_ne_f]
          refine condV_split (fun hq => ?_) (fun hq => ?_)
          · have hq' : (measM (nth kids k) (deep + 1) l2).1 = false := by simpa using hq
            rw [if_neg (by rw [hq']; simp)] at hdr
            rw [g2, hdr] at h
            dsimp only at h
            simp (maxSteps := 4000000) (implicitDefEqProofs := false) (disch := first | assumption | omega | (simp (implicitDefEqProofs := false) only [next_add, next_put, next_drop, next_bump, next_putS, next_dropS, List.length_set, List.length_append, List.length_cons, List.length_nil, List.length_take]; first | done | omega)) only [go_sem, Nat.reduceBEq, reduceIte, Nat.reduceAdd, f47, dec_lt_t, dec_lt_f, dec_le_t, dec_le_f, dec_gt_t, dec_gt_f, dec_ge_t, dec_ge_f, dec_eq_t, dec_eq_f, dec_ne_t, dec_ne_f]
            refine ⟨_, ?_, h m2 (by omega)⟩
            ((with_reducible first | refine lex_bump ?_ ?_ | refine lex_sub ?_ ?_); all_goals repeat' (first | (with_reducible exact SubX.refl _ _) | (with_reducible refine SubX.of ?_; assumption) | (with_reducible apply subx_bump) | (with_reducible apply subx_bumpA) | (with_reducible apply subx_putS) | (with_reducible apply subx_put) | (with_reducible apply subx_addA) | (with_reducible apply subx_dropA) | (with_reducible apply subx_add hwf) | (with_reducible apply subx_bput hwf) | (with_reducible apply subx_bputS hwf) | (with_reducible apply subx_drop hwf) | (with_reducible apply subx_dropS hwf) | omega | (simp (implicitDefEqProofs := false) only [next_add, next_put, next_drop, next_bump, next_putS, next_dropS]; omega) | (left; simp; done) | (right; left; omega) | (right; right; assumption) | (right; left; simp (implicitDefEqProofs := false) only [next_add, next_put, next_drop, next_bump, next_putS, next_dropS]; omega) | (intro h0; omega) | (intro h0; simp (maxSteps := 4000000) (implicitDefEqProofs := false) (disch := first | assumption | omega | (simp (implicitDefEqProofs := false) only [next_add, next_put, next_drop, next_bump, next_putS, next_dropS, List.length_set, List.length_append, List.length_cons, List.length_nil, List.length_take]; first | done | omega)) only [go_sem, Nat.reduceBEq, reduceIte, Nat.reduceAdd, hget]; done) | (simp (maxSteps := 4000000) (implicitDefEqProofs := false) (disch := first | assumption | omega | (simp (implicitDefEqProofs := false) only [next_add, next_put, next_drop, next_bump, next_putS, next_dropS, List.length_set, List.length_append, List.length_cons, List.length_nil, List.length_take]; first | done | omega)) only [go_sem, Nat.reduceBEq, reduceIte, Nat.reduceAdd, hget]; done)))
          · have hq' : (measM (nth kids k) (deep + 1) l2).1 = true := by simpa using hq
            rw [if_pos hq'] at hdr
            simp (maxSteps := 4000000) (implicitDefEqProofs := false) (disch := first | assumption | omega | (simp (implicitDefEqProofs := false) only [next_add, next_put, next_drop, next_bump, next_putS, next_dropS, List.length_set, List.length_append, List.length_cons, List.length_nil, List.length_take]; first | done | omega)) only [go_sem, Nat.reduceBEq, reduceIte, Nat.reduceAdd, f47, dec_lt_t, dec_lt_f, dec_le_t, dec_le_f, dec_gt_t, dec_gt_f, dec_ge_t, dec_ge_f, dec_eq_t, dec_eq_f, dec_ne_t, dec_ne_f]
            refine ⟨⟨k + 1, (measM (nth kids k) (deep + 1) l2).2, m2⟩, ⟨by dsimp only; omega, by dsimp only; rw [g2, hdr], by dsimp only; omega, by have := hmm.2.1 hq'; dsimp only; omega, by dsimp only; omega⟩, ?_, ?_, by dsimp only; omega⟩
            · simp (maxSteps := 4000000) (implicitDefEqProofs := false) (disch := first | assumption | omega | (simp (implicitDefEqProofs := false) only [next_add, next_put, next_drop, next_bump, next_putS, next_dropS, List.length_set, List.length_append, List.length_cons, List.length_nil, List.length_take]; first | done | omega)) only [go_sem, Nat.reduceBEq, reduceIte, Nat.reduceAdd, f47, envHas_cons, envHas_nil, cast_succ, cast_zero]
            · dsimp only
              ((with_reducible first | refine lex_bump ?_ ?_ | refine lex_sub ?_ ?_); all_goals repeat' (first | (with_reducible exact SubX.refl _ _) | (with_reducible refine SubX.of ?_; assumption) | (with_reducible apply subx_bump) | (with_reducible apply subx_bumpA) | (with_reducible apply subx_putS) | (with_reducible apply subx_put) | (with_reducible apply subx_addA) | (with_reducible apply subx_dropA) | (with_reducible apply subx_add hwf) | (with_reducible apply subx_bput hwf) | (with_reducible apply subx_bputS hwf) | (with_reducible apply subx_drop hwf) | (with_reducible apply subx_dropS hwf) | omega | (simp (implicitDefEqProofs := false) only [next_add, next_put, next_drop, next_bump, next_putS, next_dropS]; omega) | (left; simp; done) | (right; left; omega) | (right; right; assumption) | (right; left; simp (implicitDefEqProofs := false) only [next_add, next_put, next_drop, next_bump, next_putS, next_dropS]; omega) | (intro h0; omega) | (intro h0; simp (maxSteps := 4000000) (implicitDefEqProofs := false) (disch := first | assumption | omega | (simp (implicitDefEqProofs := false) only [next_add, next_put, next_drop, next_bump, next_putS, next_dropS, List.length_set, List.length_append, List.length_cons, List.length_nil, List.length_take]; first | done | omega)) only [go_sem, Nat.reduceBEq, reduceIte, Nat.reduceAdd, hget, e1]; done) | (simp (maxSteps := 4000000) (implicitDefEqProofs := false) (disch := first | assumption | omega | (simp (implicitDefEqProofs := false) only [next_add, next_put, next_drop, next_bump, next_putS, next_dropS, List.length_set, List.length_append, List.length_cons, List.length_nil, List.length_take]; first | done | omega)) only [go_sem, Nat.reduceBEq, reduceIte, Nat.reduceAdd, hget, e1]; done)))
        · have hke : k = kids.length := by omega
          rw [hke, List.drop_of_length_le (Nat.le_refl _), measKs] at g2
          rw [e1] at g2
          rw [g2] at h
          dsimp only at h
          simp (maxSteps := 4000000) (implicitDefEqProofs := false) (disch := first | assumption | omega | (simp (implicitDefEqProofs := false) only [next_add, next_put, next_drop, next_bump, next_putS, next_dropS, List.length_set, List.length_append, List.length_cons, List.length_nil, List.length_take]; first | done | omega)) only [go_sem, Nat.reduceBEq, reduceIte, Nat.reduceAdd, f47, dec_lt_t, dec_lt_f, dec_le_t, dec_le_f, dec_gt_t, dec_gt_f, dec_ge_t, dec_ge_f, dec_eq_t, dec_eq_f, dec_ne_t, dec_ne_f]
          refine ⟨_, ?_, h m (by omega)⟩
          ((with_reducible first | refine lex_bump ?_ ?_ | refine lex_sub ?_ ?_); all_goals repeat' (first | (with_reducible exact SubX.refl _ _) | (with_reducible refine SubX.of ?_; assumption) | (with_reducible apply subx_bump) | (with_reducible apply subx_bumpA) | (with_reducible apply subx_putS) | (with_reducible apply subx_put) | (with_reducible apply subx_addA) | (with_reducible apply subx_dropA) | (with_reducible apply subx_add hwf) | (with_reducible apply subx_bput hwf) | (with_reducible apply subx_bputS hwf) | (with_reducible apply subx_drop hwf) | (with_reducible apply subx_dropS hwf) | omega | (simp (implicitDefEqProofs := false) only [next_add, next_put, next_drop, next_bump, next_putS, next_dropS]; omega) | (left; simp; done) | (right; left; omega) | (right; right; assumption) | (right; left; simp (implicitDefEqProofs := false) only [next_add, next_put, next_drop, next_bump, next_putS, next_dropS]; omega) | (intro h0; omega) | (intro h0; simp (maxSteps := 4000000) (implicitDefEqProofs := false) (disch := first | assumption | omega | (simp (implicitDefEqProofs := false) only [next_add, next_put, next_drop, next_bump, next_putS, next_dropS, List.length_set, List.length_append, List.length_cons, List.length_nil, List.length_take]; first | done | omega)) only [go_sem, Nat.reduceBEq, reduceIte, Nat.reduceAdd, hget]; done) | (simp (maxSteps := 4000000) (implicitDefEqProofs := false) (disch := first | assumption | omega | (simp (implicitDefEqProofs := false) only [next_add, next_put, next_drop, next_bump, next_putS, next_dropS, List.length_set, List.length_append, List.length_cons, List.length_nil, List.length_take]; first | done | omega)) only [go_sem, Nat.reduceBEq, reduceIte, Nat.reduceAdd, hget]; done)))
      · simp (maxSteps := 4000000) (implicitDefEqProofs := false) (disch := first | assumption | omega | (simp (implicitDefEqProofs := false) only [next_add, next_put, next_drop, next_bump, next_putS, next_dropS, List.length_set, List.length_append, List.length_cons, List.length_nil, List.length_take]; first | done | omega)) only [go_sem, Nat.reduceBEq, reduceIte, Nat.reduceAdd, e1, e2, e3, e4, hkn, hget, hc2, dec_lt_t, dec_lt_f, dec_le_t, dec_le_f, dec_gt_t, dec_gt_f, dec_ge_t, dec_ge_f, dec_eq_t, dec_eq_f, dec_ne_t, dec_ne_f]
        refine loop_st (σ := S0) C13_mono [6, 8, 47, 48, 49, 50, 51, 52, 53, 54, 55, 56, 57, 58, 59, 60, 61, 62, 63, 64, 65, 66, 67] (fun s => [(47, .int .i64 (s.k : Int))])
          (fun s => ((H.put lv (.cells [.int .i64 s.l] 1 true)).put H.next (.cells [.int .i64 v.kind, .int .i64 size.kind, .int .i64 size.n, .string name, slV v.kb v.ki vs.length v.kc, slV v.fb v.fi v.fn v.fc] 6 true)).bump s.m)
          (fun s => s.k ≤ kids.length ∧ measKs v.kind kids (deep + 1) l = measKs v.kind (kids.drop s.k) (deep + 1) s.l ∧ l ≤ s.l ∧ s.l ≤ max l 24 ∧ H.next < s.m) (fun s => kids.length - s.k) ⟨0, l, H.next + 1⟩ (by kernel_rfl) ⟨by simp, rfl, by dsimp only; omega, by dsimp only; omega, by dsimp only; omega⟩ ?_ ?_ ?_
        · simp (maxSteps := 4000000) (implicitDefEqProofs := false) (disch := first | assumption | omega | (simp (implicitDefEqProofs := false) only [next_add, next_put, next_drop, next_bump, next_putS, next_dropS, List.length_set, List.length_append, List.length_cons, List.length_nil, List.length_take]; first | done | omega)) only [go_sem, Nat.reduceBEq, reduceIte, Nat.reduceAdd, envHas_cons, envHas_nil, cast_succ, cast_zero]
        · dsimp only
          ((with_reducible first | refine lex_bump ?_ ?_ | refine lex_sub ?_ ?_); all_goals repeat' (first | (with_reducible exact SubX.refl _ _) | (with_reducible refine SubX.of ?_; assumption) | (with_reducible apply subx_bump) | (with_reducible apply subx_bumpA) | (with_reducible apply subx_putS) | (with_reducible apply subx_put) | (with_reducible apply subx_addA) | (with_reducible apply subx_dropA) | (with_reducible apply subx_add hwf) | (with_reducible apply subx_bput hwf) | (with_reducible apply subx_bputS hwf) | (with_reducible apply subx_drop hwf) | (with_reducible apply subx_dropS hwf) | omega | (simp (implicitDefEqProofs := false) only [next_add, next_put, next_drop, next_bump, next_putS, next_dropS]; omega) | (left; simp; done) | (right; left; omega) | (right; right; assumption) | (right; left; simp (implicitDefEqProofs := false) only [next_add, next_put, next_drop, next_bump, next_putS, next_dropS]; omega) | (intro h0; omega) | (intro h0; simp (maxSteps := 4000000) (implicitDefEqProofs := false) (disch := first | assumption | omega | (simp (implicitDefEqProofs := false) only [next_add, next_put, next_drop, next_bump, next_putS, next_dropS, List.length_set, List.length_append, List.length_cons, List.length_nil, List.length_take]; first | done | omega)) only [go_sem, Nat.reduceBEq, reduceIte, Nat.reduceAdd, hget, e1]; done) | (simp (maxSteps := 4000000) (implicitDefEqProofs := false) (disch := first | assumption | omega | (simp (implicitDefEqProofs := false) only [next_add, next_put, next_drop, next_bump, next_putS, next_dropS, List.length_set, List.length_append, List.length_cons, List.length_nil, List.length_take]; first | done | omega)) only [go_sem, Nat.reduceBEq, reduceIte, Nat.reduceAdd, hget, e1]; done)))
        rintro ⟨k, l2, m⟩ u ⟨g1, g2, g3, g4, g5⟩ ⟨f47, -⟩
        dsimp only at *
        by_cases hlt2 : k < kids.length
        · have hkm := nth_mem hlt2
          have hpk := hkids.nth k hlt2
          have hkk := hpk.kind
          have hmm := measM_bd (nth kids k) (deep + 1) l2
          have hdr := measKs_drop (kind := v.kind) (deep := deep + 1) (l := l2) hlt2
          rw [e1] at g2 hdr
          simp (maxSteps := 4000000) (implicitDefEqProofs := false) (disch := first | assumption | omega | (simp (implicitDefEqProofs := false) only [next_add, next_put, next_drop, next_bump, next_putS, next_dropS, List.length_set, List.length_append, List.length_cons, List.length_nil, List.length_take]; first | done | omega)) only [go_sem, Nat.reduceBEq, reduceIte, Nat.reduceAdd, f47, e1, ho1, dec_lt_t, dec_lt_f, dec_le_t, dec_le_f, dec_gt_t, dec_gt_f, dec_ge_t, dec_ge_f, dec_eq_t, dec_eq_f, dec_ne_t, dec_ne_f]
          refine gSd_split (fun hs => ?_) (fun hs => ?_)
          · have hs' : ¬ (nth kids k).kind ≠ 1 := by rw [← hkk]; simpa using hs
            rw [if_neg (fun q => hs' q.2)] at hdr
            refine ih (nth kids k) hkm (nth vs k) (deep + 1) l2 H0 _ lv hpk hwf0 ?_ hlv ?_ ?_ (by omega) (by omega) (by omega) _ ?_
            · exact fun j o hj => by have q1 := hsub j o hj; have q2 := hwf0 j o hj; have q3 := hwf j o q1; first | (simp (maxSteps := 4000000) (implicitDefEqProofs := false) (disch := first | assumption | omega | (simp (implicitDefEqProofs := false) only [next_add, next_put, next_drop, next_bump, next_putS, next_dropS, List.length_set, List.length_append, List.length_cons, List.length_nil, List.length_take]; first | done | omega)) only [go_sem, Nat.reduceBEq, reduceIte, Nat.reduceAdd]; done) | (simp (maxSteps := 4000000) (implicitDefEqProofs := false) (disch := first | assumption | omega | (simp (implicitDefEqProofs := false) only [next_add, next_put, next_drop, next_bump, next_putS, next_dropS, List.length_set, List.length_append, List.length_cons, List.length_nil, List.length_take]; first | done | omega)) only [go_sem, Nat.reduceBEq, reduceIte, Nat.reduceAdd]; exact q1)
            · first | omega | (simp (maxSteps := 4000000) (implicitDefEqProofs := false) (disch := first | assumption | omega | (simp (implicitDefEqProofs := false) only [next_add, next_put, next_drop, next_bump, next_putS, next_dropS, List.length_set, List.length_append, List.length_cons, List.length_nil, List.length_take]; first | done | omega)) only [go_sem, Nat.reduceBEq, reduceIte, Nat.reduceAdd]; omega) | (simp (maxSteps := 4000000) (implicitDefEqProofs := false) (disch := first | assumption | omega | (simp (implicitDefEqProofs := false) only [next_add, next_put, next_drop, next_bump, next_putS, next_dropS, List.length_set, List.length_append, List.length_cons, List.length_nil, List.length_take]; first | done | omega)) only [go_sem, Nat.reduceBEq, reduceIte, Nat.reduceAdd]; done)
            · simp (maxSteps := 4000000) (implicitDefEqProofs := false) (disch := first | assumption | omega | (simp (implicitDefEqProofs := false) only [next_add, next_put, next_drop, next_bump, next_putS, next_dropS, List.length_set, List.length_append, List.length_cons, List.length_nil, List.length_take]; first | done | omega)) only [go_sem, Nat.reduceBEq, reduceIte, Nat.reduceAdd]
            intro m2 hm2
            simp (implicitDefEqProofs := false) only [next_add, next_put, next_drop, next_bump, next_putS, next_dropS] at hm2
            simp (maxSteps := 4000000) (implicitDefEqProofs := false) (disch := first | assumption | omega | (simp (implicitDefEqProofs := false) only [next_add, next_put, next_drop, next_bump, next_putS, next_dropS, List.length_set, List.length_append, List.length_cons, List.length_nil, List.length_take]; first | done | omega)) only [go_sem, Nat.reduceBEq, reduceIte, Nat.reduceAdd, f47, gK_some, dec_lt_t, dec_lt_f, dec_le_t, dec_le_f, dec_gt_t, dec_gt_f, dec_ge_t, dec_ge_f, dec_eq_t, dec_eq_f, dec_ne_t, dec_ne_f]
            refine condV_split (fun hq => ?_) (fun hq => ?_)
            · have hq' : (measM (nth kids k) (deep + 1) l2).1 = false := by simpa using hq
              rw [if_neg (by rw [hq']; simp)] at hdr
              rw [g2, hdr] at h
              dsimp only at h
              simp (maxSteps := 4000000) (implicitDefEqProofs := false) (disch := first | assumption | omega | (simp (implicitDefEqProofs := false) only [next_add, next_put, next_drop, next_bump, next_putS, next_dropS, List.length_set, List.length_append, List.length_cons, List.length_nil, List.length_take]; first | done | omega)) only [go_sem, Nat.reduceBEq, reduceIte, Nat.reduceAdd, f47, gK_some, dec_lt_t, dec_lt_f, dec_le_t, dec_le_f, dec_gt_t, dec_gt_f, dec_ge_t, dec_ge_f, dec_eq_t, dec_eq_f, dec_ne_t, dec_ne_f]
              refine ⟨_, ?_, h m2 (by omega)⟩
              ((with_reducible first | refine lex_bump ?_ ?_ | refine lex_sub ?_ ?_); all_goals repeat' (first | (with_reducible exact SubX.refl _ _) | (with_reducible refine SubX.of ?_; assumption) | (with_reducible apply subx_bump) | (with_reducible apply subx_bumpA) | (with_reducible apply subx_putS) | (with_reducible apply subx_put) | (with_reducible apply subx_addA) | (with_reducible apply subx_dropA) | (with_reducible apply subx_add hwf) | (with_reducible apply subx_bput hwf) | (with_reducible apply subx_bputS hwf) | (with_reducible apply subx_drop hwf) | (with_reducible apply subx_dropS hwf) | omega | (simp (implicitDefEqProofs := false) only [next_add, next_put, next_drop, next_bump, next_putS, next_dropS]; omega) | (left; simp; done) | (right; left; omega) | (right; right; assumption) | (right; left; simp (implicitDefEqProofs := false) only [next_add, next_put, next_drop, next_bump, next_putS, next_dropS]; omega) | (intro h0; omega) | (intro h0; simp (maxSteps := 4000000) (implicitDefEqProofs := false) (disch := first | assumption | omega | (simp (implicitDefEqProofs := false) only [next_add, next_put, next_drop, next_bump, next_putS, next_dropS, List.length_set, List.length_append, List.length_cons, List.length_nil, List.length_take]; first | done | omega)) only [go_sem, Nat.reduceBEq, reduceIte, Nat.reduceAdd, hget]; done) | (simp (maxSteps := 4000000) (implicitDefEqProofs := false) (disch := first | assumption | omega | (simp (implicitDefEqProofs := false) only [next_add, next_put, next_drop, next_bump, next_putS, next_dropS, List.length_set, List.length_append, List.length_cons, List.length_nil, List.length_take]; first | done | omega)) only [go_sem, Nat.reduceBEq, reduceIte, Nat.reduceAdd, hget]; done)))
            · have hq' : (measM (nth kids k) (deep + 1) l2).1 = true := by simpa using hq
              rw [if_pos hq'] at hdr
              simp (maxSteps := 4000000) (implicitDefEqProofs := false) (disch := first | assumption | omega | (simp (implicitDefEqProofs := false) only [next_add, next_put, next_drop, next_bump, next_putS, next_dropS, List.length_set, List.length_append, List.length_cons, List.length_nil, List.length_take]; first | done | omega)) only [go_sem, Nat.reduceBEq, reduceIte, Nat.reduceAdd, f47, gK_some, dec_lt_t, dec_lt_f, dec_le_t, dec_le_f, dec_gt_t, dec_gt_f, dec_ge_t, dec_ge_f, dec_eq_t, dec_eq_f, dec_ne_t, dec_ne_f]
              refine ⟨⟨k + 1, (measM (nth kids k) (deep + 1) l2).2, m2⟩, ⟨by dsimp only; omega, by dsimp only; rw [g2, hdr], by dsimp only; omega, by have := hmm.2.1 hq'; dsimp only; omega, by dsimp only; omega⟩, ?_, ?_, by dsimp only; omega⟩
              · simp (maxSteps := 4000000) (implicitDefEqProofs := false) (disch := first | assumption | omega | (simp (implicitDefEqProofs := false) only [next_add, next_put, next_drop, next_bump, next_putS, next_dropS, List.length_set, List.length_append, List.length_cons, List.length_nil, List.length_take]; first | done | omega)) only [go_sem, Nat.reduceBEq, reduceIte, Nat.reduceAdd, f47, envHas_cons, envHas_nil, cast_succ, cast_zero]
              · dsimp only
                ((with_reducible first | refine lex_bump ?_ ?_ | refine lex_sub ?_ ?_); all_goals repeat' (first | (with_reducible exact SubX.refl _ _) | (with_reducible refine SubX.of ?_; assumption) | (with_reducible apply subx_bump) | (with_reducible apply subx_bumpA) | (with_reducible apply subx_putS) | (with_reducible apply subx_put) | (with_reducible apply subx_addA) | (with_reducible apply subx_dropA) | (with_reducible apply subx_add hwf) | (with_reducible apply subx_bput hwf) | (with_reducible apply subx_bputS hwf) | (with_reducible apply subx_drop hwf) | (with_reducible apply subx_dropS hwf) | omega | (simp (implicitDefEqProofs := false) only [next_add, next_put, next_drop, next_bump, next_putS, next_dropS]; omega) | (left; simp; done) | (right; left; omega) | (right; right; assumption) | (right; left; simp (implicitDefEqProofs := false) only [next_add, next_put, next_drop, next_bump, next_putS, next_dropS]; omega) | (intro h0; omega) | (intro h0; simp (maxSteps := 4000000) (implicitDefEqProofs := false) (disch := first | assumption | omega | (simp (implicitDefEqProofs := false) only [next_add, next_put, next_drop, next_bump, next_putS, next_dropS, List.length_set, List.length_append, List.length_cons, List.length_nil, List.length_take]; first | done | omega)) only [go_sem, Nat.reduceBEq, reduceIte, Nat.reduceAdd, hget, e1]; done) | (simp (maxSteps := 4000000) (implicitDefEqProofs := false) (disch := first | assumption | omega | (simp (implicitDefEqProofs := false) only [next_add, next_put, next_drop, next_bump, next_putS, next_dropS, List.length_set, List.length_append, List.length_cons, List.length_nil, List.length_take]; first | done | omega)) only [go_sem, Nat.reduceBEq, reduceIte, Nat.reduceAdd, hget, e1]; done)))
          · have hs' : (nth kids k).kind ≠ 1 := by rw [← hkk]; simpa using hs
            have hs2 : ((nth vs k).kind != 1) = true := by simpa using hs
            rw [if_pos ⟨rfl, hs'⟩] at hdr
            rw [g2, hdr] at h
            dsimp only at h
            simp (maxSteps := 4000000) (implicitDefEqProofs := false) (disch := first | assumption | omega | (simp (implicitDefEqProofs := false) only [next_add, next_put, next_drop, next_bump, next_putS, next_dropS, List.length_set, List.length_append, List.length_cons, List.length_nil, List.length_take]; first | done | omega)) only [go_sem, Nat.reduceBEq, reduceIte, Nat.reduceAdd, f47, hs2, dec_lt_t, dec_lt_f, dec_le_t, dec_le_f, dec_gt_t, dec_gt_f, dec_ge_t, dec_ge_f, dec_eq_t, dec_eq_f, dec_ne_t, dec_ne_f]
            refine ⟨_, ?_, h (m + 1) (by omega)⟩
            ((with_reducible first | refine lex_bump ?_ ?_ | refine lex_sub ?_ ?_); all_goals repeat' (first | (with_reducible exact SubX.refl _ _) | (with_reducible refine SubX.of ?_; assumption) | (with_reducible apply subx_bump) | (with_reducible apply subx_bumpA) | (with_reducible apply subx_putS) | (with_reducible apply subx_put) | (with_reducible apply subx_addA) | (with_reducible apply subx_dropA) | (with_reducible apply subx_add hwf) | (with_reducible apply subx_bput hwf) | (with_reducible apply subx_bputS hwf) | (with_reducible apply subx_drop hwf) | (with_reducible apply subx_dropS hwf) | omega | (simp (implicitDefEqProofs := false) only [next_add, next_put, next_drop, next_bump, next_putS, next_dropS]; omega) | (left; simp; done) | (right; left; omega) | (right; right; assumption) | (right; left; simp (implicitDefEqProofs := false) only [next_add, next_put, next_drop, next_bump, next_putS, next_dropS]; omega) | (intro h0; omega) | (intro h0; simp (maxSteps := 4000000) (implicitDefEqProofs := false) (disch := first | assumption | omega | (simp (implicitDefEqProofs := false) only [next_add, next_put, next_drop, next_bump, next_putS, next_dropS, List.length_set, List.length_append, List.length_cons, List.length_nil, List.length_take]; first | done | omega)) only [go_sem, Nat.reduceBEq, reduceIte, Nat.reduceAdd, hget]; done) | (simp (maxSteps := 4000000) (implicitDefEqProofs := false) (disch := first | assumption | omega | (simp (implicitDefEqProofs := false) only [next_add, next_put, next_drop, next_bump, next_putS, next_dropS, List.length_set, List.length_append, List.length_cons, List.length_nil, List.length_take]; first | done | omega)) only [go_sem, Nat.reduceBEq, reduceIte, Nat.reduceAdd, hget]; done)))
        · have hke : k = kids.length := by omega
          rw [hke, List.drop_of_length_le (Nat.le_refl _), measKs] at g2
          rw [e1] at g2
          rw [g2] at h
          dsimp only at h
          simp (maxSteps := 4000000) (implicitDefEqProofs := false) (disch := first | assumption | omega | (simp (implicitDefEqProofs := false) only [next_add, next_put, next_drop, next_bump, next_putS, next_dropS, List.length_set, List.length_append, List.length_cons, List.length_nil, List.length_take]; first | done | omega)) only [go_sem, Nat.reduceBEq, reduceIte, Nat.reduceAdd, f47, dec_lt_t, dec_lt_f, dec_le_t, dec_le_f, dec_gt_t, dec_gt_f, dec_ge_t, dec_ge_f, dec_eq_t, dec_eq_f, dec_ne_t, dec_ne_f]
          refine ⟨_, ?_, h m (by omega)⟩
          ((with_reducible first | refine lex_bump ?_ ?_ | refine lex_sub ?_ ?_); all_goals repeat' (first | (with_reducible exact SubX.refl _ _) | (with_reducible refine SubX.of ?_; assumption) | (with_reducible apply subx_bump) | (with_reducible apply subx_bumpA) | (with_reducible apply subx_putS) | (with_reducible apply subx_put) | (with_reducible apply subx_addA) | (with_reducible apply subx_dropA) | (with_reducible apply subx_add hwf) | (with_reducible apply subx_bput hwf) | (with_reducible apply subx_bputS hwf) | (with_reducible apply subx_drop hwf) | (with_reducible apply subx_dropS hwf) | omega | (simp (implicitDefEqProofs := false) only [next_add, next_put, next_drop, next_bump, next_putS, next_dropS]; omega) | (left; simp; done) | (right; left; omega) | (right; right; assumption) | (right; left; simp (implicitDefEqProofs := false) only [next_add, next_put, next_drop, next_bump, next_putS, next_dropS]; omega) | (intro h0; omega) | (intro h0; simp (maxSteps := 4000000) (implicitDefEqProofs := false) (disch := first | assumption | omega | (simp (implicitDefEqProofs := false) only [next_add, next_put, next_drop, next_bump, next_putS, next_dropS, List.length_set, List.length_append, List.length_cons, List.length_nil, List.length_take]; first | done | omega)) only [go_sem, Nat.reduceBEq, reduceIte, Nat.reduceAdd, hget]; done) | (simp (maxSteps := 4000000) (implicitDefEqProofs := false) (disch := first | assumption | omega | (simp (implicitDefEqProofs := false) only [next_add, next_put, next_drop, next_bump, next_putS, next_dropS, List.length_set, List.length_append, List.length_cons, List.length_nil, List.length_take]; first | done | omega)) only [go_sem, Nat.reduceBEq, reduceIte, Nat.reduceAdd, hget]; done)))
  · rw [if_neg hk] at h
    dsimp only at h
    have k2 : kind ≠ 2 := fun q => hk (.inl q)
    have k3 : kind ≠ 3 := fun q => hk (.inr (.inl q))
    have k4 : kind ≠ 4 := fun q => hk (.inr (.inr q))
    simp (maxSteps := 4000000) (implicitDefEqProofs := false) (disch := first | assumption | omega | (simp (implicitDefEqProofs := false) only [next_add, next_put, next_drop, next_bump, next_putS, next_dropS, List.length_set, List.length_append, List.length_cons, List.length_nil, List.length_take]; first | done | omega)) only [go_sem, Nat.reduceBEq, reduceIte, Nat.reduceAdd, e1, e2, e3, e4, hkn, hget, dec_lt_t, dec_lt_f, dec_le_t, dec_le_f, dec_gt_t, dec_gt_f, dec_ge_t, dec_ge_f, dec_eq_t, dec_eq_f, dec_ne_t, dec_ne_f]
    refine ⟨_, ?_, h (H.next + 1) (by omega)⟩
    ((with_reducible first | refine lex_bump ?_ ?_ | refine lex_sub ?_ ?_); all_goals repeat' (first | (with_reducible exact SubX.refl _ _) | (with_reducible refine SubX.of ?_; assumption) | (with_reducible apply subx_bump) | (with_reducible apply subx_bumpA) | (with_reducible apply subx_putS) | (with_reducible apply subx_put) | (with_reducible apply subx_addA) | (with_reducible apply subx_dropA) | (with_reducible apply subx_add hwf) | (with_reducible apply subx_bput hwf) | (with_reducible apply subx_bputS hwf) | (with_reducible apply subx_drop hwf) | (with_reducible apply subx_dropS hwf) | omega | (simp (implicitDefEqProofs := false) only [next_add, next_put, next_drop, next_bump, next_putS, next_dropS]; omega) | (left; simp; done) | (right; left; omega) | (right; right; assumption) | (right; left; simp (implicitDefEqProofs := false) only [next_add, next_put, next_drop, next_bump, next_putS, next_dropS]; omega) | (intro h0; omega) | (intro h0; simp (maxSteps := 4000000) (implicitDefEqProofs := false) (disch := first | assumption | omega | (simp (implicitDefEqProofs := false) only [next_add, next_put, next_drop, next_bump, next_putS, next_dropS, List.length_set, List.length_append, List.length_cons, List.length_nil, List.length_take]; first | done | omega)) only [go_sem, Nat.reduceBEq, reduceIte, Nat.reduceAdd, hget]; done) | (simp (maxSteps := 4000000) (implicitDefEqProofs := false) (disch := first | assumption | omega | (simp (implicitDefEqProofs := false) only [next_add, next_put, next_drop, next_bump, next_putS, next_dropS, List.length_set, List.length_append, List.length_cons, List.length_nil, List.length_take]; first | done | omega)) only [go_sem, Nat.reduceBEq, reduceIte, Nat.reduceAdd, hget]; done)))
end Go.LH.Plan
