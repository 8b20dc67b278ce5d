/-
  The logical heap: loads, stores and what is made do there what they do in the model.
-/
import Derived.Test.YtmjlmlipnejbfaaGreatDoorLH5
set_option linter.all false
namespace Go.LH
variable {P : Program} {m : Emb} {H : AHeap} {w : World}

theorem VR.cells {v v' : Value} (h : VR m v v') : VRs m v.cells.toList v'.cells.toList := by
  have h0 := h
  cases h
  case agg xs xs' h => exact h
  all_goals exact .cons _ _ _ _ h0 .nil

theorem load_run {t : TypeId} {i o : Nat} {v : Value} (hR : R P m H w) (h : H.load P t i o = some v) {l : Loc} (hl : m i = some l) :
    ∃ v', (loadVar t ⟨l.block, l.off + o, none⟩).run P w = .ok v' w ∧ VR m v v' := by
  unfold AHeap.load at h
  split at h
  · rename_i n ha hs
    cases hc : H.cellsAt i o n with
    | none => rw [hc] at h; cases h
    | some cs =>
      rw [hc] at h; cases h
      obtain ⟨l', cs', hl', hlen, hv, hr⟩ := hR.cellsAt hc
      rw [hl] at hl'; cases hl'
      refine ⟨.agg cs'.toArray, ?_, .agg _ _ hv⟩
      have hld : (loadCells ⟨l.block, l.off + o, none⟩ cs'.length).run P w = .ok cs'.toArray w :=
        run_loadCells_list (P := P) w _ cs' (fun j v hj => by rw [Addr.add_mid]; exact hr j v hj)
      rw [← hv.length, hlen] at hld
      unfold loadVar
      simp [run_isAgg ha, run_sizeOf hs, hld]
  · rename_i n ha hs
    cases hc : H.cellsAt i o 1 with
    | none => rw [hc] at h; cases h
    | some cs =>
      rw [hc] at h
      obtain ⟨l', cs', hl', hlen, hv, hr⟩ := hR.cellsAt hc
      rw [hl] at hl'; cases hl'
      match cs, hlen with
      | [c], _ =>
        cases h
        cases hv with
        | cons _ c' _ _ h1 h2 =>
          cases h2
          refine ⟨c', ?_, h1⟩
          have := hr 0 c' rfl
          unfold loadVar
          rw [Sem.run_bind, run_isAgg ha]
          simp only [Result.andThen_ok, Bool.false_eq_true, if_false, run_load]
          rw [Nat.add_zero] at this
          rw [this]
  · cases h

theorem store_run {t : TypeId} {i o : Nat} {v v' : Value} {H' : AHeap} (hR : R P m H w) (h : H.store P t i o v = some H') {l : Loc} (hl : m i = some l) (hv : VR m v v') :
    ∃ w', (storeVar t ⟨l.block, l.off + o, none⟩ v').run P w = .ok () w' ∧ R P m H' w' ∧ Kept m H w m H' w' := by
  unfold AHeap.store at h
  split at h
  · rename_i hs
    have hvs := hv.cells
    obtain ⟨h1, h2, h3, h4⟩ := hR.setAt hl h hvs
    refine ⟨_, ?_, h3, h4⟩
    have hst := run_storeCells_cells (P := P) l.block (l.off + o) v'.cells.toList 0 w (fun j hj => by simpa using (h1 j hj).1) (fun j hj => by simpa using (h1 j hj).2) h2
    unfold storeVar
    have hlen := hvs.length
    rw [hlen] at hs
    simp only [Array.length_toList] at hs
    simp only [Sem.run_bind, run_sizeOf hs, Result.andThen_ok]
    simp only [ne_eq, not_true_eq_false, if_false]
    simpa using hst
  · cases h

/-- A new block is a new object. -/
theorem new_run {cs : List Value} {c : Array Value} (T : TypeId) (e : Nat) (hR : R P m H w) (hv : VRs m cs c.toList) (h1 : oneCells cs = true) :
    ∃ m' l, m' H.next = some l ∧ l.block = w.heap.size ∧ l.off = 0 ∧ R P m' (H.add (.cells cs e true)) (w.alloc (.cells c T)) ∧ Kept m H w m' (H.add (.cells cs e true)) (w.alloc (.cells c T)) := by
  have := hR.newCells (cs' := c.toList) [] T e hv h1
  simp only [List.append_nil] at this
  exact ⟨_, ⟨w.heap.size, 0, cs.length, cs.length + 0, e⟩, (by unfold Emb.ext; rw [if_pos rfl]; rfl), rfl, rfl, this.1, this.2⟩
theorem new_ptr {m' : Emb} {i n : Nat} {l : Loc} (h : m' i = some l) (hb : l.block = n) (ho : l.off = 0) : VR m' (ptrTo i) (.pointer (some ⟨n, 0, none⟩)) := by
  have := VR.ptr (m := m') i 0 l h
  rw [hb, ho] at this
  exact this

/- building -/
theorem fold_splice : ∀ (vs : List Value) (off i : Nat) (cs : Array Value),
    ((vs.zipIdx i).foldl (fun cs (c, j) => cs.setIfInBounds (off + j) c) cs).toList = if off + i + vs.length ≤ cs.size then splice cs.toList (off + i) vs else ((vs.zipIdx i).foldl (fun cs (c, j) => cs.setIfInBounds (off + j) c) cs).toList
  | [], off, i, cs => by
    simp [splice]
  | v :: vs, off, i, cs => by
    by_cases h : off + i + (v :: vs).length ≤ cs.size
    · rw [if_pos h]
      simp only [List.zipIdx_cons, List.foldl_cons]
      rw [fold_splice vs off (i + 1) (cs.setIfInBounds (off + i) v)]
      simp only [List.length_cons] at h
      rw [if_pos (by simp; omega)]
      apply List.ext_getElem?
      intro k
      rw [get_splice (by simp; omega), get_splice (by simp; omega)]
      simp only [Array.toList_setIfInBounds, List.getElem?_set, List.length_cons, Array.length_toList]
      by_cases h1 : k < off + i
      · rw [if_pos (by omega), if_pos h1, if_neg (by omega)]
      · rw [if_neg h1]
        by_cases h2 : k = off + i
        · subst h2
          rw [if_pos (by omega), if_pos rfl, if_pos (by omega), if_pos (by omega)]
          simp
        · rw [if_neg (by omega)]
          by_cases h3 : k < off + i + (vs.length + 1)
          · rw [if_pos (by omega), if_pos h3]
            obtain ⟨q, rfl⟩ : ∃ q, k = off + (i + 1) + q := ⟨k - (off + (i + 1)), by omega⟩
            rw [show off + (i + 1) + q - (off + (i + 1)) = q by omega, show off + (i + 1) + q - (off + i) = q + 1 by omega]
            simp
          · rw [if_neg (by omega), if_neg h3, if_neg (by omega)]
    · rw [if_neg h]

theorem fill_run {place : Nat → Option (Nat × Nat)} : ∀ (parts parts' : List (Nat × Value)) (cells : List Value) (cells' : Array Value) (r : List Value),
    afill place cells parts = some r → VRs m cells cells'.toList → parts.length = parts'.length → (∀ (k : Nat) (p p' : Nat × Value), parts[k]? = some p → parts'[k]? = some p' → p.1 = p'.1 ∧ VR m p.2 p'.2) →
    ∃ r', Instr.fill place cells' parts' = some r' ∧ VRs m r r'.toList
  | [], [], cells, cells', r, h, hv, _, _ => by
    simp [afill] at h; subst h
    exact ⟨cells', by simp [Instr.fill], hv⟩
  | (i, v) :: rest, (i', v') :: rest', cells, cells', r, h, hv, hl, hp => by
    obtain ⟨e1, e2⟩ := hp 0 _ _ rfl rfl
    dsimp only at e1 e2
    subst e1
    simp only [afill] at h
    simp only [Instr.fill]
    split at h
    · rename_i off size hpl
      split at h
      · rename_i hc
        obtain ⟨hc1, hc2⟩ := hc
        have hcv := e2.cells
        have hcl := hcv.length
        have hsz : v'.cells.size = size := by rw [← hc1, hcl]; simp
        have hcs : cells'.size = cells.length := by have := hv.length; simp at this; omega
        rw [hpl]
        dsimp only
        rw [if_neg (by simp [hsz]; omega)]
        have hfold := fold_splice v'.cells.toList off 0 cells'
        rw [if_pos (by simp; omega)] at hfold
        refine fill_run rest rest' _ _ r h ?_ (by simpa using hl) (fun k p p' a b => hp (k + 1) p p' (by simpa using a) (by simpa using b))
        have hz : (v'.cells.zipIdx.foldl (fun cs x => cs.setIfInBounds (off + x.2) x.1) cells').toList = splice cells'.toList (off + 0) v'.cells.toList := by
          rw [← hfold, ← Array.foldl_toList]
          simp
        rw [hz]
        unfold splice
        rw [Nat.add_zero, hcl]
        exact (hv.take off).append (hcv.append (hv.drop _))
      · cases h
    · cases h
  | [], _ :: _, _, _, _, _, _, hl, _ => by simp at hl
  | _ :: _, [], _, _, _, _, _, hl, _ => by simp at hl

theorem mapM_sizes {fs : List Field} (h : fs.all (fun f => (tsz P f.type).isSome) = true) (w : World) :
    ∃ ps, (fs.mapM fun (f : Field) => (do pure (f.offset, ← sizeOf f.type) : Sem (Nat × Nat))).run P w = .ok ps w ∧ ps.length = fs.length ∧ ∀ (k : Nat) (f : Field), fs[k]? = some f → ps[k]? = (tsz P f.type).map fun n => (f.offset, n) := by
  induction fs with
  | nil => exact ⟨[], by simp, rfl, by simp⟩
  | cons f fs ih =>
    simp only [List.all_cons, Bool.and_eq_true] at h
    obtain ⟨ps, h1, h2, h3⟩ := ih h.2
    obtain ⟨n, hn⟩ := Option.isSome_iff_exists.1 h.1
    refine ⟨(f.offset, n) :: ps, ?_, by simp [h2], fun k g hg => ?_⟩
    · simp only [List.mapM_cons, Sem.run_bind, run_sizeOf hn, Result.andThen_ok, Sem.run_pure, h1]
    · cases k with
      | zero => simp at hg; subst hg; simp [hn]
      | succ k => simpa using h3 k g (by simpa using hg)

theorem build_run {t : TypeId} {parts : List (Nat × Value)} {parts' : Array (Nat × Value)} {v : Value} (h : abuild P t parts = some v) (hl : parts.length = parts'.toList.length)
    (hp : ∀ (k : Nat) (p p' : Nat × Value), parts[k]? = some p → parts'.toList[k]? = some p' → p.1 = p'.1 ∧ VR m p.2 p'.2) (hz : ∀ z, tzero P t = some z → z.all plainB = true) (w : World) :
    ∃ v', (Instr.build t parts').run P w = .ok v' w ∧ VR m v v' := by
  unfold abuild at h
  split at h
  · rename_i zero fs hz0 hu
    split at h
    · rename_i hall
      obtain ⟨zv, hzr, hzc⟩ := run_zeroValue hz0 w
      obtain ⟨ps, h1, h2, h3⟩ := mapM_sizes hall w
      have hzp := hz _ hz0
      cases hf : afill (fieldPlaces P fs) zero parts with
      | none => rw [hf] at h; cases h
      | some r =>
        rw [hf] at h; cases h
        have hvz : VRs m zero zv.cells.toList := by
          rw [hzc]
          exact VRs.of_get rfl fun i a b e e' => by rw [e] at e'; cases e'; exact (plain_of_B (List.all_eq_true.1 hzp a (List.mem_of_getElem? e))).vr
        have hpl : (fun i => ps.toArray[i]?) = fieldPlaces P fs := by
          funext i
          unfold fieldPlaces
          simp only [List.getElem?_toArray]
          cases hfi : fs[i]? with
          | none =>
            simp only []
            rw [List.getElem?_eq_none]
            rw [h2]; simpa using hfi
          | some f => exact h3 i f (by simpa using hfi)
        rw [← hpl] at hf
        obtain ⟨r', hr1, hr2⟩ := fill_run parts parts'.toList zero zv.cells r hf hvz hl hp
        refine ⟨.agg r', ?_, .agg _ _ hr2⟩
        have hm : (fs.mapM fun (f : Field) => (do pure (f.offset, ← sizeOf f.type) : Sem (Nat × Nat))).run P w = .ok ps.toArray w := by
          rw [Array.mapM_eq_mapM_toList]
          simp only [Sem.run_map, h1, Result.andThen_ok]
        simp only [Instr.build, Sem.run_bind, hzr, Result.andThen_ok, run_underlying hu, hm, hr1, Sem.run_pure]
    · cases h
  · rename_i zero n e hz0 hu
    obtain ⟨zv, hzr, hzc⟩ := run_zeroValue hz0 w
    have hzp := hz _ hz0
    split at h
    · rename_i size hs
      cases hf : afill (fun i => some (i * size, size)) zero parts with
      | none => rw [hf] at h; cases h
      | some r =>
        rw [hf] at h; cases h
        have hvz : VRs m zero zv.cells.toList := by
          rw [hzc]
          exact VRs.of_get rfl fun i a b e e' => by rw [e] at e'; cases e'; exact (plain_of_B (List.all_eq_true.1 hzp a (List.mem_of_getElem? e))).vr
        obtain ⟨r', hr1, hr2⟩ := fill_run parts parts'.toList zero zv.cells r hf hvz hl hp
        refine ⟨.agg r', ?_, .agg _ _ hr2⟩
        simp only [Instr.build, Sem.run_bind, hzr, Result.andThen_ok, run_underlying hu, run_sizeOf hs, hr1, Sem.run_pure]
    · cases h
  · cases h

end Go.LH
