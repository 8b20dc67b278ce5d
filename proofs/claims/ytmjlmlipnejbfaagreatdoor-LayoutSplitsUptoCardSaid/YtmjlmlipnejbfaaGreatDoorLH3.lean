/-
  The logical heap: what is read, written and made there is read, written and made in the model's memory.
-/
import Derived.Test.YtmjlmlipnejbfaaGreatDoorLH2
import Derived.Deep.MidRow
import Derived.Laws.AppendOwn
set_option linter.all false
namespace Go.LH

variable {P : Program} {m : Emb} {H : AHeap} {w : World}

theorem VRs.exists_of {m : Emb} : ∀ (cs : List Value) (f : Nat → Value → Prop), (∀ (k : Nat) (v : Value), cs[k]? = some v → ∃ v', f k v' ∧ VR m v v') →
    ∃ cs', VRs m cs cs' ∧ ∀ (k : Nat) (v' : Value), cs'[k]? = some v' → f k v'
  | [], _, _ => ⟨[], .nil, by simp⟩
  | c :: cs, f, h => by
    obtain ⟨c', hf, hv⟩ := h 0 c rfl
    obtain ⟨cs', hr, hk⟩ := VRs.exists_of cs (fun k => f (k + 1)) (fun k v e => h (k + 1) v (by simpa using e))
    refine ⟨c' :: cs', .cons _ _ _ _ hv hr, fun k v' e => ?_⟩
    cases k with
    | zero => simp at e; subst e; exact hf
    | succ k => exact hk k v' (by simpa using e)

theorem VR.oneCell {v v' : Value} (h : VR m v v') : v'.oneCell' = v.oneCell' := by cases h <;> rfl
theorem VRs.oneCells : ∀ {a b : List Value}, VRs m a b → b.all (·.oneCell') = a.all oneCell
  | _, _, .nil => rfl
  | _, _, .cons v v' vs vs' h k => by simp [k.oneCells, h.oneCell, LH.oneCell]

/-- What is read of an object is there. -/
theorem R.cellsAt (h : R P m H w) {i o n : Nat} {cs : List Value} (hc : H.cellsAt i o n = some cs) :
    ∃ l cs', m i = some l ∧ cs.length = n ∧ VRs m cs cs' ∧ w.rangeAt l.block (l.off + o) cs' := by
  unfold AHeap.cellsAt at hc
  split at hc
  · rename_i all esz rw hg
    split at hc
    · rename_i hle
      cases hc
      obtain ⟨l, hl, ho⟩ := h.obj i _ hg
      cases ho with
      | cells _ _ _ hs he ha hcell hw =>
        obtain ⟨cs', hv, hk⟩ := VRs.exists_of ((all.drop o).take n) (fun k v' => w.cell? ⟨l.block, l.off + o + k, none⟩ = some v') (fun k v e => by
          rw [List.getElem?_take] at e
          split at e
          · rw [List.getElem?_drop] at e
            obtain ⟨v', h1, h2, _⟩ := hcell (o + k) v e
            exact ⟨v', by rw [Nat.add_assoc]; exact h1, h2⟩
          · cases e)
        refine ⟨l, cs', hl, ?_, hv, fun j v hj => hk j v hj⟩
        rw [List.length_take, List.length_drop]; omega
    · cases hc
  · cases hc

theorem putGet (i : Nat) (o : AObj) (j : Nat) : (H.put i o).get j = if j = i then some o else H.get j := rfl

theorem len_splice {cs vs : List Value} {o : Nat} (h : o + vs.length ≤ cs.length) : (splice cs o vs).length = cs.length := by
  simp [splice]; omega
theorem get_splice {cs vs : List Value} {o : Nat} (h : o + vs.length ≤ cs.length) (k : Nat) :
    (splice cs o vs)[k]? = if k < o then cs[k]? else if k < o + vs.length then vs[k - o]? else cs[k]? := by
  unfold splice
  by_cases h1 : k < o
  · rw [if_pos h1, List.getElem?_append_left (by simp; omega), List.getElem?_take, if_pos h1]
  · rw [if_neg h1, List.getElem?_append_right (by simp; omega)]
    simp only [List.length_take]
    rw [show min o cs.length = o by omega]
    by_cases h2 : k < o + vs.length
    · rw [if_pos h2, List.getElem?_append_left (by omega)]
    · rw [if_neg h2, List.getElem?_append_right (by omega), List.getElem?_drop]
      congr 1; omega

/-- Where an object is written the world is written. -/
theorem R.setAt (h : R P m H w) {i o : Nat} {vs vs' : List Value} {H' : AHeap} {l : Loc} (hl : m i = some l) (hc : H.setAt i o vs = some H') (hv : VRs m vs vs') :
    (∀ k, k < vs'.length → (w.cell? ⟨l.block, l.off + o + k, none⟩).isSome = true ∧ w.frozen? ⟨l.block, l.off + o + k, none⟩ = false) ∧ (∀ v ∈ vs', v.oneCell' = true) ∧
    R P m H' (w.setCells l.block (l.off + o) vs') ∧ Kept m H w m H' (w.setCells l.block (l.off + o) vs') := by
  unfold AHeap.setAt at hc
  split at hc
  · rename_i cs e hg
    split at hc
    · rename_i hle
      obtain ⟨hle, h1⟩ := hle
      cases hc
      obtain ⟨l', hl', ho⟩ := h.obj i _ hg
      rw [hl] at hl'; cases hl'
      cases ho with
      | cells _ _ _ hs he ha hcell hw =>
        obtain ⟨c, T, f, hb, hsz, hfr⟩ := hw rfl
        have hlen := hv.length
        have hone : ∀ v ∈ vs', v.oneCell' = true := by
          have := hv.oneCells
          rw [h1] at this
          exact fun v hv => List.all_eq_true.1 this v hv
        have hin : ∀ k, k < vs'.length → (w.cell? ⟨l.block, l.off + o + k, none⟩).isSome = true := by
          intro k hk
          obtain ⟨v', e1, _⟩ := hcell (o + k) _ (List.getElem?_eq_getElem (by omega))
          rw [Nat.add_assoc, e1]; rfl
        have hsize : ∀ (vs : List Value) (o : Nat) (w : World), (w.setCells l.block o vs).heap.size = w.heap.size := by
          intro vs; induction vs with
          | nil => intro o w; rfl
          | cons v r ih => intro o w; rw [World.setCells, ih, World.size_setCell]
        have hother : ∀ (vs : List Value) (o : Nat) (w : World) (k : Nat), k ≠ l.block → (w.setCells l.block o vs).heap[k]? = w.heap[k]? := by
          intro vs; induction vs with
          | nil => intro o w k hk; rfl
          | cons v r ih => intro o w k hk; rw [World.setCells, ih _ _ _ hk, heap_setCell_other _ _ _ _ hk]
        have hsame : ∀ (vs : List Value) (o : Nat) (w : World) (c : Array Value), w.heap[l.block]? = some (.cells c T f) → ∃ c', (w.setCells l.block o vs).heap[l.block]? = some (.cells c' T f) ∧ c'.size = c.size := by
          intro vs; induction vs with
          | nil => intro o w c hc; exact ⟨c, hc, rfl⟩
          | cons v r ih =>
            intro o w c hc
            obtain ⟨c', h1, h2⟩ := ih (o + 1) (w.setCell ⟨l.block, o, none⟩ v) (c.setIfInBounds o v) (by simp [World.setCell, Array.getElem?_modify, hc])
            exact ⟨c', by rw [World.setCells]; exact h1, by simpa using h2⟩
        refine ⟨fun k hk => ⟨hin k hk, ?_⟩, hone, ?_, ?_⟩
        · refine hfr _ ?_
          omega
        · refine ⟨fun j oj hj => ?_, h.fresh, fun j lj hj => by rw [hsize]; exact h.block j lj hj, ?_, h.glob⟩
          · rw [putGet] at hj
            by_cases hji : j = i
            · rw [if_pos hji] at hj; cases hj
              subst hji
              refine ⟨l, hl, .cells _ _ _ ?_ he ?_ ?_ ?_⟩
              · rw [len_splice hle]; exact hs
              · exact ha
              · intro k v hk
                rw [get_splice hle] at hk
                by_cases h1 : k < o
                · rw [if_pos h1] at hk
                  obtain ⟨v', e1, e2, e3⟩ := hcell k v hk
                  refine ⟨v', ?_, e2, e3⟩
                  rw [World.cell?_setCells_out _ _ _ _ _ (fun _ _ => Or.inl (by show l.off + k < _; omega))]
                  exact e1
                · rw [if_neg h1] at hk
                  by_cases h2 : k < o + vs.length
                  · rw [if_pos h2] at hk
                    obtain ⟨v', e1, e2⟩ := hv.get (k - o) v hk
                    have hlt : k - o < vs'.length := by omega
                    refine ⟨v', ?_, e2, ?_⟩
                    · have := World.cell?_setCells_in l.block vs' (l.off + o) w hin (k - o) hlt
                      rw [show l.off + o + (k - o) = l.off + k by omega] at this
                      rw [this]
                      rw [List.getElem?_eq_getElem hlt] at e1
                      exact e1
                    · rw [← e2.oneCell]; exact hone v' (List.mem_of_getElem? e1)
                  · rw [if_neg h2] at hk
                    obtain ⟨v', e1, e2, e3⟩ := hcell k v hk
                    refine ⟨v', ?_, e2, e3⟩
                    rw [World.cell?_setCells_out _ _ _ _ _ (fun _ _ => Or.inr (by show _ ≤ l.off + k; omega))]
                    exact e1
              · intro _
                obtain ⟨c', h1, h2⟩ := hsame vs' (l.off + o) w c hb
                refine ⟨c', T, f, h1, by rw [h2]; exact hsz, fun k hk => ?_⟩
                rw [World.frozen?_setCells]
                exact hfr k (by rw [h2] at hk; exact hk)
            · rw [if_neg hji] at hj
              obtain ⟨lj, hlj, hoj⟩ := h.obj j oj hj
              have hne : lj.block ≠ l.block := fun e => h.sep i j _ _ l lj (fun e => hji e.symm) hg rfl hj hl hlj e.symm
              have hcel : ∀ x : Addr, x.block = lj.block → (w.setCells l.block (l.off + o) vs').cell? x = w.cell? x := fun x hx =>
                World.cell?_of_block (by rw [hx]; exact hother _ _ _ _ hne)
              refine ⟨lj, hlj, ?_⟩
              cases hoj with
              | cells cs' e' b' hs' he' ha' hc' hw' =>
                refine .cells _ _ _ hs' he' ha' (fun k v hk => ?_) (fun hb' => ?_)
                · obtain ⟨v', e1, e2⟩ := hc' k v hk
                  exact ⟨v', (hcel _ rfl).trans e1, e2⟩
                · obtain ⟨c2, T2, f2, q1, q2, q3⟩ := hw' hb'
                  exact ⟨c2, T2, f2, (hother _ _ _ _ hne).trans q1, q2, fun k hk => by rw [World.frozen?_setCells]; exact q3 k hk⟩
              | raw o' ho' hn' => exact .raw o' ((hother _ _ _ _ hne).trans ho') hn'
          · intro a b oa ob la lb hab ha' hra hb' hla hlb
            rw [putGet] at ha' hb'
            have key : ∀ (x : Nat) (ox : AObj), (if x = i then some (AObj.cells (splice cs o vs) e true) else H.get x) = some ox → ∃ ox', H.get x = some ox' ∧ ox'.rw = ox.rw := by
              intro x ox hx
              by_cases hxi : x = i
              · rw [if_pos hxi] at hx; cases hx; subst hxi; exact ⟨_, hg, rfl⟩
              · rw [if_neg hxi] at hx; exact ⟨ox, hx, rfl⟩
            obtain ⟨oa', q1, q2⟩ := key a oa ha'
            obtain ⟨ob', q3, q4⟩ := key b ob hb'
            exact h.sep a b oa' ob' la lb hab q1 (q2.trans hra) q3 hla hlb
        · have hstr : ∀ (vs : List Value) (o : Nat) (w : World), (w.setCells l.block o vs).os = w.os ∧ (w.setCells l.block o vs).tape = w.tape ∧ (w.setCells l.block o vs).output = w.output := by
            intro vs; induction vs with
            | nil => intro o w; exact ⟨rfl, rfl, rfl⟩
            | cons v r ih => intro o w; rw [World.setCells]; exact ih _ _
          obtain ⟨s1, s2, s3⟩ := hstr vs' (l.off + o) w
          refine ⟨s1, s2, s3, by rw [hsize]; exact Nat.le_refl _, fun k hk hn => ?_, fun k hk hw' => ?_, Emb.le.refl m, Nat.le_refl _⟩
          · refine hother _ _ _ _ fun e => hn ⟨i, _, l, hg, rfl, hl, e.symm⟩
          · obtain ⟨j, oj, lj, q1, q2, q3, q4⟩ := hw'
            rw [putGet] at q1
            by_cases hji : j = i
            · subst hji; rw [hl] at q3; cases q3; exact ⟨j, _, l, hg, rfl, hl, q4⟩
            · rw [if_neg hji] at q1; exact ⟨j, oj, lj, q1, q2, q3, q4⟩
    · cases hc
  · cases hc

theorem addGet (o : AObj) (j : Nat) : (H.add o).get j = if j = H.next then some o else H.get j := rfl
theorem addNext (o : AObj) : (H.add o).next = H.next + 1 := rfl

def Emb.ext (m : Emb) (i : Nat) (l : Loc) : Emb := fun j => if j = i then some l else m j
theorem Emb.le_ext (m : Emb) (i : Nat) (l : Loc) (h : m i = none) : m.le (m.ext i l) := by
  intro j l' hj
  unfold Emb.ext
  by_cases e : j = i
  · subst e; rw [h] at hj; cases hj
  · rw [if_neg e]; exact hj

theorem OR.other {l : Loc} {o : AObj} {m' : Emb} {w' : World} (hm : m.le m') (h : OR m w l o) (hb : w'.heap[l.block]? = w.heap[l.block]?) : OR m' w' l o := by
  cases h with
  | cells cs e b hs he ha hc hw =>
    refine .cells _ _ _ hs he ha (fun k v hk => ?_) (fun hb' => ?_)
    · obtain ⟨v', e1, e2, e3⟩ := hc k v hk
      exact ⟨v', (World.cell?_of_block (a := ⟨l.block, l.off + k, none⟩) hb).trans e1, e2.mono hm, e3⟩
    · obtain ⟨c2, T2, f2, q1, q2, q3⟩ := hw hb'
      exact ⟨c2, T2, f2, hb.trans q1, q2, fun k hk => (World.frozen?_of_block (a := ⟨l.block, k, none⟩) hb).trans (q3 k hk)⟩
  | raw o h hn => exact .raw o (hb.trans h) hn

/-- A new block and a new object for it: its first cells are known, there may be more. -/
theorem R.newCells (h : R P m H w) {cs cs' : List Value} (more : List Value) (T : TypeId) (e : Nat) (hv : VRs m cs cs') (h1 : oneCells cs = true) :
    R P (m.ext H.next ⟨w.heap.size, 0, cs.length, cs.length + more.length, e⟩) (H.add (.cells cs e true)) (w.alloc (.cells (cs' ++ more).toArray T)) ∧
    Kept m H w (m.ext H.next ⟨w.heap.size, 0, cs.length, cs.length + more.length, e⟩) (H.add (.cells cs e true)) (w.alloc (.cells (cs' ++ more).toArray T)) := by
  have hlen := hv.length
  have hfr := h.fresh H.next (Nat.le_refl _)
  have hle := Emb.le_ext m H.next ⟨w.heap.size, 0, cs.length, cs.length + more.length, e⟩ hfr
  have hold : ∀ k, k < w.heap.size → (w.alloc (.cells (cs' ++ more).toArray T)).heap[k]? = w.heap[k]? := fun k hk => heap_alloc_old w _ k hk
  constructor
  · refine ⟨fun j oj hj => ?_, fun j hj => ?_, fun j lj hj => ?_, ?_, fun g hg => ?_⟩
    · rw [addGet] at hj
      by_cases hji : j = H.next
      · rw [if_pos hji] at hj; cases hj; subst hji
        refine ⟨_, by unfold Emb.ext; rw [if_pos rfl], .cells _ _ _ rfl rfl (by simp) (fun k v hk => ?_) (fun _ => ⟨(cs' ++ more).toArray, T, (0, 0), heap_alloc_new w _, by simp [hlen], fun k hk => ?_⟩)⟩
        · obtain ⟨v', e1, e2⟩ := hv.get k v hk
          refine ⟨v', ?_, e2.mono hle, ?_⟩
          · show (w.alloc _).cell? ⟨w.heap.size, 0 + k, none⟩ = some v'
            rw [World.cell?_alloc_new, Nat.zero_add]
            simp only [List.getElem?_toArray]
            rw [List.getElem?_append_left (List.getElem?_eq_some_iff.1 e1).1]
            exact e1
          · exact List.all_eq_true.1 h1 v (List.mem_of_getElem? hk)
        · simp
      · rw [if_neg hji] at hj
        obtain ⟨lj, hlj, hoj⟩ := h.obj j oj hj
        exact ⟨lj, hle j lj hlj, hoj.other hle (hold _ (h.block j lj hlj))⟩
    · rw [addNext] at hj
      unfold Emb.ext
      rw [if_neg (by omega)]
      exact h.fresh j (by omega)
    · unfold Emb.ext at hj
      rw [World.size_alloc]
      by_cases hji : j = H.next
      · rw [if_pos hji] at hj; cases hj; simp
      · rw [if_neg hji] at hj; have := h.block j lj hj; omega
    · intro a b oa ob la lb hab ha hra hb hla hlb
      rw [addGet] at ha hb
      unfold Emb.ext at hla hlb
      by_cases ea : a = H.next
      · have eb : b ≠ H.next := fun e => hab (ea.trans e.symm)
        rw [if_pos ea] at hla; rw [if_neg eb] at hlb
        cases hla
        have := h.block b lb hlb
        show w.heap.size ≠ lb.block
        omega
      · rw [if_neg ea] at hla ha
        by_cases eb : b = H.next
        · rw [if_pos eb] at hlb; cases hlb
          have := h.block a la hla
          show la.block ≠ w.heap.size
          omega
        · rw [if_neg eb] at hlb hb
          exact h.sep a b oa ob la lb hab ha hra hb hla hlb
    · obtain ⟨l, q1, q2⟩ := h.glob g hg
      exact ⟨l, hle g l q1, q2⟩
  · refine ⟨rfl, rfl, rfl, by simp, fun k hk _ => hold k hk, fun k hk hw => ?_, hle, Nat.le_succ _⟩
    obtain ⟨j, oj, lj, q1, q2, q3, q4⟩ := hw
    rw [addGet] at q1
    unfold Emb.ext at q3
    by_cases hji : j = H.next
    · rw [if_pos hji] at q3; cases q3
      have : w.heap.size = k := q4
      omega
    · rw [if_neg hji] at q1 q3
      exact ⟨j, oj, lj, q1, q2, q3, q4⟩

/-- An object may be forgotten. -/
theorem R.dropped (h : R P m H w) (i : Nat) : R P m (H.drop i) w := by
  have key : ∀ j o, (H.drop i).get j = some o → H.get j = some o := by
    intro j o hj
    unfold AHeap.drop at hj
    dsimp only at hj
    split at hj
    · cases hj
    · exact hj
  exact ⟨fun j o hj => h.obj j o (key j o hj), h.fresh, h.block, fun a b oa ob la lb hab ha hra hb hla hlb => h.sep a b oa ob la lb hab (key a oa ha) hra (key b ob hb) hla hlb, h.glob⟩
theorem Kept.dropped (i : Nat) : Kept m H w m (H.drop i) w := by
  refine ⟨rfl, rfl, rfl, Nat.le_refl _, fun _ _ _ => rfl, fun k _ hw => ?_, Emb.le.refl m, Nat.le_refl _⟩
  obtain ⟨j, oj, lj, q1, q2, q3, q4⟩ := hw
  unfold AHeap.drop at q1
  dsimp only at q1
  split at q1
  · cases q1
  · exact ⟨j, oj, lj, q1, q2, q3, q4⟩
/-- Less is known of a heap, more numbers are used. -/
theorem R.less {H' : AHeap} (h : R P m H w) (hg : ∀ j o, H'.get j = some o → H.get j = some o) (hn : H.next ≤ H'.next) : R P m H' w :=
  ⟨fun j o hj => h.obj j o (hg j o hj), fun i hi => h.fresh i (Nat.le_trans hn hi), h.block, fun a b oa ob la lb hab ha hra hb hla hlb => h.sep a b oa ob la lb hab (hg a oa ha) hra (hg b ob hb) hla hlb, h.glob⟩
theorem Kept.less {m' : Emb} {H' H'' : AHeap} {w' : World} (h : Kept m H w m' H' w') (hg : ∀ j o, H''.get j = some o → H'.get j = some o) (hn : H'.next ≤ H''.next) : Kept m H w m' H'' w' :=
  ⟨h.os, h.tape, h.output, h.size, h.block, fun k hk ⟨j, oj, lj, q1, q2, q3, q4⟩ => h.writes k hk ⟨j, oj, lj, hg j oj q1, q2, q3, q4⟩, h.le, Nat.le_trans h.next hn⟩

end Go.LH
