/-
  The logical heap: append, copy, make and the builtins do there what they do in the model.
-/
import Derived.Test.YtmjlmlipnejbfaaGreatDoorLH7
set_option linter.all false
namespace Go.LH
variable {P : Program} {m : Emb} {H : AHeap} {w : World}

/-- A block that an object has left may be taken over by a new object, with more cells known. -/
theorem R.takeOver (hR : R P m H w) {i o : Nat} {cs : List Value} {esz : Nat} {l : Loc} (hg : H.get i = some (.cells cs esz true)) (hl : m i = some l) {new new' : List Value}
    {keep : Nat} (hk : o + keep ≤ cs.length) (hfit : o + keep + new.length ≤ l.avail) (hv : VRs m new new') (h1 : new.all oneCell = true) (e : Nat) :
    (storeCells ⟨l.block, l.off + (o + keep), none⟩ new').run P w = .ok () (w.setCells l.block (l.off + (o + keep)) new') ∧
    R P (m.ext H.next ⟨l.block, l.off + o, keep + new.length, l.avail - o, e⟩) ((H.drop i).add (.cells ((cs.drop o).take keep ++ new) e true)) (w.setCells l.block (l.off + (o + keep)) new') ∧
    Kept m H w (m.ext H.next ⟨l.block, l.off + o, keep + new.length, l.avail - o, e⟩) ((H.drop i).add (.cells ((cs.drop o).take keep ++ new) e true)) (w.setCells l.block (l.off + (o + keep)) new') := by
  obtain ⟨l', hl', ho⟩ := hR.obj i _ hg
  rw [hl] at hl'; cases hl'
  cases ho with
  | cells _ _ _ hs he ha hcell hw =>
  obtain ⟨c, T, f, hb, hsz, hfr⟩ := hw rfl
  have hlen := hv.length
  have hone : ∀ v ∈ new', v.oneCell' = true := by
    have := hv.oneCells
    rw [h1] at this
    exact fun v hv => List.all_eq_true.1 this v hv
  have hin : ∀ k, k < new'.length → (w.cell? ⟨l.block, l.off + (o + keep) + k, none⟩).isSome = true := by
    intro k hk
    have : l.off + (o + keep) + k < c.size := by omega
    simp [World.cell?, hb, this]
  have hfz : ∀ k, k < new'.length → w.frozen? ⟨l.block, l.off + (o + keep) + k, none⟩ = false := fun k hk => hfr _ (by omega)
  have hst := run_storeCells_cells (P := P) l.block (l.off + (o + keep)) new' 0 w (by simpa using hin) (by simpa using hfz) hone
  have hsize : ∀ (vs : List Value) (o : Nat) (w : World), (w.setCells l.block o vs).heap.size = w.heap.size := by
    intro vs; induction vs with
    | nil => intro o w; rfl
    | cons v r ih => intro o w; rw [World.setCells, ih, World.size_setCell]
  have hother : ∀ (vs : List Value) (o : Nat) (w : World) (k : Nat), k ≠ l.block → (w.setCells l.block o vs).heap[k]? = w.heap[k]? := by
    intro vs; induction vs with
    | nil => intro o w k hk; rfl
    | cons v r ih => intro o w k hk; rw [World.setCells, ih _ _ _ hk, heap_setCell_other _ _ _ _ hk]
  have hsame : ∀ (vs : List Value) (o : Nat) (w : World) (c : Array Value), w.heap[l.block]? = some (.cells c T f) → ∃ c', (w.setCells l.block o vs).heap[l.block]? = some (.cells c' T f) ∧ c'.size = c.size := by
    intro vs; induction vs with
    | nil => intro o w c hc; exact ⟨c, hc, rfl⟩
    | cons v r ih =>
      intro o w c hc
      obtain ⟨c', h1, h2⟩ := ih (o + 1) (w.setCell ⟨l.block, o, none⟩ v) (c.setIfInBounds o v) (by simp [World.setCell, Array.getElem?_modify, hc])
      exact ⟨c', by rw [World.setCells]; exact h1, by simpa using h2⟩
  have hstr : ∀ (vs : List Value) (o : Nat) (w : World), (w.setCells l.block o vs).os = w.os ∧ (w.setCells l.block o vs).tape = w.tape ∧ (w.setCells l.block o vs).output = w.output := by
    intro vs; induction vs with
    | nil => intro o w; exact ⟨rfl, rfl, rfl⟩
    | cons v r ih => intro o w; rw [World.setCells]; exact ih _ _
  have hfresh := hR.fresh H.next (Nat.le_refl _)
  have hle := Emb.le_ext m H.next ⟨l.block, l.off + o, keep + new.length, l.avail - o, e⟩ hfresh
  have hdrop : ∀ j oj, (H.drop i).get j = some oj → H.get j = some oj ∧ j ≠ i := by
    intro j oj hj
    unfold AHeap.drop at hj
    dsimp only at hj
    split at hj
    · cases hj
    · rename_i hne; exact ⟨hj, hne⟩
  have hlt : ∀ j lj, m j = some lj → j ≠ H.next := by
    intro j lj hj e; subst e; rw [hfresh] at hj; cases hj
  refine ⟨by simpa using hst, ?_, ?_⟩
  · refine ⟨fun j oj hj => ?_, fun j hj => ?_, fun j lj hj => ?_, ?_, fun g hg => ?_⟩
    · rw [addGet] at hj
      by_cases hji : j = (H.drop i).next
      · rw [if_pos hji] at hj; cases hj; subst hji
        obtain ⟨c', hc1, hc2⟩ := hsame new' (l.off + (o + keep)) w c hb
        refine ⟨⟨l.block, l.off + o, keep + new.length, l.avail - o, e⟩, if_pos rfl, .cells _ _ _ ?_ rfl ?_ (fun k v hk => ?_) (fun _ => ⟨c', T, f, hc1, ?_, fun k hk => ?_⟩)⟩
        · show keep + new.length = _
          simp; omega
        · show keep + new.length ≤ l.avail - o
          omega
        · by_cases hkk : k < keep
          · rw [List.getElem?_append_left (by simp; omega), List.getElem?_take, if_pos hkk, List.getElem?_drop] at hk
            obtain ⟨v', e1, e2, e3⟩ := hcell (o + k) v hk
            refine ⟨v', ?_, e2.mono hle, e3⟩
            show (w.setCells l.block (l.off + (o + keep)) new').cell? ⟨l.block, l.off + o + k, none⟩ = _
            rw [World.cell?_setCells_out _ _ _ _ _ (fun _ _ => Or.inl (by show l.off + o + k < _; omega)), Nat.add_assoc]
            exact e1
          · rw [List.getElem?_append_right (by simp; omega)] at hk
            simp only [List.length_take, List.length_drop] at hk
            rw [show min keep (cs.length - o) = keep by omega] at hk
            obtain ⟨v', e1, e2⟩ := hv.get (k - keep) v hk
            have hlt2 : k - keep < new'.length := (List.getElem?_eq_some_iff.1 e1).1
            refine ⟨v', ?_, e2.mono hle, ?_⟩
            · have := World.cell?_setCells_in l.block new' (l.off + (o + keep)) w hin (k - keep) hlt2
              show (w.setCells l.block (l.off + (o + keep)) new').cell? ⟨l.block, l.off + o + k, none⟩ = _
              rw [show l.off + (o + keep) + (k - keep) = l.off + o + k by omega] at this
              rw [this, ← e1, List.getElem?_eq_getElem hlt2]
            · rw [← e2.oneCell]; exact hone v' (List.mem_of_getElem? e1)
        · show l.off + o + (l.avail - o) ≤ c'.size
          rw [hc2]; omega
        · rw [World.frozen?_setCells]
          exact hfr k (by rw [hc2] at hk; exact hk)
      · rw [if_neg hji] at hj
        obtain ⟨hj, hne⟩ := hdrop j oj hj
        obtain ⟨lj, hlj, hoj⟩ := hR.obj j oj hj
        have hnb : lj.block ≠ l.block := fun e => hR.sep i j _ _ l lj (fun e => hne e.symm) hg rfl hj hl hlj e.symm
        refine ⟨lj, hle j lj hlj, ?_⟩
        have hbb := hother new' (l.off + (o + keep)) w lj.block hnb
        exact hoj.other hle hbb
    · have hj' : H.next + 1 ≤ j := hj
      unfold Emb.ext
      rw [if_neg (by omega)]
      exact hR.fresh j (by omega)
    · unfold Emb.ext at hj
      rw [hsize]
      by_cases hji : j = H.next
      · rw [if_pos hji] at hj; cases hj; exact hR.block i l hl
      · rw [if_neg hji] at hj; exact hR.block j lj hj
    · intro a b oa ob la lb hab ha' hra hb' hla hlb
      rw [addGet] at ha' hb'
      unfold Emb.ext at hla hlb
      by_cases ea : a = H.next
      · have eb : b ≠ H.next := fun e => hab (ea.trans e.symm)
        rw [if_pos ea] at hla; rw [if_neg eb] at hlb
        cases hla
        rw [if_neg (show ¬ b = (H.drop i).next from eb)] at hb'
        obtain ⟨hb'', hne⟩ := hdrop b ob hb'
        exact hR.sep i b _ _ l lb (fun e => hne e.symm) hg rfl hb'' hl hlb
      · rw [if_neg ea] at hla
        rw [if_neg (show ¬ a = (H.drop i).next from ea)] at ha'
        obtain ⟨ha'', hna⟩ := hdrop a oa ha'
        by_cases eb : b = H.next
        · rw [if_pos eb] at hlb; cases hlb
          exact fun e => hR.sep i a _ _ l la (fun e => hna e.symm) hg rfl ha'' hl hla e.symm
        · rw [if_neg eb] at hlb
          rw [if_neg (show ¬ b = (H.drop i).next from eb)] at hb'
          obtain ⟨hb'', hne⟩ := hdrop b ob hb'
          exact hR.sep a b oa ob la lb hab ha'' hra hb'' hla hlb
    · obtain ⟨lg, q1, q2⟩ := hR.glob g hg
      exact ⟨lg, hle g lg q1, q2⟩
  · obtain ⟨s1, s2, s3⟩ := hstr new' (l.off + (o + keep)) w
    refine ⟨s1, s2, s3, by rw [hsize]; exact Nat.le_refl _, fun k hk hn => hother _ _ _ _ fun e => hn ⟨i, _, l, hg, rfl, hl, e.symm⟩, fun k hk hw' => ?_, hle, Nat.le_succ _⟩
    obtain ⟨j, oj, lj, q1, q2, q3, q4⟩ := hw'
    rw [addGet] at q1
    unfold Emb.ext at q3
    by_cases hji : j = H.next
    · rw [if_pos hji] at q3; cases q3
      exact ⟨i, _, l, hg, rfl, hl, q4⟩
    · rw [if_neg hji] at q3
      rw [if_neg (show ¬ j = (H.drop i).next from hji)] at q1
      exact ⟨j, oj, lj, (hdrop j oj q1).1, q2, q3, q4⟩

/-- What an operation comes to. -/
def Goes (P : Program) (m : Emb) (H : AHeap) (w : World) (r : Result Value) (v : Value) (H' : AHeap) : Prop :=
  ∃ v' w' m', r = .ok v' w' ∧ VR m' v v' ∧ R P m' H' w' ∧ Kept m H w m' H' w'

theorem aappend_goes {sT xT ty e : TypeId} {d : TypeDesc} {s s' x' v : Value} {k : Nat} {new new' : List Value} {H' : AHeap}
    (hR : R P m H w) (hu : P.underlying sT = some (.slice e)) (hd : P.underlying xT = some d) (hi : isIntDesc d = false)
    (h : aappend P H e s k new = some (v, H')) (hs : VR m s s') (hlen : (Builtin.lenOf x').run P w = .ok k w)
    (hf : ∀ size, tsz P e = some size → ∀ w0 : World, (w0 = w ∨ w0 = w.drew) → (Builtin.firstCells size k x').run P w0 = .ok new'.toArray w0) (hv : VRs m new new') :
    Goes P m H w ((Builtin.append_ #[sT, xT] ty #[s', x']).run P w) v H' := by
  unfold aappend at h
  split at h
  · rename_i size0 bytes zero hsz hby hz0
    dsimp only at h
    split at h
    · rename_i hc
      obtain ⟨hnl, hn1, hzl⟩ := hc
      have hvl := hv.length
      split at h
      · cases hs
        split at h
        · rename_i hk
          cases h
          subst hk
          have hne : new' = [] := List.eq_nil_of_length_eq_zero (by omega)
          subst hne
          have := append_room_run (ty := ty) (w' := w) hu hd hi hsz hlen (hf _ hsz w (.inl rfl)) (base := none) (sLen := 0) (sCap := 0) (by omega) (fun a ha => by cases ha) (fun _ => rfl)
          exact ⟨_, w, m, this, .sliceNil, hR, Kept.refl _ _ _⟩
        · rename_i hk
          split at h
          · rename_i hb
            cases h
            obtain ⟨more, hml, hrun⟩ := append_grow_run (ty := ty) (w := w) (olds := []) hu hd hi hsz hby hz0 hzl hlen (hf _ hsz _ (.inr rfl)) (base := none) (sLen := 0) (sCap := 0) (by simp [Builtin.firstCells]) (by omega) (by simpa using hb.1) (by simpa using hb.2)
            simp only [List.nil_append, Nat.zero_add, Nat.succ_eq_add_one] at hrun hml
            have hRd : R P m H w.drew := hR.drawn _
            obtain ⟨q1, q2⟩ := hRd.newCells more e (size0 + 1) hv hn1
            refine ⟨_, _, _, hrun, ?_, q1, q2.drawn _⟩
            refine .slice H.next 0 k k _ _ _ (by unfold Emb.ext; rw [if_pos rfl]) (.inr rfl) (Nat.le_refl _) (grownCap_ge w k 0 e) (.inr ⟨?_, ?_⟩)
            · show 0 + k * (size0 + 1) = new.length
              omega
            · show 0 + grownCap w k 0 e * (size0 + 1) ≤ new.length + more.length
              have := grownCap_ge w k 0 e
              have f1 : k * (size0 + 1) + (grownCap w k 0 e - k) * (size0 + 1) = grownCap w k 0 e * (size0 + 1) := by rw [← Nat.add_mul]; congr 1; omega
              omega
          · cases h
      · rename_i i o n c
        cases hs with
        | slice _ _ _ _ c' a l hm ha hnc hcc he =>
        split at h
        · rename_i hroom
          split at h
          · rename_i hk
            cases h
            subst hk
            have hne : new' = [] := List.eq_nil_of_length_eq_zero (by omega)
            subst hne
            have := append_room_run (ty := ty) (w' := w) hu hd hi hsz hlen (hf _ hsz w (.inl rfl)) (base := some a) (sLen := n) (sCap := c') (by omega) (fun a ha => by simp [storeCells]) (fun e => by cases e)
            exact ⟨_, w, m, this, .slice i o n c c' a l hm ha hnc hcc he, hR, Kept.refl _ _ _⟩
          · rename_i hk
            cases hst : H.setAt i (o + n * (size0 + 1)) new with
            | none => rw [hst] at h; cases h
            | some H1 =>
              rw [hst] at h; cases h
              obtain ⟨h1, h2, h3, h4⟩ := hR.setAt hm hst hv
              have ha' := ha.resolve_left (by omega)
              subst ha'
              have hsc := run_storeCells_cells (P := P) l.block (l.off + (o + n * (size0 + 1))) new' 0 w (fun j hj => by simpa using (h1 j hj).1) (fun j hj => by simpa using (h1 j hj).2) h2
              have := append_room_run (ty := ty) hu hd hi hsz hlen (hf _ hsz w (.inl rfl)) (base := some ⟨l.block, l.off + o, none⟩) (sLen := n) (sCap := c') (by omega) (w' := w.setCells l.block (l.off + (o + n * (size0 + 1))) new')
                (fun a ha => by cases ha; rw [add_off, Nat.add_assoc]; simpa using hsc) (fun e => by cases e)
              exact ⟨_, _, m, this, .slice i o (n + k) c c' _ l hm (.inr rfl) (by omega) hcc he, h3, h4⟩
        · rename_i hroom
          split at h
          · rename_i hb
            split at h
            · rename_i cs esz rw' hg
              split at h
              · rename_i hee
                obtain ⟨hesz, hok⟩ := hee
                -- the old cells
                have hca : H.cellsAt i o (n * (size0 + 1)) = some ((cs.drop o).take (n * (size0 + 1))) := by
                  unfold AHeap.cellsAt
                  rw [hg]
                  dsimp only
                  rw [if_pos hok]
                obtain ⟨l', olds', hl', hol, hov, hor⟩ := hR.cellsAt hca
                rw [hm] at hl'; cases hl'
                have hovl := hov.length
                have hfo : ∀ w0 : World, (w0 = w ∨ w0 = w.drew) → (Builtin.firstCells (size0 + 1) n (.slice (some a) n c')).run P w0 = .ok olds'.toArray w0 := by
                  intro w0 hw0
                  by_cases hn0 : n = 0
                  · subst hn0
                    have : olds' = [] := List.eq_nil_of_length_eq_zero (by omega)
                    subst this
                    simp [Builtin.firstCells, loadCells, loadCellsFrom]
                  · have ha' := ha.resolve_left (by omega)
                    subst ha'
                    refine run_firstCells_some (P := P) w0 (size0 + 1) n _ n c' olds' (by omega) (fun j v hj => ?_)
                    rw [Addr.add_mid]
                    rcases hw0 with rfl | rfl
                    · exact hor j v hj
                    · exact hor j v hj
                -- growing: a new block
                have hgrow : c' < n + k → ∀ (H1 : AHeap), (∀ j oj, H1.get j = some oj → H.get j = some oj) → H1.next = H.next →
                    Goes P m H w ((Builtin.append_ #[sT, xT] ty #[.slice (some a) n c', x']).run P w) (.slice (some ⟨H.next, 0, none⟩) (n + k) (n + k)) (H1.add (.cells ((cs.drop o).take (n * (size0 + 1)) ++ new) (size0 + 1) true)) := by
                  intro hlt H1 hH1 hN1
                  obtain ⟨more, hml, hrun⟩ := append_grow_run (ty := ty) (w := w) hu hd hi hsz hby hz0 hzl hlen (hf _ hsz _ (.inr rfl)) (hfo _ (.inr rfl)) hlt hb.1 hb.2
                  rw [Nat.succ_eq_add_one] at hml
                  have hRd : R P m H1 w.drew := (hR.drawn (w.drawn + 1)).less hH1 (by omega)
                  have hall : oneCells ((cs.drop o).take (n * (size0 + 1)) ++ new) = true := by
                    unfold oneCells
                    rw [List.all_append, hn1, Bool.and_true]
                    obtain ⟨l2, hl2, hO⟩ := hR.obj i _ hg
                    cases hO with
                    | cells _ _ _ _ _ _ hcell _ =>
                      refine List.all_eq_true.2 fun u hu => ?_
                      obtain ⟨q, hq⟩ := List.getElem?_of_mem (List.mem_of_mem_drop (List.mem_of_mem_take hu))
                      obtain ⟨_, _, _, e3⟩ := hcell q u hq
                      exact e3
                  obtain ⟨q1, q2⟩ := hRd.newCells more e (size0 + 1) (hov.append hv) hall
                  have hq2 : Kept m H w _ _ _ := (Kept.trans ((Kept.refl m H w.drew).less hH1 (by omega)) q2).drawn _
                  rw [hN1] at q1 hq2
                  refine ⟨_, _, _, hrun, ?_, q1, hq2⟩
                  refine .slice H.next 0 (n + k) (n + k) _ _ _ (by unfold Emb.ext; rw [if_pos rfl]) (.inr rfl) (Nat.le_refl _) (grownCap_ge w (n + k) c' e) (.inr ⟨?_, ?_⟩)
                  · show 0 + (n + k) * (size0 + 1) = ((cs.drop o).take (n * (size0 + 1)) ++ new).length
                    rw [List.length_append, Nat.add_mul]; omega
                  · show 0 + grownCap w (n + k) c' e * (size0 + 1) ≤ ((cs.drop o).take (n * (size0 + 1)) ++ new).length + more.length
                    have := grownCap_ge w (n + k) c' e
                    have f1 : (n + k) * (size0 + 1) + (grownCap w (n + k) c' e - (n + k)) * (size0 + 1) = grownCap w (n + k) c' e * (size0 + 1) := by rw [← Nat.add_mul]; congr 1; omega
                    rw [List.length_append]
                    rw [Nat.add_mul] at f1
                    omega
                split at h
                · rename_i hopen
                  split at h
                  · rename_i hrw
                    cases h
                    subst hrw
                    by_cases hcap : n + k ≤ c'
                    · -- in place, in what lay behind
                      have ha' := ha.resolve_left (by omega)
                      subst ha'
                      have hav : o + c' * l.esz ≤ l.avail := by
                        rcases he with he | he
                        · omega
                        · exact he.2
                      have hle2 : l.esz = size0 + 1 := by
                        obtain ⟨l2, hl2, hO⟩ := hR.obj i _ hg
                        rw [hm] at hl2; cases hl2
                        cases hO with
                        | cells _ _ _ _ he3 _ _ _ => exact he3.trans hesz
                      rw [hle2] at hav
                      have f1 : n * (size0 + 1) + k * (size0 + 1) = (n + k) * (size0 + 1) := by rw [Nat.add_mul]
                      have f2 : (n + k) * (size0 + 1) ≤ c' * (size0 + 1) := Nat.mul_le_mul_right _ hcap
                      obtain ⟨t1, t2, t3⟩ := hR.takeOver hg hm (o := o) (keep := n * (size0 + 1)) (new := new) hok (by omega) hv hn1 (size0 + 1)
                      have := append_room_run (ty := ty) hu hd hi hsz hlen (hf _ hsz w (.inl rfl)) (base := some ⟨l.block, l.off + o, none⟩) (sLen := n) (sCap := c') hcap (w' := w.setCells l.block (l.off + (o + n * (size0 + 1))) new')
                        (fun a ha => by cases ha; rw [add_off, Nat.add_assoc]; exact t1) (fun e => by cases e)
                      refine ⟨_, _, _, this, ?_, t2, t3⟩
                      refine .slice H.next 0 (n + k) (n + k) c' _ _ (by unfold Emb.ext; rw [if_pos rfl]) (.inr rfl) (Nat.le_refl _) hcap (.inr ⟨?_, ?_⟩)
                      · show 0 + (n + k) * (size0 + 1) = n * (size0 + 1) + new.length
                        omega
                      · show 0 + c' * (size0 + 1) ≤ l.avail - o
                        omega
                    · refine hgrow (by omega) (H.drop i) (fun j oj hj => ?_) rfl
                      unfold AHeap.drop at hj
                      dsimp only at hj
                      split at hj
                      · cases hj
                      · exact hj
                  · cases h
                · rename_i hclosed
                  cases h
                  have hcc' : c' = c := by
                    rcases he with he | ⟨he1, _⟩
                    · exact he
                    · exfalso
                      obtain ⟨l2, hl2, hO⟩ := hR.obj i _ hg
                      rw [hm] at hl2; cases hl2
                      cases hO with
                      | cells _ _ _ hs3 he3 _ _ _ =>
                        rw [he3.trans hesz, hs3] at he1
                        exact hclosed he1
                  exact hgrow (by omega) H (fun _ _ h => h) rfl
              · cases h
            · cases h
          · cases h
      · cases h
    · cases h
  · cases h

end Go.LH
