/-
  The logical heap: operations beyond the quiet ones: strings as bytes and back.
-/
import Derived.Test.YtmjlmlipnejbfaaGreatDoorLH9
import Derived.Laws.IdiomStrings
set_option linter.all false
namespace Go.LH
variable {P : Program} {m : Emb} {H : AHeap} {w : World}

/-- A new block and a new object for it: its first cells are known, there may be more. -/
theorem R.newCellsF (h : R P m H w) {cs cs' : List Value} (more : List Value) (T : TypeId) (e : Nat) (f : Nat × Nat) (hf : cs.length + more.length ≤ f.1) (hv : VRs m cs cs') (h1 : oneCells cs = true) :
    R P (m.ext H.next ⟨w.heap.size, 0, cs.length, cs.length + more.length, e⟩) (H.add (.cells cs e true)) (w.alloc (.cells (cs' ++ more).toArray T f)) ∧
    Kept m H w (m.ext H.next ⟨w.heap.size, 0, cs.length, cs.length + more.length, e⟩) (H.add (.cells cs e true)) (w.alloc (.cells (cs' ++ more).toArray T f)) := by
  have hlen := hv.length
  have hfr := h.fresh H.next (Nat.le_refl _)
  have hle := Emb.le_ext m H.next ⟨w.heap.size, 0, cs.length, cs.length + more.length, e⟩ hfr
  have hold : ∀ k, k < w.heap.size → (w.alloc (.cells (cs' ++ more).toArray T f)).heap[k]? = w.heap[k]? := fun k hk => by
    show (w.heap.push _)[k]? = _
    rw [Array.getElem?_push, if_neg (by omega)]
  have hnew : (w.alloc (.cells (cs' ++ more).toArray T f)).heap[w.heap.size]? = some (.cells (cs' ++ more).toArray T f) := by
    show (w.heap.push _)[w.heap.size]? = _
    exact Array.getElem?_push_size
  constructor
  · refine ⟨fun j oj hj => ?_, fun j hj => ?_, fun j lj hj => ?_, ?_, fun g hg => ?_⟩
    · rw [addGet] at hj
      by_cases hji : j = H.next
      · rw [if_pos hji] at hj; cases hj; subst hji
        refine ⟨_, by unfold Emb.ext; rw [if_pos rfl], .cells _ _ _ rfl rfl (by simp) (fun k v hk => ?_) (fun _ => ⟨(cs' ++ more).toArray, T, f, hnew, by simp [hlen], fun k hk => ?_⟩)⟩
        · obtain ⟨v', e1, e2⟩ := hv.get k v hk
          refine ⟨v', ?_, e2.mono hle, ?_⟩
          · show (w.alloc _).cell? ⟨w.heap.size, 0 + k, none⟩ = some v'
            have hc : (w.alloc (.cells (cs' ++ more).toArray T f)).cell? ⟨w.heap.size, 0 + k, none⟩ = (cs' ++ more).toArray[k]? := by
              unfold World.cell?
              rw [hnew, Nat.zero_add]
              rfl
            rw [hc]
            simp only [List.getElem?_toArray]
            rw [List.getElem?_append_left (List.getElem?_eq_some_iff.1 e1).1]
            exact e1
          · exact List.all_eq_true.1 h1 v (List.mem_of_getElem? hk)
        · have hk2 : k < cs'.length + more.length := by simpa using hk
          unfold World.frozen?
          rw [hnew]
          show (decide (f.1 ≤ k) && decide (k < f.2)) = false
          have : decide (f.1 ≤ k) = false := decide_eq_false (by omega)
          rw [this]
          rfl
      · rw [if_neg hji] at hj
        obtain ⟨lj, hlj, hoj⟩ := h.obj j oj hj
        exact ⟨lj, hle j lj hlj, hoj.other hle (hold _ (h.block j lj hlj))⟩
    · rw [addNext] at hj
      unfold Emb.ext
      rw [if_neg (by omega)]
      exact h.fresh j (by omega)
    · unfold Emb.ext at hj
      rw [World.size_alloc]
      by_cases hji : j = H.next
      · rw [if_pos hji] at hj; cases hj; simp
      · rw [if_neg hji] at hj; have := h.block j lj hj; omega
    · intro a b oa ob la lb hab ha hra hb hla hlb
      rw [addGet] at ha hb
      unfold Emb.ext at hla hlb
      by_cases ea : a = H.next
      · have eb : b ≠ H.next := fun e => hab (ea.trans e.symm)
        rw [if_pos ea] at hla; rw [if_neg eb] at hlb
        cases hla
        have := h.block b lb hlb
        show w.heap.size ≠ lb.block
        omega
      · rw [if_neg ea] at hla ha
        by_cases eb : b = H.next
        · rw [if_pos eb] at hlb; cases hlb
          have := h.block a la hla
          show la.block ≠ w.heap.size
          omega
        · rw [if_neg eb] at hlb hb
          exact h.sep a b oa ob la lb hab ha hra hb hla hlb
    · obtain ⟨l, q1, q2⟩ := h.glob g hg
      exact ⟨l, hle g l q1, q2⟩
  · refine ⟨rfl, rfl, rfl, by simp, fun k hk _ => hold k hk, fun k hk hw => ?_, hle, Nat.le_succ _⟩
    obtain ⟨j, oj, lj, q1, q2, q3, q4⟩ := hw
    rw [addGet] at q1
    unfold Emb.ext at q3
    by_cases hji : j = H.next
    · rw [if_pos hji] at q3; cases q3
      have : w.heap.size = k := q4
      omega
    · rw [if_neg hji] at q1 q3
      exact ⟨j, oj, lj, q1, q2, q3, q4⟩


theorem abytes_get : ∀ {cs : List Value} {bs : List UInt8}, abytes cs = some bs → cs = bs.map fun b => .int .u8 (b.toNat : Int)
  | [], bs, h => by simp [abytes] at h; subst h; rfl
  | c :: cs, bs, h => by
    unfold abytes at h
    split at h
    · rename_i e; cases e
    · rename_i n cs' e
      cases e
      split at h
      · rename_i hn
        simp only [Option.map_eq_some_iff] at h
        obtain ⟨bs', h1, rfl⟩ := h
        rw [abytes_get h1]
        simp only [List.map_cons]
        congr 2
        have : n.toNat < 256 := by omega
        simp only [UInt8.toNat_ofNat']
        rw [Nat.mod_eq_of_lt (by simpa using this)]
        omega
      · cases h
    · cases h

theorem aconvH_goes {src dst : TypeId} {x x' v : Value} {H' : AHeap} (hR : R P m H w) (h : aconvH P H src dst x = some (v, H')) (hx : VR m x x') : Goes P m H w ((convert src dst x').run P w) v H' := by
  unfold aconvH at h
  split at h
  · rename_i e s hs hd
    cases hx
    split at h
    · rename_i he
      cases h
      have hrun := run_bytes_of_string (P := P) w src dst e s hs hd he
      have hRd : R P m H w.drew := hR.drawn _
      have hv : VRs m (s.data.toList.map fun b => Value.int .u8 (b.toNat : Int)) (s.data.toList.map fun b => Value.int .u8 (b.toNat : Int)) := VRs.map _ _ _ fun b _ => .int _ _
      have h1 : oneCells (s.data.toList.map fun b => Value.int .u8 (b.toNat : Int)) = true := by
        unfold oneCells
        rw [List.all_eq_true]
        intro x hx
        obtain ⟨b, _, rfl⟩ := List.mem_map.1 hx
        rfl
      have hrow : bytesRow s (grownCap w s.size 0 e) = ((s.data.toList.map fun b => Value.int .u8 (b.toNat : Int)) ++ List.replicate (grownCap w s.size 0 e - s.size) (Value.int .u8 0)).toArray := by
        unfold bytesRow
        apply Array.ext'
        simp
      have hsz : (s.data.toList.map fun b => Value.int .u8 (b.toNat : Int)).length = s.size := by simp
      obtain ⟨q1, q2⟩ := hRd.newCellsF (List.replicate (grownCap w s.size 0 e - s.size) (Value.int .u8 0)) e 1 ((bytesRow s (grownCap w s.size 0 e)).size, (bytesRow s (grownCap w s.size 0 e)).size + 1)
        (by rw [hrow]; simp) hv h1
      rw [← hrow] at q1 q2
      refine ⟨_, _, _, hrun, ?_, q1, q2.drawn _⟩
      have hg := grownCap_ge w s.size 0 e
      refine .slice H.next 0 s.size s.size _ _ _ (by unfold Emb.ext; rw [if_pos rfl]) (.inr rfl) (Nat.le_refl _) hg (.inr ⟨?_, ?_⟩)
      · show 0 + s.size * 1 = (s.data.toList.map fun b => Value.int .u8 (b.toNat : Int)).length
        rw [hsz]; omega
      · show 0 + grownCap w s.size 0 e * 1 ≤ (s.data.toList.map fun b => Value.int .u8 (b.toNat : Int)).length + (List.replicate (grownCap w s.size 0 e - s.size) (Value.int .u8 0)).length
        rw [hsz, List.length_replicate]; omega
    · cases h
  · rename_i e i o n c hs hd
    split at h
    · rename_i he
      simp only [Option.map_eq_some_iff, Option.bind_eq_some_iff] at h
      obtain ⟨bs, ⟨cs, h1, h2⟩, h3⟩ := h
      cases h3
      cases hx with
      | slice _ _ _ _ c' a l hm ha hnc hcc hcap =>
      have hb := abytes_get h2
      unfold AHeap.cellsAt at h1
      split at h1
      · rename_i os esz rw0 hg
        split at h1
        · rename_i hle
          cases h1
          obtain ⟨l', hl', hor⟩ := hR.obj i _ hg
          rw [hm] at hl'; cases hl'
          cases hor with
          | cells _ _ _ hs1 he1 ha1 hc1 hw1 =>
          have hlen : bs.length = n := by
            have := congrArg List.length hb
            simp at this
            omega
          have hbyte : ∀ j (hj : j < bs.length), os[o + j]? = some (.int .u8 (bs[j].toNat : Int)) := by
            intro j hj
            have := congrArg (fun l => l[j]?) hb
            simp only [List.getElem?_take, List.getElem?_drop, List.getElem?_map, List.getElem?_eq_getElem hj, Option.map_some] at this
            rw [if_pos (by omega)] at this
            exact this
          by_cases hn : n = 0
          · subst hn
            have hbe : bs = [] := List.eq_nil_of_length_eq_zero hlen
            subst hbe
            refine ⟨_, w, m, run_convert_bytes_back (P := P) w src dst e a c' [] hs he hd (fun j hj => by simp at hj), .string _, hR, Kept.refl _ _ _⟩
          · have ha := ha.resolve_left (by omega)
            subst ha
            have := run_convert_bytes_back (P := P) w src dst e ⟨l.block, l.off + o, none⟩ c' bs hs he hd (fun j hj => by
              obtain ⟨v', e1, e2, e3⟩ := hc1 (o + j) _ (hbyte j hj)
              cases e2
              rw [Addr.add_mid, Nat.add_assoc]
              exact e1)
            rw [hlen] at this
            exact ⟨_, w, m, this, .string _, hR, Kept.refl _ _ _⟩
        · cases h1
      · cases h1
    · cases h
  · cases h

theorem aopX_goes {t : Env} {a : Act} {o : Oper} {v : Value} {H' : AHeap} (hT : ZerosPlain P) (hok : opOk P o.op = true) (hE : EnvR m t a) (hR : R P m H w) (h : aopX P o.op t H = some (v, H')) :
    ∃ v' w' m', ((execOp a.eval o).run P w = .ok (.value v') w' ∨ ((execOp a.eval o).run P w = .ok .skip w' ∧ v' = undef)) ∧ VR m' v v' ∧ R P m' H' w' ∧ Kept m H w m' H' w' := by
  unfold aopX at h
  split at h
  · rename_i r hr
    cases h
    exact aop_goes hT hok hE hR hr
  · rename_i hno
    clear hno
    obtain ⟨dst, op, ty, pos, after, guard⟩ := o
    unfold abig at h
    dsimp only at h hok
    split at h
    · rename_i s d x
      have hx : opndOk P x = true := by simpa [opOk, Op.operands] using hok
      obtain ⟨v', w', m', e, q⟩ := aconvH_goes hR h (ev_rel hR hE hx)
      refine ⟨v', w', m', .inl ?_, q⟩
      have : execOp a.eval ⟨dst, .convert s d x, ty, pos, after, guard⟩ = (do pure (Next.value (← convert s d (a.eval x)))) := rfl
      rw [this]
      simp only [Sem.run_bind, e, Result.andThen_ok, Sem.run_pure]
    · cases h
end Go.LH
