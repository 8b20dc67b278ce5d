/-
  What came in is read into the logical heap; a call over the logical heap as a call of the model.
-/
import Derived.Test.YtmjlmlipnejbfaaGreatDoorLH22
import Derived.Below
import Derived.ChangeSame
import Derived.WideKeyArgs
set_option linter.all false
namespace Go.LH
variable {P : Program} {m : Emb} {H : AHeap} {w : World}

/- a heap for reading only -/
def RoH (H : AHeap) : Prop := ∀ i o, H.get i = some o → o.rw = false
def putE (m : Emb) (i : Nat) (l : Loc) : Emb := fun j => if j = i then some l else m j
theorem putE_le (hR : R P m H w) (l : Loc) : m.le (putE m H.next l) := by
  intro i l' h
  unfold putE
  rw [if_neg (fun e => by rw [e, hR.fresh H.next (Nat.le_refl _)] at h; cases h)]
  exact h
/-- One thing more that is read. -/
theorem R.read (hR : R P m H w) (hro : RoH H) (l : Loc) (cs : List Value) (hs : l.size = cs.length) (ha : l.size ≤ l.avail) (hb : l.block < w.heap.size)
    (hc : ∀ (k : Nat) (v : Value), cs[k]? = some v → ∃ v', w.cell? ⟨l.block, l.off + k, none⟩ = some v' ∧ VR m v v' ∧ v.oneCell' = true) :
    R P (putE m H.next l) (H.add (.cells cs l.esz false)) w ∧ RoH (H.add (.cells cs l.esz false)) := by
  have hle := putE_le hR l
  have hro' : RoH (H.add (.cells cs l.esz false)) := by
    intro i o hi
    rw [gx_add] at hi
    split at hi
    · cases hi; rfl
    · exact hro i o hi
  refine ⟨⟨fun i o hi => ?_, fun i hi => ?_, fun i l' hi => ?_, fun i j oi oj li lj _ hi hrw => ?_, fun g hg => ?_⟩, hro'⟩
  · rw [gx_add] at hi
    split at hi
    · rename_i e
      cases hi
      refine ⟨l, by unfold putE; rw [if_pos e], .cells cs l.esz false hs rfl ha (fun k v hk => ?_) (by intro h; cases h)⟩
      obtain ⟨v', q1, q2, q3⟩ := hc k v hk
      exact ⟨v', q1, q2.mono hle, q3⟩
    · rename_i e
      obtain ⟨l', q1, q2⟩ := hR.obj i o hi
      exact ⟨l', hle _ _ q1, q2.other hle rfl⟩
  · have : H.next + 1 ≤ i := hi
    unfold putE
    rw [if_neg (by omega)]
    exact hR.fresh i (by omega)
  · unfold putE at hi
    split at hi
    · cases hi; exact hb
    · exact hR.block i l' hi
  · rw [hro' i oi hi] at hrw; cases hrw
  · obtain ⟨l', q1, q2⟩ := hR.glob g hg
    exact ⟨l', hle _ _ q1, q2⟩

/-- The heap with nothing but the places of the variables. -/
def emb0 (P : Program) : Emb := fun g => if g < P.globals.size then some ⟨g, 0, 0, 0, 0⟩ else none
theorem R.start (h : P.globals.size ≤ w.heap.size) : R P (emb0 P) (emp P) w ∧ RoH (emp P) := by
  refine ⟨⟨fun i o hi => (by cases hi), fun i hi => ?_, fun i l hi => ?_, fun i j oi oj li lj _ hi => (by cases hi), fun g hg => ⟨_, by unfold emb0; rw [if_pos hg], rfl, rfl⟩⟩, fun i o hi => (by cases hi)⟩
  · have : ¬ i < P.globals.size := Nat.not_lt.2 hi
    unfold emb0; rw [if_neg this]
  · unfold emb0 at hi
    split at hi
    · cases hi; dsimp only; omega
    · cases hi

/-- A call over the logical heap as a call of the model. -/
theorem RCalls.calls {f : FuncId} {fn : Func} {c : Code} {args : List Value} {args' : Array Value} {Q : Value → AHeap → Prop} (hf : P.funcs[f]? = some fn) (hb : fn.body = some c) (hn : (fn.name != "runtime.NumGoroutine") = true)
    (h : RCalls P f args H Q) (ha : VRs m args args'.toList) (hR : R P m H w) :
    Calls P f args' w fun e w' => ∃ v', e = .returned v' ∧ ∃ v H' m', Q v H' ∧ VR m' v v' ∧ R P m' H' w' ∧ Kept m H w m' H' w' := by
  have h1 := h m w args' ha hR
  have hcf : (callFunc f args').run P w = .ok (.enter f args') w := by
    have hn' : ¬ ((fn.name == "runtime.NumGoroutine") = true) := by
      intro e
      simp only [bne] at hn
      rw [e] at hn; cases hn
    simp only [callFunc, Sem.run_bind, run_program, Result.andThen_ok, hf]
    rw [if_neg hn', if_neg (by simp [hb])]
    rfl
  rw [hcf] at h1
  exact h1
theorem Kept.below {m' : Emb} {H' : AHeap} {w' : World} (h : Kept m H w m' H' w') (hro : RoH H) : Go.RowKit.Below w.heap.size w w' :=
  ⟨h.os, h.tape, h.output, h.size, fun k hk => h.block k hk fun ⟨i, o, l, h1, h2, _⟩ => by rw [hro i o h1] at h2; cases h2⟩
/-- A law: whatever the heap, true. -/
theorem law_calls {f : FuncId} {fn : Func} {c : Code} {args : List Value} {args' : Array Value} (hf : P.funcs[f]? = some fn) (hb : fn.body = some c) (hn : (fn.name != "runtime.NumGoroutine") = true)
    (h : ∀ K : Value → AHeap → Prop, (∀ H', K (.bool true) H') → RCalls P f args H K) (ha : VRs m args args'.toList) (hR : R P m H w) (hro : RoH H) :
    Calls P f args' w fun e w' => e = .returned (.bool true) ∧ Go.RowKit.Below w.heap.size w w' := by
  refine (RCalls.calls hf hb hn (h (fun v _ => v = .bool true) fun _ => rfl) ha hR).mono ?_
  rintro e w' ⟨v', rfl, v, H', m', rfl, q1, -, q3⟩
  cases q1
  exact ⟨rfl, q3.below hro⟩

/- what a reading tells -/
section
variable {E : Type} {enc : TypeId × Value → E} {sp : Nat → Bool} {hd : Bool}
theorem trod_int {t : TypeId} {k : IntKind} {fuel : Nat} {cs : List Value} {x : DataW E × List MemPlace} (hu : P.underlying t = some (.int k)) (h : DataW.trod enc P w 0 sp hd fuel t cs = some x) : ∃ n, cs = [.int k n] ∧ x.1 = .lit (.int k n) ∧ (Lit.int k n).wf = true := by
  cases fuel with
  | zero => simp [DataW.trod] at h
  | succ fuel =>
    simp only [DataW.trod, hu] at h
    split at h
    all_goals first | (cases h; done) | (rename_i heq; cases heq; done) | skip
    rename_i heq
    cases heq
    split at h
    · rename_i h1
      cases h
      obtain ⟨rfl, h2⟩ := h1
      exact ⟨_, rfl, rfl, h2⟩
    · cases h
theorem trod_string {t : TypeId} {fuel : Nat} {cs : List Value} {x : DataW E × List MemPlace} (hu : P.underlying t = some .string) (h : DataW.trod enc P w 0 sp hd fuel t cs = some x) : ∃ s : ByteArray, cs = [.string s] ∧ x.1 = .lit (.string s.data.toList) ∧ s.size ≤ 9223372036854775807 := by
  cases fuel with
  | zero => simp [DataW.trod] at h
  | succ fuel =>
    simp only [DataW.trod, hu] at h
    split at h
    all_goals first | (cases h; done) | (rename_i heq; cases heq; done) | skip
    split at h
    · rename_i h1
      cases h
      exact ⟨_, rfl, rfl, h1⟩
    · cases h
theorem trod_bool {t : TypeId} {fuel : Nat} {cs : List Value} {x : DataW E × List MemPlace} (hu : P.underlying t = some .bool) (h : DataW.trod enc P w 0 sp hd fuel t cs = some x) : ∃ b, cs = [.bool b] ∧ x.1 = .lit (.bool b) := by
  cases fuel with
  | zero => simp [DataW.trod] at h
  | succ fuel =>
    simp only [DataW.trod, hu] at h
    split at h
    all_goals first | (cases h; done) | (rename_i heq; cases heq; done) | skip
    cases h
    exact ⟨_, rfl, rfl⟩
theorem trod_struct {t : TypeId} {fs : Array Field} {fuel : Nat} {cs : List Value} {x : DataW E × List MemPlace} (hu : P.underlying t = some (.struct fs)) (h : DataW.trod enc P w 0 sp hd fuel t cs = some x) :
    cs.length = P.cellsOf t ∧ ∃ n xs, fuel = n + 1 ∧ (fs.toList.mapM fun f => DataW.trod enc P w 0 sp hd n f.type ((cs.drop f.offset).take (P.cellsOf f.type))) = some xs ∧ x.1 = .agg (xs.map (·.1)) := by
  cases fuel with
  | zero => simp [DataW.trod] at h
  | succ fuel =>
    simp only [DataW.trod, hu] at h
    split at h
    · rename_i h1
      simp only [Option.map_eq_some_iff] at h
      obtain ⟨xs, h2, rfl⟩ := h
      exact ⟨h1, fuel, xs, rfl, h2, rfl⟩
    · cases h
theorem mapM_all {α β : Type} {f : α → Option β} : ∀ {l : List α} {r : List β}, l.mapM f = some r → r.length = l.length ∧ ∀ (i : Nat) (a : α), l[i]? = some a → ∃ b, f a = some b ∧ r[i]? = some b
  | [], r, h => by
    simp at h; subst h; simp
  | a :: l, r, h => by
    rw [List.mapM_cons] at h
    cases h1 : f a with
    | none => simp [h1] at h
    | some b =>
      cases h2 : l.mapM f with
      | none => simp [h1, h2] at h
      | some r' =>
        simp [h1, h2] at h
        subst h
        obtain ⟨q1, q2⟩ := mapM_all h2
        refine ⟨by simp [q1], fun i x hi => ?_⟩
        cases i with
        | zero => simp at hi; subst hi; exact ⟨b, h1, by simp⟩
        | succ i => simp at hi; obtain ⟨y, q3, q4⟩ := q2 i x hi; exact ⟨y, q3, by simpa using q4⟩
theorem trod_slice {t e : TypeId} {fuel : Nat} {cs : List Value} {x : DataW E × List MemPlace} (hu : P.underlying t = some (.slice e)) (h : DataW.trod enc P w 0 (fun _ => true) hd fuel t cs = some x) :
    (cs = [.slice none 0 0] ∧ x.1 = .nil) ∨ ∃ (a : Addr) (n c fl : Nat) (ds rs : List (DataW E)), cs = [.slice (some a) n c] ∧ n ≤ c ∧ c ≤ 9223372036854775807 ∧ fuel = fl + 1 ∧ x.1 = .slice ds rs ∧ ds.length = n ∧ rs.length = c - n ∧
      ∀ i, i < c → ∃ us y, w.cells? 0 (a.add (i * P.cellsOf e)) (P.cellsOf e) = some us ∧ DataW.trod enc P w 0 (fun _ => true) hd fl e us = some y ∧ (i < n → ds[i]? = some y.1) := by
  cases fuel with
  | zero => simp [DataW.trod] at h
  | succ fuel =>
    simp only [DataW.trod, hu] at h
    split at h
    all_goals first | (cases h; done) | (rename_i heq; cases heq; done) | skip
    · cases h; exact .inl ⟨rfl, rfl⟩
    · rename_i a n c heq
      cases heq
      split at h
      · rename_i h1
        simp only [Option.bind_eq_some_iff, Option.map_eq_some_iff, if_true] at h
        obtain ⟨els, q1, rest, q2, rfl⟩ := h
        obtain ⟨l1, r1⟩ := mapM_all q1
        obtain ⟨l2, r2⟩ := mapM_all q2
        refine .inr ⟨a, n, c, fuel, _, _, rfl, h1.2.1, h1.2.2, rfl, rfl, by simpa using l1, by simpa using l2, fun i hi => ?_⟩
        by_cases hn : i < n
        · obtain ⟨y, k1, k2⟩ := r1 i i (by simp [hn])
          simp only [Option.bind_eq_some_iff] at k1
          obtain ⟨us, k3, k4⟩ := k1
          exact ⟨us, y, k3, k4, fun _ => by simp [k2]⟩
        · obtain ⟨y, k1, k2⟩ := r2 (i - n) (i - n) (List.getElem?_range (by omega))
          simp only [Option.bind_eq_some_iff] at k1
          obtain ⟨us, k3, k4⟩ := k1
          rw [show n + (i - n) = i by omega] at k3
          exact ⟨us, y, k3, k4, fun q => absurd q hn⟩
      · cases h
/-- The cells that a reading went over. -/
theorem cells_at {a : Addr} {i z : Nat} {us : List Value} (h : w.cells? 0 (a.add (i * z)) z = some us) (hz : 0 < z) : us.length = z ∧ a.block < w.heap.size ∧ (i = 0 → a.spot = none) ∧ ∀ j, j < z → ∃ v, us[j]? = some v ∧ w.cell? ⟨a.block, a.off + (i * z + j), none⟩ = some v := by
  unfold World.cells? at h
  split at h
  · obtain ⟨q1, q2⟩ := mapM_all h
    have hbk : (a.add (i * z)).block = a.block := by unfold Addr.add; split <;> rfl
    have key : ∀ j, j < z → ∃ v, us[j]? = some v ∧ w.cell? ⟨a.block, a.off + (i * z + j), none⟩ = some v := by
      intro j hj
      obtain ⟨v, k1, k2⟩ := q2 j j (by simp [hj])
      refine ⟨v, k2, ?_⟩
      unfold World.cell? at k1 ⊢
      have hb2 : ((a.add (i * z)).add j).block = a.block := by unfold Addr.add; split <;> split <;> rfl
      have ho2 : ((a.add (i * z)).add j).off = a.off + (i * z + j) := by
        have e1 : ∀ (b : Addr) n, (b.add n).off = b.off + n := by
          intro b n; unfold Addr.add; split
          · rename_i q; rw [q]; rfl
          · rfl
        rw [e1, e1]; omega
      rw [hb2] at k1
      dsimp only
      split at k1
      · rename_i c _ _ hc
        try rw [hc]
        split at k1
        · cases k1
        · rw [ho2] at k1; simpa using k1
      · cases k1
    refine ⟨by simpa using q1, ?_, ?_, key⟩
    · obtain ⟨v, -, k⟩ := key 0 hz
      unfold World.cell? at k
      split at k
      · rename_i hc
        exact (Array.getElem?_eq_some_iff.1 hc).1
      · cases k
    · intro hi
      obtain ⟨v, k1, -⟩ := q2 0 0 (by simp [hz])
      have e : (a.add (i * z)).add 0 = a := by subst hi; simp [Addr.add]
      rw [e] at k1
      unfold World.cell? at k1
      split at k1
      · split at k1
        · cases k1
        · rename_i q; simpa using q
      · cases k1
  · cases h
end
theorem choose_list {α : Type} [Inhabited α] {Q : Nat → α → Prop} : ∀ c, (∀ i, i < c → ∃ x, Q i x) → ∃ l : List α, l.length = c ∧ ∀ i, i < c → Q i (nth l i)
  | 0, _ => ⟨[], rfl, fun i hi => by omega⟩
  | c + 1, h => by
    obtain ⟨l, h1, h2⟩ := choose_list c fun i hi => h i (by omega)
    obtain ⟨x, hx⟩ := h c (by omega)
    refine ⟨l ++ [x], by simp [h1], fun i hi => ?_⟩
    by_cases e : i < c
    · rw [nth_append_left (by omega)]; exact h2 i e
    · obtain rfl : i = c := by omega
      rw [← h1, nth_snoc, h1]; exact hx
/-- A slice that is read, its elements told. -/
theorem R.readS {α : Type} [Inhabited α] {f : α → List Value} {z : Nat} (hz : ∀ x, (f x).length = z) (hz0 : 0 < z) (hR : R P m H w) (hro : RoH H) (h0 : 0 < w.heap.size) (xs : List α) (a : Addr) (c : Nat) (hc : xs.length = c)
    (he : ∀ i, i < c → ∃ us, w.cells? 0 (a.add (i * z)) z = some us ∧ VRs m (f (nth xs i)) us) (hone : ∀ x, ∀ v ∈ f x, v.oneCell' = true) :
    ∃ m', R P m' (H.add (.cells (xs.flatMap f) z false)) w ∧ RoH (H.add (.cells (xs.flatMap f) z false)) ∧ m.le m' ∧ ∀ n, n ≤ c → VR m' (.slice (some ⟨H.next, 0, none⟩) n c) (.slice (some a) n c) := by
  have hl := flat_length hz xs
  have main : ∀ l : Loc, l.size = c * z → l.size ≤ l.avail → l.esz = z → l.block < w.heap.size → (0 < c → l.block = a.block ∧ l.off = a.off ∧ a.spot = none) →
      ∃ m', R P m' (H.add (.cells (xs.flatMap f) z false)) w ∧ RoH (H.add (.cells (xs.flatMap f) z false)) ∧ m.le m' ∧ ∀ n, n ≤ c → VR m' (.slice (some ⟨H.next, 0, none⟩) n c) (.slice (some a) n c) := by
    intro l e1 e2 e3 e4 e5
    have hr := hR.read hro l (xs.flatMap f) (by rw [e1, hl, hc]) e2 e4 (fun k v hk => ?_)
    · rw [e3] at hr
      refine ⟨_, hr.1, hr.2, putE_le hR l, fun n hn => ?_⟩
      refine VR.slice H.next 0 n c c a l (by unfold putE; rw [if_pos rfl]) ?_ hn (Nat.le_refl _) (.inl rfl)
      by_cases q : 0 < c
      · right
        obtain ⟨k1, k2, k3⟩ := e5 q
        cases a
        simp_all
      · left; omega
    · have hkl : k < c * z := by
        have := (List.getElem?_eq_some_iff.1 hk).1
        rw [hl, hc] at this; exact this
      have hi : k / z < c := Nat.div_lt_of_lt_mul (by rw [Nat.mul_comm]; exact hkl)
      have hj : k % z < z := Nat.mod_lt _ hz0
      have hkk : k / z * z + k % z = k := by rw [Nat.mul_comm]; exact Nat.div_add_mod k z
      have hf := flat_cell (f := f) hz (r := []) (xs := xs) (k := k / z) (j := k % z) (by omega) hj
      rw [List.append_nil, hkk, hk] at hf
      obtain ⟨us, q1, q2⟩ := he (k / z) hi
      obtain ⟨p1, p2, p3, p4⟩ := cells_at q1 hz0
      obtain ⟨v', r1, r2⟩ := p4 (k % z) hj
      obtain ⟨v2, t1, t2⟩ := q2.get _ _ hf.symm
      rw [r1] at t1; cases t1
      obtain ⟨k1, k2, k3⟩ := e5 (Nat.lt_of_le_of_lt (Nat.zero_le _) hi)
      rw [hkk] at r2
      exact ⟨_, by rw [k1, k2]; exact r2, t2, hone _ v (List.mem_of_getElem? hf.symm)⟩
  by_cases q : 0 < c
  · obtain ⟨us, q1, q2⟩ := he 0 q
    obtain ⟨p1, p2, p3, p4⟩ := cells_at q1 hz0
    exact main ⟨a.block, a.off, c * z, c * z, z⟩ rfl (Nat.le_refl _) rfl p2 fun _ => ⟨rfl, rfl, p3 rfl⟩
  · exact main ⟨0, 0, c * z, c * z, z⟩ rfl (Nat.le_refl _) rfl h0 fun k => absurd k q
end Go.LH
