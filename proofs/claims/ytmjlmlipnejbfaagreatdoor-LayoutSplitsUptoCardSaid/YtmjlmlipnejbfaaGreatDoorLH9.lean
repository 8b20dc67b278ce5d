/-
  The logical heap: every operation that is no call does there what it does in the model.
-/
import Derived.Test.YtmjlmlipnejbfaaGreatDoorLH8
set_option linter.all false
namespace Go.LH
variable {P : Program} {m : Emb} {H : AHeap} {w : World}

def ZerosPlain (P : Program) : Prop := ∀ t z, tzero P t = some z → z.all plainB = true
theorem zerosPlain (P : Program) : ZerosPlain P := by
  intro t z h
  unfold tzero at h
  cases hi : P.info? t with
  | none => simp [hi] at h
  | some i =>
    cases hz : i.zero with
    | none => simp [hi, hz] at h
    | some v =>
      simp only [hi, hz, Option.bind_some] at h
      split at h
      · rename_i hp; cases h; exact hp
      · cases h

theorem vrs_plain {z : List Value} (h : z.all plainB = true) : VRs m z z :=
  VRs.of_get rfl fun i a b e e' => by rw [e] at e'; cases e'; exact (plain_of_B (List.all_eq_true.1 h a (List.mem_of_getElem? e))).vr

theorem acopy_goes {dT sT ty e : TypeId} {d d' s s' v : Value} {H' : AHeap} (hR : R P m H w) (hu : P.underlying dT = some (.slice e)) (h : acopy P H e d s = some (v, H')) (hd : VR m d d') (hs : VR m s s') :
    Goes P m H w ((Builtin.copy_ #[dT, sT] ty #[d', s']).run P w) v H' := by
  unfold acopy at h
  split at h
  · rename_i size base n c k hsz hal
    have hlen := len_run hal hs (P := P) w
    split at h
    · rename_i cs hf
      obtain ⟨cs', hfr, hv⟩ := first_run hR hf hs (fun i o q c e => by subst e; simp [alen] at hal; omega)
      have hpre : ∀ (base' : Option Addr) (c' : Nat) (w' : World), (∀ a, base' = some a → (storeCells a cs').run P w = .ok () w') → (base' = none → w' = w) →
          (Builtin.copy_ #[dT, sT] ty #[.slice base' n c', s']).run P w = .ok (goInt ((min k n : Nat) : Int)) w' := by
        intro base' c' w' h1 h2
        simp only [Builtin.copy_, List.getElem?_toArray, List.getElem?_cons_zero, List.getElem?_cons_succ, Sem.run_bind, run_underlying hu, Result.andThen_ok, hlen, run_sizeOf hsz]
        have hfr' : (Builtin.firstCells size (k.min n) s').run P w = .ok cs'.toArray w := hfr w.drawn
        rw [hfr']
        cases base' with
        | none => rw [h2 rfl]; rfl
        | some a => simp only [Result.andThen_ok, Sem.run_bind, h1 a rfl]; rfl
      split at h
      · cases h
        cases hd
        exact ⟨_, w, m, hpre none 0 w (fun a e => by cases e) (fun _ => rfl), .int _ _, hR, Kept.refl _ _ _⟩
      · rename_i i o
        cases hd with
        | slice _ _ _ _ c' a l hm ha hnc hcc he =>
        split at h
        · rename_i h0
          cases h
          have hcl : cs' = [] := by
            have h1 := hv.length
            have h2 : cs = [] := by
              unfold afirst at hf
              rw [h0] at hf
              split at hf
              · split at hf <;> cases hf; rfl
              · unfold AHeap.cellsAt at hf
                split at hf
                · split at hf
                  · cases hf; simp
                  · cases hf
                · cases hf
              · split at hf
                · cases hf; simp
                · cases hf
              · cases hf
            subst h2
            exact List.eq_nil_of_length_eq_zero h1.symm
          subst hcl
          refine ⟨_, w, m, hpre (some a) c' w (fun a' e => by simp [storeCells]) (fun e => by cases e), ?_, hR, Kept.refl _ _ _⟩
          rw [h0]; exact .int _ _
        · rename_i h0
          cases hst : H.setAt i o cs with
          | none => rw [hst] at h; cases h
          | some H1 =>
            rw [hst] at h; cases h
            obtain ⟨h1, h2, h3, h4⟩ := hR.setAt hm hst hv
            have ha' := ha.resolve_left (by omega)
            subst ha'
            have hsc := run_storeCells_cells (P := P) l.block (l.off + o) cs' 0 w (fun j hj => by simpa using (h1 j hj).1) (fun j hj => by simpa using (h1 j hj).2) h2
            exact ⟨_, _, m, hpre (some ⟨l.block, l.off + o, none⟩) c' (w.setCells l.block (l.off + o) cs') (fun a' e => by cases e; simpa using hsc) (fun e => by cases e), .int _ _, h3, h4⟩
      · cases h
    · cases h
  · cases h

theorem azeros_get {z : List Value} (hz : 0 < z.length) : ∀ (n i : Nat), i < n * z.length → (azeros z n)[i]? = z[i % z.length]?
  | 0, i, h => by simp at h
  | n + 1, i, h => by
    simp only [azeros]
    by_cases hi : i < z.length
    · rw [List.getElem?_append_left hi, Nat.mod_eq_of_lt hi]
    · have h' : i < n * z.length + z.length := by rw [Nat.add_mul, Nat.one_mul] at h; exact h
      rw [List.getElem?_append_right (by omega), azeros_get hz n (i - z.length) (by omega), Nat.mod_eq_sub_mod (a := i) (b := z.length) (by omega)]
theorem azeros_length (z : List Value) : ∀ n, (azeros z n).length = n * z.length
  | 0 => by simp [azeros]
  | n + 1 => by simp [azeros, azeros_length z n, Nat.add_mul]; omega
theorem range_zeros {z : Array Value} (hz : 0 < z.size) (n : Nat) : ((Array.range (n * z.size)).map (fun i => z[i % z.size]!)).toList = azeros z.toList n := by
  apply List.ext_getElem?
  intro i
  by_cases hi : i < n * z.size
  · have := azeros_get (z := z.toList) (by simpa using hz) n i (by simpa using hi)
    rw [this]
    have hlt : i % z.size < z.size := Nat.mod_lt _ hz
    simp [hi, hlt]
  · rw [List.getElem?_eq_none (by simp; omega), List.getElem?_eq_none (by rw [azeros_length]; simp; omega)]

theorem wrap_small {x : Int} (h0 : 0 ≤ x) (h1 : x ≤ 140737488355328) : IntKind.i64.wrap x = x := by
  rw [IntKind.wrap_i64]; omega

theorem range0 {α : Type} (f : Nat → α) : (Array.range 0).map f = #[] := by simp

theorem amake_goes {ty : TypeId} {l c l' c' v : Value} {H' : AHeap} (hT : ZerosPlain P) (hR : R P m H w) (h : amakeSlice P H ty l c = some (v, H')) (hl : VR m l l') (hc : VR m c c') :
    Goes P m H w ((Instr.makeSlice ty l' c').run P w) v H' := by
  unfold amakeSlice at h
  split at h
  · rename_i e l c he
    cases hl; cases hc
    have hu : P.underlying ty = some (.slice e) := by
      unfold telem at he
      split at he
      · rename_i e' hu; cases he; exact hu
      · cases he
    split at h
    · rename_i size0 bytes zero hsz hby hz0
      split at h
      · rename_i hh
        obtain ⟨h0, h1, h2, h3, h4, h5⟩ := hh
        cases h
        obtain ⟨i, hii, hbi⟩ := tby_info hby
        obtain ⟨zv, hzr, hzc⟩ := run_zeroValue hz0 w
        have hti : (typeInfo e).run P w = .ok i w := by simp [typeInfo, hii]
        have hwl := wrap_small h0 (by omega)
        have hwc := wrap_small (show 0 ≤ c by omega) h2
        have hzp := hT _ _ hz0
        have hzs : zv.cells.size = size0 + 1 := by rw [← h4, ← hzc]; simp
        obtain ⟨cells, hc3, hrun⟩ : ∃ cells : Array Value, cells.toList = azeros zero c.toNat ∧
            (if c.toNat * (size0 + 1) = 0 then (do
                let zero ← pure #[]
                let a ← newRow e (Array.map (fun x => zero[x % zero.size]!) (Array.range (c.toNat * (size0 + 1))))
                pure (Value.slice (some a) l.toNat c.toNat))
              else do
                let __do_lift ← zeroValue e
                let zero ← pure __do_lift.cells
                let a ← newRow e (Array.map (fun x => zero[x % zero.size]!) (Array.range (c.toNat * (size0 + 1))))
                pure (Value.slice (some a) l.toNat c.toNat) : Sem Value).run P w = .ok (.slice (some ⟨w.heap.size, 0, none⟩) l.toNat c.toNat) (w.alloc (.cells cells e)) := by
          by_cases hc0 : c.toNat * (size0 + 1) = 0
          · have hcz : c.toNat = 0 := by
              rcases Nat.eq_zero_or_pos c.toNat with q | q
              · exact q
              · exact absurd hc0 (Nat.ne_of_gt (Nat.mul_pos q (Nat.succ_pos _)))
            refine ⟨#[], by rw [hcz]; rfl, ?_⟩
            rw [if_pos hc0, hc0]
            simp only [Sem.run_bind, Sem.run_pure, Result.andThen_ok, newRow, run_newObj, range0]
            rfl
          · refine ⟨(Array.range (c.toNat * (size0 + 1))).map (fun i => zv.cells[i % zv.cells.size]!), ?_, ?_⟩
            · rw [← hzc, ← hzs]
              exact range_zeros (by omega) _
            · rw [if_neg hc0]
              simp only [Sem.run_bind, hzr, Result.andThen_ok, Sem.run_pure, newRow, run_newObj]
              rfl
        have hv : VRs m (azeros zero c.toNat) cells.toList := by
          rw [hc3]
          refine vrs_plain (List.all_eq_true.2 fun x hx => ?_)
          obtain ⟨q, hq⟩ := List.getElem?_of_mem hx
          have hql := (List.getElem?_eq_some_iff.1 hq).1
          rw [azeros_length] at hql
          rw [azeros_get (by omega) c.toNat q hql] at hq
          exact List.all_eq_true.1 hzp x (List.mem_of_getElem? hq)
        have h1c : oneCells (azeros zero c.toNat) = true := by
          refine List.all_eq_true.2 fun x hx => ?_
          obtain ⟨q, hq⟩ := List.getElem?_of_mem hx
          have hql := (List.getElem?_eq_some_iff.1 hq).1
          rw [azeros_length] at hql
          rw [azeros_get (by omega) c.toNat q hql] at hq
          exact List.all_eq_true.1 h5 x (List.mem_of_getElem? hq)
        obtain ⟨m', L, hm, hLb, hLo, q2, q3⟩ := new_run e (size0 + 1) hR hv h1c
        refine ⟨.slice (some ⟨w.heap.size, 0, none⟩) l.toNat c.toNat, _, m', ?_, ?_, q2, q3⟩
        · have b1 : (i.bytes : Int) = (bytes : Int) := by rw [hbi]
          have hbig : ¬ (c < 0 ∨ (bytes : Int) * c > 2 ^ 48) := by
            rw [Int.mul_comm]
            show ¬ (c < 0 ∨ _ > (281474976710656 : Int))
            omega
          simp only [Instr.makeSlice, Sem.run_bind, run_underlying hu, Result.andThen_ok, asInt, asIntOf, Sem.run_pure, hti, hwl, hwc, b1]
          have hno : (((decide (c < 0) || decide ((bytes : Int) * c > 2 ^ 48)) = true) ∨ l < 0 ∨ l > c) = False := by
            simp only [Bool.or_eq_true, decide_eq_true_eq, eq_iff_iff, iff_false]
            omega
          simp only [Bool.or_eq_true, decide_eq_true_eq] at hno ⊢
          rw [if_neg (by rw [or_assoc] at *; intro hq; rcases hq with hq | hq | hq; exact hbig hq; omega; omega)]
          simp only [Sem.run_bind, run_askRoom, Result.andThen_ok, run_sizeOf hsz]
          exact hrun
        · refine .slice _ _ _ _ c.toNat _ L hm (.inr (by rw [hLb, hLo])) (by omega) (Nat.le_refl _) (.inl rfl)
      · cases h
    · cases h
  · cases h

theorem abuildSlice_goes {ty : TypeId} {n : Nat} {parts : List (Nat × Value)} {parts' : Array (Nat × Value)} {v : Value} {H' : AHeap} (hT : ZerosPlain P) (hR : R P m H w) (h : abuildSlice P H ty n parts = some (v, H'))
    (hl : parts.length = parts'.toList.length) (hp : ∀ (k : Nat) (p p' : Nat × Value), parts[k]? = some p → parts'.toList[k]? = some p' → p.1 = p'.1 ∧ VR m p.2 p'.2) :
    Goes P m H w ((Instr.buildSlice ty n parts').run P w) v H' := by
  unfold abuildSlice at h
  split at h
  · rename_i e he
    have hu : P.underlying ty = some (.slice e) := by
      unfold telem at he
      split at he
      · rename_i e' hu; cases he; exact hu
      · cases he
    split at h
    · rename_i size0 zero hsz hz0
      split at h
      · rename_i hc
        obtain ⟨h4, hn⟩ := hc
        split at h
        · rename_i cs hf
          split at h
          · rename_i h1
            cases h
            obtain ⟨zv, hzr, hzc⟩ := run_zeroValue hz0 w
            have hzs : zv.cells.size = size0 + 1 := by rw [← h4, ← hzc]; simp
            have hzp := hT _ _ hz0
            obtain ⟨z0, hzz, hc3⟩ : ∃ z0 : Array Value, (if n * (size0 + 1) = 0 then (pure #[] : Sem (Array Value)) else do pure (← zeroValue e).cells).run P w = .ok z0 w ∧ ((Array.range (n * (size0 + 1))).map (fun i => z0[i % z0.size]!)).toList = azeros zero n := by
              by_cases hc0 : n * (size0 + 1) = 0
              · have hcz : n = 0 := by
                  rcases Nat.eq_zero_or_pos n with q | q
                  · exact q
                  · exact absurd hc0 (Nat.ne_of_gt (Nat.mul_pos q (Nat.succ_pos _)))
                refine ⟨#[], by rw [if_pos hc0]; rfl, ?_⟩
                rw [hc0, hcz, range0]
                rfl
              · refine ⟨zv.cells, ?_, ?_⟩
                · rw [if_neg hc0]
                  simp only [Sem.run_bind, hzr, Result.andThen_ok, Sem.run_pure]
                · rw [← hzc, ← hzs]
                  exact range_zeros (by omega) _
            have hv : VRs m (azeros zero n) ((Array.range (n * (size0 + 1))).map (fun i => z0[i % z0.size]!)).toList := by
              rw [hc3]
              refine vrs_plain (List.all_eq_true.2 fun x hx => ?_)
              obtain ⟨q, hq⟩ := List.getElem?_of_mem hx
              have hql := (List.getElem?_eq_some_iff.1 hq).1
              rw [azeros_length] at hql
              rw [azeros_get (by omega) n q hql] at hq
              exact List.all_eq_true.1 hzp x (List.mem_of_getElem? hq)
            obtain ⟨r', hr1, hr2⟩ := fill_run parts parts'.toList _ _ cs hf hv hl hp
            obtain ⟨m', L, hm, hLb, hLo, q2, q3⟩ := new_run e (size0 + 1) hR hr2 h1
            refine ⟨.slice (some ⟨w.heap.size, 0, none⟩) n n, _, m', ?_, ?_, q2, q3⟩
            · have hbig : ¬ (n * (size0 + 1) > 2 ^ 24) := by show ¬ (_ > 16777216); omega
              have e0 : ∀ (z : Array Value), (if n * (size0 + 1) = 0 then (pure #[] : Sem (Array Value)) else do pure (← zeroValue e).cells).run P w = .ok z w →
                  ((Array.range (n * (size0 + 1))).map (fun i => z[i % z.size]!)) = ((Array.range (n * (size0 + 1))).map (fun i => z0[i % z0.size]!)) := by
                intro z hz; rw [hzz] at hz; cases hz; rfl
              simp only [Instr.buildSlice, Sem.run_bind, run_underlying hu, Result.andThen_ok, run_sizeOf hsz]
              rw [if_neg hbig]
              simp only [Nat.succ_eq_add_one]
              split
              · rename_i hc0
                rw [if_pos hc0] at hzz
                simp only [Sem.run_pure] at hzz
                cases hzz
                simp only [Sem.run_bind, Sem.run_pure, Result.andThen_ok, hr1, newRow, run_newObj]
                rfl
              · rename_i hc0
                rw [if_neg hc0] at hzz
                simp only [Sem.run_bind, hzr, Result.andThen_ok, Sem.run_pure] at hzz
                cases hzz
                simp only [Sem.run_bind, hzr, Sem.run_pure, Result.andThen_ok, hr1, newRow, run_newObj]
                rfl
            · exact .slice _ _ _ _ n _ L hm (.inr (by rw [hLb, hLo])) (Nat.le_refl _) (Nat.le_refl _) (.inl rfl)
          · cases h
        · cases h
      · cases h
    · cases h
  · cases h

theorem amin2_run {x y x' y' v : Value} (h : amin2 x y = some v) (hx : VR m x x') (hy : VR m y y') (w : World) : (Builtin.min2 x' y').run P w = .ok v w ∧ VR m v v := by
  unfold amin2 at h
  split at h
  · cases h; cases hx; cases hy; exact ⟨rfl, .int _ _⟩
  · cases h
theorem amax2_run {x y x' y' v : Value} (h : amax2 x y = some v) (hx : VR m x x') (hy : VR m y y') (w : World) : (Builtin.max2 x' y').run P w = .ok v w ∧ VR m v v := by
  unfold amax2 at h
  split at h
  · cases h; cases hx; cases hy; exact ⟨rfl, .int _ _⟩
  · cases h

theorem abuiltin_goes {b : Builtin} {ts : Array TypeId} {ty : TypeId} {consts : Array Bool} {xs : List Value} {xs' : Array Value} {v : Value} {H' : AHeap} (hR : R P m H w) (h : abuiltin P b ts xs H = some (v, H')) (hx : VRs m xs xs'.toList) :
    ∃ v' w' m', (builtin b ts ty consts xs').run P w = .ok (.value v') w' ∧ VR m' v v' ∧ R P m' H' w' ∧ Kept m H w m' H' w' := by
  have key : ∀ (s : Sem Value), Goes P m H w (s.run P w) v H' → ∃ v' w' m', (do pure (Next.value (← s)) : Sem Next).run P w = .ok (.value v') w' ∧ VR m' v v' ∧ R P m' H' w' ∧ Kept m H w m' H' w' := by
    rintro s ⟨v', w', m', e, q⟩
    exact ⟨v', w', m', by simp only [Sem.run_bind, e, Result.andThen_ok, Sem.run_pure], q⟩
  obtain ⟨xs'⟩ := xs'
  unfold abuiltin at h
  split at h
  · -- len
    rename_i x
    cases hx with
    | cons _ x' _ _ hx hn =>
    cases hn
    refine key _ ?_
    have hts : ∀ d, ts[0]?.bind P.underlying = some d → ∃ t, ts[0]? = some t ∧ P.underlying t = some d := by
      intro d hd
      cases ht : ts[0]? with
      | none => rw [ht] at hd; cases hd
      | some t => rw [ht] at hd; exact ⟨t, rfl, hd⟩
    cases hv : alenV P (ts[0]?.bind P.underlying) x with
    | none => rw [hv] at h; cases h
    | some u =>
    rw [hv] at h; cases h
    unfold alenV at hv
    split at hv
    · rename_i s hd
      obtain ⟨t, ht, hu⟩ := hts _ hd
      cases hv; cases hx
      exact ⟨_, w, m, by simp [Builtin.len_, goInt, ht, run_underlying hu], .int _ _, hR, Kept.refl _ _ _⟩
    · rename_i a n c hd
      obtain ⟨t, ht, hu⟩ := hts _ hd
      cases hv
      cases hx <;> exact ⟨_, w, m, by simp [Builtin.len_, goInt, ht, run_underlying hu], .int _ _, hR, Kept.refl _ _ _⟩
    · rename_i n e hd
      obtain ⟨t, ht, hu⟩ := hts _ hd
      cases hv
      exact ⟨_, w, m, by simp [Builtin.len_, goInt, ht, run_underlying hu], .int _ _, hR, Kept.refl _ _ _⟩
    · rename_i p hd
      obtain ⟨t, ht, hu⟩ := hts _ hd
      split at hv
      · rename_i n e hp
        cases hv
        exact ⟨_, w, m, by simp [Builtin.len_, goInt, ht, run_underlying hu, run_underlying hp], .int _ _, hR, Kept.refl _ _ _⟩
      · cases hv
    · rename_i k e hd
      obtain ⟨t, ht, hu⟩ := hts _ hd
      cases hv; cases hx
      exact ⟨_, w, m, by simp [Builtin.len_, goInt, ht, run_underlying hu], .int _ _, hR, Kept.refl _ _ _⟩
    · cases hv
  · rename_i x y
    cases hx with
    | cons _ x' _ _ hx hn =>
    cases hn with
    | cons _ y' _ _ hy hn =>
    cases hn
    cases hv : amin2 x y with
    | none => rw [hv] at h; cases h
    | some u =>
      rw [hv] at h; cases h
      obtain ⟨h1, h2⟩ := amin2_run (P := P) hv hx hy w
      exact key _ ⟨_, w, m, by simp [Builtin.min_, h1], h2, hR, Kept.refl _ _ _⟩
  · rename_i x y
    cases hx with
    | cons _ x' _ _ hx hn =>
    cases hn with
    | cons _ y' _ _ hy hn =>
    cases hn
    cases hv : amax2 x y with
    | none => rw [hv] at h; cases h
    | some u =>
      rw [hv] at h; cases h
      obtain ⟨h1, h2⟩ := amax2_run (P := P) hv hx hy w
      exact key _ ⟨_, w, m, by simp [Builtin.max_, h1], h2, hR, Kept.refl _ _ _⟩
  · rename_i x y z
    cases hx with
    | cons _ x' _ _ hx hn =>
    cases hn with
    | cons _ y' _ _ hy hn =>
    cases hn with
    | cons _ z' _ _ hz hn =>
    cases hn
    cases hv : amin2 x y with
    | none => rw [hv] at h; cases h
    | some u =>
      rw [hv] at h
      simp only [Option.bind_some] at h
      cases hq : amin2 u z with
      | none => rw [hq] at h; cases h
      | some u2 =>
        rw [hq] at h; cases h
        obtain ⟨h1, h2⟩ := amin2_run (P := P) hv hx hy w
        obtain ⟨h3, h4⟩ := amin2_run (P := P) hq h2 hz w
        exact key _ ⟨_, w, m, by simp [Builtin.min_, h1, h3], h4, hR, Kept.refl _ _ _⟩
  · rename_i x y z
    cases hx with
    | cons _ x' _ _ hx hn =>
    cases hn with
    | cons _ y' _ _ hy hn =>
    cases hn with
    | cons _ z' _ _ hz hn =>
    cases hn
    cases hv : amax2 x y with
    | none => rw [hv] at h; cases h
    | some u =>
      rw [hv] at h
      simp only [Option.bind_some] at h
      cases hq : amax2 u z with
      | none => rw [hq] at h; cases h
      | some u2 =>
        rw [hq] at h; cases h
        obtain ⟨h1, h2⟩ := amax2_run (P := P) hv hx hy w
        obtain ⟨h3, h4⟩ := amax2_run (P := P) hq h2 hz w
        exact key _ ⟨_, w, m, by simp [Builtin.max_, h1, h3], h4, hR, Kept.refl _ _ _⟩
  · -- append
    rename_i s x
    cases hx with
    | cons _ s' _ _ hs hn =>
    cases hn with
    | cons _ x' _ _ hx hn =>
    cases hn
    have hin : ∀ e, ts[0]?.bind (telem P) = some e → ∀ d, ts[1]?.bind P.underlying = some d → ∃ sT xT, P.underlying sT = some (.slice e) ∧ P.underlying xT = some d ∧
        (Builtin.append_ ts ty #[s', x']).run P w = (Builtin.append_ #[sT, xT] ty #[s', x']).run P w := by
      intro e he d hd
      cases h0 : ts[0]? with
      | none => rw [h0] at he; cases he
      | some sT =>
        cases h1 : ts[1]? with
        | none => rw [h1] at hd; cases hd
        | some xT =>
          rw [h0] at he; rw [h1] at hd
          simp only [Option.bind_some] at he hd
          unfold telem at he
          split at he
          · rename_i e' hu
            cases he
            refine ⟨sT, xT, hu, hd, ?_⟩
            have f0 : (#[sT, xT] : Array TypeId)[0]? = some sT := rfl
            have f1 : (#[sT, xT] : Array TypeId)[1]? = some xT := rfl
            unfold Builtin.append_
            rw [h0, h1, f0, f1]
          · cases he
    refine key _ ?_
    split at h
    · rename_i e e2 k he hd hal
      obtain ⟨sT, xT, hu, hd', hr⟩ := hin e he _ hd
      cases hsz : tsz P e with
      | none => rw [hsz] at h; cases h
      | some size =>
        rw [hsz] at h
        dsimp only at h
        cases hf : afirst H size k x with
        | none => rw [hf] at h; cases h
        | some new =>
          rw [hf] at h
          simp only [Option.bind_some] at h
          have hkn : ∀ i o n c, x = .slice (some ⟨i, o, none⟩) n c → k ≤ n := by
            intro i o n c e; subst e; simp [alen] at hal; omega
          obtain ⟨new', hf1, hv⟩ := first_run hR hf hx hkn
          have := aappend_goes (ty := ty) hR hu hd' rfl h hs (len_run hal hx w) (fun sz hsz' w0 hw0 => by
            rw [hsz] at hsz'; cases hsz'
            rcases hw0 with e | e
            · rw [e]; exact hf1 w.drawn
            · rw [e]; exact hf1 _) hv
          obtain ⟨v', w', m', q1, q2⟩ := this
          exact ⟨v', w', m', hr.trans q1, q2⟩
    · rename_i e k he hd hal
      obtain ⟨sT, xT, hu, hd', hr⟩ := hin e he _ hd
      split at h
      · rename_i b
        cases hx
        simp only [alen] at hal
        have := aappend_goes (ty := ty) (x' := .string b) (new' := b.data.toList.map fun b => .int .u8 (b.toNat : Int)) hR hu hd' rfl h hs rfl (fun sz hsz' w0 hw0 => by
          simp only [Builtin.firstCells, Sem.run_pure]
          congr 1
          apply Array.ext'
          simp only [Array.toList_map]
          congr 1
          rw [ByteArray.data_extract]
          show (b.data.extract 0 b.data.size).toList = _
          rw [Array.toList_extract, List.extract_eq_take_drop]
          simp only [List.drop_zero, Nat.sub_zero]
          exact List.take_of_length_le (by simp)) (VRs.map _ _ _ fun b _ => .int _ _)
        obtain ⟨v', w', m', q1, q2⟩ := this
        exact ⟨v', w', m', hr.trans q1, q2⟩
      · cases h
    · cases h
  · -- copy
    rename_i d s
    cases hx with
    | cons _ d' _ _ hd hn =>
    cases hn with
    | cons _ s' _ _ hs hn =>
    cases hn
    refine key _ ?_
    split at h
    · rename_i e he
      cases h0 : ts[0]? with
      | none => rw [h0] at he; cases he
      | some dT =>
        rw [h0] at he
        simp only [Option.bind_some] at he
        unfold telem at he
        split at he
        · rename_i e' hu
          cases he
          obtain ⟨v', w', m', q1, q2⟩ := acopy_goes (sT := 0) (ty := ty) hR hu h hd hs
          refine ⟨v', w', m', ?_, q2⟩
          rw [← q1]
          have f0 : (#[dT, 0] : Array TypeId)[0]? = some dT := rfl
          unfold Builtin.copy_
          rw [h0, f0]
        · cases he
    · cases h
  · cases h

/- operands -/
def opndOk (P : Program) : Operand → Bool
  | .const v => plainAny v
  | .global g => decide (g < P.globals.size)
  | _ => true
def EnvR (m : Emb) (t : Env) (a : Act) : Prop := ∀ i, VR m (t i) (a.tmps.getD i undef)
theorem EnvR.mono {m m' : Emb} {t : Env} {a : Act} (hm : m.le m') (h : EnvR m t a) : EnvR m' t a := fun i => (h i).mono hm
theorem ev_rel {t : Env} {a : Act} {x : Operand} (hR : R P m H w) (hE : EnvR m t a) (h : opndOk P x = true) : VR m (ev t x) (a.eval x) := by
  cases x with
  | tmp i => exact hE i
  | const v => exact (plain_of_any h).vr
  | global g =>
    obtain ⟨l, q1, q2, q3⟩ := hR.glob g (by simpa [opndOk] using h)
    have := VR.ptr (m := m) g 0 l q1
    rw [q2, q3] at this
    exact this
  | func f => exact .func _ [] [] [] [] .nil .nil
theorem evs_rel {t : Env} {a : Act} (hR : R P m H w) (hE : EnvR m t a) : ∀ {xs : List Operand}, xs.all (opndOk P) = true → VRs m (xs.map (ev t)) (xs.map a.eval)
  | [], _ => .nil
  | x :: xs, h => by
    simp only [List.all_cons, Bool.and_eq_true] at h
    exact .cons _ _ _ _ (ev_rel hR hE h.1) (evs_rel hR hE h.2)
theorem ovr_rel {t : Env} {a : Act} (hR : R P m H w) (hE : EnvR m t a) {x : Option Operand} (h : ∀ y, x = some y → opndOk P y = true) : OVR m (x.map (ev t)) (x.map a.eval) := by
  cases x with
  | none => exact trivial
  | some y => exact ev_rel hR hE (h y rfl)

def opOk (P : Program) (o : Op) : Bool := o.operands.toList.all (opndOk P)

theorem parts_rel {t : Env} {a : Act} (hR : R P m H w) (hE : EnvR m t a) {ps : Array (Nat × Operand)} (h : ∀ p ∈ ps.toList, opndOk P p.2 = true) :
    (ps.toList.map fun p => (p.1, ev t p.2)).length = (ps.map fun p => (p.1, a.eval p.2)).toList.length ∧
    ∀ (k : Nat) (p p' : Nat × Value), (ps.toList.map fun p => (p.1, ev t p.2))[k]? = some p → (ps.map fun p => (p.1, a.eval p.2)).toList[k]? = some p' → p.1 = p'.1 ∧ VR m p.2 p'.2 := by
  refine ⟨by simp, fun k p p' h1 h2 => ?_⟩
  simp only [Array.toList_map, List.getElem?_map, Option.map_eq_some_iff] at h1 h2
  obtain ⟨q, hq, rfl⟩ := h1
  obtain ⟨q', hq', rfl⟩ := h2
  rw [hq] at hq'; cases hq'
  exact ⟨rfl, ev_rel hR hE (h q (List.mem_of_getElem? hq))⟩

set_option maxHeartbeats 4000000 in
theorem aop_goes {t : Env} {a : Act} {o : Oper} {v : Value} {H' : AHeap} (hT : ZerosPlain P) (hok : opOk P o.op = true) (hE : EnvR m t a) (hR : R P m H w) (h : aop P o.op t H = some (v, H')) :
    ∃ v' w' m', ((execOp a.eval o).run P w = .ok (.value v') w' ∨ ((execOp a.eval o).run P w = .ok .skip w' ∧ v' = undef)) ∧ VR m' v v' ∧ R P m' H' w' ∧ Kept m H w m' H' w' := by
  have key : ∀ (s : Sem Value), execOp a.eval o = (do pure (Next.value (← s))) → Goes P m H w (s.run P w) v H' →
      ∃ v' w' m', ((execOp a.eval o).run P w = .ok (.value v') w' ∨ ((execOp a.eval o).run P w = .ok .skip w' ∧ v' = undef)) ∧ VR m' v v' ∧ R P m' H' w' ∧ Kept m H w m' H' w' := by
    rintro s hs ⟨v', w', m', e, q⟩
    exact ⟨v', w', m', .inl (by rw [hs]; simp only [Sem.run_bind, e, Result.andThen_ok, Sem.run_pure]), q⟩
  have same : ∀ {v' : Value} {s : Sem Value}, s.run P w = .ok v' w → VR m v v' → H' = H → Goes P m H w (s.run P w) v H' := by
    intro v' s e q hh; subst hh
    exact ⟨v', w, m, e, q, hR, Kept.refl _ _ _⟩
  obtain ⟨dst, op, ty, pos, after, guard⟩ := o
  dsimp only at h hok
  unfold opOk at hok
  unfold aop at h
  split at h
  · rename_i x
    cases h
    have hx : opndOk P x = true := by simpa [Op.operands] using hok
    exact ⟨a.eval x, w, m, .inl rfl, ev_rel hR hE hx, hR, Kept.refl _ _ _⟩
  · rename_i x
    cases h
    have hx : opndOk P x = true := by simpa [Op.operands] using hok
    exact ⟨a.eval x, w, m, .inl rfl, ev_rel hR hE hx, hR, Kept.refl _ _ _⟩
  · rename_i c x y
    simp [Op.operands] at hok
    obtain ⟨hc, hx, hy⟩ := hok
    have h1 := ev_rel hR hE hc
    split at h
    · rename_i b hb
      rw [hb] at h1
      cases h
      cases hq : a.eval c <;> rw [hq] at h1 <;> cases h1
      refine ⟨if b = true then a.eval x else a.eval y, w, m, .inl ?_, ?_, hR, Kept.refl _ _ _⟩
      · simp [execOp, hq, asBool]
      · split
        · exact ev_rel hR hE hx
        · exact ev_rel hR hE hy
    · cases h
  · rename_i e
    split at h
    · rename_i z hz
      split at h
      · rename_i h1
        cases h
        obtain ⟨zv, hzr, hzc⟩ := run_zeroValue hz w
        have hv : VRs m z zv.cells.toList := by rw [hzc]; exact vrs_plain (hT _ _ hz)
        obtain ⟨m', L, hm, hLb, hLo, q2, q3⟩ := new_run e (tesz P e) hR hv h1
        refine key (Instr.alloc e true (.tuple #[])) rfl ⟨_, _, m', ?_, new_ptr hm hLb hLo, q2, q3⟩
        simp only [Instr.alloc, Sem.run_bind, hzr, Result.andThen_ok, newVar, newRow, run_newObj, Sem.run_pure]
        rfl
      · cases h
    · cases h
  · rename_i e x
    have hx : opndOk P x = true := by simpa [Op.operands] using hok
    split at h
    · rename_i h1
      cases h
      have hv := (ev_rel hR hE hx).cells
      obtain ⟨m', L, hm, hLb, hLo, q2, q3⟩ := new_run e (tesz P e) hR hv h1
      refine key (Instr.box e (a.eval x)) rfl ⟨_, _, m', ?_, new_ptr hm hLb hLo, q2, q3⟩
      simp only [Instr.box, newVar, newRow, Sem.run_bind, run_newObj, Result.andThen_ok, Sem.run_pure]
      rfl
    · cases h
  · rename_i bt parts
    have hp : ∀ p ∈ parts.toList, opndOk P p.2 = true := by
      intro p hp
      simp [Op.operands] at hok
      obtain ⟨i, hi, rfl⟩ := Array.getElem_of_mem (by simpa using hp)
      exact hok i hi
    obtain ⟨hl, hq⟩ := parts_rel hR hE hp
    cases hb : abuild P bt (parts.toList.map fun p => (p.1, ev t p.2)) with
    | none => rw [hb] at h; cases h
    | some u =>
      rw [hb] at h; cases h
      obtain ⟨v', e1, e2⟩ := build_run hb hl hq (fun z hz => hT _ _ hz) w
      exact key (Instr.build bt (parts.map fun p => (p.1, a.eval p.2))) rfl (same e1 e2 rfl)
  · rename_i bt n parts
    have hp : ∀ p ∈ parts.toList, opndOk P p.2 = true := by
      intro p hp
      simp [Op.operands] at hok
      obtain ⟨i, hi, rfl⟩ := Array.getElem_of_mem (by simpa using hp)
      exact hok i hi
    obtain ⟨hl, hq⟩ := parts_rel hR hE hp
    have hgo := abuildSlice_goes (parts' := parts.map fun p => (p.1, a.eval p.2)) hT hR h hl hq
    exact key (Instr.buildSlice bt n (parts.map fun p => (p.1, a.eval p.2))) rfl hgo
  · rename_i lt x
    have hx : opndOk P x = true := by simpa [Op.operands] using hok
    have h1 := ev_rel hR hE hx
    split at h
    · rename_i i o hev
      rw [hev] at h1
      cases hld : H.load P lt i o with
      | none => rw [hld] at h; cases h
      | some u =>
        rw [hld] at h; cases h
        refine key (Instr.loadAt lt (a.eval x)) rfl ?_
        generalize a.eval x = x' at h1
        cases h1 with
        | ptr _ _ l hm =>
          obtain ⟨v', e1, e2⟩ := load_run hR hld hm
          exact same (by simp only [Instr.loadAt, Instr.sureAddr, Sem.run_bind, Sem.run_pure, Result.andThen_ok, e1]) e2 rfl
    · cases h
  · rename_i lt x y
    simp [Op.operands] at hok
    obtain ⟨hx, hy⟩ := hok
    have h1 := ev_rel hR hE hx
    have h2 := ev_rel hR hE hy
    split at h
    · rename_i i o hev
      rw [hev] at h1
      cases hst : H.store P lt i o (ev t y) with
      | none => rw [hst] at h; cases h
      | some H1 =>
        rw [hst] at h; cases h
        generalize hx' : a.eval x = x' at h1
        cases h1 with
        | ptr _ _ l hm =>
          obtain ⟨w', e1, e2, e3⟩ := store_run hR hst hm h2
          refine ⟨undef, w', m, .inr ⟨?_, rfl⟩, .tuple [] [] .nil, e2, e3⟩
          simp only [execOp, Instr.storeAt, hx', Instr.sureAddr, Sem.run_bind, Sem.run_pure, Result.andThen_ok, e1]
    · cases h
  · rename_i x
    have hx : opndOk P x = true := by simpa [Op.operands] using hok
    have h1 := ev_rel hR hE hx
    split at h
    · rename_i ad hev
      rw [hev] at h1
      cases h
      generalize hx' : a.eval x = x' at h1
      cases h1 with
      | ptr i o l hm =>
        exact ⟨_, w, m, .inl (by simp only [execOp, hx']; rfl), .ptr i o l hm, hR, Kept.refl _ _ _⟩
    · rename_i it u hev
      rw [hev] at h1
      cases h
      generalize hx' : a.eval x = x' at h1
      cases h1 with
      | iface _ _ u' hu =>
        exact ⟨_, w, m, .inl (by simp only [execOp, hx']; rfl), .iface _ _ _ hu, hR, Kept.refl _ _ _⟩
    · rename_i f xs ys hev
      rw [hev] at h1
      cases h
      generalize hx' : a.eval x = x' at h1
      cases h1 with
      | func _ xs ys xs' ys' q1 q2 =>
        exact ⟨_, w, m, .inl (by simp only [execOp, hx']; rfl), .func _ _ _ _ _ q1 q2, hR, Kept.refl _ _ _⟩
    · cases h
  · rename_i op bt x y yt
    simp [Op.operands] at hok
    obtain ⟨hx, hy⟩ := hok
    cases hb : abinN P op bt (isC x || isC y) (ev t x) (ev t y) with
    | none => rw [hb] at h; cases h
    | some u =>
      rw [hb] at h; cases h
      obtain ⟨v', e1, e2⟩ := abinN_run hb (ev_rel hR hE hx) (ev_rel hR hE hy) w
      exact key _ rfl (same e1 e2 rfl)
  · rename_i op bt x
    have hx : opndOk P x = true := by simpa [Op.operands] using hok
    cases hb : aun op (ev t x) with
    | none => rw [hb] at h; cases h
    | some u =>
      rw [hb] at h; cases h
      obtain ⟨e1, e2⟩ := aun_run (P := P) (m := m) hb (ev_rel hR hE hx) w
      exact key _ rfl (same e1 e2 rfl)
  · rename_i s d x
    have hx : opndOk P x = true := by simpa [Op.operands] using hok
    cases hb : aconv P s d (ev t x) with
    | none => rw [hb] at h; cases h
    | some u =>
      rw [hb] at h; cases h
      obtain ⟨e1, e2⟩ := aconv_run (m := m) hb (ev_rel hR hE hx) w
      exact key _ rfl (same e1 e2 rfl)
  · rename_i it x
    have hx : opndOk P x = true := by simpa [Op.operands] using hok
    split at h
    · cases h
    · rename_i d hni hu
      cases h
      refine key (Instr.makeInterface it (a.eval x)) rfl (same (v' := .iface it (a.eval x)) ?_ (.iface _ _ _ (ev_rel hR hE hx)) rfl)
      simp only [Instr.makeInterface, Sem.run_bind, run_underlying hu, Result.andThen_ok]
      cases d <;> first | rfl | exact absurd rfl (hni _)
    · cases h
  · rename_i fn xs ys
    cases h
    simp [Op.operands] at hok
    obtain ⟨h1, h2⟩ := hok
    have g1 := evs_rel hR hE (xs := xs.toList) (List.all_eq_true.2 fun x hx => by obtain ⟨i, hi, rfl⟩ := Array.getElem_of_mem (by simpa using hx); exact h1 i hi)
    have g2 := evs_rel hR hE (xs := ys.toList) (List.all_eq_true.2 fun x hx => by obtain ⟨i, hi, rfl⟩ := Array.getElem_of_mem (by simpa using hx); exact h2 i hi)
    refine key (Instr.makeFunc fn (xs.map a.eval) (ys.map a.eval)) rfl (same (v' := .func fn (xs.map a.eval) (ys.map a.eval)) rfl ?_ rfl)
    have e1 : xs.map a.eval = ⟨xs.toList.map a.eval⟩ := by apply Array.ext'; simp
    have e2 : ys.map a.eval = ⟨ys.toList.map a.eval⟩ := by apply Array.ext'; simp
    rw [e1, e2]
    exact .func fn _ _ _ _ g1 g2
  · rename_i mt l c
    simp [Op.operands] at hok
    exact key _ rfl (amake_goes hT hR h (ev_rel hR hE hok.1) (ev_rel hR hE hok.2))
  · rename_i st x lo hi mx
    have g : ∀ y, (y = x ∨ lo = some y ∨ hi = some y ∨ mx = some y) → opndOk P y = true := by
      intro y hy
      refine List.all_eq_true.1 hok y ?_
      simp [Op.operands]
      rcases hy with h | h | h | h
      · exact .inl h
      · exact .inr (.inl h)
      · exact .inr (.inr (.inl h))
      · exact .inr (.inr (.inr h))
    cases hb : aslice P H st (ev t x) (lo.map (ev t)) (hi.map (ev t)) (mx.map (ev t)) with
    | none => rw [hb] at h; cases h
    | some u =>
      rw [hb] at h; cases h
      obtain ⟨v', e1, e2⟩ := sliceAt_run hR hb (ev_rel hR hE (g x (.inl rfl))) (ovr_rel hR hE fun y hy => g y (.inr (.inl hy))) (ovr_rel hR hE fun y hy => g y (.inr (.inr (.inl hy)))) (ovr_rel hR hE fun y hy => g y (.inr (.inr (.inr hy))))
      exact key _ rfl (same e1 e2 rfl)
  · rename_i s x f
    have hx : opndOk P x = true := by simpa [Op.operands] using hok
    have h1 := ev_rel hR hE hx
    split at h
    · rename_i i o ft off hev hf
      rw [hev] at h1
      cases h
      refine key (Instr.fieldAt s (a.eval x) f) rfl ?_
      generalize a.eval x = x' at h1
      cases h1 with
      | ptr _ _ l hm =>
        refine same (fieldAt_run hf l.block (l.off + o) w) ?_ rfl
        rw [Nat.add_assoc]
        exact .ptr i (o + off) l hm
    · cases h
  · rename_i s x f
    have hx : opndOk P x = true := by simpa [Op.operands] using hok
    cases hb : afieldV P s (ev t x) f with
    | none => rw [hb] at h; cases h
    | some u =>
      rw [hb] at h; cases h
      obtain ⟨v', e1, e2⟩ := field_run hb (ev_rel hR hE hx) w
      exact key _ rfl (same e1 e2 rfl)
  · rename_i it x ix
    simp [Op.operands] at hok
    cases hb : aindexAddr P it (ev t x) (ev t ix) with
    | none => rw [hb] at h; cases h
    | some u =>
      rw [hb] at h; cases h
      obtain ⟨v', e1, e2⟩ := indexAddr_run hb (ev_rel hR hE hok.1) (ev_rel hR hE hok.2) w
      exact key _ rfl (same e1 e2 rfl)
  · rename_i it x ix
    simp [Op.operands] at hok
    cases hb : aindex P it (ev t x) (ev t ix) with
    | none => rw [hb] at h; cases h
    | some u =>
      rw [hb] at h; cases h
      obtain ⟨v', e1, e2⟩ := index_run hb (ev_rel hR hE hok.1) (ev_rel hR hE hok.2) w
      exact key _ rfl (same e1 e2 rfl)
  · rename_i x i
    have hx : opndOk P x = true := by simpa [Op.operands] using hok
    have h1 := ev_rel hR hE hx
    split at h
    · rename_i vs hev
      rw [hev] at h1
      cases hb : vs[i]? with
      | none => rw [hb] at h; cases h
      | some u =>
        rw [hb] at h; cases h
        refine key (Instr.extract (a.eval x) i) rfl ?_
        generalize a.eval x = x' at h1
        cases h1 with
        | tuple _ vs' hvs =>
          obtain ⟨v', e1, e2⟩ := hvs.get i _ hb
          exact same (v' := v') (by simp [Instr.extract, e1]) e2 rfl
    · cases h
  · rename_i c
    split at h
    · rename_i b hcb
      have hall : c.args.toList.all (opndOk P) = true := by
        simp [Op.operands, Call.operands, hcb] at hok
        refine List.all_eq_true.2 fun x hx => ?_
        obtain ⟨i, hi, rfl⟩ := Array.getElem_of_mem (by simpa using hx)
        exact hok i hi
      have hx := evs_rel hR hE hall
      have e1 : (c.args.map a.eval).toList = c.args.toList.map a.eval := by simp
      obtain ⟨v', w', m', q1, q2⟩ := abuiltin_goes (ty := ty) (consts := c.args.map fun | .const _ => true | _ => false) (xs' := c.args.map a.eval) hR h (by rw [e1]; exact hx)
      refine ⟨v', w', m', .inl ?_, q2⟩
      simp only [execOp, resolve, hcb, Sem.run_bind, Sem.run_pure, Result.andThen_ok, invoke]
      exact q1
    · cases h
  · cases h

end Go.LH
