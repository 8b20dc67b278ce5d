/-
  The logical heap: operations that touch no memory do there what they do in the model.
-/
import Derived.Test.YtmjlmlipnejbfaaGreatDoorLH3
import Derived.Laws.StructEq
import Derived.Laws.Entries
import Derived.WideLaws
import Derived.WalkSpells
set_option linter.all false
namespace Go.LH

variable {P : Program} {m : Emb} {H : AHeap} {w : World}

theorem tsz_info {t : TypeId} {n : Nat} (h : tsz P t = some n) : ∃ i, P.info? t = some i ∧ i.size = n := by
  unfold tsz at h
  cases hi : P.info? t with
  | none => simp [hi] at h
  | some i => exact ⟨i, rfl, by simpa [hi] using h⟩
theorem run_sizeOf {t : TypeId} {n : Nat} (h : tsz P t = some n) (w : World) : (sizeOf t).run P w = .ok n w := by
  obtain ⟨i, hi, hs⟩ := tsz_info h
  simp [sizeOf, typeInfo, hi, hs]
theorem tby_info {t : TypeId} {n : Nat} (h : tby P t = some n) : ∃ i, P.info? t = some i ∧ i.bytes = n := by
  unfold tby at h
  cases hi : P.info? t with
  | none => simp [hi] at h
  | some i => exact ⟨i, rfl, by simpa [hi] using h⟩
theorem tzero_info {t : TypeId} {z : List Value} (h : tzero P t = some z) : ∃ i v, P.info? t = some i ∧ i.zero = some v ∧ v.cells.toList = z := by
  unfold tzero at h
  cases hi : P.info? t with
  | none => simp [hi] at h
  | some i =>
    cases hz : i.zero with
    | none => simp [hi, hz] at h
    | some v =>
      simp only [hi, hz, Option.bind_some] at h
      split at h
      · cases h; exact ⟨i, v, rfl, hz, rfl⟩
      · cases h
theorem run_zeroValue {t : TypeId} {z : List Value} (h : tzero P t = some z) (w : World) : ∃ v, (zeroValue t).run P w = .ok v w ∧ v.cells.toList = z := by
  obtain ⟨i, v, hi, hz, hc⟩ := tzero_info h
  exact ⟨v, by simp [zeroValue, typeInfo, hi, hz], hc⟩
theorem run_isAgg {t : TypeId} {b : Bool} (h : tagg P t = some b) (w : World) : (isAgg t).run P w = .ok b w := by
  unfold tagg at h
  cases hu : P.underlying t with
  | none => simp [hu] at h
  | some d =>
    simp [hu] at h
    unfold isAgg
    rw [Sem.run_bind, run_underlying hu w]
    subst h
    cases d <;> rfl

theorem ok_of {α : Type} {r : Result α} {a : α} {w : World} (h : r = .ok a w) : r = .ok a w := h

/- numbers -/
theorem run_aint {op : BinOp} {k : IntKind} {a b : Int} {v : Value} (h : aint op k a b = some v) (w : World) (t : TypeId) : (binOp op t (.int k a) (.int k b)).run P w = .ok v w := by
  cases op <;> simp only [aint] at h <;> first
    | (cases h; simp [binOp, Op.intArith, Op.intBits, Op.intCmp]; done)
    | (split at h; · cases h
       · rename_i hb; cases h; simp [binOp, Op.intDiv, hb])
    | (cases h)
theorem run_ashift {op : BinOp} {k k' : IntKind} {a b : Int} {v : Value} (h : ashift op k a b = some v) (w : World) (t : TypeId) : (binOp op t (.int k a) (.int k' b)).run P w = .ok v w := by
  unfold ashift at h
  split at h
  · cases h
  · rename_i hb
    cases op <;> simp only at h <;> first | (cases h; done) | (cases h; simp [binOp, Op.shift, hb])
theorem run_astr {op : BinOp} {a b : ByteArray} {v : Value} (h : astr op a b = some v) (w : World) (t : TypeId) : (binOp op t (.string a) (.string b)).run P w = .ok v w := by
  cases op <;> simp only [astr] at h <;> first
    | (cases h; simp [binOp, Op.stringOp]; done)
    | (split at h
       · rename_i hb; cases h
         have hb' : ¬ (((a.size + b.size : Nat) : Int) > IntKind.i64.max) := by
           show ¬ (((a.size + b.size : Nat) : Int) > 9223372036854775807)
           omega
         simp only [binOp, Op.stringOp]
         rw [if_neg hb']; rfl
       · cases h)
    | (cases h)

theorem run_part {t : TypeId} {cs : List Value} {off : Nat} {v : Value} (h : apart P t cs off = some v) (w : World) : (part t ⟨cs⟩ off).run P w = .ok v w := by
  unfold apart at h
  split at h
  · rename_i n ha hs
    split at h
    · cases h
      unfold part
      simp [run_isAgg ha, run_sizeOf hs, List.extract_eq_take_drop]
    · cases h
  · rename_i n ha hs
    unfold part
    simp only [Sem.run_bind, run_isAgg ha, Result.andThen_ok]
    simp [h]
  · cases h

theorem VRs.apart {m : Emb} {t : TypeId} {cs cs' : List Value} {off : Nat} {v : Value} (hv : VRs m cs cs') (h : apart P t cs off = some v) :
    ∃ v', apart P t cs' off = some v' ∧ VR m v v' := by
  unfold LH.apart at h ⊢
  split at h
  · rename_i n ha hs
    rw [← hv.length]
    split at h
    · rename_i hle
      rw [if_pos hle]
      cases h
      exact ⟨_, rfl, .agg _ _ ((hv.drop off).take n)⟩
    · cases h
  · rename_i n ha hs
    obtain ⟨v', h1, h2⟩ := hv.get off v h
    exact ⟨v', h1, h2⟩
  · cases h

/- equality -/
theorem acmp_run : ∀ (d : Nat) (t : TypeId) (x y x' y' : Value) (b : Bool), acmp P d t x y = some b → VR m x x' → VR m y y' → ∀ n, d ≤ n → ∀ w : World, (Op.equalIn n t x' y').run P w = .ok b w
  | 0, _, _, _, _, _, _, h, _, _, _, _, _ => by simp [acmp] at h
  | d + 1, t, x, y, x', y', b, h, hx, hy, n, hn, w => by
    obtain ⟨n, rfl⟩ : ∃ k, n = k + 1 := ⟨n - 1, by omega⟩
    unfold acmp at h
    split at h
    · rename_i hu; cases h; cases hx; cases hy; exact run_equalIn_bool' w n t _ _ hu
    · rename_i hu
      cases hx; cases hy
      split at h
      · rename_i hk; subst hk; cases h; exact run_equalIn_int w n t _ _ _ _ hu
      · cases h
    · rename_i hu; cases h; cases hx; cases hy; exact run_equalIn_string w n t _ _ hu
    · rename_i fs xs ys hu
      split at h
      · rename_i hs
        cases hx with
        | agg _ xs' hxs =>
        cases hy with
        | agg _ ys' hys =>
        have hf : P.fieldsOf t = fs := by simp [Program.fieldsOf, hu]
        rw [run_equalIn_agg w n t _ _ (by rw [hf]; exact hu) hs, hf]
        clear hu hs hf
        generalize fs.toList = l at h
        induction l generalizing b with
        | nil => simp [acmpF] at h; subst h; simp [Op.eqFields]
        | cons f l ih =>
          simp only [acmpF] at h
          split at h
          · cases h
          · rename_i hname
            split at h
            · rename_i a c ha hc
              obtain ⟨a', ha1, ha2⟩ := VRs.apart hxs ha
              obtain ⟨c', hc1, hc2⟩ := VRs.apart hys hc
              simp only [Op.eqFields]
              rw [if_pos hname]
              cases hr : acmp P d f.type a c with
              | none => simp [hr] at h
              | some r =>
                have hrun := acmp_run d f.type a c a' c' r hr ha2 hc2 n (by omega) w
                simp only [hr, Option.bind_some] at h
                cases hq : acmpF P (acmp P d) xs ys l with
                | none => simp [hq] at h
                | some q =>
                  simp [hq] at h
                  have := ih q hq
                  simp only [Sem.run_bind, run_part ha1, run_part hc1, Result.andThen_ok, hrun]
                  cases r
                  · simp at h; subst h; simp
                  · simp at h; subst h; simpa using this
            · cases h
      · cases h
    · cases h

theorem aeq_run' {t : TypeId} {x y x' y' : Value} {b : Bool} (h : aeq P t x y = some b) (hx : VR m x x') (hy : VR m y y') (n : Nat) (w : World) : (Op.equalIn (n + 1) t x' y').run P w = .ok b w := by
  unfold aeq at h
  split at h
  all_goals (first | (cases h; done) | skip)
  · rename_i hu; cases h; cases hx; cases hy; exact run_equalIn_bool' w _ t _ _ hu
  all_goals
    rename_i hu
    cases hx <;> cases hy <;> cases h <;> simp [Op.equalIn, run_underlying hu]
theorem aeq_run {t : TypeId} {x y x' y' : Value} {b : Bool} (h : aeq P t x y = some b) (hx : VR m x x') (hy : VR m y y') (w : World) : (Op.equal t x' y').run P w = .ok b w :=
  aeq_run' h hx hy 9999 w

theorem eqGuard_idle (op : BinOp) (t : TypeId) (p q : Operand) (x y : Value) (h1 : ∀ a b, x = .agg a → y = .agg b → P.eqGuardType P.depth t = false) (h2 : ¬ (x = .nilIface ∧ y = .nilIface)) (w : World) :
    (eqGuard op t p q x y).run P w = .ok () w := by
  cases op
  case eql =>
    cases x <;> cases y <;> first
      | exact absurd ⟨rfl, rfl⟩ h2
      | exact run_eqGuard_agg w .eql t p q _ _ (h1 _ _ rfl rfl)
      | rfl
  case neq =>
    cases x <;> cases y <;> first
      | exact absurd ⟨rfl, rfl⟩ h2
      | exact run_eqGuard_agg w .neq t p q _ _ (h1 _ _ rfl rfl)
      | rfl
  all_goals rfl

theorem abin_run {op : BinOp} {t : TypeId} {x y x' y' : Value} {v : Value} (h : abin P op t x y = some v) (hx : VR m x x') (hy : VR m y y') (p q : Operand) (w : World) :
    ∃ v', (do eqGuard op t p q x' y'; binOp op t x' y' : Sem Value).run P w = .ok v' w ∧ VR m v v' := by
  have hg : ∀ x y : Value, (∀ a b, x = .agg a → y = .agg b → P.eqGuardType P.depth t = false) → ¬ (x = .nilIface ∧ y = .nilIface) → (eqGuard op t p q x y).run P w = .ok () w :=
    fun x y h1 h2 => eqGuard_idle op t p q x y h1 h2 w
  unfold abin at h
  split at h
  · rename_i k a k' b
    cases hx; cases hy
    simp only [Sem.run_bind]
    rw [hg _ _ (by intro _ _ e; cases e) (by simp)]
    simp only [Result.andThen_ok]
    split at h
    · refine ⟨v, run_ashift h w t, ?_⟩
      unfold ashift at h
      split at h
      · cases h
      · cases h; exact .int _ _
    · refine ⟨v, run_ashift h w t, ?_⟩
      unfold ashift at h
      split at h
      · cases h
      · cases h; exact .int _ _
    · split at h
      · rename_i hk; subst hk
        refine ⟨v, run_aint h w t, ?_⟩
        cases op <;> simp only [aint] at h <;> first
          | (cases h; exact .int _ _)
          | (cases h; exact .bool _)
          | (split at h; · cases h
             · cases h; exact .int _ _)
          | (cases h)
      · cases h
  · rename_i a b
    cases hx; cases hy
    simp only [Sem.run_bind]
    rw [hg _ _ (by intro _ _ e; cases e) (by simp)]
    simp only [Result.andThen_ok]
    refine ⟨v, run_astr h w t, ?_⟩
    cases op <;> simp only [astr] at h <;> first
      | (cases h; exact .bool _)
      | (split at h
         · cases h; exact .string _
         · cases h)
      | (cases h)
  · rename_i xs ys
    cases hx with
    | agg xs xs' hxs =>
    cases hy with
    | agg ys ys' hys =>
    have hcmp : ∀ b, aeqAgg P t (.agg ⟨xs⟩) (.agg ⟨ys⟩) = some b → (eqGuard op t p q (.agg ⟨xs'⟩) (.agg ⟨ys'⟩)).run P w = .ok () w ∧ (Op.equal t (.agg ⟨xs'⟩) (.agg ⟨ys'⟩)).run P w = .ok b w := by
      intro b hb
      unfold aeqAgg at hb
      split at hb
      · rename_i hgd
        exact ⟨hg _ _ (fun _ _ _ _ => hgd) (by simp), acmp_run 8 t _ _ _ _ b hb (.agg _ _ hxs) (.agg _ _ hys) 10000 (by omega) w⟩
      · cases hb
    split at h
    · cases hb : aeqAgg P t (.agg ⟨xs⟩) (.agg ⟨ys⟩) with
      | none => rw [hb] at h; cases h
      | some b =>
        rw [hb] at h; cases h
        obtain ⟨h1, h2⟩ := hcmp b hb
        refine ⟨_, ?_, .bool b⟩
        simp only [Sem.run_bind, h1, Result.andThen_ok, binOp, h2]
        rfl
    · cases hb : aeqAgg P t (.agg ⟨xs⟩) (.agg ⟨ys⟩) with
      | none => rw [hb] at h; cases h
      | some b =>
        rw [hb] at h; cases h
        obtain ⟨h1, h2⟩ := hcmp b hb
        refine ⟨_, ?_, .bool (!b)⟩
        simp only [Sem.run_bind, h1, Result.andThen_ok, binOp, h2]
        rfl
    · cases h
  · rename_i n1 n2 n3
    have hcmp : ∀ b, aeq P t x y = some b → (eqGuard op t p q x' y').run P w = .ok () w ∧ (Op.equal t x' y').run P w = .ok b w := by
      intro b hb
      refine ⟨hg _ _ ?_ ?_, aeq_run hb hx hy w⟩
      · intro a c e1 e2
        subst e1; subst e2
        cases hx; cases hy
        exact absurd rfl (n3 _ _ rfl)
      · rintro ⟨e1, e2⟩
        subst e1; subst e2
        cases hx; cases hy
        unfold aeq at hb
        split at hb <;> simp_all
    have hbin : ∀ b, aeq P t x y = some b → (binOp .eql t x' y').run P w = .ok (.bool b) w ∧ (binOp .neq t x' y').run P w = .ok (.bool (!b)) w := by
      intro b hb
      obtain ⟨_, h2⟩ := hcmp b hb
      unfold aeq at hb
      split at hb
      all_goals (first | (cases hb; done) | skip)
      all_goals (cases hx <;> cases hy <;> simp only [binOp, Sem.run_bind, h2, Result.andThen_ok] <;> exact ⟨rfl, rfl⟩)
    split at h
    · cases hb : aeq P t x y with
      | none => rw [hb] at h; cases h
      | some b =>
        rw [hb] at h; cases h
        refine ⟨_, ?_, .bool b⟩
        simp only [Sem.run_bind, (hcmp b hb).1, Result.andThen_ok, (hbin b hb).1]
    · cases hb : aeq P t x y with
      | none => rw [hb] at h; cases h
      | some b =>
        rw [hb] at h; cases h
        refine ⟨_, ?_, .bool (!b)⟩
        simp only [Sem.run_bind, (hcmp b hb).1, Result.andThen_ok, (hbin b hb).2]
    · cases h

theorem eqGuard_nil {op : BinOp} {t : TypeId} {p q : Operand} (hc : (isC p || isC q) = true) (w : World) : (eqGuard op t p q .nilIface .nilIface).run P w = .ok () w := by
  unfold eqGuard
  cases p <;> cases q <;> simp [isC] at hc <;> (split <;> simp [Sem.run_pure])
theorem nilEq_run {t : TypeId} {ms : Array (String × TypeId)} (hu : P.underlying t = some (.interface ms)) (n : Nat) (w : World) : (Op.equalIn (n + 1) t .nilIface .nilIface).run P w = .ok true w := by
  simp [Op.equalIn, run_underlying hu]
theorem abinN_run {op : BinOp} {t : TypeId} {x y x' y' : Value} {v : Value} {p q : Operand} (h : abinN P op t (isC p || isC q) x y = some v) (hx : VR m x x') (hy : VR m y y') (w : World) :
    ∃ v', (do eqGuard op t p q x' y'; binOp op t x' y' : Sem Value).run P w = .ok v' w ∧ VR m v v' := by
  unfold abinN at h
  split at h
  · rename_i hc
    cases hx; cases hy
    split at h
    · rename_i hu
      cases h
      refine ⟨_, ?_, .bool true⟩
      simp only [Sem.run_bind, eqGuard_nil hc, Result.andThen_ok]
      have h2 : (Op.equal t .nilIface .nilIface).run P w = .ok true w := by
        exact nilEq_run hu 9999 w
      simp only [binOp, Sem.run_bind, h2, Result.andThen_ok]
      rfl
    · rename_i hu
      cases h
      refine ⟨_, ?_, .bool false⟩
      simp only [Sem.run_bind, eqGuard_nil hc, Result.andThen_ok]
      have h2 : (Op.equal t .nilIface .nilIface).run P w = .ok true w := by
        exact nilEq_run hu 9999 w
      simp only [binOp, Sem.run_bind, h2, Result.andThen_ok]
      rfl
    · cases h
  · exact abin_run h hx hy p q w

end Go.LH
