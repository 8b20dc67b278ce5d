/-
  The logical heap: places, parts, slices, loads and stores do there what they do in the model.
-/
import Derived.Test.YtmjlmlipnejbfaaGreatDoorLH4
set_option linter.all false
namespace Go.LH
variable {P : Program} {m : Emb} {H : AHeap} {w : World}

theorem aun_run {op : UnOp} {x x' v : Value} (h : aun op x = some v) (hx : VR m x x') (w : World) : (Op.unary op x').run P w = .ok v w ∧ VR m v v := by
  unfold aun at h
  split at h
  · cases h; cases hx; exact ⟨rfl, .int _ _⟩
  · cases h; cases hx; exact ⟨rfl, .bool _⟩
  · cases h; cases hx; exact ⟨rfl, .int _ _⟩
  · cases h

theorem aconv_run {src dst : TypeId} {x x' v : Value} (h : aconv P src dst x = some v) (hx : VR m x x') (w : World) : (convert src dst x').run P w = .ok v w ∧ VR m v v := by
  unfold aconv at h
  split at h
  · rename_i h1 h2
    cases h; cases hx
    exact ⟨by simp [convert, run_underlying h1, run_underlying h2, Conv.intToInt], .int _ _⟩
  · rename_i h1 h2
    cases h; cases hx
    exact ⟨by simp [convert, run_underlying h1, run_underlying h2], .string _⟩
  · cases h

/- places -/
theorem tfield_some {s : TypeId} {f : Nat} {t : TypeId} {off : Nat} (h : tfield P s f = some (t, off)) :
    ∃ fs fd n, P.underlying s = some (.struct fs) ∧ fs[f]? = some fd ∧ fd.type = t ∧ fd.offset = off ∧ tsz P fd.type = some (n + 1) := by
  unfold tfield at h
  split at h
  · rename_i fs hu
    split at h
    · rename_i fd hf
      split at h
      · rename_i n hn
        cases h
        exact ⟨fs, fd, n, hu, hf, rfl, rfl, hn⟩
      · cases h
    · cases h
  · cases h

theorem add_off (b o n : Nat) : (⟨b, o, none⟩ : Addr).add n = ⟨b, o + n, none⟩ := Addr.add_mid b o n

theorem fieldAt_run {s : TypeId} {f : Nat} {t : TypeId} {off : Nat} (h : tfield P s f = some (t, off)) (b o : Nat) (w : World) :
    (Instr.fieldAt s (.pointer (some ⟨b, o, none⟩)) f).run P w = .ok (.pointer (some ⟨b, o + off, none⟩)) w := by
  obtain ⟨fs, fd, n, hu, hf, ht, ho, hn⟩ := tfield_some h
  subst ht; subst ho
  have hsz := run_sizeOf hn w
  simp only [Instr.fieldAt, Sem.run_bind, run_underlying hu, Result.andThen_ok, hf, Instr.sureAddr, Sem.run_pure, fieldPlace, hsz]
  rw [if_neg (by omega)]
  simp [add_off]

theorem field_run {s : TypeId} {f : Nat} {x x' v : Value} (h : afieldV P s x f = some v) (hx : VR m x x') (w : World) :
    ∃ v', (Instr.field s x' f).run P w = .ok v' w ∧ VR m v v' := by
  unfold afieldV at h
  split at h
  · rename_i cs
    split at h
    · rename_i ft off hf
      obtain ⟨fs, fd, n, hu, hfd, ht, ho, hn⟩ := tfield_some hf
      cases hx with
      | agg _ cs' hcs =>
        obtain ⟨v', h1, h2⟩ := VRs.apart hcs h
        refine ⟨v', ?_, h2⟩
        subst ht; subst ho
        simp only [Instr.field, Sem.run_bind, run_underlying hu, Result.andThen_ok, hfd, asAgg, Sem.run_pure, run_part h1]
    · cases h
  · cases h

theorem indexAddr_run {t : TypeId} {x x' ix ix' v : Value} (h : aindexAddr P t x ix = some v) (hx : VR m x x') (hi : VR m ix ix') (w : World) :
    ∃ v', (Instr.indexAt t x' ix').run P w = .ok v' w ∧ VR m v v' := by
  unfold aindexAddr at h
  split at h
  · rename_i k n
    cases hi
    split at h
    · rename_i e i o len cap hu
      split at h
      · rename_i size hs
        split at h
        · rename_i hb
          cases h
          cases hx with
          | slice _ _ _ _ c' a l hm ha hn hc he =>
            have hpos : c' ≠ 0 := by omega
            have ha' := ha.resolve_left hpos
            subst ha'
            refine ⟨_, ?_, .ptr _ (o + n.toNat * size) l hm⟩
            simp only [Instr.indexAt, Sem.run_bind, asIntOf, Sem.run_pure, Result.andThen_ok, run_underlying hu]
            rw [if_pos ⟨hb.1, hb.2⟩]
            simp [run_sizeOf hs, add_off, Nat.add_assoc]
        · cases h
      · cases h
    · rename_i len e i o hu
      split at h
      · rename_i size hs
        split at h
        · rename_i hb
          cases h
          cases hx with
          | ptr _ _ l hm =>
            refine ⟨_, ?_, .ptr _ (o + n.toNat * size) l hm⟩
            simp only [Instr.indexAt, Sem.run_bind, asIntOf, Sem.run_pure, Result.andThen_ok, run_underlying hu, Instr.sureAddr]
            rw [if_pos ⟨hb.1, hb.2⟩]
            simp [run_sizeOf hs, add_off, Nat.add_assoc]
        · cases h
      · cases h
    · cases h
  · cases h

theorem index_run {t : TypeId} {x x' ix ix' v : Value} (h : aindex P t x ix = some v) (hx : VR m x x') (hi : VR m ix ix') (w : World) :
    ∃ v', (Instr.index t x' ix').run P w = .ok v' w ∧ VR m v v' := by
  unfold aindex at h
  split at h
  · rename_i k n
    cases hi
    split at h
    · rename_i len e cs hu
      split at h
      · rename_i size hs
        split at h
        · rename_i hb
          cases hx with
          | agg _ cs' hcs =>
            obtain ⟨v', h1, h2⟩ := VRs.apart hcs h
            refine ⟨v', ?_, h2⟩
            simp only [Instr.index, Sem.run_bind, asIntOf, Sem.run_pure, Result.andThen_ok, run_underlying hu]
            rw [if_pos ⟨hb.1, hb.2⟩]
            simp only [Sem.run_bind, run_sizeOf hs, Result.andThen_ok, run_part h1]
        · cases h
      · cases h
    · rename_i s hu
      split at h
      · rename_i hb
        cases h
        cases hx
        refine ⟨_, ?_, .int _ _⟩
        have hlt : n.toNat < s.size := by omega
        have hg : s[n.toNat]? = some (s.get! n.toNat) := by
          rw [getElem?_pos s n.toNat hlt]
          congr 1
          simp only [ByteArray.get!]
          have h2 : n.toNat < s.data.size := hlt
          rw [getElem!_pos s.data n.toNat h2]
          rfl
        simp only [Instr.index, Sem.run_bind, asIntOf, Sem.run_pure, Result.andThen_ok, run_underlying hu]
        rw [if_pos hb.1, hg]
        simp
      · cases h
    · cases h
  · cases h

/- slices -/
theorem sliceBound_run {k : IntKind} {x : Int} {y : Nat} (code : BoundsCode) (h : 0 ≤ x ∧ x ≤ (y : Int)) (w : World) : (Instr.sliceBound (.int k x) y code).run P w = .ok x.toNat w := by
  simp only [Instr.sliceBound, Sem.run_bind, asIntOf, Sem.run_pure, Result.andThen_ok]
  rw [if_pos h]; rfl

def OVR (m : Emb) : Option Value → Option Value → Prop
  | none, none => True
  | some v, some v' => VR m v v'
  | _, _ => False

theorem abound_le {x : Option Value} {d y r : Nat} (h : abound x d y = some r) (hd : d ≤ y) : r ≤ y := by
  unfold abound at h
  split at h
  · cases h; exact hd
  · split at h
    · cases h; omega
    · cases h
  · cases h

def sbound (x' : Option Value) (d y : Nat) (code : BoundsCode) : Sem Nat :=
  match x' with
  | some v => Instr.sliceBound v y code
  | none => pure d
theorem abound_run {x x' : Option Value} {d y r : Nat} (code : BoundsCode) (h : abound x d y = some r) (hx : OVR m x x') (w : World) : (sbound x' d y code).run P w = .ok r w := by
  unfold abound at h
  split at h
  · cases h
    cases x' with
    | none => rfl
    | some v => exact hx.elim
  · rename_i k n
    split at h
    · rename_i hn
      cases h
      cases x' with
      | none => exact hx.elim
      | some v => cases hx; exact sliceBound_run code hn w
    · cases h
  · cases h

theorem sliceBounds_none (isSlice : Bool) (len cap : Nat) (lo hi : Option Value) : Instr.sliceBounds isSlice len cap lo hi none =
    (do let h ← sbound hi len cap (if isSlice then .sliceAcap else .sliceAlen); let l ← sbound lo 0 h .sliceB; pure (l, h, cap)) := by
  cases hi <;> cases lo <;> rfl
theorem sliceBounds_some (isSlice : Bool) (len cap : Nat) (lo : Option Value) (v u : Value) : Instr.sliceBounds isSlice len cap lo (some u) (some v) =
    (do let m ← sbound (some v) cap cap (if isSlice then .slice3Acap else .slice3Alen); let h ← sbound (some u) len m .slice3B; let l ← sbound lo 0 h .slice3C; pure (l, h, m)) := by
  cases lo <;> rfl

theorem sliceBounds_run {len cap cap' l h mx' : Nat} {lo hi mx lo' hi' m' : Option Value} (isSlice : Bool) (hb : asliceBounds len cap lo hi mx = some (l, h, mx'))
    (hlo : OVR m lo lo') (hhi : OVR m hi hi') (hmx : OVR m mx m') (hc : cap ≤ cap') (hlc : len ≤ cap) (w : World) :
    (Instr.sliceBounds isSlice len cap' lo' hi' m').run P w = .ok (l, h, if mx.isNone = true then cap' else mx') w ∧ l ≤ h ∧ h ≤ mx' ∧ mx' ≤ cap ∧ (mx.isNone = true → mx' = cap) := by
  unfold asliceBounds at hb
  split at hb
  · cases hb
  · rename_i hno
    cases h1 : abound mx cap cap with
    | none => simp [h1] at hb
    | some q =>
      cases h2 : abound hi len q with
      | none => simp [h1, h2] at hb
      | some r =>
        cases h3 : abound lo 0 r with
        | none => simp [h1, h2, h3] at hb
        | some s =>
          simp [h1, h2, h3] at hb
          obtain ⟨rfl, rfl, rfl⟩ := hb
          have e1 := abound_le h1 (Nat.le_refl _)
          have e3 := abound_le h3 (Nat.zero_le _)
          have e0 : mx.isNone = true → q = cap := by
            intro hm
            cases mx with
            | none => simp [abound] at h1; exact h1.symm
            | some v => simp at hm
          have e2 : r ≤ q := by
            cases mx with
            | none => exact abound_le h2 (by rw [e0 rfl]; exact hlc)
            | some v =>
              cases hi with
              | none => exact absurd ⟨rfl, rfl⟩ hno
              | some u =>
                unfold abound at h2
                split at h2
                · rename_i he; cases he
                · split at h2
                  · cases h2; omega
                  · cases h2
                · cases h2
          refine ⟨?_, e3, e2, e1, e0⟩
          have hrunm : ∀ y, (mx.isNone = true → y = cap') → (mx.isNone = false → y = q) → (sbound m' cap' cap' (if isSlice then .slice3Acap else .slice3Alen)).run P w = .ok y w := by
            intro y y1 y2
            cases mx with
            | none =>
              cases m' with
              | none => rw [y1 rfl]; rfl
              | some v => exact hmx.elim
            | some u =>
              rw [y2 rfl]
              refine abound_run _ (m := m) (d := cap') ?_ hmx w
              unfold abound at h1 ⊢
              split at h1
              · rename_i he; cases he
              · rename_i he; cases he
                split at h1
                · rename_i hx; cases h1; rw [if_pos ⟨hx.1, by omega⟩]
                · cases h1
              · cases h1
          have hrunh : ∀ y, q ≤ y → ∀ code, (sbound hi' len y code).run P w = .ok r w := by
            intro y hy code
            refine abound_run code (m := m) ?_ hhi w
            unfold abound at h2 ⊢
            split at h2
            · exact h2
            · split at h2
              · rename_i hx; cases h2; rw [if_pos ⟨hx.1, by omega⟩]
              · cases h2
            · cases h2
          have hrunl : ∀ code, (sbound lo' 0 r code).run P w = .ok s w := fun code => abound_run code h3 hlo w
          cases mx with
          | none =>
            cases m' with
            | some v => exact hmx.elim
            | none =>
              rw [sliceBounds_none]
              simp only [Sem.run_bind, hrunh cap' (by rw [e0 rfl]; exact hc), Result.andThen_ok, hrunl, Sem.run_pure]
              rfl
          | some mv =>
            cases m' with
            | none => exact hmx.elim
            | some v =>
              cases hi with
              | none => exact absurd ⟨rfl, rfl⟩ hno
              | some hv =>
                cases hi' with
                | none => exact hhi.elim
                | some u =>
                  rw [sliceBounds_some]
                  simp only [Sem.run_bind, hrunm q (fun e => by cases e) (fun _ => rfl), hrunh q (Nat.le_refl _), Result.andThen_ok, hrunl, Sem.run_pure]
                  rfl

theorem sliceAt_run {t : TypeId} {x x' v : Value} {lo hi mx lo' hi' mx' : Option Value} (hR : R P m H w) (h : aslice P H t x lo hi mx = some v) (hx : VR m x x') (hlo : OVR m lo lo') (hhi : OVR m hi hi') (hmx : OVR m mx mx') :
    ∃ v', (Instr.sliceAt t x' lo' hi' mx').run P w = .ok v' w ∧ VR m v v' := by
  unfold aslice at h
  split at h
  · rename_i s hu
    cases hx
    split at h
    · cases h
    · rename_i hm
      cases mx with
      | some u => exact absurd rfl hm
      | none =>
        cases mx' with
        | some u => exact hmx.elim
        | none =>
          cases hb : asliceBounds s.size s.size lo hi none with
          | none => rw [hb] at h; cases h
          | some r =>
            obtain ⟨l, hh, q⟩ := r
            rw [hb] at h; cases h
            obtain ⟨h1, _⟩ := sliceBounds_run (P := P) true hb hlo hhi (m := m) (m' := none) trivial (Nat.le_refl _) (Nat.le_refl _) w
            have h1' : (Instr.sliceBounds false s.size s.size lo' hi' none).run P w = .ok (l, hh, s.size) w := (sliceBounds_run (P := P) false hb hlo hhi (m := m) (m' := none) trivial (Nat.le_refl _) (Nat.le_refl _) w).1
            refine ⟨_, ?_, .string _⟩
            simp [Instr.sliceAt, Instr.slice, run_underlying hu, h1']
  · rename_i e hu
    cases hx
    cases hs : tsz P e with
    | none => rw [hs] at h; cases h
    | some size =>
      rw [hs] at h
      simp only [Option.bind_some] at h
      cases hb : asliceBounds 0 0 lo hi mx with
      | none => rw [hb] at h; cases h
      | some r =>
        obtain ⟨l, hh, q⟩ := r
        rw [hb] at h; cases h
        obtain ⟨h1, q1, q2, q3, q4⟩ := sliceBounds_run (P := P) true hb hlo hhi hmx (Nat.le_refl _) (Nat.le_refl _) w
        obtain rfl : q = 0 := by omega
        obtain rfl : hh = 0 := by omega
        obtain rfl : l = 0 := by omega
        rw [ite_self] at h1
        refine ⟨.slice none 0 0, ?_, .sliceNil⟩
        simp [Instr.sliceAt, Instr.slice, run_underlying hu, h1, run_sizeOf hs]
  · rename_i e i o len cap hu
    split at h
    · rename_i cs esz rw' size l hh q hget hs hb
      split at h
      · rename_i hesz
        cases h
        cases hx with
        | slice _ _ _ _ c' a L hm ha hn hc he =>
          obtain ⟨h1, q1, q2, q3, q4⟩ := sliceBounds_run (P := P) true hb hlo hhi hmx hc hn w
          generalize hM : (if mx.isNone = true then c' else q) = M at h1
          have hMq : q ≤ M := by rw [← hM]; split <;> omega
          have hMc : M ≤ c' := by rw [← hM]; split <;> omega
          refine ⟨.slice (some (if M = l then a else a.add (l * size))) (hh - l) (M - l), ?_, ?_⟩
          · have hif : (if M = l then some a else (some a).map (·.add (l * size))) = some (if M = l then a else a.add (l * size)) := by split <;> rfl
            simp only [Instr.sliceAt, Instr.slice, Sem.run_bind, run_underlying hu, Result.andThen_ok, h1, run_sizeOf hs, Sem.run_pure, hif]
          · refine .slice i (o + l * size) (hh - l) (q - l) (M - l) _ L hm ?_ (by omega) (by omega) ?_
            · by_cases hML : M = l
              · exact .inl (by omega)
              · right
                rw [if_neg hML]
                have ha' := ha.resolve_left (by omega)
                subst ha'
                simp [add_off, Nat.add_assoc]
            · rcases he with he | ⟨he1, he2⟩
              · left
                rw [← hM]
                split
                · rename_i hmn; rw [q4 hmn, he]
                · rfl
              · by_cases hmn : mx.isNone = true
                · right
                  rw [if_pos hmn] at hM
                  have hqc := q4 hmn
                  subst hM; subst hqc
                  obtain ⟨L', hL', hO⟩ := hR.obj i _ hget
                  rw [hm] at hL'; cases hL'
                  cases hO with
                  | cells _ _ _ hs' he' ha2 hc2 hw2 =>
                    have e1 : L.esz = size := he'.trans hesz
                    rw [e1] at he1 he2 ⊢
                    have hlq : l ≤ q := by omega
                    have hlM : l ≤ c' := by omega
                    have f1 : l * size + (q - l) * size = q * size := by rw [← Nat.add_mul]; congr 1; omega
                    have f2 : l * size + (c' - l) * size = c' * size := by rw [← Nat.add_mul]; congr 1; omega
                    constructor <;> omega
                · left
                  rw [if_neg hmn] at hM
                  omega
      · cases h
    · cases h
  · rename_i n e i o hu
    cases hs : tsz P e with
    | none => rw [hs] at h; cases h
    | some size =>
      cases hb : asliceBounds n n lo hi mx with
      | none => rw [hs, hb] at h; cases h
      | some r =>
        obtain ⟨l, hh, q⟩ := r
        rw [hs, hb] at h; cases h
        cases hx with
        | ptr _ _ L hm =>
          obtain ⟨h1, q1, q2, q3, q4⟩ := sliceBounds_run (P := P) false hb hlo hhi hmx (Nat.le_refl _) (Nat.le_refl _) w
          have hq : (if mx.isNone = true then n else q) = q := by
            split
            · rename_i hmn; exact (q4 hmn).symm
            · rfl
          rw [hq] at h1
          refine ⟨.slice (some (if q = l then ⟨L.block, L.off + o, none⟩ else (⟨L.block, L.off + o, none⟩ : Addr).add (l * size))) (hh - l) (q - l), ?_, ?_⟩
          · simp only [Instr.sliceAt, Sem.run_bind, run_underlying hu, Result.andThen_ok, Instr.sureAddr, Sem.run_pure, h1, run_sizeOf hs]
          · refine .slice i (o + l * size) (hh - l) (q - l) (q - l) _ L hm ?_ (by omega) (Nat.le_refl _) (.inl rfl)
            by_cases hML : q = l
            · exact .inl (by omega)
            · right
              rw [if_neg hML]
              simp [add_off, Nat.add_assoc]
  · cases h
end Go.LH
