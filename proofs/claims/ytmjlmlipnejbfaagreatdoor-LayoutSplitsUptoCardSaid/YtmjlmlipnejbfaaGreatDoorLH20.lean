/-
  The logical heap: what code keeps; loops whose state is told; tables of pure functions; lists as cells.
-/
import Derived.Test.YtmjlmlipnejbfaaGreatDoorLH14
import Derived.Test.YtmjlmlipnejbfaaGreatDoorLH18
set_option linter.all false
namespace Go.LH
variable {P : Program} {C : Calling} {H : AHeap} {t : Env}

def Calling.Mono (C : Calling) : Prop := ∀ f args H (K K' : Value → AHeap → Prop), C f args H K → (∀ v H, K v H → K' v H) → C f args H K'
theorem RCalls.isMono : (RCalls P).Mono := fun _ _ _ _ _ h hk => h.mono hk
theorem ovr_mono {f : FuncId} {p : List Value → Option Value} (hC : C.Mono) : (ovr C f p).Mono := by
  intro g args H K K' h hk
  unfold ovr at h ⊢
  split at h
  · rename_i e; rw [if_pos e]
    split at h
    · exact hk _ _ h
    · exact hC _ _ _ _ _ h hk
  · rename_i e; rw [if_neg e]; exact hC _ _ _ _ _ h hk

theorem one_monoC (hC : C.Mono) {o : Oper} {K K' : Value → AHeap → Prop} (h : wpOne P C o t H K) (hk : ∀ v H', K v H' → K' v H') : wpOne P C o t H K' :=
  one_to h (fun f args q => hC _ _ _ _ _ q hk) hk

/-- Whether all that code writes is among these. -/
def wrOps (W : List Nat) (ops : List Oper) : Bool := ops.all fun o => match o.dst with
  | some d => W.contains d
  | none => true
def wrIn (W : List Nat) : Code → Bool
  | .region _ ops _ => wrOps W ops.toList
  | .seq a b => wrIn W a && wrIn W b
  | .cond _ x y => wrIn W x && wrIn W y
  | .block _ b => wrIn W b
  | .loop b => wrIn W b
  | _ => true
def KeepT (W : List Nat) (t t' : Env) : Prop := ∀ i, W.contains i = false → t' i = t i
theorem KeepT.refl {W : List Nat} (t : Env) : KeepT W t t := fun _ _ => rfl
theorem KeepT.trans {W : List Nat} {a b c : Env} (h : KeepT W a b) (k : KeepT W b c) : KeepT W a c := fun i hi => (k i hi).trans (h i hi)
theorem KeepT.put {W : List Nat} {o : Oper} {v : Value} (h : (match o.dst with | some d => W.contains d | none => true) = true) : KeepT W t (putD t o.dst v) := by
  intro i hi
  cases hd : o.dst with
  | none => rfl
  | some d =>
    rw [hd] at h
    show upd t d v i = t i
    unfold upd
    by_cases e : i = d
    · subst e; simp only [] at h; rw [hi] at h; cases h
    · rw [if_neg e]
theorem ops_keep (hC : C.Mono) {W : List Nat} {ops : List Oper} : ∀ (l : List Oper) (t : Env) (H : AHeap) {K K' : Env → AHeap → Prop}, wrOps W l = true → wpOps P C ops l t H K → (∀ t' H', K t' H' → KeepT W t t' → K' t' H') → wpOps P C ops l t H K'
  | [], t, H, _, _, _, h, hk => hk _ _ h (.refl t)
  | o :: l, t, H, K, K', hw, h, hk => by
    simp only [wrOps, List.all_cons, Bool.and_eq_true] at hw
    simp only [wpOps] at h ⊢
    split at h
    · exact one_monoC hC h fun v H' q => ops_keep hC l _ _ hw.2 q fun t' H2 q2 k2 => hk _ _ q2 ((KeepT.put hw.1).trans k2)
    · exact ops_keep hC l _ _ hw.2 h fun t' H2 q2 k2 => hk _ _ q2 ((KeepT.put hw.1).trans k2)
    · exact h.elim
theorem wrOps_at {W : List Nat} {ops : List Oper} (hw : wrOps W ops = true) {i : Nat} {o : Oper} (h : ops[i]? = some o) : (match o.dst with | some d => W.contains d | none => true) = true :=
  List.all_eq_true.1 hw o (List.mem_of_getElem? h)
theorem draw_keep (hC : C.Mono) {W : List Nat} {ops : List Oper} (hw : wrOps W ops = true) : ∀ (ord : List (Nat × Option (List Nat))) (t : Env) (H : AHeap) (pl : List Pledge) {K K' : Env → AHeap → Prop}, wpDraw P C ops ord t H pl K → (∀ t' H', K t' H' → KeepT W t t' → K' t' H') → wpDraw P C ops ord t H pl K'
  | [], t, H, _, _, _, h, hk => hk _ _ h (.refl t)
  | (i, ah) :: rest, t, H, pl, K, K', h, hk => by
    simp only [wpDraw] at h ⊢
    split at h
    · exact h.elim
    · rename_i o ho
      have hp : ∀ v, KeepT W t (putD t o.dst v) := fun v => KeepT.put (wrOps_at hw ho)
      split at h
      · exact h.elim
      · exact draw_keep hC hw rest _ _ _ h fun t' H2 q2 k2 => hk _ _ q2 ((hp _).trans k2)
      · split at h
        · split at h
          · split at h
            · exact draw_keep hC hw rest _ _ _ h fun t' H2 q2 k2 => hk _ _ q2 ((hp _).trans k2)
            · exact h.elim
          · obtain ⟨v, h1, h2⟩ := h
            exact ⟨v, h1, draw_keep hC hw rest _ _ _ h2 fun t' H2 q2 k2 => hk _ _ q2 ((hp _).trans k2)⟩
        · exact one_monoC hC h fun v H' q => ⟨q.1, draw_keep hC hw rest _ _ _ q.2 fun t' H2 q2 k2 => hk _ _ q2 ((hp _).trans k2)⟩
theorem code_keep (hC : C.Mono) {W : List Nat} : ∀ (c : Code) {t : Env} {H : AHeap} {Q Q' : Post}, wrIn W c = true → wpC P C c t H Q → (∀ e t' H', Q e t' H' → KeepT W t t' → Q' e t' H') → wpC P C c t H Q'
  | .skip, t, _, _, _, _, h, hq => hq _ _ _ h (.refl t)
  | .region _ ops draw, t, _, _, _, hw, h, hq => by
    simp only [wrIn] at hw
    cases draw with
    | true =>
      simp only [wpC] at h ⊢
      obtain ⟨ord, h1, h2⟩ := h
      exact ⟨ord, h1, draw_keep hC hw ord _ _ _ h2 fun t H => hq _ t H⟩
    | false =>
      simp only [wpC] at h ⊢
      exact ops_keep hC _ _ _ hw h fun t H => hq _ t H
  | .seq a b, t, _, Q, Q', hw, h, hq => by
    simp only [wrIn, Bool.and_eq_true] at hw
    simp only [wpC] at h ⊢
    refine code_keep hC a hw.1 h fun e t1 H q k => ?_
    cases e with
    | normal => exact code_keep hC b hw.2 q fun e t2 H2 q2 k2 => hq _ _ _ q2 (k.trans k2)
    | _ => exact hq _ _ _ q k
  | .cond c x y, t, _, _, _, hw, h, hq => by
    simp only [wrIn, Bool.and_eq_true] at hw
    simp only [wpC] at h ⊢
    cases e : ev t c with
    | bool b =>
      rw [e] at h
      exact ⟨fun hb => code_keep hC x hw.1 (h.1 hb) hq, fun hb => code_keep hC y hw.2 (h.2 hb) hq⟩
    | _ => rw [e] at h; exact h.elim
  | .block id b, t, _, Q, Q', hw, h, hq => by
    simp only [wrIn] at hw
    simp only [wpC] at h ⊢
    refine code_keep hC b hw h fun e t H q k => ?_
    cases e with
    | exit i =>
      simp only [inBlockQ] at q ⊢
      split
      · rename_i e; rw [if_pos e] at q; exact hq _ _ _ q k
      · rename_i e; rw [if_neg e] at q; exact hq _ _ _ q k
    | _ => exact hq _ _ _ q k
  | .loop b, t0, _, Q, Q', hw, h, hq => by
    simp only [wrIn] at hw
    simp only [wpC] at h ⊢
    obtain ⟨I, μ, ⟨Hs, hl, h0⟩, hr⟩ := h
    refine ⟨fun t H => I t H ∧ KeepT W t0 t, μ, ⟨Hs, hl, h0, .refl t0⟩, fun t H hi => code_keep hC b hw (hr t H hi.1) fun e t1 H1 q k => ?_⟩
    cases e with
    | normal =>
      obtain ⟨H2, q1, q2, q3⟩ := q
      exact ⟨H2, q1, ⟨q2, hi.2.trans k⟩, q3⟩
    | _ => exact hq _ _ _ q (hi.2.trans k)
  | .exit _, t, _, _, _, _, h, hq => hq _ _ _ h (.refl t)
  | .ret, t, _, _, _, _, h, hq => hq _ _ _ h (.refl t)
  | .rangeFunc _ _ _ _, _, _, _, _, _, h, _ => by simp [wpC] at h
  | .scope _, _, _, _, _, _, h, _ => by simp [wpC] at h
  | .label _, _, _, _, _, _, h, _ => by simp [wpC] at h
  | .goto _, _, _, _, _, _, h, _ => by simp [wpC] at h
  | .refuse _, _, _, _, _, _, h, _ => by simp [wpC] at h

/-- An environment that differs from another one among these alone. -/
def mix (W : List Nat) (u t : Env) : Env := fun i => if W.contains i = true then u i else t i
theorem KeepT.mix {W : List Nat} {t t' : Env} (h : KeepT W t t') : mix W t' t = t' := by
  funext i
  unfold Go.LH.mix
  by_cases e : W.contains i = true
  · rw [if_pos e]
  · rw [if_neg e]; exact (h i (by simpa using e)).symm
def selE (b : Bool) (u t : Env) (i : Nat) : Value :=
  match b with
  | true => u i
  | false => t i
theorem selE_congr {b b' : Bool} {u t : Env} {i : Nat} (h : b = b') : selE b u t i = selE b' u t i := by rw [h]
theorem selE_tt {u t : Env} {i : Nat} : selE true u t i = u i := rfl
theorem selE_ff {u t : Env} {i : Nat} : selE false u t i = t i := rfl
theorem mix_sel {W : List Nat} {u t : Env} {i : Nat} : mix W u t i = selE (W.contains i) u t i := by
  unfold mix selE
  cases W.contains i <;> rfl
theorem has_cons {a i : Nat} {W : List Nat} : (a :: W).contains i = ((i == a) || W.contains i) := by
  show (match i == a with | true => true | false => List.elem i W) = (i == a || List.elem i W)
  cases i == a <;> rfl
theorem has_nil {i : Nat} : ([] : List Nat).contains i = false := rfl
/-- What some temporaries hold. -/
def EnvHas (t : Env) : List (Nat × Value) → Prop
  | [] => True
  | (i, v) :: l => t i = v ∧ EnvHas t l
theorem envHas_nil : EnvHas t [] = True := rfl
theorem envHas_cons {i : Nat} {v : Value} {l : List (Nat × Value)} : EnvHas t ((i, v) :: l) = (t i = v ∧ EnvHas t l) := rfl

/-- A loop whose state is told: what it writes (W), what of it is live (E), the heap, what holds of the state, and what grows less. -/
theorem loop_st {σ : Type} {b : Code} {Q : Post} (hC : C.Mono) (W : List Nat) (E : σ → List (Nat × Value)) (Hp : σ → AHeap) (Inv : σ → Prop) (μ : σ → Nat) (s0 : σ)
    (hW : wrIn W b = true) (h0 : Inv s0) (he : EnvHas t (E s0)) (hh : (Hp s0).Le H)
    (hr : ∀ s u, Inv s → EnvHas u (E s) → wpC P C b (mix W u t) (Hp s) (thenQ (fun t' H' => ∃ s', Inv s' ∧ EnvHas t' (E s') ∧ (Hp s').Le H' ∧ μ s' < μ s) Q)) : wpC P C (.loop b) t H Q := by
  let G (t' : Env) (H' : AHeap) (s : σ) : Prop := Inv s ∧ EnvHas t' (E s) ∧ H' = Hp s
  have hex : ∀ t' H', ∃ k : Nat, ∀ s, G t' H' s → (∃ s2, G t' H' s2 ∧ μ s2 = k) ∧ k ≤ μ s := by
    intro t' H'
    by_cases hx : ∃ s, G t' H' s
    · have key : ∀ n, (∃ s, G t' H' s ∧ μ s = n) → ∃ k, (∃ s, G t' H' s ∧ μ s = k) ∧ ∀ m, (∃ s, G t' H' s ∧ μ s = m) → k ≤ m := by
        intro n
        induction n using Nat.strongRecOn with
        | _ n ih =>
          intro h
          by_cases hm : ∃ m, m < n ∧ ∃ s, G t' H' s ∧ μ s = m
          · obtain ⟨m, h1, h2⟩ := hm
            exact ih m h1 h2
          · exact ⟨n, h, fun m hp => Nat.le_of_not_lt fun hl => hm ⟨m, hl, hp⟩⟩
      obtain ⟨s, hs⟩ := hx
      obtain ⟨k, h1, h2⟩ := key (μ s) ⟨s, hs, rfl⟩
      exact ⟨k, fun s2 q => ⟨h1, h2 _ ⟨s2, q, rfl⟩⟩⟩
    · exact ⟨0, fun s q => absurd ⟨s, q⟩ hx⟩
  refine ⟨fun t' H' => (∃ s, G t' H' s) ∧ KeepT W t t', fun t' H' => Classical.choose (hex t' H'), ⟨Hp s0, hh, ⟨s0, h0, he, rfl⟩, .refl t⟩, fun t' H' hI => ?_⟩
  obtain ⟨⟨s, hs⟩, hk⟩ := hI
  obtain ⟨⟨s2, ⟨i1, i2, i3⟩, hm⟩, _⟩ := Classical.choose_spec (hex t' H') s hs
  have h1 := hr s2 t' i1 i2
  rw [hk.mix, ← i3] at h1
  refine code_keep hC b hW h1 fun e t1 H1 q k => ?_
  cases e with
  | normal =>
    obtain ⟨s', q1, q2, q3, q4⟩ := q
    refine ⟨Hp s', q3, ⟨⟨s', q1, q2, rfl⟩, hk.trans k⟩, ?_⟩
    have := (Classical.choose_spec (hex t1 (Hp s')) s' ⟨q1, q2, rfl⟩).2
    dsimp only
    omega
  | _ => exact q

/- tables of pure functions -/
def ovrG (b : Bool) (C : Calling) (g : FuncId) (p : List Value → Option Value) (args : List Value) (H : AHeap) (K : Value → AHeap → Prop) : Prop :=
  match b with
  | true => match p args with
    | some v => K v H
    | none => C g args H K
  | false => C g args H K
theorem ovrG_congr {b b' : Bool} {g : FuncId} {p : List Value → Option Value} {args : List Value} {K : Value → AHeap → Prop} (h : b = b') : ovrG b C g p args H K = ovrG b' C g p args H K := by rw [h]
theorem call_ovr {f g : FuncId} {p : List Value → Option Value} {args : List Value} {K : Value → AHeap → Prop} : callG (ovr C f p) g args H K = ovrG (g == f) C g p args H K := by
  unfold callG ovr ovrG
  by_cases h : g = f
  · subst h; simp; cases p args <;> rfl
  · have : (g == f) = false := beq_eq_false_iff_ne.2 h
    rw [this, if_neg h]
theorem ovrG_ff {g : FuncId} {p : List Value → Option Value} {args : List Value} {K : Value → AHeap → Prop} : ovrG false C g p args H K = callG C g args H K := rfl
def ovrR (r : Option Value) (C : Calling) (g : FuncId) (args : List Value) (H : AHeap) (K : Value → AHeap → Prop) : Prop :=
  match r with
  | some v => K v H
  | none => C g args H K
theorem ovrG_tt {g : FuncId} {p : List Value → Option Value} {args : List Value} {K : Value → AHeap → Prop} : ovrG true C g p args H K = ovrR (p args) C g args H K := rfl
theorem ovrR_congr {r r' : Option Value} {g : FuncId} {args : List Value} {K : Value → AHeap → Prop} (h : r = r') : ovrR r C g args H K = ovrR r' C g args H K := by rw [h]
theorem ovrR_some {v : Value} {g : FuncId} {args : List Value} {K : Value → AHeap → Prop} : ovrR (some v) C g args H K = K v H := rfl
theorem ovrR_none {g : FuncId} {args : List Value} {K : Value → AHeap → Prop} : ovrR none C g args H K = callG C g args H K := rfl
def ovrP (b : Bool) (C : Calling) (g : FuncId) (p : List Value → Option Value) (args : List Value) (K : Value → Prop) : Prop := pureG (ovr C (if b = true then g else g + 1) p) g args K
theorem ovrP_congr {b b' : Bool} {g : FuncId} {p : List Value → Option Value} {args : List Value} {K : Value → Prop} (h : b = b') : ovrP b C g p args K = ovrP b' C g p args K := by rw [h]
theorem pure_ovr {f g : FuncId} {p : List Value → Option Value} {args : List Value} {K : Value → Prop} : pureG (ovr C f p) g args K = ovrP (g == f) C g p args K := by
  unfold ovrP pureG
  by_cases h : g = f
  · subst h; simp
  · have : (g == f) = false := beq_eq_false_iff_ne.2 h
    rw [this]
    simp [ovr, h]
theorem ovrP_ff {g : FuncId} {p : List Value → Option Value} {args : List Value} {K : Value → Prop} : ovrP false C g p args K = pureG C g args K := by
  unfold ovrP pureG; simp [ovr]
def ovrS (r : Option Value) (C : Calling) (g : FuncId) (args : List Value) (K : Value → Prop) : Prop :=
  match r with
  | some v => K v
  | none => pureG C g args K
theorem ovrS_congr {r r' : Option Value} {g : FuncId} {args : List Value} {K : Value → Prop} (h : r = r') : ovrS r C g args K = ovrS r' C g args K := by rw [h]
theorem ovrS_some {v : Value} {g : FuncId} {args : List Value} {K : Value → Prop} : ovrS (some v) C g args K = K v := rfl
theorem ovrS_none {g : FuncId} {args : List Value} {K : Value → Prop} : ovrS none C g args K = pureG C g args K := rfl
theorem ovrP_tt {g : FuncId} {p : List Value → Option Value} {args : List Value} {K : Value → Prop} : ovrP true C g p args K = ovrS (p args) C g args K := by
  unfold ovrP
  rw [if_pos rfl]
  cases h : p args with
  | some v => exact pureG_eq fun H K => ovr_hit h
  | none => unfold ovrS pureG; simp [ovr, h]
/-- The end of a table. -/
theorem call_base {f : FuncId} {args : List Value} {K : Value → AHeap → Prop} : callG (RCalls P) f args H K = RCalls P f args H K := rfl

/- the heap's reading, as tests -/
theorem gx_put {i j : Nat} {o : AObj} : (H.put i o).get j = if j = i then some o else H.get j := rfl
theorem gx_add {j : Nat} {o : AObj} : (H.add o).get j = if j = H.next then some o else H.get j := rfl
theorem gx_drop {i j : Nat} : (H.drop i).get j = if j = i then none else H.get j := rfl
theorem gx_bump {n j : Nat} : (H.bump n).get j = H.get j := rfl

/- numbers -/
theorem wrap_in {n : Int} (h1 : -9223372036854775808 ≤ n) (h2 : n < 9223372036854775808) : IntKind.i64.wrap n = n := by rw [IntKind.wrap_i64]; omega
theorem guardB_split_t {b : Bool} {A B : Prop} (h1 : b = true → A) (h2 : b = false → B) : guardB (.bool b) true A B := by
  cases b
  · exact h2 rfl
  · exact h1 rfl
theorem guardB_split_f {b : Bool} {A B : Prop} (h1 : b = false → A) (h2 : b = true → B) : guardB (.bool b) false A B := by
  cases b
  · exact h1 rfl
  · exact h2 rfl
attribute [go_sem ↓] mix_sel
attribute [go_sem] selE_tt selE_ff has_cons has_nil ovrG_ff ovrP_ff ovrG_tt ovrP_tt ovrR_some ovrR_none ovrS_some ovrS_none call_base
attribute [congr] selE_congr ovrG_congr ovrP_congr ovrR_congr ovrS_congr
end Go.LH
