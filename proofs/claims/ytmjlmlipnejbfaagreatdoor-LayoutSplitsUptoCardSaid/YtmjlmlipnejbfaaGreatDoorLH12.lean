/-
  The logical heap: code, and functions.
-/
import Derived.Test.YtmjlmlipnejbfaaGreatDoorLH11
set_option linter.all false
namespace Go.LH
variable {P : Program} {m : Emb} {H : AHeap} {w : World}

def thenQ (K : Env → AHeap → Prop) (Q : Post) : Post
  | .normal, t, H => K t H
  | e, t, H => Q e t H
def inBlockQ (id : Nat) (Q : Post) : Post
  | .exit i, t, H => if i = id then Q .normal t H else Q (.exit i) t H
  | e, t, H => Q e t H

/-- What must hold ahead of code. -/
def wpC (P : Program) (C : Calling) : Code → Env → AHeap → Post → Prop
  | .skip, t, H, Q => Q .normal t H
  | .region _ ops draw, t, H, Q => if draw then DrawOk P C ops t H (Q .normal) else wpOps P C ops.toList ops.toList t H (Q .normal)
  | .seq a b, t, H, Q => wpC P C a t H (thenQ (fun t H => wpC P C b t H Q) Q)
  | .cond c x y, t, H, Q => match ev t c with
    | .bool b => (b = true → wpC P C x t H Q) ∧ (b = false → wpC P C y t H Q)
    | _ => False
  | .block id b, t, H, Q => wpC P C b t H (inBlockQ id Q)
  | .loop b, t, H, Q => ∃ (I : Env → AHeap → Prop) (μ : Env → AHeap → Nat), (∃ H0 : AHeap, H0.Le H ∧ I t H0) ∧ ∀ t H, I t H → wpC P C b t H (thenQ (fun t' H' => ∃ H2 : AHeap, H2.Le H' ∧ I t' H2 ∧ μ t' H2 < μ t H) Q)
  | .exit id, t, H, Q => Q (.exit id) t H
  | .ret, t, H, Q => Q .ret t H
  | _, _, _, _ => False

def codeOk (P : Program) (N : Nat) : Code → Bool
  | .region _ ops _ => ops.toList.all (operOk P N)
  | .seq a b => codeOk P N a && codeOk P N b
  | .cond c x y => opndOk P c && codeOk P N x && codeOk P N y
  | .block _ b => codeOk P N b
  | .loop b => codeOk P N b
  | _ => true

theorem wp_loop_rel {c : Code} {Q : Exit → Act → World → Prop} (I : Nat → Act → World → Prop)
    (round : ∀ n a w, I n a w → c.wp P (Exit.then (fun a' w' => ∃ k, k < n ∧ I k a' w') Q) a w) (n : Nat) (a : Act) (w : World) (h₀ : I n a w) : (Code.loop c).wp P Q a w := by
  intro b k cs
  have key : ∀ n a w, I n a w → ∃ e a' w', Q e a' w' ∧ Arrives P (lone (b.at a (.code c :: .inLoop c :: k)) cs w) b k cs e a' w' := by
    intro n
    induction n using Nat.strongRecOn with
    | _ n ih =>
      intro a w hI
      obtain ⟨e, a₁, w₁, hq, harr⟩ := round n a w hI b (.inLoop c :: k) cs
      cases e with
      | normal =>
        obtain ⟨q, hlt, hI₁⟩ := hq
        obtain ⟨e₂, a₂, w₂, hq₂, harr₂⟩ := ih q hlt a₁ w₁ hI₁
        exact ⟨e₂, a₂, w₂, hq₂, .of_steps (Steps.trans harr (.one step_inLoop)) harr₂⟩
      | exit id => exact ⟨_, a₁, w₁, hq, .pass (x := .inLoop c) rfl (fun _ _ => .inl (by simp)) harr⟩
      | goto l => exact ⟨_, a₁, w₁, hq, .pass (x := .inLoop c) rfl (fun _ _ => .inl (by simp)) harr⟩
      | ret => exact ⟨_, a₁, w₁, hq, .pass (x := .inLoop c) rfl (fun _ _ => .inl (by simp)) harr⟩
      | panic ch => exact ⟨_, a₁, w₁, hq, .pass (x := .inLoop c) rfl (fun _ _ => .inl (by simp)) harr⟩
      | outgrown => exact ⟨_, a₁, w₁, hq, .pass (x := .inLoop c) rfl (fun _ _ => .inl (by simp)) harr⟩
  obtain ⟨e, a', w', hq, harr⟩ := key n a w h₀
  exact ⟨e, a', w', hq, .of_steps (.one step_loop) harr⟩

/-- What is known of a state. -/
structure St (P : Program) (N : Nat) (m0 : Emb) (H0 : AHeap) (w0 : World) (t : Env) (H : AHeap) (m : Emb) (a : Act) (w : World) : Prop where
  env : EnvR m t a
  size : a.tmps.size = N
  defers : a.defers = []
  r : R P m H w
  kept : Kept m0 H0 w0 m H w

theorem St.forget {N : Nat} {m0 : Emb} {H0 H2 : AHeap} {w0 : World} {t : Env} {a : Act} (h : St P N m0 H0 w0 t H m a w) (hl : H2.Le H) : St P N m0 H0 w0 t H2 m a w :=
  ⟨h.env, h.size, h.defers, h.r.forget hl, h.kept.forget hl⟩

theorem code_sound {C : Calling} {N : Nat} (hM : P.follows .mixedOrders = true) (hT : ZerosPlain P) (hC : C.Sound P) (m0 : Emb) (H0 : AHeap) (w0 : World) :
    ∀ (c : Code) (t : Env) (H : AHeap) (m : Emb) (a : Act) (w : World) (Q : Post), codeOk P N c = true → St P N m0 H0 w0 t H m a w → wpC P C c t H Q →
      c.wp P (fun e a' w' => ∃ t' H' m', Q e t' H' ∧ St P N m0 H0 w0 t' H' m' a' w') a w
  | .skip, t, H, m, a, w, Q, _, hS, h => wp_skip ⟨t, H, m, h, hS⟩
  | .region id ops draw, t, H, m, a, w, Q, hok, hS, h => by
    have hall : ∀ o ∈ ops.toList, operOk P N o = true := List.all_eq_true.1 hok
    cases draw with
    | true =>
      refine draw_sound hM hT hC hall hS.size hS.defers hS.env hS.r (by simpa [wpC] using h) fun t' H' m' a' w' k e1 e2 e3 e4 e5 => ⟨t', H', m', k, e1, e2, e3, e4, hS.kept.trans e5⟩
    | false =>
      refine wp_region_list (ops_sound hT hC hall ops.toList t H m a w _ hall hS.size hS.defers hS.env hS.r (by simpa [wpC] using h) fun t' H' m' a' w' k e1 e2 e3 e4 e5 => ⟨t', H', m', k, e1, e2, e3, e4, hS.kept.trans e5⟩)
  | .seq x y, t, H, m, a, w, Q, hok, hS, h => by
    simp only [codeOk, Bool.and_eq_true] at hok
    refine wp_seq (wp_mono (code_sound hM hT hC m0 H0 w0 x t H m a w _ hok.1 hS h) ?_)
    rintro e a' w' ⟨t', H', m', k, hS'⟩
    cases e with
    | normal => exact code_sound hM hT hC m0 H0 w0 y t' H' m' a' w' Q hok.2 hS' k
    | exit i => exact ⟨t', H', m', k, hS'⟩
    | goto l => exact ⟨t', H', m', k, hS'⟩
    | ret => exact ⟨t', H', m', k, hS'⟩
    | panic c => exact ⟨t', H', m', k, hS'⟩
    | outgrown => exact ⟨t', H', m', k, hS'⟩
  | .cond c x y, t, H, m, a, w, Q, hok, hS, h => by
    simp only [codeOk, Bool.and_eq_true] at hok
    simp only [wpC] at h
    split at h
    · rename_i b hb
      have h1 := ev_rel hS.r hS.env hok.1.1
      rw [hb] at h1
      have hc : a.eval c = .bool b := by
        generalize a.eval c = u at h1
        cases h1; rfl
      cases b with
      | true => exact wp_cond_true hc (code_sound hM hT hC m0 H0 w0 x t H m a w Q hok.1.2 hS (h.1 rfl))
      | false => exact wp_cond_false hc (code_sound hM hT hC m0 H0 w0 y t H m a w Q hok.2 hS (h.2 rfl))
    · exact h.elim
  | .block id b, t, H, m, a, w, Q, hok, hS, h => by
    refine wp_block (wp_mono (code_sound hM hT hC m0 H0 w0 b t H m a w _ hok hS h) ?_)
    rintro e a' w' ⟨t', H', m', k, hS'⟩
    cases e with
    | normal => exact ⟨t', H', m', k, hS'⟩
    | exit i =>
      simp only [inBlockQ] at k
      simp only [Exit.inBlock]
      split at k
      · rename_i hi; rw [if_pos hi]; exact ⟨t', H', m', k, hS'⟩
      · rename_i hi; rw [if_neg hi]; exact ⟨t', H', m', k, hS'⟩
    | goto l => exact ⟨t', H', m', k, hS'⟩
    | ret => exact ⟨t', H', m', k, hS'⟩
    | panic c => exact ⟨t', H', m', k, hS'⟩
    | outgrown => exact ⟨t', H', m', k, hS'⟩
  | .loop b, t, H, m, a, w, Q, hok, hS, h => by
    obtain ⟨I, μ, ⟨Hs, hls, h0⟩, hround⟩ := h
    refine wp_loop_rel (fun n a w => ∃ t H m, I t H ∧ μ t H = n ∧ St P N m0 H0 w0 t H m a w) ?_ (μ t Hs) a w ⟨t, Hs, m, h0, rfl, hS.forget hls⟩
    rintro n a w ⟨t, H, m, hI, hn, hS⟩
    refine wp_mono (code_sound hM hT hC m0 H0 w0 b t H m a w _ hok hS (hround t H hI)) ?_
    rintro e a' w' ⟨t', H', m', k, hS'⟩
    cases e with
    | normal =>
      obtain ⟨H2, hl2, k1, k2⟩ := k
      exact ⟨μ t' H2, hn ▸ k2, t', H2, m', k1, rfl, hS'.forget hl2⟩
    | exit i => exact ⟨t', H', m', k, hS'⟩
    | goto l => exact ⟨t', H', m', k, hS'⟩
    | ret => exact ⟨t', H', m', k, hS'⟩
    | panic c => exact ⟨t', H', m', k, hS'⟩
    | outgrown => exact ⟨t', H', m', k, hS'⟩
  | .exit id, t, H, m, a, w, Q, _, hS, h => wp_exit ⟨t, H, m, h, hS⟩
  | .ret, t, H, m, a, w, Q, _, hS, h => wp_ret ⟨t, H, m, h, hS⟩
  | .rangeFunc _ _ _ _, _, _, _, _, _, _, _, _, h => by simp [wpC] at h
  | .scope _, _, _, _, _, _, _, _, _, h => by simp [wpC] at h
  | .label _, _, _, _, _, _, _, _, _, h => by simp [wpC] at h
  | .goto _, _, _, _, _, _, _, _, _, h => by simp [wpC] at h
  | .refuse _, _, _, _, _, _, _, _, _, h => by simp [wpC] at h

/- functions -/
def env0 (args : List Value) : Env := fun i => args.getD i undef
def ares1 (P : Program) (t : Env) (H : AHeap) : ResultVar → Option Value
  | .tmp i => some (t i)
  | .cell i ty => match t i with
    | .pointer (some ⟨b, o, none⟩) => H.load P ty b o
    | _ => none
def ares (P : Program) (t : Env) (H : AHeap) : List ResultVar → Option (List Value)
  | [] => some []
  | r :: rs => (ares1 P t H r).bind fun v => (ares P t H rs).map fun vs => v :: vs
def tup : List Value → Value
  | [v] => v
  | vs => .tuple vs.toArray
def bodyQ (P : Program) (rs : List ResultVar) (Q : Value → AHeap → Prop) : Post
  | .normal, t, H | .ret, t, H => match ares P t H rs with
    | some vs => Q (tup vs) H
    | none => False
  | _, _, _ => False

def rd1 (tmps : Array Value) : ResultVar → Sem Value
  | .tmp t => pure (tmps.getD t undef)
  | .cell a t => do loadVar t (← asAddr (tmps.getD a undef))
theorem results_rd (fn : Func) (tmps : Array Value) : results fn tmps = (do let vs ← fn.results.mapM (rd1 tmps); pure (if h : vs.size = 1 then vs[0] else .tuple vs)) := by
  unfold results
  congr 1
theorem rd1_run {t : Env} {a : Act} (hR : R P m H w) (hE : EnvR m t a) {r : ResultVar} {v : Value} (h1 : ares1 P t H r = some v) : ∃ v', (rd1 a.tmps r).run P w = .ok v' w ∧ VR m v v' := by
  cases r with
  | tmp i => simp only [ares1] at h1; cases h1; exact ⟨_, rfl, hE i⟩
  | cell i ty =>
    simp only [ares1] at h1
    split at h1
    · rename_i b o hti
      have hv := hE i
      rw [hti] at hv
      generalize hu : a.tmps.getD i undef = u at hv
      cases hv with
      | ptr _ _ l hm =>
        obtain ⟨v', e1, e2⟩ := load_run hR h1 hm
        refine ⟨v', ?_, e2⟩
        simp only [rd1, hu, asAddr, Sem.run_bind, Sem.run_pure, Result.andThen_ok, e1]
    · cases h1
theorem ares_run {t : Env} {a : Act} (hR : R P m H w) (hE : EnvR m t a) : ∀ (rs : List ResultVar) (vs : List Value), ares P t H rs = some vs →
    ∃ vs', (rs.mapM (rd1 a.tmps)).run P w = .ok vs' w ∧ VRs m vs vs'
  | [], vs, h => by simp [ares] at h; subst h; exact ⟨[], rfl, .nil⟩
  | r :: rs, vs, h => by
    simp only [ares] at h
    cases h1 : ares1 P t H r with
    | none => rw [h1] at h; cases h
    | some v =>
      cases h2 : ares P t H rs with
      | none => rw [h1, h2] at h; cases h
      | some us =>
        rw [h1, h2] at h; cases h
        obtain ⟨us', q1, q2⟩ := ares_run hR hE rs us h2
        obtain ⟨v', q3, q4⟩ := rd1_run hR hE h1
        refine ⟨v' :: us', ?_, .cons _ _ _ _ q4 q2⟩
        simp only [List.mapM_cons, Sem.run_bind, q3, q1, Result.andThen_ok, Sem.run_pure]

theorem results_run {fn : Func} {t : Env} {a : Act} {vs : List Value} (hR : R P m H w) (hE : EnvR m t a) (h : ares P t H fn.results.toList = some vs) :
    ∃ v', (results fn a.tmps).run P w = .ok v' w ∧ VR m (tup vs) v' := by
  obtain ⟨vs', h1, h2⟩ := ares_run hR hE _ _ h
  have e : (fn.results.mapM (rd1 a.tmps)).run P w = .ok vs'.toArray w := by
    rw [Array.mapM_eq_mapM_toList]
    simp only [Sem.run_map, h1, Result.andThen_ok]
  rw [results_rd, Sem.run_bind, e]
  simp only [Result.andThen_ok, Sem.run_pure]
  refine ⟨_, rfl, ?_⟩
  match vs, vs', h2 with
  | [], _, .nil => exact .tuple [] [] .nil
  | [v], _, .cons _ v' _ _ k .nil => exact k
  | _ :: _ :: _, _, .cons _ v' _ _ k (.cons _ u' _ _ k2 k3) => exact .tuple _ _ (.cons _ _ _ _ k (.cons _ _ _ _ k2 k3))

theorem rcalls_enter {C : Calling} {f : FuncId} {fn : Func} {c : Code} {args : List Value} {Q : Value → AHeap → Prop} (hM : P.follows .mixedOrders = true) (hC : C.Sound P)
    (hf : P.funcs[f]? = some fn) (hb : fn.body = some c) (hok : (fn.name != "runtime.NumGoroutine" && codeOk P fn.ntmps c) = true) {rs : List ResultVar} (hrs : fn.results.toList = rs) (hl : Nat.ble args.length fn.ntmps = true)
    (h : wpC P C c (env0 args) H (bodyQ P rs Q)) : RCalls P f args H Q := by
  subst hrs
  have hl : args.length ≤ fn.ntmps := Nat.le_of_ble_eq_true hl
  simp only [Bool.and_eq_true] at hok
  intro m w args' ha hR
  have hlen := ha.length
  simp only [Array.length_toList] at hlen
  have hcf : (callFunc f args').run P w = .ok (.enter f args') w := by
    have hn : ¬ ((fn.name == "runtime.NumGoroutine") = true) := by
      intro e
      have := hok.1
      simp only [bne] at this
      rw [e] at this
      cases this
    simp only [callFunc, Sem.run_bind, run_program, Result.andThen_ok, hf]
    rw [if_neg hn, if_neg (by simp [hb])]
    rfl
  rw [hcf]
  show Calls P f args' w _
  refine calls_of_wp hf hb ?_
  have hS : St P fn.ntmps m H w (env0 args) H m { tmps := args' ++ Array.replicate (fn.ntmps - args'.size) undef, defers := [] } w := by
    refine ⟨fun i => ?_, by simp; omega, rfl, hR, Kept.refl _ _ _⟩
    simp only [env0, List.getD_eq_getElem?_getD, Array.getD_eq_getD_getElem?]
    by_cases hi : i < args.length
    · obtain ⟨v', e1, e2⟩ := ha.get i _ (List.getElem?_eq_getElem hi)
      rw [List.getElem?_eq_getElem hi, Array.getElem?_append_left (by omega)]
      simp only [Array.getElem?_toList] at e1
      rw [e1]
      exact e2
    · rw [List.getElem?_eq_none (by omega), Array.getElem?_append_right (by omega)]
      have : (Array.replicate (fn.ntmps - args'.size) undef)[i - args'.size]?.getD undef = undef := by
        rw [Array.getElem?_replicate]; split <;> rfl
      rw [this]
      exact .tuple [] [] .nil
  refine wp_mono (code_sound hM (zerosPlain P) hC m H w c (env0 args) H m _ w _ hok.2 hS h) ?_
  rintro e a' w' ⟨t', H', m', k, hS'⟩
  have fin : (match ares P t' H' fn.results.toList with
    | some vs => Q (tup vs) H'
    | none => False) → (a'.defers = [] ∧ ∃ v, (results fn a'.tmps).run P w' = .ok v w' ∧ ∃ u, Ending.returned v = .returned u ∧ ∃ v H2 m2, Q v H2 ∧ VR m2 v u ∧ R P m2 H2 w' ∧ Kept m H w m2 H2 w') := by
    intro k
    split at k
    · rename_i vs hv
      obtain ⟨v', e1, e2⟩ := results_run hS'.r hS'.env hv
      exact ⟨hS'.defers, v', e1, v', rfl, tup vs, H', m', k, e2, hS'.r, hS'.kept⟩
    · exact k.elim
  cases e with
  | normal => exact fin k
  | ret => exact fin k
  | exit i => exact k.elim
  | goto l => exact k.elim
  | panic c => exact k.elim
  | outgrown => exact k.elim

end Go.LH
