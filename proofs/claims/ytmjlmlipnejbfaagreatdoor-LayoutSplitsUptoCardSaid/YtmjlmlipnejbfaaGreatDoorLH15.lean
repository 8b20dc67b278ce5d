/-
  The logical heap: a run that is worked out. Functions are run on lists and a tree of objects; what comes out is what a call comes back with.
-/
import Derived.Test.YtmjlmlipnejbfaaGreatDoorLH12
set_option linter.all false
namespace Go.LH
variable {P : Program}

/- what holds stays with a weaker end -/
theorem ops_mono {ops : List Oper} : ∀ (l : List Oper) {t : Env} {H : AHeap} {K K' : Env → AHeap → Prop}, wpOps P (RCalls P) ops l t H K → (∀ t H, K t H → K' t H) → wpOps P (RCalls P) ops l t H K'
  | [], _, _, _, _, h, hk => hk _ _ h
  | o :: rest, t, H, K, K', h, hk => by
    simp only [wpOps] at h ⊢
    split at h
    · exact one_mono h fun v H' q => ops_mono rest q hk
    · exact ops_mono rest h hk
    · exact h.elim
theorem draw_mono {ops : List Oper} : ∀ (ord : List (Nat × Option (List Nat))) {t : Env} {H : AHeap} {pl : List Pledge} {K K' : Env → AHeap → Prop}, wpDraw P (RCalls P) ops ord t H pl K → (∀ t H, K t H → K' t H) → wpDraw P (RCalls P) ops ord t H pl K'
  | [], _, _, _, _, _, h, hk => hk _ _ h
  | (i, ah) :: rest, t, H, pl, K, K', h, hk => by
    simp only [wpDraw] at h ⊢
    split at h
    · exact h.elim
    · split at h
      · exact h.elim
      · exact draw_mono rest h hk
      · split at h
        · split at h
          · split at h
            · exact draw_mono rest h hk
            · exact h.elim
          · obtain ⟨v, h1, h2⟩ := h
            exact ⟨v, h1, draw_mono rest h2 hk⟩
        · exact one_mono h fun v H' q => ⟨q.1, draw_mono rest q.2 hk⟩
theorem code_mono : ∀ (c : Code) {t : Env} {H : AHeap} {Q Q' : Post}, wpC P (RCalls P) c t H Q → (∀ e t H, Q e t H → Q' e t H) → wpC P (RCalls P) c t H Q'
  | .skip, _, _, _, _, h, hq => hq _ _ _ h
  | .region _ ops draw, _, _, _, _, h, hq => by
    cases draw with
    | true =>
      simp only [wpC] at h ⊢
      obtain ⟨ord, h1, h2⟩ := h
      exact ⟨ord, h1, draw_mono ord h2 fun t H => hq _ t H⟩
    | false =>
      simp only [wpC] at h ⊢
      exact ops_mono _ h fun t H => hq _ t H
  | .seq a b, _, _, Q, Q', h, hq => by
    simp only [wpC] at h ⊢
    refine code_mono a h fun e t H q => ?_
    cases e with
    | normal => exact code_mono b q hq
    | _ => exact hq _ _ _ q
  | .cond c x y, t, _, _, _, h, hq => by
    simp only [wpC] at h ⊢
    cases e : ev t c with
    | bool b =>
      rw [e] at h
      exact ⟨fun hb => code_mono x (h.1 hb) hq, fun hb => code_mono y (h.2 hb) hq⟩
    | _ => rw [e] at h; exact h.elim
  | .block id b, _, _, Q, Q', h, hq => by
    simp only [wpC] at h ⊢
    refine code_mono b h fun e t H q => ?_
    cases e with
    | exit i =>
      simp only [inBlockQ] at q ⊢
      split
      · rename_i e; rw [if_pos e] at q; exact hq _ _ _ q
      · rename_i e; rw [if_neg e] at q; exact hq _ _ _ q
    | _ => exact hq _ _ _ q
  | .loop b, _, _, Q, Q', h, hq => by
    simp only [wpC] at h ⊢
    obtain ⟨I, μ, h0, hr⟩ := h
    refine ⟨I, μ, h0, fun t H hi => code_mono b (hr t H hi) fun e t H q => ?_⟩
    cases e with
    | normal => exact q
    | _ => exact hq _ _ _ q
  | .exit _, _, _, _, _, h, hq => hq _ _ _ h
  | .ret, _, _, _, _, h, hq => hq _ _ _ h
  | .rangeFunc _ _ _ _, _, _, _, _, h, _ => by simp [wpC] at h
  | .scope _, _, _, _, _, h, _ => by simp [wpC] at h
  | .label _, _, _, _, _, h, _ => by simp [wpC] at h
  | .goto _, _, _, _, _, h, _ => by simp [wpC] at h
  | .refuse _, _, _, _, _, h, _ => by simp [wpC] at h

/-- A loop that ends within so many rounds. -/
def Rounds (P : Program) (b : Code) (Q : Post) : Nat → Env → AHeap → Prop
  | 0, _, _ => False
  | n + 1, t, H => wpC P (RCalls P) b t H (thenQ (Rounds P b Q n) Q)
theorem least {p : Nat → Prop} : ∀ n, p n → ∃ k, p k ∧ ∀ m, p m → k ≤ m := by
  intro n
  induction n using Nat.strongRecOn with
  | _ n ih =>
    intro h
    by_cases hm : ∃ m, m < n ∧ p m
    · obtain ⟨m, h1, h2⟩ := hm
      exact ih m h1 h2
    · exact ⟨n, h, fun m hp => Nat.le_of_not_lt fun hl => hm ⟨m, hl, hp⟩⟩
theorem loop_rounds {b : Code} {Q : Post} {t : Env} {H : AHeap} (n : Nat) (h : Rounds P b Q n t H) : wpC P (RCalls P) (.loop b) t H Q := by
  have hex : ∀ t H, ∃ k : Nat, ∀ n, Rounds P b Q n t H → Rounds P b Q k t H ∧ k ≤ n := by
    intro t H
    by_cases hx : ∃ n, Rounds P b Q n t H
    · obtain ⟨n, hn⟩ := hx
      obtain ⟨k, h1, h2⟩ := least (p := fun n => Rounds P b Q n t H) n hn
      exact ⟨k, fun m hm => ⟨h1, h2 m hm⟩⟩
    · exact ⟨0, fun n hn => absurd ⟨n, hn⟩ hx⟩
  obtain ⟨μ, hμ⟩ : ∃ μ : Env → AHeap → Nat, ∀ t H n, Rounds P b Q n t H → Rounds P b Q (μ t H) t H ∧ μ t H ≤ n :=
    ⟨fun t H => Classical.choose (hex t H), fun t H => Classical.choose_spec (hex t H)⟩
  simp only [wpC]
  refine ⟨fun t H => ∃ n, Rounds P b Q n t H, μ, ⟨H, .refl H, n, h⟩, fun t H hi => ?_⟩
  obtain ⟨n, hn⟩ := hi
  have hf := (hμ t H n hn).1
  generalize hk : μ t H = k at hf
  cases k with
  | zero => exact hf.elim
  | succ k =>
    refine code_mono b hf fun e t' H' q => ?_
    cases e with
    | normal => exact ⟨H', .refl H', ⟨k, q⟩, Nat.lt_succ_of_le (hμ t' H' k q).2⟩
    | _ => exact q

/- forcing: the same value, its parts worked out -/
def frcN {α : Type} (n : Nat) (k : Nat → α) : α := Nat.casesOn (motive := fun _ => α) n (k 0) fun m => k (Nat.succ m)
theorem frcN_eq {α : Type} (n : Nat) (k : Nat → α) : frcN n k = k n := by cases n <;> rfl
def frcI {α : Type} (n : Int) (k : Int → α) : α := Int.casesOn (motive := fun _ => α) n (fun n => frcN n fun n => k (.ofNat n)) fun n => frcN n fun n => k (.negSucc n)
theorem frcI_eq {α : Type} (n : Int) (k : Int → α) : frcI n k = k n := by cases n <;> simp [frcI, frcN_eq]
def frcS {α β : Type} (l : List β) (k : List β → α) : α := match l with
  | [] => k []
  | x :: l => frcS l fun l => k (x :: l)
theorem frcS_eq {α β : Type} : ∀ (l : List β) (k : List β → α), frcS l k = k l
  | [], k => rfl
  | x :: l, k => frcS_eq l _
def frc1 {α : Type} (v : Value) (k : Value → α) : α := match v with
  | .bool true => k (.bool true)
  | .bool false => k (.bool false)
  | .int t n => frcI n fun n => k (.int t n)
  | .string s => k (.string s)
  | .pointer (some ⟨i, o, none⟩) => frcN i fun i => frcN o fun o => k (.pointer (some ⟨i, o, none⟩))
  | .slice (some ⟨i, o, none⟩) n c => frcN i fun i => frcN o fun o => frcN n fun n => frcN c fun c => k (.slice (some ⟨i, o, none⟩) n c)
  | .slice none n c => frcN n fun n => frcN c fun c => k (.slice none n c)
  | .pointer none => k (.pointer none)
  | .nilIface => k .nilIface
  | .nilFunc => k .nilFunc
  | .map none => k (.map none)
  | .map (some i) => frcN i fun i => k (.map (some i))
  | .func (.func f) ⟨xs⟩ ⟨ys⟩ => frcN f fun f => frcS xs fun xs => frcS ys fun ys => k (.func (.func f) ⟨xs⟩ ⟨ys⟩)
  | .iface t (.int q n) => frcN t fun t => frcI n fun n => k (.iface t (.int q n))
  | .iface t (.pointer (some ⟨i, o, none⟩)) => frcN t fun t => frcN i fun i => frcN o fun o => k (.iface t (.pointer (some ⟨i, o, none⟩)))
  | v => k v
theorem frc1_eq {α : Type} (v : Value) (k : Value → α) : frc1 v k = k v := by
  unfold frc1
  split <;> simp [frcN_eq, frcI_eq, frcS_eq]
def frcL {α : Type} (l : List Value) (k : List Value → α) : α := match l with
  | [] => k []
  | x :: l => frc1 x fun x => frcL l fun l => k (x :: l)
theorem frcL_eq {α : Type} : ∀ (l : List Value) (k : List Value → α), frcL l k = k l
  | [], k => rfl
  | x :: l, k => by simp [frcL, frc1_eq, frcL_eq l]
def frcV {α : Type} (v : Value) (k : Value → α) : α := match v with
  | .agg ⟨xs⟩ => frcL xs fun xs => k (.agg ⟨xs⟩)
  | .tuple ⟨xs⟩ => frcL xs fun xs => k (.tuple ⟨xs⟩)
  | v => frc1 v k
theorem frcV_eq {α : Type} (v : Value) (k : Value → α) : frcV v k = k v := by
  unfold frcV
  split <;> simp [frcL_eq, frc1_eq]

def frcB {α : Type} (l : List UInt8) (k : List UInt8 → α) : α := match l with
  | [] => k []
  | x :: l => frcN x.toNat fun n => frcB l fun l => k (UInt8.ofNat n :: l)
theorem frcB_eq {α : Type} : ∀ (l : List UInt8) (k : List UInt8 → α), frcB l k = k l
  | [], k => rfl
  | x :: l, k => by
    simp only [frcB, frcN_eq]
    rw [frcB_eq l, UInt8.ofNat_toNat]
/-- Also a string's bytes. -/
def frcW {α : Type} (v : Value) (k : Value → α) : α := match v with
  | .string ⟨⟨l⟩⟩ => frcB l fun l => k (.string ⟨⟨l⟩⟩)
  | v => frcV v k
theorem frcW_eq {α : Type} (v : Value) (k : Value → α) : frcW v k = k v := by
  unfold frcW
  split <;> simp [frcB_eq, frcV_eq]

/- tables as trees -/
inductive Tr (α : Type) where
  | leaf
  | node (o : α) (l r : Tr α)
/-- By the recursors themselves: the kernel's steps are few so. -/
noncomputable def Tr.get {α : Type} (z : α) (t : Tr α) : Nat → α :=
  Tr.rec (motive := fun _ => Nat → α) (fun _ => z) (fun o _ _ gl gr i => Nat.rec (motive := fun _ => α) o (fun m _ => Bool.rec (motive := fun _ => α) (gr (Nat.div m 2)) (gl (Nat.div m 2)) (Nat.beq (Nat.mod m 2) 0)) i) t
theorem Tr.get_leaf {α : Type} {z : α} {i : Nat} : Tr.get z .leaf i = z := rfl
theorem Tr.get_zero {α : Type} {z o : α} {l r : Tr α} : Tr.get z (.node o l r) 0 = o := rfl
theorem Tr.get_succ {α : Type} {z o : α} {l r : Tr α} {m : Nat} : Tr.get z (.node o l r) (m + 1) = match Nat.beq (m % 2) 0 with
    | true => l.get z (m / 2)
    | false => r.get z (m / 2) := by
  show Bool.rec (motive := fun _ => α) (r.get z (Nat.div m 2)) (l.get z (Nat.div m 2)) (Nat.beq (Nat.mod m 2) 0) = _
  show Bool.rec (motive := fun _ => α) (r.get z (m / 2)) (l.get z (m / 2)) (Nat.beq (m % 2) 0) = _
  cases Nat.beq (m % 2) 0 <;> rfl
/-- A path of none but one. -/
def Tr.mk {α β : Type} (z : α) : Nat → Nat → α → (Tr α → Option β) → Option β
  | 0, _, _, _ => none
  | d + 1, i, x, k => match i with
    | 0 => k (.node x .leaf .leaf)
    | m + 1 => match Nat.beq (m % 2) 0 with
      | true => Tr.mk z d (m / 2) x fun l => k (.node z l .leaf)
      | false => Tr.mk z d (m / 2) x fun r => k (.node z .leaf r)
noncomputable def Tr.set {α β : Type} (z : α) (d : Nat) (t : Tr α) : Nat → α → (Tr α → Option β) → Option β :=
  Tr.rec (motive := fun _ => Nat → α → (Tr α → Option β) → Option β) (fun i x k => Tr.mk z d i x k)
    (fun o l r sl sr i x k => Nat.rec (motive := fun _ => Option β) (k (.node x l r)) (fun m _ => Bool.rec (motive := fun _ => Option β) (sr (Nat.div m 2) x fun r => k (.node o l r)) (sl (Nat.div m 2) x fun l => k (.node o l r)) (Nat.beq (Nat.mod m 2) 0)) i) t
theorem Tr.set_leaf {α β : Type} {z x : α} {d i : Nat} {k : Tr α → Option β} : Tr.set z d .leaf i x k = Tr.mk z d i x k := rfl
theorem Tr.set_zero {α β : Type} {z o x : α} {d : Nat} {l r : Tr α} {k : Tr α → Option β} : Tr.set z d (.node o l r) 0 x k = k (.node x l r) := rfl
theorem Tr.set_succ {α β : Type} {z o x : α} {d m : Nat} {l r : Tr α} {k : Tr α → Option β} : Tr.set z d (.node o l r) (m + 1) x k = match Nat.beq (m % 2) 0 with
    | true => Tr.set z d l (m / 2) x fun l => k (.node o l r)
    | false => Tr.set z d r (m / 2) x fun r => k (.node o l r) := by
  show Bool.rec (motive := fun _ => Option β) (Tr.set z d r (m / 2) x fun r => k (.node o l r)) (Tr.set z d l (m / 2) x fun l => k (.node o l r)) (Nat.beq (m % 2) 0) = _
  cases Nat.beq (m % 2) 0 <;> rfl
theorem Tr.half (m j : Nat) (h1 : (m % 2 = 0) = (j % 2 = 0)) (h2 : m / 2 = j / 2) : m = j := by
  have := Nat.div_add_mod m 2; have := Nat.div_add_mod j 2
  have := Nat.mod_lt m (show 0 < 2 by decide); have := Nat.mod_lt j (show 0 < 2 by decide)
  by_cases hm : m % 2 = 0 <;> simp [hm] at h1 <;> omega
/-- What a node's other side and the one that is set have. -/
theorem Tr.node_get {α : Type} {z o x : α} {l r l' r' : Tr α} {m : Nat} (h : match Nat.beq (m % 2) 0 with
    | true => r' = r ∧ ∀ j, l'.get z j = if j = m / 2 then x else l.get z j
    | false => l' = l ∧ ∀ j, r'.get z j = if j = m / 2 then x else r.get z j) (j : Nat) : Tr.get z (.node o l' r') j = if j = m + 1 then x else Tr.get z (.node o l r) j := by
  cases j with
  | zero => rw [Tr.get_zero, Tr.get_zero, if_neg (by omega)]
  | succ j =>
    rw [Tr.get_succ, Tr.get_succ]
    split at h
    · rename_i hb
      have hb := Nat.eq_of_beq_eq_true hb
      obtain ⟨rfl, h⟩ := h
      split
      · rename_i hj
        have hj := Nat.eq_of_beq_eq_true hj
        rw [h]
        by_cases e : j = m
        · subst e; simp
        · rw [if_neg (fun q => e (Tr.half _ _ (by simp [hb, hj]) q)), if_neg (by omega)]
      · rename_i hj
        have hj : j % 2 ≠ 0 := fun q => by simp [q] at hj
        rw [if_neg (by intro q; have : j = m := by omega
                       subst this; exact hj hb)]
    · rename_i hb
      have hb : m % 2 ≠ 0 := fun q => by simp [q] at hb
      obtain ⟨rfl, h⟩ := h
      split
      · rename_i hj
        have hj := Nat.eq_of_beq_eq_true hj
        rw [if_neg (by intro q; have : j = m := by omega
                       subst this; exact hb hj)]
      · rename_i hj
        have hj : j % 2 ≠ 0 := fun q => by simp [q] at hj
        rw [h]
        by_cases e : j = m
        · subst e; simp
        · rw [if_neg (fun q => e (Tr.half _ _ (by simp [hb, hj]) q)), if_neg (by omega)]
theorem Tr.get_leaf2 {α : Type} {z : α} {j : Nat} : Tr.get z (.node z .leaf .leaf) j = z := by
  cases j with
  | zero => rfl
  | succ j => rw [Tr.get_succ]; split <;> rfl
theorem Tr.mk_ok {α β : Type} {z x : α} : ∀ (d i : Nat) (k : Tr α → Option β) {y : β}, Tr.mk z d i x k = some y → ∃ t', k t' = some y ∧ ∀ j, t'.get z j = if j = i then x else z
  | 0, _, _, _, h => by simp [Tr.mk] at h
  | d + 1, i, k, y, h => by
    cases i with
    | zero =>
      refine ⟨_, h, fun j => ?_⟩
      cases j with
      | zero => rfl
      | succ j => rw [Tr.get_succ]; split <;> simp [Tr.get_leaf]
    | succ m =>
      simp only [Tr.mk] at h
      split at h
      · rename_i hb
        obtain ⟨t', h1, h2⟩ := Tr.mk_ok d _ _ h
        refine ⟨_, h1, fun j => ?_⟩
        rw [Tr.node_get (l := .leaf) (r := .leaf) (x := x) (m := m) (by rw [hb]; exact ⟨rfl, fun j => by rw [h2]; rfl⟩), Tr.get_leaf2]
      · rename_i hb
        obtain ⟨t', h1, h2⟩ := Tr.mk_ok d _ _ h
        refine ⟨_, h1, fun j => ?_⟩
        rw [Tr.node_get (l := .leaf) (r := .leaf) (x := x) (m := m) (by rw [hb]; exact ⟨rfl, fun j => by rw [h2]; rfl⟩), Tr.get_leaf2]
theorem Tr.set_ok {α β : Type} {z x : α} (d : Nat) : ∀ (t : Tr α) (i : Nat) (k : Tr α → Option β) {y : β}, Tr.set z d t i x k = some y → ∃ t', k t' = some y ∧ ∀ j, t'.get z j = if j = i then x else t.get z j := by
  intro t
  induction t with
  | leaf =>
    intro i k y h
    rw [Tr.set_leaf] at h
    exact Tr.mk_ok _ _ _ h
  | node o l r ihl ihr =>
    intro i k y h
    cases i with
    | zero =>
      rw [Tr.set_zero] at h
      refine ⟨_, h, fun j => ?_⟩
      cases j with
      | zero => rfl
      | succ j => rw [Tr.get_succ, Tr.get_succ, if_neg (by omega)]
    | succ m =>
      rw [Tr.set_succ] at h
      split at h
      · rename_i hb
        obtain ⟨t', h1, h2⟩ := ihl _ _ h
        exact ⟨_, h1, fun j => Tr.node_get (by rw [hb]; exact ⟨rfl, h2⟩) j⟩
      · rename_i hb
        obtain ⟨t', h1, h2⟩ := ihr _ _ h
        exact ⟨_, h1, fun j => Tr.node_get (by rw [hb]; exact ⟨rfl, h2⟩) j⟩

/- environments as trees -/
abbrev TrV := Tr Value
noncomputable def envL (l : TrV) : Env := l.get undef
noncomputable def lput {β : Type} (l : TrV) (d : Option Tmp) (v : Value) (k : TrV → Option β) : Option β := match d with
  | some i => Tr.set undef 64 l i v k
  | none => k l
theorem lput_ok {β : Type} {l : TrV} {d : Option Tmp} {v : Value} {k : TrV → Option β} {z : β} (h : lput l d v k = some z) : ∃ l', k l' = some z ∧ envL l' = putD (envL l) d v := by
  cases d with
  | none => exact ⟨l, h, rfl⟩
  | some i =>
    obtain ⟨l', h1, h2⟩ := Tr.set_ok 64 l i k h
    exact ⟨l', h1, funext fun j => h2 j⟩
/-- A list as a tree. -/
noncomputable def ofL {α β : Type} (z : α) : List α → Nat → Tr α → (Tr α → Option β) → Option β
  | [], _, t, k => k t
  | x :: xs, i, t, k => Tr.set z 64 t i x fun t => frcN (Nat.succ i) fun i => ofL z xs i t k
theorem ofL_ok {α β : Type} {z : α} : ∀ (xs : List α) (i : Nat) (t : Tr α) (k : Tr α → Option β) {y : β}, ofL z xs i t k = some y → ∃ t', k t' = some y ∧ ∀ j, t'.get z j = if i ≤ j ∧ j < i + xs.length then xs.getD (j - i) z else t.get z j
  | [], i, t, k, y, h => ⟨t, h, fun j => by rw [if_neg (by rintro ⟨h1, h2⟩; simp at h2; omega)]⟩
  | x :: xs, i, t, k, y, h => by
    simp only [ofL] at h
    obtain ⟨t1, h1, h2⟩ := Tr.set_ok _ _ _ _ h
    rw [frcN_eq] at h1
    obtain ⟨t2, h3, h4⟩ := ofL_ok xs _ _ _ h1
    refine ⟨t2, h3, fun j => ?_⟩
    rw [h4, h2]
    simp only [List.length_cons]
    by_cases hj : j = i
    · subst hj
      rw [if_neg (by omega), if_pos rfl, if_pos (by omega)]
      simp
    · by_cases hr : i + 1 ≤ j ∧ j < i + 1 + xs.length
      · rw [if_pos hr, if_pos (by omega)]
        have : j - i = (j - (i + 1)) + 1 := by omega
        rw [this]
        simp
      · rw [if_neg hr, if_neg hj, if_neg (by omega)]
theorem ofL_get {α β : Type} {z : α} {xs : List α} {k : Tr α → Option β} {y : β} (h : ofL z xs 0 .leaf k = some y) : ∃ t', k t' = some y ∧ ∀ j, t'.get z j = xs.getD j z := by
  obtain ⟨t', h1, h2⟩ := ofL_ok _ _ _ _ h
  refine ⟨t', h1, fun j => ?_⟩
  rw [h2]
  split
  · simp
  · rename_i hj
    rw [Tr.get_leaf]
    rw [List.getD_eq_getElem?_getD, List.getElem?_eq_none (by omega)]
    rfl

abbrev TrO := Tr (Option AObj)
noncomputable def hp (t : TrO) (n : Nat) : AHeap := ⟨t.get none, n⟩
def frcO {α : Type} (o : Option AObj) (k : Option AObj → α) : α := match o with
  | none => k none
  | some (.cells cs e true) => frcL cs fun cs => frcN e fun e => k (some (.cells cs e true))
  | some (.cells cs e false) => frcL cs fun cs => frcN e fun e => k (some (.cells cs e false))
  | some (.raw o) => k (some (.raw o))
theorem frcO_eq {α : Type} (o : Option AObj) (k : Option AObj → α) : frcO o k = k o := by
  unfold frcO
  split <;> simp [frcL_eq, frcN_eq]

/-- What an operation changes of a heap: the object c, and new ones. -/
def DL (H H' : AHeap) (c : Nat) : Prop := (∀ j, j ≠ c → j ≠ H.next → H'.get j = H.get j) ∧ (H'.next = H.next → ∀ j, j ≠ c → H'.get j = H.get j)
theorem DL.refl (H : AHeap) (c : Nat) : DL H H c := ⟨fun _ _ _ => rfl, fun _ _ _ => rfl⟩
theorem DL.add (H : AHeap) (o : AObj) (c : Nat) : DL H (H.add o) c := ⟨fun j _ h => by simp [AHeap.add, h], fun h => by simp [AHeap.add] at h⟩
theorem DL.put (H : AHeap) (c : Nat) (o : AObj) : DL H (H.put c o) c := ⟨fun j h _ => by simp [AHeap.put, h], fun _ j h => by simp [AHeap.put, h]⟩
theorem DL.dropAdd (H : AHeap) (c : Nat) (o : AObj) : DL H ((H.drop c).add o) c := ⟨fun j h h2 => by simp [AHeap.add, AHeap.drop, h, h2], fun h => by simp [AHeap.add, AHeap.drop] at h⟩
theorem setAt_DL {H H' : AHeap} {i o : Nat} {vs : List Value} (h : H.setAt i o vs = some H') : DL H H' i := by
  unfold AHeap.setAt at h
  split at h
  · split at h
    · cases h; exact DL.put _ _ _
    · cases h
  · cases h

def tchOf (o : Op) (t : Env) : Nat :=
  match o with
  | .store _ a _ => match ev t a with
    | .pointer (some ⟨i, _, _⟩) => i
    | _ => 0
  | .call c => match c.args.toList.map (ev t) with
    | .slice (some ⟨i, _, _⟩) _ _ :: _ => i
    | _ => 0
  | _ => 0
def tchS (xs : List Value) : Nat := match xs with
  | .slice (some ⟨i, _, _⟩) _ _ :: _ => i
  | _ => 0
theorem append_DL {H H' : AHeap} {e : TypeId} {s : Value} {k : Nat} {new : List Value} {v : Value} {xs : List Value} (h : aappend P H e s k new = some (v, H')) : DL H H' (tchS (s :: xs)) := by
  unfold aappend at h
  split at h
  · dsimp only at h
    split at h
    · split at h
      · split at h
        · cases h; exact DL.refl _ _
        · split at h
          · cases h; exact DL.add _ _ _
          · cases h
      · rename_i i o n c
        split at h
        · split at h
          · cases h; exact DL.refl _ _
          · simp only [Option.map_eq_some_iff] at h
            obtain ⟨H2, h1, h2⟩ := h
            cases h2
            exact setAt_DL h1
        · split at h
          · split at h
            · split at h
              · split at h
                · split at h
                  · cases h; exact DL.dropAdd _ _ _
                  · cases h
                · cases h; exact DL.add _ _ _
              · cases h
            · cases h
          · cases h
      · cases h
    · cases h
  · cases h
theorem copy_DL {H H' : AHeap} {e : TypeId} {d s : Value} {v : Value} {xs : List Value} (h : acopy P H e d s = some (v, H')) : DL H H' (tchS (d :: xs)) := by
  unfold acopy at h
  split at h
  · split at h
    · split at h
      · cases h; exact DL.refl _ _
      · rename_i i o _
        split at h
        · cases h; exact DL.refl _ _
        · simp only [Option.map_eq_some_iff] at h
          obtain ⟨H2, h1, h2⟩ := h
          cases h2
          exact setAt_DL h1
      · cases h
    · cases h
  · cases h
theorem builtin_DL {b : Builtin} {ts : Array TypeId} {xs : List Value} {H H' : AHeap} {v : Value} (h : abuiltin P b ts xs H = some (v, H')) : DL H H' (tchS xs) := by
  unfold abuiltin at h
  split at h
  · simp only [Option.map_eq_some_iff] at h; obtain ⟨_, _, h2⟩ := h; cases h2; exact DL.refl _ _
  · simp only [Option.map_eq_some_iff] at h; obtain ⟨_, _, h2⟩ := h; cases h2; exact DL.refl _ _
  · simp only [Option.map_eq_some_iff] at h; obtain ⟨_, _, h2⟩ := h; cases h2; exact DL.refl _ _
  · simp only [Option.bind_eq_some_iff, Option.map_eq_some_iff] at h; obtain ⟨_, _, _, _, h2⟩ := h; cases h2; exact DL.refl _ _
  · simp only [Option.bind_eq_some_iff, Option.map_eq_some_iff] at h; obtain ⟨_, _, _, _, h2⟩ := h; cases h2; exact DL.refl _ _
  · split at h
    · split at h
      · simp only [Option.bind_eq_some_iff] at h
        obtain ⟨_, _, h2⟩ := h
        exact append_DL h2
      · cases h
    · split at h
      · exact append_DL h
      · cases h
    · cases h
  · split at h
    · exact copy_DL h
    · cases h
  · cases h
theorem aop_DL {o : Op} {t : Env} {H H' : AHeap} {v : Value} (h : aop P o t H = some (v, H')) : DL H H' (tchOf o t) := by
  by_cases hq : quietB o = true
  · rw [quiet_heap hq h]; exact DL.refl _ _
  · unfold aop at h
    split at h <;> first | (exact absurd rfl hq) | skip
    · split at h
      · split at h
        · cases h; exact DL.add _ _ _
        · cases h
      · cases h
    · split at h
      · cases h; exact DL.add _ _ _
      · cases h
    · unfold abuildSlice at h
      split at h
      · split at h
        · split at h
          · split at h
            · split at h
              · cases h; exact DL.add _ _ _
              · cases h
            · cases h
          · cases h
        · cases h
      · cases h
    · split at h
      · rename_i i o hp
        simp only [Option.map_eq_some_iff] at h
        obtain ⟨H2, h1, h2⟩ := h
        cases h2
        unfold AHeap.store at h1
        split at h1
        · have := setAt_DL h1
          simp only [tchOf, hp]
          exact this
        · cases h1
      · cases h
    · unfold amakeSlice at h
      split at h
      · split at h
        · split at h
          · cases h; exact DL.add _ _ _
          · cases h
        · cases h
      · cases h
    · split at h
      · exact builtin_DL h
      · cases h
    · cases h

theorem abig_DL {o : Op} {t : Env} {H H' : AHeap} {v : Value} (h : abig P o t H = some (v, H')) : DL H H' (tchOf o t) := by
  unfold abig at h
  split at h
  · unfold aconvH at h
    split at h
    · split at h
      · cases h; exact DL.add _ _ _
      · cases h
    · split at h
      · simp only [Option.map_eq_some_iff] at h; obtain ⟨_, _, h2⟩ := h; cases h2; exact DL.refl _ _
      · cases h
    · cases h
  · cases h
/-- The heap behind an operation, as a tree. -/
noncomputable def xheap {β : Type} (c : Nat) (t : TrO) (n : Nat) (H' : AHeap) (k : TrO → Nat → Option β) : Option β :=
  frcN H'.next fun n' => frcO (H'.get c) fun x => Tr.set none 64 t c x fun t1 => match Nat.beq n' n with
    | true => k t1 n
    | false => frcO (H'.get n) fun y => Tr.set none 64 t1 n y fun t2 => k t2 n'
theorem xheap_ok {β : Type} {c : Nat} {t : TrO} {n : Nat} {H' : AHeap} {k : TrO → Nat → Option β} {z : β} (hd : DL (hp t n) H' c) (h : xheap c t n H' k = some z) : ∃ t' n', k t' n' = some z ∧ hp t' n' = H' := by
  simp only [xheap, frcN_eq, frcO_eq] at h
  obtain ⟨t1, h1, h2⟩ := Tr.set_ok _ _ _ _ h
  split at h1
  · rename_i e
    have e := Nat.eq_of_beq_eq_true e
    refine ⟨t1, n, h1, ?_⟩
    have hg : t1.get none = H'.get := by
      funext j
      rw [h2]
      split
      · rename_i q; rw [q]
      · rename_i q; exact (hd.2 e j q).symm
    cases H' with
    | mk g m => simp only [hp] at *; rw [hg, e]
  · rename_i e
    obtain ⟨t2, h3, h4⟩ := Tr.set_ok _ _ _ _ h1
    refine ⟨t2, _, h3, ?_⟩
    have hg : t2.get none = H'.get := by
      funext j
      rw [h4, h2]
      split
      · rename_i q; rw [q]
      · rename_i q1
        split
        · rename_i q; rw [q]
        · rename_i q; exact (hd.1 j q q1).symm
    cases H' with
    | mk g m => simp only [hp] at *; rw [hg]

end Go.LH
