/-
  The logical heap: whether an order of evaluation may be taken, reckoned on numbers as sets.
-/
import Derived.Test.YtmjlmlipnejbfaaGreatDoorLH15
set_option linter.all false
namespace Go.LH

def maskOf (l : List Nat) : Nat := l.foldr (fun d m => Nat.lor (Nat.pow 2 d) m) 0
theorem maskOf_bit (l : List Nat) (j : Nat) : Nat.testBit (maskOf l) j = l.contains j := by
  induction l with
  | nil => simp [maskOf]
  | cons d l ih =>
    have : maskOf (d :: l) = 2 ^ d ||| maskOf l := rfl
    rw [this, Nat.testBit_or, ih, Nat.testBit_two_pow, List.contains_cons]
    congr 1
    by_cases h : d = j
    · subst h; simp
    · have h2 : ¬ j = d := fun e => h e.symm
      simp [h, h2]
theorem land_zero {a b : Nat} (h : Nat.beq (Nat.land a b) 0 = true) (d : Nat) (ha : Nat.testBit a d = true) : Nat.testBit b d = false := by
  have h := Nat.eq_of_beq_eq_true h
  have h2 : Nat.testBit (a &&& b) d = Nat.testBit 0 d := congrArg (fun x => Nat.testBit x d) h
  rw [Nat.testBit_and, ha, Nat.zero_testBit, Bool.true_and] at h2
  exact h2
theorem land_sub (p m : Nat) : Nat.beq (Nat.land p m) p = true ↔ ∀ j, Nat.testBit p j = true → Nat.testBit m j = true := by
  constructor
  · intro h j hj
    have h := Nat.eq_of_beq_eq_true h
    have h2 : Nat.testBit (p &&& m) j = Nat.testBit p j := congrArg (fun x => Nat.testBit x j) h
    rw [Nat.testBit_and, hj, Bool.true_and] at h2
    exact h2
  · intro h
    have : p &&& m = p := Nat.eq_of_testBit_eq fun j => by
      rw [Nat.testBit_and]
      cases hp : Nat.testBit p j with
      | false => rfl
      | true => rw [h j hp]; rfl
    show Nat.beq (p &&& m) p = true
    rw [this]
    exact Nat.beq_refl p

/-- Of an operation: on what it waits, at what it looks, what it writes. -/
abbrev Row := Nat × Nat × Nat
def rowOf (ops : Array Oper) (o : Oper) : Row :=
  (maskOf (o.after.toList.filterMap fun e => match Region.binds .any e with
    | true => some e.on
    | false => none), maskOf (o.looksAt ops), maskOf o.dst.toList)
def frcRow {α : Type} (r : Row) (k : Row → α) : α := match r with
  | (p, l, d) => frcN p fun p => frcN l fun l => frcN d fun d => k (p, l, d)
theorem frcRow_eq {α : Type} (r : Row) (k : Row → α) : frcRow r k = k r := by simp [frcRow, frcN_eq]
def frcRows {α : Type} (l : List Row) (k : List Row → α) : α := match l with
  | [] => k []
  | x :: l => frcRow x fun x => frcRows l fun l => k (x :: l)
theorem frcRows_eq {α : Type} : ∀ (l : List Row) (k : List Row → α), frcRows l k = k l
  | [], k => rfl
  | x :: l, k => by simp [frcRows, frcRow_eq, frcRows_eq l]
noncomputable def rowTr (ops : Array Oper) : Option (Tr Row) := frcRows (ops.toList.map (rowOf ops)) fun l => ofL (0, 0, 0) l 0 .leaf some
theorem rowTr_get {ops : Array Oper} {rt : Tr Row} (h : rowTr ops = some rt) {i : Nat} {o : Oper} (hi : ops[i]? = some o) : rt.get (0, 0, 0) i = rowOf ops o := by
  unfold rowTr at h
  rw [frcRows_eq] at h
  obtain ⟨t', h1, h2⟩ := ofL_get h
  cases h1
  rw [h2, List.getD_eq_getElem?_getD, List.getElem?_map, Array.getElem?_toList, hi]
  rfl

noncomputable def fReady (rt : Tr Row) (n m : Nat) : List Nat := (List.range n).filter fun i => match rt.get (0, 0, 0) i with
  | (p, _, _) => match Nat.testBit m i with
    | true => false
    | false => Nat.beq (Nat.land p m) p
noncomputable def fFree (rt : Tr Row) (n m i : Nat) : Bool := match rt.get (0, 0, 0) i with
  | (_, li, di) => (List.range n).all fun j => match Nat.testBit m j with
    | true => true
    | false => match Nat.beq j i with
      | true => true
      | false => match rt.get (0, 0, 0) j with
        | (pj, lj, dj) => match Nat.testBit pj i with
          | true => true
          | false => Nat.beq (Nat.land di lj) 0 && (Nat.beq (Nat.land di dj) 0 && Nat.beq (Nat.land dj li) 0)

/-- What is listed, as a number. -/
structure Lst (n : Nat) (listed : Array Bool) (m : Nat) : Prop where
  size : listed.size = n
  bit : ∀ i, i < n → ∀ d, listed.getD i d = Nat.testBit m i
  out : ∀ i, n ≤ i → Nat.testBit m i = false

theorem fReady_eq {ops : Array Oper} {rt : Tr Row} {listed : Array Bool} {m : Nat} (h : rowTr ops = some rt) (hl : Lst ops.size listed m) : Region.ready .any ops listed = fReady rt ops.size m := by
  unfold Region.ready fReady
  apply List.filter_congr
  intro i hi
  have hi := List.mem_range.1 hi
  rw [hl.bit i hi true, rowTr_get h (Array.getElem?_eq_getElem hi), Array.getElem?_eq_getElem hi]
  simp only [rowOf, Option.map_some, Option.getD_some]
  cases Nat.testBit m i with
  | true => rfl
  | false =>
    simp only [Bool.not_false, Bool.true_and]
    rw [Bool.eq_iff_iff, land_sub]
    simp only [Array.all_eq_true_iff_forall_mem, maskOf_bit, List.contains_iff_mem, List.mem_filterMap]
    constructor
    · rintro hall j ⟨e, he, hj⟩
      split at hj
      · rename_i hb
        cases hj
        have := hall e (by simpa using he)
        rw [hb] at this
        simp only [Bool.not_true, Bool.false_or] at this
        by_cases hlt : e.on < ops.size
        · rw [hl.bit _ hlt] at this; exact this
        · rw [Array.getD_eq_getD_getElem?, Array.getElem?_eq_none (by rw [hl.size]; omega)] at this
          simp at this
      · cases hj
    · intro hall e he
      cases hb : Region.binds .any e with
      | false => rfl
      | true =>
        have := hall e.on ⟨e, by simpa using he, by rw [hb]⟩
        simp only [Bool.not_true, Bool.false_or]
        by_cases hlt : e.on < ops.size
        · rw [hl.bit _ hlt]; exact this
        · rw [hl.out _ (by omega)] at this; cases this
theorem fFree_ok {ops : Array Oper} {rt : Tr Row} {listed : Array Bool} {m i : Nat} (h : rowTr ops = some rt) (hl : Lst ops.size listed m) (hi : i < ops.size) (hf : fFree rt ops.size m i = true) : Region.free .any ops listed i = true := by
  unfold fFree at hf
  unfold Region.free
  rw [Array.getElem?_eq_getElem hi]
  rw [rowTr_get h (Array.getElem?_eq_getElem hi)] at hf
  simp only [rowOf, List.all_eq_true, List.mem_range] at hf ⊢
  intro j hj
  have hf := hf j hj
  rw [hl.bit j hj true, Array.getElem?_eq_getElem hj]
  rw [rowTr_get h (Array.getElem?_eq_getElem hj)] at hf
  cases hm : Nat.testBit m j with
  | true => simp
  | false =>
    rw [hm] at hf
    by_cases hji : j = i
    · subst hji; simp
    · have hb : Nat.beq j i = false := by
        cases hx : Nat.beq j i with
        | true => exact absurd (Nat.eq_of_beq_eq_true hx) hji
        | false => rfl
      rw [hb] at hf
      simp only [rowOf, maskOf_bit] at hf
      simp only [Bool.or_false, Bool.or_eq_true]
      right
      split at hf
      · rename_i hc
        left
        simp only [List.contains_iff_mem, List.mem_filterMap] at hc
        obtain ⟨e, he, hx⟩ := hc
        split at hx
        · rename_i hbind
          cases hx
          rw [Array.any_eq_true']
          exact ⟨e, by simpa using he, by simp [hbind]⟩
        · cases hx
      · right
        simp only [Bool.and_eq_true] at hf
        obtain ⟨h1, h2, h3⟩ := hf
        unfold Oper.apart
        simp only [Bool.and_eq_true]
        constructor
        · cases hd : ops[i].dst with
          | none => rfl
          | some d =>
            have hbit : Nat.testBit (maskOf ops[i].dst.toList) d = true := by rw [maskOf_bit, hd]; simp
            have a1 := land_zero h1 d hbit
            have a2 := land_zero h2 d hbit
            rw [maskOf_bit] at a1 a2
            simp only [a1, Bool.not_false, Bool.true_and, bne_iff_ne, ne_eq]
            intro e
            rw [e] at a2
            simp at a2
        · cases hd : ops[j].dst with
          | none => rfl
          | some d =>
            have hbit : Nat.testBit (maskOf ops[j].dst.toList) d = true := by rw [maskOf_bit, hd]; simp
            have a1 := land_zero h3 d hbit
            rw [maskOf_bit] at a1
            simp only [a1, Bool.not_false]
theorem Lst.set {n : Nat} {listed : Array Bool} {m i : Nat} (h : Lst n listed m) (hi : i < n) : Lst n (listed.setIfInBounds i true) (Nat.lor (Nat.pow 2 i) m) := by
  refine ⟨by simp [h.size], fun j hj d => ?_, fun j hj => ?_⟩
  · show _ = Nat.testBit (2 ^ i ||| m) j
    rw [Nat.testBit_or, Nat.testBit_two_pow, ← h.bit j hj d]
    rw [Array.getD_eq_getD_getElem?, Array.getD_eq_getD_getElem?, Array.getElem?_setIfInBounds]
    by_cases e : i = j
    · subst e; simp [h.size, hi]
    · rw [if_neg e]; simp [e]
  · show Nat.testBit (2 ^ i ||| m) j = false
    rw [Nat.testBit_or, Nat.testBit_two_pow, h.out j hj]
    simp; omega
theorem Lst.init (n : Nat) : Lst n (Array.replicate n false) 0 := by
  refine ⟨by simp, fun j hj d => ?_, fun j _ => Nat.zero_testBit j⟩
  rw [Array.getD_eq_getD_getElem?, Array.getElem?_replicate, if_pos hj, Nat.zero_testBit]
  rfl

noncomputable def fChk (rt : Tr Row) (reads : Nat → Bool) (n : Nat) (ord : List (Nat × Option (List Nat))) : Nat → List Nat → Bool :=
  List.rec (motive := fun _ => Nat → List Nat → Bool) (fun m _ => match fReady rt n m with
    | [] => true
    | _ => false) (fun e _ ih m rd => match e.2 with
    | none => match fFree rt n m e.1 && (fReady rt n m).contains e.1 with
      | true => frcN (Nat.lor (Nat.pow 2 e.1) m) fun m => ih m (match reads e.1 with
        | true => e.1 :: rd
        | false => rd)
      | false => false
    | some cs => match fReady rt n m == [e.1] && rd.all (fun p => (match rt.get (0, 0, 0) e.1 with
        | (q, _, _) => Nat.testBit q p) || cs.contains p) with
      | true => frcN (Nat.lor (Nat.pow 2 e.1) m) fun m => ih m rd
      | false => false) ord
theorem mem_fReady {rt : Tr Row} {n m i : Nat} (h : i ∈ fReady rt n m) : i < n := List.mem_range.1 (List.mem_filter.1 h).1
theorem fChk_ok {ops : Array Oper} {rt : Tr Row} {reads : Nat → Bool} (h : rowTr ops = some rt) (hr : ∀ i, reads i = readsAt ops i) :
    ∀ (ord : List (Nat × Option (List Nat))) (listed : Array Bool) (m : Nat) (rd : List Nat), Lst ops.size listed m → fChk rt reads ops.size ord m rd = true → drawChk ops ord listed rd = true
  | [], listed, m, rd, hl, hc => by
    simp only [drawChk, fReady_eq h hl]
    simp only [fChk] at hc
    split at hc
    · rename_i e; rw [e]; rfl
    · cases hc
  | (i, none) :: rest, listed, m, rd, hl, hc => by
    simp only [drawChk, fReady_eq h hl]
    have hc : (match fFree rt ops.size m i && (fReady rt ops.size m).contains i with
      | true => frcN (Nat.lor (Nat.pow 2 i) m) fun m => fChk rt reads ops.size rest m (match reads i with
        | true => i :: rd
        | false => rd)
      | false => false) = true := hc
    split at hc
    · rename_i e
      simp only [Bool.and_eq_true] at e
      have hi : i < ops.size := mem_fReady (by simpa using e.2)
      rw [frcN_eq] at hc
      rw [fFree_ok h hl hi e.1, e.2]
      simp only [Bool.true_and]
      have := fChk_ok h hr rest _ _ _ (hl.set hi) hc
      rw [hr] at this
      cases hx : readsAt ops i with
      | true => rw [hx] at this; simpa using this
      | false => rw [hx] at this; simpa using this
    · cases hc
  | (i, some cs) :: rest, listed, m, rd, hl, hc => by
    simp only [drawChk, fReady_eq h hl]
    have hc : (match fReady rt ops.size m == [i] && rd.all (fun p => (match rt.get (0, 0, 0) i with
        | (q, _, _) => Nat.testBit q p) || cs.contains p) with
      | true => frcN (Nat.lor (Nat.pow 2 i) m) fun m => fChk rt reads ops.size rest m rd
      | false => false) = true := hc
    split at hc
    · rename_i e
      simp only [Bool.and_eq_true] at e
      have hi : i < ops.size := mem_fReady (rt := rt) (m := m) (by
        have := e.1
        rw [beq_iff_eq] at this
        rw [this]; simp)
      rw [frcN_eq] at hc
      rw [e.1, fChk_ok h hr rest _ _ _ (hl.set hi) hc]
      simp only [Bool.true_and, Bool.and_true]
      rw [List.all_eq_true]
      intro p hp
      have := List.all_eq_true.1 e.2 p hp
      rw [rowTr_get h (Array.getElem?_eq_getElem hi)] at this
      simp only [rowOf, maskOf_bit, Bool.or_eq_true] at this ⊢
      rcases this with hc1 | hc1
      · left
        unfold waitsB
        rw [Array.getElem?_eq_getElem hi]
        simp only [List.contains_iff_mem, List.mem_filterMap] at hc1
        obtain ⟨e, he, hx⟩ := hc1
        split at hx
        · rename_i hbind
          cases hx
          simp only []
          rw [Array.any_eq_true']
          exact ⟨e, by simpa using he, by simp [hbind]⟩
        · cases hx
      · right; exact hc1
    · cases hc
end Go.LH
