/-
  The logical heap: slices as values, lists as their cells; appending.
-/
import Derived.Test.YtmjlmlipnejbfaaGreatDoorLH21
set_option linter.all false
namespace Go.LH
variable {P : Program} {C : Calling} {H : AHeap} {t : Env}

/- lists as cells -/
def nth {α : Type} [Inhabited α] (xs : List α) (k : Nat) : α := xs[k]?.getD default
theorem nth_eq {α : Type} [Inhabited α] {xs : List α} {k : Nat} (h : k < xs.length) : nth xs k = xs[k] := by simp [nth, h]
theorem nth_get {α : Type} [Inhabited α] {xs : List α} {k : Nat} (h : k < xs.length) : xs[k]? = some (nth xs k) := by simp [nth, h]
theorem nth_mem {α : Type} [Inhabited α] {xs : List α} {k : Nat} (h : k < xs.length) : nth xs k ∈ xs := by rw [nth_eq h]; exact List.getElem_mem h
theorem nth_cons_zero {α : Type} [Inhabited α] {x : α} {xs : List α} : nth (x :: xs) 0 = x := rfl
theorem nth_cons_succ {α : Type} [Inhabited α] {x : α} {xs : List α} {k : Nat} : nth (x :: xs) (k + 1) = nth xs k := by simp [nth]
theorem nth_append_left {α : Type} [Inhabited α] {xs ys : List α} {k : Nat} (h : k < xs.length) : nth (xs ++ ys) k = nth xs k := by simp [nth, List.getElem?_append_left h]
theorem nth_snoc {α : Type} [Inhabited α] {xs : List α} {y : α} : nth (xs ++ [y]) xs.length = y := by simp [nth]
theorem nth_set {α : Type} [Inhabited α] {xs : List α} {k j : Nat} {y : α} (h : k < xs.length) : nth (xs.set k y) j = if j = k then y else nth xs j := by
  unfold nth
  rw [List.getElem?_set]
  by_cases e : j = k
  · subst e; simp [h]
  · rw [if_neg (fun q => e q.symm), if_neg e]
theorem nth_map {α β : Type} [Inhabited α] [Inhabited β] {f : α → β} {xs : List α} {k : Nat} (h : k < xs.length) : nth (xs.map f) k = f (nth xs k) := by simp [nth, h]
theorem take_succ_nth {α : Type} [Inhabited α] {xs : List α} {k : Nat} (h : k < xs.length) : xs.take (k + 1) = xs.take k ++ [nth xs k] := by
  rw [List.take_succ_eq_append_getElem h, nth_eq h]
theorem drop_nth {α : Type} [Inhabited α] {xs : List α} {k : Nat} (h : k < xs.length) : xs.drop k = nth xs k :: xs.drop (k + 1) := by
  rw [List.drop_eq_getElem_cons h, nth_eq h]

section
variable {α : Type} [Inhabited α] {f : α → List Value} {z : Nat}
theorem flat_length (hz : ∀ x, (f x).length = z) : ∀ xs : List α, (xs.flatMap f).length = xs.length * z
  | [] => by simp
  | x :: xs => by rw [List.flatMap_cons, List.length_append, hz, flat_length hz xs, List.length_cons, Nat.succ_mul]; omega
theorem drop_flat (hz : ∀ x, (f x).length = z) (r : List Value) : ∀ (xs : List α) (k : Nat), k ≤ xs.length → (xs.flatMap f ++ r).drop (k * z) = (xs.drop k).flatMap f ++ r
  | xs, 0, _ => by simp
  | [], k + 1, h => by simp at h
  | x :: xs, k + 1, h => by
    have h1 : (x :: xs).flatMap f ++ r = f x ++ (xs.flatMap f ++ r) := by simp
    have h2 : (k + 1) * z = (f x).length + k * z := by rw [hz, Nat.succ_mul]; omega
    rw [h1, h2, ← List.drop_drop, List.drop_left, drop_flat hz r xs k (by simpa using h)]
    simp
theorem flat_at (hz : ∀ x, (f x).length = z) {r : List Value} {xs : List α} {k : Nat} (h : k < xs.length) : (xs.flatMap f ++ r).drop (k * z) = f (nth xs k) ++ ((xs.drop (k + 1)).flatMap f ++ r) := by
  rw [drop_flat hz r xs k (by omega), drop_nth h]; simp
theorem flat_cell (hz : ∀ x, (f x).length = z) {r : List Value} {xs : List α} {k j : Nat} (h : k < xs.length) (hj : j < z) : (xs.flatMap f ++ r)[k * z + j]? = (f (nth xs k))[j]? := by
  rw [← List.getElem?_drop, flat_at hz h, List.getElem?_append_left (by rw [hz]; exact hj)]
theorem flat_take (hz : ∀ x, (f x).length = z) {r : List Value} {xs : List α} {k : Nat} (h : k < xs.length) : takeE (xs.flatMap f ++ r) (k * z) z = some (f (nth xs k)) := by
  have hl : k * z + z ≤ (xs.flatMap f ++ r).length := by
    rw [List.length_append, flat_length hz]
    have : (k + 1) * z ≤ xs.length * z := Nat.mul_le_mul_right z h
    rw [Nat.succ_mul] at this
    omega
  rw [takeE_eq _ _ _ hl, flat_at hz h, List.take_append_of_le_length (by rw [hz]; exact Nat.le_refl _), List.take_of_length_le (by rw [hz]; exact Nat.le_refl _)]
theorem agg_flat (hz : ∀ x, (f x).length = z) {r : List Value} {xs : List α} {k e : Nat} {b : Bool} (h : k < xs.length) : aggE (some (.cells (xs.flatMap f ++ r) e b)) (k * z) z = some (.agg (f (nth xs k)).toArray) := by
  rw [aggE_cells, flat_take hz h]; rfl
theorem cell_flat (hz : ∀ x, (f x).length = z) {r : List Value} {xs : List α} {k j e : Nat} {b : Bool} (h : k < xs.length) (hj : j < z) : cellE (some (.cells (xs.flatMap f ++ r) e b)) (k * z + j) = (f (nth xs k))[j]? := by
  rw [cellE_cells, flat_cell hz h hj]
theorem cell_flat0 (hz : ∀ x, (f x).length = z) {r : List Value} {xs : List α} {k e : Nat} {b : Bool} (h : k < xs.length) (hj : 0 < z) : cellE (some (.cells (xs.flatMap f ++ r) e b)) (k * z) = (f (nth xs k))[0]? :=
  cell_flat (j := 0) hz h hj
theorem splice_flat (hz : ∀ x, (f x).length = z) {r : List Value} {xs : List α} {k : Nat} {y : α} (h : k < xs.length) : spliceE (xs.flatMap f ++ r) (k * z) (f y) = some ((xs.set k y).flatMap f ++ r) := by
  have hl : k * z + z ≤ (xs.flatMap f ++ r).length := by
    rw [List.length_append, flat_length hz]
    have : (k + 1) * z ≤ xs.length * z := Nat.mul_le_mul_right z h
    rw [Nat.succ_mul] at this
    omega
  rw [spliceE_eq _ _ _ (by rw [hz]; exact hl)]
  unfold splice
  congr 1
  have e1 : (xs.flatMap f ++ r).take (k * z) = (xs.take k).flatMap f := by
    conv => lhs; rw [← List.take_append_drop k xs]
    rw [List.flatMap_append, List.append_assoc, List.take_append_of_le_length (by rw [flat_length hz, List.length_take]; rw [Nat.min_eq_left (by omega)]; exact Nat.le_refl _), List.take_of_length_le (by rw [flat_length hz, List.length_take, Nat.min_eq_left (by omega)]; exact Nat.le_refl _)]
  have e2 : (xs.flatMap f ++ r).drop (k * z + (f y).length) = (xs.drop (k + 1)).flatMap f ++ r := by
    rw [← List.drop_drop, flat_at hz h]
    rw [hz, ← hz (nth xs k), List.drop_left]
  rw [e1, e2, List.set_eq_take_append_cons_drop, if_pos h]
  simp
end

/- slices as values -/
/-- A slice that came in: nil or not. -/
def slV (b : Bool) (i n c : Nat) : Value :=
  match b with
  | true => .slice (some ⟨i, 0, none⟩) n c
  | false => .slice none 0 0
/-- A slice that append made: nil if it is empty. -/
def apS (i n : Nat) : Value := slV (decide (0 < n)) i n n
theorem apS_zero {i : Nat} : apS i 0 = .slice none 0 0 := rfl
theorem apS_pos {i n : Nat} (h : 0 < n) : apS i n = .slice (some ⟨i, 0, none⟩) n n := by unfold apS; simp [h, slV]
theorem cells_slV {b : Bool} {i n c : Nat} : (slV b i n c).cells.toList = [slV b i n c] := by cases b <;> rfl
theorem one_slV {b : Bool} {i n c : Nat} : oneCell (slV b i n c) = true := by cases b <;> rfl
theorem cells_apS {i n : Nat} : (apS i n).cells.toList = [apS i n] := cells_slV
theorem one_apS {i n : Nat} : oneCell (apS i n) = true := one_slV
theorem len_slV {b : Bool} {i n c : Nat} {e : TypeId} (h : b = true ∨ n = 0) : alenV P (some (.slice e)) (slV b i n c) = some (.int .i64 n) := by
  cases b with
  | true => rfl
  | false => simp at h; subst h; rfl
theorem len_slice {a : Option Addr} {n c : Nat} {e : TypeId} : alenV P (some (.slice e)) (.slice a n c) = some (.int .i64 n) := rfl
theorem len_string {s : ByteArray} : alenV P (some .string) (.string s) = some (.int .i64 s.size) := rfl
theorem len_apS {i n : Nat} {e : TypeId} : alenV P (some (.slice e)) (apS i n) = some (.int .i64 n) := by
  unfold apS
  by_cases h : 0 < n
  · exact len_slV (.inl (by simpa using h))
  · exact len_slV (.inr (by omega))
theorem ia_slice {t e : TypeId} {z i n c : Nat} {o : Nat} {k : IntKind} {x : Int} (hu : P.underlying t = some (.slice e)) (hs : tsz P e = some z) (h0 : 0 ≤ x) (h1 : x < n) :
    aindexAddr P t (.slice (some ⟨i, o, none⟩) n c) (.int k x) = some (.pointer (some ⟨i, o + x.toNat * z, none⟩)) := by
  unfold aindexAddr
  simp only [hu, hs]
  rw [if_pos ⟨h0, h1⟩]
theorem ia_slV {t e : TypeId} {z i n c : Nat} {b : Bool} {k : IntKind} {x : Int} (hu : P.underlying t = some (.slice e)) (hs : tsz P e = some z) (hb : b = true ∨ n = 0) (h0 : 0 ≤ x) (h1 : x < n) :
    aindexAddr P t (slV b i n c) (.int k x) = some (.pointer (some ⟨i, x.toNat * z, none⟩)) := by
  have : b = true := by
    rcases hb with h | h
    · exact h
    · subst h; omega
  subst this
  rw [slV, ia_slice hu hs h0 h1]
  simp
theorem ia_apS {t e : TypeId} {z i n : Nat} {k : IntKind} {x : Int} (hu : P.underlying t = some (.slice e)) (hs : tsz P e = some z) (h0 : 0 ≤ x) (h1 : x < n) :
    aindexAddr P t (apS i n) (.int k x) = some (.pointer (some ⟨i, x.toNat * z, none⟩)) :=
  ia_slV hu hs (.inl (by simp; omega)) h0 h1

/-- Dropped, if there is anything. -/
def AHeap.dropS (H : AHeap) (i n : Nat) : AHeap := if 0 < n then H.drop i else H
theorem next_dropS {i n : Nat} : (H.dropS i n).next = H.next := by unfold AHeap.dropS; split <;> rfl
theorem gx_dropS {i n j : Nat} : (H.dropS i n).get j = if j = i ∧ 0 < n then none else H.get j := by
  unfold AHeap.dropS
  by_cases h : 0 < n
  · simp [h, AHeap.drop]
  · simp [h]
theorem get_dropS_ne {i n j : Nat} (h : j ≠ i) : (H.dropS i n).get j = H.get j := by rw [gx_dropS, if_neg (fun q => h q.1)]

/-- Put, if there is anything. -/
def AHeap.putS (H : AHeap) (i n : Nat) (o : AObj) : AHeap := if 0 < n then H.put i o else H
theorem next_putS {i n : Nat} {o : AObj} : (H.putS i n o).next = H.next := by unfold AHeap.putS; split <;> rfl
theorem gx_putS {i n j : Nat} {o : AObj} : (H.putS i n o).get j = if j = i ∧ 0 < n then some o else H.get j := by
  unfold AHeap.putS
  by_cases h : 0 < n
  · simp [h, AHeap.put]
  · simp [h]
theorem get_putS_eq {i n j : Nat} {o : AObj} (h : j = i) (h2 : 0 < n) : (H.putS i n o).get j = some o := by rw [gx_putS, if_pos ⟨h, h2⟩]
theorem get_putS_ne {i n j : Nat} {o : AObj} (h : j ≠ i) : (H.putS i n o).get j = H.get j := by rw [gx_putS, if_neg (fun q => h q.1)]
/-- One slice behind another one that append made. -/
theorem append_apS {ts : Array TypeId} {e t1 : TypeId} {z bytes i j n k c : Nat} {w : Bool} {cs new zero : List Value} (hn : 0 < z) (h1 : ts[0]?.bind (telem P) = some e) (h2 : ts[1]?.bind P.underlying = some (.slice t1)) (h3 : tsz P e = some z)
    (h4 : tby P e = some bytes) (h5 : tzero P e = some zero) (h6 : zero.length = z) (hk : 0 < k)
    (hobj : 0 < n → H.get i = some (.cells cs z true)) (hcs : cs.length = n * z) (hx : H.get j = some (.cells new z w)) (hnew : new.length = k * z) (hone : new.all oneCell = true)
    (hb1 : (n + k) * bytes ≤ 140737488355328) (hb2 : n + k ≤ 140737488355328) :
    abuiltin P .append ts [apS i n, .slice (some ⟨j, 0, none⟩) k c] H = some (apS H.next (n + k), (H.dropS i n).add (.cells (cs ++ new) z true)) := by
  obtain ⟨z0, rfl⟩ : ∃ z0, z = z0 + 1 := ⟨z - 1, by omega⟩
  have hc : H.cellsAt j 0 (k * (z0 + 1)) = some new := by
    unfold AHeap.cellsAt
    rw [hx]
    simp only []
    rw [if_pos (by omega), List.drop_zero, ← hnew, List.take_length]
  have ha : aappend P H e (apS i n) k new = some (apS H.next (n + k), (H.dropS i n).add (.cells (cs ++ new) (z0 + 1) true)) := by
    unfold aappend
    simp only [h3, h4, h5]
    rw [if_pos ⟨hnew, hone, h6⟩]
    by_cases h0 : 0 < n
    · rw [apS_pos h0, apS_pos (show 0 < n + k by omega)]
      simp only []
      rw [if_neg (by omega), if_pos ⟨hb1, hb2⟩, hobj h0]
      simp only []
      rw [if_pos ⟨trivial, by omega⟩, if_pos (by omega)]
      simp only [if_true]
      unfold AHeap.dropS
      rw [if_pos h0, List.drop_zero, List.take_of_length_le (by omega)]
    · obtain rfl : n = 0 := by omega
      rw [apS_zero, apS_pos (show 0 < 0 + k by omega)]
      simp only []
      obtain rfl : cs = [] := by simpa using hcs
      rw [if_neg (by omega), if_pos ⟨by simpa using hb1, by omega⟩]
      simp [AHeap.dropS]
  unfold abuiltin
  simp only [h1, h2, alen, h3, afirst]
  rw [hc]
  simp only [Option.bind_some]
  exact ha
/-- A slice of one thing. -/
theorem build_one {e ty : TypeId} {z : Nat} {zero : List Value} {v : Value} (h1 : telem P ty = some e) (h2 : tsz P e = some (z + 1)) (h3 : tzero P e = some zero) (h4 : zero.length = z + 1) (h5 : z + 1 ≤ 16777216) :
    abuildSlice P H ty 1 [(0, v)] = guardO (v.cells.toList.length == z + 1) (guardO (v.cells.toList.all oneCell) (some (.slice (some ⟨H.next, 0, none⟩) 1 1, H.add (.cells v.cells.toList (z + 1) true)))) := by
  unfold abuildSlice
  simp only [h1, h2, h3]
  rw [if_pos ⟨h4, by omega⟩]
  simp only [azeros, List.append_nil, afill, Nat.zero_mul, Nat.zero_add]
  by_cases hv : v.cells.toList.length = z + 1
  · rw [if_pos ⟨hv, by omega⟩]
    have hsp : splice zero 0 v.cells.toList = v.cells.toList := by
      unfold splice
      rw [List.take_zero, Nat.zero_add, List.drop_of_length_le (by omega)]
      simp
    simp only [hsp, hv, beq_self_eq_true, guardO_tt]
    by_cases ho : v.cells.toList.all oneCell = true
    · have : oneCells v.cells.toList = true := ho
      rw [if_pos this, ho]; rfl
    · have : ¬ oneCells v.cells.toList = true := ho
      rw [if_neg this]
      have : v.cells.toList.all oneCell = false := by simpa using ho
      rw [this]; rfl
  · rw [if_neg (fun q => hv q.1)]
    have : (v.cells.toList.length == z + 1) = false := beq_eq_false_iff_ne.2 hv
    rw [this]; rfl

theorem make_eq {t e : TypeId} {z bytes : Nat} {zero : List Value} {l c : Int} (h1 : telem P t = some e) (h2 : tsz P e = some (z + 1)) (h3 : tby P e = some bytes) (h4 : tzero P e = some zero) (h5 : zero.length = z + 1) (h6 : oneCells zero = true)
    (q1 : 0 ≤ l) (q2 : l ≤ c) (q3 : c ≤ 140737488355328) (q4 : c * (bytes : Int) ≤ 140737488355328) :
    amakeSlice P H t (.int .i64 l) (.int .i64 c) = some (.slice (some ⟨H.next, 0, none⟩) l.toNat c.toNat, H.add (.cells (azeros zero c.toNat) (z + 1) true)) := by
  unfold amakeSlice
  simp only [h1, h2, h3, h4]
  rw [if_pos ⟨q1, q2, q3, q4, h5, h6⟩]
theorem azeros_one {v : Value} : ∀ n, azeros [v] n = List.replicate n v
  | 0 => rfl
  | n + 1 => by rw [azeros, azeros_one n]; rfl
/-- Steps that are taken by hand. -/
theorem stepVH_go {ops rest : List Oper} {r : Option (Value × AHeap)} {d : Option Tmp} {v : Value} {H' : AHeap} {K : Env → AHeap → Prop} (h : r = some (v, H')) (k : wpOps P C ops rest (putD t d v) H' K) : stepVH P C ops r d rest t K := by
  rw [h]; exact k
theorem stepV_go {ops rest : List Oper} {r : Option Value} {d : Option Tmp} {v : Value} {K : Env → AHeap → Prop} (h : r = some v) (k : wpOps P C ops rest (putD t d v) H K) : stepV P C ops r d rest t H K := by
  rw [h]; exact k

theorem drawVH_go {ops : List Oper} {r : Option (Value × AHeap)} {cs : List Nat} {d : Option Tmp} {ord : List (Nat × Option (List Nat))} {pl : List Pledge} {v : Value} {H' : AHeap} {K : Env → AHeap → Prop} (h : r = some (v, H')) (k1 : owedL P cs H' pl) (k : wpDraw P C ops ord (putD t d v) H' pl K) : drawVH P C ops r cs d ord t pl K := by
  rw [h]; exact ⟨k1, k⟩
/-- All that one heap has, another one has. -/
def AHeap.Sub (A B : AHeap) : Prop := ∀ j o, A.get j = some o → B.get j = some o
theorem Sub.refl (A : AHeap) : A.Sub A := fun _ _ h => h
theorem le_bump {A B : AHeap} {n : Nat} (h1 : B.next ≤ n) (h2 : A.Sub B) : (A.bump n).Le B := ⟨h1, h2⟩
theorem le_sub {A B : AHeap} (h1 : B.next ≤ A.next) (h2 : A.Sub B) : A.Le B := ⟨h1, h2⟩
theorem sub_put {A B : AHeap} {i : Nat} {o : AObj} (h : B.get i = some o) (k : A.Sub B) : (A.put i o).Sub B := by
  intro j q hq
  rw [gx_put] at hq
  split at hq
  · rename_i e; cases hq; rw [e]; exact h
  · exact k _ _ hq
theorem sub_putS {A B : AHeap} {i n : Nat} {o : AObj} (h : 0 < n → B.get i = some o) (k : A.Sub B) : (A.putS i n o).Sub B := by
  intro j q hq
  rw [gx_putS] at hq
  split at hq
  · rename_i e; cases hq; rw [e.1]; exact h e.2
  · exact k _ _ hq
theorem sub_bumpA {A B : AHeap} {n : Nat} (k : A.Sub B) : (A.bump n).Sub B := k
theorem sub_bump {A B : AHeap} {n : Nat} (k : A.Sub B) : A.Sub (B.bump n) := k
theorem sub_add {A B : AHeap} {o : AObj} (hw : A.Wf) (h : A.next ≤ B.next) (k : A.Sub B) : A.Sub (B.add o) := by
  intro j q hq
  have := hw j q hq
  rw [gx_add, if_neg (by omega)]; exact k _ _ hq
theorem sub_bput {A B : AHeap} {i : Nat} {o : AObj} (hw : A.Wf) (h : A.next ≤ i) (k : A.Sub B) : A.Sub (B.put i o) := by
  intro j q hq
  have := hw j q hq
  rw [gx_put, if_neg (by omega)]; exact k _ _ hq
theorem sub_bputS {A B : AHeap} {i n : Nat} {o : AObj} (hw : A.Wf) (h : A.next ≤ i) (k : A.Sub B) : A.Sub (B.putS i n o) := by
  intro j q hq
  have := hw j q hq
  rw [gx_putS, if_neg (by omega)]; exact k _ _ hq
theorem sub_drop {A B : AHeap} {i : Nat} (hw : A.Wf) (h : A.next ≤ i) (k : A.Sub B) : A.Sub (B.drop i) := by
  intro j q hq
  have := hw j q hq
  rw [gx_drop, if_neg (by omega)]; exact k _ _ hq
theorem sub_dropS {A B : AHeap} {i n : Nat} (hw : A.Wf) (h : A.next ≤ i) (k : A.Sub B) : A.Sub (B.dropS i n) := by
  intro j q hq
  have := hw j q hq
  rw [gx_dropS, if_neg (by omega)]; exact k _ _ hq
/-- The same, but for some objects. -/
def SubX (S : List Nat) (A B : AHeap) : Prop := ∀ j o, j ∉ S → A.get j = some o → B.get j = some o
theorem SubX.refl (S : List Nat) (A : AHeap) : SubX S A A := fun _ _ _ h => h
theorem SubX.of {S : List Nat} {A B : AHeap} (h : A.Sub B) : SubX S A B := fun j o _ q => h j o q
theorem lex_bump {A B : AHeap} {n : Nat} (h1 : B.next ≤ n) (h2 : SubX [] A B) : (A.bump n).Le B := ⟨h1, fun j o h => h2 j o (by simp) h⟩
theorem lex_sub {A B : AHeap} (h1 : B.next ≤ A.next) (h2 : SubX [] A B) : A.Le B := ⟨h1, fun j o h => h2 j o (by simp) h⟩
theorem subx_put {S : List Nat} {A B : AHeap} {i : Nat} {o : AObj} (h : B.get i = some o) (k : SubX (i :: S) A B) : SubX S (A.put i o) B := by
  intro j q hj hq
  rw [gx_put] at hq
  split at hq
  · rename_i e; cases hq; rw [e]; exact h
  · rename_i e; exact k _ _ (by simp [e, hj]) hq
theorem subx_putS {S : List Nat} {A B : AHeap} {i n : Nat} {o : AObj} (h : 0 < n → B.get i = some o) (k : SubX S A B) : SubX S (A.putS i n o) B := by
  intro j q hj hq
  rw [gx_putS] at hq
  split at hq
  · rename_i e; cases hq; rw [e.1]; exact h e.2
  · exact k _ _ hj hq
theorem subx_addA {S : List Nat} {A B : AHeap} {o : AObj} (h : B.get A.next = some o) (k : SubX S A B) : SubX S (A.add o) B := by
  intro j q hj hq
  rw [gx_add] at hq
  split at hq
  · rename_i e; cases hq; rw [e]; exact h
  · exact k _ _ hj hq
theorem subx_bumpA {S : List Nat} {A B : AHeap} {n : Nat} (k : SubX S A B) : SubX S (A.bump n) B := k
theorem subx_dropA {S : List Nat} {A B : AHeap} {i : Nat} (k : SubX (i :: S) A B) : SubX S (A.drop i) B := by
  intro j q hj hq
  rw [gx_drop] at hq
  split at hq
  · cases hq
  · rename_i e; exact k _ _ (by simp [e, hj]) hq
theorem subx_bump {S : List Nat} {A B : AHeap} {n : Nat} (k : SubX S A B) : SubX S A (B.bump n) := k
theorem subx_add {S : List Nat} {A B : AHeap} {o : AObj} (hw : A.Wf) (h : A.next ≤ B.next) (k : SubX S A B) : SubX S A (B.add o) := by
  intro j q hj hq
  have := hw j q hq
  rw [gx_add, if_neg (by omega)]; exact k _ _ hj hq
theorem not_in {S : List Nat} {A : AHeap} {i j : Nat} {o : AObj} (hw : A.Wf) (h : i ∈ S ∨ A.next ≤ i ∨ A.get i = none) (hj : j ∉ S) (hq : A.get j = some o) : j ≠ i := by
  have := hw j o hq
  rcases h with h | h | h
  · intro e; subst e; exact hj h
  · omega
  · intro e; subst e; rw [h] at hq; cases hq
theorem subx_bput {S : List Nat} {A B : AHeap} {i : Nat} {o : AObj} (hw : A.Wf) (h : i ∈ S ∨ A.next ≤ i ∨ A.get i = none) (k : SubX S A B) : SubX S A (B.put i o) := by
  intro j q hj hq
  rw [gx_put, if_neg (not_in hw h hj hq)]; exact k _ _ hj hq
theorem subx_bputS {S : List Nat} {A B : AHeap} {i n : Nat} {o : AObj} (hw : A.Wf) (h : i ∈ S ∨ A.next ≤ i ∨ A.get i = none) (k : SubX S A B) : SubX S A (B.putS i n o) := by
  intro j q hj hq
  have := not_in hw h hj hq
  rw [gx_putS, if_neg (fun q => this q.1)]; exact k _ _ hj hq
theorem subx_drop {S : List Nat} {A B : AHeap} {i : Nat} (hw : A.Wf) (h : i ∈ S ∨ A.next ≤ i ∨ A.get i = none) (k : SubX S A B) : SubX S A (B.drop i) := by
  intro j q hj hq
  rw [gx_drop, if_neg (not_in hw h hj hq)]; exact k _ _ hj hq
theorem subx_dropS {S : List Nat} {A B : AHeap} {i n : Nat} (hw : A.Wf) (h : i ∈ S ∨ A.next ≤ i ∨ A.get i = none) (k : SubX S A B) : SubX S A (B.dropS i n) := by
  intro j q hj hq
  have := not_in hw h hj hq
  rw [gx_dropS, if_neg (fun q => this q.1)]; exact k _ _ hj hq
theorem wf_put {A : AHeap} (hw : A.Wf) {i : Nat} (h : i < A.next) (o : AObj) : (A.put i o).Wf := by
  intro j q hq
  rw [gx_put] at hq
  split at hq
  · rename_i e; subst e; exact h
  · exact hw j q hq
theorem wf_bump {A : AHeap} (hw : A.Wf) {n : Nat} (h : A.next ≤ n) : (A.bump n).Wf := fun j q hq => Nat.lt_of_lt_of_le (hw j q hq) h
theorem wf_add {A : AHeap} (hw : A.Wf) (o : AObj) : (A.add o).Wf := by
  intro j q hq
  rw [gx_add] at hq
  split at hq
  · rename_i e; rw [e]; exact Nat.lt_succ_self _
  · exact Nat.lt_succ_of_lt (hw j q hq)
theorem RCalls_congr {f : FuncId} {args args' : List Value} {H' : AHeap} {K : Value → AHeap → Prop} (h : args = args') (h2 : H = H') : RCalls P f args H K = RCalls P f args' H' K := by rw [h, h2]
theorem goOn_congr {ops rest : List Oper} {d : Option Tmp} {v v' : Value} {H' : AHeap} {K : Env → AHeap → Prop} (h : v = v') (h2 : H = H') : goOn P C ops d rest t K v H = goOn P C ops d rest t K v' H' := by rw [h, h2]
theorem gK_congr {ops rest : List Oper} {d : Option Tmp} {v v' : Value} {H' : AHeap} {K : Env → AHeap → Prop} (h : v = v') (h2 : H = H') : gK P C ops d rest t K v H = gK P C ops d rest t K v' H' := by rw [h, h2]
theorem goDraw_congr {ops : List Oper} {cs : List Nat} {d : Option Tmp} {ord : List (Nat × Option (List Nat))} {pl : List Pledge} {v v' : Value} {H' : AHeap} {K : Env → AHeap → Prop} (h : v = v') (h2 : H = H') : goDraw P C ops cs d ord t pl K v H = goDraw P C ops cs d ord t pl K v' H' := by rw [h, h2]
attribute [congr] RCalls_congr goOn_congr gK_congr goDraw_congr
theorem dec_lt_t {a b : Int} (h : a < b) : decide (a < b) = true := decide_eq_true h
theorem dec_lt_f {a b : Int} (h : ¬ a < b) : decide (a < b) = false := decide_eq_false h
theorem dec_le_t {a b : Int} (h : a ≤ b) : decide (a ≤ b) = true := decide_eq_true h
theorem dec_le_f {a b : Int} (h : ¬ a ≤ b) : decide (a ≤ b) = false := decide_eq_false h
theorem dec_gt_t {a b : Int} (h : b < a) : decide (a > b) = true := decide_eq_true h
theorem dec_gt_f {a b : Int} (h : ¬ b < a) : decide (a > b) = false := decide_eq_false h
theorem dec_ge_t {a b : Int} (h : b ≤ a) : decide (a ≥ b) = true := decide_eq_true h
theorem dec_ge_f {a b : Int} (h : ¬ b ≤ a) : decide (a ≥ b) = false := decide_eq_false h
theorem dec_eq_t {a b : Int} (h : a = b) : (a == b) = true := beq_iff_eq.2 h
theorem dec_eq_f {a b : Int} (h : ¬ a = b) : (a == b) = false := beq_eq_false_iff_ne.2 h
theorem dec_ne_t {a b : Int} (h : ¬ a = b) : (a != b) = true := by simp [bne, h]
theorem dec_ne_f {a b : Int} (h : a = b) : (a != b) = false := by simp [bne, h]
theorem cast_zero : ((0 : Nat) : Int) = 0 := rfl
theorem cast_succ {k : Nat} : (k : Int) + 1 = ((k + 1 : Nat) : Int) := rfl

/-- What may be read of a slice that came in. -/
structure SlIs {α : Type} (f : α → List Value) (z : Nat) (H : AHeap) (b : Bool) (i n : Nat) (xs : List α) : Prop where
  nil : b = true ∨ n = 0
  len : n = xs.length
  lt : 0 < n → i < H.next
  obj : 0 < n → ∃ r w, H.get i = some (.cells (xs.flatMap f ++ r) z w)
  bnd : n ≤ 9223372036854775807
  ext : b = true → i < H.next ∧ ∃ cs w, H.get i = some (.cells cs z w)
theorem SlIs.ro {α : Type} {f : α → List Value} {z : Nat} {H : AHeap} {b : Bool} {i n : Nat} {xs : List α} (h : SlIs f z H b i n xs) : SlIs f z H.ro b i n xs :=
  ⟨h.nil, h.len, h.lt, fun q => by obtain ⟨r, w, e⟩ := h.obj q; exact ⟨r, false, by simp [AHeap.ro, e, roObj]⟩, h.bnd, fun q => by obtain ⟨h1, cs, w, e⟩ := h.ext q; exact ⟨h1, cs, false, by simp [AHeap.ro, e, roObj]⟩⟩
theorem SlIs.mono {α : Type} {f : α → List Value} {z : Nat} {H H' : AHeap} {b : Bool} {i n : Nat} {xs : List α} (h : SlIs f z H b i n xs) (hs : H.Sub H') (hn : H.next ≤ H'.next) : SlIs f z H' b i n xs :=
  ⟨h.nil, h.len, fun q => Nat.lt_of_lt_of_le (h.lt q) hn, fun q => by obtain ⟨r, w, e⟩ := h.obj q; exact ⟨r, w, hs _ _ e⟩, h.bnd, fun q => by obtain ⟨h1, cs, w, e⟩ := h.ext q; exact ⟨Nat.lt_of_lt_of_le h1 hn, cs, w, hs _ _ e⟩⟩
/-- s[:h] -/
theorem as_hi {t e : TypeId} {z i n c : Nat} {b : Bool} {k : IntKind} {x : Int} (hu : P.underlying t = some (.slice e)) (hs : tsz P e = some z) (h0 : 0 ≤ x) (h1 : b = true → x ≤ c) (hnil : b = true ∨ x = 0) (ho : b = true → ∃ cs w, H.get i = some (.cells cs z w)) :
    aslice P H t (slV b i n c) none (some (.int k x)) none = some (slV b i x.toNat c) := by
  cases b with
  | true =>
    obtain ⟨cs, w, e⟩ := ho rfl
    have h1 := h1 rfl
    simp only [aslice, hu, slV, hs, e, asliceBounds, abound, Option.isNone_some, Option.isSome_none, Bool.and_self, Option.bind_some, Option.map_some]
    rw [if_neg (by simp), if_pos ⟨h0, h1⟩]
    simp
  | false =>
    have hx : x = 0 := by simpa using hnil
    subst hx
    simp [aslice, hu, slV, hs, asliceBounds, abound]
/-- The same of a part of what is known of a slice. -/
theorem SlIs.take {α : Type} {f : α → List Value} {z : Nat} {b : Bool} {i n : Nat} {xs : List α} (h : SlIs f z H b i n xs) {k : Nat} (hk : k ≤ n) : SlIs f z H b i k (xs.take k) :=
  ⟨by have := h.nil; rcases this with q | q; exact .inl q; exact .inr (by omega), by have := h.len; rw [List.length_take]; omega, fun q => h.lt (by omega),
   fun q => by obtain ⟨r, w, e⟩ := h.obj (by omega); exact ⟨(xs.drop k).flatMap f ++ r, w, by rw [e, ← List.append_assoc, ← List.flatMap_append, List.take_append_drop]⟩, by have := h.bnd; omega, h.ext⟩
attribute [go_sem ↓] cells_slV cells_apS
attribute [go_sem] wrap_in Int.zero_sub one_slV one_apS
attribute [go_sem] len_slV len_slice len_string len_apS next_dropS get_dropS_ne next_putS get_putS_eq get_putS_ne Int.toNat_natCast Nat.zero_add Nat.add_zero
end Go.LH
