/-
  The logical heap: values, objects and worlds, and how the model's memory stands for them. No program in sight.
-/
import Derived.RowKit3
import Derived.Laws.OwnMore
import Derived.Below
set_option linter.all false
namespace Go.LH


/-- Where an object lies in the model's memory: its block, its first cell, how many cells are known, how many may be had. -/
structure Loc where
  block : Nat
  off : Nat
  size : Nat
  avail : Nat
  esz : Nat

/-- Objects' numbers as places. -/
abbrev Emb := Nat → Option Loc

def Emb.le (m m' : Emb) : Prop := ∀ i l, m i = some l → m' i = some l
theorem Emb.le.refl (m : Emb) : m.le m := fun _ _ h => h
theorem Emb.le.trans {a b c : Emb} (h : a.le b) (k : b.le c) : a.le c := fun i l e => k i l (h i l e)

mutual
/-- A value of the logical heap and the model's value that stands for it. -/
inductive VR (m : Emb) : Value → Value → Prop
  | bool (b : Bool) : VR m (.bool b) (.bool b)
  | int (k : IntKind) (n : Int) : VR m (.int k n) (.int k n)
  | string (s : ByteArray) : VR m (.string s) (.string s)
  | ptrNil : VR m (.pointer none) (.pointer none)
  | ptr (i o : Nat) (l : Loc) (h : m i = some l) : VR m (.pointer (some ⟨i, o, none⟩)) (.pointer (some ⟨l.block, l.off + o, none⟩))
  | sliceNil : VR m (.slice none 0 0) (.slice none 0 0)
  | slice (i o n c c' : Nat) (a : Addr) (l : Loc) (h : m i = some l) (ha : c' = 0 ∨ a = ⟨l.block, l.off + o, none⟩) (hn : n ≤ c) (hc : c ≤ c')
      (he : c' = c ∨ (o + c * l.esz = l.size ∧ o + c' * l.esz ≤ l.avail)) : VR m (.slice (some ⟨i, o, none⟩) n c) (.slice (some a) n c')
  | mapNil : VR m (.map none) (.map none)
  | map (i : Nat) (l : Loc) (h : m i = some l) : VR m (.map (some i)) (.map (some l.block))
  | func (f : Fn) (xs ys xs' ys' : List Value) (h : VRs m xs xs') (k : VRs m ys ys') : VR m (.func f ⟨xs⟩ ⟨ys⟩) (.func f ⟨xs'⟩ ⟨ys'⟩)
  | nilFunc : VR m .nilFunc .nilFunc
  | iface (t : TypeId) (v v' : Value) (h : VR m v v') : VR m (.iface t v) (.iface t v')
  | nilIface : VR m .nilIface .nilIface
  | agg (xs xs' : List Value) (h : VRs m xs xs') : VR m (.agg ⟨xs⟩) (.agg ⟨xs'⟩)
  | tuple (xs xs' : List Value) (h : VRs m xs xs') : VR m (.tuple ⟨xs⟩) (.tuple ⟨xs'⟩)
inductive VRs (m : Emb) : List Value → List Value → Prop
  | nil : VRs m [] []
  | cons (v v' : Value) (vs vs' : List Value) (h : VR m v v') (k : VRs m vs vs') : VRs m (v :: vs) (v' :: vs')
end

mutual
theorem VR.mono {m m' : Emb} (hm : m.le m') {v v' : Value} (h : VR m v v') : VR m' v v' := by
  cases h with
  | bool b => exact .bool b
  | int k n => exact .int k n
  | string s => exact .string s
  | ptrNil => exact .ptrNil
  | ptr i o l h => exact .ptr i o l (hm i l h)
  | sliceNil => exact .sliceNil
  | slice i o n c c' a l h ha hn hc he => exact .slice i o n c c' a l (hm i l h) ha hn hc he
  | mapNil => exact .mapNil
  | map i l h => exact .map i l (hm i l h)
  | func f xs ys xs' ys' h k => exact .func f xs ys xs' ys' (h.mono hm) (k.mono hm)
  | nilFunc => exact .nilFunc
  | iface t v v' h => exact .iface t v v' (h.mono hm)
  | nilIface => exact .nilIface
  | agg xs xs' h => exact .agg xs xs' (h.mono hm)
  | tuple xs xs' h => exact .tuple xs xs' (h.mono hm)
theorem VRs.mono {m m' : Emb} (hm : m.le m') {v v' : List Value} (h : VRs m v v') : VRs m' v v' := by
  cases h with
  | nil => exact .nil
  | cons v v' vs vs' h k => exact .cons v v' vs vs' (h.mono hm) (k.mono hm)
end

theorem VRs.length {m : Emb} : ∀ {xs ys : List Value}, VRs m xs ys → xs.length = ys.length
  | _, _, .nil => rfl
  | _, _, .cons _ _ _ _ _ k => by simp [k.length]
theorem VRs.get {m : Emb} : ∀ {xs ys : List Value}, VRs m xs ys → ∀ (i : Nat) (v : Value), xs[i]? = some v → ∃ v', ys[i]? = some v' ∧ VR m v v'
  | _, _, .nil, i, v, h => by simp at h
  | _, _, .cons x y xs ys h k, 0, v, e => by simp at e; subst e; exact ⟨y, by simp, h⟩
  | _, _, .cons x y xs ys h k, i + 1, v, e => by simp at e; simpa using k.get i v e
theorem VRs.append {m : Emb} : ∀ {a a' b b' : List Value}, VRs m a a' → VRs m b b' → VRs m (a ++ b) (a' ++ b')
  | _, _, _, _, .nil, k => k
  | _, _, _, _, .cons v v' vs vs' h t, k => .cons v v' _ _ h (t.append k)
theorem VRs.take {m : Emb} : ∀ {a a' : List Value} (n : Nat), VRs m a a' → VRs m (a.take n) (a'.take n)
  | _, _, 0, _ => by simpa using VRs.nil
  | _, _, _ + 1, .nil => by simpa using VRs.nil
  | _, _, n + 1, .cons v v' vs vs' h t => by simpa using VRs.cons v v' _ _ h (t.take n)
theorem VRs.drop {m : Emb} : ∀ {a a' : List Value} (n : Nat), VRs m a a' → VRs m (a.drop n) (a'.drop n)
  | _, _, 0, h => by simpa using h
  | _, _, _ + 1, .nil => by simpa using VRs.nil
  | _, _, n + 1, .cons v v' vs vs' h t => by simpa using t.drop n
theorem VRs.set {m : Emb} {v v' : Value} (hv : VR m v v') : ∀ {a a' : List Value} (n : Nat), VRs m a a' → VRs m (a.set n v) (a'.set n v')
  | _, _, _, .nil => by simpa using VRs.nil
  | _, _, 0, .cons x x' vs vs' h t => by simpa using VRs.cons v v' _ _ hv t
  | _, _, n + 1, .cons x x' vs vs' h t => by simpa using VRs.cons x x' _ _ h (t.set hv n)
theorem VRs.of_get {m : Emb} : ∀ {xs ys : List Value}, xs.length = ys.length → (∀ (i : Nat) (v v' : Value), xs[i]? = some v → ys[i]? = some v' → VR m v v') → VRs m xs ys
  | [], [], _, _ => .nil
  | x :: xs, y :: ys, hl, h => .cons x y xs ys (h 0 x y rfl rfl) (VRs.of_get (by simpa using hl) fun i v v' e e' => h (i + 1) v v' (by simpa using e) (by simpa using e'))
  | [], _ :: _, hl, _ => by simp at hl
  | _ :: _, [], hl, _ => by simp at hl
theorem VRs.map {m : Emb} {α : Type} (f g : α → Value) : ∀ (l : List α), (∀ x ∈ l, VR m (f x) (g x)) → VRs m (l.map f) (l.map g)
  | [], _ => .nil
  | x :: l, h => .cons _ _ _ _ (h x (by simp)) (VRs.map f g l fun y hy => h y (by simp [hy]))

/-- A value in which no address occurs: it stands for itself. -/
inductive Plain : Value → Prop
  | bool (b : Bool) : Plain (.bool b)
  | int (k : IntKind) (n : Int) : Plain (.int k n)
  | string (s : ByteArray) : Plain (.string s)
  | ptrNil : Plain (.pointer none)
  | sliceNil : Plain (.slice none 0 0)
  | mapNil : Plain (.map none)
  | func (f : Fn) : Plain (.func f #[] #[])
  | nilFunc : Plain .nilFunc
  | nilIface : Plain .nilIface
  | agg (xs : List Value) (h : ∀ v ∈ xs, Plain v) : Plain (.agg ⟨xs⟩)
  | tuple (xs : List Value) (h : ∀ v ∈ xs, Plain v) : Plain (.tuple ⟨xs⟩)

theorem Plain.vr {m : Emb} {v : Value} (h : Plain v) : VR m v v := by
  induction h with
  | bool b => exact .bool b
  | int k n => exact .int k n
  | string s => exact .string s
  | ptrNil => exact .ptrNil
  | sliceNil => exact .sliceNil
  | mapNil => exact .mapNil
  | func f => exact .func f [] [] [] [] .nil .nil
  | nilFunc => exact .nilFunc
  | nilIface => exact .nilIface
  | agg xs _ ih =>
    refine .agg xs xs (VRs.of_get rfl fun i v v' e e' => ?_)
    rw [e] at e'; cases e'
    exact ih v (List.mem_of_getElem? e)
  | tuple xs _ ih =>
    refine .tuple xs xs (VRs.of_get rfl fun i v v' e e' => ?_)
    rw [e] at e'; cases e'
    exact ih v (List.mem_of_getElem? e)

/-- The same, as a test. -/
def plainB : Value → Bool
  | .bool _ | .int .. | .string _ | .pointer none | .slice none 0 0 | .map none | .nilFunc | .nilIface => true
  | .func _ xs ys => xs.isEmpty && ys.isEmpty
  | _ => false
def plainAny : Value → Bool
  | .agg xs => xs.toList.all plainB
  | .tuple xs => xs.toList.all plainB
  | v => plainB v
theorem plain_of_B {v : Value} (h : plainB v = true) : Plain v := by
  unfold plainB at h
  split at h <;> first | (exact Plain.bool _) | (exact Plain.int _ _) | (exact Plain.string _) | (exact Plain.ptrNil) | (exact Plain.sliceNil) | (exact Plain.mapNil) | (exact Plain.nilFunc) | (exact Plain.nilIface) | skip
  · simp at h
    obtain ⟨h1, h2⟩ := h
    subst h1; subst h2
    exact Plain.func _
  · cases h
theorem plain_of_any {v : Value} (h : plainAny v = true) : Plain v := by
  unfold plainAny at h
  split at h
  · rename_i xs
    exact Plain.agg xs.toList fun v hv => plain_of_B (by simpa using List.all_eq_true.1 h v hv)
  · rename_i xs
    exact Plain.tuple xs.toList fun v hv => plain_of_B (by simpa using List.all_eq_true.1 h v hv)
  · exact plain_of_B h

/-- A value that fits into one cell. -/
def oneCell (v : Value) : Bool := v.oneCell'

/-- An object of the logical heap: cells, or an object of the model's that holds no addresses (an iterator over a string). -/
inductive AObj where
  | cells (cs : List Value) (esz : Nat) (rw : Bool)
  | raw (o : Obj)

def AObj.rw : AObj → Bool
  | .cells _ _ b => b
  | .raw _ => true

/-- An object and its place in a world. -/
inductive OR (m : Emb) (w : World) (l : Loc) : AObj → Prop
  | cells (cs : List Value) (esz : Nat) (rw : Bool) (hs : l.size = cs.length) (he : l.esz = esz) (ha : l.size ≤ l.avail)
      (hc : ∀ (k : Nat) (v : Value), cs[k]? = some v → ∃ v', w.cell? ⟨l.block, l.off + k, none⟩ = some v' ∧ VR m v v' ∧ v.oneCell' = true)
      (hw : rw = true → ∃ c T f, w.heap[l.block]? = some (.cells c T f) ∧ l.off + l.avail ≤ c.size ∧ (∀ k, k < c.size → w.frozen? ⟨l.block, k, none⟩ = false)) : OR m w l (.cells cs esz rw)
  | raw (o : Obj) (h : w.heap[l.block]? = some o) (hn : ∀ c t f, o ≠ .cells c t f) : OR m w l (.raw o)

/-- A logical heap: objects by number, and a number from which on none is used. -/
structure AHeap where
  get : Nat → Option AObj
  next : Nat

/-- The world stands for the heap. -/
structure R (P : Program) (m : Emb) (H : AHeap) (w : World) : Prop where
  obj : ∀ i o, H.get i = some o → ∃ l, m i = some l ∧ OR m w l o
  fresh : ∀ i, H.next ≤ i → m i = none
  block : ∀ i l, m i = some l → l.block < w.heap.size
  sep : ∀ i j oi oj li lj, i ≠ j → H.get i = some oi → oi.rw = true → H.get j = some oj → m i = some li → m j = some lj → li.block ≠ lj.block
  glob : ∀ g, g < P.globals.size → ∃ l, m g = some l ∧ l.block = g ∧ l.off = 0

/-- A block that the heap may write. -/
def Writes (m : Emb) (H : AHeap) (k : Nat) : Prop := ∃ i o l, H.get i = some o ∧ o.rw = true ∧ m i = some l ∧ l.block = k

/-- What stays in the model's world: all blocks that were there and that the heap may not write; and no such block may be written later. -/
structure Kept (m : Emb) (H : AHeap) (w : World) (m' : Emb) (H' : AHeap) (w' : World) : Prop where
  os : w'.os = w.os
  tape : w'.tape = w.tape
  output : w'.output = w.output
  size : w.heap.size ≤ w'.heap.size
  block : ∀ k, k < w.heap.size → ¬ Writes m H k → w'.heap[k]? = w.heap[k]?
  writes : ∀ k, k < w.heap.size → Writes m' H' k → Writes m H k
  le : m.le m'
  next : H.next ≤ H'.next

theorem Kept.refl (m : Emb) (H : AHeap) (w : World) : Kept m H w m H w :=
  ⟨rfl, rfl, rfl, Nat.le_refl _, fun _ _ _ => rfl, fun _ _ h => h, Emb.le.refl m, Nat.le_refl _⟩
theorem Kept.trans {m m' m'' : Emb} {H H' H'' : AHeap} {w w' w'' : World} (h : Kept m H w m' H' w') (k : Kept m' H' w' m'' H'' w'') : Kept m H w m'' H'' w'' :=
  ⟨k.os.trans h.os, k.tape.trans h.tape, k.output.trans h.output, Nat.le_trans h.size k.size,
   fun b hb hn => (k.block b (Nat.lt_of_lt_of_le hb h.size) fun hw => hn (h.writes b hb hw)).trans (h.block b hb hn),
   fun b hb hw => h.writes b hb (k.writes b (Nat.lt_of_lt_of_le hb h.size) hw), h.le.trans k.le, Nat.le_trans h.next k.next⟩
/-- A draw changes nothing. -/
theorem Kept.drawn {m m' : Emb} {H H' : AHeap} {w w' : World} (n : Nat) (h : Kept m H { w with drawn := n } m' H' w') : Kept m H w m' H' w' :=
  ⟨h.os, h.tape, h.output, h.size, h.block, h.writes, h.le, h.next⟩
theorem R.drawn {P : Program} {m : Emb} {H : AHeap} {w : World} (n : Nat) (h : R P m H w) : R P m H { w with drawn := n } := by
  refine ⟨fun i o hi => ?_, h.fresh, h.block, h.sep, h.glob⟩
  obtain ⟨l, hl, ho⟩ := h.obj i o hi
  refine ⟨l, hl, ?_⟩
  cases ho with
  | cells cs esz rw hs he ha hc hw => exact .cells cs esz rw hs he ha hc hw
  | raw o h hn => exact .raw o h hn

end Go.LH
