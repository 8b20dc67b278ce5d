/-
  A law's last step: what it read is as it was, and it said true.
-/
import Derived.Test.YtmjlmlipnejbfaaGreatDoorLH30
import Derived.ChangeOld
import Derived.ChangeShapes
set_option linter.all false
namespace Go.LH
open Go.ChangeShapes Go.RowKit
variable {P : Program} {E : Type} {enc : TypeId × Value → E}

theorem trodAll_stays (hl : laidOutB P = true) {W W' : World} (hb : Below W.heap.size W W') : ∀ {ts : List TypeId} {vs : List Value} {ds : List (DataW E)} {ps : List MemPlace}, (∀ t ∈ ts, P.readableRec t = true ∧ t < P.types.size) →
    (∀ p ∈ ps, p.block < W.heap.size) → DataW.TrodAll enc P W 0 (fun _ => true) true ts vs ds ps → DataW.TrodAll enc P W' 0 (fun b => decide (b < W.heap.size)) true ts vs ds ps
  | [], [], [], _, _, _, h => h
  | t :: ts, v :: vs, d :: ds, ps, ht, hp, h => by
    obtain ⟨p, q, h1, h2, rfl⟩ := h
    obtain ⟨k1, k2⟩ := ht t (by simp)
    have hp1 : ∀ x ∈ p, x.block < W.heap.size := fun x hx => hp x (by simp [hx])
    exact ⟨p, q, WideElems.Trod_stays hl k1 k2 h1 (fun x hx => hb.same (hp1 x hx)) (fun x hx => by simpa using hp1 x hx),
      trodAll_stays hl hb (fun t ht' => ht t (by simp [ht'])) (fun x hx => hp x (by simp [hx])) h2, rfl⟩
  | [], _ :: _, _, _, _, _, h => h.elim
  | [], [], _ :: _, _, _, _, h => h.elim
  | _ :: _, [], _, _, _, _, h => h.elim
  | _ :: _, _ :: _, [], _, _, _, h => h.elim
theorem law_post {f : Func} {s : ChangeSpec} {apart fresh handsOn : Bool} {W W' : World} {args : Array Value} {ds gs : List (DataW E)} {before : List MemPlace} {tb : TypeId} (hl : laidOutB P = true)
    (hps : ∀ t ∈ f.params.toList, P.readableRec t = true ∧ t < P.types.size) (hrt : f.resultTypes = #[tb]) (htb : P.underlying tb = some .bool) (hsv : s.vars = [])
    (hsf : s.fn E (ds ++ gs) = { results := [.lit (.bool true)], args := ds }) (hW : DataW.Whole enc P f.params.toList s.vars apart W args.toList ds gs before) (hb : Below W.heap.size W W') :
    s.post enc P f apart fresh handsOn false W args (.bool true) W' := by
  have hlt := hW.lt
  have hW' := hW
  obtain ⟨p, q, h1, h2, rfl, -, -⟩ := hW
  refine ⟨ds, gs, p ++ q, [], p, [], hW', ?_, ?_, ?_, hb.frame _, fun h => by cases h⟩
  · rw [hsf, hrt]
    exact ⟨[], [], ⟨1, by simp [DataW.trod, Value.cells, htb]⟩, rfl, rfl⟩
  · rw [hsf]
    exact trodAll_stays hl hb hps (fun x hx => hlt x (by simp [hx])) h1
  · rw [hsv, hsf]; rfl
/-- The outer forms of arguments. -/
theorem okWide_slice {w : World} {r : Reach} {b : Nat} {t e : TypeId} {v : Value} (hu : P.underlying t = some (.slice e)) (h : Value.okWide P w r b t v) : ∃ a n c, v = .slice a n c := by
  simp only [Value.okWide, hu, Cell.okWide, Cell.ok] at h
  cases v <;> simp_all
theorem okWide_bool {w : World} {r : Reach} {b : Nat} {t : TypeId} {v : Value} (hu : P.underlying t = some .bool) (h : Value.okWide P w r b t v) : ∃ x, v = .bool x := by
  simp only [Value.okWide, hu, Cell.okWide, Cell.ok] at h
  cases v <;> simp_all
theorem okWide_int {w : World} {r : Reach} {b : Nat} {t : TypeId} {k : IntKind} {v : Value} (hu : P.underlying t = some (.int k)) (h : Value.okWide P w r b t v) : ∃ n, v = .int k n := by
  simp only [Value.okWide, hu, Cell.okWide, Cell.ok] at h
  cases v <;> simp_all
theorem okWide_struct {w : World} {r : Reach} {b : Nat} {t : TypeId} {fs : Array Field} {v : Value} (hu : P.underlying t = some (.struct fs)) (h : Value.okWide P w r b t v) : ∃ cs, v = .agg cs := by
  simp only [Value.okWide, hu] at h
  obtain ⟨cs, h1, -⟩ := h
  exact ⟨cs, h1⟩
/-- All variables have their places. -/
def rowsB (P : Program) : Bool := (List.range P.globals.size).all fun g => (((begin P (fun _ _ => 0) default).world.heap[g]?).bind Obj.row?).isSome
theorem globals_there {w : World} (h : rowsB P = true) (hs : w.ShapedOpen P) : P.globals.size ≤ w.heap.size := by
  by_cases h0 : P.globals.size = 0
  · omega
  · have := List.all_eq_true.1 h (P.globals.size - 1) (by simp; omega)
    obtain ⟨⟨zero, t⟩, hz⟩ := Option.isSome_iff_exists.1 this
    obtain ⟨cs, h1, -⟩ := hs.1 (P.globals.size - 1) zero t (by omega) hz
    have := (Array.getElem?_eq_some_iff.1 h1).1
    omega
end Go.LH
