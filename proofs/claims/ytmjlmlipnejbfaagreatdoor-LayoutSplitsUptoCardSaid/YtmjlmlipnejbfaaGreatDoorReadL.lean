/-
  Sizes, rectangles and plans that came in are read.
-/
import Derived.Test.YtmjlmlipnejbfaaGreatDoorSplits
import Derived.Test.YtmjlmlipnejbfaaGreatDoorLH30
set_option linter.all false
namespace Go.LH.Ty
open Go.Proofs

end Go.LH.Ty
namespace Go.LH.Plan
open Go.Proofs Go.LH.Ty Go.LH.Rect Go.LH.Solve Go.LH.Cut
variable {E : Type} {enc : TypeId × Value → E} {hd : Bool} {w : World} {m : Emb} {H : AHeap}
theorem cells_size : Tryz.prog.cellsOf 27 = 2 := by kernel_rfl
theorem cells_int1 : Tryz.prog.cellsOf 3 = 1 := by kernel_rfl
theorem un_size : Tryz.prog.underlying 27 = some (.struct (match Tryz.prog.underlying 27 with | some (.struct fs) => fs | _ => #[])) := by kernel_rfl
theorem fs_size : (match Tryz.prog.underlying 27 with | some (.struct fs) => fs | _ => #[]).toList.map (fun f : Field => (f.type, f.offset)) = [(3, 0), (3, 1)] := by kernel_rfl
/-- The fields of a struct, by types and places. -/
theorem fields_at {sp : Nat → Bool} {n : Nat} {fs : List Field} {cs : List Value} {xs : List (DataW E × List MemPlace)} {l : List (TypeId × Nat)} (hl : fs.map (fun f : Field => (f.type, f.offset)) = l)
    (h : (fs.mapM fun f => DataW.trod enc Tryz.prog w 0 sp hd n f.type ((cs.drop f.offset).take (Tryz.prog.cellsOf f.type))) = some xs) :
    ∀ (i : Nat) (t : TypeId) (o : Nat), l[i]? = some (t, o) → ∃ x, DataW.trod enc Tryz.prog w 0 sp hd n t ((cs.drop o).take (Tryz.prog.cellsOf t)) = some x ∧ xs[i]? = some x := by
  intro i t o hi
  subst hl
  rw [List.getElem?_map, Option.map_eq_some_iff] at hi
  obtain ⟨f, h1, h2⟩ := hi
  cases h2
  exact (mapM_all h).2 i f h1
set_option maxRecDepth 100000 in
theorem read_int {sp : Nat → Bool} {n : Nat} {cs : List Value} {o : Nat} {x : DataW E × List MemPlace} {v : Value} (hv : cs[o]? = some v) (h : DataW.trod enc Tryz.prog w 0 sp hd n 3 ((cs.drop o).take (Tryz.prog.cellsOf 3)) = some x) : ∃ k, v = .int .i64 k := by
  obtain ⟨k, h1, -⟩ := trod_int (k := .i64) (by kernel_rfl) h
  rw [cells_int1] at h1
  have hlt := (List.getElem?_eq_some_iff.1 hv).1
  rw [List.drop_eq_getElem_cons hlt] at h1
  have hv' := (List.getElem?_eq_some_iff.1 hv).2
  rw [hv'] at h1
  simp at h1
  exact ⟨k, h1⟩
set_option maxRecDepth 100000 in
theorem read_size {sp : Nat → Bool} {n : Nat} {us : List Value} {x : DataW E × List MemPlace} (h : DataW.trod enc Tryz.prog w 0 sp hd n 27 us = some x) : ∃ s : Size, us = scells s := by
  obtain ⟨h1, k, xs, rfl, h2, -⟩ := trod_struct un_size h
  rw [cells_size] at h1
  have hf := fields_at fs_size h2
  match us, h1 with
  | [a, b], _ =>
    obtain ⟨x0, q0, -⟩ := hf 0 _ _ rfl
    obtain ⟨x1, q1, -⟩ := hf 1 _ _ rfl
    obtain ⟨k0, e0⟩ := read_int (v := a) rfl q0
    obtain ⟨k1, e1⟩ := read_int (v := b) rfl q1
    exact ⟨⟨k0, k1⟩, by rw [e0, e1]; rfl⟩
theorem scells_vr (s : Size) : VRs m (scells s) (scells s) := .cons _ _ _ _ (.int _ _) (.cons _ _ _ _ (.int _ _) .nil)
theorem scells_one (s : Size) : ∀ v ∈ scells s, v.oneCell' = true := by intro v hv; simp [scells] at hv; rcases hv with rfl | rfl <;> rfl
set_option maxRecDepth 100000 in
theorem read_sizes (hR : R Tryz.prog m H w) (hro : RoH H) (h0 : 0 < w.heap.size) {n : Nat} {cs : List Value} {x : DataW E × List MemPlace} (h : DataW.trod enc Tryz.prog w 0 (fun _ => true) hd n 22 cs = some x) :
    ∃ (m' : Emb) (H' : AHeap) (b : Bool) (i k c : Nat) (sizes : List Size) (v : Value), cs = [v] ∧ R Tryz.prog m' H' w ∧ RoH H' ∧ m.le m' ∧ VR m' (slV b i k c) v ∧ SlIs scells 2 H' b i k sizes ∧ (x.1 = .nil ∧ sizes = [] ∨ ∃ ds rs, x.1 = .slice ds rs ∧ ds.length = sizes.length) := by
  rcases trod_slice (e := 27) (by kernel_rfl) h with ⟨rfl, hx⟩ | ⟨a, k, c, fl, ds, rs, rfl, hkc, hcm, rfl, hx, hd1, hd2, hel⟩
  · exact ⟨m, H, false, 0, 0, 0, [], _, rfl, hR, hro, Emb.le.refl m, .sliceNil, ⟨.inr rfl, rfl, fun q => absurd q (Nat.lt_irrefl 0), fun q => absurd q (Nat.lt_irrefl 0), Nat.zero_le _, fun q => by cases q⟩, .inl ⟨hx, rfl⟩⟩
  · rw [cells_size] at hel
    obtain ⟨all, hal, hall⟩ := choose_list (α := Size) (Q := fun i s => w.cells? 0 (a.add (i * 2)) 2 = some (scells s)) c fun i hi => by
      obtain ⟨us, y, q1, q2, -⟩ := hel i hi
      obtain ⟨s, rfl⟩ := read_size q2
      exact ⟨s, q1⟩
    obtain ⟨m', r1, r2, r3, r4⟩ := hR.readS (f := scells) (z := 2) (fun _ => rfl) (by omega) hro h0 all a c hal (fun i hi => ⟨_, hall i hi, scells_vr _⟩) (fun s => scells_one s)
    refine ⟨m', _, true, H.next, k, c, all.take k, _, rfl, r1, r2, r3, r4 k hkc, ⟨.inl rfl, by rw [List.length_take]; omega, fun _ => Nat.lt_succ_self _, fun _ => ⟨(all.drop k).flatMap scells, false, ?_⟩, by omega, fun _ => ⟨Nat.lt_succ_self _, _, false, get_add_eq rfl⟩⟩, .inr ⟨ds, rs, hx, by rw [hd1, List.length_take]; omega⟩⟩
    rw [get_add_eq rfl, ← List.flatMap_append, List.take_append_drop]
end Go.LH.Plan
