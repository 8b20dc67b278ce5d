/-
  The plain law of sharing and cutting.
-/
import Derived.Test.YtmjlmlipnejbfaaGreatDoorPlaced
set_option linter.all false
namespace Go.LH.Ty
open Go.Proofs

end Go.LH.Ty
namespace Go.LH.Plan
open Go.Proofs Go.LH.Ty Go.LH.Rect Go.LH.Solve Go.LH.Cut
theorem sumL_nonneg : ∀ {l : List Int}, (∀ x ∈ l, 1 ≤ x) → 0 ≤ sumL l
  | [], _ => by simp [sumL_nil]
  | x :: l, h => by
    have h1 := h x (by simp)
    have h2 : 0 ≤ sumL l := sumL_nonneg fun y hy => h y (List.mem_cons_of_mem _ hy)
    rw [sumL_cons]; omega
theorem backM_sum : ∀ (k : Nat) (out : List Int) (left : Int), k ≤ out.length → sumL (backM k out left).1 + (backM k out left).2 = sumL out + left
  | 0, _, _, _ => rfl
  | k + 1, out, left, h => by
    rw [backM]
    split
    · rw [backM_sum k _ _ (by rw [List.length_set]; omega), sumL_set _ _ _ h]; omega
    · rfl
theorem backM_pos : ∀ (k : Nat) (out : List Int) (left : Int), k ≤ out.length → (∀ x ∈ out, 1 ≤ x) → ∀ x ∈ (backM k out left).1, 1 ≤ x
  | 0, _, _, _, h => h
  | k + 1, out, left, hk, h => by
    rw [backM]
    split
    · refine backM_pos k _ _ (by rw [List.length_set]; omega) ?_
      intro x hx
      rcases List.mem_or_eq_of_mem_set hx with q | q
      · exact h x q
      · have := h _ (nth_mem (xs := out) (k := k) hk)
        omega
    · exact h
/-- What is left is no less than nothing, if there is room. -/
theorem backM_left : ∀ (k : Nat) (out : List Int) (left : Int), k ≤ out.length → (∀ x ∈ out, 1 ≤ x) → (left < 0 → ∀ j, k ≤ j → j < out.length → nth out j = 1) → (out.length : Int) ≤ sumL out + left → 0 ≤ (backM k out left).2
  | 0, out, left, _, h, h1, hr => by
    rw [backM]
    apply Classical.byContradiction
    intro hn
    have := sumL_ones out fun j hj => h1 (by simpa using hn) j (Nat.zero_le _) hj
    simp at hn
    omega
  | k + 1, out, left, hk, h, h1, hr => by
    rw [backM]
    have hx := h _ (nth_mem (xs := out) (k := k) hk)
    split
    · rename_i hn
      refine backM_left k _ _ (by rw [List.length_set]; omega) ?_ ?_ ?_
      · intro x hx2
        rcases List.mem_or_eq_of_mem_set hx2 with q | q
        · exact h x q
        · omega
      · intro hn2 j hj hj2
        rw [List.length_set] at hj2
        rw [nth_set hk]
        split
        · omega
        · exact h1 hn j (by omega) hj2
      · rw [List.length_set, sumL_set _ _ _ hk]; omega
    · rename_i hn; simp; omega
theorem spreadM_sum (left : Int) (L : Nat) : ∀ (is : List Nat) (n : Nat) (out : List Int), (∀ i ∈ is, i < out.length) → n + is.length = L →
    sumL (spreadM left L n is out) = sumL out + is.length * (left / L) + (if (n : Int) < left % L then min (is.length : Int) (left % L - n) else 0)
  | [], n, out, _, hn => by
    simp only [spreadM, List.length_nil]
    split <;> omega
  | i :: is, n, out, hi, hn => by
    have hi0 := hi i (by simp)
    have hlen : (i :: is).length = is.length + 1 := rfl
    rw [spreadM, spreadM_sum left L is (n + 1) _ (fun j hj => by rw [List.length_set]; exact hi j (by simp [hj])) (by rw [hlen] at hn; omega), sumL_set _ _ _ hi0, hlen]
    have e1 : ((is.length + 1 : Nat) : Int) * (left / L) = is.length * (left / L) + left / L := by rw [Int.natCast_add, Int.add_mul]; simp
    rw [e1]
    have e2 : ((n + 1 : Nat) : Int) = (n : Int) + 1 := rfl
    rw [e2]
    generalize (is.length : Int) * (left / L) = q
    split <;> split <;> (try split) <;> omega
theorem spreadM_pos (left : Int) (L : Nat) (hl : 0 ≤ left / L) : ∀ (is : List Nat) (n : Nat) (out : List Int), (∀ i ∈ is, i < out.length) → (∀ x ∈ out, 1 ≤ x) → ∀ x ∈ spreadM left L n is out, 1 ≤ x
  | [], _, _, _, h => h
  | i :: is, n, out, hi, h => by
    rw [spreadM]
    refine spreadM_pos left L hl is (n + 1) _ (fun j hj => by rw [List.length_set]; exact hi j (by simp [hj])) ?_
    intro x hx
    rcases List.mem_or_eq_of_mem_set hx with q | q
    · exact h x q
    · have := h _ (nth_mem (xs := out) (k := i) (hi i (by simp)))
      split at q <;> omega
theorem share_parts {total : Int} {sizes : List Size} (he : shareE total sizes = 0) : sizes.length ≠ 0 ∧ total ≤ 200 ∧ anyBad sizes = false ∧ sizes.length ≤ 16 ∧ (sizes.length : Int) ≤ total := by
  unfold shareE at he
  split at he
  · cases he
  · rename_i q1
    split at he
    · cases he
    · rename_i q2
      split at he
      · cases he
      · rename_i q3
        simp only [not_or] at q1
        exact ⟨q1.1, by omega, by simpa using q1.2.2, by omega, by omega⟩
theorem outs_pos {total : Int} {sizes : List Size} (he : shareE total sizes = 0) : ∀ x ∈ sizes.map (wantsM total), 1 ≤ x := by
  obtain ⟨h1, h2, h3, h4, h5⟩ := share_parts he
  intro x hx
  obtain ⟨y, hy, rfl⟩ := List.mem_map.1 hx
  have : bad y = false := by
    have := List.any_eq_false.1 (by simpa [anyBad] using h3 : sizes.any bad = false) y hy
    simpa using this
  rw [bad_eq] at this
  exact (wantsM_bd (by omega) (by omega) (by simpa using this)).1
theorem share_sum {total : Int} {sizes : List Size} (he : shareE total sizes = 0) : sumL (shareO total sizes) = total ∧ ∀ x ∈ shareO total sizes, 1 ≤ x := by
  obtain ⟨h1, h2, h3, h4, h5⟩ := share_parts he
  have hop := outs_pos he
  have hol : (sizes.map (wantsM total)).length = sizes.length := List.length_map ..
  have hk : sizes.length ≤ (sizes.map (wantsM total)).length := by omega
  have hsum := backM_sum sizes.length (sizes.map (wantsM total)) (total - sumL (sizes.map (wantsM total))) hk
  have hpos := backM_pos sizes.length (sizes.map (wantsM total)) (total - sumL (sizes.map (wantsM total))) hk hop
  have hleft := backM_left sizes.length (sizes.map (wantsM total)) (total - sumL (sizes.map (wantsM total))) hk hop (fun _ j hj hj2 => by omega) (by omega)
  have hlen := backM_len sizes.length (sizes.map (wantsM total)) (total - sumL (sizes.map (wantsM total)))
  unfold shareO
  dsimp only
  generalize backM sizes.length (sizes.map (wantsM total)) (total - sumL (sizes.map (wantsM total))) = b at *
  split
  · have hl1 : b.1.length - 1 < b.1.length := by omega
    refine ⟨by rw [lastM, sumL_set _ _ _ hl1]; omega, fun x hx => ?_⟩
    rcases List.mem_or_eq_of_mem_set hx with q | q
    · exact hpos x q
    · have := hpos _ (nth_mem (xs := b.1) (k := b.1.length - 1) hl1); omega
  · rename_i hne
    have hL : 0 < (flexes sizes).length := List.length_pos_iff.2 hne
    have hfi : ∀ i ∈ flexes sizes, i < b.1.length := by
      intro i hi
      simp [flexes] at hi
      omega
    refine ⟨?_, spreadM_pos _ _ (Int.ediv_nonneg hleft (by omega)) _ _ _ hfi hpos⟩
    rw [spreadM_sum _ _ _ _ _ hfi (by omega)]
    have hd := Int.mul_ediv_add_emod b.2 (flexes sizes).length
    have hm := Int.emod_lt_of_pos b.2 (show (0 : Int) < (flexes sizes).length by omega)
    have hm0 := Int.emod_nonneg b.2 (show ((flexes sizes).length : Int) ≠ 0 by omega)
    generalize ((flexes sizes).length : Int) * (b.2 / ((flexes sizes).length : Int)) = q at *
    split <;> omega
theorem cleanM_id {r : Rect} (h : RB r) (hw : 0 < r.w) (hh : 0 < r.h) : cleanM r = r := by
  unfold RB at h
  unfold cleanM clampM
  dsimp only
  rw [if_neg (by omega)]
  obtain ⟨x, y, w, hh⟩ := r
  dsimp only at *
  congr 1 <;> omega
theorem cleanM_clean (r : Rect) : cleanM (cleanM r) = cleanM r := by
  have hb := cleanM_bd r
  by_cases h : (cleanM r).w = 0 ∨ (cleanM r).h = 0
  · have : cleanM r = ⟨0, 0, 0, 0⟩ := by
      unfold cleanM at h ⊢
      dsimp only at h ⊢
      split
      · rfl
      · rename_i q; rw [if_neg q] at h; dsimp only at h; exact absurd h q
    rw [this]; rfl
  · exact cleanM_id hb (by omega) (by omega)
theorem cleanM_zero {r : Rect} : (cleanM r).w = 0 ↔ (cleanM r).h = 0 := by
  unfold cleanM
  dsimp only
  split
  · simp
  · rename_i q; dsimp only; omega
end Go.LH.Plan
