/-
  The logical heap: append and copy do there what they do in the model, whatever capacities are.
-/
import Derived.Test.YtmjlmlipnejbfaaGreatDoorLH6
set_option linter.all false
namespace Go.LH
variable {P : Program} {m : Emb} {H : AHeap} {w : World}

def isIntDesc : TypeDesc → Bool
  | .int _ => true
  | _ => false

theorem first_run {size n : Nat} {x x' : Value} {cs : List Value} (hR : R P m H w) (h : afirst H size n x = some cs) (hx : VR m x x') (hn : ∀ i o k c, x = .slice (some ⟨i, o, none⟩) k c → n ≤ k) :
    ∃ cs', (∀ d, (Builtin.firstCells size n x').run P { w with drawn := d } = .ok cs'.toArray { w with drawn := d }) ∧ VRs m cs cs' := by
  unfold afirst at h
  split at h
  · cases hx
    split at h
    · cases h
      exact ⟨[], by simp [Builtin.firstCells], .nil⟩
    · cases h
  · rename_i i o k c
    obtain ⟨l, cs', hl, hlen, hv, hr⟩ := hR.cellsAt h
    cases hx with
    | slice _ _ _ _ c' a l' hm ha hnc hc he =>
      rw [hl] at hm; cases hm
      refine ⟨cs', fun d => ?_, hv⟩
      have hcl := hv.length
      by_cases h0 : n = 0
      · subst h0
        have : cs' = [] := List.eq_nil_of_length_eq_zero (by omega)
        subst this
        simp [Builtin.firstCells, loadCells, loadCellsFrom]
      · have := hn i o k c rfl
        have ha' := ha.resolve_left (by omega)
        subst ha'
        exact run_firstCells_some (P := P) _ size n _ k c' cs' (by omega) (fun j v hj => by rw [Addr.add_mid]; exact hr j v hj)
  · rename_i s
    cases hx
    split at h
    · rename_i hle
      cases h
      refine ⟨(s.data.toList.take n).map fun b => .int .u8 (b.toNat : Int), fun d => ?_, VRs.map _ _ _ fun b _ => .int _ _⟩
      simp only [Builtin.firstCells, Sem.run_pure]
      congr 1
      apply Array.ext'
      simp only [Array.toList_map]
      congr 1
      rw [ByteArray.data_extract]
      simp [List.extract_eq_take_drop]
    · cases h
  · cases h

theorem len_run {x x' : Value} {n : Nat} (h : alen x = some n) (hx : VR m x x') (w : World) : (Builtin.lenOf x').run P w = .ok n w := by
  unfold alen at h
  split at h
  · cases h; cases hx <;> rfl
  · cases h; cases hx; rfl
  · cases h

theorem append_room_run {sT xT ty e : TypeId} {d : TypeDesc} {size k sLen sCap : Nat} {base : Option Addr} {x' : Value} {news : List Value} {w' : World}
    (hu : P.underlying sT = some (.slice e)) (hd : P.underlying xT = some d) (hi : isIntDesc d = false) (hs : tsz P e = some size)
    (hlen : (Builtin.lenOf x').run P w = .ok k w) (hf : (Builtin.firstCells size k x').run P w = .ok news.toArray w) (hroom : sLen + k ≤ sCap)
    (hst : ∀ a, base = some a → (storeCells (a.add (sLen * size)) news).run P w = .ok () w') (hno : base = none → w' = w) :
    (Builtin.append_ #[sT, xT] ty #[.slice base sLen sCap, x']).run P w = .ok (.slice base (sLen + k) sCap) w' := by
  cases d <;> first
    | (cases hi; done)
    | skip
  all_goals
    simp only [Builtin.append_]
    simp only [List.getElem?_toArray, List.getElem?_cons_zero, List.getElem?_cons_succ, Sem.run_bind, run_underlying hu, run_underlying hd, Result.andThen_ok, run_sizeOf hs, Sem.run_pure, Bool.false_eq_true, if_false, hlen]
    rw [if_pos hroom]
    cases base with
    | none =>
      rw [hno rfl]
      simp [hf]
    | some a =>
      have := hst a rfl
      simp [hf, this]

theorem append_grow_run {sT xT ty e : TypeId} {d : TypeDesc} {size bytes k sLen sCap : Nat} {z : List Value} {base : Option Addr} {x' : Value} {olds news : List Value}
    (hu : P.underlying sT = some (.slice e)) (hd : P.underlying xT = some d) (hi : isIntDesc d = false) (hs : tsz P e = some size) (hb : tby P e = some bytes) (hz0 : tzero P e = some z) (hzl : z.length = size)
    (hlen : (Builtin.lenOf x').run P w = .ok k w) (hf : (Builtin.firstCells size k x').run P w.drew = .ok news.toArray w.drew) (hfo : (Builtin.firstCells size sLen (.slice base sLen sCap)).run P w.drew = .ok olds.toArray w.drew)
    (hroom : sCap < sLen + k) (hbytes : (sLen + k) * bytes ≤ 140737488355328) (h63 : sLen + k ≤ 140737488355328) :
    ∃ more : List Value, more.length = (grownCap w (sLen + k) sCap e - (sLen + k)) * size ∧
    (Builtin.append_ #[sT, xT] ty #[.slice base sLen sCap, x']).run P w =
      .ok (.slice (some ⟨w.heap.size, 0, none⟩) (sLen + k) (grownCap w (sLen + k) sCap e)) (w.drew.alloc (.cells (olds ++ news ++ more).toArray e)) := by
  obtain ⟨zv, hzr, hzc⟩ := run_zeroValue hz0 w.drew
  obtain ⟨i, hii, hby⟩ := tby_info hb
  have hti : (typeInfo e).run P w = .ok i w := by simp [typeInfo, hii]
  have hti2 : (typeInfo e).run P w.drew = .ok i w.drew := by simp [typeInfo, hii]
  refine ⟨(Builtin.zeroCells zv.cells (grownCap w (sLen + k) sCap e - (sLen + k))).toList, ?_, ?_⟩
  · rw [Array.length_toList, size_zeroCells, ← hzl, ← hzc, Array.length_toList]
  · have h1 : ¬ (((sLen + k : Nat) : Int) > IntKind.i64.max ∧ (False ∨ i.bytes = 0)) := by
      show ¬ (((sLen + k : Nat) : Int) > 9223372036854775807 ∧ _)
      omega
    have h2 : ¬ (Builtin.nextslicecap (sLen + k) sCap * i.bytes > 2 ^ 48) := by
      have := growslice_fits hroom hbytes
      rw [hby]
      show ¬ (_ > 281474976710656)
      omega
    have hch : (choose (.appendCap (sLen + k) sCap e)).run P w = .ok (grownCap w (sLen + k) sCap e) w.drew := by
      simp [run_choose, Question.forced, grownCap]
    have e1 : ∀ (c c' : Array Value), c = c' → (Result.ok (Value.slice (some ⟨w.drew.heap.size, 0, none⟩) (sLen + k) (grownCap w (sLen + k) sCap e)) ({ w.drew with heap := w.drew.heap.push (.cells c e) }) : Result Value) = .ok (.slice (some ⟨w.heap.size, 0, none⟩) (sLen + k) (grownCap w (sLen + k) sCap e)) (w.drew.alloc (.cells c' e)) := by
      intro c c' hc; subst hc; rfl
    cases d <;> first
      | (cases hi; done)
      | skip
    all_goals
      simp only [Builtin.append_]
      simp only [List.getElem?_toArray, List.getElem?_cons_zero, List.getElem?_cons_succ, Sem.run_bind, run_underlying hu, run_underlying hd, Result.andThen_ok, run_sizeOf hs, Sem.run_pure, Bool.false_eq_true, if_false, hlen]
      rw [if_neg (by omega)]
      simp only [Sem.run_bind, hti, Result.andThen_ok]
      rw [if_neg h1]
      simp only [Sem.run_bind, Sem.run_pure, Result.andThen_ok, hti]
      rw [if_neg h2]
      simp only [Sem.run_bind, Sem.run_pure, Result.andThen_ok, hch, hti2, run_askRoom, hfo, hf, hzr, newRow, run_newObj, Bool.not_false, if_true]
      refine e1 _ _ ?_
      apply Array.ext'
      simp

end Go.LH
