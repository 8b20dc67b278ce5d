/-
  The card of LayoutSplits, in its second form: for every input of bulk at most 1048576, and the listed variables as the program's text lays them, the law returns true and leaves its arguments as they were.
-/
import Derived.Test.YtmjlmlipnejbfaaGreatDoorCloseS
import Derived.SevenTiedAt
set_option linter.all false
namespace Go.LH.Ty
open Go.Proofs

end Go.LH.Ty
namespace Go.Proofs.YtmjlmlipnejbfaaGreatDoor
set_option maxRecDepth 100000 in
theorem splits_plain (f : FuncId) (fn : Func) (hf : Tryz.pinned.checked.prog.funcNamed "casement/casementlaw10.LayoutSplits" = some f) (hfn : Tryz.pinned.checked.prog.funcs[f]? = some fn) :
    true = Tryz.pinned.checked.prog.looks [] ∧ ∀ (j : Nat) t, fn.params[j]? = some t → Tryz.pinned.checked.prog.wantsStandIn t = false := by
  obtain rfl : f = 3 := Option.some.inj ((show Tryz.prog.funcNamed "casement/casementlaw10.LayoutSplits" = some 3 by kernel_rfl).symm.trans hf) |>.symm
  obtain rfl : fn = Tryz.f3 := (Option.some.inj (Tryz.func3.symm.trans hfn)).symm
  refine ⟨by kernel_rfl, fun j t ht => ?_⟩
  have ht' : t ∈ [22, 4, 24] := by
    have := Array.mem_of_getElem? ht
    simpa using this
  simp at ht'
  rcases ht' with rfl | rfl | rfl
  · exact (show Tryz.prog.wantsStandIn 22 = false by kernel_rfl)
  · exact (show Tryz.prog.wantsStandIn 4 = false by kernel_rfl)
  · exact (show Tryz.prog.wantsStandIn 24 = false by kernel_rfl)
set_option maxRecDepth 100000 in
theorem layoutSplits_upto_card : Rows.LayoutSplitsUptoCardSaid :=
  Claim7.holds_tied_plain_at .later [] _ _ _ _ splits.saidUpto (fun _ h => by cases h) (by kernel_rfl) (fun _ h => by cases h) layoutSplitsUpto_row_tie rfl ⟨rfl, rfl⟩ (by kernel_rfl) rfl splits_plain (by kernel_rfl)
#print axioms layoutSplits_upto_card
end Go.Proofs.YtmjlmlipnejbfaaGreatDoor
