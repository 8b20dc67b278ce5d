/-
  The document's examples hold: worked out.
-/
import Derived.Test.YtmjlmlipnejbfaaGreatDoorChecked
import Derived.Test.YtmjlmlipnejbfaaGreatDoorLH19
set_option linter.all false
namespace Go.LH.Ty
open Go.Proofs

end Go.LH.Ty
namespace Go.LH.Alive
open Go.Proofs
set_option maxRecDepth 1000000 in
theorem alive_ran : ranB Tryz.prog 6 [] (.bool true) = true := by kernel_rfl
set_option maxRecDepth 1000000 in
theorem alive_spec (H : AHeap) (K : Value → AHeap → Prop) (k : K (.bool true) H) : RCalls Tryz.prog 6 [] H K :=
  ran (by kernel_rfl) alive_ran rfl rfl H K k
end Go.LH.Alive
