/-
  Facts on the types that are met: in each text those that it is the first to need.
-/
import Derived.Test.YtmjlmlipnejbfaaGreatDoorChecked
import Derived.Test.YtmjlmlipnejbfaaGreatDoorLH22
set_option linter.all false
namespace Go.LH.Ty
end Go.LH.Ty
