/-
  Walks by Sx; no condition beyond those that stand in each statement.
-/
import Derived.Test.YtfefdjomenfchaaSxsShaD
namespace Go.Proofs
open Go Go.Sx
set_option maxRecDepth 100000
theorem sum_nil : (sumL []).take 4 = [227, 176, 196, 66] := by decide +kernel
theorem sum_abc : (sumL [97, 98, 99]).take 4 = [186, 120, 22, 191] := by decide +kernel
end Go.Proofs
