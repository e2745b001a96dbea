/-
  Walks by Sx; no condition beyond those that stand in each statement.
-/
import Derived.Test.YtfefdjomenfchaaSxsMacA
namespace Go.Proofs
open Go Go.Sx
set_option maxRecDepth 100000
/-! the document's example -/
def keyJ : List UInt8 := [74, 101, 102, 101]
def textJ : List UInt8 := [119, 104, 97, 116, 32, 100, 111, 32, 121, 97, 32, 119, 97, 110, 116, 32, 102, 111, 114, 32, 110, 111, 116, 104, 105, 110, 103, 63]
theorem mac_ex : (macL keyJ textJ).take 4 = [91, 220, 193, 70] := by decide +kernel
theorem ex_all : ∃ k t S, k = keyJ ∧ t = textJ ∧ S = macL k t ∧ S.length = 32 ∧ S.take 4 = [91, 220, 193, 70] :=
  ⟨keyJ, textJ, macL keyJ textJ, rfl, rfl, rfl, macL_length _ _, mac_ex⟩
end Go.Proofs
