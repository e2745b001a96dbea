/-
  Walks by Sx; no condition beyond those that stand in each statement.
-/
import Derived.Test.YtfefdjomenfchaaSxsMacF
import Derived.Test.YtfefdjomenfchaaSxsLawE
namespace Go.Proofs
open Go Go.Sx
set_option maxRecDepth 100000
theorem macMade_law {h : Heap} {x0 x1 : Value} (t0 : TypV Try.prog h 4 22 x0) (t1 : TypV Try.prog h 4 22 x1) :
    Sx.Fn Try.prog 9 [x0, x1] h fun v _ => v = .bool true := by
  obtain ⟨l, a, c, rfl, hr⟩ := typ_bm t0
  obtain ⟨k, b, d, rfl, hs⟩ := typ_bm t1
  exact law05_MacMade_fn T_try Try.checked.mixed l k a b _ _ c d rfl rfl h hr hs
end Go.Proofs
