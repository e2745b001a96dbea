/-
  Walks by Sx; no condition beyond those that stand in each statement.
-/
import Derived.Test.YtfjdbhgnnpmceaaSxuLawB
import Derived.Test.YtfjdbhgnnpmceaaSxuLawC
namespace Go.Proofs
open Go Go.Sx
set_option maxRecDepth 100000
theorem msgSizes_law {h : Heap} {x0 x1 : Value} (t0 : TypV Try.prog h 4 24 x0) (t1 : TypV Try.prog h 4 24 x1) :
    Sx.Fn Try.prog 4 [x0, x1] h fun v _ => v = .bool true := by
  obtain ⟨m, rfl⟩ := typ_msg t0
  obtain ⟨n, rfl⟩ := typ_msg t1
  exact msgSizes_fn T_try Try.checked.mixed m n h
end Go.Proofs
