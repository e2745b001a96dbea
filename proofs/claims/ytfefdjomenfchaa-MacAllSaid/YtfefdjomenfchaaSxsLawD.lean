/-
  Walks by Sx; no condition beyond those that stand in each statement.
-/
import Derived.Test.YtfefdjomenfchaaSxsShaG
import Derived.Test.YtfefdjomenfchaaChecked
namespace Go.Proofs
open Go Go.Sx
set_option maxRecDepth 100000
theorem typ_b {h : Heap} {f : Nat} {x : Value} (q : TypV Try.prog h (f + 2) 22 x) : ∃ (bs : List UInt8) (a : Option Addr) (cap : Nat), x = .slice a bs.length cap ∧ Row h a bs.length cap (u8s bs) := by
  obtain ⟨bs, a, cap, h1, _, h3⟩ := typ_bytes Try.underlying22 Try.underlying5 (by kernel_rfl) q
  exact ⟨bs, a, cap, h1, h3⟩
theorem shaBlocks_law {h : Heap} {x0 : Value} (t0 : TypV Try.prog h 4 22 x0) :
    Sx.Fn Try.prog 5 [x0] h fun v _ => v = .bool true := by
  obtain ⟨l, a, c, rfl, hr⟩ := typ_b t0
  exact law04_ShaBlocks_fn T_try Try.checked.mixed l a _ c rfl h hr
theorem shaPads_law {h : Heap} {x0 x1 : Value} (t0 : TypV Try.prog h 4 22 x0) (t1 : TypV Try.prog h 4 22 x1) :
    Sx.Fn Try.prog 4 [x0, x1] h fun v _ => v = .bool true := by
  obtain ⟨l, a, c, rfl, hr⟩ := typ_b t0
  obtain ⟨k, b, d, rfl, hs⟩ := typ_b t1
  exact law04_ShaPads_fn T_try Try.checked.mixed l k a b _ _ c d rfl rfl h hr hs
end Go.Proofs
