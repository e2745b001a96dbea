/-
  Walks by Sx; no condition beyond those that stand in each statement.
-/
import Derived.Test.YtfefdjomenfchaaSxsMacD
import Derived.Test.YtfefdjomenfchaaChecked
namespace Go.Proofs
open Go Go.Sx
set_option maxRecDepth 100000
theorem typ_bm {h : Heap} {f : Nat} {x : Value} (q : TypV Try.prog h (f + 2) 22 x) : ∃ (bs : List UInt8) (a : Option Addr) (cap : Nat), x = .slice a bs.length cap ∧ Row h a bs.length cap (u8s bs) := by
  obtain ⟨bs, a, cap, h1, _, h3⟩ := typ_bytes Try.underlying22 Try.underlying5 (by kernel_rfl) q
  exact ⟨bs, a, cap, h1, h3⟩
theorem macTags_law {h : Heap} {x0 x1 x2 : Value} (t0 : TypV Try.prog h 4 22 x0) (t1 : TypV Try.prog h 4 22 x1) (t2 : TypV Try.prog h 4 22 x2) :
    Sx.Fn Try.prog 12 [x0, x1, x2] h fun v _ => v = .bool true := by
  obtain ⟨l, a, c, rfl, hr⟩ := typ_bm t0
  obtain ⟨k, b, d, rfl, hs⟩ := typ_bm t1
  obtain ⟨m, e, f, rfl, ht⟩ := typ_bm t2
  exact law05_MacTags_fn T_try Try.checked.mixed l k m a b e _ _ _ c d f rfl rfl rfl h hr hs ht
end Go.Proofs
