/-
  Walks by Sx; no condition beyond those that stand in each statement.
-/
import Derived.Test.YtfefdjomenfchaaSxsMacE
import Derived.Test.YtfefdjomenfchaaSxsLawE
namespace Go.Proofs
open Go Go.Sx
set_option maxRecDepth 100000
theorem typ_bm8 {h : Heap} {x : Value} {f : Nat} (q : TypV Try.prog h (f + 1) 5 x) : ∃ n : Nat, x = .int .u8 n ∧ n < 256 := by
  unfold TypV at q
  rw [Try.underlying5] at q
  simp only at q
  unfold Typ at q
  rw [Try.underlying5] at q
  simp only at q
  obtain ⟨n, hx, w⟩ := q
  simp only [List.cons.injEq, and_true] at hx
  subst hx
  simp only [Lit.wf, Bool.and_eq_true, decide_eq_true_eq, IntKind.min, IntKind.max, IntKind.bits, IntKind.signed] at w
  simp at w
  obtain ⟨v, rfl⟩ : ∃ v : Nat, n = v := ⟨n.toNat, by omega⟩
  exact ⟨v, rfl, by omega⟩
theorem macKeys_law {h : Heap} {x0 x1 x2 : Value} (t0 : TypV Try.prog h 4 22 x0) (t1 : TypV Try.prog h 4 22 x1) (t2 : TypV Try.prog h 4 5 x2) :
    Sx.Fn Try.prog 11 [x0, x1, x2] h fun v _ => v = .bool true := by
  obtain ⟨l, a, c, rfl, hr⟩ := typ_bm t0
  obtain ⟨k, b, d, rfl, hs⟩ := typ_bm t1
  obtain ⟨z, rfl, hz⟩ := typ_bm8 t2
  exact law05_MacKeys_fn T_try Try.checked.mixed l k z hz a b _ _ c d rfl rfl h hr hs
end Go.Proofs
