/-
  Walks by Sx; no condition beyond those that stand in each statement.
-/
import Derived.Test.YtfefdjomenfchaaSxsChainE
import Derived.Test.YtfefdjomenfchaaSxsLawA
namespace Go.Proofs
open Go Go.Sx
set_option maxRecDepth 100000
theorem rec_list : ∀ (n : Nat) (l : List Value), l.length = n * 6 → (∀ j, j < n → ∃ r : Rc, (l.drop (j * 6)).take 6 = r.cells) → ∃ rs : List Rc, rs.length = n ∧ l = recs rs
  | 0, l, hl, _ => ⟨[], rfl, List.eq_nil_of_length_eq_zero (by omega)⟩
  | n + 1, l, hl, h => by
    obtain ⟨r, hr⟩ := h 0 (by omega)
    obtain ⟨rs, h1, h2⟩ := rec_list n (l.drop 6) (by simp; omega) fun j hj => by
      obtain ⟨q, hq⟩ := h (j + 1) (by omega)
      refine ⟨q, ?_⟩
      rw [← hq, List.drop_drop]
      congr 2
      omega
    refine ⟨r :: rs, by simp [h1], ?_⟩
    have hr' : l.take 6 = r.cells := by simpa using hr
    rw [show recs (r :: rs) = r.cells ++ recs rs from rfl, ← h2, ← hr', List.take_append_drop]
/-- A row of records, as an argument. -/
theorem typ_recs {h : Heap} {x : Value} {f : Nat} (q : TypV Try.prog h (f + 3) 36 x) : ∃ a n c l, x = .slice a n c ∧ n ≤ c ∧ c ≤ 9223372036854775807 ∧ RecRowF h a n l := by
  unfold TypV at q
  rw [Try.underlying36] at q
  simp only at q
  unfold Typ at q
  rw [Try.underlying36] at q
  have hc : Try.prog.cellsOf 43 = 6 := by kernel_rfl
  simp only [hc] at q
  rcases q with q | ⟨i, len, cap, l, h1, h2, h3, h4, h5, h6⟩
  · simp at q; subst q
    exact ⟨none, 0, 0, [], rfl, Nat.le_refl _, by omega, rfl, .inl ⟨rfl, rfl⟩⟩
  · simp at h1; subst h1
    obtain ⟨rs, e1, rfl⟩ := rec_list cap l h5 fun j hj => typ_rec (h6 j hj)
    refine ⟨_, len, cap, rs.take len, rfl, h2, h3, by simp; omega, .inr ⟨i, recs rs, false, 0, rfl, h4, by simp; omega, recs_take rs len⟩⟩
theorem chainParts_law {h : Heap} {x0 x1 : Value} (t0 : TypV Try.prog h 4 36 x0) (t1 : TypV Try.prog h 4 36 x1) :
    Sx.Fn Try.prog 6 [x0, x1] h fun v _ => v = .bool true := by
  obtain ⟨a, n, c, l, rfl, h1, h2, hr⟩ := typ_recs t0
  obtain ⟨b, m, d, k, rfl, h3, h4, hs⟩ := typ_recs t1
  exact law23_ChainParts_fn T_try Try.checked.mixed a b n m c d h1 h3 h2 h4 l k h hr hs
end Go.Proofs
