/-
  Sx, part N: what is known of a program's types. Own words; no condition.
-/
import Derived.Test.YtfefdjomenfchaaSxM
namespace Go.Sx
open Go
noncomputable section
/-- What a program says of a type; eqs are those whose values may be held against each other cell by cell. -/
def tyOf (P : Program) (eqs : List Nat) (t : TypeId) : Option TD :=
  (P.info? t).bind fun i => (P.underlying t).bind fun d => i.zero.bind fun v =>
    if v.cells.toList.length = i.size ∧ v.cells.toList.all closed1 = true then some ⟨d, i.size, i.bytes, v.cells.toList, eqs.contains t⟩ else none
end
/-- The types that eqs names may be held against each other so. -/
def EqsOk (P : Program) (eqs : List Nat) : Prop := ∀ t ∈ eqs, ∀ d, tyOf P eqs t = some d → ∀ (w : World) xs ys b, flatEq d.zero xs ys = some b → (Op.equal t (.agg xs.toArray) (.agg ys.toArray)).run P w = .ok b w ∧ P.eqGuardType P.depth t = false
theorem tyOk (P : Program) (eqs : List Nat) (h : EqsOk P eqs) : TyOk P (tyOf P eqs) := by
  have inv : ∀ t d, tyOf P eqs t = some d → ∃ i v, P.info? t = some i ∧ P.underlying t = some d.desc ∧ i.zero = some v ∧ v.cells.toList.length = i.size ∧ v.cells.toList.all closed1 = true ∧ d = ⟨d.desc, i.size, i.bytes, v.cells.toList, eqs.contains t⟩ := by
    intro t d hd
    simp only [tyOf, Option.bind_eq_some_iff, Option.ite_none_right_eq_some, Option.some.injEq] at hd
    obtain ⟨i, hi, u, hu, v, hv, ⟨h1, h2⟩, rfl⟩ := hd
    exact ⟨i, v, hi, hu, hv, h1, h2, rfl⟩
  refine ⟨fun t d hd => ?_, fun t d hd => ?_, fun t d hd he => ?_⟩
  · obtain ⟨i, v, _, hu, _⟩ := inv t d hd; exact hu
  · obtain ⟨i, v, hi, hu, hv, h1, h2, hd'⟩ := inv t d hd
    have e1 : d.size = i.size := by rw [hd']
    have e2 : d.bytes = i.bytes := by rw [hd']
    have e3 : d.zero = v.cells.toList := by rw [hd']
    exact ⟨i, v, hi, e1.symm, e2.symm, hv, e3.symm, by rw [e3, e1]; exact h1, fun z hz => List.all_eq_true.1 h2 z (by rw [← e3]; exact hz)⟩
  · obtain ⟨i, v, hi, hu, hv, h1, h2, hd'⟩ := inv t d hd
    have hm : t ∈ eqs := by rw [hd'] at he; simpa using he
    exact h t hm d hd
end Go.Sx
