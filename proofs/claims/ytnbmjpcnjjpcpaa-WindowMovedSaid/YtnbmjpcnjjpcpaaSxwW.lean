/-
  Plain answers that are tuples of plain values (structs among them); no condition.
-/
import Derived.Test.YtnbmjpcnjjpcpaaSxsWord
namespace Go.Sx
open Go Go.RowKit
variable {P : Program}
/-- What is told back as it is: tuples of plain values too. -/
def closedW (v : Value) : Bool :=
  match v with
  | .tuple xs => xs.toList.all closedV
  | v => closedV v
theorem VRs.closedV_inv {ι : List Place} : ∀ {xs ys : List Value}, VRs ι xs ys → (∀ x ∈ xs, closedV x = true) → ys = xs
  | [], [], _, _ => rfl
  | x :: xs, y :: ys, ⟨a, b⟩, h => by rw [a.closedV_inv (h x (by simp)), VRs.closedV_inv b fun z hz => h z (by simp [hz])]
  | [], _ :: _, h, _ => h.elim
  | _ :: _, [], h, _ => h.elim
theorem VRs.closedVs {ι : List Place} : ∀ {xs : List Value}, (∀ x ∈ xs, closedV x = true) → VRs ι xs xs
  | [], _ => trivial
  | x :: xs, h => ⟨VR.closedV (h x (by simp)), VRs.closedVs fun z hz => h z (by simp [hz])⟩
theorem VR.closedW_inv {ι : List Place} {v y : Value} (h : VR ι v y) (hc : closedW v = true) : y = v := by
  unfold closedW at hc
  split at hc
  · obtain ⟨ys, rfl, r⟩ := h.tuple_inv
    rw [Array.ext' (VRs.closedV_inv r (fun x hx => List.all_eq_true.1 hc x hx))]
  · exact h.closedV_inv hc
theorem VR.closedW {ι : List Place} {v : Value} (hc : closedW v = true) : VR ι v v := by
  unfold Sx.closedW at hc
  split at hc
  · exact VR.tuple' (VRs.closedVs fun x hx => List.all_eq_true.1 hc x hx)
  · exact VR.closedV hc
theorem Fn.overW {f : FuncId} {args : List Value} (ha : args.all closedV = true) {v : Value} (hv : Sx.closedW v = true) (h : Fn P f args [] fun r _ => r = v) (H : Heap) : Fn P f args H fun r g => r = v ∧ g = H := by
  refine ⟨h.1, fun ι w args' RH r => ?_⟩
  have hr : VRs [] args args' := by
    have : args' = args := VRs.closedV_inv r fun x hx => List.all_eq_true.1 ha x hx
    subst this
    exact VRs.closedVs fun x hx => List.all_eq_true.1 ha x hx
  refine Calls.mono (h.2 [] w args' ⟨rfl, fun i b hb => by simp [hget] at hb, fun i j b c p q hb => by simp [hget] at hb⟩ hr) ?_
  rintro e w' ⟨κ, u, y, h', rfl, rfl, hv', _, g⟩
  have b : Below w.heap.size w w' := below_of g fun i b hb => by simp [hget] at hb
  obtain rfl := hv'.closedW_inv hv
  exact ⟨ι, _, _, H, ⟨rfl, rfl⟩, rfl, VR.closedW hv, RH.below b, Below.grow b⟩
end Go.Sx
