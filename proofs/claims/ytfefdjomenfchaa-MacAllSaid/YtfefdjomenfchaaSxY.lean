/-
  Sx, part Y: a call of plain arguments, once run, is so over any heap. Own words; no condition.
-/
import Derived.Test.YtfefdjomenfchaaSxX
namespace Go.Sx
open Go Go.RowKit
variable {P : Program} {ty : TypeId → Option TD} {N : Nat}
theorem BlkR.below {ι : List Place} {w w' : World} {p : Place} {b : Blk} (h : Below w.heap.size w w') (r : BlkR ι w p b) : BlkR ι w' p b := by
  cases b with
  | cells cs o u =>
    obtain ⟨h1, h2, h3⟩ := r
    refine ⟨fun k x hx => ?_, Nat.lt_of_lt_of_le h2 h.size, fun ho => ?_⟩
    · obtain ⟨y, hy, hr⟩ := h1 k x hx
      exact ⟨y, by rw [h.cell (p := ⟨p.block, p.off + k, none⟩) h2]; exact hy, hr⟩
    · obtain ⟨a1, a2, a3⟩ := h3 ho
      refine ⟨a1, a2, fun k hk => ?_⟩
      rw [h.cell (p := ⟨p.block, p.off + k, none⟩) h2, h.frozen (p := ⟨p.block, p.off + k, none⟩) h2]
      exact a3 k hk
  | void u => exact r
  | map es c =>
    obtain ⟨es', h1, h2⟩ := r
    have hlt := (Array.getElem?_eq_some_iff.1 h1).1
    exact ⟨es', by rw [h.block p.block hlt]; exact h1, h2⟩
theorem RelH.below {ι : List Place} {H : Heap} {w w' : World} (h : Below w.heap.size w w') (r : RelH ι H w) : RelH ι H w' :=
  ⟨r.len, fun i b hb => let ⟨p, hp, hr⟩ := r.blk i b hb; ⟨p, hp, hr.below h⟩, r.apart⟩
theorem Below.grow {ι : List Place} {H : Heap} {w w' : World} (h : Below w.heap.size w w') : Grow ι H w ι H w' :=
  ⟨List.prefix_refl _, h.os, h.tape, h.output, h.size, fun b hb _ => h.block b hb, fun i c p h1 h2 h3 => .inl ⟨i, c, p, h1, h2, h3, rfl⟩⟩
/-- What is so over no heap is so over any one. -/
theorem Fn.over {f : FuncId} {args : List Value} (ha : args.all closed1 = true) {v : Value} (hv : closed1 v = true) (h : Fn P f args [] fun r _ => r = v) (H : Heap) : Fn P f args H fun r g => r = v ∧ g = H := by
  refine ⟨h.1, fun ι w args' RH r => ?_⟩
  have hr : VRs [] args args' := by
    have : args' = args := by
      clear h
      induction args generalizing args' with
      | nil => cases args' with
        | nil => rfl
        | cons _ _ => exact r.elim
      | cons x xs ih => cases args' with
        | nil => exact r.elim
        | cons y ys =>
          simp only [List.all_cons, Bool.and_eq_true] at ha
          rw [r.1.closed_inv ha.1, ih ha.2 ys r.2]
    subst this
    exact VRs.closed fun x hx => List.all_eq_true.1 ha x hx
  refine Calls.mono (h.2 [] w args' ⟨rfl, fun i b hb => by simp [hget] at hb, fun i j b c p q hb => by simp [hget] at hb⟩ hr) ?_
  rintro e w' ⟨κ, u, y, h', rfl, rfl, hv', _, g⟩
  have b : Below w.heap.size w w' := below_of g fun i b hb => by simp [hget] at hb
  obtain rfl := hv'.closed_inv hv
  exact ⟨ι, _, _, H, ⟨rfl, rfl⟩, rfl, .same _ hv, RH.below b, Below.grow b⟩
end Go.Sx
