/-
  Sx, part V: the way in and out: arguments that are only read. Own words; no condition.
-/
import Derived.Test.YtfefdjomenfchaaSxU
import Derived.Below
namespace Go.Sx
open Go Go.RowKit
variable {P : Program}
theorem relH_of {ι : List Place} {h : Heap} {w : World} (hl : ι.length = h.length) (hb : ∀ i b, hget h i = some b → owns b = false ∧ ∃ p, ι[i]? = some p ∧ BlkR ι w p b) : RelH ι h w :=
  ⟨hl, fun i b hi => (hb i b hi).2, fun i j b c p q h1 h2 => by have := (hb i b h1).1; rw [h2] at this; cases this⟩
theorem below_of {ι κ : List Place} {h h' : Heap} {w w' : World} (g : Grow ι h w κ h' w') (hno : ∀ i b, hget h i = some b → owns b = false) : Below w.heap.size w w' :=
  ⟨g.os, g.tape, g.output, g.size, fun b hb => g.keep b hb fun i c p h1 h2 => by have := hno i c h1; rw [h2] at this; cases this⟩
/-- A law's run: it returns true, and nothing that stood has turned. -/
theorem law_run {f : FuncId} {args args' : List Value} {h : Heap} {ι : List Place} {w : World} (hf : Fn P f args h fun v _ => v = .bool true) (hl : ι.length = h.length) (hb : ∀ i b, hget h i = some b → owns b = false ∧ ∃ p, ι[i]? = some p ∧ BlkR ι w p b) (hv : VRs ι args args') :
    Calls P f args'.toArray w fun e w' => e = .returned (.bool true) ∧ Below w.heap.size w w' :=
  Calls.mono (hf.2 ι w args' (relH_of hl hb) hv) fun e w' ⟨κ, v, y, h', hR, he, hv, _, g⟩ => by
    subst hR; subst he
    exact ⟨by rw [hv.bool_inv], below_of g fun i b hi => (hb i b hi).1⟩
/-- A slice that is only read: l are its n cells. -/
def Row (H : Heap) (a : Option Addr) (n c : Nat) (l : List Value) : Prop :=
  l.length = n ∧ c ≠ OPEN ∧ n ≤ c ∧ ((a = none ∧ n = 0 ∧ c = 0) ∨ ∃ i k cs o u, a = some ⟨i, k, none⟩ ∧ hget H i = some (.cells cs o u) ∧ k + n ≤ cs.length ∧ (cs.drop k).take n = l)
theorem Row.get {H : Heap} {a : Option Addr} {n c : Nat} {l : List Value} (r : Row H a n c l) {j : Nat} (hj : j < n) :
    ∃ i k cs o u, a = some ⟨i, k, none⟩ ∧ hget H i = some (.cells cs o u) ∧ k + n ≤ cs.length ∧ cs[k + j]? = l[j]? := by
  obtain ⟨h1, _, _, h2⟩ := r
  rcases h2 with ⟨_, h, _⟩ | ⟨i, k, cs, o, u, rfl, hc, hk, rfl⟩
  · omega
  · exact ⟨i, k, cs, o, u, rfl, hc, hk, by rw [List.getElem?_take_of_lt hj, List.getElem?_drop]⟩
end Go.Sx
