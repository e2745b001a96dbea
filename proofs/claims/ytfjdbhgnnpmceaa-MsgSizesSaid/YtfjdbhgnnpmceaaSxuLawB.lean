/-
  Walks by Sx; no condition beyond those that stand in each statement.
-/
import Derived.Test.YtfjdbhgnnpmceaaSxuLawA
import Derived.Test.YtfjdbhgnnpmceaaChecked
namespace Go.Proofs
open Go Go.Sx
set_option maxRecDepth 100000
theorem cells3 : Try.prog.cellsOf 3 = 1 := by kernel_rfl
theorem cells4 : Try.prog.cellsOf 4 = 1 := by kernel_rfl
theorem cells22 : Try.prog.cellsOf 22 = 4 := by kernel_rfl
theorem typ_msg {h : Heap} {x : Value} (q : TypV Try.prog h 4 24 x) : ∃ m : Mg, x = .agg m.cells.toArray := by
  obtain ⟨cs, rfl, q2⟩ := typV_struct Try.underlying24 q
  unfold Typ at q2
  rw [Try.underlying24] at q2
  obtain ⟨hl, hf⟩ := q2
  rw [show Try.prog.cellsOf 24 = 12 by kernel_rfl] at hl
  match cs, hl with
  | [a0, a1, a2, a3, a4, a5, a6, a7, a8, a9, a10, a11], _ =>
    have f0 := hf 0 _ rfl
    simp [cells3] at f0
    obtain ⟨k0, g0, _⟩ := typ_int1 Try.underlying3 f0
    simp at g0; subst g0
    have f1 := hf 1 _ rfl
    simp [cells3] at f1
    obtain ⟨k1, g1, _⟩ := typ_int1 Try.underlying3 f1
    simp at g1; subst g1
    have f2 := hf 2 _ rfl
    simp [cells3] at f2
    obtain ⟨k2, g2, _⟩ := typ_int1 Try.underlying3 f2
    simp at g2; subst g2
    have f3 := hf 3 _ rfl
    simp [cells3] at f3
    obtain ⟨k3, g3, _⟩ := typ_int1 Try.underlying3 f3
    simp at g3; subst g3
    have f4 := hf 4 _ rfl
    simp [cells3] at f4
    obtain ⟨k4, g4, _⟩ := typ_int1 Try.underlying3 f4
    simp at g4; subst g4
    have f5 := hf 5 _ rfl
    simp [cells3] at f5
    obtain ⟨k5, g5, _⟩ := typ_int1 Try.underlying3 f5
    simp at g5; subst g5
    have f6 := hf 6 _ rfl
    simp [cells3] at f6
    obtain ⟨k6, g6, _⟩ := typ_int1 Try.underlying3 f6
    simp at g6; subst g6
    have f7 := hf 7 _ rfl
    simp [cells4] at f7
    obtain ⟨k7, g7⟩ := typ_bool1 Try.underlying4 f7
    simp at g7; subst g7
    have f8 := hf 8 _ rfl
    simp [cells22] at f8
    unfold Typ at f8
    rw [Try.underlying22] at f8
    obtain ⟨_, hx⟩ := f8
    have x0 := hx 0 (by omega)
    simp [cells3] at x0
    obtain ⟨m0, y0, _⟩ := typ_int1 Try.underlying3 x0
    simp at y0; subst y0
    have x1 := hx 1 (by omega)
    simp [cells3] at x1
    obtain ⟨m1, y1, _⟩ := typ_int1 Try.underlying3 x1
    simp at y1; subst y1
    have x2 := hx 2 (by omega)
    simp [cells3] at x2
    obtain ⟨m2, y2, _⟩ := typ_int1 Try.underlying3 x2
    simp at y2; subst y2
    have x3 := hx 3 (by omega)
    simp [cells3] at x3
    obtain ⟨m3, y3, _⟩ := typ_int1 Try.underlying3 x3
    simp at y3; subst y3
    exact ⟨⟨k0, k1, k2, k3, k4, k5, k6, k7, m0, m1, m2, m3⟩, rfl⟩
theorem typ_byte {h : Heap} {x : Value} (q : TypV Try.prog h 4 5 x) : ∃ w : UInt8, x = .int .u8 w.toNat := by
  obtain ⟨n, rfl, h1, h2⟩ := typV_int Try.underlying5 q
  have e1 : IntKind.u8.min = 0 := rfl
  have e2 : IntKind.u8.max = 255 := rfl
  rw [e1] at h1
  rw [e2] at h2
  exact ⟨UInt8.ofNat n.toNat, by simp; omega⟩
theorem msgFields_law {h : Heap} {x0 x1 : Value} (t0 : TypV Try.prog h 4 24 x0) (t1 : TypV Try.prog h 4 5 x1) :
    Sx.Fn Try.prog 3 [x0, x1] h fun v _ => v = .bool true := by
  obtain ⟨m, rfl⟩ := typ_msg t0
  obtain ⟨w, rfl⟩ := typ_byte t1
  exact msgFields_fn T_try Try.checked.mixed m w h
end Go.Proofs
