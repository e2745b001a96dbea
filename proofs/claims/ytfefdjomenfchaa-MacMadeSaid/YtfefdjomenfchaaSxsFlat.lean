/-
  Walks by Sx; no condition beyond those that stand in each statement.
-/
import Derived.Test.YtfefdjomenfchaaSxsMacD
namespace Go.Proofs
open Go Go.Sx
set_option maxRecDepth 100000
def isU8b : Value → Bool
  | .int .u8 _ => true
  | _ => false
@[simp] theorem isU8b_int (n : Int) : isU8b (.int .u8 n) = true := rfl
theorem flatEq_u8b : ∀ (zs : List Value) (l m : List UInt8), zs.all isU8b = true → l.length = zs.length → m.length = zs.length → flatEq zs (u8s l) (u8s m) = some (l == m)
  | [], l, m, _, h1, h2 => by
    cases List.eq_nil_of_length_eq_zero h1
    cases List.eq_nil_of_length_eq_zero h2
    rfl
  | z :: zs, l, m, h, h1, h2 => by
    cases l with
    | nil => simp at h1
    | cons a l =>
      cases m with
      | nil => simp at h2
      | cons b m =>
        simp only [List.all_cons, Bool.and_eq_true] at h
        have ih := flatEq_u8b zs l m h.2 (by simpa using h1) (by simpa using h2)
        obtain ⟨z0, z1⟩ := h
        cases z with
        | int k n =>
          cases k <;> simp [isU8b] at z0
          have hu : ∀ (x : UInt8) (t : List UInt8), u8s (x :: t) = .int .u8 x.toNat :: u8s t := fun _ _ => rfl
          rw [hu, hu, flatEq, if_pos ⟨rfl, rfl⟩, ih]
          simp only [Option.map_some, Option.some.injEq]
          rw [List.cons_beq_cons]
          congr 1
          rw [Bool.eq_iff_iff]
          simp only [beq_iff_eq]
          constructor
          · intro e; exact UInt8.toNat_inj.1 (by omega)
          · rintro rfl; rfl
        | _ => simp [isU8b] at z0
end Go.Proofs
