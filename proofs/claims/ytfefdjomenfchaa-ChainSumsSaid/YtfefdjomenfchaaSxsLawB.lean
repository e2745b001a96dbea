/-
  Walks by Sx; no condition beyond those that stand in each statement.
-/
import Derived.Test.YtfefdjomenfchaaSxsChainD
import Derived.Test.YtfefdjomenfchaaSxsLawA
namespace Go.Proofs
open Go Go.Sx
set_option maxRecDepth 100000
theorem wf_u8 {n : Int} (w : (Lit.int .u8 n).wf = true) : ∃ b : UInt8, n = b.toNat := by
  simp only [Lit.wf, Bool.and_eq_true, decide_eq_true_eq, IntKind.min, IntKind.max, IntKind.bits, IntKind.signed] at w
  simp at w
  exact ⟨UInt8.ofNat n.toNat, by simp; omega⟩
/-- Bytes of an array. -/
theorem typ_arr8 {h : Heap} {t : TypeId} {n : Nat} (hu : Try.prog.underlying t = some (.array n 5)) (hc : Try.prog.cellsOf t = n) {f : Nat} {cs : List Value} (q : Typ Try.prog h (f + 2) t cs) : ∃ l : List UInt8, l.length = n ∧ cs = u8s l := by
  unfold Typ at q
  rw [hu] at q
  simp only at q
  obtain ⟨hl, q⟩ := q
  have c5 : Try.prog.cellsOf 5 = 1 := by kernel_rfl
  rw [hc] at hl
  simp only [c5, Nat.mul_one] at q
  obtain ⟨bs, rfl⟩ := u8_list cs fun j hj => by
    have := q j (by omega)
    unfold Typ at this
    rw [Try.underlying5] at this
    exact this
  exact ⟨bs, by simpa using hl, rfl⟩
/-- Two heads. -/
theorem typ_two {h : Heap} {x : Value} {f : Nat} (q : TypV Try.prog h (f + 3) 48 x) : ∃ l : List UInt8, l.length = 64 ∧ x = .agg (u8s l).toArray := by
  unfold TypV at q
  rw [Try.underlying48] at q
  simp only at q
  obtain ⟨cs, rfl, q⟩ := q
  unfold Typ at q
  rw [Try.underlying48] at q
  simp only at q
  obtain ⟨hl, q⟩ := q
  have hc : Try.prog.cellsOf 48 = 64 := by kernel_rfl
  have c28 : Try.prog.cellsOf 28 = 32 := by kernel_rfl
  rw [hc] at hl
  rw [c28] at q
  obtain ⟨l0, h0, e0⟩ := typ_arr8 Try.underlying28 c28 (q 0 (by decide))
  obtain ⟨l1, h1, e1⟩ := typ_arr8 Try.underlying28 c28 (q 1 (by decide))
  refine ⟨l0 ++ l1, by simp [h0, h1], ?_⟩
  have e : cs.toList = u8s (l0 ++ l1) := by
    have a : cs.toList = (cs.toList.drop 0).take 32 ++ (cs.toList.drop 32).take 32 := by
      have hd : (cs.toList.drop 32).take 32 = cs.toList.drop 32 := List.take_of_length_le (by simp at hl ⊢; omega)
      rw [hd]; simp
    have e1' : (cs.toList.drop 32).take 32 = u8s l1 := e1
    rw [a, e0, e1']
    simp [u8s]
  rw [← e]
theorem chainSums_law {h : Heap} {x0 x1 x2 : Value} (t0 : TypV Try.prog h 4 48 x0) (t1 : TypV Try.prog h 4 43 x1) (t2 : TypV Try.prog h 4 43 x2) :
    Sx.Fn Try.prog 8 [x0, x1, x2] h fun v _ => v = .bool true := by
  obtain ⟨l, hl, rfl⟩ := typ_two t0
  obtain ⟨a, rfl⟩ := typ_rc t1
  obtain ⟨b, rfl⟩ := typ_rc t2
  exact (fn_plain (by simp only [List.all_cons, List.all_nil, Rc.plain, plain_u8s, Bool.and_true]) rfl (law23_ChainSums_fn T_try Try.checked.mixed l hl a b) (fun _ _ h => h) h).mono fun _ _ q => q.1
end Go.Proofs
