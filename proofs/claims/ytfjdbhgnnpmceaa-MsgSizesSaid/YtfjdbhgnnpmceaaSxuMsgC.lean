/-
  Walks by Sx; no condition beyond those that stand in each statement.
-/
import Derived.Test.YtfjdbhgnnpmceaaSxuMsgB
namespace Go.Proofs
open Go Go.Sx
set_option maxRecDepth 100000
attribute [local simp] xm
variable (T : TyOk Try.prog (tyOf Try.prog Try.eqs)) (hm : Try.prog.follows .mixedOrders = true)
theorem zerosN_4 (l : List Value) (n : Nat) : zerosN l (n + 1) = l ++ zerosN l n := rfl
/-- A plain field, as a value. -/
def pl (a b : Nat) (k : Nat) (lo hi : Int) (sz bx : Nat) : List Value :=
  [.pointer (some ⟨a, k, none⟩), .int .i64 lo, .int .i64 hi, .int .i64 sz, .func (.func 68) #[] #[.pointer (some ⟨bx, 0, none⟩)], .func (.func 69) #[] #[]]
theorem FR.nil {h : Heap} {mi ni : Nat} {cs : List Value} : FR h mi ni cs [] := fun j f hj => by simp at hj
theorem FR.cons {h : Heap} {mi ni : Nat} {cs : List Value} {fs : List Fs} {f : Fs} (bx : Nat) (ho : f.ok) (hb : f.ax = false → ∃ u, hget h bx = some (.cells [.int .i64 f.sz] true u) ∧ bx ≠ mi ∧ bx ≠ ni) (hr : FR h mi ni cs fs) : FR h mi ni (f.cells mi ni bx ++ cs) (f :: fs) := by
  intro j g hj
  have hl : (f.cells mi ni bx).length = 6 := rfl
  cases j with
  | zero =>
    simp at hj; subst hj
    refine ⟨ho, bx, ?_, hb⟩
    unfold slc
    rw [if_pos (by simp [hl])]
    simp [← hl]
  | succ j =>
    simp at hj
    obtain ⟨h1, b, h2, h3⟩ := hr j g hj
    refine ⟨h1, b, ?_, h3⟩
    obtain ⟨q1, q2⟩ := slc_some h2
    unfold slc
    rw [if_pos (by simp [hl]; omega), q2, List.drop_append, List.drop_eq_nil_of_le (by omega), List.nil_append, show (j + 1) * 6 - (f.cells mi ni bx).length = j * 6 by rw [hl]; omega]
theorem FR.snoc {h : Heap} {mi ni : Nat} {cs : List Value} {fs : List Fs} {f : Fs} (bx : Nat) (hl : cs.length = fs.length * 6) (hr : FR h mi ni cs fs) (ho : f.ok) (hb : f.ax = false → ∃ u, hget h bx = some (.cells [.int .i64 f.sz] true u) ∧ bx ≠ mi ∧ bx ≠ ni) : FR h mi ni (cs ++ f.cells mi ni bx) (fs ++ [f]) := by
  intro j g hj
  have hl2 : (f.cells mi ni bx).length = 6 := rfl
  by_cases hjl : j < fs.length
  · rw [List.getElem?_append_left hjl] at hj
    obtain ⟨h1, b, h2, h3⟩ := hr j g hj
    refine ⟨h1, b, ?_, h3⟩
    obtain ⟨q1, q2⟩ := slc_some h2
    unfold slc
    rw [if_pos (by simp; omega), q2, List.drop_append_of_le_length (by omega), List.take_append_of_le_length (by simp; omega)]
  · have hje : j = fs.length := by
      have := (List.getElem?_eq_some_iff.1 hj).1
      simp at this; omega
    subst hje
    simp at hj; subst hj
    refine ⟨ho, bx, ?_, hb⟩
    unfold slc
    rw [if_pos (by simp [hl2]; omega), ← hl, List.drop_left]
    simp [← hl2]
theorem FR.mono {h h' : Heap} (g : Agree h h') {mi ni : Nat} {cs : List Value} {fs : List Fs} (hr : FR h mi ni cs fs) : FR h' mi ni cs fs := by
  intro j f hj
  obtain ⟨h1, b, h2, h3⟩ := hr j f hj
  exact ⟨h1, b, h2, fun q => let ⟨u, a, b⟩ := h3 q; ⟨u, g _ _ a, b⟩⟩
def sF : Fs := ⟨false, 1, 0, 4294967295, 4, false⟩
def eF : Fs := ⟨false, 4, 0, 65535, 2, false⟩
def xF (i : Nat) : Fs := ⟨false, i, -32768, 32767, 2, true⟩
/-- The fields of a message, by its kind. -/
def msgFs (k : Int) : Option (List Fs) :=
  if k = 1 then some [⟨false, 2, 0, 3, 1, false⟩] else if k = 2 then some [⟨false, 2, 0, 3, 1, false⟩]
  else if k = 3 then some [sF] else if k = 4 then some [sF] else if k = 5 then some [sF, ⟨true, 0, 0, 1, 1, false⟩] else if k = 6 then some [sF, ⟨false, 3, 0, 4, 1, false⟩]
  else if k = 7 then some [sF, eF] else if k = 8 then some [sF] else if k = 9 then some [sF] else if k = 10 then some [sF, eF, ⟨false, 5, 0, 4, 1, false⟩]
  else if k = 11 then some [sF, eF, ⟨false, 6, 1, 3, 1, false⟩, xF 8, xF 9, xF 10, xF 11] else none
include T
theorem plain_fn (a k : Nat) (lo hi : Int) (sz : Nat) (H : Heap) :
    Sx.Fn Try.prog 60 [.pointer (some ⟨a, k, none⟩), .int .i64 sz, .int .i64 lo, .int .i64 hi] H fun r h => r = .agg (pl a a k lo hi sz H.length).toArray ∧ h = H ++ [some (.cells [.int .i64 sz] true 0), some (.cells (pl a a k lo hi sz H.length) true 0)] := by
  refine fn_w T xm Try.func60 rfl (by kernel_rfl) Try.results60 Try.ntmps60 (by simp) fun R hR => ?_
  simp
  exact Ans.refl (hR _ _ ⟨rfl, rfl⟩)
theorem seq_fn (a k : Nat) (H : Heap) :
    Sx.Fn Try.prog 57 [.pointer (some ⟨a, k, none⟩)] H fun r h => r = .agg (pl a a k 0 4294967295 4 (H.length + 1)).toArray ∧ ∃ x y, h = H ++ [x, some (.cells [.int .i64 4] true 0), y] := by
  refine fn_w T xm Try.func57 rfl (by kernel_rfl) Try.results57 Try.ntmps57 (by simp) fun R hR => ?_
  simp
  refine CallK.is (plain_fn T a k 0 4294967295 4 _) ?_
  simp [pl]
  exact Ans.refl (hR _ _ ⟨rfl, _, _, rfl⟩)
theorem epoch_fn (a k : Nat) (H : Heap) :
    Sx.Fn Try.prog 58 [.pointer (some ⟨a, k, none⟩)] H fun r h => r = .agg (pl a a k 0 65535 2 (H.length + 1)).toArray ∧ ∃ x y, h = H ++ [x, some (.cells [.int .i64 2] true 0), y] := by
  refine fn_w T xm Try.func58 rfl (by kernel_rfl) Try.results58 Try.ntmps58 (by simp) fun R hR => ?_
  simp
  refine CallK.is (plain_fn T a k 0 65535 2 _) ?_
  simp [pl]
  exact Ans.refl (hR _ _ ⟨rfl, _, _, rfl⟩)
theorem one_fn (a k : Nat) (m : Int) (H : Heap) :
    Sx.Fn Try.prog 59 [.pointer (some ⟨a, k, none⟩), .int .i64 m] H fun r h => r = .agg (pl a a k 0 m 1 (H.length + 1)).toArray ∧ ∃ x y, h = H ++ [x, some (.cells [.int .i64 1] true 0), y] := by
  refine fn_w T xm Try.func59 rfl (by kernel_rfl) Try.results59 Try.ntmps59 (by simp) fun R hR => ?_
  simp
  refine CallK.is (plain_fn T a k 0 m 1 _) ?_
  simp [pl]
  exact Ans.refl (hR _ _ ⟨rfl, _, _, rfl⟩)
theorem axis_fn (a k : Nat) (H : Heap) :
    Sx.Fn Try.prog 61 [.pointer (some ⟨a, k, none⟩)] H fun r h => r = .agg (Fs.cells a a 0 (xF k)).toArray ∧ ∃ x, h = H ++ [x] := by
  refine fn_w T xm Try.func61 rfl (by kernel_rfl) Try.results61 Try.ntmps61 (by simp) fun R hR => ?_
  simp
  exact Ans.refl (hR _ _ ⟨rfl, _, rfl⟩)
end Go.Proofs
