/-
  Sx, part D: soundness of the operations that leave the heap as it is. Own words; no condition.
-/
import Derived.Test.YtfefdjomenfchaaSxC
namespace Go.Sx
open Go
variable {P : Program} {ty : TypeId → Option TD}

theorem guard_ints (op : BinOp) (t : TypeId) (X Y : Operand) (k k' : IntKind) (a b : Int) (w : World) : (eqGuard op t X Y (.int k a) (.int k' b)).run P w = .ok () w := by
  cases op <;> simp [eqGuard]
theorem guard_strings (op : BinOp) (t : TypeId) (X Y : Operand) (a b : ByteArray) (w : World) : (eqGuard op t X Y (.string a) (.string b)).run P w = .ok () w := by
  cases op <;> simp [eqGuard]
theorem run_bin_int {op : BinOp} {d : TD} {k k' : IntKind} {a b : Int} {v : Value} (h : binC op d (.int k a) (.int k' b) = some v) (t : TypeId) (w : World) :
    closed1 v = true ∧ (binOp op t (.int k a) (.int k' b)).run P w = .ok v w := by
  cases op <;> simp only [binC, intC, cmpC, Option.ite_none_right_eq_some, Option.ite_none_left_eq_some, Option.some.injEq] at h
  case shl => obtain ⟨h0, rfl⟩ := h; exact ⟨rfl, by simp [binOp, Op.shift, Int.not_lt.2 h0]⟩
  case shr => obtain ⟨h0, rfl⟩ := h; exact ⟨rfl, by simp [binOp, Op.shift, Int.not_lt.2 h0]⟩
  case quo => obtain ⟨rfl, h0, rfl⟩ := h; exact ⟨rfl, by simp [binOp, Op.intDiv, h0]⟩
  case rem => obtain ⟨rfl, h0, rfl⟩ := h; exact ⟨rfl, by simp [binOp, Op.intDiv, h0]⟩
  all_goals obtain ⟨rfl, rfl⟩ := h
  all_goals exact ⟨rfl, by simp [binOp, Op.intArith, Op.intBits, Op.intCmp, Go.bits, bne]⟩
theorem run_bin_string {op : BinOp} {d : TD} {a b : ByteArray} {v : Value} (h : binC op d (.string a) (.string b) = some v) (t : TypeId) (w : World) :
    closed1 v = true ∧ (binOp op t (.string a) (.string b)).run P w = .ok v w := by
  cases op <;> simp only [binC, strC, Option.ite_none_right_eq_some, Option.some.injEq, reduceCtorEq] at h
  case add =>
    obtain ⟨h0, rfl⟩ := h
    refine ⟨rfl, ?_⟩
    have h1 : ¬ (((a.size + b.size : Nat) : Int) > IntKind.i64.max) := by
      have : IntKind.i64.max = 9223372036854775807 := rfl
      rw [this]; omega
    simp only [binOp, Op.stringOp]
    rw [if_neg h1]; rfl
  all_goals subst h
  all_goals exact ⟨rfl, by simp [binOp, Op.stringOp]⟩
theorem eq_bool {t : TypeId} {w : World} (hu : (Go.underlying t).run P w = .ok .bool w) (n : Nat) (a b : Bool) : (Op.equalIn (n + 1) t (.bool a) (.bool b)).run P w = .ok (a == b) w := by
  simp [Op.equalIn, hu]
theorem eq_ptr_none {t e : TypeId} {w : World} (hu : (Go.underlying t).run P w = .ok (.pointer e) w) (n : Nat) (b : Option Addr) : (Op.equalIn (n + 1) t (.pointer none) (.pointer b)).run P w = .ok b.isNone w := by
  simp [Op.equalIn, hu]
theorem eq_ptr_some {t e : TypeId} {w : World} (hu : (Go.underlying t).run P w = .ok (.pointer e) w) (n : Nat) (a : Addr) : (Op.equalIn (n + 1) t (.pointer (some a)) (.pointer none)).run P w = .ok false w := by
  simp [Op.equalIn, hu]
theorem eq_slice {t e : TypeId} {w : World} (hu : (Go.underlying t).run P w = .ok (.slice e) w) (n : Nat) (a : Option Addr) (l c l' c' : Nat) : (Op.equalIn (n + 1) t (.slice a l c) (.slice none l' c')).run P w = .ok a.isNone w := by
  cases a <;> simp [Op.equalIn, hu]
theorem equal_eq (t : TypeId) (x y : Value) : Op.equal t x y = Op.equalIn (9999 + 1) t x y := rfl
theorem run_eq (T : TyOk P ty) {ι : List Place} {t : TypeId} {d : TD} (ht : ty t = some d) {x y : Value} {b : Bool} (h : eqC d x y = some b) {x' y' : Value} (hx : VR ι x x') (hy : VR ι y y') (X Y : Operand) (op : BinOp) (w : World) :
    (eqGuard op t X Y x' y').run P w = .ok () w ∧ (Op.equal t x' y').run P w = .ok b w ∧ (∀ k n, x' ≠ .int k n) ∧ (∀ s, x' ≠ .string s) ∧ (∀ k n, x' ≠ .float k n) ∧ (∀ k n m, x' ≠ .complex k n m) := by
  have hu := T.underlying ht w
  cases x with
  | bool a =>
    simp only [eqC] at h
    split at h
    · rename_i b'
      split at h
      · rename_i hd
        rw [hd] at hu
        simp at h; subst h
        obtain rfl := hx.bool_inv
        obtain rfl := hy.bool_inv
        exact ⟨by cases op <;> simp [eqGuard], by rw [equal_eq]; exact eq_bool hu _ _ _, by simp, by simp, by simp, by simp⟩
      · simp at h
    · simp at h
  | agg xs =>
    simp only [eqC] at h
    split at h
    · rename_i ys
      split at h
      · rename_i he
        obtain ⟨c1, c2, _, _⟩ := flatEq_self h
        obtain ⟨xs', rfl, rx⟩ := hx.agg_inv
        obtain ⟨ys', rfl, ry⟩ := hy.agg_inv
        have e1 := rx.closed_inv c1
        have e2 := ry.closed_inv c2
        have e1' : xs' = xs := by cases xs; cases xs'; simp at e1; simp [e1]
        have e2' : ys' = ys := by cases ys; cases ys'; simp at e2; simp [e2]
        subst e1'; subst e2'
        obtain ⟨q1, q2⟩ := T.eqf t d ht he w xs'.toList ys'.toList b h
        refine ⟨?_, by simpa using q1, by simp, by simp, by simp, by simp⟩
        cases op <;> simp [eqGuard, q2]
      · simp at h
    · simp at h
  | pointer a =>
    cases a with
    | none =>
      simp only [eqC] at h
      split at h
      · rename_i c
        split at h
        · rename_i e hd
          rw [hd] at hu
          simp at h; subst h
          obtain rfl := hx.closed_inv rfl
          have : ∃ c', y' = .pointer c' ∧ c'.isNone = c.isNone := by
            cases c with
            | none => exact ⟨none, hy.closed_inv rfl, rfl⟩
            | some a => obtain ⟨i, k, p, _, _, rfl⟩ := hy.ptr_inv'; exact ⟨_, rfl, rfl⟩
          obtain ⟨c', rfl, hc⟩ := this
          exact ⟨by cases op <;> simp [eqGuard], by rw [equal_eq, ← hc]; exact eq_ptr_none hu _ _, by simp, by simp, by simp, by simp⟩
        · simp at h
      · simp at h
    | some a =>
      simp only [eqC] at h
      split at h
      · split at h
        · rename_i e hd
          rw [hd] at hu
          simp at h; subst h
          obtain rfl := hy.closed_inv rfl
          obtain ⟨i, k, p, _, _, rfl⟩ := hx.ptr_inv'
          exact ⟨by cases op <;> simp [eqGuard], by rw [equal_eq]; exact eq_ptr_some hu _ _, by simp, by simp, by simp, by simp⟩
        · simp at h
      · simp at h
  | slice a n c =>
    simp only [eqC] at h
    split at h
    · split at h
      · rename_i e hd
        rw [hd] at hu
        simp only [Option.ite_none_left_eq_some, Option.some.injEq] at h
        obtain ⟨hno, rfl⟩ := h
        obtain rfl := hy.closed_inv rfl
        have : ∃ a' n' c', x' = .slice a' n' c' ∧ a'.isNone = a.isNone := by
          cases a with
          | none => exact ⟨none, n, c, hx.closed_inv rfl, rfl⟩
          | some a =>
            rcases hx.slice_inv with ⟨i, k, p, _, _, _, rfl⟩ | ⟨i, k, p, c, _, _, _, _, _, rfl⟩ | ⟨b, _, _, rfl, _⟩ | ⟨e1, e2, _⟩
            iterate 3 exact ⟨_, _, _, rfl, rfl⟩
            exact absurd ⟨e1, e2⟩ hno
        obtain ⟨a', n', c', rfl, ha⟩ := this
        exact ⟨by cases op <;> simp [eqGuard], by rw [equal_eq, ← ha]; exact eq_slice hu _ _ _ _ _ _, by simp, by simp, by simp, by simp⟩
      · simp at h
    · simp at h
  | _ => simp [eqC] at h
theorem run_bin (T : TyOk P ty) {ι : List Place} {op : BinOp} {t : TypeId} {d : TD} (ht : ty t = some d) {x y v : Value} (h : binC op d x y = some v) {x' y' : Value} (hx : VR ι x x') (hy : VR ι y y') (X Y : Operand) (w : World) :
    ∃ z, (do eqGuard op t X Y x' y'; binOp op t x' y' : Sem Value).run P w = .ok z w ∧ VR ι v z := by
  have rest : ∀ b : Bool, (op = .eql ∧ v = .bool b ∨ op = .neq ∧ v = .bool (!b)) → eqC d x y = some b → ∃ z, (do eqGuard op t X Y x' y'; binOp op t x' y' : Sem Value).run P w = .ok z w ∧ VR ι v z := by
    intro b hop hb
    obtain ⟨g1, g2, n1, n2, n3, n4⟩ := run_eq T ht hb hx hy X Y op w
    rcases hop with ⟨rfl, rfl⟩ | ⟨rfl, rfl⟩
    · refine ⟨.bool b, ?_, .same _ rfl⟩
      simp only [Sem.run_bind, g1, Result.andThen_ok]
      cases x' <;> first
        | exact absurd rfl (n1 _ _)
        | exact absurd rfl (n2 _)
        | exact absurd rfl (n3 _ _)
        | exact absurd rfl (n4 _ _ _)
        | simp [binOp, g2]
    · refine ⟨.bool (!b), ?_, .same _ rfl⟩
      simp only [Sem.run_bind, g1, Result.andThen_ok]
      cases x' <;> first
        | exact absurd rfl (n1 _ _)
        | exact absurd rfl (n2 _)
        | exact absurd rfl (n3 _ _)
        | exact absurd rfl (n4 _ _ _)
        | simp [binOp, g2]
  cases x with
  | int k a =>
    cases y with
    | int k' b =>
      obtain rfl := hx.int_inv
      obtain rfl := hy.int_inv
      obtain ⟨h1, h2⟩ := run_bin_int (P := P) h t w
      exact ⟨v, by simp [guard_ints, h2], .same _ h1⟩
    | _ => simp [binC] at h
  | string a =>
    cases y with
    | string b =>
      obtain rfl := hx.string_inv
      obtain rfl := hy.string_inv
      obtain ⟨h1, h2⟩ := run_bin_string (P := P) h t w
      exact ⟨v, by simp [guard_strings, h2], .same _ h1⟩
    | _ => simp [binC] at h
  | _ =>
    cases op <;> simp only [binC, reduceCtorEq, Option.map_eq_some_iff] at h
    · obtain ⟨b, hb, rfl⟩ := h; exact rest b (.inl ⟨rfl, rfl⟩) hb
    · obtain ⟨b, hb, rfl⟩ := h; exact rest b (.inr ⟨rfl, rfl⟩) hb
theorem run_un {ι : List Place} {op : UnOp} {x v : Value} (h : unC op x = some v) {x' : Value} (hx : VR ι x x') (w : World) : ∃ z, (Op.unary op x').run P w = .ok z w ∧ VR ι v z := by
  cases op with
  | not =>
    cases x <;> simp [unC] at h
    subst h
    obtain rfl := hx.bool_inv
    exact ⟨_, by simp [Op.unary], .same _ rfl⟩
  | neg =>
    cases x <;> simp [unC] at h
    subst h
    obtain rfl := hx.int_inv
    exact ⟨_, by simp [Op.unary, Op.intArith], .same _ rfl⟩
  | xor =>
    cases x <;> simp [unC] at h
    subst h
    obtain rfl := hx.int_inv
    exact ⟨_, by simp [Op.unary, Op.intBits, Go.bits], .same _ rfl⟩
  | plus => simp [unC] at h
end Go.Sx
