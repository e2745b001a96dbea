/-
  Walks by Sx; no condition beyond those that stand in each statement.
-/
import Derived.Test.YtfjdbhgnnpmceaaSxb0
import Derived.Laws.BytesString
section
/-
  Sx, part D: soundness of the operations that leave the heap as it is. Own words; no condition.
-/
namespace Go.Sx
open Go
variable {P : Program} {ty : TypeId → Option TD}

theorem guard_ints (op : BinOp) (t : TypeId) (X Y : Operand) (k k' : IntKind) (a b : Int) (w : World) : (eqGuard op t X Y (.int k a) (.int k' b)).run P w = .ok () w := by
  cases op <;> simp [eqGuard]
theorem guard_strings (op : BinOp) (t : TypeId) (X Y : Operand) (a b : ByteArray) (w : World) : (eqGuard op t X Y (.string a) (.string b)).run P w = .ok () w := by
  cases op <;> simp [eqGuard]
theorem run_bin_int {op : BinOp} {d : TD} {k k' : IntKind} {a b : Int} {v : Value} (h : binC op d (.int k a) (.int k' b) = some v) (t : TypeId) (w : World) :
    closed1 v = true ∧ (binOp op t (.int k a) (.int k' b)).run P w = .ok v w := by
  cases op <;> simp only [binC, intC, cmpC, Option.ite_none_right_eq_some, Option.ite_none_left_eq_some, Option.some.injEq] at h
  case shl => obtain ⟨h0, rfl⟩ := h; exact ⟨rfl, by simp [binOp, Op.shift, Int.not_lt.2 h0]⟩
  case shr => obtain ⟨h0, rfl⟩ := h; exact ⟨rfl, by simp [binOp, Op.shift, Int.not_lt.2 h0]⟩
  case quo => obtain ⟨rfl, h0, rfl⟩ := h; exact ⟨rfl, by simp [binOp, Op.intDiv, h0]⟩
  case rem => obtain ⟨rfl, h0, rfl⟩ := h; exact ⟨rfl, by simp [binOp, Op.intDiv, h0]⟩
  all_goals obtain ⟨rfl, rfl⟩ := h
  all_goals exact ⟨rfl, by simp [binOp, Op.intArith, Op.intBits, Op.intCmp, Go.bits, bne]⟩
theorem run_bin_string {op : BinOp} {d : TD} {a b : ByteArray} {v : Value} (h : binC op d (.string a) (.string b) = some v) (t : TypeId) (w : World) :
    closed1 v = true ∧ (binOp op t (.string a) (.string b)).run P w = .ok v w := by
  cases op <;> simp only [binC, strC, Option.ite_none_right_eq_some, Option.some.injEq, reduceCtorEq] at h
  case add =>
    obtain ⟨h0, rfl⟩ := h
    refine ⟨rfl, ?_⟩
    have h1 : ¬ (((a.size + b.size : Nat) : Int) > IntKind.i64.max) := by
      have : IntKind.i64.max = 9223372036854775807 := rfl
      rw [this]; omega
    simp only [binOp, Op.stringOp]
    rw [if_neg h1]; rfl
  all_goals subst h
  all_goals exact ⟨rfl, by simp [binOp, Op.stringOp]⟩
theorem eq_bool {t : TypeId} {w : World} (hu : (Go.underlying t).run P w = .ok .bool w) (n : Nat) (a b : Bool) : (Op.equalIn (n + 1) t (.bool a) (.bool b)).run P w = .ok (a == b) w := by
  simp [Op.equalIn, hu]
theorem eq_ptr_none {t e : TypeId} {w : World} (hu : (Go.underlying t).run P w = .ok (.pointer e) w) (n : Nat) (b : Option Addr) : (Op.equalIn (n + 1) t (.pointer none) (.pointer b)).run P w = .ok b.isNone w := by
  simp [Op.equalIn, hu]
theorem eq_ptr_some {t e : TypeId} {w : World} (hu : (Go.underlying t).run P w = .ok (.pointer e) w) (n : Nat) (a : Addr) : (Op.equalIn (n + 1) t (.pointer (some a)) (.pointer none)).run P w = .ok false w := by
  simp [Op.equalIn, hu]
theorem eq_slice {t e : TypeId} {w : World} (hu : (Go.underlying t).run P w = .ok (.slice e) w) (n : Nat) (a : Option Addr) (l c l' c' : Nat) : (Op.equalIn (n + 1) t (.slice a l c) (.slice none l' c')).run P w = .ok a.isNone w := by
  cases a <;> simp [Op.equalIn, hu]
theorem equal_eq (t : TypeId) (x y : Value) : Op.equal t x y = Op.equalIn (9999 + 1) t x y := rfl
theorem run_eq (T : TyOk P ty) {ι : List Place} {t : TypeId} {d : TD} (ht : ty t = some d) {x y : Value} {b : Bool} (h : eqC d x y = some b) {x' y' : Value} (hx : VR ι x x') (hy : VR ι y y') (X Y : Operand) (op : BinOp) (w : World) :
    (eqGuard op t X Y x' y').run P w = .ok () w ∧ (Op.equal t x' y').run P w = .ok b w ∧ (∀ k n, x' ≠ .int k n) ∧ (∀ s, x' ≠ .string s) ∧ (∀ k n, x' ≠ .float k n) ∧ (∀ k n m, x' ≠ .complex k n m) := by
  have hu := T.underlying ht w
  cases x with
  | bool a =>
    simp only [eqC] at h
    split at h
    · rename_i b'
      split at h
      · rename_i hd
        rw [hd] at hu
        simp at h; subst h
        obtain rfl := hx.bool_inv
        obtain rfl := hy.bool_inv
        exact ⟨by cases op <;> simp [eqGuard], by rw [equal_eq]; exact eq_bool hu _ _ _, by simp, by simp, by simp, by simp⟩
      · simp at h
    · simp at h
  | agg xs =>
    simp only [eqC] at h
    split at h
    · rename_i ys
      split at h
      · rename_i he
        obtain ⟨c1, c2, _, _⟩ := flatEq_self h
        obtain ⟨xs', rfl, rx⟩ := hx.agg_inv
        obtain ⟨ys', rfl, ry⟩ := hy.agg_inv
        have e1 := rx.closed_inv c1
        have e2 := ry.closed_inv c2
        have e1' : xs' = xs := by cases xs; cases xs'; simp at e1; simp [e1]
        have e2' : ys' = ys := by cases ys; cases ys'; simp at e2; simp [e2]
        subst e1'; subst e2'
        obtain ⟨q1, q2⟩ := T.eqf t d ht he w xs'.toList ys'.toList b h
        refine ⟨?_, by simpa using q1, by simp, by simp, by simp, by simp⟩
        cases op <;> simp [eqGuard, q2]
      · simp at h
    · simp at h
  | pointer a =>
    cases a with
    | none =>
      simp only [eqC] at h
      split at h
      · rename_i c
        split at h
        · rename_i e hd
          rw [hd] at hu
          simp at h; subst h
          obtain rfl := hx.closed_inv rfl
          have : ∃ c', y' = .pointer c' ∧ c'.isNone = c.isNone := by
            cases c with
            | none => exact ⟨none, hy.closed_inv rfl, rfl⟩
            | some a => obtain ⟨i, k, p, _, _, rfl⟩ := hy.ptr_inv'; exact ⟨_, rfl, rfl⟩
          obtain ⟨c', rfl, hc⟩ := this
          exact ⟨by cases op <;> simp [eqGuard], by rw [equal_eq, ← hc]; exact eq_ptr_none hu _ _, by simp, by simp, by simp, by simp⟩
        · simp at h
      · simp at h
    | some a =>
      simp only [eqC] at h
      split at h
      · split at h
        · rename_i e hd
          rw [hd] at hu
          simp at h; subst h
          obtain rfl := hy.closed_inv rfl
          obtain ⟨i, k, p, _, _, rfl⟩ := hx.ptr_inv'
          exact ⟨by cases op <;> simp [eqGuard], by rw [equal_eq]; exact eq_ptr_some hu _ _, by simp, by simp, by simp, by simp⟩
        · simp at h
      · simp at h
  | slice a n c =>
    simp only [eqC] at h
    split at h
    · split at h
      · rename_i e hd
        rw [hd] at hu
        simp only [Option.ite_none_left_eq_some, Option.some.injEq] at h
        obtain ⟨hno, rfl⟩ := h
        obtain rfl := hy.closed_inv rfl
        have : ∃ a' n' c', x' = .slice a' n' c' ∧ a'.isNone = a.isNone := by
          cases a with
          | none => exact ⟨none, n, c, hx.closed_inv rfl, rfl⟩
          | some a =>
            rcases hx.slice_inv with ⟨i, k, p, _, _, _, rfl⟩ | ⟨i, k, p, c, _, _, _, _, _, rfl⟩ | ⟨b, _, _, rfl, _⟩ | ⟨e1, e2, _⟩
            iterate 3 exact ⟨_, _, _, rfl, rfl⟩
            exact absurd ⟨e1, e2⟩ hno
        obtain ⟨a', n', c', rfl, ha⟩ := this
        exact ⟨by cases op <;> simp [eqGuard], by rw [equal_eq, ← ha]; exact eq_slice hu _ _ _ _ _ _, by simp, by simp, by simp, by simp⟩
      · simp at h
    · simp at h
  | _ => simp [eqC] at h
theorem run_bin (T : TyOk P ty) {ι : List Place} {op : BinOp} {t : TypeId} {d : TD} (ht : ty t = some d) {x y v : Value} (h : binC op d x y = some v) {x' y' : Value} (hx : VR ι x x') (hy : VR ι y y') (X Y : Operand) (w : World) :
    ∃ z, (do eqGuard op t X Y x' y'; binOp op t x' y' : Sem Value).run P w = .ok z w ∧ VR ι v z := by
  have rest : ∀ b : Bool, (op = .eql ∧ v = .bool b ∨ op = .neq ∧ v = .bool (!b)) → eqC d x y = some b → ∃ z, (do eqGuard op t X Y x' y'; binOp op t x' y' : Sem Value).run P w = .ok z w ∧ VR ι v z := by
    intro b hop hb
    obtain ⟨g1, g2, n1, n2, n3, n4⟩ := run_eq T ht hb hx hy X Y op w
    rcases hop with ⟨rfl, rfl⟩ | ⟨rfl, rfl⟩
    · refine ⟨.bool b, ?_, .same _ rfl⟩
      simp only [Sem.run_bind, g1, Result.andThen_ok]
      cases x' <;> first
        | exact absurd rfl (n1 _ _)
        | exact absurd rfl (n2 _)
        | exact absurd rfl (n3 _ _)
        | exact absurd rfl (n4 _ _ _)
        | simp [binOp, g2]
    · refine ⟨.bool (!b), ?_, .same _ rfl⟩
      simp only [Sem.run_bind, g1, Result.andThen_ok]
      cases x' <;> first
        | exact absurd rfl (n1 _ _)
        | exact absurd rfl (n2 _)
        | exact absurd rfl (n3 _ _)
        | exact absurd rfl (n4 _ _ _)
        | simp [binOp, g2]
  cases x with
  | int k a =>
    cases y with
    | int k' b =>
      obtain rfl := hx.int_inv
      obtain rfl := hy.int_inv
      obtain ⟨h1, h2⟩ := run_bin_int (P := P) h t w
      exact ⟨v, by simp [guard_ints, h2], .same _ h1⟩
    | _ => simp [binC] at h
  | string a =>
    cases y with
    | string b =>
      obtain rfl := hx.string_inv
      obtain rfl := hy.string_inv
      obtain ⟨h1, h2⟩ := run_bin_string (P := P) h t w
      exact ⟨v, by simp [guard_strings, h2], .same _ h1⟩
    | _ => simp [binC] at h
  | _ =>
    cases op <;> simp only [binC, reduceCtorEq, Option.map_eq_some_iff] at h
    · obtain ⟨b, hb, rfl⟩ := h; exact rest b (.inl ⟨rfl, rfl⟩) hb
    · obtain ⟨b, hb, rfl⟩ := h; exact rest b (.inr ⟨rfl, rfl⟩) hb
theorem run_un {ι : List Place} {op : UnOp} {x v : Value} (h : unC op x = some v) {x' : Value} (hx : VR ι x x') (w : World) : ∃ z, (Op.unary op x').run P w = .ok z w ∧ VR ι v z := by
  cases op with
  | not =>
    cases x <;> simp [unC] at h
    subst h
    obtain rfl := hx.bool_inv
    exact ⟨_, by simp [Op.unary], .same _ rfl⟩
  | neg =>
    cases x <;> simp [unC] at h
    subst h
    obtain rfl := hx.int_inv
    exact ⟨_, by simp [Op.unary, Op.intArith], .same _ rfl⟩
  | xor =>
    cases x <;> simp [unC] at h
    subst h
    obtain rfl := hx.int_inv
    exact ⟨_, by simp [Op.unary, Op.intBits, Go.bits], .same _ rfl⟩
  | plus => simp [unC] at h
end Go.Sx
end
section
/-
  Sx, part E: soundness of the operations that leave the heap as it is, all of them. Own words; no condition.
-/
namespace Go.Sx
open Go
variable {P : Program} {ty : TypeId → Option TD}

theorem strOf_ints : ∀ {l : List Value} {b : List UInt8}, strOf l = some b → ∃ ns : List Int, l = ns.map (Value.int .u8) ∧ b = ns.map fun n => UInt8.ofNat n.toNat
  | [], b, h => by simp [strOf] at h; subst h; exact ⟨[], rfl, rfl⟩
  | v :: r, b, h => by
    simp only [strOf, Option.bind_eq_some_iff, Option.map_eq_some_iff] at h
    obtain ⟨c, hc, t, ht, rfl⟩ := h
    obtain ⟨ns, h1, h2⟩ := strOf_ints ht
    unfold byteOf at hc
    split at hc
    · rename_i k n
      split at hc
      · simp at hc; subst hc
        exact ⟨n :: ns, by simp [h1], by simp [h2]⟩
      · simp at hc
    · simp at hc
theorem foldl_push (ns : List Int) : ∀ s : ByteArray, ns.foldl (fun r n => r.push (UInt8.ofNat n.toNat)) s = ⟨(s.data.toList ++ ns.map fun n => UInt8.ofNat n.toNat).toArray⟩ := by
  induction ns with
  | nil => intro s; cases s; simp
  | cons n ns ih => intro s; rw [List.foldl_cons, ih]; cases s; simp [ByteArray.push]
theorem ints_inv {ι : List Place} {k : IntKind} : ∀ {ns : List Int} {l : List Value}, VRs ι (ns.map (Value.int k)) l → l = ns.map (Value.int k) := fun h => h.closed_inv (by simp [closed1])
/-- The cells of a slice, loaded. -/
theorem row_load {ι : List Place} {h : Heap} {w : World} (R : RelH ι h w) {size : Nat} {a : Option Addr} {n c : Nat} {l : List Value} (hr : rowOf size h (.slice a n c) = some l) {x : Value} (hx : VR ι (.slice a n c) x) :
    (l = [] ∧ ∃ c', x = .slice none n c') ∨ ∃ b l' c', x = .slice (some b) n c' ∧ VRs ι l l' ∧ l'.length = n * size ∧ (loadCells b (n * size)).run P w = .ok l'.toArray w := by
  cases a with
  | none =>
    simp [rowOf] at hr
    exact .inl ⟨hr, _, hx.closed_inv rfl⟩
  | some a =>
    rcases hx.slice_inv with ⟨i, k, p, rfl, hp, _, rfl⟩ | ⟨i, k, p, c', rfl, _, hp, _, _, rfl⟩ | ⟨b, _, rfl, rfl, _⟩ | ⟨_, rfl, rfl, i, k, p, rfl, hp⟩
    · simp only [rowOf, Option.bind_eq_some_iff] at hr
      obtain ⟨cs, hcs, hs⟩ := hr
      obtain ⟨l', h1, h2, h3⟩ := cells_row (R.cells hcs hp) hs
      have hrun := run_loadCells_list (P := P) (w := w) ⟨p.block, p.off + k, none⟩ l' h3
      rw [h2] at hrun
      exact .inr ⟨_, l', c, rfl, h1, h2, hrun⟩
    · simp only [rowOf, Option.bind_eq_some_iff] at hr
      obtain ⟨cs, hcs, hs⟩ := hr
      obtain ⟨l', h1, h2, h3⟩ := cells_row (R.cells hcs hp) hs
      have hrun := run_loadCells_list (P := P) (w := w) ⟨p.block, p.off + k, none⟩ l' h3
      rw [h2] at hrun
      exact .inr ⟨_, l', c', rfl, h1, h2, hrun⟩
    · have : l = [] := by
        unfold rowOf at hr
        split at hr
        · simp at hr; exact hr
        · rename_i heq
          simp at heq
          obtain ⟨_, rfl, _⟩ := heq
          simp only [Option.bind_eq_some_iff] at hr
          obtain ⟨cs, _, hs⟩ := hr
          have := slc_length hs
          simpa using this
        · rename_i heq; simp at heq
        · simp at hr
      subst this
      refine .inr ⟨b, [], 0, rfl, trivial, by simp, ?_⟩
      simp [loadCells, loadCellsFrom]
    · simp only [rowOf, Option.bind_eq_some_iff] at hr
      obtain ⟨cs, _, hs⟩ := hr
      have := slc_length hs
      exact .inl ⟨List.eq_nil_of_length_eq_zero (by simpa using this), _, rfl⟩
theorem run_conv (T : TyOk P ty) {ι : List Place} {h : Heap} {w : World} (R : RelH ι h w) {s t : TypeId} {x v : Value} (hc : convC ty h s t x = some v) {x' : Value} (hx : VR ι x x') :
    ∃ z, (Go.convert s t x').run P w = .ok z w ∧ VR ι v z := by
  simp only [convC, Option.bind_eq_some_iff] at hc
  obtain ⟨d, hd, ds, hds, hc⟩ := hc
  have hu := T.underlying hd w
  have hus := T.underlying hds w
  cases x with
  | int k n =>
    obtain rfl := hx.int_inv
    simp only at hc
    split at hc
    · rename_i k' hk
      simp at hc; subst hc
      rw [hk] at hu
      refine ⟨_, ?_, .same _ rfl⟩
      simp [Go.convert, hu, hus, Conv.intToInt]
    · simp at hc
  | slice a n c =>
    simp only at hc
    split at hc
    · rename_i hk
      split at hc
      · rename_i e hes
        simp only [Option.bind_eq_some_iff] at hc
        obtain ⟨de, hde, hc⟩ := hc
        split at hc
        · rename_i hu8
          simp only [Option.bind_eq_some_iff, Option.map_eq_some_iff] at hc
          obtain ⟨l, hl, b, hb, rfl⟩ := hc
          have hue := T.und e de hde
          obtain ⟨ns, rfl, rfl⟩ := strOf_ints hb
          have hcv : ∀ (a' : Option Addr) (l' c' : Nat), (Go.convert s t (.slice a' l' c')).run P w = (Conv.bytesToString (.slice a' l' c')).run P w := fun a' l' c' =>
            run_convert_bytes_string w s t e a' l' c' (by rw [T.und s ds hds, hes]) (by rw [hue, hu8]) (by rw [T.und t d hd, hk])
          rcases row_load (P := P) R hl hx with ⟨hnil, c0, rfl⟩ | ⟨b, l', c', rfl, h1, h2, h3⟩
          · refine ⟨.string .empty, by rw [hcv]; simp [Conv.bytesToString], ?_⟩
            have : ns = [] := by simpa using hnil
            subst this
            exact .same _ rfl
          · have := ints_inv h1
            subst this
            rw [Nat.mul_one] at h3
            refine ⟨_, by rw [hcv]; exact run_bytesToString w b n c' ns h3, ?_⟩
            rw [foldl_push]
            exact .same _ rfl
        · simp at hc
      · simp at hc
    · simp at hc
  | string b =>
    obtain rfl := hx.string_inv
    simp only at hc
    split at hc
    · rename_i hk
      rw [hk] at hu
      split at hc
      · simp at hc
      · simp at hc
      · simp at hc
      · simp at hc; subst hc
        refine ⟨_, ?_, .same _ rfl⟩
        simp [Go.convert, hu, hus]
    · simp at hc
  | _ => simp at hc
theorem run_indexAddr (T : TyOk P ty) {ι : List Place} {t : TypeId} {x i v : Value} (h : indexAddrC ty t x i = some v) {x' i' : Value} (hx : VR ι x x') (hi : VR ι i i') (w : World) :
    ∃ z, (Instr.indexAt t x' i').run P w = .ok z w ∧ VR ι v z := by
  simp only [indexAddrC, Option.bind_eq_some_iff] at h
  obtain ⟨d, hd, h⟩ := h
  have hu := T.underlying hd w
  split at h
  · rename_i e hk
    rw [hk] at hu
    simp only [Option.bind_eq_some_iff] at h
    obtain ⟨d', hd', h⟩ := h
    have hsz := T.sizeOf hd' w
    split at h
    · rename_i b k len c
      split at h
      · rename_i kk j
        simp only [Option.ite_none_right_eq_some, Option.some.injEq] at h
        obtain ⟨⟨h0, h1⟩, rfl⟩ := h
        obtain rfl := hi.int_inv
        rcases hx.slice_inv with ⟨i, k', p, he, hp, _, rfl⟩ | ⟨i, k', p, c', he, _, hp, _, _, rfl⟩ | ⟨b, _, rfl, rfl, _⟩ | ⟨_, rfl, rfl, _⟩
        · simp at he; obtain ⟨rfl, rfl⟩ := he
          refine ⟨_, ?_, .ptr b _ p hp⟩
          simp [Instr.indexAt, asIntOf, hu, h0, h1, hsz, addr_add, Nat.add_assoc]
        · simp at he; obtain ⟨rfl, rfl⟩ := he
          refine ⟨_, ?_, .ptr b _ p hp⟩
          simp [Instr.indexAt, asIntOf, hu, h0, h1, hsz, addr_add, Nat.add_assoc]
        · omega
        · omega
      · simp at h
    · simp at h
  · rename_i n e hk
    rw [hk] at hu
    simp only [Option.bind_eq_some_iff] at h
    obtain ⟨d', hd', h⟩ := h
    have hsz := T.sizeOf hd' w
    split at h
    · rename_i b k
      split at h
      · rename_i kk j
        simp only [Option.ite_none_right_eq_some, Option.some.injEq] at h
        obtain ⟨⟨h0, h1⟩, rfl⟩ := h
        obtain rfl := hi.int_inv
        obtain ⟨p, hp, rfl⟩ := hx.ptr_inv
        refine ⟨_, ?_, .ptr b _ p hp⟩
        simp [Instr.indexAt, Instr.sureAddr, asIntOf, hu, h0, h1, hsz, addr_add, Nat.add_assoc]
      · simp at h
    · simp at h
  · simp at h
theorem run_index (T : TyOk P ty) {ι : List Place} {t : TypeId} {x i v : Value} (h : indexC ty t x i = some v) {x' i' : Value} (hx : VR ι x x') (hi : VR ι i i') (w : World) :
    ∃ z, (Instr.index t x' i').run P w = .ok z w ∧ VR ι v z := by
  simp only [indexC, Option.bind_eq_some_iff] at h
  obtain ⟨d, hd, h⟩ := h
  have hu := T.underlying hd w
  split at h
  · rename_i n e hk
    rw [hk] at hu
    simp only [Option.bind_eq_some_iff] at h
    obtain ⟨d', hd', h⟩ := h
    split at h
    · rename_i cs
      split at h
      · rename_i kk j
        simp only [Option.ite_none_right_eq_some] at h
        obtain ⟨⟨h0, h1⟩, h⟩ := h
        obtain rfl := hi.int_inv
        obtain ⟨ys, rfl, r⟩ := hx.agg_inv
        obtain ⟨y, hy, hr⟩ := run_part T hd' r h w
        refine ⟨y, ?_, hr⟩
        simp at hy
        simp [Instr.index, asIntOf, hu, h0, h1, T.sizeOf hd' w, hy]
      · simp at h
    · simp at h
  · rename_i hk
    rw [hk] at hu
    split at h
    · rename_i s
      split at h
      · rename_i kk j
        simp only [Option.ite_none_right_eq_some, Option.map_eq_some_iff] at h
        obtain ⟨h0, b, hb, rfl⟩ := h
        obtain rfl := hi.int_inv
        obtain rfl := hx.string_inv
        refine ⟨_, ?_, .same _ rfl⟩
        have hb' : s[j.toNat]? = some b := by
          have : s.data[j.toNat]? = some b := by simpa using hb
          rw [← this]
          by_cases hlt : j.toNat < s.size
          · rw [getElem?_pos s j.toNat hlt, getElem?_pos s.data j.toNat hlt]; rfl
          · rw [getElem?_neg s j.toNat hlt, getElem?_neg s.data j.toNat hlt]
        simp [Instr.index, asIntOf, hu, h0, hb']
      · simp at h
    · simp at h
  · simp at h
theorem run_field (T : TyOk P ty) {ι : List Place} {t : TypeId} {x v : Value} {f : Nat} (h : fieldC ty t x f = some v) {x' : Value} (hx : VR ι x x') (w : World) :
    ∃ z, (Instr.field t x' f).run P w = .ok z w ∧ VR ι v z := by
  simp only [fieldC, Option.bind_eq_some_iff] at h
  obtain ⟨d, hd, h⟩ := h
  have hu := T.underlying hd w
  split at h
  · rename_i fs hk
    rw [hk] at hu
    simp only [Option.bind_eq_some_iff] at h
    obtain ⟨fd, hfd, d', hd', h⟩ := h
    split at h
    · obtain ⟨ys, rfl, r⟩ := hx.agg_inv
      obtain ⟨y, hy, hr⟩ := run_part T hd' r h w
      refine ⟨y, ?_, hr⟩
      simp at hy
      simp [Instr.field, hu, hfd, asAgg, hy]
    · simp at h
  · simp at h
theorem run_fieldAddr (T : TyOk P ty) {ι : List Place} {t : TypeId} {x v : Value} {f : Nat} (h : fieldAddrC ty t x f = some v) {x' : Value} (hx : VR ι x x') (w : World) :
    ∃ z, (Instr.fieldAt t x' f).run P w = .ok z w ∧ VR ι v z := by
  simp only [fieldAddrC, Option.bind_eq_some_iff] at h
  obtain ⟨d, hd, h⟩ := h
  have hu := T.underlying hd w
  split at h
  · rename_i fs hk
    rw [hk] at hu
    simp only [Option.bind_eq_some_iff, Option.ite_none_left_eq_some] at h
    obtain ⟨fd, hfd, d', hd', hz, h⟩ := h
    split at h
    · rename_i b k
      simp at h; subst h
      obtain ⟨p, hp, rfl⟩ := hx.ptr_inv
      refine ⟨_, ?_, .ptr b _ p hp⟩
      simp [Instr.fieldAt, hu, hfd, Instr.sureAddr, fieldPlace, T.sizeOf hd' w, hz, addr_add, Nat.add_assoc]
    · simp at h
  · simp at h
end Go.Sx
end
section
/-
  Sx, part F: soundness: slicing, building, and the theorem for all operations that leave the heap as it is. Own words; no condition.
-/
namespace Go.Sx
open Go
variable {P : Program} {ty : TypeId → Option TD}

/-- Operands that may be there or not. -/
def VRo (ι : List Place) : Option Value → Option Value → Prop
  | none, none => True
  | some x, some y => VR ι x y
  | _, _ => False
theorem boundC_some {v : Value} {d y n : Nat} (h : boundC (some v) d y = some n) : ∃ k i, v = .int k i ∧ 0 ≤ i ∧ i ≤ y ∧ n = i.toNat := by
  cases v <;> simp [boundC] at h
  rename_i k i
  exact ⟨k, i, rfl, h.1.1, h.1.2, h.2.symm⟩
theorem boundC_le {v : Option Value} {d y n : Nat} (h : boundC v d y = some n) : n ≤ y := by
  cases v with
  | none => simp [boundC] at h; omega
  | some v => obtain ⟨k, i, rfl, h0, h1, rfl⟩ := boundC_some h; omega
theorem bound_run {k : IntKind} {i : Int} {y : Nat} (h0 : 0 ≤ i) (h1 : i ≤ y) (c : BoundsCode) (w : World) : (Instr.sliceBound (.int k i) y c).run P w = .ok i.toNat w := by
  simp [Instr.sliceBound, asIntOf, h0, h1]
theorem bounds_two {ι : List Place} {len cap : Nat} {lo hi lo' hi' : Option Value} (rl : VRo ι lo lo') (rh : VRo ι hi hi') {cap' : Nat} {h l : Nat} (hh : boundC hi len cap = some h) (hl : boundC lo 0 h = some l) (hc : cap ≤ cap') (s : Bool) (w : World) :
    (Instr.sliceBounds s len cap' lo' hi' none).run P w = .ok (l, h, cap') w := by
  cases hi with
  | none =>
    cases hi' with
    | some _ => exact rh.elim
    | none =>
      simp [boundC] at hh
      obtain ⟨_, rfl⟩ := hh
      cases lo with
      | none =>
        cases lo' with
        | some _ => exact rl.elim
        | none => simp [boundC] at hl; subst hl; simp [Instr.sliceBounds]
      | some v =>
        cases lo' with
        | none => exact rl.elim
        | some v' =>
          obtain ⟨k, i, rfl, h0, h1, rfl⟩ := boundC_some hl
          obtain rfl := VR.int_inv rl
          simp [Instr.sliceBounds, bound_run (P := P) (k := k) h0 h1]
  | some v =>
    cases hi' with
    | none => exact rh.elim
    | some v' =>
      obtain ⟨k, i, rfl, h0, h1, rfl⟩ := boundC_some hh
      obtain rfl := VR.int_inv rh
      have e := fun c => bound_run (P := P) (k := k) h0 (show i ≤ (cap' : Int) by omega) c w
      cases lo with
      | none =>
        cases lo' with
        | some _ => exact rl.elim
        | none => simp [boundC] at hl; subst hl; simp [Instr.sliceBounds, e]
      | some v =>
        cases lo' with
        | none => exact rl.elim
        | some v' =>
          obtain ⟨k, i, rfl, h0, h1, rfl⟩ := boundC_some hl
          obtain rfl := VR.int_inv rl
          simp [Instr.sliceBounds, e, bound_run (P := P) (k := k) h0 h1]
theorem bounds_three {ι : List Place} {len cap : Nat} {lo lo' : Option Value} {hi mx hi' mx' : Value} (rl : VRo ι lo lo') (rh : VR ι hi hi') (rm : VR ι mx mx') {cap' d : Nat} {m h l : Nat} (hm : boundC (some mx) d cap = some m) (hh : boundC (some hi) len m = some h) (hl : boundC lo 0 h = some l) (hc : cap ≤ cap') (s : Bool) (w : World) :
    (Instr.sliceBounds s len cap' lo' (some hi') (some mx')).run P w = .ok (l, h, m) w := by
  obtain ⟨km, im, rfl, m0, m1, rfl⟩ := boundC_some hm
  obtain rfl := VR.int_inv rm
  obtain ⟨kh, ih, rfl, h0, h1, rfl⟩ := boundC_some hh
  obtain rfl := VR.int_inv rh
  have e1 := fun c => bound_run (P := P) (k := km) m0 (show im ≤ (cap' : Int) by omega) c w
  have e2 := fun c => bound_run (P := P) (k := kh) h0 h1 c w
  cases lo with
  | none =>
    cases lo' with
    | some _ => exact rl.elim
    | none => simp [boundC] at hl; subst hl; simp [Instr.sliceBounds, e1, e2]
  | some v =>
    cases lo' with
    | none => exact rl.elim
    | some v' =>
      obtain ⟨k, i, rfl, h0, h1, rfl⟩ := boundC_some hl
      obtain rfl := VR.int_inv rl
      simp [Instr.sliceBounds, e1, e2, bound_run (P := P) (k := k) h0 h1]
theorem mkSl_some {a : Option Addr} {l c : Nat} {v : Value} (h : mkSl a l c = some v) : c ≠ OPEN ∧ v = .slice a l c := by
  unfold mkSl at h
  split at h
  · simp at h
  · simp at h; exact ⟨by assumption, h.symm⟩
theorem RelH.unitOf {ι : List Place} {h : Heap} {w : World} (R : RelH ι h w) {i u : Nat} (hu : ownUnit h i = some u) {p : Place} (hp : ι[i]? = some p) : p.unit = u := by
  unfold ownUnit at hu
  split at hu
  · rename_i cs own unit hg
    simp at hu
    obtain ⟨rfl, rfl⟩ := hu
    obtain ⟨q, hq, hb⟩ := R.blk i _ hg
    rw [hp] at hq; simp at hq; subst hq
    exact (hb.2.2 rfl).2.1
  · rename_i unit hg
    simp at hu; subst hu
    obtain ⟨q, hq, hb⟩ := R.blk i _ hg
    rw [hp] at hq; simp at hq; subst hq
    exact hb.2
  · simp at hu
theorem run_slice (T : TyOk P ty) {ι : List Place} {h₀ : Heap} {w : World} (R : RelH ι h₀ w) {t : TypeId} {x v : Value} {lo hi mx : Option Value} (hs : sliceC ty h₀ t x lo hi mx = some v) {x' : Value} (hx : VR ι x x') {lo' hi' mx' : Option Value} (rl : VRo ι lo lo') (rh : VRo ι hi hi') (rm : VRo ι mx mx') :
    ∃ z, (Instr.sliceAt t x' lo' hi' mx').run P w = .ok z w ∧ VR ι v z := by
  simp only [sliceC, Option.bind_eq_some_iff] at hs
  obtain ⟨d, hd, hs⟩ := hs
  have hu := T.underlying hd w
  split at hs
  · -- a slice
    rename_i e hk
    rw [hk] at hu
    simp only [Option.bind_eq_some_iff] at hs
    obtain ⟨d', hd', hs⟩ := hs
    have hsz := T.sizeOf hd' w
    split at hs
    · rename_i a len cap
      split at hs
      · -- open
        rename_i hopen
        subst hopen
        split at hs
        · rename_i mx
          split at hs
          · rename_i hi
            cases hi' with
            | none => exact rh.elim
            | some hi' => cases mx' with
              | none => exact rm.elim
              | some mx' =>
                simp only [Option.bind_eq_some_iff] at hs
                obtain ⟨m, hm, h, hh, l, hl, hs⟩ := hs
                split at hs
                · rename_i b k
                  simp only [Option.ite_none_left_eq_some] at hs
                  obtain ⟨hml, hs⟩ := hs
                  obtain ⟨hc, rfl⟩ := mkSl_some hs
                  have hmle := boundC_le hm
                  have hhle := boundC_le hh
                  have hlle := boundC_le hl
                  rcases hx.slice_inv with ⟨i, k', p, he, hp, hno, rfl⟩ | ⟨i, k', p, c', he, _, hp, hlc, _, rfl⟩ | ⟨b', _, rfl, rfl, ie, ke, pe, he, hpe⟩ | ⟨_, rfl, rfl, _⟩
                  · exact absurd rfl hno
                  · simp at he; obtain ⟨rfl, rfl⟩ := he
                    have hb := bounds_three (P := P) rl rh rm hm hh hl hlc true w
                    refine ⟨.slice (some ⟨p.block, p.off + (k + l * d'.size), none⟩) (h - l) (m - l), ?_, .slice b _ _ _ p hp hc⟩
                    simp [Instr.sliceAt, Instr.slice, hu, hb, hsz, hml, addr_add, Nat.add_assoc]
                  · omega
                  · omega
                · simp at hs
          · simp at hs
        · cases mx' with
          | some _ => exact rm.elim
          | none =>
            simp only [Option.bind_eq_some_iff] at hs
            obtain ⟨h, hh, l, hl, hs⟩ := hs
            have hhle := boundC_le hh
            have hlle := boundC_le hl
            split at hs
            · rename_i b k
              simp only [Option.ite_none_right_eq_some, Option.some.injEq] at hs
              obtain ⟨hun, rfl⟩ := hs
              rcases hx.slice_inv with ⟨i, k', p, he, hp, hno, rfl⟩ | ⟨i, k', p, c', he, _, hp, hlc, hroom, rfl⟩ | ⟨b', _, rfl, rfl, ie, ke, pe, he, hpe⟩ | ⟨_, rfl, rfl, ie, ke, pe, he, hpe⟩
              · exact absurd rfl hno
              · simp at he; obtain ⟨rfl, rfl⟩ := he
                have hb := bounds_two (P := P) rl rh hh hl hlc true w
                have hunit := R.unitOf hun hp
                by_cases hcl : c' = l
                · obtain rfl := hcl
                  have h0 : h - c' = 0 := by omega
                  rw [h0]
                  refine ⟨.slice (some ⟨p.block, p.off + k, none⟩) 0 0, ?_, .sliceE _ _ p _ hp⟩
                  have hhl : h ≤ c' := by omega
                  simp [Instr.sliceAt, Instr.slice, hu, hb, hsz, Nat.sub_eq_zero_of_le hhl]
                · refine ⟨.slice (some ⟨p.block, p.off + (k + l * d'.size), none⟩) (h - l) (c' - l), ?_, .sliceO b _ _ _ p hp (by omega) ?_⟩
                  · simp [Instr.sliceAt, Instr.slice, hu, hb, hsz, hcl, addr_add, Nat.add_assoc]
                  · rw [hunit] at hroom ⊢
                    have : l * d'.size + (c' - l) * d'.size = c' * d'.size := by rw [← Nat.add_mul]; congr 1; omega
                    omega
              · have hl0 : l = 0 := by omega
                have hh0 : h = 0 := by omega
                subst hl0; subst hh0
                have hb := bounds_two (P := P) (cap' := 0) rl rh hh hl (by omega) true w
                refine ⟨.slice (some b') 0 0, ?_, ?_⟩
                · simp [Instr.sliceAt, Instr.slice, hu, hb, hsz]
                · simp at he; obtain ⟨rfl, rfl⟩ := he
                  simpa using VR.sliceE _ _ pe b' hpe
              · have hl0 : l = 0 := by omega
                have hh0 : h = 0 := by omega
                subst hl0; subst hh0
                have hb := bounds_two (P := P) (cap' := 0) rl rh hh hl (by omega) true w
                refine ⟨.slice none 0 0, ?_, ?_⟩
                · simp [Instr.sliceAt, Instr.slice, hu, hb, hsz]
                · simp at he; obtain ⟨rfl, rfl⟩ := he
                  simpa using VR.sliceN _ _ pe hpe
            · simp at hs
      · rename_i hopen
        split at hs
        · rename_i mx
          split at hs
          · rename_i hi
            cases hi' with
            | none => exact rh.elim
            | some hi' => cases mx' with
              | none => exact rm.elim
              | some mx' =>
                simp only [Option.bind_eq_some_iff] at hs
                obtain ⟨m, hm, h, hh, l, hl, hs⟩ := hs
                have hb := bounds_three (P := P) rl rh rm hm hh hl (Nat.le_refl _) true w
                split at hs
                · rename_i b k
                  obtain ⟨hc, rfl⟩ := mkSl_some hs
                  rcases hx.slice_inv with ⟨i, k', p, he, hp, hno, rfl⟩ | ⟨i, k', p, c', he, ho, hp, hlc, _, rfl⟩ | ⟨b', ho, rfl, rfl, ie, ke, pe, he, hpe⟩ | ⟨ho, _⟩
                  · simp at he; obtain ⟨rfl, rfl⟩ := he
                    by_cases hml : m = l
                    · obtain rfl := hml; refine ⟨.slice (some ⟨p.block, p.off + k, none⟩) (h - m) (m - m), ?_, ?_⟩
                      · simp [Instr.sliceAt, Instr.slice, hu, hb, hsz]
                      · rw [if_pos rfl]; exact .slice b _ _ _ p hp hc
                    · refine ⟨.slice (some ⟨p.block, p.off + (k + l * d'.size), none⟩) (h - l) (m - l), ?_, ?_⟩
                      · simp [Instr.sliceAt, Instr.slice, hu, hb, hsz, hml, addr_add, Nat.add_assoc]
                      · rw [if_neg hml]; exact .slice b _ _ _ p hp hc
                  · exact absurd ho hopen
                  · have hc0 : cap = 0 := ho.resolve_left hopen
                    subst hc0
                    have hmle := boundC_le hm
                    have hhle := boundC_le hh
                    have hlle := boundC_le hl
                    have e1 : m = 0 := by omega
                    have e2 : h = 0 := by omega
                    have e3 : l = 0 := by omega
                    subst e1; subst e2; subst e3
                    refine ⟨.slice (some b') 0 0, ?_, ?_⟩
                    · simp [Instr.sliceAt, Instr.slice, hu, hb, hsz]
                    · simp at he; obtain ⟨rfl, rfl⟩ := he
                      rw [if_pos rfl]; exact VR.sliceZ _ _ pe b' hpe
                  · exact absurd ho hopen
                · simp at hs; subst hs
                  obtain rfl := hx.closed_inv rfl
                  refine ⟨_, ?_, .same _ rfl⟩
                  simp [Instr.sliceAt, Instr.slice, hu, hb, hsz]
                · simp at hs
          · simp at hs
        · cases mx' with
          | some _ => exact rm.elim
          | none =>
            simp only [Option.bind_eq_some_iff] at hs
            obtain ⟨h, hh, l, hl, hs⟩ := hs
            have hb := bounds_two (P := P) rl rh hh hl (Nat.le_refl _) true w
            split at hs
            · rename_i b k
              obtain ⟨hc, rfl⟩ := mkSl_some hs
              rcases hx.slice_inv with ⟨i, k', p, he, hp, hno, rfl⟩ | ⟨i, k', p, c', he, ho, hp, hlc, _, rfl⟩ | ⟨b', ho, rfl, rfl, ie, ke, pe, he, hpe⟩ | ⟨ho, _⟩
              · simp at he; obtain ⟨rfl, rfl⟩ := he
                by_cases hml : cap = l
                · obtain rfl := hml; refine ⟨.slice (some ⟨p.block, p.off + k, none⟩) (h - cap) (cap - cap), ?_, ?_⟩
                  · simp [Instr.sliceAt, Instr.slice, hu, hb, hsz]
                  · rw [if_pos rfl]; exact .slice b _ _ _ p hp hc
                · refine ⟨.slice (some ⟨p.block, p.off + (k + l * d'.size), none⟩) (h - l) (cap - l), ?_, ?_⟩
                  · simp [Instr.sliceAt, Instr.slice, hu, hb, hsz, hml, addr_add, Nat.add_assoc]
                  · rw [if_neg hml]; exact .slice b _ _ _ p hp hc
              · exact absurd ho hopen
              · have hc0 : cap = 0 := ho.resolve_left hopen
                subst hc0
                have hhle := boundC_le hh
                have hlle := boundC_le hl
                have e2 : h = 0 := by omega
                have e3 : l = 0 := by omega
                subst e2; subst e3
                refine ⟨.slice (some b') 0 0, ?_, ?_⟩
                · simp [Instr.sliceAt, Instr.slice, hu, hb, hsz]
                · simp at he; obtain ⟨rfl, rfl⟩ := he
                  rw [if_pos rfl]; exact VR.sliceZ _ _ pe b' hpe
              · exact absurd ho hopen
            · simp at hs; subst hs
              obtain rfl := hx.closed_inv rfl
              refine ⟨_, ?_, .same _ rfl⟩
              simp [Instr.sliceAt, Instr.slice, hu, hb, hsz]
            · simp at hs
    · simp at hs
  · -- a string
    rename_i hk
    rw [hk] at hu
    split at hs
    · rename_i s
      obtain rfl := hx.string_inv
      split at hs
      · cases mx' with
        | some _ => exact rm.elim
        | none =>
          simp only [Option.bind_eq_some_iff, Option.map_eq_some_iff] at hs
          obtain ⟨h, hh, l, hl, rfl⟩ := hs
          have hb := bounds_two (P := P) rl rh hh hl (Nat.le_refl _) false w
          refine ⟨_, ?_, .same _ rfl⟩
          simp [Instr.sliceAt, Instr.slice, hu, hb]
      · simp at hs
    · simp at hs
  · -- an array behind a pointer
    rename_i n e hk
    rw [hk] at hu
    simp only [Option.bind_eq_some_iff] at hs
    obtain ⟨d', hd', hs⟩ := hs
    have hsz := T.sizeOf hd' w
    split at hs
    · rename_i b k
      obtain ⟨p, hp, rfl⟩ := hx.ptr_inv
      split at hs
      · rename_i mx
        split at hs
        · rename_i hi
          cases hi' with
          | none => exact rh.elim
          | some hi' => cases mx' with
            | none => exact rm.elim
            | some mx' =>
              simp only [Option.bind_eq_some_iff] at hs
              obtain ⟨m, hm, h, hh, l, hl, hs⟩ := hs
              have hb := bounds_three (P := P) rl rh rm hm hh hl (Nat.le_refl _) false w
              obtain ⟨hc, rfl⟩ := mkSl_some hs
              by_cases hml : m = l
              · obtain rfl := hml; refine ⟨.slice (some ⟨p.block, p.off + k, none⟩) (h - m) (m - m), ?_, ?_⟩
                · simp [Instr.sliceAt, Instr.sureAddr, hu, hb, hsz]
                · rw [if_pos rfl]; exact .slice b _ _ _ p hp hc
              · refine ⟨.slice (some ⟨p.block, p.off + (k + l * d'.size), none⟩) (h - l) (m - l), ?_, ?_⟩
                · simp [Instr.sliceAt, Instr.sureAddr, hu, hb, hsz, hml, addr_add, Nat.add_assoc]
                · rw [if_neg hml]; exact .slice b _ _ _ p hp hc
        · simp at hs
      · cases mx' with
        | some _ => exact rm.elim
        | none =>
          simp only [Option.bind_eq_some_iff] at hs
          obtain ⟨h, hh, l, hl, hs⟩ := hs
          have hb := bounds_two (P := P) rl rh hh hl (Nat.le_refl _) false w
          obtain ⟨hc, rfl⟩ := mkSl_some hs
          by_cases hml : n = l
          · obtain rfl := hml; refine ⟨.slice (some ⟨p.block, p.off + k, none⟩) (h - n) (n - n), ?_, ?_⟩
            · simp [Instr.sliceAt, Instr.sureAddr, hu, hb, hsz]
            · rw [if_pos rfl]; exact .slice b _ _ _ p hp hc
          · refine ⟨.slice (some ⟨p.block, p.off + (k + l * d'.size), none⟩) (h - l) (n - l), ?_, ?_⟩
            · simp [Instr.sliceAt, Instr.sureAddr, hu, hb, hsz, hml, addr_add, Nat.add_assoc]
            · rw [if_neg hml]; exact .slice b _ _ _ p hp hc
    · simp at hs
  · simp at hs
end Go.Sx
end
