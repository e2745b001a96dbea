/-
  Sx, part E: soundness of the operations that leave the heap as it is, all of them. Own words; no condition.
-/
import Derived.Test.YtfefdjomenfchaaSxD
import Derived.Laws.BytesString
namespace Go.Sx
open Go
variable {P : Program} {ty : TypeId → Option TD}

theorem strOf_ints : ∀ {l : List Value} {b : List UInt8}, strOf l = some b → ∃ ns : List Int, l = ns.map (Value.int .u8) ∧ b = ns.map fun n => UInt8.ofNat n.toNat
  | [], b, h => by simp [strOf] at h; subst h; exact ⟨[], rfl, rfl⟩
  | v :: r, b, h => by
    simp only [strOf, Option.bind_eq_some_iff, Option.map_eq_some_iff] at h
    obtain ⟨c, hc, t, ht, rfl⟩ := h
    obtain ⟨ns, h1, h2⟩ := strOf_ints ht
    unfold byteOf at hc
    split at hc
    · rename_i k n
      split at hc
      · simp at hc; subst hc
        exact ⟨n :: ns, by simp [h1], by simp [h2]⟩
      · simp at hc
    · simp at hc
theorem foldl_push (ns : List Int) : ∀ s : ByteArray, ns.foldl (fun r n => r.push (UInt8.ofNat n.toNat)) s = ⟨(s.data.toList ++ ns.map fun n => UInt8.ofNat n.toNat).toArray⟩ := by
  induction ns with
  | nil => intro s; cases s; simp
  | cons n ns ih => intro s; rw [List.foldl_cons, ih]; cases s; simp [ByteArray.push]
theorem ints_inv {ι : List Place} {k : IntKind} : ∀ {ns : List Int} {l : List Value}, VRs ι (ns.map (Value.int k)) l → l = ns.map (Value.int k) := fun h => h.closed_inv (by simp [closed1])
/-- The cells of a slice, loaded. -/
theorem row_load {ι : List Place} {h : Heap} {w : World} (R : RelH ι h w) {size : Nat} {a : Option Addr} {n c : Nat} {l : List Value} (hr : rowOf size h (.slice a n c) = some l) {x : Value} (hx : VR ι (.slice a n c) x) :
    (l = [] ∧ ∃ c', x = .slice none n c') ∨ ∃ b l' c', x = .slice (some b) n c' ∧ VRs ι l l' ∧ l'.length = n * size ∧ (loadCells b (n * size)).run P w = .ok l'.toArray w := by
  cases a with
  | none =>
    simp [rowOf] at hr
    exact .inl ⟨hr, _, hx.closed_inv rfl⟩
  | some a =>
    rcases hx.slice_inv with ⟨i, k, p, rfl, hp, _, rfl⟩ | ⟨i, k, p, c', rfl, _, hp, _, _, rfl⟩ | ⟨b, _, rfl, rfl, _⟩ | ⟨_, rfl, rfl, i, k, p, rfl, hp⟩
    · simp only [rowOf, Option.bind_eq_some_iff] at hr
      obtain ⟨cs, hcs, hs⟩ := hr
      obtain ⟨l', h1, h2, h3⟩ := cells_row (R.cells hcs hp) hs
      have hrun := run_loadCells_list (P := P) (w := w) ⟨p.block, p.off + k, none⟩ l' h3
      rw [h2] at hrun
      exact .inr ⟨_, l', c, rfl, h1, h2, hrun⟩
    · simp only [rowOf, Option.bind_eq_some_iff] at hr
      obtain ⟨cs, hcs, hs⟩ := hr
      obtain ⟨l', h1, h2, h3⟩ := cells_row (R.cells hcs hp) hs
      have hrun := run_loadCells_list (P := P) (w := w) ⟨p.block, p.off + k, none⟩ l' h3
      rw [h2] at hrun
      exact .inr ⟨_, l', c', rfl, h1, h2, hrun⟩
    · have : l = [] := by
        unfold rowOf at hr
        split at hr
        · simp at hr; exact hr
        · rename_i heq
          simp at heq
          obtain ⟨_, rfl, _⟩ := heq
          simp only [Option.bind_eq_some_iff] at hr
          obtain ⟨cs, _, hs⟩ := hr
          have := slc_length hs
          simpa using this
        · rename_i heq; simp at heq
        · simp at hr
      subst this
      refine .inr ⟨b, [], 0, rfl, trivial, by simp, ?_⟩
      simp [loadCells, loadCellsFrom]
    · simp only [rowOf, Option.bind_eq_some_iff] at hr
      obtain ⟨cs, _, hs⟩ := hr
      have := slc_length hs
      exact .inl ⟨List.eq_nil_of_length_eq_zero (by simpa using this), _, rfl⟩
theorem run_conv (T : TyOk P ty) {ι : List Place} {h : Heap} {w : World} (R : RelH ι h w) {s t : TypeId} {x v : Value} (hc : convC ty h s t x = some v) {x' : Value} (hx : VR ι x x') :
    ∃ z, (Go.convert s t x').run P w = .ok z w ∧ VR ι v z := by
  simp only [convC, Option.bind_eq_some_iff] at hc
  obtain ⟨d, hd, ds, hds, hc⟩ := hc
  have hu := T.underlying hd w
  have hus := T.underlying hds w
  cases x with
  | int k n =>
    obtain rfl := hx.int_inv
    simp only at hc
    split at hc
    · rename_i k' hk
      simp at hc; subst hc
      rw [hk] at hu
      refine ⟨_, ?_, .same _ rfl⟩
      simp [Go.convert, hu, hus, Conv.intToInt]
    · simp at hc
  | slice a n c =>
    simp only at hc
    split at hc
    · rename_i hk
      split at hc
      · rename_i e hes
        simp only [Option.bind_eq_some_iff] at hc
        obtain ⟨de, hde, hc⟩ := hc
        split at hc
        · rename_i hu8
          simp only [Option.bind_eq_some_iff, Option.map_eq_some_iff] at hc
          obtain ⟨l, hl, b, hb, rfl⟩ := hc
          have hue := T.und e de hde
          obtain ⟨ns, rfl, rfl⟩ := strOf_ints hb
          have hcv : ∀ (a' : Option Addr) (l' c' : Nat), (Go.convert s t (.slice a' l' c')).run P w = (Conv.bytesToString (.slice a' l' c')).run P w := fun a' l' c' =>
            run_convert_bytes_string w s t e a' l' c' (by rw [T.und s ds hds, hes]) (by rw [hue, hu8]) (by rw [T.und t d hd, hk])
          rcases row_load (P := P) R hl hx with ⟨hnil, c0, rfl⟩ | ⟨b, l', c', rfl, h1, h2, h3⟩
          · refine ⟨.string .empty, by rw [hcv]; simp [Conv.bytesToString], ?_⟩
            have : ns = [] := by simpa using hnil
            subst this
            exact .same _ rfl
          · have := ints_inv h1
            subst this
            rw [Nat.mul_one] at h3
            refine ⟨_, by rw [hcv]; exact run_bytesToString w b n c' ns h3, ?_⟩
            rw [foldl_push]
            exact .same _ rfl
        · simp at hc
      · simp at hc
    · simp at hc
  | string b =>
    obtain rfl := hx.string_inv
    simp only at hc
    split at hc
    · rename_i hk
      rw [hk] at hu
      split at hc
      · simp at hc
      · simp at hc
      · simp at hc
      · simp at hc; subst hc
        refine ⟨_, ?_, .same _ rfl⟩
        simp [Go.convert, hu, hus]
    · simp at hc
  | _ => simp at hc
theorem run_indexAddr (T : TyOk P ty) {ι : List Place} {t : TypeId} {x i v : Value} (h : indexAddrC ty t x i = some v) {x' i' : Value} (hx : VR ι x x') (hi : VR ι i i') (w : World) :
    ∃ z, (Instr.indexAt t x' i').run P w = .ok z w ∧ VR ι v z := by
  simp only [indexAddrC, Option.bind_eq_some_iff] at h
  obtain ⟨d, hd, h⟩ := h
  have hu := T.underlying hd w
  split at h
  · rename_i e hk
    rw [hk] at hu
    simp only [Option.bind_eq_some_iff] at h
    obtain ⟨d', hd', h⟩ := h
    have hsz := T.sizeOf hd' w
    split at h
    · rename_i b k len c
      split at h
      · rename_i kk j
        simp only [Option.ite_none_right_eq_some, Option.some.injEq] at h
        obtain ⟨⟨h0, h1⟩, rfl⟩ := h
        obtain rfl := hi.int_inv
        rcases hx.slice_inv with ⟨i, k', p, he, hp, _, rfl⟩ | ⟨i, k', p, c', he, _, hp, _, _, rfl⟩ | ⟨b, _, rfl, rfl, _⟩ | ⟨_, rfl, rfl, _⟩
        · simp at he; obtain ⟨rfl, rfl⟩ := he
          refine ⟨_, ?_, .ptr b _ p hp⟩
          simp [Instr.indexAt, asIntOf, hu, h0, h1, hsz, addr_add, Nat.add_assoc]
        · simp at he; obtain ⟨rfl, rfl⟩ := he
          refine ⟨_, ?_, .ptr b _ p hp⟩
          simp [Instr.indexAt, asIntOf, hu, h0, h1, hsz, addr_add, Nat.add_assoc]
        · omega
        · omega
      · simp at h
    · simp at h
  · rename_i n e hk
    rw [hk] at hu
    simp only [Option.bind_eq_some_iff] at h
    obtain ⟨d', hd', h⟩ := h
    have hsz := T.sizeOf hd' w
    split at h
    · rename_i b k
      split at h
      · rename_i kk j
        simp only [Option.ite_none_right_eq_some, Option.some.injEq] at h
        obtain ⟨⟨h0, h1⟩, rfl⟩ := h
        obtain rfl := hi.int_inv
        obtain ⟨p, hp, rfl⟩ := hx.ptr_inv
        refine ⟨_, ?_, .ptr b _ p hp⟩
        simp [Instr.indexAt, Instr.sureAddr, asIntOf, hu, h0, h1, hsz, addr_add, Nat.add_assoc]
      · simp at h
    · simp at h
  · simp at h
theorem run_index (T : TyOk P ty) {ι : List Place} {t : TypeId} {x i v : Value} (h : indexC ty t x i = some v) {x' i' : Value} (hx : VR ι x x') (hi : VR ι i i') (w : World) :
    ∃ z, (Instr.index t x' i').run P w = .ok z w ∧ VR ι v z := by
  simp only [indexC, Option.bind_eq_some_iff] at h
  obtain ⟨d, hd, h⟩ := h
  have hu := T.underlying hd w
  split at h
  · rename_i n e hk
    rw [hk] at hu
    simp only [Option.bind_eq_some_iff] at h
    obtain ⟨d', hd', h⟩ := h
    split at h
    · rename_i cs
      split at h
      · rename_i kk j
        simp only [Option.ite_none_right_eq_some] at h
        obtain ⟨⟨h0, h1⟩, h⟩ := h
        obtain rfl := hi.int_inv
        obtain ⟨ys, rfl, r⟩ := hx.agg_inv
        obtain ⟨y, hy, hr⟩ := run_part T hd' r h w
        refine ⟨y, ?_, hr⟩
        simp at hy
        simp [Instr.index, asIntOf, hu, h0, h1, T.sizeOf hd' w, hy]
      · simp at h
    · simp at h
  · rename_i hk
    rw [hk] at hu
    split at h
    · rename_i s
      split at h
      · rename_i kk j
        simp only [Option.ite_none_right_eq_some, Option.map_eq_some_iff] at h
        obtain ⟨h0, b, hb, rfl⟩ := h
        obtain rfl := hi.int_inv
        obtain rfl := hx.string_inv
        refine ⟨_, ?_, .same _ rfl⟩
        have hb' : s[j.toNat]? = some b := by
          have : s.data[j.toNat]? = some b := by simpa using hb
          rw [← this]
          by_cases hlt : j.toNat < s.size
          · rw [getElem?_pos s j.toNat hlt, getElem?_pos s.data j.toNat hlt]; rfl
          · rw [getElem?_neg s j.toNat hlt, getElem?_neg s.data j.toNat hlt]
        simp [Instr.index, asIntOf, hu, h0, hb']
      · simp at h
    · simp at h
  · simp at h
theorem run_field (T : TyOk P ty) {ι : List Place} {t : TypeId} {x v : Value} {f : Nat} (h : fieldC ty t x f = some v) {x' : Value} (hx : VR ι x x') (w : World) :
    ∃ z, (Instr.field t x' f).run P w = .ok z w ∧ VR ι v z := by
  simp only [fieldC, Option.bind_eq_some_iff] at h
  obtain ⟨d, hd, h⟩ := h
  have hu := T.underlying hd w
  split at h
  · rename_i fs hk
    rw [hk] at hu
    simp only [Option.bind_eq_some_iff] at h
    obtain ⟨fd, hfd, d', hd', h⟩ := h
    split at h
    · obtain ⟨ys, rfl, r⟩ := hx.agg_inv
      obtain ⟨y, hy, hr⟩ := run_part T hd' r h w
      refine ⟨y, ?_, hr⟩
      simp at hy
      simp [Instr.field, hu, hfd, asAgg, hy]
    · simp at h
  · simp at h
theorem run_fieldAddr (T : TyOk P ty) {ι : List Place} {t : TypeId} {x v : Value} {f : Nat} (h : fieldAddrC ty t x f = some v) {x' : Value} (hx : VR ι x x') (w : World) :
    ∃ z, (Instr.fieldAt t x' f).run P w = .ok z w ∧ VR ι v z := by
  simp only [fieldAddrC, Option.bind_eq_some_iff] at h
  obtain ⟨d, hd, h⟩ := h
  have hu := T.underlying hd w
  split at h
  · rename_i fs hk
    rw [hk] at hu
    simp only [Option.bind_eq_some_iff, Option.ite_none_left_eq_some] at h
    obtain ⟨fd, hfd, d', hd', hz, h⟩ := h
    split at h
    · rename_i b k
      simp at h; subst h
      obtain ⟨p, hp, rfl⟩ := hx.ptr_inv
      refine ⟨_, ?_, .ptr b _ p hp⟩
      simp [Instr.fieldAt, hu, hfd, Instr.sureAddr, fieldPlace, T.sizeOf hd' w, hz, addr_add, Nat.add_assoc]
    · simp at h
  · simp at h
end Go.Sx
