/-
  Sx, part I: soundness of the operations that make or turn blocks. Own words; no condition.
-/
import Derived.Test.YtfefdjomenfchaaSxH
namespace Go.Sx
open Go
variable {P : Program} {ty : TypeId → Option TD}

theorem zerosN_length (z : List Value) : ∀ n, (zerosN z n).length = n * z.length
  | 0 => by simp [zerosN]
  | n + 1 => by simp [zerosN, zerosN_length z n, Nat.add_mul]; omega
theorem zerosN_get (z : List Value) : ∀ (n i : Nat), i < n * z.length → (zerosN z n)[i]? = z[i % z.length]?
  | 0, i, h => by simp at h
  | n + 1, i, h => by
    rw [zerosN]
    by_cases hi : i < z.length
    · rw [List.getElem?_append_left hi, Nat.mod_eq_of_lt hi]
    · rw [List.getElem?_append_right (by omega), zerosN_get z n (i - z.length) (by rw [Nat.add_mul] at h; omega)]
      rw [← Nat.mod_eq_sub_mod (by omega)]
theorem zero_row (z : Array Value) (n : Nat) : ((Array.range (n * z.size)).map (fun i => z[i % z.size]!)).toList = zerosN z.toList n := by
  apply List.ext_getElem?
  intro i
  by_cases hi : i < n * z.size
  · rw [zerosN_get z.toList n i (by simpa using hi)]
    have hz : 0 < z.size := by
      rcases Nat.eq_zero_or_pos z.size with h | h
      · rw [h] at hi; simp at hi
      · exact h
    have hm : i % z.size < z.size := Nat.mod_lt _ hz
    simp [hi, hm]
  · rw [List.getElem?_eq_none (by simp; omega), List.getElem?_eq_none (by rw [zerosN_length]; simp; omega)]
theorem zerosN_closed {z : List Value} (h : ∀ x ∈ z, closed1 x = true) : ∀ n, ∀ x ∈ zerosN z n, closed1 x = true
  | 0, x, hx => by simp [zerosN] at hx
  | n + 1, x, hx => by
    simp only [zerosN, List.mem_append] at hx
    rcases hx with hx | hx
    · exact h x hx
    · exact zerosN_closed h n x hx
theorem undef_VR {ι : List Place} : VR ι undef undef := .tuple _ _ rfl (fun k x y hx => by simp at hx)
/-- What an operation that is no call does: the answer, the places then, the world then. -/
def Does (P : Program) (ι : List Place) (h : Heap) (w : World) (s : Sem Next) (v : Value) (h' : Heap) : Prop :=
  ∃ nx y κ w', s.run P w = .ok nx w' ∧ (nx = .value y ∨ nx = .skip ∧ y = undef) ∧ VR κ v y ∧ RelH κ h' w' ∧ Grow ι h w κ h' w'
theorem new_place (ι : List Place) (h : Heap) (hl : ι.length = h.length) (p : Place) : (ι ++ [p])[h.length]? = some p := by
  rw [← hl]; simp
/-- A new block of related cells, and the pointer to it. -/
theorem does_newRow {ι : List Place} {h : Heap} {w : World} (R : RelH ι h w) {cs : List Value} {c : Array Value} (hr : VRs ι cs c.toList) (e : TypeId) (unit : Nat) :
    ∃ κ, (newRow e c).run P w = .ok ⟨w.heap.size, 0, none⟩ (w.alloc (.cells c e)) ∧ κ[h.length]? = some ⟨w.heap.size, 0, cs.length, unit⟩ ∧ RelH κ (h ++ [some (.cells cs true unit)]) (w.alloc (.cells c e)) ∧ Grow ι h w κ (h ++ [some (.cells cs true unit)]) (w.alloc (.cells c e)) := by
  have hl : cs.length = c.size := by rw [hr.length]; simp
  obtain ⟨h1, h2⟩ := R.new (c := c) (e := e) (cs := cs) (by rw [List.take_of_length_le (by simp; omega)]; exact hr) (Nat.le_refl _) (by omega) unit
  exact ⟨_, by simp [newRow], new_place ι h R.len _, h1, h2⟩
theorem first_cells {ι : List Place} {h : Heap} {w : World} (R : RelH ι h w) {size : Nat} {y y' : Value} {row : List Value} {n m : Nat} (hr : rowOf size h y = some row) {k : IntKind} (hn : lenC y = some (.int k (n : Int))) (hl : row.length = n * size) (hy : VR ι y y') (hm : m ≤ n) :
    (Builtin.lenOf y').run P w = .ok n w ∧ ∃ l', (Builtin.firstCells size m y').run P w = .ok l' w ∧ VRs ι (row.take (m * size)) l'.toList := by
  cases y <;> simp [lenC] at hn
  · -- a string
    rename_i s
    obtain rfl := hy.string_inv
    simp [rowOf] at hr; subst hr
    have hn' : s.size = n := by omega
    refine ⟨by simp [Builtin.lenOf, hn'], _, by simp only [Builtin.firstCells, Sem.run_pure]; rfl, ?_⟩
    have h0 : n = n * size := by rw [← hl]; simp [← hn']
    have hms : m * size = m ∨ n = 0 := by
      rcases Nat.eq_zero_or_pos n with h | h
      · exact .inr h
      · left
        have : size = 1 := by
          have : n * 1 = n * size := by omega
          exact (Nat.eq_of_mul_eq_mul_left h this).symm
        rw [this]; simp
    have e : (((s.extract 0 m).data.map fun b => Value.int .u8 (b.toNat : Int))).toList = (s.data.toList.map fun b => Value.int .u8 (b.toNat : Int)).take (m * size) := by
      rcases hms with h | h
      · rw [h, ← List.map_take]; simp [ByteArray.data_extract]
      · subst h
        have hm0 : m = 0 := by omega
        subst hm0
        simp
    rw [e]
    exact VRs.closed (by intro x hx; have := List.mem_of_mem_take hx; simp at this; obtain ⟨b, _, rfl⟩ := this; rfl)
  · -- a slice
    rename_i a len c
    have hn' : len = n := by omega
    subst hn'
    have hlen : ∃ a' c', y' = .slice a' len c' := by
      cases a with
      | none => exact ⟨_, _, hy.closed_inv rfl⟩
      | some a => rcases hy.slice_inv with ⟨_, _, _, _, _, _, rfl⟩ | ⟨_, _, _, _, _, _, _, _, _, rfl⟩ | ⟨_, _, rfl, rfl, _⟩ | ⟨_, rfl, rfl, _⟩ <;> exact ⟨_, _, rfl⟩
    obtain ⟨a', c', rfl⟩ := hlen
    refine ⟨by simp [Builtin.lenOf], ?_⟩
    cases a with
    | none =>
      simp [rowOf] at hr; subst hr
      have he := hy.closed_inv rfl
      simp at he; obtain ⟨rfl, _⟩ := he
      exact ⟨#[], by simp [Builtin.firstCells], by simp [VRs]⟩
    | some a =>
      have main : ∀ (i k : Nat) (p : Place), a = ⟨i, k, none⟩ → ι[i]? = some p → a' = some ⟨p.block, p.off + k, none⟩ → ∃ l', (Builtin.firstCells size m (.slice a' len c')).run P w = .ok l' w ∧ VRs ι (row.take (m * size)) l'.toList := by
        rintro i k p rfl hp rfl
        simp only [rowOf, Option.bind_eq_some_iff] at hr
        obtain ⟨cs, hcs, hs⟩ := hr
        obtain ⟨hle, rfl⟩ := slc_some hs
        have hms : m * size ≤ len * size := Nat.mul_le_mul_right _ hm
        have hs' : slc cs k (m * size) = some ((cs.drop k).take (m * size)) := by
          unfold slc; rw [if_pos (by omega)]
        obtain ⟨l', h1, h2, h3⟩ := cells_row (R.cells hcs hp) hs'
        have hrun := run_loadCells_list (P := P) (w := w) ⟨p.block, p.off + k, none⟩ l' h3
        rw [h2] at hrun
        refine ⟨l'.toArray, by simp only [Builtin.firstCells, hrun], ?_⟩
        rw [List.take_take, Nat.min_eq_left hms]
        simpa using h1
      rcases hy.slice_inv with ⟨i, k, p, h1, h2, _, h4⟩ | ⟨i, k, p, c, h1, _, h2, _, _, h4⟩ | ⟨b, _, h0, h4, _⟩ | ⟨_, h0, h4, _⟩
      · simp at h4; exact main i k p h1 h2 h4.1
      · simp at h4; exact main i k p h1 h2 h4.1
      · simp at h4
        obtain ⟨rfl, _, _⟩ := h4
        have hm0 : m = 0 := by omega
        subst hm0
        exact ⟨#[], by simp [Builtin.firstCells, loadCells, loadCellsFrom], by simp [VRs]⟩
      · simp at h4
        obtain ⟨rfl, _⟩ := h4
        have hm0 : m = 0 := by omega
        subst hm0
        exact ⟨#[], by simp [Builtin.firstCells], by simp [VRs]⟩
theorem allOne {l : List Value} (h : l.all one1 = true) : ∀ x ∈ l, one1 x = true := fun x hx => List.all_eq_true.1 h x hx
theorem VRs.one {ι : List Place} : ∀ {xs ys : List Value}, VRs ι xs ys → (∀ x ∈ xs, one1 x = true) → ∀ y ∈ ys, y.oneCell' = true
  | [], [], _, _, y, hy => by simp at hy
  | x :: xs, z :: ys, ⟨a, b⟩, h, y, hy => by
    have e : ∀ v : Value, v.oneCell' = one1 v := fun v => by cases v <;> rfl
    simp at hy
    rcases hy with rfl | hy
    · rw [e]; exact a.one1 (h x (by simp))
    · exact VRs.one b (fun z hz => h z (by simp [hz])) y hy
  | [], _ :: _, h, _, _, _ => h.elim
  | _ :: _, [], h, _, _, _ => h.elim
theorem does_store (T : TyOk P ty) {ι : List Place} {h : Heap} {w : World} (R : RelH ι h w) {t : TypeId} {d : TD} (ht : ty t = some d) {p x p' x' : Value} {h' : Heap} (hs : storeC d h p x = some h') (hp : VR ι p p') (hx : VR ι x x') :
    ∃ w', (Instr.storeAt t p' x').run P w = .ok () w' ∧ RelH ι h' w' ∧ Grow ι h w ι h' w' := by
  unfold storeC at hs
  split at hs
  · rename_i i k
    obtain ⟨q, hq, rfl⟩ := hp.ptr_inv
    split at hs
    · rename_i cs own unit hg
      split at hs
      · simp only [Option.ite_none_right_eq_some, Option.some.injEq] at hs
        obtain ⟨⟨h1, h2, h3⟩, rfl⟩ := hs
        have hc := hx.cells
        obtain ⟨r1, r2, r3, r4⟩ := R.store hg hq hc (k := k) (by omega)
        refine ⟨_, ?_, r1, r2⟩
        have hrun := run_storeCells_cells (P := P) q.block (q.off + k) x'.cells.toList 0 w (by simpa using r3) (by simpa using r4) (hc.one (allOne h3))
        have hsz : x'.cells.size = d.size := by rw [← h2, hc.length]; simp
        simp only [Nat.add_zero] at hrun
        simp only [Instr.storeAt, Instr.sureAddr, storeVar, Sem.run_bind, Sem.run_pure, Result.andThen_ok, T.sizeOf ht, hsz]
        simp [hrun]
      · simp at hs
    · simp at hs
  · simp at hs
theorem does_copy (T : TyOk P ty) {ι : List Place} {h : Heap} {w : World} (R : RelH ι h w) {t0 e : TypeId} {d0 d : TD} (ht0 : ty t0 = some d0) (hk : d0.desc = .slice e) (ht : ty e = some d) {ats : Array TypeId} (hat : ats[0]? = some t0) {x y x' y' : Value} {rest : List Value} {v : Value} {h' : Heap} (hs : copyC d h x y = some (v, h')) (hx : VR ι x x') (hy : VR ι y y') (ot : TypeId) :
    ∃ w', (Builtin.copy_ ats ot (x' :: y' :: rest).toArray).run P w = .ok v w' ∧ closed1 v = true ∧ RelH ι h' w' ∧ Grow ι h w ι h' w' := by
  have hu := T.underlying ht0 w
  rw [hk] at hu
  simp only [copyC, Option.bind_eq_some_iff] at hs
  obtain ⟨nv, hnv, hs⟩ := hs
  split at hs
  · rename_i kk ni
    have hni : ∃ n : Nat, ni = (n : Int) := by
      cases y <;> simp [lenC] at hnv
      · exact ⟨_, hnv.2.symm⟩
      · exact ⟨_, hnv.2.symm⟩
    obtain ⟨n, rfl⟩ := hni
    simp only [Int.toNat_natCast] at hs
    split at hs
    · rename_i a len cap
      simp only [Option.bind_eq_some_iff] at hs
      obtain ⟨row, hrow, hs⟩ := hs
      split at hs
      · simp only [Option.ite_none_right_eq_some, Option.some.injEq, Prod.mk.injEq] at hs
        obtain ⟨rfl, rfl, rfl⟩ := hs
        obtain rfl := hx.closed_inv rfl
        have hn1 : row.length = row.length := rfl
        -- nothing is copied
        have : ∃ l', (Builtin.lenOf y').run P w = .ok n w ∧ (Builtin.firstCells d.size 0 y').run P w = .ok l' w := by
          cases y <;> simp [lenC] at hnv
          · rename_i s
            obtain rfl := hy.string_inv
            have : s.size = n := by have := hnv.2; omega
            exact ⟨_, by simp [Builtin.lenOf, this], rfl⟩
          · rename_i a len c
            have hn' : len = n := by have := hnv.2; omega
            cases a with
            | none => obtain rfl := hy.closed_inv rfl; exact ⟨#[], by simp [Builtin.lenOf, hn'], by simp [Builtin.firstCells]⟩
            | some a => rcases hy.slice_inv with ⟨_, _, _, _, _, _, rfl⟩ | ⟨_, _, _, _, _, _, _, _, _, rfl⟩ | ⟨_, _, rfl, rfl, _⟩ | ⟨_, rfl, rfl, _⟩ <;> exact ⟨#[], by simp [Builtin.lenOf, hn'], by simp [Builtin.firstCells, loadCells, loadCellsFrom]⟩
        obtain ⟨l', q1, q2⟩ := this
        refine ⟨w, ?_, rfl, R, .refl _ _ _⟩
        simp [Builtin.copy_, hat, hu, q1, T.sizeOf ht, q2, goInt]
      · rename_i i k
        split at hs
        · rename_i cs own unit hg
          split at hs
          · simp only [Option.ite_none_right_eq_some, Option.some.injEq, Prod.mk.injEq] at hs
            obtain ⟨⟨h1, h2, h3⟩, rfl, rfl⟩ := hs
            obtain ⟨f1, l', f2, f3⟩ := first_cells (P := P) R hrow (m := min n len) hnv h3 hy (Nat.min_le_left _ _)
            have hlen' : (row.take (min n len * d.size)).length = min n len * d.size := by
              have : min n len * d.size ≤ n * d.size := Nat.mul_le_mul_right _ (Nat.min_le_left _ _)
              rw [List.length_take]; omega
            have main : ∀ (q : Place) (c' : Nat), ι[i]? = some q → x' = .slice (some ⟨q.block, q.off + k, none⟩) len c' →
                ∃ w', (Builtin.copy_ ats ot (x' :: y' :: rest).toArray).run P w = .ok (.int .i64 (min n len : Nat)) w' ∧ closed1 (.int .i64 (min n len : Nat)) = true ∧ RelH ι (h.set i (some (.cells (setL cs k (row.take (min n len * d.size))) true unit))) w' ∧ Grow ι h w ι (h.set i (some (.cells (setL cs k (row.take (min n len * d.size))) true unit))) w' := by
              rintro q c' hq rfl
              obtain ⟨r1, r2, r3, r4⟩ := R.store hg hq f3 (k := k) (by omega)
              have hrun := run_storeCells_cells (P := P) q.block (q.off + k) l'.toList 0 w (by simpa using r3) (by simpa using r4) (f3.one (allOne h2))
              simp only [Nat.add_zero] at hrun
              refine ⟨_, ?_, rfl, r1, r2⟩
              simp only [Builtin.copy_, hat, List.getElem?_toArray, List.getElem?_cons_zero, List.getElem?_cons_succ, Sem.run_bind, hu, Result.andThen_ok, f1, T.sizeOf ht, Sem.run_pure]
              rw [show Nat.min n len = min n len from rfl, f2]
              simp only [Result.andThen_ok, hrun]
              rfl
            rcases hx.slice_inv with ⟨i', k', p, he, hp, _, hx'⟩ | ⟨i', k', p, c', he, _, hp, _, _, hx'⟩ | ⟨b, _, h0, hx', _⟩ | ⟨_, h0, hx', _⟩
            · simp at he; obtain ⟨rfl, rfl⟩ := he; exact main p _ hp hx'
            · simp at he; obtain ⟨rfl, rfl⟩ := he; exact main p _ hp hx'
            · subst h0; subst hx'
              have hl0 : l' = #[] := by
                have := f3.length
                rw [hlen'] at this
                simp at this
                exact Array.eq_empty_of_size_eq_zero this.symm
              subst hl0
              refine ⟨w, ?_, rfl, ?_⟩
              · have f2' : (Builtin.firstCells d.size 0 y').run P w = .ok #[] w := by simpa using f2
                simp [Builtin.copy_, hat, hu, f1, T.sizeOf ht, storeCells, goInt, f2']
              · obtain ⟨q, hq, _⟩ := R.blk i _ hg
                obtain ⟨r1, r2, _⟩ := R.store hg hq f3 (k := k) (by omega)
                exact ⟨r1, r2⟩
            · subst h0; subst hx'
              have hl0 : l' = #[] := by
                have := f3.length
                rw [hlen'] at this
                simp at this
                exact Array.eq_empty_of_size_eq_zero this.symm
              subst hl0
              refine ⟨w, ?_, rfl, ?_⟩
              · have f2' : (Builtin.firstCells d.size 0 y').run P w = .ok #[] w := by simpa using f2
                simp [Builtin.copy_, hat, hu, f1, T.sizeOf ht, storeCells, goInt, f2']
              · obtain ⟨q, hq, _⟩ := R.blk i _ hg
                obtain ⟨r1, r2, _⟩ := R.store hg hq f3 (k := k) (by omega)
                exact ⟨r1, r2⟩
          · simp at hs
        · simp at hs
      · simp at hs
    · simp at hs
  · simp at hs
end Go.Sx
