/-
  Values of a type that are held against each other, cell by cell: for every type of numbers, bools and strings. Own words; no condition.
-/
import Derived.Test.YtfefdjomenfchaaSxO
import Derived.Laws.StructEq
import Derived.ChangeKeysEq
namespace Go.Sx
open Go
variable {P : Program}
/-- Cells, as a value of a type. -/
def asV (P : Program) (t : TypeId) (cs : List Value) : Value :=
  match P.underlying t with
  | some (.struct _) => .agg cs.toArray
  | some (.array _ _) => .agg cs.toArray
  | _ => cs.headD undef
def eqOkB (P : Program) : Nat → TypeId → List Value → Bool
  | 0, _, _ => false
  | m + 1, t, zs => match P.underlying t with
    | some .bool => match zs with
      | [.bool _] => P.cellsOf t == 1
      | _ => false
    | some (.int k) => match zs with
      | [.int k' _] => decide (k = k') && P.cellsOf t == 1
      | _ => false
    | some .string => match zs with
      | [.string _] => P.cellsOf t == 1
      | _ => false
    | some (.struct fs) => !P.stoodInHeld t && tilesB P zs.length 0 (fparts fs) && fs.toList.all fun (f : Field) => f.name != "_" && (P.info? f.type).isSome && eqOkB P m f.type ((zs.drop f.offset).take (P.cellsOf f.type))
    | some (.array n e) => zs.length == n * P.cellsOf e && (P.info? e).isSome && (List.range n).all fun j => eqOkB P m e ((zs.drop (j * P.cellsOf e)).take (P.cellsOf e))
    | _ => false
theorem flatEq_length : ∀ {zs xs ys : List Value} {b : Bool}, flatEq zs xs ys = some b → xs.length = zs.length ∧ ys.length = zs.length := by
  intro zs xs ys
  fun_induction flatEq zs xs ys with
  | case1 => intro b _; exact ⟨rfl, rfl⟩
  | case2 k z zs k' a xs k'' c ys hk ih => intro b h; simp only [Option.map_eq_some_iff] at h; obtain ⟨r, hr, _⟩ := h; simp [ih hr]
  | case3 => intro b h; simp at h
  | case4 z zs a xs c ys ih => intro b h; simp only [Option.map_eq_some_iff] at h; obtain ⟨r, hr, _⟩ := h; simp [ih hr]
  | case5 z zs a xs c ys ih => intro b h; simp only [Option.map_eq_some_iff] at h; obtain ⟨r, hr, _⟩ := h; simp [ih hr]
  | case6 => intro b h; simp at h
theorem flatEq_split : ∀ {zs xs ys : List Value} {b : Bool} (k : Nat), flatEq zs xs ys = some b → ∃ p q, flatEq (zs.take k) (xs.take k) (ys.take k) = some p ∧ flatEq (zs.drop k) (xs.drop k) (ys.drop k) = some q ∧ b = (p && q) := by
  intro zs xs ys
  fun_induction flatEq zs xs ys with
  | case1 => intro b k h; simp at h; subst h; exact ⟨true, true, by simp [flatEq], by simp [flatEq], rfl⟩
  | case2 k0 z zs k' a xs k'' c ys hk ih =>
    intro b k h
    cases k with
    | zero => exact ⟨true, b, by simp [flatEq], by simp only [List.drop_zero]; rw [flatEq, if_pos hk]; exact h, by simp⟩
    | succ k =>
      simp only [Option.map_eq_some_iff] at h
      obtain ⟨r, hr, rfl⟩ := h
      obtain ⟨p, q, h1, h2, rfl⟩ := ih k hr
      obtain ⟨rfl, rfl⟩ := hk
      exact ⟨(a == c) && p, q, by simp [flatEq, h1], by simpa using h2, by simp [Bool.and_assoc]⟩
  | case3 => intro b k h; simp at h
  | case4 z zs a xs c ys ih =>
    intro b k h
    cases k with
    | zero => exact ⟨true, b, by simp [flatEq], by simpa [flatEq] using h, by simp⟩
    | succ k =>
      simp only [Option.map_eq_some_iff] at h
      obtain ⟨r, hr, rfl⟩ := h
      obtain ⟨p, q, h1, h2, rfl⟩ := ih k hr
      exact ⟨(a == c) && p, q, by simp [flatEq, h1], by simpa using h2, by simp [Bool.and_assoc]⟩
  | case5 z zs a xs c ys ih =>
    intro b k h
    cases k with
    | zero => exact ⟨true, b, by simp [flatEq], by simpa [flatEq] using h, by simp⟩
    | succ k =>
      simp only [Option.map_eq_some_iff] at h
      obtain ⟨r, hr, rfl⟩ := h
      obtain ⟨p, q, h1, h2, rfl⟩ := ih k hr
      exact ⟨(a == c) && p, q, by simp [flatEq, h1], by simpa using h2, by simp [Bool.and_assoc]⟩
  | case6 => intro b k h; simp at h
theorem eqOkB_one {m : Nat} {t : TypeId} {zs : List Value} (h : eqOkB P m t zs = true) (hs : ∀ fs, P.underlying t ≠ some (.struct fs)) (ha : ∀ n e, P.underlying t ≠ some (.array n e)) : P.cellsOf t = 1 := by
  cases m with
  | zero => simp [eqOkB] at h
  | succ m =>
    unfold eqOkB at h
    split at h
    · split at h
      · simpa using h
      · simp at h
    · split at h
      · simp at h; exact h.2
      · simp at h
    · split at h
      · simpa using h
      · simp at h
    · rename_i fs hu; exact absurd hu (hs fs)
    · rename_i n e hu; exact absurd hu (ha n e)
    · simp at h
theorem run_asV {w : World} {m : Nat} {t : TypeId} {zs : List Value} (h : eqOkB P m t zs = true) (hi : (P.info? t).isSome = true) {cs : List Value} {off : Nat} (hl : off + P.cellsOf t ≤ cs.length) :
    (part t cs.toArray off).run P w = .ok (asV P t ((cs.drop off).take (P.cellsOf t))) w := by
  obtain ⟨i, hi⟩ := Option.isSome_iff_exists.1 hi
  have hsz : (sizeOf t).run P w = .ok (P.cellsOf t) w := run_sizeOf w hi
  have hu : ∃ u, P.underlying t = some u := by
    cases m with
    | zero => simp [eqOkB] at h
    | succ m =>
      cases hu : P.underlying t with
      | none => unfold eqOkB at h; rw [hu] at h; simp at h
      | some u => exact ⟨u, rfl⟩
  obtain ⟨u, hu⟩ := hu
  have hur : (underlying t).run P w = .ok u w := run_underlying hu w
  unfold part
  simp only [Sem.run_bind]
  have key : ∀ b, (isAgg t).run P w = .ok b w → (b = true → asV P t ((cs.drop off).take (P.cellsOf t)) = .agg ((cs.drop off).take (P.cellsOf t)).toArray) → (b = false → asV P t ((cs.drop off).take (P.cellsOf t)) = ((cs.drop off).take (P.cellsOf t)).headD undef ∧ P.cellsOf t = 1) →
      ((isAgg t).run P w).andThen (fun a => (if a = true then (do pure (Value.agg (cs.toArray.extract off (off + (← sizeOf t)))) : Sem Value) else match cs.toArray[off]? with
        | some v => pure v
        | none => stuck "part: no such cell").run P) = .ok (asV P t ((cs.drop off).take (P.cellsOf t))) w := by
    intro b hb h1 h2
    rw [hb]
    simp only [Result.andThen_ok]
    cases b with
    | true =>
      rw [h1 rfl]
      simp only [if_true, Sem.run_bind, hsz, Result.andThen_ok, Sem.run_pure]
      congr 2
      apply Array.ext'
      simp [List.extract_eq_take_drop]
    | false =>
      obtain ⟨h3, h4⟩ := h2 rfl
      rw [h3, h4]
      have hlt : off < cs.length := by omega
      simp only [Bool.false_eq_true, if_false]
      have : cs.toArray[off]? = some cs[off] := by simp [hlt]
      rw [this]
      simp only [Sem.run_pure]
      rw [List.drop_eq_getElem_cons hlt]
      rfl
  have hag : ∃ b, (isAgg t).run P w = .ok b w ∧ (b = true ↔ isAggD u = true) := by
    unfold isAgg
    simp only [Sem.run_bind, hur, Result.andThen_ok]
    cases u <;> exact ⟨_, rfl, by simp [isAggD]⟩
  obtain ⟨b, hb, hbi⟩ := hag
  refine key b hb (fun hbt => ?_) (fun hbf => ?_)
  · have := hbi.1 hbt
    unfold asV
    rw [hu]
    cases u <;> first | rfl | (simp [isAggD] at this)
  · have hn : ¬ isAggD u = true := fun q => by rw [hbi.2 q] at hbf; cases hbf
    refine ⟨?_, eqOkB_one h (fun fs q => ?_) (fun n e q => ?_)⟩
    · unfold asV
      rw [hu]
      cases u <;> first | rfl | (simp [isAggD] at hn)
    · rw [hu] at q; cases q; simp [isAggD] at hn
    · rw [hu] at q; cases q; simp [isAggD] at hn
theorem take_length {α : Type} {l : List α} {off n : Nat} (h : off + n ≤ l.length) : ((l.drop off).take n).length = n := by simp; omega
/-- What holding two against each other gives. -/
theorem eq_run {w : World} : ∀ (m d : Nat) {t : TypeId} {zs xs ys : List Value} {b : Bool}, eqOkB P m t zs = true → flatEq zs xs ys = some b → (Op.equalIn (d + m) t (asV P t xs) (asV P t ys)).run P w = .ok b w := by
  intro m
  induction m with
  | zero => intro d t zs xs ys b h; simp [eqOkB] at h
  | succ m ih =>
    intro d t zs xs ys b h hf
    rw [show d + (m + 1) = (d + m) + 1 from rfl]
    have hl := flatEq_length hf
    unfold eqOkB at h
    split at h
    · rename_i hu
      split at h
      · match xs, ys, hf with
        | [.bool x], [.bool y], hf =>
          simp [flatEq] at hf; subst hf
          simp only [asV, hu, List.headD_cons]
          exact run_equalIn_bool' w (d + m) t x y hu
      · simp at h
    · rename_i k hu
      split at h
      · match xs, ys, hf with
        | [.int k1 x], [.int k2 y], hf =>
          rw [flatEq] at hf
          split at hf
          · rename_i hk
            obtain ⟨rfl, rfl⟩ := hk
            simp [flatEq] at hf; subst hf
            simp only [asV, hu, List.headD_cons]
            exact run_equalIn_int w (d + m) t _ _ x y hu
          · simp at hf
      · simp at h
    · rename_i hu
      split at h
      · match xs, ys, hf with
        | [.string x], [.string y], hf =>
          simp [flatEq] at hf; subst hf
          simp only [asV, hu, List.headD_cons]
          rw [run_equalIn_string w (d + m) t x y hu, beq_toListBytes]
      · simp at h
    · rename_i fs hu
      simp only [Bool.and_eq_true, Bool.not_eq_true', List.all_eq_true, bne_iff_ne] at h
      obtain ⟨⟨hst, htl⟩, hall⟩ := h
      have hfo : P.fieldsOf t = fs := by simp [Program.fieldsOf, hu]
      have ex : asV P t xs = .agg xs.toArray := by simp [asV, hu]
      have ey : asV P t ys = .agg ys.toArray := by simp [asV, hu]
      rw [ex, ey, run_equalIn_struct w (d + m) t _ _ (by rw [hfo]; exact hu) hst, hfo]
      have key : ∀ (l : List Field) (off : Nat) (b : Bool), (∀ f ∈ l, f ∈ fs.toList) → tilesB P zs.length off (l.map fun (f : Field) => (f.type, f.offset)) = true → flatEq (zs.drop off) (xs.drop off) (ys.drop off) = some b →
          (Op.eqFields (d + m) xs.toArray ys.toArray l).run P w = .ok b w := by
        intro l
        induction l with
        | nil =>
          intro off b _ ht hf
          simp only [List.map_nil, tilesB, beq_iff_eq] at ht
          subst ht
          have e1 : zs.drop zs.length = [] := by simp
          have e2 : xs.drop zs.length = [] := by rw [← hl.1]; simp
          have e3 : ys.drop zs.length = [] := by rw [← hl.2]; simp
          rw [e1, e2, e3] at hf
          simp [flatEq] at hf; subst hf
          simp [Op.eqFields]
        | cons f l ihl =>
          intro off b hm ht hf
          simp only [List.map_cons, tilesB, Bool.and_eq_true, beq_iff_eq] at ht
          obtain ⟨rfl, ht⟩ := ht
          have hle := tilesB_le ht
          obtain ⟨⟨hn, hi⟩, hok⟩ := hall f (hm f (by simp))
          obtain ⟨p, q, h1, h2, rfl⟩ := flatEq_split (P.cellsOf f.type) hf
          rw [List.drop_drop, List.drop_drop, List.drop_drop] at h2
          have hr := ihl (f.offset + P.cellsOf f.type) q (fun g hg => hm g (by simp [hg])) ht h2
          have hp := ih d hok h1
          rw [Op.eqFields]
          simp only [if_pos hn, Sem.run_bind, run_asV hok hi (cs := xs) (off := f.offset) (by omega), run_asV hok hi (cs := ys) (off := f.offset) (by omega), Result.andThen_ok, hp]
          cases p
          · simp
          · simpa using hr
      refine key fs.toList 0 b (fun _ h => h) htl (by simpa using hf)
    · rename_i n e hu
      simp only [Bool.and_eq_true, beq_iff_eq, List.all_eq_true, List.mem_range] at h
      obtain ⟨⟨hlen, hi⟩, hall⟩ := h
      obtain ⟨i, hi'⟩ := Option.isSome_iff_exists.1 hi
      have ex : asV P t xs = .agg xs.toArray := by simp [asV, hu]
      have ey : asV P t ys = .agg ys.toArray := by simp [asV, hu]
      rw [ex, ey, run_equalIn_array w (d + m) _ _ hu hi']
      have key : ∀ (k j : Nat) (b : Bool), j + k = n → flatEq (zs.drop (j * P.cellsOf e)) (xs.drop (j * P.cellsOf e)) (ys.drop (j * P.cellsOf e)) = some b →
          (Op.eqItems (d + m) e (P.cellsOf e) xs.toArray ys.toArray (List.range' j k)).run P w = .ok b w := by
        intro k
        induction k with
        | zero =>
          intro j b hj hf
          obtain rfl : j = n := by omega
          have e1 : zs.drop (j * P.cellsOf e) = [] := by rw [← hlen]; simp
          have e2 : xs.drop (j * P.cellsOf e) = [] := by rw [← hlen, ← hl.1]; simp
          have e3 : ys.drop (j * P.cellsOf e) = [] := by rw [← hlen, ← hl.2]; simp
          rw [e1, e2, e3] at hf
          simp [flatEq] at hf; subst hf
          simp [Op.eqItems]
        | succ k ihk =>
          intro j b hj hf
          have hok := hall j (by omega)
          have hle : j * P.cellsOf e + P.cellsOf e ≤ zs.length := by
            rw [hlen, ← Nat.succ_mul]; exact Nat.mul_le_mul_right _ (by omega)
          obtain ⟨p, q, h1, h2, rfl⟩ := flatEq_split (P.cellsOf e) hf
          rw [List.drop_drop, List.drop_drop, List.drop_drop, ← Nat.succ_mul] at h2
          have hr := ihk (j + 1) q (by omega) h2
          have hp := ih d hok h1
          rw [List.range'_succ, Op.eqItems]
          simp only [Sem.run_bind, run_asV hok hi (cs := xs) (off := j * P.cellsOf e) (by omega), run_asV hok hi (cs := ys) (off := j * P.cellsOf e) (by omega), Result.andThen_ok, hp]
          cases p
          · simp
          · simpa using hr
      rw [List.range_eq_range']
      exact key n 0 b (by omega) (by simpa using hf)
    · simp at h
noncomputable section
def eqsB (P : Program) (eqs : List Nat) : Bool := eqs.all fun t => match tyOf P eqs t with
  | some d => eqOkB P 10 t d.zero && !P.eqGuardType P.depth t && isAggD d.desc
  | none => true
end
/-- Types whose values may be held against each other cell by cell. -/
theorem eqsOk_of {eqs : List Nat} (h : eqsB P eqs = true) : EqsOk P eqs := by
  intro t ht d hd w xs ys b hf
  have h1 := List.all_eq_true.1 h t ht
  simp only [hd, Bool.and_eq_true, Bool.not_eq_true'] at h1
  refine ⟨?_, h1.1.2⟩
  have hu : P.underlying t = some d.desc := by
    simp only [tyOf, Option.bind_eq_some_iff, Option.ite_none_right_eq_some, Option.some.injEq] at hd
    obtain ⟨i, hi, u, hu, v, hv, _, rfl⟩ := hd
    exact hu
  have hag : ∀ cs : List Value, asV P t cs = .agg cs.toArray := by
    intro cs
    unfold asV
    rw [hu]
    have h2 := h1.2
    cases hdd : d.desc <;> first | rfl | (rw [hdd] at h2; simp [isAggD] at h2)
  have := eq_run (w := w) 10 9990 h1.1.1 hf
  rw [hag, hag] at this
  exact this
end Go.Sx
