/-
  Walks by Sx; no condition beyond those that stand in each statement.
-/
import Derived.Test.YtfjdbhgnnpmceaaSxb8
import Derived.Laws.StructEq
import Derived.ChangeKeysEq
section
/-
  Values of a type that are held against each other, cell by cell: for every type of numbers, bools and strings. Own words; no condition.
-/
namespace Go.Sx
open Go
variable {P : Program}
/-- Cells, as a value of a type. -/
def asV (P : Program) (t : TypeId) (cs : List Value) : Value :=
  match P.underlying t with
  | some (.struct _) => .agg cs.toArray
  | some (.array _ _) => .agg cs.toArray
  | _ => cs.headD undef
def eqOkB (P : Program) : Nat → TypeId → List Value → Bool
  | 0, _, _ => false
  | m + 1, t, zs => match P.underlying t with
    | some .bool => match zs with
      | [.bool _] => P.cellsOf t == 1
      | _ => false
    | some (.int k) => match zs with
      | [.int k' _] => decide (k = k') && P.cellsOf t == 1
      | _ => false
    | some .string => match zs with
      | [.string _] => P.cellsOf t == 1
      | _ => false
    | some (.struct fs) => !P.stoodInHeld t && tilesB P zs.length 0 (fparts fs) && fs.toList.all fun (f : Field) => f.name != "_" && (P.info? f.type).isSome && eqOkB P m f.type ((zs.drop f.offset).take (P.cellsOf f.type))
    | some (.array n e) => zs.length == n * P.cellsOf e && (P.info? e).isSome && (List.range n).all fun j => eqOkB P m e ((zs.drop (j * P.cellsOf e)).take (P.cellsOf e))
    | _ => false
theorem flatEq_length : ∀ {zs xs ys : List Value} {b : Bool}, flatEq zs xs ys = some b → xs.length = zs.length ∧ ys.length = zs.length := by
  intro zs xs ys
  fun_induction flatEq zs xs ys with
  | case1 => intro b _; exact ⟨rfl, rfl⟩
  | case2 k z zs k' a xs k'' c ys hk ih => intro b h; simp only [Option.map_eq_some_iff] at h; obtain ⟨r, hr, _⟩ := h; simp [ih hr]
  | case3 => intro b h; simp at h
  | case4 z zs a xs c ys ih => intro b h; simp only [Option.map_eq_some_iff] at h; obtain ⟨r, hr, _⟩ := h; simp [ih hr]
  | case5 z zs a xs c ys ih => intro b h; simp only [Option.map_eq_some_iff] at h; obtain ⟨r, hr, _⟩ := h; simp [ih hr]
  | case6 => intro b h; simp at h
theorem flatEq_split : ∀ {zs xs ys : List Value} {b : Bool} (k : Nat), flatEq zs xs ys = some b → ∃ p q, flatEq (zs.take k) (xs.take k) (ys.take k) = some p ∧ flatEq (zs.drop k) (xs.drop k) (ys.drop k) = some q ∧ b = (p && q) := by
  intro zs xs ys
  fun_induction flatEq zs xs ys with
  | case1 => intro b k h; simp at h; subst h; exact ⟨true, true, by simp, by simp, rfl⟩
  | case2 k0 z zs k' a xs k'' c ys hk ih =>
    intro b k h
    cases k with
    | zero => exact ⟨true, b, by simp, by simp only [List.drop_zero]; rw [flatEq, if_pos hk]; exact h, by simp⟩
    | succ k =>
      simp only [Option.map_eq_some_iff] at h
      obtain ⟨r, hr, rfl⟩ := h
      obtain ⟨p, q, h1, h2, rfl⟩ := ih k hr
      obtain ⟨rfl, rfl⟩ := hk
      exact ⟨(a == c) && p, q, by simp [h1], by simpa using h2, by simp [Bool.and_assoc]⟩
  | case3 => intro b k h; simp at h
  | case4 z zs a xs c ys ih =>
    intro b k h
    cases k with
    | zero => exact ⟨true, b, by simp, by simpa [flatEq] using h, by simp⟩
    | succ k =>
      simp only [Option.map_eq_some_iff] at h
      obtain ⟨r, hr, rfl⟩ := h
      obtain ⟨p, q, h1, h2, rfl⟩ := ih k hr
      exact ⟨(a == c) && p, q, by simp [h1], by simpa using h2, by simp [Bool.and_assoc]⟩
  | case5 z zs a xs c ys ih =>
    intro b k h
    cases k with
    | zero => exact ⟨true, b, by simp, by simpa [flatEq] using h, by simp⟩
    | succ k =>
      simp only [Option.map_eq_some_iff] at h
      obtain ⟨r, hr, rfl⟩ := h
      obtain ⟨p, q, h1, h2, rfl⟩ := ih k hr
      exact ⟨(a == c) && p, q, by simp [h1], by simpa using h2, by simp [Bool.and_assoc]⟩
  | case6 => intro b k h; simp at h
theorem eqOkB_one {m : Nat} {t : TypeId} {zs : List Value} (h : eqOkB P m t zs = true) (hs : ∀ fs, P.underlying t ≠ some (.struct fs)) (ha : ∀ n e, P.underlying t ≠ some (.array n e)) : P.cellsOf t = 1 := by
  cases m with
  | zero => simp [eqOkB] at h
  | succ m =>
    unfold eqOkB at h
    split at h
    · split at h
      · simpa using h
      · simp at h
    · split at h
      · simp at h; exact h.2
      · simp at h
    · split at h
      · simpa using h
      · simp at h
    · rename_i fs hu; exact absurd hu (hs fs)
    · rename_i n e hu; exact absurd hu (ha n e)
    · simp at h
theorem run_asV {w : World} {m : Nat} {t : TypeId} {zs : List Value} (h : eqOkB P m t zs = true) (hi : (P.info? t).isSome = true) {cs : List Value} {off : Nat} (hl : off + P.cellsOf t ≤ cs.length) :
    (part t cs.toArray off).run P w = .ok (asV P t ((cs.drop off).take (P.cellsOf t))) w := by
  obtain ⟨i, hi⟩ := Option.isSome_iff_exists.1 hi
  have hsz : (sizeOf t).run P w = .ok (P.cellsOf t) w := run_sizeOf w hi
  have hu : ∃ u, P.underlying t = some u := by
    cases m with
    | zero => simp [eqOkB] at h
    | succ m =>
      cases hu : P.underlying t with
      | none => unfold eqOkB at h; rw [hu] at h; simp at h
      | some u => exact ⟨u, rfl⟩
  obtain ⟨u, hu⟩ := hu
  have hur : (underlying t).run P w = .ok u w := run_underlying hu w
  unfold part
  simp only [Sem.run_bind]
  have key : ∀ b, (isAgg t).run P w = .ok b w → (b = true → asV P t ((cs.drop off).take (P.cellsOf t)) = .agg ((cs.drop off).take (P.cellsOf t)).toArray) → (b = false → asV P t ((cs.drop off).take (P.cellsOf t)) = ((cs.drop off).take (P.cellsOf t)).headD undef ∧ P.cellsOf t = 1) →
      ((isAgg t).run P w).andThen (fun a => (if a = true then (do pure (Value.agg (cs.toArray.extract off (off + (← sizeOf t)))) : Sem Value) else match cs.toArray[off]? with
        | some v => pure v
        | none => stuck "part: no such cell").run P) = .ok (asV P t ((cs.drop off).take (P.cellsOf t))) w := by
    intro b hb h1 h2
    rw [hb]
    simp only [Result.andThen_ok]
    cases b with
    | true =>
      rw [h1 rfl]
      simp only [if_true, Sem.run_bind, hsz, Result.andThen_ok, Sem.run_pure]
      congr 2
      apply Array.ext'
      simp [List.extract_eq_take_drop]
    | false =>
      obtain ⟨h3, h4⟩ := h2 rfl
      rw [h3, h4]
      have hlt : off < cs.length := by omega
      simp only [Bool.false_eq_true, if_false]
      have : cs.toArray[off]? = some cs[off] := by simp [hlt]
      rw [this]
      simp only [Sem.run_pure]
      rw [List.drop_eq_getElem_cons hlt]
      rfl
  have hag : ∃ b, (isAgg t).run P w = .ok b w ∧ (b = true ↔ isAggD u = true) := by
    unfold isAgg
    simp only [Sem.run_bind, hur, Result.andThen_ok]
    cases u <;> exact ⟨_, rfl, by simp [isAggD]⟩
  obtain ⟨b, hb, hbi⟩ := hag
  refine key b hb (fun hbt => ?_) (fun hbf => ?_)
  · have := hbi.1 hbt
    unfold asV
    rw [hu]
    cases u <;> first | rfl | (simp [isAggD] at this)
  · have hn : ¬ isAggD u = true := fun q => by rw [hbi.2 q] at hbf; cases hbf
    refine ⟨?_, eqOkB_one h (fun fs q => ?_) (fun n e q => ?_)⟩
    · unfold asV
      rw [hu]
      cases u <;> first | rfl | (simp [isAggD] at hn)
    · rw [hu] at q; cases q; simp [isAggD] at hn
    · rw [hu] at q; cases q; simp [isAggD] at hn
theorem take_length {α : Type} {l : List α} {off n : Nat} (h : off + n ≤ l.length) : ((l.drop off).take n).length = n := by simp; omega
/-- What holding two against each other gives. -/
theorem eq_run {w : World} : ∀ (m d : Nat) {t : TypeId} {zs xs ys : List Value} {b : Bool}, eqOkB P m t zs = true → flatEq zs xs ys = some b → (Op.equalIn (d + m) t (asV P t xs) (asV P t ys)).run P w = .ok b w := by
  intro m
  induction m with
  | zero => intro d t zs xs ys b h; simp [eqOkB] at h
  | succ m ih =>
    intro d t zs xs ys b h hf
    rw [show d + (m + 1) = (d + m) + 1 from rfl]
    have hl := flatEq_length hf
    unfold eqOkB at h
    split at h
    · rename_i hu
      split at h
      · match xs, ys, hf with
        | [.bool x], [.bool y], hf =>
          simp [flatEq] at hf; subst hf
          simp only [asV, hu, List.headD_cons]
          exact run_equalIn_bool' w (d + m) t x y hu
      · simp at h
    · rename_i k hu
      split at h
      · match xs, ys, hf with
        | [.int k1 x], [.int k2 y], hf =>
          rw [flatEq] at hf
          split at hf
          · rename_i hk
            obtain ⟨rfl, rfl⟩ := hk
            simp [flatEq] at hf; subst hf
            simp only [asV, hu, List.headD_cons]
            exact run_equalIn_int w (d + m) t _ _ x y hu
          · simp at hf
      · simp at h
    · rename_i hu
      split at h
      · match xs, ys, hf with
        | [.string x], [.string y], hf =>
          simp [flatEq] at hf; subst hf
          simp only [asV, hu, List.headD_cons]
          rw [run_equalIn_string w (d + m) t x y hu, beq_toListBytes]
      · simp at h
    · rename_i fs hu
      simp only [Bool.and_eq_true, Bool.not_eq_true', List.all_eq_true, bne_iff_ne] at h
      obtain ⟨⟨hst, htl⟩, hall⟩ := h
      have hfo : P.fieldsOf t = fs := by simp [Program.fieldsOf, hu]
      have ex : asV P t xs = .agg xs.toArray := by simp [asV, hu]
      have ey : asV P t ys = .agg ys.toArray := by simp [asV, hu]
      rw [ex, ey, run_equalIn_struct w (d + m) t _ _ (by rw [hfo]; exact hu) hst, hfo]
      have key : ∀ (l : List Field) (off : Nat) (b : Bool), (∀ f ∈ l, f ∈ fs.toList) → tilesB P zs.length off (l.map fun (f : Field) => (f.type, f.offset)) = true → flatEq (zs.drop off) (xs.drop off) (ys.drop off) = some b →
          (Op.eqFields (d + m) xs.toArray ys.toArray l).run P w = .ok b w := by
        intro l
        induction l with
        | nil =>
          intro off b _ ht hf
          simp only [List.map_nil, tilesB, beq_iff_eq] at ht
          subst ht
          have e1 : zs.drop zs.length = [] := by simp
          have e2 : xs.drop zs.length = [] := by rw [← hl.1]; simp
          have e3 : ys.drop zs.length = [] := by rw [← hl.2]; simp
          rw [e1, e2, e3] at hf
          simp [flatEq] at hf; subst hf
          simp [Op.eqFields]
        | cons f l ihl =>
          intro off b hm ht hf
          simp only [List.map_cons, tilesB, Bool.and_eq_true, beq_iff_eq] at ht
          obtain ⟨rfl, ht⟩ := ht
          have hle := tilesB_le ht
          obtain ⟨⟨hn, hi⟩, hok⟩ := hall f (hm f (by simp))
          obtain ⟨p, q, h1, h2, rfl⟩ := flatEq_split (P.cellsOf f.type) hf
          rw [List.drop_drop, List.drop_drop, List.drop_drop] at h2
          have hr := ihl (f.offset + P.cellsOf f.type) q (fun g hg => hm g (by simp [hg])) ht h2
          have hp := ih d hok h1
          rw [Op.eqFields]
          simp only [if_pos hn, Sem.run_bind, run_asV hok hi (cs := xs) (off := f.offset) (by omega), run_asV hok hi (cs := ys) (off := f.offset) (by omega), Result.andThen_ok, hp]
          cases p
          · simp
          · simpa using hr
      refine key fs.toList 0 b (fun _ h => h) htl (by simpa using hf)
    · rename_i n e hu
      simp only [Bool.and_eq_true, beq_iff_eq, List.all_eq_true, List.mem_range] at h
      obtain ⟨⟨hlen, hi⟩, hall⟩ := h
      obtain ⟨i, hi'⟩ := Option.isSome_iff_exists.1 hi
      have ex : asV P t xs = .agg xs.toArray := by simp [asV, hu]
      have ey : asV P t ys = .agg ys.toArray := by simp [asV, hu]
      rw [ex, ey, run_equalIn_array w (d + m) _ _ hu hi']
      have key : ∀ (k j : Nat) (b : Bool), j + k = n → flatEq (zs.drop (j * P.cellsOf e)) (xs.drop (j * P.cellsOf e)) (ys.drop (j * P.cellsOf e)) = some b →
          (Op.eqItems (d + m) e (P.cellsOf e) xs.toArray ys.toArray (List.range' j k)).run P w = .ok b w := by
        intro k
        induction k with
        | zero =>
          intro j b hj hf
          obtain rfl : j = n := by omega
          have e1 : zs.drop (j * P.cellsOf e) = [] := by rw [← hlen]; simp
          have e2 : xs.drop (j * P.cellsOf e) = [] := by rw [← hlen, ← hl.1]; simp
          have e3 : ys.drop (j * P.cellsOf e) = [] := by rw [← hlen, ← hl.2]; simp
          rw [e1, e2, e3] at hf
          simp [flatEq] at hf; subst hf
          simp [Op.eqItems]
        | succ k ihk =>
          intro j b hj hf
          have hok := hall j (by omega)
          have hle : j * P.cellsOf e + P.cellsOf e ≤ zs.length := by
            rw [hlen, ← Nat.succ_mul]; exact Nat.mul_le_mul_right _ (by omega)
          obtain ⟨p, q, h1, h2, rfl⟩ := flatEq_split (P.cellsOf e) hf
          rw [List.drop_drop, List.drop_drop, List.drop_drop, ← Nat.succ_mul] at h2
          have hr := ihk (j + 1) q (by omega) h2
          have hp := ih d hok h1
          rw [List.range'_succ, Op.eqItems]
          simp only [Sem.run_bind, run_asV hok hi (cs := xs) (off := j * P.cellsOf e) (by omega), run_asV hok hi (cs := ys) (off := j * P.cellsOf e) (by omega), Result.andThen_ok, hp]
          cases p
          · simp
          · simpa using hr
      rw [List.range_eq_range']
      exact key n 0 b (by omega) (by simpa using hf)
    · simp at h
noncomputable section
def eqsB (P : Program) (eqs : List Nat) : Bool := eqs.all fun t => match tyOf P eqs t with
  | some d => eqOkB P 10 t d.zero && !P.eqGuardType P.depth t && isAggD d.desc
  | none => true
end
/-- Types whose values may be held against each other cell by cell. -/
theorem eqsOk_of {eqs : List Nat} (h : eqsB P eqs = true) : EqsOk P eqs := by
  intro t ht d hd w xs ys b hf
  have h1 := List.all_eq_true.1 h t ht
  simp only [hd, Bool.and_eq_true, Bool.not_eq_true'] at h1
  refine ⟨?_, h1.1.2⟩
  have hu : P.underlying t = some d.desc := by
    simp only [tyOf, Option.bind_eq_some_iff, Option.ite_none_right_eq_some, Option.some.injEq] at hd
    obtain ⟨i, hi, u, hu, v, hv, _, rfl⟩ := hd
    exact hu
  have hag : ∀ cs : List Value, asV P t cs = .agg cs.toArray := by
    intro cs
    unfold asV
    rw [hu]
    have h2 := h1.2
    cases hdd : d.desc <;> first | rfl | (rw [hdd] at h2; simp [isAggD] at h2)
  have := eq_run (w := w) 10 9990 h1.1.1 hf
  rw [hag, hag] at this
  exact this
end Go.Sx
end
section
/-
  Sx, part AW: a body, worked off as a whole by rules: what must be so for it to end well. Own words; no condition.
-/
namespace Go.Sx
open Go
variable {P : Program} {X : Mode} {ty : TypeId → Option TD} {N : Nat}
noncomputable section
/-- What must be so ahead of a code; loops, drawn regions and the rest are left. -/
def W (P : Program) (X : Mode) (ty : TypeId → Option TD) (N : Nat) : Code → St → (Exit → St → Prop) → Prop
  | .skip, s, Q => Q .normal s
  | .region _ ops false, s, Q => copsR P X ty N ops.toList ops.toList (Q .normal) s
  | .seq a b, s, Q => W P X ty N a s (thenC (fun s => W P X ty N b s Q) Q)
  | .cond c x y, s, Q => req (ev true s.tm c) fun v => match v with
    | .bool b => two b (W P X ty N x s Q) (W P X ty N y s Q)
    | _ => False
  | .block id c, s, Q => W P X ty N c s (blockC id Q)
  | .exit id, s, Q => Q (.exit id) s
  | .label _, s, Q => Q .normal s
  | .ret, s, Q => Q .ret s
  | c, s, Q => CW P N c s Q
/-- What is left of a code whose rules are not these. -/
def Left (P : Program) (N : Nat) (c : Code) (s : St) (Q : Exit → St → Prop) : Prop := CW P N c s Q
end
theorem W.sound (T : TyOk P ty) : ∀ (c : Code) (s : St) (Q : Exit → St → Prop), W P X ty N c s Q → CW P N c s Q
  | .skip, s, Q, h => cw_skip h
  | .region _ ops false, s, Q, h => fun _ _ _ L => wp_region_list (copsR_sound T _ L h fun _ _ q => q)
  | .region _ ops true, s, Q, h => h
  | .seq a b, s, Q, h => cw_seq fun K hK => by
    refine (W.sound T a s _ h).mono fun e s' q => ?_
    cases e with
    | normal => exact hK s' (W.sound T b s' Q q)
    | _ => exact q
  | .cond c x y, s, Q, h => by
    obtain ⟨v, hv, h⟩ := (req_iff _ _).1 h
    cases v with
    | bool b => exact cw_cond hv (fun e => W.sound T x s Q (h.1 e)) (fun e => W.sound T y s Q (h.2 e))
    | _ => exact h.elim
  | .block id c, s, Q, h => cw_block (W.sound T c s _ h)
  | .exit id, s, Q, h => cw_exit h
  | .label _, s, Q, h => cw_label h
  | .ret, s, Q, h => cw_ret h
  | .loop _, s, Q, h => h
  | .rangeFunc .., s, Q, h => h
  | .scope _, s, Q, h => h
  | .goto _, s, Q, h => h
  | .refuse _, s, Q, h => h
theorem copsR_mono {all : List Oper} : ∀ (os : List Oper) {K K' : St → Prop} (_ : ∀ s, K s → K' s) {s : St}, copsR P X ty N all os K s → copsR P X ty N all os K' s
  | [], _, _, hk, s, h => hk s h
  | o :: os, _, _, hk, _, h => stepR_mono (fun s q => copsR_mono os hk q) h
theorem W.mono' : ∀ {c : Code} {s : St} {Q Q' : Exit → St → Prop}, W P X ty N c s Q → (∀ e s, Q e s → Q' e s) → W P X ty N c s Q'
  | .skip, s, Q, Q', h, k => k _ _ h
  | .region _ ops false, s, Q, Q', h, k => copsR_mono _ (k .normal) h
  | .region _ ops true, s, Q, Q', h, k => CW.mono h k
  | .seq a b, s, Q, Q', h, k => W.mono' (c := a) h fun e s q => by
    cases e with
    | normal => exact W.mono' (c := b) q k
    | _ => exact k _ _ q
  | .cond c x y, s, Q, Q', h, k => by
    obtain ⟨v, hv, h⟩ := (req_iff _ _).1 h
    refine (req_iff _ _).2 ⟨v, hv, ?_⟩
    cases v with
    | bool b => exact ⟨fun e => W.mono' (c := x) (h.1 e) k, fun e => W.mono' (c := y) (h.2 e) k⟩
    | _ => exact h.elim
  | .block id c, s, Q, Q', h, k => W.mono' (c := c) h fun e s q => by
    cases e with
    | exit i =>
      simp only [blockC] at *
      split
      · rename_i hi; rw [if_pos hi] at q; exact k _ _ q
      · rename_i hi; rw [if_neg hi] at q; exact k _ _ q
    | _ => exact k _ _ q
  | .exit id, s, Q, Q', h, k => k _ _ h
  | .label _, s, Q, Q', h, k => k _ _ h
  | .ret, s, Q, Q', h, k => k _ _ h
  | .loop _, s, Q, Q', h, k => CW.mono h k
  | .rangeFunc .., s, Q, Q', h, k => CW.mono h k
  | .scope _, s, Q, Q', h, k => CW.mono h k
  | .goto _, s, Q, Q', h, k => CW.mono h k
  | .refuse _, s, Q, Q', h, k => CW.mono h k
@[congr] theorem W_congr {c : Code} {s s' : St} {Q : Exit → St → Prop} (a : s = s') : W P X ty N c s Q = W P X ty N c s' Q := by rw [a]
@[congr] theorem CW_congr {c : Code} {s s' : St} {Q : Exit → St → Prop} (a : s = s') : CW P N c s Q = CW P N c s' Q := by rw [a]
@[congr] theorem thenC_congr {K : St → Prop} {Q : Exit → St → Prop} {e e' : Exit} {s s' : St} (a : e = e') (b : s = s') : thenC K Q e s = thenC K Q e' s' := by rw [a, b]
@[congr] theorem blockC_congr {i : Nat} {Q : Exit → St → Prop} {e e' : Exit} {s s' : St} (a : e = e') (b : s = s') : blockC i Q e s = blockC i Q e' s' := by rw [a, b]
attribute [simp] blockC_normal blockC_ret
section
variable (s : St) (tm : List (Nat × Ent)) (h : Heap) (Q : Exit → St → Prop)
@[simp] theorem W_skip : W P X ty N .skip s Q = Q .normal s := nd rfl
@[simp] theorem W_region (id : Nat) (ops : Array Oper) : W P X ty N (.region id ops false) ⟨tm, h⟩ Q = copsR P X ty N ops.toList ops.toList (Q .normal) ⟨tm, h⟩ := nd rfl
@[simp] theorem W_draw (id : Nat) (ops : Array Oper) : W P X ty N (.region id ops true) ⟨tm, h⟩ Q = CW P N (.region id ops true) ⟨tm, h⟩ Q := nd rfl
@[simp] theorem W_seq (a b : Code) : W P X ty N (.seq a b) s Q = W P X ty N a s (thenC (fun s => W P X ty N b s Q) Q) := nd rfl
/-- A test. -/
def tst (P : Program) (X : Mode) (ty : TypeId → Option TD) (N : Nat) (x y : Code) (s : St) (Q : Exit → St → Prop) (v : Value) : Prop :=
  match v with
  | .bool b => two b (W P X ty N x s Q) (W P X ty N y s Q)
  | _ => False
@[congr] theorem tst_congr {x y : Code} {s s' : St} {Q : Exit → St → Prop} {v v' : Value} (a : s = s') (b : v = v') : tst P X ty N x y s Q v = tst P X ty N x y s' Q v' := by rw [a, b]
@[simp] theorem W_cond (c : Operand) (x y : Code) : W P X ty N (.cond c x y) ⟨tm, h⟩ Q = req (ev true tm c) fun v => tst P X ty N x y ⟨tm, h⟩ Q v := nd rfl
@[simp high] theorem tst_t (x y : Code) : tst P X ty N x y s Q (.bool true) = W P X ty N x s Q := by simp [tst]
@[simp high] theorem tst_f (x y : Code) : tst P X ty N x y s Q (.bool false) = W P X ty N y s Q := by simp [tst]
@[simp] theorem tst_b (x y : Code) (b : Bool) : tst P X ty N x y s Q (.bool b) = ((b = true → W P X ty N x s Q) ∧ (b = false → W P X ty N y s Q)) := nd rfl
@[simp] theorem W_block (id : Nat) (c : Code) : W P X ty N (.block id c) s Q = W P X ty N c s (blockC id Q) := nd rfl
@[simp] theorem W_exit (id : Nat) : W P X ty N (.exit id) s Q = Q (.exit id) s := nd rfl
@[simp] theorem W_label (l : Nat) : W P X ty N (.label l) s Q = Q .normal s := nd rfl
@[simp] theorem W_ret : W P X ty N .ret s Q = Q .ret s := nd rfl
@[simp] theorem W_loop (c : Code) : W P X ty N (.loop c) s Q = CW P N (.loop c) s Q := nd rfl
@[simp] theorem thenC_normal (K : St → Prop) : thenC K Q .normal s = K s := nd rfl
@[simp] theorem thenC_ret (K : St → Prop) : thenC K Q .ret s = Q .ret s := nd rfl
@[simp] theorem thenC_exit (K : St → Prop) (i : Nat) : thenC K Q (.exit i) s = Q (.exit i) s := nd rfl
@[simp] theorem blockC_exit (i j : Nat) : blockC i Q (.exit j) s = if j = i then Q .normal s else Q (.exit j) s := nd rfl
/-- What a function hands back. -/
def Fin (ty : TypeId → Option TD) (rs : List ResultVar) (H : Heap) (R : Value → Heap → Prop) (e : Exit) (s : St) : Prop :=
  match e with
  | .normal => req (resC ty rs s) fun v => ∃ v' h', Ret H v s.h v' h' ∧ R v' h'
  | .ret => req (resC ty rs s) fun v => ∃ v' h', Ret H v s.h v' h' ∧ R v' h'
  | _ => False
/-- The answer v, in the heap h. -/
def Ans (H : Heap) (R : Value → Heap → Prop) (v : Value) (h : Heap) : Prop := ∃ v' h', Ret H v h v' h' ∧ R v' h'
@[congr] theorem Ans_congr {H : Heap} {R : Value → Heap → Prop} {v v' : Value} {h h' : Heap} (a : v = v') (b : h = h') : Ans H R v h = Ans H R v' h' := by rw [a, b]
@[congr] theorem Fin_congr {rs : List ResultVar} {H : Heap} {R : Value → Heap → Prop} {e e' : Exit} {s s' : St} (a : e = e') (b : s = s') : Fin ty rs H R e s = Fin ty rs H R e' s' := by rw [a, b]
def tupV (l : List Value) : Option Value :=
  match l with
  | [v] => some v
  | vs => some (.tuple vs.toArray)
@[simp] theorem tupV_nil : tupV [] = some (.tuple #[]) := rfl
@[simp] theorem tupV_one (v : Value) : tupV [v] = some v := rfl
@[simp] theorem tupV_two (a b : Value) (l : List Value) : tupV (a :: b :: l) = some (.tuple (a :: b :: l).toArray) := rfl
@[simp] theorem Fin_normal (rs : List ResultVar) (H : Heap) (R : Value → Heap → Prop) : Fin ty rs H R .normal ⟨tm, h⟩ = req (all2 (rs.map (resC1 ty ⟨tm, h⟩))) fun l => req (tupV l) fun v => Ans H R v h := by
  simp only [Fin, resC, req_bind]
  exact nd rfl
@[simp] theorem Fin_ret (rs : List ResultVar) (H : Heap) (R : Value → Heap → Prop) : Fin ty rs H R .ret ⟨tm, h⟩ = req (all2 (rs.map (resC1 ty ⟨tm, h⟩))) fun l => req (tupV l) fun v => Ans H R v h := by
  simp only [Fin, resC, req_bind]
  exact nd rfl
@[simp] theorem all2_nil {α : Type} : all2 ([] : List (Option α)) = some [] := rfl
@[simp] theorem all2_cons {α : Type} (x : Option α) (r : List (Option α)) : all2 (x :: r) = x.bind fun a => (all2 r).map fun l => a :: l := rfl
end
/-- A function, from its body's beginning, by these rules. -/
theorem fn_w (T : TyOk P ty) (X : Mode) {f : FuncId} {fn : Func} {c : Code} (hf : P.funcs[f]? = some fn) (hb : fn.body = some c) (hn : (fn.name == "runtime.NumGoroutine") = false) {rs : Array ResultVar} (hr : fn.results = rs) (hN : fn.ntmps = N) {args : List Value} {H : Heap} {R : Value → Heap → Prop} (hl : args.length ≤ N)
    (h : ∀ R' : Value → Heap → Prop, (∀ v h, R v h → R' v h) → W P X ty N c ⟨argTm 0 args, H⟩ (Fin ty rs.toList H R')) : Fn P f args H R := by
  refine fn_start T hf hb hn hr hN hl fun Q hQ => (W.sound T c _ _ (h R fun _ _ q => q)).mono fun e s q => ?_
  cases e with
  | normal =>
    obtain ⟨v, hv, v', h', h1, h2⟩ := (req_iff _ _).1 q
    exact (hQ s v v' h' hv h1 h2).1
  | ret =>
    obtain ⟨v, hv, v', h', h1, h2⟩ := (req_iff _ _).1 q
    exact (hQ s v v' h' hv h1 h2).2
  | _ => exact q.elim
@[simp] theorem argTm_nil (k : Nat) : argTm k [] = [] := rfl
@[simp] theorem argTm_cons (k : Nat) (v : Value) (r : List Value) : argTm k (v :: r) = (k, .v v) :: argTm (k + 1) r := rfl
/-- The answer is plain: nothing of the call's own is left. -/
theorem Ans.plain {H L : Heap} {R : Value → Heap → Prop} {v : Value} (hv : closedV v = true) (h : R v H) : Ans H R v (H ++ L) := ⟨v, H, Ret.plain hv, h⟩
theorem Ans.plain0 {H : Heap} {R : Value → Heap → Prop} {v : Value} (h : R v H) : Ans H R v H := ⟨v, H, Ret.refl _ _ _, h⟩
theorem Ans.refl {H h : Heap} {R : Value → Heap → Prop} {v : Value} (q : R v h) : Ans H R v h := ⟨v, h, Ret.refl _ _ _, q⟩
@[simp] theorem signed_u8 : IntKind.u8.signed = false := rfl
@[simp] theorem signed_u16 : IntKind.u16.signed = false := rfl
@[simp] theorem signed_u32 : IntKind.u32.signed = false := rfl
@[simp] theorem signed_u64 : IntKind.u64.signed = false := rfl
@[simp] theorem signed_i64 : IntKind.i64.signed = true := rfl
@[simp] theorem mask_u8 : IntKind.u8.max = 255 := rfl
@[simp] theorem mask_u16 : IntKind.u16.max = 65535 := rfl
@[simp] theorem mask_u32 : IntKind.u32.max = 4294967295 := rfl
@[simp] theorem mask_u64 : IntKind.u64.max = 18446744073709551615 := rfl
@[simp] theorem all_u8s (l : List UInt8) : (∀ x, x ∈ u8s l → one1 x = true) = True := eq_true (List.all_eq_true.1 (u8s_one1 l))
@[simp] theorem all_w32 (l : List UInt32) : (∀ x, x ∈ w32 l → one1 x = true) = True := eq_true (List.all_eq_true.1 (w32_one1 l))
theorem row_grown {h : Heap} {i u n c : Nat} {l : List UInt8} (hg : hget h i = some (grown (u8s l) u)) (hn : l.length = n) : rowOf 1 h (.slice (some ⟨i, 0, none⟩) n c) = some (u8s l) := by
  subst hn
  simp [hg]
theorem row_cells {h : Heap} {i u n c : Nat} {o : Bool} {l : List UInt8} (hg : hget h i = some (.cells (u8s l) o u)) (hn : l.length = n) : rowOf 1 h (.slice (some ⟨i, 0, none⟩) n c) = some (u8s l) := by
  subst hn
  simp [hg]
theorem hget_at {A L : Heap} {n : Nat} (k : Nat) (h : n = A.length + k) : hget (A ++ L) n = hget L k := by subst h; exact hget_append_new
theorem hget_snoc {A : Heap} {b : Blk} {n : Nat} (h : n = A.length) : hget (A ++ [some b]) n = some b := by
  subst h
  exact (hget_append_new (h := A) (g := [some b]) (k := 0)).trans rfl
/-- A loop, by what holds at its head. -/
theorem W_while (T : TyOk P ty) (X : Mode) {c : Code} {s : St} {Q : Exit → St → Prop} (I : Nat → St → Prop) (n : Nat) (s0 : St) (h0 : I n s0) (hs : subT s0.tm s.tm) (hh : s0.h = s.h)
    (round : ∀ n s, I n s → ∀ (K : St → Prop) (Q' : Exit → St → Prop), (∀ s', (∃ m s1, m < n ∧ I m s1 ∧ subT s1.tm s'.tm ∧ s1.h = s'.h ∧ s.h.length ≤ s1.h.length) → K s') → (∀ e s, Q e s → Q' e s) → W P X ty N c s (thenC K Q')) : CW P N (.loop c) s Q := by
  refine cw_loop I n s0 h0 (by obtain ⟨tm0, h0⟩ := s0; obtain ⟨tm, h⟩ := s; simp only at hh; subst hh; exact Weak.slots hs) (by rw [hh]) fun n s h => (W.sound T c s _ (round n s h _ Q (fun _ q => q) (fun _ _ q => q))).mono fun e s' q => ?_
  cases e with
  | normal =>
    obtain ⟨m, s1, h1, h2, h3, h4, h5⟩ := q
    refine ⟨m, s1, h1, h2, ?_, h5⟩
    obtain ⟨tm1, h1⟩ := s1
    obtain ⟨tm', h'⟩ := s'
    simp only at h4
    subst h4
    exact Weak.slots h3
  | _ => exact q
/-- A loop that counts, over a heap that grows: what is known of what was added. -/
theorem W_forE {α : Type} (T : TyOk P ty) (X : Mode) {c : Code} {s : St} {Q : Exit → St → Prop} (H : Heap) (tm : Nat → α → List (Nat × Ent)) (Φ : Nat → α → Heap → Prop) (n : Nat) (h0 : ∃ a L, Φ 0 a L ∧ subT (tm 0 a) s.tm ∧ s.h = H ++ L)
    (round : ∀ i a L, i ≤ n → Φ i a L → ∀ (K : St → Prop) (Q' : Exit → St → Prop), (∀ tm' L' a', i < n → Φ (i + 1) a' L' → subT (tm (i + 1) a') tm' → L.length ≤ L'.length → K ⟨tm', H ++ L'⟩) → (∀ e s, Q e s → Q' e s) → W P X ty N c ⟨tm i a, H ++ L⟩ (thenC K Q')) : CW P N (.loop c) s Q := by
  obtain ⟨a, L, h1, h2, h3⟩ := h0
  refine W_while T X (fun w s => ∃ i a L, w = n - i ∧ i ≤ n ∧ Φ i a L ∧ s = ⟨tm i a, H ++ L⟩) n ⟨tm 0 a, H ++ L⟩ ⟨0, a, L, by omega, by omega, h1, rfl⟩ h2 h3.symm ?_
  rintro w s ⟨i, a, L, rfl, hi, hΦ, rfl⟩ K Q' hK hQ
  exact round i a L hi hΦ K Q' (fun tm' L' a' h1 h2 h3 h5 => hK _ ⟨n - (i + 1), ⟨tm (i + 1) a', H ++ L'⟩, by omega, ⟨i + 1, a', L', rfl, by omega, h2, rfl⟩, h3, rfl, by simpa using h5⟩) hQ
/-- A loop that counts: what the state is at the head of each round. -/
theorem W_for (T : TyOk P ty) (X : Mode) {c : Code} {s : St} {Q : Exit → St → Prop} (F : Nat → St) (n : Nat) (h0 : subT (F 0).tm s.tm ∧ (F 0).h = s.h)
    (round : ∀ i, i ≤ n → ∀ (K : St → Prop) (Q' : Exit → St → Prop), (∀ tm' h', i < n → subT (F (i + 1)).tm tm' → (F (i + 1)).h = h' → (F i).h.length ≤ h'.length → K ⟨tm', h'⟩) → (∀ e s, Q e s → Q' e s) → W P X ty N c (F i) (thenC K Q')) : CW P N (.loop c) s Q := by
  refine W_while T X (fun w s => ∃ i, w = n - i ∧ i ≤ n ∧ s = F i) n (F 0) ⟨0, by omega, by omega, rfl⟩ h0.1 h0.2 ?_
  rintro w s ⟨i, rfl, hi, rfl⟩ K Q' hK hQ
  exact round i hi K Q' (fun tm' h' h1 h2 h3 h4 => hK _ ⟨n - (i + 1), F (i + 1), by omega, ⟨i + 1, rfl, by omega, rfl⟩, h2, h3, by rw [h3]; exact h4⟩) hQ
/-- A list in which nothing is, nil or not, told as one that has grown. -/
theorem VR.soft {ι : List Place} {a : Option Addr} {y : Value} (h : VR ι (.slice a 0 0) y) {i : Nat} {p : Place} (hp : ι[i]? = some p) : VR ι (.slice (some ⟨i, 0, none⟩) 0 OPEN) y := by
  have h0O : ¬ (0 : Nat) = OPEN := by unfold OPEN; omega
  cases a with
  | none => rw [h.closed_inv rfl]; exact .sliceN _ _ p hp
  | some a =>
    rcases h.slice_inv with ⟨i', k', q, he, hq, hno, rfl⟩ | ⟨i', k', q, c', he, ho, hq, hlc, hrm, rfl⟩ | ⟨b, _, h0, rfl, _⟩ | ⟨ho, h0, rfl, _⟩
    · exact .sliceE _ _ p _ hp
    · exact absurd ho h0O
    · exact .sliceE _ _ p _ hp
    · exact absurd ho h0O
theorem cw_soft (t u : Nat) {c : Code} {tm : List (Nat × Ent)} {h : Heap} {Q : Exit → St → Prop} {a : Option Addr} (ht : lk tm t = some (.v (.slice a 0 0)))
    (k : CW P N c ⟨(t, .v (.slice (some ⟨h.length, 0, none⟩) 0 OPEN)) :: tm, h ++ [some (grown [] u)]⟩ Q) : CW P N c ⟨tm, h⟩ Q := by
  intro ι ac w L
  obtain ⟨r1, r2⟩ := L.1.void 0 u
  have hpre : ι <+: ι ++ [⟨0, 0, 0, u⟩] := List.prefix_append _ _
  have newb : (ι ++ [⟨0, 0, 0, u⟩])[h.length]? = some ⟨0, 0, 0, u⟩ := by rw [← L.1.len]; simp
  have L' : Like (ι ++ [⟨0, 0, 0, u⟩]) ⟨(t, .v (.slice (some ⟨h.length, 0, none⟩) 0 OPEN)) :: tm, h ++ [some (grown [] u)]⟩ N ac w := by
    refine ⟨r1, L.2.1, L.2.2.1, fun t' e he => ?_⟩
    simp only [lk] at he
    split at he
    · rename_i htt; subst htt
      simp at he; subst he
      obtain ⟨y, hy, hr⟩ := L.2.2.2 t _ ht
      exact ⟨y, hy, VR.soft (VR.mono hpre hr) newb⟩
    · obtain ⟨y, hy, hr⟩ := L.2.2.2 t' e he
      exact ⟨y, hy, hr.mono hpre⟩
  exact Code.wp_mono (fun e a' w' q => Goes.trans r2 q) (k _ ac w L')
/-- Where ways come together: what is so there. -/
theorem W_join {c : Code} {s : St} {K : St → Prop} {Q : Exit → St → Prop} (I : St → Prop) (h : ∀ J : St → Prop, (∀ s, I s → J s) → W P X ty N c s (thenC J Q)) (k : ∀ s, I s → K s) : W P X ty N c s (thenC K Q) :=
  (h I fun _ q => q).mono' fun e s q => by cases e <;> first | exact k _ q | exact q
end Go.Sx
end
section
/-
  Sx, part AX: what is of a type, in plain words. Own words; no condition.
-/
namespace Go.Sx
open Go
variable {P : Program}
theorem wf_bnd {k : IntKind} {n : Int} (w : (Lit.int k n).wf = true) : k.min ≤ n ∧ n ≤ k.max := by
  simpa only [Lit.wf, Bool.and_eq_true, decide_eq_true_eq] using w
/-- Whole numbers of a kind. -/
def ints (k : IntKind) (l : List Int) : List Value := l.map fun n => .int k n
@[simp] theorem ints_length (k : IntKind) (l : List Int) : (ints k l).length = l.length := by simp [ints]
theorem int_list {k : IntKind} : ∀ (l : List Value), (∀ j, j < l.length → ∃ n, (l.drop j).take 1 = [.int k n] ∧ (Lit.int k n).wf = true) → ∃ ns : List Int, l = ints k ns ∧ ∀ n ∈ ns, k.min ≤ n ∧ n ≤ k.max
  | [], _ => ⟨[], rfl, fun _ h => by cases h⟩
  | x :: r, h => by
    obtain ⟨n, h1, h2⟩ := h 0 (by simp)
    simp at h1; subst h1
    obtain ⟨ns, hb, hw⟩ := int_list r fun j hj => by simpa using h (j + 1) (by simpa using hj)
    subst hb
    refine ⟨n :: ns, rfl, fun m hm => ?_⟩
    rcases List.mem_cons.1 hm with rfl | hm
    · exact wf_bnd h2
    · exact hw m hm
theorem typ_ints {h : Heap} {t e : TypeId} {n : Nat} {k : IntKind} (hu : P.underlying t = some (.array n e)) (he : P.underlying e = some (.int k)) (hc : P.cellsOf t = n) (ce : P.cellsOf e = 1) {f : Nat} {cs : List Value} (q : Typ P h (f + 2) t cs) : ∃ l : List Int, l.length = n ∧ cs = ints k l ∧ ∀ m ∈ l, k.min ≤ m ∧ m ≤ k.max := by
  unfold Typ at q
  rw [hu] at q
  simp only at q
  obtain ⟨hl, q⟩ := q
  rw [hc] at hl
  simp only [ce, Nat.mul_one] at q
  obtain ⟨ns, rfl, hw⟩ := int_list cs fun j hj => by
    have := q j (by omega)
    unfold Typ at this
    rw [he] at this
    exact this
  exact ⟨ns, by simpa using hl, rfl, hw⟩
theorem ints_u8 : ∀ (l : List Int), (∀ m ∈ l, IntKind.u8.min ≤ m ∧ m ≤ IntKind.u8.max) → ints .u8 l = u8s (l.map fun m => UInt8.ofNat m.toNat)
  | [], _ => rfl
  | m :: l, h => by
    have h1 := h m (by simp)
    have ih := ints_u8 l fun k hk => h k (by simp [hk])
    simp only [ints, u8s, List.map_cons, List.cons.injEq, Value.int.injEq, true_and] at *
    refine ⟨?_, ih⟩
    simp [IntKind.min, IntKind.max, IntKind.bits, IntKind.signed] at h1
    simp; omega
theorem ints_u32 : ∀ (l : List Int), (∀ m ∈ l, IntKind.u32.min ≤ m ∧ m ≤ IntKind.u32.max) → ints .u32 l = w32 (l.map fun m => UInt32.ofNat m.toNat)
  | [], _ => rfl
  | m :: l, h => by
    have h1 := h m (by simp)
    have ih := ints_u32 l fun k hk => h k (by simp [hk])
    simp only [ints, w32, List.map_cons, List.cons.injEq, Value.int.injEq, true_and] at *
    refine ⟨?_, ih⟩
    simp [IntKind.min, IntKind.max, IntKind.bits, IntKind.signed] at h1
    simp; omega
theorem typV_arr {h : Heap} {t e : TypeId} {n : Nat} {f : Nat} {x : Value} (hu : P.underlying t = some (.array n e)) (q : TypV P h f t x) : ∃ cs : List Value, x = .agg cs.toArray ∧ Typ P h f t cs := by
  unfold TypV at q
  rw [hu] at q
  simp only at q
  obtain ⟨cs, rfl, q⟩ := q
  exact ⟨cs.toList, by simp, q⟩
theorem typV_struct {h : Heap} {t : TypeId} {fs : Array Field} {f : Nat} {x : Value} (hu : P.underlying t = some (.struct fs)) (q : TypV P h f t x) : ∃ cs : List Value, x = .agg cs.toArray ∧ Typ P h f t cs := by
  unfold TypV at q
  rw [hu] at q
  simp only at q
  obtain ⟨cs, rfl, q⟩ := q
  exact ⟨cs.toList, by simp, q⟩
/-- Bytes of an array; words of one. -/
theorem typV_u8s {h : Heap} {t e : TypeId} {n : Nat} (hu : P.underlying t = some (.array n e)) (he : P.underlying e = some (.int .u8)) (hc : P.cellsOf t = n) (ce : P.cellsOf e = 1) {f : Nat} {x : Value} (q : TypV P h (f + 2) t x) : ∃ l : List UInt8, l.length = n ∧ x = .agg (u8s l).toArray := by
  obtain ⟨cs, rfl, q'⟩ := typV_arr hu q
  obtain ⟨l, h1, rfl, h2⟩ := typ_ints hu he hc ce q'
  exact ⟨l.map fun m => UInt8.ofNat m.toNat, by simp [h1], by rw [ints_u8 l h2]⟩
theorem typV_w32 {h : Heap} {t e : TypeId} {n : Nat} (hu : P.underlying t = some (.array n e)) (he : P.underlying e = some (.int .u32)) (hc : P.cellsOf t = n) (ce : P.cellsOf e = 1) {f : Nat} {x : Value} (q : TypV P h (f + 2) t x) : ∃ l : List UInt32, l.length = n ∧ x = .agg (w32 l).toArray := by
  obtain ⟨cs, rfl, q'⟩ := typV_arr hu q
  obtain ⟨l, h1, rfl, h2⟩ := typ_ints hu he hc ce q'
  exact ⟨l.map fun m => UInt32.ofNat m.toNat, by simp [h1], by rw [ints_u32 l h2]⟩
theorem typ_int1 {h : Heap} {t : TypeId} {k : IntKind} {f : Nat} {cs : List Value} (hu : P.underlying t = some (.int k)) (q : Typ P h (f + 1) t cs) : ∃ n, cs = [.int k n] ∧ k.min ≤ n ∧ n ≤ k.max := by
  unfold Typ at q
  rw [hu] at q
  obtain ⟨n, h1, h2⟩ := q
  exact ⟨n, h1, wf_bnd h2⟩
theorem typ_bool1 {h : Heap} {t : TypeId} {f : Nat} {cs : List Value} (hu : P.underlying t = some .bool) (q : Typ P h (f + 1) t cs) : ∃ b, cs = [.bool b] := by
  unfold Typ at q
  rw [hu] at q
  exact q
theorem typV_int {h : Heap} {t : TypeId} {k : IntKind} {f : Nat} {x : Value} (hu : P.underlying t = some (.int k)) (q : TypV P h (f + 1) t x) : ∃ n, x = .int k n ∧ k.min ≤ n ∧ n ≤ k.max := by
  unfold TypV at q
  rw [hu] at q
  obtain ⟨n, h1, h2⟩ := typ_int1 hu q
  exact ⟨n, by simpa using h1, h2⟩
theorem typV_bool {h : Heap} {t : TypeId} {f : Nat} {x : Value} (hu : P.underlying t = some .bool) (q : TypV P h (f + 1) t x) : ∃ b, x = .bool b := by
  unfold TypV at q
  rw [hu] at q
  obtain ⟨n, h1⟩ := typ_bool1 hu q
  exact ⟨n, by simpa using h1⟩
theorem typV_bytes {h : Heap} {m : Nat} {t e : TypeId} {x : Value} (ht : P.underlying t = some (.slice e)) (he : P.underlying e = some (.int .u8)) (hc : P.cellsOf e = 1) (q : TypV P h (m + 2) t x) :
    ∃ (bs : List UInt8) (a : Option Addr) (cap : Nat), x = .slice a bs.length cap ∧ bs.length ≤ maxLen ∧ Row h a bs.length cap (u8s bs) := typ_bytes ht he hc q
@[simp] theorem hget_newkp (H L : Heap) (k p : Nat) : hget (H ++ L) (H.length + k + p) = hget L (p + k) := by rw [Nat.add_assoc, Nat.add_comm k p]; exact hget_append_new
@[simp] theorem hset_newkp (H L : Heap) (k p : Nat) (b : Option Blk) : (H ++ L).set (H.length + k + p) b = H ++ L.set (p + k) b := by rw [Nat.add_assoc, Nat.add_comm k p, hset_newk]
@[simp] theorem agree_pre' (H A B : Heap) : Agree (H ++ A) (H ++ B) = Agree A B := by
  apply propext
  constructor
  · intro q i b h
    have := q (H.length + i) b (by rw [hget_append_new]; exact h)
    rwa [hget_append_new] at this
  · intro q i b h
    by_cases hi : i < H.length
    · rw [hget_append hi] at h ⊢; exact h
    · obtain ⟨k, rfl⟩ : ∃ k, i = H.length + k := ⟨i - H.length, by omega⟩
      rw [hget_append_new] at h ⊢
      exact q k b h
/-- A call whose answer is known. -/
theorem CallK.is {f : FuncId} {args : List Value} {h h' : Heap} {v : Value} {dst : Option Tmp} {tm : List (Nat × Ent)} {K : St → Prop} (hf : Fn P f args h fun r g => r = v ∧ g = h') (hk : K ⟨put dst (.v v) tm, h'⟩) : CallK P f args h dst tm K :=
  CallK.of hf fun _ _ ⟨a, b⟩ => by rw [a, b]; exact hk
/-! Equality, cell by cell. -/
def isK (k : IntKind) : Value → Bool
  | .int k' _ => decide (k' = k)
  | _ => false
@[simp] theorem isK_int (k k' : IntKind) (n : Int) : isK k (.int k' n) = decide (k' = k) := rfl
theorem flatEq_ints {k : IntKind} : ∀ (zs : List Value) (l m : List Int), zs.all (isK k) = true → l.length = zs.length → m.length = zs.length → flatEq zs (ints k l) (ints k m) = some (l == m)
  | [], l, m, _, h1, h2 => by
    cases List.eq_nil_of_length_eq_zero h1
    cases List.eq_nil_of_length_eq_zero h2
    rfl
  | z :: zs, a :: l, b :: m, h, h1, h2 => by
    simp only [List.all_cons, Bool.and_eq_true] at h
    have ih := flatEq_ints zs l m h.2 (by simpa using h1) (by simpa using h2)
    obtain ⟨z0, z1⟩ := h
    cases z with
    | int k' n =>
      simp at z0; subst z0
      simp only [ints, List.map_cons] at ih ⊢
      rw [flatEq, if_pos ⟨rfl, rfl⟩, ih]
      rfl
    | _ => simp [isK] at z0
  | z :: zs, [], m, _, h1, _ => by simp at h1
  | z :: zs, _ :: _, [], _, _, h2 => by simp at h2
theorem u8s_ints (l : List UInt8) : u8s l = ints .u8 (l.map fun b => (b.toNat : Int)) := by simp [u8s, ints]
theorem w32_ints (l : List UInt32) : w32 l = ints .u32 (l.map fun b => (b.toNat : Int)) := by simp [w32, ints]
theorem beq_map {α β : Type} [BEq α] [LawfulBEq α] [BEq β] [LawfulBEq β] {f : α → β} (hf : ∀ x y, f x = f y → x = y) (l m : List α) : (l.map f == m.map f) = (l == m) := by
  rw [Bool.eq_iff_iff]
  simp only [beq_iff_eq]
  constructor
  · intro h
    induction l generalizing m with
    | nil => cases m <;> first | rfl | simp at h
    | cons a l ih =>
      cases m with
      | nil => simp at h
      | cons b m =>
        simp only [List.map_cons, List.cons.injEq] at h
        rw [hf a b h.1, ih m h.2]
  · rintro rfl; rfl
theorem flatEq_u8 (zs : List Value) (l m : List UInt8) (h : zs.all (isK .u8) = true) (h1 : l.length = zs.length) (h2 : m.length = zs.length) : flatEq zs (u8s l) (u8s m) = some (l == m) := by
  rw [u8s_ints, u8s_ints, flatEq_ints zs _ _ h (by simpa using h1) (by simpa using h2), beq_map fun x y e => UInt8.toNat_inj.1 (by omega)]
theorem flatEq_w32 (zs : List Value) (l m : List UInt32) (h : zs.all (isK .u32) = true) (h1 : l.length = zs.length) (h2 : m.length = zs.length) : flatEq zs (w32 l) (w32 m) = some (l == m) := by
  rw [w32_ints, w32_ints, flatEq_ints zs _ _ h (by simpa using h1) (by simpa using h2), beq_map fun x y e => UInt32.toNat_inj.1 (by omega)]
/-- What is equal to itself. -/
theorem flatEq_app : ∀ {zs xs ys : List Value} {b : Bool} {zs' xs' ys' : List Value} {b' : Bool}, flatEq zs xs ys = some b → flatEq zs' xs' ys' = some b' → flatEq (zs ++ zs') (xs ++ xs') (ys ++ ys') = some (b && b')
  | [], [], [], b, _, _, _, b', h, h' => by simp [flatEq] at h; subst h; simpa using h'
  | z :: zs, x :: xs, y :: ys, b, zs', xs', ys', b', h, h' => by
    have key : ∀ c : Bool, (flatEq zs xs ys).map (fun r => c && r) = some b → (flatEq (zs ++ zs') (xs ++ xs') (ys ++ ys')).map (fun r => c && r) = some (b && b') := by
      intro c hc
      simp only [Option.map_eq_some_iff] at hc
      obtain ⟨r, hr, rfl⟩ := hc
      rw [flatEq_app hr h']
      simp [Bool.and_assoc]
    cases z <;> cases x <;> cases y <;> simp only [flatEq, reduceCtorEq, List.cons_append] at h ⊢
    · exact key _ h
    · split at h
      · rename_i hk; rw [if_pos hk]; exact key _ h
      · simp at h
    · exact key _ h
  | [], x :: xs, _, _, _, _, _, _, h, _ => by simp [flatEq] at h
  | [], [], y :: ys, _, _, _, _, _, h, _ => by simp [flatEq] at h
  | z :: zs, [], _, _, _, _, _, _, h, _ => by cases z <;> simp [flatEq] at h
  | z :: zs, x :: xs, [], _, _, _, _, _, h, _ => by cases z <;> cases x <;> simp [flatEq] at h
end Go.Sx
end
