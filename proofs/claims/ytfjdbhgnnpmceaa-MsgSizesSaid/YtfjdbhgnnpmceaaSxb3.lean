/-
  Walks by Sx; no condition beyond those that stand in each statement.
-/
import Derived.Test.YtfjdbhgnnpmceaaSxb2
import Derived.Tactics
import Derived.Scope
import Derived.Deep.LoopGhost
section
/-
  Sx, part J: soundness of append, and the theorem for all operations that make or turn blocks. Own words; no condition.
-/
namespace Go.Sx
open Go
variable {P : Program} {ty : TypeId → Option TD}

theorem growBy_le (n : Nat) (h : 256 ≤ n) : ∀ (r c : Nat), c ≤ 2 * n → Builtin.growBy n r c ≤ 2 * n
  | 0, c, hc => hc
  | r + 1, c, hc => by
    unfold Builtin.growBy
    split
    · exact hc
    · exact growBy_le n h r _ (by omega)
theorem nextslicecap_le (n c : Nat) (h : c < n) : Builtin.nextslicecap n c ≤ 2 * n := by
  unfold Builtin.nextslicecap
  split
  · omega
  · split
    · omega
    · exact growBy_le n (by omega) 4 c (by omega)
/-- An append that finds no room: a new block. -/
theorem append_new (T : TyOk P ty) {ι : List Place} {h : Heap} {w : World} (R : RelH ι h w) {t0 e t1 : TypeId} {d0 d d1 : TD} (ht0 : ty t0 = some d0) (hk : d0.desc = .slice e) (ht : ty e = some d) (ht1 : ty t1 = some d1) (hni : ∀ k, d1.desc ≠ .int k) {ats : Array TypeId} (hat : ats[0]? = some t0) (hat1 : ats[1]? = some t1)
    {base : Option Addr} {len cap n : Nat} (hcap : ¬ len + n ≤ cap) (hb1 : (len + n) * d.bytes ≤ 35184372088832) (hb2 : len + n ≤ 35184372088832) {y' : Value} {old xs : List Value} {rest : List Value}
    (hold : ∃ l', (Builtin.firstCells d.size len (.slice base len cap)).run P { w with drawn := w.drawn + 1 } = .ok l' { w with drawn := w.drawn + 1 } ∧ VRs ι old l'.toList ∧ old.length = len * d.size)
    (hln : (Builtin.lenOf y').run P w = .ok n w) (hnew : ∃ l', (Builtin.firstCells d.size n y').run P { w with drawn := w.drawn + 1 } = .ok l' { w with drawn := w.drawn + 1 } ∧ VRs ι xs l'.toList) (hxs : xs.length = n * d.size) (ot : TypeId) :
    ∃ y κ w', (Builtin.append_ ats ot (.slice base len cap :: y' :: rest).toArray).run P w = .ok y w' ∧ VR κ (.slice (some ⟨h.length, 0, none⟩) (len + n) OPEN) y ∧ RelH κ (h ++ [some (Blk.cells (old ++ xs) true d.size)]) w' ∧ Grow ι h w κ (h ++ [some (Blk.cells (old ++ xs) true d.size)]) w' := by
  have hu := T.underlying ht0 w
  rw [hk] at hu
  have hu1 := T.underlying ht1 w
  obtain ⟨inf, zv, hi, hi1, hi2, hi3, hi4⟩ := T.typeInfo ht w
  obtain ⟨l1, o1, o2, o3⟩ := hold
  obtain ⟨l2, n1, n2⟩ := hnew
  have hz : (match d1.desc with | .int _ => true | _ => false) = false := by
    cases hd : d1.desc <;> first | rfl | exact absurd hd (hni _)
  have hmax : ¬ ((((len + n : Nat) : Int) > IntKind.i64.max) ∧ ((false = true) ∨ inf.bytes = 0)) := by
    have : IntKind.i64.max = 9223372036854775807 := rfl
    rw [this]; omega
  have hover : ¬ (Builtin.nextslicecap (len + n) cap * inf.bytes > 2 ^ 48) := by
    have h1 := nextslicecap_le (len + n) cap (by omega)
    have h2 : Builtin.nextslicecap (len + n) cap * inf.bytes ≤ 2 * ((len + n) * inf.bytes) := by
      rw [← Nat.mul_assoc]; exact Nat.mul_le_mul_right _ h1
    rw [hi2] at h2 ⊢
    omega
  -- the capacity that is chosen
  obtain ⟨nc, hnc, hge⟩ : ∃ nc : Nat, (choose (.appendCap (len + n) cap e)).run P w = .ok nc { w with drawn := w.drawn + 1 } ∧ len + n ≤ nc :=
    ⟨_, rfl, Nat.le_add_right _ _⟩
  have hsz := T.sizeOf ht w
  obtain ⟨zv', hzv, hzc⟩ := T.zeroValue ht { w with drawn := w.drawn + 1 }
  have hzs : zv'.cells.size = d.size := by
    obtain ⟨_, _, _, _, _, _, _, hzl, _⟩ := T.inf e d ht
    rw [← hzl, ← hzc]; simp
  have R' := R.drew (w.drawn + 1)
  have hl1 : l1.size = len * d.size := by rw [← o3, o2.length]; simp
  have hl2 : l2.size = n * d.size := by rw [← hxs, n2.length]; simp
  have hrest : (Builtin.zeroCells zv'.cells (nc - (len + n))).size = (nc - (len + n)) * d.size := by simp [Builtin.zeroCells, hzs]
  have hroom : (l1 ++ l2 ++ Builtin.zeroCells zv'.cells (nc - (len + n))).size = nc * d.size := by
    rw [Array.size_append, Array.size_append, hl1, hl2, hrest, ← Nat.add_mul, ← Nat.add_mul]
    congr 1; omega
  have hlen : (old ++ xs).length = (len + n) * d.size := by rw [List.length_append, o3, hxs, Nat.add_mul]
  obtain ⟨r1, r2⟩ := R'.new (c := l1 ++ l2 ++ Builtin.zeroCells zv'.cells (nc - (len + n))) (e := e) (cs := old ++ xs) (by
      have e1 : (l1 ++ l2 ++ Builtin.zeroCells zv'.cells (nc - (len + n))).toList.take (old ++ xs).length = l1.toList ++ l2.toList := by
        rw [Array.toList_append, Array.toList_append, List.take_append_of_le_length (by simp [hl1, hl2, o3, hxs]), List.take_of_length_le (by simp [hl1, hl2, o3, hxs])]
      rw [e1]; exact o2.append n2) (room := nc * d.size) (by rw [hlen]; exact Nat.mul_le_mul_right _ hge) (by rw [hroom]; exact Nat.le_refl _) d.size
  refine ⟨.slice (some ⟨w.heap.size, 0, none⟩) (len + n) nc, _, _, ?_, ?_, r1, (Grow.drew _).trans r2⟩
  · simp only [Builtin.append_, hat, hat1, List.getElem?_toArray, List.getElem?_cons_zero, List.getElem?_cons_succ, Sem.run_bind, hu, Result.andThen_ok, hsz, hu1, Sem.run_pure]
    have hcond : ∀ m : Nat, m = n → ¬ (len + m ≤ cap) := fun m hm => by rw [hm]; exact hcap
    simp only [Bool.false_eq_true, if_false, hln, Result.andThen_ok, Sem.run_bind, Bool.not_false, if_true, hcap, hi, false_or]
    rw [if_neg (by have : IntKind.i64.max = 9223372036854775807 := rfl; rw [this]; omega)]
    simp only [Sem.run_bind, hi, Result.andThen_ok]
    rw [if_neg hover]
    simp only [Sem.run_bind, hnc, Result.andThen_ok, run_askRoom]
    obtain ⟨inf', zv2, hi', _⟩ := T.typeInfo ht { w with drawn := w.drawn + 1 }
    simp only [hi', Result.andThen_ok, o1, n1, hzv, newRow, Sem.run_bind, run_newObj, Sem.run_pure]
    rfl
  · have := VR.sliceO (ι := ι ++ [⟨w.heap.size, 0, nc * d.size, d.size⟩]) h.length 0 (len + n) nc ⟨w.heap.size, 0, nc * d.size, d.size⟩ (new_place ι h R.len _) hge (by simp)
    simpa using this
/-- An append that finds room: the cells are stored behind. -/
theorem append_in (T : TyOk P ty) {w : World} {t0 e t1 : TypeId} {d0 d d1 : TD} (ht0 : ty t0 = some d0) (hk : d0.desc = .slice e) (ht : ty e = some d) (ht1 : ty t1 = some d1) (hni : ∀ k, d1.desc ≠ .int k) {ats : Array TypeId} (hat : ats[0]? = some t0) (hat1 : ats[1]? = some t1)
    {base : Option Addr} {len cap n : Nat} (hcap : len + n ≤ cap) {y' : Value} {rest : List Value} (hln : (Builtin.lenOf y').run P w = .ok n w) {l : Array Value} (hnew : (Builtin.firstCells d.size n y').run P w = .ok l w) (ot : TypeId) :
    (Builtin.append_ ats ot (.slice base len cap :: y' :: rest).toArray).run P w = (match base with
      | some a => (storeCells (a.add (len * d.size)) l.toList).run P w |>.andThen fun _ w' => .ok (.slice base (len + n) cap) w'
      | none => .ok (.slice base (len + n) cap) w) := by
  have hu := T.underlying ht0 w
  rw [hk] at hu
  have hu1 := T.underlying ht1 w
  have hsz := T.sizeOf ht w
  have hz : (match d1.desc with | .int _ => true | _ => false) = false := by
    cases hd : d1.desc <;> first | rfl | exact absurd hd (hni _)
  simp only [Builtin.append_, hat, hat1, List.getElem?_toArray, List.getElem?_cons_zero, List.getElem?_cons_succ, Sem.run_bind, hu, Result.andThen_ok, hsz, hu1, Sem.run_pure]
  simp only [Bool.false_eq_true, if_false, hln, Result.andThen_ok, Sem.run_bind, Bool.not_false, if_true, hcap, hnew]
  cases base with
  | none => rfl
  | some a => simp only [Sem.run_bind, Sem.run_pure]
theorem lenC_nat {y : Value} {k : IntKind} {n : Int} (h : lenC y = some (.int k n)) : ∃ m : Nat, n = (m : Int) := by
  cases y <;> simp [lenC] at h
  · exact ⟨_, h.2.symm⟩
  · exact ⟨_, h.2.symm⟩
/-- An empty block of no place. -/
theorem RelH.void {ι : List Place} {h : Heap} {w : World} (R : RelH ι h w) (b u : Nat) : RelH (ι ++ [⟨b, 0, 0, u⟩]) (h ++ [some (.void u)]) w ∧ Grow ι h w (ι ++ [⟨b, 0, 0, u⟩]) (h ++ [some (.void u)]) w := by
  have hpre : ι <+: ι ++ [⟨b, 0, 0, u⟩] := List.prefix_append _ _
  have newb : (ι ++ [⟨b, 0, 0, u⟩])[h.length]? = some ⟨b, 0, 0, u⟩ := by rw [← R.len]; simp
  have which : ∀ i b, hget (h ++ [some (.void u)]) i = some b → hget h i = some b ∨ i = h.length ∧ b = .void u := by
    intro i b hi
    have hlt := hget_lt hi
    by_cases hl : i < h.length
    · left; rw [hget_append hl] at hi; exact hi
    · right
      have : i = h.length := by simp at hlt; omega
      subst this
      have e := hget_append_new (h := h) (g := [some (Blk.void u)]) (k := 0)
      simp only [Nat.add_zero] at e
      rw [e] at hi
      simp [hget] at hi
      exact ⟨rfl, hi.symm⟩
  have oldp : ∀ j b' q, hget h j = some b' → (ι ++ [⟨b, 0, 0, u⟩])[j]? = some q → ι[j]? = some q := by
    intro j b' q hj hq
    rwa [List.getElem?_append_left (R.lt hj)] at hq
  refine ⟨⟨by simp [R.len], ?_, ?_⟩, hpre, rfl, rfl, rfl, Nat.le_refl _, fun _ _ _ => rfl, ?_⟩
  · intro i c hi
    rcases which i c hi with ho | ⟨rfl, rfl⟩
    · obtain ⟨p, hp, r⟩ := R.blk i c ho
      exact ⟨p, by rw [List.getElem?_append_left (R.lt ho)]; exact hp, r.mono hpre⟩
    · exact ⟨_, newb, rfl, rfl⟩
  · intro i j c d p q h1 h2 h3 h4 h5 h6 h7
    rcases which i c h1 with a1 | ⟨rfl, rfl⟩
    · rcases which j d h3 with a2 | ⟨rfl, rfl⟩
      · exact R.apart i j c d p q a1 h2 a2 h4 h5 (oldp i c p a1 h6) (oldp j d q a2 h7)
      · cases h4
    · cases h2
  · intro i c p h1 h2 h3
    rcases which i c h1 with a1 | ⟨rfl, rfl⟩
    · exact .inl ⟨i, c, p, a1, h2, oldp i c p a1 h3, rfl⟩
    · cases h2
theorem does_append (T : TyOk P ty) {ι : List Place} {h : Heap} {w : World} (R : RelH ι h w) {t0 e t1 : TypeId} {d0 d d1 : TD} (ht0 : ty t0 = some d0) (hk : d0.desc = .slice e) (ht : ty e = some d) (ht1 : ty t1 = some d1) (hni : ∀ k, d1.desc ≠ .int k) {ats : Array TypeId} (hat : ats[0]? = some t0) (hat1 : ats[1]? = some t1)
    {x y x' y' : Value} {rest : List Value} {n : Nat} {k : IntKind} {xs : List Value} (hn : lenC y = some (.int k (n : Int))) (hrow : rowOf d.size h y = some xs) (hxs : xs.length = n * d.size) {v : Value} {h' : Heap} (hs : appendC d h x n xs = some (v, h')) (hx : VR ι x x') (hy : VR ι y y') (ot : TypeId) :
    ∃ z κ w', (Builtin.append_ ats ot (x' :: y' :: rest).toArray).run P w = .ok z w' ∧ VR κ v z ∧ RelH κ h' w' ∧ Grow ι h w κ h' w' := by
  have hf := fun (w' : World) (R' : RelH ι h w') => first_cells (P := P) R' hrow (m := n) hn hxs hy (Nat.le_refl _)
  have htake : xs.take (n * d.size) = xs := List.take_of_length_le (by omega)
  rw [htake] at hf
  obtain ⟨hln, l0, hl0, hr0⟩ := hf w R
  have hdrew := (hf _ (R.drew (w.drawn + 1))).2
  have grows : ∀ base : Option Addr, x' = .slice base 0 0 → 0 < d.size → n * d.bytes ≤ 35184372088832 → n ≤ 35184372088832 → ∃ z κ w', (Builtin.append_ ats ot (x' :: y' :: rest).toArray).run P w = .ok z w' ∧ VR κ (.slice (some ⟨h.length, 0, none⟩) n OPEN) z ∧ RelH κ (h ++ [some (grown xs d.size)]) w' ∧ Grow ι h w κ (h ++ [some (grown xs d.size)]) w' := by
    rintro base rfl hpos hb1 hb2
    by_cases hn0 : n = 0
    · subst hn0
      have hx0 : xs = [] := by simpa using hxs
      subst hx0
      have hl00 : l0 = #[] := by
        have := hr0.length
        simp at this
        exact Array.eq_empty_of_size_eq_zero this.symm
      subst hl00
      obtain ⟨r1, r2⟩ := R.void 0 d.size
      refine ⟨.slice base 0 0, _, w, ?_, ?_, r1, r2⟩
      · rw [append_in T ht0 hk ht ht1 hni hat hat1 (by omega) hln hl0]
        cases base <;> simp [storeCells]
      · cases base with
        | none => exact .sliceN _ _ _ (new_place ι h R.len _)
        | some b => exact .sliceE _ _ _ _ (new_place ι h R.len _)
    · obtain ⟨z, κ, w', q1, q2, q3, q4⟩ := append_new T R ht0 hk ht ht1 hni hat hat1 (base := base) (len := 0) (cap := 0) (n := n) (by omega) (by simpa using hb1) (by simpa using hb2) (old := []) (xs := xs) (rest := rest) ⟨#[], by cases base <;> simp [Builtin.firstCells, loadCells, loadCellsFrom], by simp [VRs], by simp⟩ hln hdrew hxs ot
      have hg' : grown xs d.size = .cells ([] ++ xs) true d.size := by
        cases xs with
        | nil => exact absurd (Nat.mul_eq_zero.1 (by simpa using hxs.symm)) (by omega)
        | cons a r => rfl
      rw [hg']
      exact ⟨z, κ, w', q1, by simpa using q2, q3, q4⟩
  unfold appendC at hs
  split at hs
  · rename_i a len cap
    simp only [Option.ite_none_right_eq_some] at hs
    obtain ⟨⟨hb1, hb2⟩, hs⟩ := hs
    split at hs
    · -- nil
      simp only [Option.ite_none_right_eq_some, Option.some.injEq, Prod.mk.injEq] at hs
      obtain ⟨⟨rfl, rfl, hpos⟩, rfl, rfl⟩ := hs
      exact grows none (hx.closed_inv rfl) hpos (by simpa using hb1) (by simpa using hb2)
    · rename_i i kk
      split at hs
      · rename_i h00
        obtain ⟨rfl, rfl⟩ := h00
        simp only [Option.ite_none_right_eq_some, Option.some.injEq, Prod.mk.injEq] at hs
        obtain ⟨hpos, rfl, rfl⟩ := hs
        have h0O : ¬ (0 : Nat) = OPEN := by unfold OPEN; omega
        rcases hx.slice_inv with ⟨i', k', q, he, hq, hno, rfl⟩ | ⟨i', k', q, c', he, ho, hq, hlc, hrm, rfl⟩ | ⟨b, _, h0, rfl, _⟩ | ⟨ho, h0, rfl, _⟩
        · exact grows _ rfl hpos (by simpa using hb1) (by simpa using hb2)
        · exact absurd ho h0O
        · exact grows _ rfl hpos (by simpa using hb1) (by simpa using hb2)
        · exact absurd ho h0O
      rename_i h00
      split at hs
      · rename_i cs own unit hg
        obtain ⟨p, hp, hblk⟩ := R.blk i _ hg
        split at hs
        · -- open
          rename_i hopen
          subst hopen
          split at hs
          · simp only [Option.ite_none_right_eq_some, Option.some.injEq, Prod.mk.injEq] at hs
            obtain ⟨⟨hlen, hunit, hone⟩, rfl, rfl⟩ := hs
            subst hunit
            obtain ⟨hc, hlt, hown⟩ := hblk
            obtain ⟨hroom, hpu, hcells⟩ := hown rfl
            have hmoved := R.moved hg hp (k := kk) (by omega)
            have hdl : (cs.drop kk).length = len * d.size := by rw [List.length_drop]; omega
            have hls : (h.set i none).length = h.length := by simp
            -- the block under its new number
            have hg' : hget (h.set i none ++ [some (Blk.cells (cs.drop kk) true d.size)]) h.length = some (Blk.cells (cs.drop kk) true d.size) := by
              have := hget_append_new (h := h.set i none) (g := [some (Blk.cells (cs.drop kk) true d.size)]) (k := 0)
              rw [Nat.add_zero, hls] at this
              rw [this]; rfl
            have hset : ∀ b, (h.set i none ++ [some (Blk.cells (cs.drop kk) true d.size)]).set h.length (some b) = h.set i none ++ [some b] := by
              intro b
              rw [List.set_append_right _ _ (by omega)]; simp
            rcases hx.slice_inv with ⟨i', k', q, he, hq, hno, rfl⟩ | ⟨i', k', q, c', he, _, hq, hlc, hrm, rfl⟩ | ⟨b, _, h0, rfl, _⟩ | ⟨_, h0, rfl, _⟩
            · exact absurd rfl hno
            · simp at he; obtain ⟨rfl, rfl⟩ := he
              rw [hp] at hq; simp at hq; subst hq
              rw [hpu] at hrm
              by_cases hfit : len + n ≤ c'
              · -- in place
                have hcm : (len + n) * d.size ≤ c' * d.size := Nat.mul_le_mul_right _ hfit
                rw [Nat.add_mul] at hcm
                obtain ⟨s1, s2, s3, s4⟩ := hmoved.1.store' (k := len * d.size) (cs' := cs.drop kk ++ xs) hg' (new_place ι h R.len _) (hr0.mono (List.prefix_append _ _)) (by simp; omega) (by simp; omega) (fun j x hj => by
                  by_cases hjl : j < len * d.size
                  · rw [List.getElem?_append_left (by omega)] at hj
                    exact .inr ⟨.inl hjl, hj⟩
                  · rw [List.getElem?_append_right (by omega)] at hj
                    exact .inl ⟨j - len * d.size, by omega, by rw [hdl] at hj; exact hj⟩)
                rw [hset] at s1 s2
                have hrun := run_storeCells_cells (P := P) p.block (p.off + kk + len * d.size) l0.toList 0 w (by simpa using s3) (by simpa using s4) ?_
                · refine ⟨.slice (some ⟨p.block, p.off + kk, none⟩) (len + n) c', _, _, ?_, ?_, s1, hmoved.2.trans s2⟩
                  · rw [append_in T ht0 hk ht ht1 hni hat hat1 hfit hln hl0]
                    simp only [addr_add]
                    simp only [Nat.add_zero] at hrun
                    rw [hrun]; rfl
                  · have := VR.sliceO (ι := ι ++ [⟨p.block, p.off + kk, p.room - kk, d.size⟩]) h.length 0 (len + n) c' ⟨p.block, p.off + kk, p.room - kk, d.size⟩ (new_place ι h R.len _) hfit (by simp; omega)
                    simpa using this
                · exact hr0.one (allOne hone)
              · -- a new block
                obtain ⟨l1, c1, c2, c3⟩ := cells_row hc (k := kk) (n := len * d.size) (l := cs.drop kk) (by unfold slc; rw [if_pos (by omega), List.take_of_length_le (by omega)])
                have hrun := run_loadCells_list (P := P) (w := { w with drawn := w.drawn + 1 }) ⟨p.block, p.off + kk, none⟩ l1 c3
                rw [c2] at hrun
                obtain ⟨z, κ, w', q1, q2, q3, q4⟩ := append_new T R ht0 hk ht ht1 hni hat hat1 (base := some ⟨p.block, p.off + kk, none⟩) (len := len) (cap := c') (n := n) hfit hb1 hb2 (old := cs.drop kk) (xs := xs) (rest := rest) ⟨l1.toArray, by simp only [Builtin.firstCells, hrun], by simpa using c1, hdl⟩ hln hdrew hxs ot
                have hset2 : h.set i none ++ [some (Blk.cells (cs.drop kk ++ xs) true d.size)] = (h ++ [some (Blk.cells (cs.drop kk ++ xs) true d.size)]).set i none := by
                  rw [List.set_append_left _ _ (hget_lt hg)]
                refine ⟨z, κ, w', q1, q2, ?_, ?_⟩
                · rw [hset2]; exact q3.forget i
                · rw [hset2]; exact q4.trans (Grow.forget i)
            · -- empty, without room
              subst h0
              simp at hlen hdl
              have hkk : kk = cs.length := hlen
              by_cases hn0 : n = 0
              · subst hn0
                have hx0 : xs = [] := by simpa using hxs
                subst hx0
                have hl00 : l0 = #[] := by
                  have := hr0.length
                  simp at this
                  exact Array.eq_empty_of_size_eq_zero this.symm
                subst hl00
                refine ⟨.slice (some b) 0 0, _, w, ?_, .sliceE _ _ _ _ (new_place ι h R.len _), by simpa using hmoved.1, by simpa using hmoved.2⟩
                rw [append_in T ht0 hk ht ht1 hni hat hat1 (by omega) hln hl0]
                simp [storeCells]
              · obtain ⟨z, κ, w', q1, q2, q3, q4⟩ := append_new T R ht0 hk ht ht1 hni hat hat1 (base := some b) (len := 0) (cap := 0) (n := n) (by omega) hb1 hb2 (old := []) (xs := xs) (rest := rest) ⟨#[], by simp [Builtin.firstCells, loadCells, loadCellsFrom], by simp [VRs], by simp⟩ hln hdrew hxs ot
                have hset2 : h.set i none ++ [some (Blk.cells (cs.drop kk ++ xs) true d.size)] = (h ++ [some (Blk.cells ([] ++ xs) true d.size)]).set i none := by
                  rw [List.set_append_left _ _ (hget_lt hg), hkk]; simp
                refine ⟨z, κ, w', q1, q2, ?_, ?_⟩
                · rw [hset2]; exact q3.forget i
                · rw [hset2]; exact q4.trans (Grow.forget i)
            · -- nil
              subst h0
              simp at hlen hdl
              have hkk : kk = cs.length := hlen
              by_cases hn0 : n = 0
              · subst hn0
                have hx0 : xs = [] := by simpa using hxs
                subst hx0
                have hl00 : l0 = #[] := by
                  have := hr0.length
                  simp at this
                  exact Array.eq_empty_of_size_eq_zero this.symm
                subst hl00
                refine ⟨.slice none 0 0, _, w, ?_, .sliceN _ _ _ (new_place ι h R.len _), by simpa using hmoved.1, by simpa using hmoved.2⟩
                rw [append_in T ht0 hk ht ht1 hni hat hat1 (by omega) hln hl0]
              · obtain ⟨z, κ, w', q1, q2, q3, q4⟩ := append_new T R ht0 hk ht ht1 hni hat hat1 (base := none) (len := 0) (cap := 0) (n := n) (by omega) hb1 hb2 (old := []) (xs := xs) (rest := rest) ⟨#[], by simp [Builtin.firstCells], by simp [VRs], by simp⟩ hln hdrew hxs ot
                have hset2 : h.set i none ++ [some (Blk.cells (cs.drop kk ++ xs) true d.size)] = (h ++ [some (Blk.cells ([] ++ xs) true d.size)]).set i none := by
                  rw [List.set_append_left _ _ (hget_lt hg), hkk]; simp
                refine ⟨z, κ, w', q1, q2, ?_, ?_⟩
                · rw [hset2]; exact q3.forget i
                · rw [hset2]; exact q4.trans (Grow.forget i)
          · simp at hs
        · rename_i hopen
          split at hs
          · simp only [Option.ite_none_right_eq_some, Option.some.injEq, Prod.mk.injEq] at hs
            rename_i hfit
            obtain ⟨hn0, rfl, rfl⟩ := hs
            subst hn0
            have hx0 : xs = [] := by simpa using hxs
            subst hx0
            have hl00 : l0 = #[] := by
              have := hr0.length
              simp at this
              exact Array.eq_empty_of_size_eq_zero this.symm
            subst hl00
            rcases hx.slice_inv with ⟨i', k', q, he, hq, hno, hx'⟩ | ⟨i', k', q, c', he, ho, hq, hlc, hrm, rfl⟩ | ⟨b, ho, h0, rfl, _⟩ | ⟨ho, _⟩
            · rw [hx'] at hx
              refine ⟨_, ι, w, ?_, hx, R, .refl _ _ _⟩
              rw [hx', append_in T ht0 hk ht ht1 hni hat hat1 (by omega) hln hl0]
              simp [storeCells]
            · exact absurd ho hopen
            · have hc0 := ho.resolve_left hopen
              subst hc0; subst h0
              refine ⟨_, ι, w, ?_, hx, R, .refl _ _ _⟩
              rw [append_in T ht0 hk ht ht1 hni hat hat1 (by omega) hln hl0]
              simp [storeCells]
            · exact absurd ho hopen
          · rename_i hfit
            simp only [Option.map_eq_some_iff, Prod.mk.injEq] at hs
            obtain ⟨old, hold, rfl, rfl⟩ := hs
            rcases hx.slice_inv with ⟨i', k', q, he, hq, hno, rfl⟩ | ⟨i', k', q, c', he, ho, hq, hlc, hrm, rfl⟩ | ⟨b, ho, h0, rfl, _⟩ | ⟨ho, _⟩
            · simp at he; obtain ⟨rfl, rfl⟩ := he
              rw [hp] at hq; simp at hq; subst hq
              obtain ⟨l1, c1, c2, c3⟩ := cells_row hblk.1 hold
              have hrun := run_loadCells_list (P := P) (w := { w with drawn := w.drawn + 1 }) ⟨p.block, p.off + kk, none⟩ l1 c3
              rw [c2] at hrun
              exact append_new T R ht0 hk ht ht1 hni hat hat1 (base := some ⟨p.block, p.off + kk, none⟩) (len := len) (cap := cap) (n := n) hfit hb1 hb2 (old := old) (xs := xs) (rest := rest) ⟨l1.toArray, by simp only [Builtin.firstCells, hrun], by simpa using c1, slc_length hold⟩ hln hdrew hxs ot
            · exact absurd ho hopen
            · have hc0 := ho.resolve_left hopen
              subst hc0; subst h0
              have hold0 : old = [] := List.eq_nil_of_length_eq_zero (by have := slc_length hold; simpa using this)
              subst hold0
              exact append_new T R ht0 hk ht ht1 hni hat hat1 (base := some b) (len := 0) (cap := 0) (n := n) hfit hb1 hb2 (old := []) (xs := xs) (rest := rest) ⟨#[], by simp [Builtin.firstCells, loadCells, loadCellsFrom], by simp [VRs], by simp⟩ hln hdrew hxs ot
            · exact absurd ho hopen
      · -- void
        rename_i unit hg
        obtain ⟨p, hp, hroom, hpu⟩ := R.blk i _ hg
        simp only [Option.ite_none_right_eq_some, Option.some.injEq, Prod.mk.injEq] at hs
        obtain ⟨⟨rfl, rfl, rfl, rfl, hpos, _⟩, rfl, rfl⟩ := hs
        have hset : ∀ b : Option Blk, h.set i none ++ [b] = (h ++ [b]).set i none := fun b => by rw [List.set_append_left _ _ (hget_lt hg)]
        have main : ∀ base : Option Addr, x' = .slice base 0 0 → ∃ z κ w', (Builtin.append_ ats ot (x' :: y' :: rest).toArray).run P w = .ok z w' ∧ VR κ (.slice (some ⟨h.length, 0, none⟩) n OPEN) z ∧ RelH κ (h.set i none ++ [some (grown xs d.size)]) w' ∧ Grow ι h w κ (h.set i none ++ [some (grown xs d.size)]) w' := by
          rintro base rfl
          rw [hset]
          obtain ⟨z, κ, w', q1, q2, q3, q4⟩ := grows base rfl hpos (by simpa using hb1) (by simpa using hb2)
          exact ⟨z, κ, w', q1, q2, q3.forget i, q4.trans (Grow.forget i)⟩
        rcases hx.slice_inv with ⟨i', k', q, he, hq, hno, rfl⟩ | ⟨i', k', q, c', he, _, hq, hlc, hrm, rfl⟩ | ⟨b, _, h0, rfl, _⟩ | ⟨_, h0, rfl, _⟩
        · exact absurd rfl hno
        · simp at he; obtain ⟨rfl, rfl⟩ := he
          rw [hp] at hq; simp at hq; subst hq
          rw [hroom, hpu] at hrm
          have hc0 : c' = 0 := by
            rcases Nat.mul_eq_zero.1 (show c' * d.size = 0 by omega) with h | h <;> omega
          subst hc0
          exact main _ rfl
        · exact main _ rfl
        · exact main _ rfl
      · simp at hs
    · simp at hs
  · simp at hs
end Go.Sx
end
section
/-
  Sx, part K: soundness of all operations that make or turn blocks. Own words; no condition.
-/
namespace Go.Sx
open Go
variable {P : Program} {ty : TypeId → Option TD}

/-- A mark behind a block's last cell freezes nothing. -/
theorem RelH.stringish {ι : List Place} {h : Heap} {w : World} (R : RelH ι h w) {b n : Nat} {c : Array Value} {e : TypeId} (hb : w.heap[b]? = some (.cells c e (0, 0))) (hn : c.size ≤ n) :
    RelH ι h (w.freeze ⟨b, n, none⟩ 1) ∧ ∀ ι₀ h₀ w₀, Grow ι₀ h₀ w₀ ι h w → w₀.heap.size ≤ b → Grow ι₀ h₀ w₀ ι h (w.freeze ⟨b, n, none⟩ 1) := by
  have hheap : ∀ k, k ≠ b → (w.freeze ⟨b, n, none⟩ 1).heap[k]? = w.heap[k]? := by
    intro k hk
    simp only [World.freeze, Nat.one_ne_zero, if_false, Array.getElem?_modify]
    rw [if_neg (fun e => hk e.symm)]
  have hself : (w.freeze ⟨b, n, none⟩ 1).heap[b]? = some (.cells c e (n, n + 1)) := by
    simp [World.freeze, Array.getElem?_modify, hb]
  have hsize : (w.freeze ⟨b, n, none⟩ 1).heap.size = w.heap.size := by simp [World.freeze]
  have hcell : ∀ a : Addr, (w.freeze ⟨b, n, none⟩ 1).cell? a = w.cell? a := by
    intro a
    by_cases hab : a.block = b
    · simp [World.cell?, hab, hself, hb]
    · simp [World.cell?, hheap _ hab]
  refine ⟨⟨R.len, ?_, R.apart⟩, ?_⟩
  · intro i bl hi
    obtain ⟨p, hp, r⟩ := R.blk i bl hi
    refine ⟨p, hp, ?_⟩
    cases bl with
    | cells cs o u =>
      obtain ⟨h1, h2, h3⟩ := r
      refine ⟨fun k x hx => by rw [hcell]; exact h1 k x hx, by rw [hsize]; exact h2, fun ho => ?_⟩
      obtain ⟨a1, a2, a3⟩ := h3 ho
      refine ⟨a1, a2, fun k hk => ?_⟩
      rw [hcell]
      refine ⟨(a3 k hk).1, ?_⟩
      by_cases hpb : p.block = b
      · obtain ⟨⟨y, hy⟩, _⟩ := a3 k hk
        have hlt : p.off + k < c.size := by
          simp only [World.cell?, hpb, hb] at hy
          simp at hy
          exact (Array.getElem?_eq_some_iff.1 hy).1
        simp only [World.frozen?, hpb, hself]
        simp
        omega
      · simp only [World.frozen?, hheap _ hpb]
        exact (a3 k hk).2
    | void u => exact r
    | map es c' =>
      obtain ⟨es', h1, h2⟩ := r
      refine ⟨es', ?_, h2⟩
      by_cases hpb : p.block = b
      · rw [hpb, hb] at h1; simp at h1
      · rw [hheap _ hpb]; exact h1
  · intro ι₀ h₀ w₀ g hle
    exact ⟨g.pre, g.os, g.tape, g.output, by rw [hsize]; exact g.size, fun k hk hno => by rw [hheap k (by omega)]; exact g.keep k hk hno, g.own⟩
/-- A block of one's own that is lent: a mark behind it freezes what nobody writes. -/
theorem RelH.lend {ι : List Place} {h h' : Heap} {w : World} (R : RelH ι h w) {i : Nat} {p : Place} (hp : ι[i]? = some p) (hl : lendC h i = some h') (n m : Nat) :
    RelH ι h' (w.freeze ⟨p.block, n, none⟩ m) ∧ Grow ι h w ι h' (w.freeze ⟨p.block, n, none⟩ m) := by
  unfold lendC at hl
  split at hl
  · rename_i cs u hg
    simp only [Option.some.injEq] at hl
    subst hl
    by_cases hm : m = 0
    · subst hm
      have e : w.freeze ⟨p.block, n, none⟩ 0 = w := by simp [World.freeze]
      rw [e]
      refine ⟨⟨by simpa using R.len, ?_, ?_⟩, ?_⟩
      · intro j bl hj
        rw [hget_set] at hj
        split at hj
        · rename_i hij
          obtain ⟨rfl, _⟩ := hij
          cases hj
          obtain ⟨q, hq, r⟩ := R.blk i _ hg
          exact ⟨q, hq, r.1, r.2.1, fun h => by cases h⟩
        · exact R.blk j bl hj
      · intro j j' b c p q h1 h2 h3 hsd h4 h5 h6
        rw [hget_set] at h1 h3
        split at h1
        · cases h1; cases h2
        · split at h3
          · rename_i hij; obtain ⟨rfl, _⟩ := hij
            exact R.apart j i b _ p q h1 h2 hg rfl h4 h5 h6
          · exact R.apart j j' b c p q h1 h2 h3 hsd h4 h5 h6
      · refine ⟨List.prefix_refl _, rfl, rfl, rfl, Nat.le_refl _, fun _ _ _ => rfl, fun j c q h1 h2 h3 => ?_⟩
        rw [hget_set] at h1
        split at h1
        · cases h1; cases h2
        · exact .inl ⟨j, c, q, h1, h2, h3, rfl⟩
    have hheap : ∀ k, k ≠ p.block → (w.freeze ⟨p.block, n, none⟩ m).heap[k]? = w.heap[k]? := by
      intro k hk
      simp only [World.freeze, hm, if_false, Array.getElem?_modify]
      rw [if_neg (fun e => hk e.symm)]
    have hsize : (w.freeze ⟨p.block, n, none⟩ m).heap.size = w.heap.size := by simp [World.freeze, hm]
    have hcell : ∀ a : Addr, (w.freeze ⟨p.block, n, none⟩ m).cell? a = w.cell? a := by
      intro a
      by_cases hab : a.block = p.block
      · simp only [World.cell?, World.freeze, hm, if_false, Array.getElem?_modify, hab, if_true]
        cases w.heap[p.block]? with
        | none => rfl
        | some o => cases o <;> rfl
      · simp [World.cell?, hheap _ hab]
    refine ⟨⟨by simpa using R.len, ?_, ?_⟩, ?_⟩
    · intro j bl hj
      rw [hget_set] at hj
      split at hj
      · rename_i hij
        obtain ⟨rfl, _⟩ := hij
        cases hj
        obtain ⟨q, hq, r⟩ := R.blk i _ hg
        exact ⟨q, hq, fun k x hx => by rw [hcell]; exact r.1 k x hx, by rw [hsize]; exact r.2.1, fun h => by cases h⟩
      · rename_i hij
        have hne : i ≠ j := by
          rintro rfl
          exact hij ⟨rfl, hget_lt hg⟩
        obtain ⟨q, hq, r⟩ := R.blk j bl hj
        refine ⟨q, hq, ?_⟩
        cases bl with
        | void u => exact r
        | cells cs' o' u' =>
          have hap := R.apart i j _ _ p q hg rfl hj rfl hne hp hq
          obtain ⟨r1, r2, r3⟩ := r
          refine ⟨fun k x hx => by rw [hcell]; exact r1 k x hx, by rw [hsize]; exact r2, fun ho => ?_⟩
          obtain ⟨a1, a2, a3⟩ := r3 ho
          refine ⟨a1, a2, fun k hk => ?_⟩
          rw [hcell]
          refine ⟨(a3 k hk).1, ?_⟩
          simp only [World.frozen?, hheap _ (fun e => hap e.symm)]
          exact (a3 k hk).2
        | map es c' =>
          have hap := R.apart i j _ _ p q hg rfl hj rfl hne hp hq
          obtain ⟨es', e1, e2⟩ := r
          exact ⟨es', by rw [hheap _ (fun e => hap e.symm)]; exact e1, e2⟩
    · intro j j' b c p' q h1 h2 h3 hsd h4 h5 h6
      rw [hget_set] at h1 h3
      split at h1
      · cases h1; cases h2
      · split at h3
        · rename_i hij; obtain ⟨rfl, _⟩ := hij
          exact R.apart j i b _ p' q h1 h2 hg rfl h4 h5 h6
        · exact R.apart j j' b c p' q h1 h2 h3 hsd h4 h5 h6
    · refine ⟨List.prefix_refl _, by simp [World.freeze, hm], by simp [World.freeze, hm], by simp [World.freeze, hm], by rw [hsize]; exact Nat.le_refl _, fun b hb hno => hheap b (fun e => hno i _ p hg rfl hp e.symm), fun j c q h1 h2 h3 => ?_⟩
      rw [hget_set] at h1
      split at h1
      · cases h1; cases h2
      · exact .inl ⟨j, c, q, h1, h2, h3, rfl⟩
  · simp at hl
theorem does_bytes {ι : List Place} {h : Heap} {w : World} (R : RelH ι h w) (b : ByteArray) (e : TypeId) :
    ∃ z κ w', (Conv.stringToBytes e b).run P w = .ok z w' ∧ VR κ (.slice (some ⟨h.length, 0, none⟩) b.size OPEN) z ∧ RelH κ (h ++ [some (.cells (b.data.toList.map fun c => Value.int .u8 c.toNat) true 1)]) w' ∧ Grow ι h w κ (h ++ [some (.cells (b.data.toList.map fun c => Value.int .u8 c.toNat) true 1)]) w' := by
  obtain ⟨nc, hnc, hge⟩ : ∃ nc : Nat, (choose (.appendCap b.size 0 e)).run P w = .ok nc { w with drawn := w.drawn + 1 } ∧ b.size ≤ nc := ⟨_, rfl, Nat.le_add_right _ _⟩
  have R' := R.drew (w.drawn + 1)
  obtain ⟨c, hc⟩ : ∃ c : Array Value, c = (b.data.map fun b => Value.int .u8 (b.toNat : Int)) ++ Array.replicate (nc - b.size) (.int .u8 0) := ⟨_, rfl⟩
  have hsz : c.size = nc := by
    rw [hc, Array.size_append]
    have : b.data.size = b.size := rfl
    simp; omega
  have hbl : (b.data.toList.map fun c => Value.int .u8 (c.toNat : Int)).length = b.size := by simp
  obtain ⟨r1, r2⟩ := R'.new (c := c) (e := e) (cs := b.data.toList.map fun c => Value.int .u8 (c.toNat : Int)) (by
    have e1 : c.toList.take (b.data.toList.map fun c => Value.int .u8 (c.toNat : Int)).length = b.data.toList.map fun c => Value.int .u8 (c.toNat : Int) := by
      rw [hc, Array.toList_append, List.take_append_of_le_length (by simp), List.take_of_length_le (by simp)]; simp
    rw [e1]; exact VRs.closed (by simp [closed1])) (room := nc) (by rw [hbl]; exact hge) (by omega) 1
  have hb : ({ w with drawn := w.drawn + 1 }.alloc (.cells c e)).heap[w.heap.size]? = some (.cells c e (0, 0)) := by simp [World.alloc]
  obtain ⟨s1, s2⟩ := r1.stringish hb (n := c.size) (Nat.le_refl _)
  refine ⟨.slice (some ⟨w.heap.size, 0, none⟩) b.size nc, _, _, ?_, ?_, s1, s2 _ _ _ ((Grow.drew _).trans r2) (Nat.le_refl _)⟩
  · have hsh : ({ w with drawn := w.drawn + 1 }.alloc (.cells c e)).shape? w.heap.size = some (e, c.size) := by simp only [World.shape?]; rw [hb]
    simp only [Conv.stringToBytes, Sem.run_bind, hnc, Result.andThen_ok, newRow, run_newObj, Sem.run_pure, markStringish, run_shape, ← hc]
    have hw : ({ w with drawn := w.drawn + 1, heap := w.heap.push (.cells c e) } : World) = { w with drawn := w.drawn + 1 }.alloc (.cells c e) := rfl
    rw [hw, hsh]
    simp
  · have := VR.sliceO (ι := ι ++ [⟨w.heap.size, 0, nc, 1⟩]) h.length 0 b.size nc ⟨w.heap.size, 0, nc, 1⟩ (new_place ι h R.len _) hge (by simp)
    simpa using this
theorem zero_if {w : World} {e : TypeId} {z : Value} (hz : (Go.zeroValue e).run P w = .ok z w) (m : Nat) {α : Type} (K : Array Value → Sem α) :
    ((if m = 0 then (do let zero ← pure #[]; K zero) else (do let l ← Go.zeroValue e; let zero ← pure l.cells; K zero) : Sem α)).run P w = (K (if m = 0 then #[] else z.cells)).run P w := by
  by_cases h : m = 0
  · simp [h]
  · simp [h, hz]
theorem two_args {ι : List Place} {x y : Value} {r zs : List Value} (h : VRs ι (x :: y :: r) zs) : ∃ x' y' r', zs = x' :: y' :: r' ∧ VR ι x x' ∧ VR ι y y' := by
  match zs, h with
  | x' :: y' :: r', ⟨a, b, _⟩ => exact ⟨x', y', r', rfl, a, b⟩
/-- All operations that make or turn blocks. -/
theorem semA_sound (T : TyOk P ty) {ι : List Place} {tm : List (Nat × Ent)} {N : Nat} {a : Act} {h : Heap} {w : World} (R : RelT ι tm N a) (H : RelH ι h w) (o : Oper) {v : Value} {h' : Heap} (hs : semA ty o.op tm h = some (v, h')) :
    Does P ι h w (execOp a.eval o) v h' := by
  obtain ⟨dst, op, type, pos, after, guard⟩ := o
  cases op <;> simp only [semA, reduceCtorEq] at hs
  case alloc t =>
    simp only [Option.map_eq_some_iff, Prod.mk.injEq] at hs
    obtain ⟨d, hd, rfl, rfl⟩ := hs
    obtain ⟨z, hz, hzc⟩ := T.zeroValue hd w
    obtain ⟨κ, q1, q2, q3, q4⟩ := does_newRow (P := P) H (cs := d.zero) (c := z.cells) (by rw [hzc]; exact zero_VRs T hd) t 0
    refine ⟨.value (.pointer (some ⟨w.heap.size, 0, none⟩)), _, κ, _, ?_, .inl rfl, ?_, q3, q4⟩
    · simp only [execOp, Instr.alloc, newVar, Sem.run_bind, hz, Result.andThen_ok, q1, Sem.run_pure]
    · have := VR.ptr (ι := κ) h.length 0 _ q2; simpa using this
  case box t x =>
    simp only [Option.map_eq_some_iff, Prod.mk.injEq] at hs
    obtain ⟨xv, hx, rfl, rfl⟩ := hs
    obtain ⟨κ, q1, q2, q3, q4⟩ := does_newRow (P := P) H (R.ev rfl hx).cells t 0
    refine ⟨.value (.pointer (some ⟨w.heap.size, 0, none⟩)), _, κ, _, ?_, .inl rfl, ?_, q3, q4⟩
    · simp only [execOp, Instr.box, newVar, Sem.run_bind, Result.andThen_ok, q1, Sem.run_pure]
    · have := VR.ptr (ι := κ) h.length 0 _ q2; simpa using this
  case buildSlice t n ps =>
    simp only [Option.bind_eq_some_iff] at hs
    obtain ⟨d, hd, hs⟩ := hs
    have hu := T.underlying hd w
    split at hs
    · rename_i e hk
      rw [hk] at hu
      simp only [Option.bind_eq_some_iff, Option.ite_none_right_eq_some, Option.map_eq_some_iff, Prod.mk.injEq] at hs
      obtain ⟨d', hd', l, hl, ⟨h1, h2⟩, cs, hcs, rfl, rfl⟩ := hs
      obtain ⟨z, hz, hzc⟩ := T.zeroValue hd' w
      obtain ⟨_, _, _, _, _, _, _, hzl, hzcl⟩ := T.inf e d' hd'
      have hzs : z.cells.size = d'.size := by rw [← hzl, ← hzc]; simp
      have r0 := R.evps (γ := true) rfl hl
      -- the zero cells
      have hzero : ∃ z0 : Array Value, (if n * d'.size = 0 then #[] else z.cells) = z0 ∧ ((Array.range (n * d'.size)).map (fun i => z0[i % z0.size]!)).toList = zerosN d'.zero n := by
        by_cases h0 : n * d'.size = 0
        · refine ⟨#[], if_pos h0, ?_⟩
          have : (zerosN d'.zero n).length = 0 := by rw [zerosN_length, hzl]; exact h0
          rw [h0]; simp
          exact List.eq_nil_of_length_eq_zero this
        · refine ⟨z.cells, if_neg h0, ?_⟩
          rw [← hzc, ← hzs]; exact zero_row z.cells n
      obtain ⟨z0, hz0, hz1⟩ := hzero
      obtain ⟨l', hl', hr'⟩ := fill_sound (place' := fun i => some (i * d'.size, d'.size)) (fun i q hq => hq) r0 (cs' := (Array.range (n * d'.size)).map (fun i => z0[i % z0.size]!)) (by rw [hz1]; exact VRs.closed (zerosN_closed hzcl n)) hcs
      obtain ⟨κ, q1, q2, q3, q4⟩ := does_newRow (P := P) H hr' e 0
      have eps : ((ps.map fun (i, x) => (i, a.eval x))).toList = List.map (fun p : Nat × Operand => (p.fst, a.eval p.snd)) ps.toList := by simp
      refine ⟨.value (.slice (some ⟨w.heap.size, 0, none⟩) n n), _, κ, _, ?_, .inl rfl, ?_, q3, q4⟩
      · simp only [execOp, Instr.buildSlice, Sem.run_bind, hu, Result.andThen_ok, T.sizeOf hd', eps]
        rw [if_neg (by omega), zero_if hz, hz0]
        simp only [Result.andThen_ok, hl', Sem.run_bind, q1, Sem.run_pure]
      · have := VR.slice (ι := κ) h.length 0 n n _ q2 (by unfold OPEN; omega); simpa using this
    · simp at hs
  case makeSlice t lo co =>
    simp only [Option.bind_eq_some_iff] at hs
    obtain ⟨d, hd, hs⟩ := hs
    have hu := T.underlying hd w
    split at hs
    · rename_i e hk
      rw [hk] at hu
      simp only [Option.bind_eq_some_iff] at hs
      obtain ⟨d', hd', lv, hl, cv, hc, hs⟩ := hs
      split at hs
      · rename_i k1 n
        split at hs
        · rename_i k2 m
          simp only [Option.ite_none_right_eq_some, Option.some.injEq, Prod.mk.injEq] at hs
          obtain ⟨⟨h0, rfl, h1, h2⟩, rfl, rfl⟩ := hs
          have el := (R.ev rfl hl).int_inv
          have ec := (R.ev rfl hc).int_inv
          obtain ⟨inf, zv, hi, hi1, hi2, hi3, hi4⟩ := T.typeInfo hd' w
          obtain ⟨z, hz, hzc⟩ := T.zeroValue hd' w
          obtain ⟨_, _, _, _, _, _, _, hzl, hzcl⟩ := T.inf e d' hd'
          have hzs : z.cells.size = d'.size := by rw [← hzl, ← hzc]; simp
          have hw : IntKind.i64.wrap n = n := by simp only [IntKind.wrap, IntKind.bits, IntKind.signed]; simp; omega
          have hzero : ∃ z0 : Array Value, (if n.toNat * d'.size = 0 then #[] else z.cells) = z0 ∧ ((Array.range (n.toNat * d'.size)).map (fun i => z0[i % z0.size]!)).toList = zerosN d'.zero n.toNat := by
            by_cases hn0 : n.toNat * d'.size = 0
            · refine ⟨#[], if_pos hn0, ?_⟩
              have : (zerosN d'.zero n.toNat).length = 0 := by rw [zerosN_length, hzl]; exact hn0
              rw [hn0]; simp
              exact List.eq_nil_of_length_eq_zero this
            · refine ⟨z.cells, if_neg hn0, ?_⟩
              rw [← hzc, ← hzs]; exact zero_row z.cells n.toNat
          obtain ⟨z0, hz0, hz1⟩ := hzero
          obtain ⟨κ, q1, q2, q3, q4⟩ := does_newRow (P := P) H (cs := zerosN d'.zero n.toNat) (c := (Array.range (n.toNat * d'.size)).map (fun i => z0[i % z0.size]!)) (by rw [hz1]; exact VRs.closed (zerosN_closed hzcl n.toNat)) e 0
          refine ⟨.value (.slice (some ⟨w.heap.size, 0, none⟩) n.toNat n.toNat), _, κ, _, ?_, .inl rfl, ?_, q3, q4⟩
          · have hbig : ¬ ((decide (n < 0) || decide ((inf.bytes : Int) * n > 2 ^ 48)) = true ∨ n < 0 ∨ n > n) := by
              rw [hi2, Int.mul_comm]
              simp; omega
            simp only [execOp, Instr.makeSlice, Sem.run_bind, hu, Result.andThen_ok, el, ec, asInt, asIntOf, Sem.run_pure, hi, hw]
            rw [if_neg (by simpa using hbig)]
            simp only [Sem.run_bind, run_askRoom, Result.andThen_ok, T.sizeOf hd']
            rw [zero_if hz, hz0]
            simp only [Sem.run_bind, Result.andThen_ok, q1, Sem.run_pure]
          · have := VR.slice (ι := κ) h.length 0 n.toNat n.toNat _ q2 (by unfold OPEN; omega); simpa using this
        · simp at hs
      · simp at hs
    · simp at hs
  case convert src t x =>
    simp only [Option.bind_eq_some_iff] at hs
    obtain ⟨ds, hds, d, hd, hs⟩ := hs
    have hu := T.underlying hd w
    split at hs
    · rename_i e hk
      rw [hk] at hu
      simp only [Option.bind_eq_some_iff] at hs
      obtain ⟨d', hd', hs⟩ := hs
      have hue := T.underlying hd' w
      split at hs
      · rename_i hk8
        rw [hk8] at hue
        simp only [Option.bind_eq_some_iff] at hs
        obtain ⟨xv, hx, hs⟩ := hs
        split at hs
        · rename_i b
          simp at hs; obtain ⟨rfl, rfl⟩ := hs
          have ex := (R.ev rfl hx).string_inv
          obtain ⟨z, κ, w', q1, q2, q3, q4⟩ := does_bytes (P := P) H b e
          refine ⟨.value z, z, κ, w', ?_, .inl rfl, q2, q3, q4⟩
          simp only [execOp, Go.convert, Sem.run_bind, hu, T.underlying hds w, Result.andThen_ok, ex, hue, q1, Sem.run_pure]
        · rename_i i k n c
          simp only [Option.ite_none_right_eq_some, Option.map_eq_some_iff, Prod.mk.injEq] at hs
          obtain ⟨⟨rfl, hn0⟩, g, hl, rfl, rfl⟩ := hs
          have hv := R.ev (γ := true) rfl hx
          have key : ∀ (q : Place) (o c' : Nat), ι[i]? = some q → a.eval x = .slice (some ⟨q.block, o, none⟩) n c' → Does P ι h w (execOp a.eval ⟨dst, .convert src src x, type, pos, after, guard⟩) (.slice (some ⟨i, k, none⟩) n c) g := by
            intro q o c' hq he
            rw [he] at hv
            have hus := T.underlying hds w
            rw [hd] at hds
            simp only [Option.some.injEq] at hds
            subst hds
            cases hsh : w.shape? q.block with
            | none =>
              obtain ⟨r1, r2⟩ := H.lend hq hl 0 0
              have e0 : w.freeze ⟨q.block, 0, none⟩ 0 = w := by simp [World.freeze]
              rw [e0] at r1 r2
              refine ⟨.value _, _, ι, w, ?_, .inl rfl, hv, r1, r2⟩
              simp only [execOp, Go.convert, Sem.run_bind, hu, Result.andThen_ok, he, hue, beq_self_eq_true, markStringish, run_shape, hsh, Sem.run_pure]
            | some s =>
              obtain ⟨s1, s2⟩ := s
              obtain ⟨r1, r2⟩ := H.lend hq hl s2 1
              refine ⟨.value _, _, ι, _, ?_, .inl rfl, hv, r1, r2⟩
              simp only [execOp, Go.convert, Sem.run_bind, hu, Result.andThen_ok, he, hue, beq_self_eq_true, markStringish, run_shape, hsh, Sem.run_pure]
              rfl
          rcases hv.slice_inv with ⟨i', k', q, he, hq, _, hy⟩ | ⟨i', k', q, c', he, _, hq, _, _, hy⟩ | ⟨b', _, rfl, _⟩ | ⟨_, rfl, _⟩
          · cases he
            exact key q _ _ hq hy
          · cases he
            exact key q _ _ hq hy
          · exact absurd rfl hn0
          · exact absurd rfl hn0
        · simp at hs
      · simp at hs
    · simp at hs
  case store t x y =>
    simp only [Option.bind_eq_some_iff, Option.map_eq_some_iff, Prod.mk.injEq] at hs
    obtain ⟨d, hd, xv, hx, yv, hy, h2, hst, rfl, rfl⟩ := hs
    obtain ⟨w', q1, q2, q3⟩ := does_store T H hd hst (R.ev rfl hx) (R.ev rfl hy)
    exact ⟨.skip, undef, ι, w', by simp [execOp, q1], .inr ⟨rfl, rfl⟩, undef_VR, q2, q3⟩
  case call c =>
    obtain ⟨cl, args, ats⟩ := c
    simp only at hs
    split at hs
    · -- append
      simp only [Option.bind_eq_some_iff] at hs
      obtain ⟨t0, hat, d0, ht0, hs⟩ := hs
      split at hs
      · rename_i e hk
        simp only [Option.bind_eq_some_iff] at hs
        obtain ⟨d, hd, l, hl, hs⟩ := hs
        have r := R.evs (γ := true) rfl hl
        split at hs
        · rename_i x y rest
          obtain ⟨x', y', r', he, hx, hy⟩ := two_args r
          split at hs
          · rename_i t1 hat1
            simp only [Option.bind_eq_some_iff] at hs
            obtain ⟨d1, ht1, hs⟩ := hs
            split at hs
            · simp at hs
            · rename_i hni
              simp only [Option.bind_eq_some_iff] at hs
              obtain ⟨ny, hny, hs⟩ := hs
              split at hs
              · rename_i k ni
                simp only [Option.bind_eq_some_iff, Option.ite_none_right_eq_some] at hs
                obtain ⟨row, hrow, hrl, hs⟩ := hs
                obtain ⟨n, rfl⟩ := lenC_nat hny
                simp only [Int.toNat_natCast] at hrl hs
                obtain ⟨z, κ, w', q1, q2, q3, q4⟩ := does_append T H ht0 hk hd ht1 (fun k hk' => hni k hk') hat hat1 (rest := r') hny hrow hrl hs hx hy type
                refine ⟨.value z, z, κ, w', ?_, .inl rfl, q2, q3, q4⟩
                have ea : args.map a.eval = (x' :: y' :: r').toArray := by apply Array.ext'; simp [he]
                simp only [execOp, resolve, invoke, builtin, Sem.run_bind, Sem.run_pure, Result.andThen_ok, ea, q1]
              · simp at hs
          · simp at hs
        · simp at hs
      · simp at hs
    · -- copy
      simp only [Option.bind_eq_some_iff] at hs
      obtain ⟨t0, hat, d0, ht0, hs⟩ := hs
      split at hs
      · rename_i e hk
        simp only [Option.bind_eq_some_iff] at hs
        obtain ⟨d, hd, l, hl, hs⟩ := hs
        have r := R.evs (γ := true) rfl hl
        split at hs
        · rename_i x y rest
          obtain ⟨x', y', r', he, hx, hy⟩ := two_args r
          obtain ⟨w', q1, q2, q3, q4⟩ := does_copy T H ht0 hk hd hat (rest := r') hs hx hy type
          refine ⟨.value v, v, ι, w', ?_, .inl rfl, .same _ q2, q3, q4⟩
          have ea : args.map a.eval = (x' :: y' :: r').toArray := by apply Array.ext'; simp [he]
          simp only [execOp, resolve, invoke, builtin, Sem.run_bind, Sem.run_pure, Result.andThen_ok, ea, q1]
        · simp at hs
      · simp at hs
    · simp at hs
end Go.Sx
end
section
/-
  Sx, part L: rows of operations, code, calls. Own words; no condition.
-/
namespace Go.Sx
open Go

/-- A function that has a body. -/
def FnOk (P : Program) (f : FuncId) : Prop := ∃ fn, P.funcs[f]? = some fn ∧ fn.body.isNone = false ∧ (fn.name == "runtime.NumGoroutine") = false
/-- Called with args in a heap h, the function returns, and R holds of what it returns, and of the heap then. -/
def Fn (P : Program) (f : FuncId) (args : List Value) (h : Heap) (R : Value → Heap → Prop) : Prop :=
  FnOk P f ∧ ∀ ι w args', RelH ι h w → VRs ι args args' → Calls P f args'.toArray w fun e w' => ∃ κ v y h', R v h' ∧ e = .returned y ∧ VR κ v y ∧ RelH κ h' w' ∧ Grow ι h w κ h' w'
theorem Fn.mono {P : Program} {f : FuncId} {args : List Value} {h : Heap} {R R' : Value → Heap → Prop} (hf : Fn P f args h R) (hr : ∀ v h', R v h' → R' v h') : Fn P f args h R' :=
  ⟨hf.1, fun ι w args' H r => Calls.mono (hf.2 ι w args' H r) fun _ _ ⟨κ, v, y, h', q, rest⟩ => ⟨κ, v, y, h', hr v h' q, rest⟩⟩
/-- A call, and what is done with its answer. -/
def CallK (P : Program) (f : FuncId) (args : List Value) (h : Heap) (dst : Option Tmp) (tm : List (Nat × Ent)) (K : St → Prop) : Prop :=
  Fn P f args h fun v h' => K ⟨put dst (.v v) tm, h'⟩
theorem CallK.of {P : Program} {f : FuncId} {args : List Value} {h : Heap} {dst : Option Tmp} {tm : List (Nat × Ent)} {K : St → Prop} {R : Value → Heap → Prop} (hf : Fn P f args h R) (hk : ∀ v h', R v h' → K ⟨put dst (.v v) tm, h'⟩) : CallK P f args h dst tm K :=
  hf.mono hk
variable (P : Program) (ty : TypeId → Option TD) (N : Nat)
noncomputable section
/-- An operation. -/
def exec (o : Oper) (K : St → Prop) (s : St) : Prop :=
  match callee s.tm o.op with
  | some (f, args) => CallK P f args s.h o.dst s.tm K
  | none => match semA ty o.op s.tm s.h with
    | some (v, h') => K ⟨put o.dst (.v v) s.tm, h'⟩
    | none => match semP ty true o.op s.tm s.h with
      | some v => K ⟨put o.dst (.v v) s.tm, s.h⟩
      | none => False
def dstOk (o : Oper) : Bool :=
  match o.dst with
  | some t => decide (t < N)
  | none => true
/-- An operation, if its guard is so. -/
def guarded (γ : Bool) (o : Oper) (K : St → Prop) (s : St) : Prop :=
  match isP o.op with
  | true => match semP ty γ o.op s.tm s.h with
    | some v => K ⟨put o.dst (.g γ v) s.tm, s.h⟩
    | none => if γ = true then False else K ⟨put o.dst (.v undef) s.tm, s.h⟩
  | false => match γ with
    | true => exec P ty o K s
    | false => K ⟨put o.dst (.v undef) s.tm, s.h⟩
def stepC (all : List Oper) (o : Oper) (K : St → Prop) (s : St) : Prop :=
  match dstOk N o with
  | true => match o.guard with
    | none => exec P ty o K s
    | some g => match guardC all s.tm g with
      | some γ => guarded P ty γ o K s
      | none => False
  | false => False
/-- Operations, one behind the other. -/
def cops (all : List Oper) : List Oper → (St → Prop) → St → Prop
  | [], K, s => K s
  | o :: os, K, s => stepC P ty N all o (cops all os K) s
end
variable {P : Program} {ty : TypeId → Option TD} {N : Nat}

/-- What an act and a world are, after a state. -/
def Like (ι : List Place) (s : St) (N : Nat) (a : Act) (w : World) : Prop := RelH ι s.h w ∧ RelT ι s.tm N a
/-- From a state to one of which K holds. -/
def Goes (ι : List Place) (h : Heap) (w : World) (N : Nat) (K : St → Prop) (a' : Act) (w' : World) : Prop :=
  ∃ κ s', K s' ∧ Like κ s' N a' w' ∧ Grow ι h w κ s'.h w'
theorem dstOk_lt {o : Oper} (h : dstOk N o = true) : ∀ t, o.dst = some t → t < N := by
  intro t ht
  unfold dstOk at h
  rw [ht] at h
  simpa using h
theorem callFunc_run {f : FuncId} (hf : FnOk P f) (args : Array Value) (w : World) : (callFunc f args).run P w = .ok (.enter f args) w := by
  obtain ⟨fn, h1, h2, h3⟩ := hf
  simp only [callFunc, Sem.run_bind, run_program, Result.andThen_ok, h1]
  rw [if_neg (by rw [h3]; decide), if_neg (by rw [h2]; decide)]
  rfl
theorem callee_run {ι : List Place} {tm : List (Nat × Ent)} {a : Act} (R : RelT ι tm N a) (o : Oper) {f : FuncId} {args : List Value} (hc : callee tm o.op = some (f, args)) (hf : FnOk P f) (w : World) :
    ∃ args' : List Value, VRs ι args args' ∧ (execOp a.eval o).run P w = .ok (.enter f args'.toArray) w := by
  obtain ⟨dst, op, type, pos, after, guard⟩ := o
  cases op <;> simp only [callee, reduceCtorEq] at hc
  case call c =>
    obtain ⟨cl, cargs, ats⟩ := c
    simp only at hc
    split at hc
    · rename_i fo
      simp only [Option.bind_eq_some_iff] at hc
      obtain ⟨fv, hfv, l, hl, hc⟩ := hc
      split at hc
      · rename_i fn first captured
        split at hc
        · rename_i g
          simp at hc
          obtain ⟨rfl, rfl⟩ := hc
          obtain ⟨ys, vs, he, r1, r2⟩ := (R.ev rfl hfv).func_inv
          have r := R.evs (γ := true) rfl hl
          refine ⟨ys.toList ++ cargs.toList.map a.eval ++ vs.toList, by simpa [List.append_assoc] using (r1.append r).append r2, ?_⟩
          have ea : ys ++ cargs.map a.eval ++ vs = (ys.toList ++ cargs.toList.map a.eval ++ vs.toList).toArray := by apply Array.ext'; simp
          simp only [execOp, resolve, Deferred.ofValue, he, Sem.run_bind, Sem.run_pure, Result.andThen_ok, invoke, ea, callFunc_run hf]
        · simp at hc
      · simp at hc
    · simp at hc
theorem exec_sound (T : TyOk P ty) {ι : List Place} {s : St} {a : Act} {w : World} (L : Like ι s N a w) {o : Oper} (hd : dstOk N o = true) {K : St → Prop} (h : exec P ty o K s) (Q : Exit → Act → World → Prop) :
    o.wp P a w (Goes ι s.h w N K) Q := by
  have hlt := dstOk_lt hd
  unfold exec at h
  unfold Oper.wp
  split at h
  · rename_i f args hc
    obtain ⟨hf, hcalls⟩ := h
    obtain ⟨args', r, hrun⟩ := callee_run L.2 o hc hf w
    rw [hrun]
    refine Calls.mono (hcalls ι w args' L.1 r) ?_
    rintro e w' ⟨κ, v, y, h', hK, rfl, hv, hR, hG⟩
    exact ⟨κ, _, hK, ⟨hR, (L.2.mono hG.pre).put hlt hv⟩, hG⟩
  · split at h
    · rename_i v h' hs
      obtain ⟨nx, y, κ, w', hrun, hnx, hv, hR, hG⟩ := semA_sound T L.2 L.1 o hs
      rw [hrun]
      rcases hnx with rfl | ⟨rfl, rfl⟩
      · exact ⟨κ, _, h, ⟨hR, (L.2.mono hG.pre).put hlt hv⟩, hG⟩
      · exact ⟨κ, _, h, ⟨hR, (L.2.mono hG.pre).put hlt hv⟩, hG⟩
    · split at h
      · rename_i v hs
        obtain ⟨y, hrun, hv⟩ := semP_sound T rfl L.2 L.1 o hs
        rw [hrun]
        exact ⟨ι, _, h, ⟨L.1, L.2.put hlt hv⟩, .refl _ _ _⟩
      · exact h.elim
theorem guardC_sound {ι : List Place} {tm : List (Nat × Ent)} {a : Act} (R : RelT ι tm N a) {all : List Oper} {ops : Array Oper} (hall : ops.toList = all) {g : Nat × Bool} {γ : Bool} (h : guardC all tm g = some γ) {o : Oper} (hg : o.guard = some g) :
    Region.wanted o (yielded ops a.tmps) = γ := by
  simp only [guardC, Option.bind_eq_some_iff] at h
  obtain ⟨t, ⟨oj, hoj, ht⟩, e, he, h⟩ := h
  obtain ⟨y, hy, hr⟩ := R.2.2 t e he
  obtain ⟨j, want⟩ := g
  have hoj' : ops[j]? = some oj := by rw [← Array.getElem?_toList, hall]; exact hoj
  unfold Region.wanted
  rw [hg]
  simp only
  unfold yielded
  rw [hoj']
  simp only [Option.bind_some, ht, hy]
  cases e with
  | v x =>
    simp only at h
    split at h
    · rename_i b
      simp at h; subst h
      obtain rfl := VR.bool_inv hr
      simp
    · simp at h
  | g β x =>
    simp only at h
    split at h
    · rename_i b
      simp at h; subst h
      cases β with
      | true =>
        simp only [ER, if_true] at hr
        obtain rfl := VR.bool_inv hr
        simp
      | false =>
        simp only [ER, Bool.false_eq_true, if_false] at hr
        subst hr
        simp [undef]
    · simp at h
theorem step_sound (T : TyOk P ty) {ι : List Place} {s : St} {a : Act} {w : World} (L : Like ι s N a w) {all : List Oper} {ops : Array Oper} (hall : ops.toList = all) {o : Oper} {K : St → Prop} (h : stepC P ty N all o K s) (Q : Exit → Act → World → Prop) :
    if Region.wanted o (yielded ops a.tmps) then o.wp P a w (Goes ι s.h w N K) Q else Goes ι s.h w N K (a.put o.dst undef) w := by
  unfold stepC at h
  split at h
  · rename_i hd
    have hlt := dstOk_lt hd
    have skip : K ⟨put o.dst (.v undef) s.tm, s.h⟩ → Goes ι s.h w N K (a.put o.dst undef) w := fun hk =>
      ⟨ι, _, hk, ⟨L.1, L.2.put hlt undef_VR⟩, .refl _ _ _⟩
    split at h
    · rename_i hg
      rw [if_pos (by simp [Region.wanted, hg])]
      exact exec_sound T L hd h Q
    · rename_i g hg
      split at h
      · rename_i γ hγ
        have hw := guardC_sound L.2 hall hγ hg
        rw [hw]
        unfold guarded at h
        split at h
        · split at h
          · rename_i v hs
            cases γ with
            | true =>
              rw [if_pos rfl]
              obtain ⟨y, hrun, hv⟩ := semP_sound T rfl L.2 L.1 o hs
              unfold Oper.wp
              rw [hrun]
              exact ⟨ι, _, h, ⟨L.1, L.2.put hlt (by simpa [ER] using hv)⟩, .refl _ _ _⟩
            | false =>
              rw [if_neg (by decide)]
              exact ⟨ι, _, h, ⟨L.1, L.2.put hlt (by simp [ER])⟩, .refl _ _ _⟩
          · cases γ with
            | true => simp at h
            | false => rw [if_neg (by decide)]; exact skip (by simpa using h)
        · split at h
          · rw [if_pos rfl]; exact exec_sound T L hd h Q
          · rw [if_neg (by decide)]; exact skip h
      · exact h.elim
  · exact h.elim
theorem Goes.trans {ι : List Place} {h : Heap} {w : World} {κ : List Place} {h' : Heap} {w' : World} (g : Grow ι h w κ h' w') {K : St → Prop} {a'' : Act} {w'' : World} (q : Goes κ h' w' N K a'' w'') : Goes ι h w N K a'' w'' :=
  let ⟨μ, s, k, l, g'⟩ := q; ⟨μ, s, k, l, g.trans g'⟩
theorem cops_sound (T : TyOk P ty) {all : List Oper} {ops : Array Oper} (hall : ops.toList = all) {Q : Exit → Act → World → Prop} : ∀ (l : List Oper) {K : St → Prop} {s : St} {ι : List Place} {a : Act} {w : World}, Like ι s N a w → cops P ty N all l K s →
    (∀ a' w', Goes ι s.h w N K a' w' → Q .normal a' w') → wpList P ops Q l a w
  | [], K, s, ι, a, w, L, h, hQ => hQ a w ⟨ι, s, h, L, .refl _ _ _⟩
  | o :: os, K, s, ι, a, w, L, h, hQ => by
    refine wpList_step fun K' hK' => ?_
    have hs := step_sound T L hall h Q
    have next : ∀ a' w', Goes ι s.h w N (cops P ty N all os K) a' w' → K' a' w' := by
      rintro a' w' ⟨κ, s', hk, L', g⟩
      exact hK' _ _ (cops_sound T hall os L' hk fun a'' w'' q => hQ a'' w'' (Goes.trans g q))
    split
    · rename_i hw; rw [if_pos hw] at hs; exact Oper.wp_mono next hs
    · rename_i hw; rw [if_neg hw] at hs; exact next _ _ hs
/-- Code: from a state, by an exit, to one of which Q holds. -/
def CW (P : Program) (N : Nat) (c : Code) (s : St) (Q : Exit → St → Prop) : Prop :=
  ∀ ι a w, Like ι s N a w → c.wp P (fun e => Goes ι s.h w N (Q e)) a w
theorem CW.mono {c : Code} {s : St} {Q Q' : Exit → St → Prop} (h : CW P N c s Q) (hq : ∀ e s, Q e s → Q' e s) : CW P N c s Q' :=
  fun ι a w L => Code.wp_mono (fun e _ _ ⟨κ, s', q, rest⟩ => ⟨κ, s', hq e s' q, rest⟩) (h ι a w L)
theorem cw_region (T : TyOk P ty) {id : Nat} {ops : Array Oper} {s : St} {Q : Exit → St → Prop} (h : cops P ty N ops.toList ops.toList (Q .normal) s) : CW P N (.region id ops false) s Q :=
  fun _ _ _ L => wp_region_list (cops_sound T rfl _ L h fun _ _ q => q)
theorem cw_skip {s : St} {Q : Exit → St → Prop} (h : Q .normal s) : CW P N .skip s Q := fun ι _ _ L => wp_skip ⟨ι, s, h, L, .refl _ _ _⟩
theorem cw_ret {s : St} {Q : Exit → St → Prop} (h : Q .ret s) : CW P N .ret s Q := fun ι _ _ L => wp_ret ⟨ι, s, h, L, .refl _ _ _⟩
theorem cw_exit {id : Nat} {s : St} {Q : Exit → St → Prop} (h : Q (.exit id) s) : CW P N (.exit id) s Q := fun ι _ _ L => wp_exit ⟨ι, s, h, L, .refl _ _ _⟩
/-- What follows, if nothing is left. -/
def thenC (K : St → Prop) (Q : Exit → St → Prop) : Exit → St → Prop
  | .normal, s => K s
  | e, s => Q e s
theorem cw_seq {a b : Code} {s : St} {Q : Exit → St → Prop} (h : ∀ K : St → Prop, (∀ s, CW P N b s Q → K s) → CW P N a s (thenC K Q)) : CW P N (.seq a b) s Q := by
  intro ι ac w L
  refine wp_seq (Code.wp_mono ?_ (h (fun s => CW P N b s Q) (fun _ h => h) ι ac w L))
  rintro e a' w' ⟨κ, s', q, L', g⟩
  cases e with
  | normal => exact Code.wp_mono (fun e _ _ q' => Goes.trans g q') (q κ a' w' L')
  | _ => exact ⟨κ, s', q, L', g⟩
theorem cw_cond {c : Operand} {x y : Code} {s : St} {Q : Exit → St → Prop} {β : Bool} (hc : ev true s.tm c = some (.bool β)) (hx : β = true → CW P N x s Q) (hy : β = false → CW P N y s Q) : CW P N (.cond c x y) s Q := by
  intro ι a w L
  have he := (L.2.ev rfl hc).bool_inv
  exact wp_cond_split he (fun h => hx h ι a w L) (fun h => hy h ι a w L)
/-- Out of a block. -/
def blockC (id : Nat) (Q : Exit → St → Prop) : Exit → St → Prop
  | .exit id', s => if id' = id then Q .normal s else Q (.exit id') s
  | e, s => Q e s
theorem cw_block {id : Nat} {c : Code} {s : St} {Q : Exit → St → Prop} (h : CW P N c s (blockC id Q)) : CW P N (.block id c) s Q := by
  intro ι a w L
  refine wp_block (Code.wp_mono ?_ (h ι a w L))
  rintro e a' w' ⟨κ, s', q, L', g⟩
  cases e with
  | exit id' =>
    simp only [blockC] at q
    simp only [Exit.inBlock]
    split
    · rename_i he; rw [if_pos he] at q; exact ⟨κ, s', q, L', g⟩
    · rename_i he; rw [if_neg he] at q; exact ⟨κ, s', q, L', g⟩
  | _ => exact ⟨κ, s', q, L', g⟩
theorem cw_scope {c : Code} {s : St} {Q : Exit → St → Prop} (h : CW P N c s fun e s => match e with | .goto _ => False | e => Q e s) : CW P N (.scope c) s Q := by
  intro ι a w L
  refine wp_scope_straight (Code.wp_mono ?_ (h ι a w L))
  rintro e a' w' ⟨κ, s', q, L', g⟩
  cases e with
  | goto l => exact q.elim
  | _ => exact ⟨κ, s', q, L', g⟩
theorem cw_label {l : Nat} {s : St} {Q : Exit → St → Prop} (h : Q .normal s) : CW P N (.label l) s Q := fun ι _ _ L => wp_label ⟨ι, s, h, L, .refl _ _ _⟩
/-- Numbers of blocks below a bound. -/
inductive Scoped (n : Nat) : Value → Prop
  | same (v : Value) : closed1 v = true → Scoped n v
  | ptr (i k : Nat) : i < n → Scoped n (.pointer (some ⟨i, k, none⟩))
  | slice (i k l c : Nat) : i < n → Scoped n (.slice (some ⟨i, k, none⟩) l c)
  | iface (t : TypeId) (x : Value) : Scoped n x → Scoped n (.iface t x)
  | agg (xs : Array Value) : (∀ x ∈ xs.toList, Scoped n x) → Scoped n (.agg xs)
  | tuple (xs : Array Value) : (∀ x ∈ xs.toList, Scoped n x) → Scoped n (.tuple xs)
  | func (fn : Go.Fn) (xs us : Array Value) : (∀ x ∈ xs.toList, Scoped n x) → (∀ x ∈ us.toList, Scoped n x) → Scoped n (.func fn xs us)
  | map (i : Nat) : i < n → Scoped n (.map (some i))
theorem VR.cut {ι : List Place} {n : Nat} {x y : Value} (r : VR ι x y) (s : Scoped n x) : VR (ι.take n) x y := by
  induction r with
  | same v h => exact .same v h
  | ptr i k p hp =>
    cases s with
    | same _ h => simp [closed1] at h
    | ptr _ _ h => exact .ptr i k p (by rw [List.getElem?_take_of_lt h]; exact hp)
  | slice i k l c p hp hc =>
    cases s with
    | same _ h => simp [closed1] at h
    | slice _ _ _ _ h => exact .slice i k l c p (by rw [List.getElem?_take_of_lt h]; exact hp) hc
  | sliceO i k l c p hp h1 h2 =>
    cases s with
    | same _ h => simp [closed1] at h
    | slice _ _ _ _ h => exact .sliceO i k l c p (by rw [List.getElem?_take_of_lt h]; exact hp) h1 h2
  | sliceE i k p b hp =>
    cases s with
    | same _ h => simp [closed1] at h
    | slice _ _ _ _ h => exact .sliceE i k p b (by rw [List.getElem?_take_of_lt h]; exact hp)
  | sliceN i k p hp =>
    cases s with
    | same _ h => simp [closed1] at h
    | slice _ _ _ _ h => exact .sliceN i k p (by rw [List.getElem?_take_of_lt h]; exact hp)
  | sliceZ i k p b hp =>
    cases s with
    | same _ h => simp [closed1] at h
    | slice _ _ _ _ h => exact .sliceZ i k p b (by rw [List.getElem?_take_of_lt h]; exact hp)
  | iface t x y _ ih =>
    cases s with
    | same _ h => simp [closed1] at h
    | iface _ _ h => exact .iface t x y (ih h)
  | agg xs ys hs _ ih =>
    cases s with
    | same _ h => simp [closed1] at h
    | agg _ h => exact .agg xs ys hs fun k x y hx hy => ih k x y hx hy (h x (Array.mem_toList_iff.2 (Array.mem_of_getElem? hx)))
  | tuple xs ys hs _ ih =>
    cases s with
    | same _ h => simp [closed1] at h
    | tuple _ h => exact .tuple xs ys hs fun k x y hx hy => ih k x y hx hy (h x (Array.mem_toList_iff.2 (Array.mem_of_getElem? hx)))
  | func fn xs ys us vs h1 _ h2 _ i1 i2 =>
    cases s with
    | same _ h => simp [closed1] at h
    | func _ _ _ a b => exact .func fn xs ys us vs h1 (fun k x y hx hy => i1 k x y hx hy (a x (Array.mem_toList_iff.2 (Array.mem_of_getElem? hx)))) h2 (fun k x y hx hy => i2 k x y hx hy (b x (Array.mem_toList_iff.2 (Array.mem_of_getElem? hx))))
  | map i p hp =>
    cases s with
    | same _ h => simp [closed1] at h
    | map _ h => exact .map i p (by rw [List.getElem?_take_of_lt h]; exact hp)
theorem VR.within {ι : List Place} {x y : Value} (r : VR ι x y) : Scoped ι.length x := by
  have hg : ∀ {i : Nat} {p : Place}, ι[i]? = some p → i < ι.length := fun h => (List.getElem?_eq_some_iff.1 h).1
  induction r with
  | same v h => exact .same v h
  | ptr i k p hp => exact .ptr i k (hg hp)
  | slice i k l c p hp _ => exact .slice i k l c (hg hp)
  | sliceO i k l c p hp _ _ => exact .slice i k l _ (hg hp)
  | sliceE i k p b hp => exact .slice i k 0 _ (hg hp)
  | sliceN i k p hp => exact .slice i k 0 _ (hg hp)
  | sliceZ i k p b hp => exact .slice i k 0 _ (hg hp)
  | iface t x y _ ih => exact .iface t x ih
  | agg xs ys hs _ ih =>
    refine .agg xs fun x hx => ?_
    obtain ⟨k, hk, he⟩ := List.getElem_of_mem hx
    have hk' : k < xs.size := by simpa using hk
    exact ih k x (ys[k]'(by omega)) (by rw [Array.getElem?_eq_getElem hk']; rw [← he]; simp) (by simp)
  | tuple xs ys hs _ ih =>
    refine .tuple xs fun x hx => ?_
    obtain ⟨k, hk, he⟩ := List.getElem_of_mem hx
    have hk' : k < xs.size := by simpa using hk
    exact ih k x (ys[k]'(by omega)) (by rw [Array.getElem?_eq_getElem hk']; rw [← he]; simp) (by simp)
  | func fn xs ys us vs h1 _ h2 _ i1 i2 =>
    refine .func fn xs us (fun x hx => ?_) fun x hx => ?_
    · obtain ⟨k, hk, he⟩ := List.getElem_of_mem hx
      have hk' : k < xs.size := by simpa using hk
      exact i1 k x (ys[k]'(by omega)) (by rw [Array.getElem?_eq_getElem hk']; rw [← he]; simp) (by simp)
    · obtain ⟨k, hk, he⟩ := List.getElem_of_mem hx
      have hk' : k < us.size := by simpa using hk
      exact i2 k x (vs[k]'(by omega)) (by rw [Array.getElem?_eq_getElem hk']; rw [← he]; simp) (by simp)
  | map i p hp => exact .map i (hg hp)
def ScopedE (n : Nat) : Ent → Prop
  | .v x => Scoped n x
  | .g _ x => Scoped n x
def ScopedB (n : Nat) : Blk → Prop
  | .cells cs _ _ => ∀ x ∈ cs, Scoped n x
  | .map es _ => ∀ e ∈ es, Scoped n e.key ∧ Scoped n e.val
  | .void _ => True
/-- A state of which less is said: fewer slots, fewer blocks. -/
structure Weak (s0 s : St) : Prop where
  len : s0.h.length ≤ s.h.length
  tm : ∀ t e, lk s0.tm t = some e → lk s.tm t = some e ∧ (s0.h.length = s.h.length ∨ ScopedE s0.h.length e)
  heap : ∀ i b, hget s0.h i = some b → hget s.h i = some b ∧ (s0.h.length = s.h.length ∨ ScopedB s0.h.length b)
theorem EsR.cut {ι : List Place} {n : Nat} : ∀ {xs ys : List MapEntry}, EsR ι xs ys → (∀ e ∈ xs, Scoped n e.key ∧ Scoped n e.val) → EsR (ι.take n) xs ys
  | [], [], _, _ => trivial
  | x :: xs, y :: ys, ⟨a, b, c, d⟩, h => ⟨a.cut (h x (by simp)).1, b.cut (h x (by simp)).2, c, EsR.cut d fun e he => h e (by simp [he])⟩
  | [], _ :: _, h, _ => h.elim
  | _ :: _, [], h, _ => h.elim
theorem Weak.sound {s0 s : St} (k : Weak s0 s) {κ : List Place} {a : Act} {w : World} (L : Like κ s N a w) : Like (κ.take s0.h.length) s0 N a w ∧ ∀ ι h w0, Grow ι h w0 κ s.h w → h.length ≤ s0.h.length → ι.length = h.length → Grow ι h w0 (κ.take s0.h.length) s0.h w := by
  have hlen := L.1.len
  have hcut : ∀ {x y : Value}, (s0.h.length = s.h.length ∨ Scoped s0.h.length x) → VR κ x y → VR (κ.take s0.h.length) x y := by
    intro x y hs hr
    rcases hs with hs | hs
    · rw [List.take_of_length_le (by omega)]; exact hr
    · exact hr.cut hs
  have hget' : ∀ i, i < s0.h.length → ∀ p, κ[i]? = some p → (κ.take s0.h.length)[i]? = some p := fun i hi p hp => by rw [List.getElem?_take_of_lt hi]; exact hp
  have hback : ∀ i p, (κ.take s0.h.length)[i]? = some p → κ[i]? = some p := fun i p hp => by
    have := (List.getElem?_eq_some_iff.1 hp).1
    rw [List.length_take] at this
    rw [List.getElem?_take_of_lt (by omega)] at hp; exact hp
  refine ⟨⟨⟨by rw [List.length_take]; have := k.len; omega, ?_, ?_⟩, L.2.1, L.2.2.1, ?_⟩, ?_⟩
  · intro i b hb
    obtain ⟨hb', hs⟩ := k.heap i b hb
    obtain ⟨p, hp, r⟩ := L.1.blk i b hb'
    refine ⟨p, hget' i (hget_lt hb) p hp, ?_⟩
    cases b with
    | void u => exact r
    | cells cs o u =>
      obtain ⟨h1, h2, h3⟩ := r
      refine ⟨fun j x hx => ?_, h2, h3⟩
      obtain ⟨y, hy, hr⟩ := h1 j x hx
      refine ⟨y, hy, hcut ?_ hr⟩
      rcases hs with hs | hs
      · exact .inl hs
      · exact .inr (hs x (List.mem_of_getElem? hx))
    | map es c =>
      obtain ⟨es', h1, h2⟩ := r
      refine ⟨es', h1, ?_⟩
      rcases hs with hs | hs
      · rw [List.take_of_length_le (by omega)]; exact h2
      · exact h2.cut hs
  · intro i j b c p q h1 h2 h3 hsd h4 h5 h6
    exact L.1.apart i j b c p q (k.heap i b h1).1 h2 (k.heap j c h3).1 hsd h4 (hback i p h5) (hback j q h6)
  · intro t e ht
    obtain ⟨ht', hs⟩ := k.tm t e ht
    obtain ⟨y, hy, hr⟩ := L.2.2.2 t e ht'
    refine ⟨y, hy, ?_⟩
    cases e with
    | v x => exact hcut hs hr
    | g β x =>
      simp only [ER] at *
      by_cases hb : β = true
      · rw [if_pos hb] at *; exact hcut hs hr
      · rw [if_neg hb] at *; exact hr
  · intro ι h w0 g hle hιl
    refine ⟨?_, g.os, g.tape, g.output, g.size, g.keep, fun i c p h1 h2 h3 => g.own i c p (k.heap i c h1).1 h2 (hback i p h3)⟩
    obtain ⟨t, ht⟩ := g.pre
    refine ⟨t.take (s0.h.length - ι.length), ?_⟩
    rw [← ht, List.take_append, List.take_of_length_le (l := ι) (by omega)]
theorem Goes.weak {ι : List Place} {h : Heap} {w0 w : World} {K : St → Prop} {a : Act} {s0 s : St} {κ : List Place} (hs : K s0) (k : Weak s0 s) (hl : h.length ≤ s0.h.length) (hιl : ι.length = h.length) (L : Like κ s N a w) (g : Grow ι h w0 κ s.h w) : Goes ι h w0 N K a w :=
  let ⟨L', g'⟩ := k.sound L; ⟨_, s0, hs, L', g' ι h w0 g hl hιl⟩
theorem cw_weak {c : Code} {s0 s : St} {Q : Exit → St → Prop} (k : Weak s0 s) (hl : s0.h.length = s.h.length) (h : CW P N c s0 Q) : CW P N c s Q := by
  intro ι a w L
  obtain ⟨L', _⟩ := k.sound L
  rw [List.take_of_length_le (by rw [L.1.len]; omega)] at L'
  refine Code.wp_mono ?_ (h ι a w L')
  rintro e a' w' ⟨κ, s', q, l, g⟩
  refine ⟨κ, s', q, l, g.pre, g.os, g.tape, g.output, g.size, fun b hb hno => g.keep b hb fun i c p h1 h2 h3 => hno i c p (k.heap i c h1).1 h2 h3, fun i c p h1 h2 h3 => ?_⟩
  rcases g.own i c p h1 h2 h3 with ⟨j, d, q, a1, a2, a3, a4⟩ | hle
  · exact .inl ⟨j, d, q, (k.heap j d a1).1, a2, a3, a4⟩
  · exact .inr hle
/-- A loop: what holds at each round's head, with a number that each round lowers. -/
theorem cw_loop {c : Code} {s : St} {Q : Exit → St → Prop} (I : Nat → St → Prop) (n : Nat) (s0 : St) (h0 : I n s0) (k0 : Weak s0 s) (hl0 : s0.h.length = s.h.length)
    (round : ∀ n s, I n s → CW P N c s (thenC (fun s' => ∃ m s1, m < n ∧ I m s1 ∧ Weak s1 s' ∧ s.h.length ≤ s1.h.length) Q)) : CW P N (.loop c) s Q := by
  refine cw_weak k0 hl0 ?_
  intro ι a w L
  refine wp_loop_ghost (fun n a' w' => ∃ κ s', I n s' ∧ Like κ s' N a' w' ∧ Grow ι s0.h w κ s'.h w') n ⟨ι, s0, h0, L, .refl _ _ _⟩ ?_
  rintro n a' w' ⟨κ, s', hI, L', g⟩
  refine Code.wp_mono ?_ (round n s' hI κ a' w' L')
  rintro e a'' w'' ⟨μ, s'', q, L'', g'⟩
  cases e with
  | normal =>
    obtain ⟨m, s1, hm, hI1, hw, hlen⟩ := q
    obtain ⟨L1, g1⟩ := hw.sound L''
    exact ⟨m, hm, _, s1, hI1, L1, g.trans (g1 _ _ _ g' hlen L'.1.len)⟩
  | _ => exact ⟨μ, s'', q, L'', g.trans g'⟩
end Go.Sx
end
