/-
  Sx, part J: soundness of append, and the theorem for all operations that make or turn blocks. Own words; no condition.
-/
import Derived.Test.YtfefdjomenfchaaSxI
namespace Go.Sx
open Go
variable {P : Program} {ty : TypeId → Option TD}

theorem growBy_le (n : Nat) (h : 256 ≤ n) : ∀ (r c : Nat), c ≤ 2 * n → Builtin.growBy n r c ≤ 2 * n
  | 0, c, hc => hc
  | r + 1, c, hc => by
    unfold Builtin.growBy
    split
    · exact hc
    · exact growBy_le n h r _ (by omega)
theorem nextslicecap_le (n c : Nat) (h : c < n) : Builtin.nextslicecap n c ≤ 2 * n := by
  unfold Builtin.nextslicecap
  split
  · omega
  · split
    · omega
    · exact growBy_le n (by omega) 4 c (by omega)
/-- An append that finds no room: a new block. -/
theorem append_new (T : TyOk P ty) {ι : List Place} {h : Heap} {w : World} (R : RelH ι h w) {t0 e t1 : TypeId} {d0 d d1 : TD} (ht0 : ty t0 = some d0) (hk : d0.desc = .slice e) (ht : ty e = some d) (ht1 : ty t1 = some d1) (hni : ∀ k, d1.desc ≠ .int k) {ats : Array TypeId} (hat : ats[0]? = some t0) (hat1 : ats[1]? = some t1)
    {base : Option Addr} {len cap n : Nat} (hcap : ¬ len + n ≤ cap) (hb1 : (len + n) * d.bytes ≤ 35184372088832) (hb2 : len + n ≤ 35184372088832) {y' : Value} {old xs : List Value} {rest : List Value}
    (hold : ∃ l', (Builtin.firstCells d.size len (.slice base len cap)).run P { w with drawn := w.drawn + 1 } = .ok l' { w with drawn := w.drawn + 1 } ∧ VRs ι old l'.toList ∧ old.length = len * d.size)
    (hln : (Builtin.lenOf y').run P w = .ok n w) (hnew : ∃ l', (Builtin.firstCells d.size n y').run P { w with drawn := w.drawn + 1 } = .ok l' { w with drawn := w.drawn + 1 } ∧ VRs ι xs l'.toList) (hxs : xs.length = n * d.size) (ot : TypeId) :
    ∃ y κ w', (Builtin.append_ ats ot (.slice base len cap :: y' :: rest).toArray).run P w = .ok y w' ∧ VR κ (.slice (some ⟨h.length, 0, none⟩) (len + n) OPEN) y ∧ RelH κ (h ++ [some (Blk.cells (old ++ xs) true d.size)]) w' ∧ Grow ι h w κ (h ++ [some (Blk.cells (old ++ xs) true d.size)]) w' := by
  have hu := T.underlying ht0 w
  rw [hk] at hu
  have hu1 := T.underlying ht1 w
  obtain ⟨inf, zv, hi, hi1, hi2, hi3, hi4⟩ := T.typeInfo ht w
  obtain ⟨l1, o1, o2, o3⟩ := hold
  obtain ⟨l2, n1, n2⟩ := hnew
  have hz : (match d1.desc with | .int _ => true | _ => false) = false := by
    cases hd : d1.desc <;> first | rfl | exact absurd hd (hni _)
  have hmax : ¬ ((((len + n : Nat) : Int) > IntKind.i64.max) ∧ ((false = true) ∨ inf.bytes = 0)) := by
    have : IntKind.i64.max = 9223372036854775807 := rfl
    rw [this]; omega
  have hover : ¬ (Builtin.nextslicecap (len + n) cap * inf.bytes > 2 ^ 48) := by
    have h1 := nextslicecap_le (len + n) cap (by omega)
    have h2 : Builtin.nextslicecap (len + n) cap * inf.bytes ≤ 2 * ((len + n) * inf.bytes) := by
      rw [← Nat.mul_assoc]; exact Nat.mul_le_mul_right _ h1
    rw [hi2] at h2 ⊢
    omega
  -- the capacity that is chosen
  obtain ⟨nc, hnc, hge⟩ : ∃ nc : Nat, (choose (.appendCap (len + n) cap e)).run P w = .ok nc { w with drawn := w.drawn + 1 } ∧ len + n ≤ nc :=
    ⟨_, rfl, Nat.le_add_right _ _⟩
  have hsz := T.sizeOf ht w
  obtain ⟨zv', hzv, hzc⟩ := T.zeroValue ht { w with drawn := w.drawn + 1 }
  have hzs : zv'.cells.size = d.size := by
    obtain ⟨_, _, _, _, _, _, _, hzl, _⟩ := T.inf e d ht
    rw [← hzl, ← hzc]; simp
  have R' := R.drew (w.drawn + 1)
  have hl1 : l1.size = len * d.size := by rw [← o3, o2.length]; simp
  have hl2 : l2.size = n * d.size := by rw [← hxs, n2.length]; simp
  have hrest : (Builtin.zeroCells zv'.cells (nc - (len + n))).size = (nc - (len + n)) * d.size := by simp [Builtin.zeroCells, hzs]
  have hroom : (l1 ++ l2 ++ Builtin.zeroCells zv'.cells (nc - (len + n))).size = nc * d.size := by
    rw [Array.size_append, Array.size_append, hl1, hl2, hrest, ← Nat.add_mul, ← Nat.add_mul]
    congr 1; omega
  have hlen : (old ++ xs).length = (len + n) * d.size := by rw [List.length_append, o3, hxs, Nat.add_mul]
  obtain ⟨r1, r2⟩ := R'.new (c := l1 ++ l2 ++ Builtin.zeroCells zv'.cells (nc - (len + n))) (e := e) (cs := old ++ xs) (by
      have e1 : (l1 ++ l2 ++ Builtin.zeroCells zv'.cells (nc - (len + n))).toList.take (old ++ xs).length = l1.toList ++ l2.toList := by
        rw [Array.toList_append, Array.toList_append, List.take_append_of_le_length (by simp [hl1, hl2, o3, hxs]), List.take_of_length_le (by simp [hl1, hl2, o3, hxs])]
      rw [e1]; exact o2.append n2) (room := nc * d.size) (by rw [hlen]; exact Nat.mul_le_mul_right _ hge) (by rw [hroom]; exact Nat.le_refl _) d.size
  refine ⟨.slice (some ⟨w.heap.size, 0, none⟩) (len + n) nc, _, _, ?_, ?_, r1, (Grow.drew _).trans r2⟩
  · simp only [Builtin.append_, hat, hat1, List.getElem?_toArray, List.getElem?_cons_zero, List.getElem?_cons_succ, Sem.run_bind, hu, Result.andThen_ok, hsz, hu1, Sem.run_pure]
    have hcond : ∀ m : Nat, m = n → ¬ (len + m ≤ cap) := fun m hm => by rw [hm]; exact hcap
    simp only [Bool.false_eq_true, if_false, hln, Result.andThen_ok, Sem.run_bind, Bool.not_false, if_true, hcap, hi, false_or]
    rw [if_neg (by have : IntKind.i64.max = 9223372036854775807 := rfl; rw [this]; omega)]
    simp only [Sem.run_bind, hi, Result.andThen_ok]
    rw [if_neg hover]
    simp only [Sem.run_bind, hnc, Result.andThen_ok, run_askRoom]
    obtain ⟨inf', zv2, hi', _⟩ := T.typeInfo ht { w with drawn := w.drawn + 1 }
    simp only [hi', Result.andThen_ok, o1, n1, hzv, newRow, Sem.run_bind, run_newObj, Sem.run_pure]
    rfl
  · have := VR.sliceO (ι := ι ++ [⟨w.heap.size, 0, nc * d.size, d.size⟩]) h.length 0 (len + n) nc ⟨w.heap.size, 0, nc * d.size, d.size⟩ (new_place ι h R.len _) hge (by simp)
    simpa using this
/-- An append that finds room: the cells are stored behind. -/
theorem append_in (T : TyOk P ty) {w : World} {t0 e t1 : TypeId} {d0 d d1 : TD} (ht0 : ty t0 = some d0) (hk : d0.desc = .slice e) (ht : ty e = some d) (ht1 : ty t1 = some d1) (hni : ∀ k, d1.desc ≠ .int k) {ats : Array TypeId} (hat : ats[0]? = some t0) (hat1 : ats[1]? = some t1)
    {base : Option Addr} {len cap n : Nat} (hcap : len + n ≤ cap) {y' : Value} {rest : List Value} (hln : (Builtin.lenOf y').run P w = .ok n w) {l : Array Value} (hnew : (Builtin.firstCells d.size n y').run P w = .ok l w) (ot : TypeId) :
    (Builtin.append_ ats ot (.slice base len cap :: y' :: rest).toArray).run P w = (match base with
      | some a => (storeCells (a.add (len * d.size)) l.toList).run P w |>.andThen fun _ w' => .ok (.slice base (len + n) cap) w'
      | none => .ok (.slice base (len + n) cap) w) := by
  have hu := T.underlying ht0 w
  rw [hk] at hu
  have hu1 := T.underlying ht1 w
  have hsz := T.sizeOf ht w
  have hz : (match d1.desc with | .int _ => true | _ => false) = false := by
    cases hd : d1.desc <;> first | rfl | exact absurd hd (hni _)
  simp only [Builtin.append_, hat, hat1, List.getElem?_toArray, List.getElem?_cons_zero, List.getElem?_cons_succ, Sem.run_bind, hu, Result.andThen_ok, hsz, hu1, Sem.run_pure]
  simp only [Bool.false_eq_true, if_false, hln, Result.andThen_ok, Sem.run_bind, Bool.not_false, if_true, hcap, hnew]
  cases base with
  | none => rfl
  | some a => simp only [Sem.run_bind, Sem.run_pure]
theorem lenC_nat {y : Value} {k : IntKind} {n : Int} (h : lenC y = some (.int k n)) : ∃ m : Nat, n = (m : Int) := by
  cases y <;> simp [lenC] at h
  · exact ⟨_, h.2.symm⟩
  · exact ⟨_, h.2.symm⟩
/-- An empty block of no place. -/
theorem RelH.void {ι : List Place} {h : Heap} {w : World} (R : RelH ι h w) (b u : Nat) : RelH (ι ++ [⟨b, 0, 0, u⟩]) (h ++ [some (.void u)]) w ∧ Grow ι h w (ι ++ [⟨b, 0, 0, u⟩]) (h ++ [some (.void u)]) w := by
  have hpre : ι <+: ι ++ [⟨b, 0, 0, u⟩] := List.prefix_append _ _
  have newb : (ι ++ [⟨b, 0, 0, u⟩])[h.length]? = some ⟨b, 0, 0, u⟩ := by rw [← R.len]; simp
  have which : ∀ i b, hget (h ++ [some (.void u)]) i = some b → hget h i = some b ∨ i = h.length ∧ b = .void u := by
    intro i b hi
    have hlt := hget_lt hi
    by_cases hl : i < h.length
    · left; rw [hget_append hl] at hi; exact hi
    · right
      have : i = h.length := by simp at hlt; omega
      subst this
      have e := hget_append_new (h := h) (g := [some (Blk.void u)]) (k := 0)
      simp only [Nat.add_zero] at e
      rw [e] at hi
      simp [hget] at hi
      exact ⟨rfl, hi.symm⟩
  have oldp : ∀ j b' q, hget h j = some b' → (ι ++ [⟨b, 0, 0, u⟩])[j]? = some q → ι[j]? = some q := by
    intro j b' q hj hq
    rwa [List.getElem?_append_left (R.lt hj)] at hq
  refine ⟨⟨by simp [R.len], ?_, ?_⟩, hpre, rfl, rfl, rfl, Nat.le_refl _, fun _ _ _ => rfl, ?_⟩
  · intro i c hi
    rcases which i c hi with ho | ⟨rfl, rfl⟩
    · obtain ⟨p, hp, r⟩ := R.blk i c ho
      exact ⟨p, by rw [List.getElem?_append_left (R.lt ho)]; exact hp, r.mono hpre⟩
    · exact ⟨_, newb, rfl, rfl⟩
  · intro i j c d p q h1 h2 h3 h4 h5 h6 h7
    rcases which i c h1 with a1 | ⟨rfl, rfl⟩
    · rcases which j d h3 with a2 | ⟨rfl, rfl⟩
      · exact R.apart i j c d p q a1 h2 a2 h4 h5 (oldp i c p a1 h6) (oldp j d q a2 h7)
      · cases h4
    · cases h2
  · intro i c p h1 h2 h3
    rcases which i c h1 with a1 | ⟨rfl, rfl⟩
    · exact .inl ⟨i, c, p, a1, h2, oldp i c p a1 h3, rfl⟩
    · cases h2
theorem does_append (T : TyOk P ty) {ι : List Place} {h : Heap} {w : World} (R : RelH ι h w) {t0 e t1 : TypeId} {d0 d d1 : TD} (ht0 : ty t0 = some d0) (hk : d0.desc = .slice e) (ht : ty e = some d) (ht1 : ty t1 = some d1) (hni : ∀ k, d1.desc ≠ .int k) {ats : Array TypeId} (hat : ats[0]? = some t0) (hat1 : ats[1]? = some t1)
    {x y x' y' : Value} {rest : List Value} {n : Nat} {k : IntKind} {xs : List Value} (hn : lenC y = some (.int k (n : Int))) (hrow : rowOf d.size h y = some xs) (hxs : xs.length = n * d.size) {v : Value} {h' : Heap} (hs : appendC d h x n xs = some (v, h')) (hx : VR ι x x') (hy : VR ι y y') (ot : TypeId) :
    ∃ z κ w', (Builtin.append_ ats ot (x' :: y' :: rest).toArray).run P w = .ok z w' ∧ VR κ v z ∧ RelH κ h' w' ∧ Grow ι h w κ h' w' := by
  have hf := fun (w' : World) (R' : RelH ι h w') => first_cells (P := P) R' hrow (m := n) hn hxs hy (Nat.le_refl _)
  have htake : xs.take (n * d.size) = xs := List.take_of_length_le (by omega)
  rw [htake] at hf
  obtain ⟨hln, l0, hl0, hr0⟩ := hf w R
  have hdrew := (hf _ (R.drew (w.drawn + 1))).2
  have grows : ∀ base : Option Addr, x' = .slice base 0 0 → 0 < d.size → n * d.bytes ≤ 35184372088832 → n ≤ 35184372088832 → ∃ z κ w', (Builtin.append_ ats ot (x' :: y' :: rest).toArray).run P w = .ok z w' ∧ VR κ (.slice (some ⟨h.length, 0, none⟩) n OPEN) z ∧ RelH κ (h ++ [some (grown xs d.size)]) w' ∧ Grow ι h w κ (h ++ [some (grown xs d.size)]) w' := by
    rintro base rfl hpos hb1 hb2
    by_cases hn0 : n = 0
    · subst hn0
      have hx0 : xs = [] := by simpa using hxs
      subst hx0
      have hl00 : l0 = #[] := by
        have := hr0.length
        simp at this
        exact Array.eq_empty_of_size_eq_zero this.symm
      subst hl00
      obtain ⟨r1, r2⟩ := R.void 0 d.size
      refine ⟨.slice base 0 0, _, w, ?_, ?_, r1, r2⟩
      · rw [append_in T ht0 hk ht ht1 hni hat hat1 (by omega) hln hl0]
        cases base <;> simp [storeCells]
      · cases base with
        | none => exact .sliceN _ _ _ (new_place ι h R.len _)
        | some b => exact .sliceE _ _ _ _ (new_place ι h R.len _)
    · obtain ⟨z, κ, w', q1, q2, q3, q4⟩ := append_new T R ht0 hk ht ht1 hni hat hat1 (base := base) (len := 0) (cap := 0) (n := n) (by omega) (by simpa using hb1) (by simpa using hb2) (old := []) (xs := xs) (rest := rest) ⟨#[], by cases base <;> simp [Builtin.firstCells, loadCells, loadCellsFrom], by simp [VRs], by simp⟩ hln hdrew hxs ot
      have hg' : grown xs d.size = .cells ([] ++ xs) true d.size := by
        cases xs with
        | nil => exact absurd (Nat.mul_eq_zero.1 (by simpa using hxs.symm)) (by omega)
        | cons a r => rfl
      rw [hg']
      exact ⟨z, κ, w', q1, by simpa using q2, q3, q4⟩
  unfold appendC at hs
  split at hs
  · rename_i a len cap
    simp only [Option.ite_none_right_eq_some] at hs
    obtain ⟨⟨hb1, hb2⟩, hs⟩ := hs
    split at hs
    · -- nil
      simp only [Option.ite_none_right_eq_some, Option.some.injEq, Prod.mk.injEq] at hs
      obtain ⟨⟨rfl, rfl, hpos⟩, rfl, rfl⟩ := hs
      exact grows none (hx.closed_inv rfl) hpos (by simpa using hb1) (by simpa using hb2)
    · rename_i i kk
      split at hs
      · rename_i h00
        obtain ⟨rfl, rfl⟩ := h00
        simp only [Option.ite_none_right_eq_some, Option.some.injEq, Prod.mk.injEq] at hs
        obtain ⟨hpos, rfl, rfl⟩ := hs
        have h0O : ¬ (0 : Nat) = OPEN := by unfold OPEN; omega
        rcases hx.slice_inv with ⟨i', k', q, he, hq, hno, rfl⟩ | ⟨i', k', q, c', he, ho, hq, hlc, hrm, rfl⟩ | ⟨b, _, h0, rfl, _⟩ | ⟨ho, h0, rfl, _⟩
        · exact grows _ rfl hpos (by simpa using hb1) (by simpa using hb2)
        · exact absurd ho h0O
        · exact grows _ rfl hpos (by simpa using hb1) (by simpa using hb2)
        · exact absurd ho h0O
      rename_i h00
      split at hs
      · rename_i cs own unit hg
        obtain ⟨p, hp, hblk⟩ := R.blk i _ hg
        split at hs
        · -- open
          rename_i hopen
          subst hopen
          split at hs
          · simp only [Option.ite_none_right_eq_some, Option.some.injEq, Prod.mk.injEq] at hs
            obtain ⟨⟨hlen, hunit, hone⟩, rfl, rfl⟩ := hs
            subst hunit
            obtain ⟨hc, hlt, hown⟩ := hblk
            obtain ⟨hroom, hpu, hcells⟩ := hown rfl
            have hmoved := R.moved hg hp (k := kk) (by omega)
            have hdl : (cs.drop kk).length = len * d.size := by rw [List.length_drop]; omega
            have hls : (h.set i none).length = h.length := by simp
            -- the block under its new number
            have hg' : hget (h.set i none ++ [some (Blk.cells (cs.drop kk) true d.size)]) h.length = some (Blk.cells (cs.drop kk) true d.size) := by
              have := hget_append_new (h := h.set i none) (g := [some (Blk.cells (cs.drop kk) true d.size)]) (k := 0)
              rw [Nat.add_zero, hls] at this
              rw [this]; rfl
            have hset : ∀ b, (h.set i none ++ [some (Blk.cells (cs.drop kk) true d.size)]).set h.length (some b) = h.set i none ++ [some b] := by
              intro b
              rw [List.set_append_right _ _ (by omega)]; simp
            rcases hx.slice_inv with ⟨i', k', q, he, hq, hno, rfl⟩ | ⟨i', k', q, c', he, _, hq, hlc, hrm, rfl⟩ | ⟨b, _, h0, rfl, _⟩ | ⟨_, h0, rfl, _⟩
            · exact absurd rfl hno
            · simp at he; obtain ⟨rfl, rfl⟩ := he
              rw [hp] at hq; simp at hq; subst hq
              rw [hpu] at hrm
              by_cases hfit : len + n ≤ c'
              · -- in place
                have hcm : (len + n) * d.size ≤ c' * d.size := Nat.mul_le_mul_right _ hfit
                rw [Nat.add_mul] at hcm
                obtain ⟨s1, s2, s3, s4⟩ := hmoved.1.store' (k := len * d.size) (cs' := cs.drop kk ++ xs) hg' (new_place ι h R.len _) (hr0.mono (List.prefix_append _ _)) (by simp; omega) (by simp; omega) (fun j x hj => by
                  by_cases hjl : j < len * d.size
                  · rw [List.getElem?_append_left (by omega)] at hj
                    exact .inr ⟨.inl hjl, hj⟩
                  · rw [List.getElem?_append_right (by omega)] at hj
                    exact .inl ⟨j - len * d.size, by omega, by rw [hdl] at hj; exact hj⟩)
                rw [hset] at s1 s2
                have hrun := run_storeCells_cells (P := P) p.block (p.off + kk + len * d.size) l0.toList 0 w (by simpa using s3) (by simpa using s4) ?_
                · refine ⟨.slice (some ⟨p.block, p.off + kk, none⟩) (len + n) c', _, _, ?_, ?_, s1, hmoved.2.trans s2⟩
                  · rw [append_in T ht0 hk ht ht1 hni hat hat1 hfit hln hl0]
                    simp only [addr_add]
                    simp only [Nat.add_zero] at hrun
                    rw [hrun]; rfl
                  · have := VR.sliceO (ι := ι ++ [⟨p.block, p.off + kk, p.room - kk, d.size⟩]) h.length 0 (len + n) c' ⟨p.block, p.off + kk, p.room - kk, d.size⟩ (new_place ι h R.len _) hfit (by simp; omega)
                    simpa using this
                · exact hr0.one (allOne hone)
              · -- a new block
                obtain ⟨l1, c1, c2, c3⟩ := cells_row hc (k := kk) (n := len * d.size) (l := cs.drop kk) (by unfold slc; rw [if_pos (by omega), List.take_of_length_le (by omega)])
                have hrun := run_loadCells_list (P := P) (w := { w with drawn := w.drawn + 1 }) ⟨p.block, p.off + kk, none⟩ l1 c3
                rw [c2] at hrun
                obtain ⟨z, κ, w', q1, q2, q3, q4⟩ := append_new T R ht0 hk ht ht1 hni hat hat1 (base := some ⟨p.block, p.off + kk, none⟩) (len := len) (cap := c') (n := n) hfit hb1 hb2 (old := cs.drop kk) (xs := xs) (rest := rest) ⟨l1.toArray, by simp only [Builtin.firstCells, hrun], by simpa using c1, hdl⟩ hln hdrew hxs ot
                have hset2 : h.set i none ++ [some (Blk.cells (cs.drop kk ++ xs) true d.size)] = (h ++ [some (Blk.cells (cs.drop kk ++ xs) true d.size)]).set i none := by
                  rw [List.set_append_left _ _ (hget_lt hg)]
                refine ⟨z, κ, w', q1, q2, ?_, ?_⟩
                · rw [hset2]; exact q3.forget i
                · rw [hset2]; exact q4.trans (Grow.forget i)
            · -- empty, without room
              subst h0
              simp at hlen hdl
              have hkk : kk = cs.length := hlen
              by_cases hn0 : n = 0
              · subst hn0
                have hx0 : xs = [] := by simpa using hxs
                subst hx0
                have hl00 : l0 = #[] := by
                  have := hr0.length
                  simp at this
                  exact Array.eq_empty_of_size_eq_zero this.symm
                subst hl00
                refine ⟨.slice (some b) 0 0, _, w, ?_, .sliceE _ _ _ _ (new_place ι h R.len _), by simpa using hmoved.1, by simpa using hmoved.2⟩
                rw [append_in T ht0 hk ht ht1 hni hat hat1 (by omega) hln hl0]
                simp [storeCells]
              · obtain ⟨z, κ, w', q1, q2, q3, q4⟩ := append_new T R ht0 hk ht ht1 hni hat hat1 (base := some b) (len := 0) (cap := 0) (n := n) (by omega) hb1 hb2 (old := []) (xs := xs) (rest := rest) ⟨#[], by simp [Builtin.firstCells, loadCells, loadCellsFrom], by simp [VRs], by simp⟩ hln hdrew hxs ot
                have hset2 : h.set i none ++ [some (Blk.cells (cs.drop kk ++ xs) true d.size)] = (h ++ [some (Blk.cells ([] ++ xs) true d.size)]).set i none := by
                  rw [List.set_append_left _ _ (hget_lt hg), hkk]; simp
                refine ⟨z, κ, w', q1, q2, ?_, ?_⟩
                · rw [hset2]; exact q3.forget i
                · rw [hset2]; exact q4.trans (Grow.forget i)
            · -- nil
              subst h0
              simp at hlen hdl
              have hkk : kk = cs.length := hlen
              by_cases hn0 : n = 0
              · subst hn0
                have hx0 : xs = [] := by simpa using hxs
                subst hx0
                have hl00 : l0 = #[] := by
                  have := hr0.length
                  simp at this
                  exact Array.eq_empty_of_size_eq_zero this.symm
                subst hl00
                refine ⟨.slice none 0 0, _, w, ?_, .sliceN _ _ _ (new_place ι h R.len _), by simpa using hmoved.1, by simpa using hmoved.2⟩
                rw [append_in T ht0 hk ht ht1 hni hat hat1 (by omega) hln hl0]
              · obtain ⟨z, κ, w', q1, q2, q3, q4⟩ := append_new T R ht0 hk ht ht1 hni hat hat1 (base := none) (len := 0) (cap := 0) (n := n) (by omega) hb1 hb2 (old := []) (xs := xs) (rest := rest) ⟨#[], by simp [Builtin.firstCells], by simp [VRs], by simp⟩ hln hdrew hxs ot
                have hset2 : h.set i none ++ [some (Blk.cells (cs.drop kk ++ xs) true d.size)] = (h ++ [some (Blk.cells ([] ++ xs) true d.size)]).set i none := by
                  rw [List.set_append_left _ _ (hget_lt hg), hkk]; simp
                refine ⟨z, κ, w', q1, q2, ?_, ?_⟩
                · rw [hset2]; exact q3.forget i
                · rw [hset2]; exact q4.trans (Grow.forget i)
          · simp at hs
        · rename_i hopen
          split at hs
          · simp only [Option.ite_none_right_eq_some, Option.some.injEq, Prod.mk.injEq] at hs
            rename_i hfit
            obtain ⟨hn0, rfl, rfl⟩ := hs
            subst hn0
            have hx0 : xs = [] := by simpa using hxs
            subst hx0
            have hl00 : l0 = #[] := by
              have := hr0.length
              simp at this
              exact Array.eq_empty_of_size_eq_zero this.symm
            subst hl00
            rcases hx.slice_inv with ⟨i', k', q, he, hq, hno, hx'⟩ | ⟨i', k', q, c', he, ho, hq, hlc, hrm, rfl⟩ | ⟨b, ho, h0, rfl, _⟩ | ⟨ho, _⟩
            · rw [hx'] at hx
              refine ⟨_, ι, w, ?_, hx, R, .refl _ _ _⟩
              rw [hx', append_in T ht0 hk ht ht1 hni hat hat1 (by omega) hln hl0]
              simp [storeCells]
            · exact absurd ho hopen
            · have hc0 := ho.resolve_left hopen
              subst hc0; subst h0
              refine ⟨_, ι, w, ?_, hx, R, .refl _ _ _⟩
              rw [append_in T ht0 hk ht ht1 hni hat hat1 (by omega) hln hl0]
              simp [storeCells]
            · exact absurd ho hopen
          · rename_i hfit
            simp only [Option.map_eq_some_iff, Prod.mk.injEq] at hs
            obtain ⟨old, hold, rfl, rfl⟩ := hs
            rcases hx.slice_inv with ⟨i', k', q, he, hq, hno, rfl⟩ | ⟨i', k', q, c', he, ho, hq, hlc, hrm, rfl⟩ | ⟨b, ho, h0, rfl, _⟩ | ⟨ho, _⟩
            · simp at he; obtain ⟨rfl, rfl⟩ := he
              rw [hp] at hq; simp at hq; subst hq
              obtain ⟨l1, c1, c2, c3⟩ := cells_row hblk.1 hold
              have hrun := run_loadCells_list (P := P) (w := { w with drawn := w.drawn + 1 }) ⟨p.block, p.off + kk, none⟩ l1 c3
              rw [c2] at hrun
              exact append_new T R ht0 hk ht ht1 hni hat hat1 (base := some ⟨p.block, p.off + kk, none⟩) (len := len) (cap := cap) (n := n) hfit hb1 hb2 (old := old) (xs := xs) (rest := rest) ⟨l1.toArray, by simp only [Builtin.firstCells, hrun], by simpa using c1, slc_length hold⟩ hln hdrew hxs ot
            · exact absurd ho hopen
            · have hc0 := ho.resolve_left hopen
              subst hc0; subst h0
              have hold0 : old = [] := List.eq_nil_of_length_eq_zero (by have := slc_length hold; simpa using this)
              subst hold0
              exact append_new T R ht0 hk ht ht1 hni hat hat1 (base := some b) (len := 0) (cap := 0) (n := n) hfit hb1 hb2 (old := []) (xs := xs) (rest := rest) ⟨#[], by simp [Builtin.firstCells, loadCells, loadCellsFrom], by simp [VRs], by simp⟩ hln hdrew hxs ot
            · exact absurd ho hopen
      · -- void
        rename_i unit hg
        obtain ⟨p, hp, hroom, hpu⟩ := R.blk i _ hg
        simp only [Option.ite_none_right_eq_some, Option.some.injEq, Prod.mk.injEq] at hs
        obtain ⟨⟨rfl, rfl, rfl, rfl, hpos, _⟩, rfl, rfl⟩ := hs
        have hset : ∀ b : Option Blk, h.set i none ++ [b] = (h ++ [b]).set i none := fun b => by rw [List.set_append_left _ _ (hget_lt hg)]
        have main : ∀ base : Option Addr, x' = .slice base 0 0 → ∃ z κ w', (Builtin.append_ ats ot (x' :: y' :: rest).toArray).run P w = .ok z w' ∧ VR κ (.slice (some ⟨h.length, 0, none⟩) n OPEN) z ∧ RelH κ (h.set i none ++ [some (grown xs d.size)]) w' ∧ Grow ι h w κ (h.set i none ++ [some (grown xs d.size)]) w' := by
          rintro base rfl
          rw [hset]
          obtain ⟨z, κ, w', q1, q2, q3, q4⟩ := grows base rfl hpos (by simpa using hb1) (by simpa using hb2)
          exact ⟨z, κ, w', q1, q2, q3.forget i, q4.trans (Grow.forget i)⟩
        rcases hx.slice_inv with ⟨i', k', q, he, hq, hno, rfl⟩ | ⟨i', k', q, c', he, _, hq, hlc, hrm, rfl⟩ | ⟨b, _, h0, rfl, _⟩ | ⟨_, h0, rfl, _⟩
        · exact absurd rfl hno
        · simp at he; obtain ⟨rfl, rfl⟩ := he
          rw [hp] at hq; simp at hq; subst hq
          rw [hroom, hpu] at hrm
          have hc0 : c' = 0 := by
            rcases Nat.mul_eq_zero.1 (show c' * d.size = 0 by omega) with h | h <;> omega
          subst hc0
          exact main _ rfl
        · exact main _ rfl
        · exact main _ rfl
      · simp at hs
    · simp at hs
  · simp at hs
end Go.Sx
