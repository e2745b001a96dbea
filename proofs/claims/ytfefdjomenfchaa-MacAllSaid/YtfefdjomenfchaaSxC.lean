/-
  Sx, part C: the operations that leave the heap as it is do what is said of them. Own words; no condition.
-/
import Derived.Test.YtfefdjomenfchaaSxB
namespace Go.Sx
open Go
variable {P : Program} {ty : TypeId → Option TD}

theorem TyOk.underlying (T : TyOk P ty) {t : TypeId} {d : TD} (h : ty t = some d) (w : World) : (Go.underlying t).run P w = .ok d.desc w := by
  simp [Go.underlying, T.und t d h]
theorem TyOk.typeInfo (T : TyOk P ty) {t : TypeId} {d : TD} (h : ty t = some d) (w : World) : ∃ i v, (Go.typeInfo t).run P w = .ok i w ∧ i.size = d.size ∧ i.bytes = d.bytes ∧ i.zero = some v ∧ v.cells.toList = d.zero := by
  obtain ⟨i, v, hi, h1, h2, h3, h4, _⟩ := T.inf t d h
  exact ⟨i, v, by simp [Go.typeInfo, hi], h1, h2, h3, h4⟩
theorem TyOk.sizeOf (T : TyOk P ty) {t : TypeId} {d : TD} (h : ty t = some d) (w : World) : (Go.sizeOf t).run P w = .ok d.size w := by
  obtain ⟨i, v, hi, h1, _⟩ := T.typeInfo h w
  simp [Go.sizeOf, hi, h1]
theorem TyOk.isAgg (T : TyOk P ty) {t : TypeId} {d : TD} (h : ty t = some d) (w : World) : (Go.isAgg t).run P w = .ok (isAggD d.desc) w := by
  simp only [Go.isAgg, Sem.run_bind, T.underlying h w, Result.andThen_ok]
  cases d.desc <;> rfl
theorem TyOk.zeroValue (T : TyOk P ty) {t : TypeId} {d : TD} (h : ty t = some d) (w : World) : ∃ v, (Go.zeroValue t).run P w = .ok v w ∧ v.cells.toList = d.zero := by
  obtain ⟨i, v, hi, _, _, h3, h4⟩ := T.typeInfo h w
  exact ⟨v, by simp [Go.zeroValue, hi, h3], h4⟩

theorem slc_some {cs l : List Value} {off n : Nat} (h : slc cs off n = some l) : off + n ≤ cs.length ∧ l = (cs.drop off).take n := by
  unfold slc at h
  split at h
  · simp at h; exact ⟨by assumption, h.symm⟩
  · simp at h
theorem slc_length {cs l : List Value} {off n : Nat} (h : slc cs off n = some l) : l.length = n := by
  obtain ⟨h1, rfl⟩ := slc_some h
  simp; omega
theorem slc_get {cs l : List Value} {off n : Nat} (h : slc cs off n = some l) {j : Nat} (hj : j < n) : l[j]? = cs[off + j]? := by
  obtain ⟨h1, rfl⟩ := slc_some h
  rw [List.getElem?_take_of_lt hj, List.getElem?_drop]
theorem slc_VRs {ι : List Place} {cs cs' l : List Value} {off n : Nat} (h : slc cs off n = some l) (r : VRs ι cs cs') : ∃ l', slc cs' off n = some l' ∧ VRs ι l l' := by
  obtain ⟨h1, rfl⟩ := slc_some h
  refine ⟨(cs'.drop off).take n, ?_, (r.drop off).take n⟩
  unfold slc
  rw [if_pos (by rw [← r.length]; exact h1)]

theorem addr_add (b o i : Nat) : (⟨b, o, none⟩ : Addr).add i = ⟨b, o + i, none⟩ := by
  unfold Addr.add
  split
  · rename_i h; subst h; rfl
  · rfl

/-- Cells of a block, in a row, as they stand in the world. -/
theorem cells_row {ι : List Place} {w : World} {p : Place} {cs : List Value} (hc : ∀ k x, cs[k]? = some x → ∃ y, w.cell? ⟨p.block, p.off + k, none⟩ = some y ∧ VR ι x y) {k n : Nat} {l : List Value} (h : slc cs k n = some l) :
    ∃ l' : List Value, VRs ι l l' ∧ l'.length = n ∧ ∀ j v, l'[j]? = some v → w.cell? ((⟨p.block, p.off + k, none⟩ : Addr).add j) = some v := by
  have hl := slc_length h
  have step : ∀ m, m ≤ n → ∃ l' : List Value, VRs ι (l.take m) l' ∧ l'.length = m ∧ ∀ j v, l'[j]? = some v → w.cell? ((⟨p.block, p.off + k, none⟩ : Addr).add j) = some v := by
    intro m
    induction m with
    | zero => intro _; exact ⟨[], by simp [VRs], rfl, fun j v hj => by simp at hj⟩
    | succ m ih =>
      intro hm
      obtain ⟨l', h1, h2, h3⟩ := ih (by omega)
      have hlt : m < l.length := by omega
      obtain ⟨y, hy, hr⟩ := hc (k + m) l[m] (by rw [← slc_get h (by omega)]; simp [hlt])
      refine ⟨l' ++ [y], ?_, by simp [h2], ?_⟩
      · rw [List.take_succ_eq_append_getElem hlt]
        exact h1.append ⟨hr, trivial⟩
      · intro j v hj
        by_cases hjm : j < m
        · rw [List.getElem?_append_left (by omega)] at hj; exact h3 j v hj
        · have hje : j = m := by
            have := (List.getElem?_eq_some_iff.1 hj).1
            simp [h2] at this; omega
          subst hje
          rw [List.getElem?_append_right (by omega)] at hj
          simp [h2] at hj; subst hj
          rw [addr_add]
          rw [Nat.add_assoc]; exact hy
  obtain ⟨l', h1, h2, h3⟩ := step n (Nat.le_refl _)
  rw [List.take_of_length_le (by omega)] at h1
  exact ⟨l', h1, h2, h3⟩
theorem cellsAt_some {h : Heap} {i : Nat} {cs : List Value} (hc : cellsAt h i = some cs) : (∃ o u, hget h i = some (.cells cs o u)) ∨ cs = [] := by
  unfold cellsAt at hc
  split at hc
  · rename_i cs' o u hg; simp at hc; subst hc; exact .inl ⟨o, u, hg⟩
  · simp at hc; exact .inr hc
  · simp at hc
theorem RelH.cells {ι : List Place} {h : Heap} {w : World} (R : RelH ι h w) {i : Nat} {cs : List Value} (hc : cellsAt h i = some cs) {p : Place} (hp : ι[i]? = some p) :
    ∀ k x, cs[k]? = some x → ∃ y, w.cell? ⟨p.block, p.off + k, none⟩ = some y ∧ VR ι x y := by
  rcases cellsAt_some hc with ⟨o, u, hg⟩ | rfl
  · obtain ⟨q, hq, hb⟩ := R.blk i _ hg
    rw [hp] at hq; simp at hq; subst hq
    exact hb.1
  · intro k x hx; simp at hx

theorem run_loadVar {ι : List Place} {h : Heap} {w : World} (T : TyOk P ty) (R : RelH ι h w) {t : TypeId} {d : TD} (ht : ty t = some d) {p v : Value} {p' : Value} (hp : VR ι p p') (hl : loadC d h p = some v) :
    ∃ y, (Instr.loadAt t p').run P w = .ok y w ∧ VR ι v y := by
  unfold loadC at hl
  split at hl
  · rename_i i k
    obtain ⟨q, hq, rfl⟩ := hp.ptr_inv
    split at hl
    · rename_i cs hcs
      have hc := R.cells hcs hq
      by_cases ha : isAggD d.desc = true
      · rw [if_pos ha] at hl
        simp only [Option.map_eq_some_iff] at hl
        obtain ⟨l, hs, rfl⟩ := hl
        obtain ⟨l', h1, h2, h3⟩ := cells_row hc hs
        refine ⟨.agg l'.toArray, ?_, VR.agg' (by simpa using h1)⟩
        have hrun := run_loadCells_list (P := P) (w := w) ⟨q.block, q.off + k, none⟩ l' h3
        rw [h2] at hrun
        simp [Instr.loadAt, Instr.sureAddr, loadVar, T.isAgg ht, ha, T.sizeOf ht, hrun]
      · rw [if_neg ha] at hl
        obtain ⟨y, hy, hr⟩ := hc k v hl
        refine ⟨y, ?_, hr⟩
        simp [Instr.loadAt, Instr.sureAddr, loadVar, T.isAgg ht, ha, hy]
    · simp at hl
  · simp at hl

theorem run_part (T : TyOk P ty) {t : TypeId} {d : TD} (ht : ty t = some d) {ι : List Place} {cs cs' : List Value} (r : VRs ι cs cs') {off : Nat} {v : Value} (h : partC d cs off = some v) (w : World) :
    ∃ y, (part t cs'.toArray off).run P w = .ok y w ∧ VR ι v y := by
  unfold partC at h
  by_cases ha : isAggD d.desc = true
  · rw [if_pos ha] at h
    simp only [Option.map_eq_some_iff] at h
    obtain ⟨l, hs, rfl⟩ := h
    obtain ⟨l', hs', r'⟩ := slc_VRs hs r
    obtain ⟨_, rfl⟩ := slc_some hs'
    refine ⟨_, by simp only [part, Sem.run_bind, T.isAgg ht, Result.andThen_ok, ha, if_true, T.sizeOf ht, Sem.run_pure]; rfl, VR.agg' ?_⟩
    have e : ((cs'.toArray).extract off (off + d.size)).toList = (cs'.drop off).take d.size := by simp
    rw [e]; simpa using r'
  · rw [if_neg ha] at h
    obtain ⟨y, hy, hr⟩ := r.get' h
    refine ⟨y, ?_, hr⟩
    simp [part, T.isAgg ht, ha, hy]

theorem flatEq_self {zs : List Value} : ∀ {xs ys : List Value} {b : Bool}, flatEq zs xs ys = some b → (∀ x ∈ xs, closed1 x = true) ∧ (∀ y ∈ ys, closed1 y = true) ∧ xs.length = zs.length ∧ ys.length = zs.length := by
  induction zs with
  | nil =>
    intro xs ys b h
    cases xs <;> cases ys <;> simp [flatEq] at h ⊢
  | cons z zs ih =>
    intro xs ys b h
    cases z <;> cases xs <;> cases ys <;> try simp [flatEq] at h
    all_goals
      rename_i x xs y ys
      cases x <;> cases y <;> try simp [flatEq] at h
    · obtain ⟨c, hc⟩ : ∃ c, flatEq zs xs ys = some c := by rcases h with h | h <;> exact ⟨_, h.1⟩
      obtain ⟨h1, h2, h3, h4⟩ := ih hc
      exact ⟨by simpa [closed1] using h1, by simpa [closed1] using h2, by simp [h3], by simp [h4]⟩
    · obtain ⟨c, hc⟩ : ∃ c, flatEq zs xs ys = some c := by rcases h.2 with h | h <;> exact ⟨_, h.1⟩
      obtain ⟨h1, h2, h3, h4⟩ := ih hc
      exact ⟨by simpa [closed1] using h1, by simpa [closed1] using h2, by simp [h3], by simp [h4]⟩
    · obtain ⟨c, hc⟩ : ∃ c, flatEq zs xs ys = some c := by rcases h with h | h <;> exact ⟨_, h.1⟩
      obtain ⟨h1, h2, h3, h4⟩ := ih hc
      exact ⟨by simpa [closed1] using h1, by simpa [closed1] using h2, by simp [h3], by simp [h4]⟩
theorem VRs.closed_inv {ι : List Place} : ∀ {xs ys : List Value}, VRs ι xs ys → (∀ x ∈ xs, closed1 x = true) → ys = xs
  | [], [], _, _ => rfl
  | x :: xs, y :: ys, ⟨a, b⟩, h => by rw [a.closed_inv (h x (by simp)), VRs.closed_inv b fun z hz => h z (by simp [hz])]
  | [], _ :: _, h, _ => h.elim
  | _ :: _, [], h, _ => h.elim
end Go.Sx
