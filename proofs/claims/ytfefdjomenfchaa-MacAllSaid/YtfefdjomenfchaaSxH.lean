/-
  Sx, part H: the canonical heap under new blocks, stores, draws, and blocks that are let go. Own words; no condition.
-/
import Derived.Test.YtfefdjomenfchaaSxG
import Derived.Laws.IdiomCopy
namespace Go.Sx
open Go
variable {P : Program} {ty : TypeId → Option TD}

theorem hget_append {h g : Heap} {i : Nat} (hi : i < h.length) : hget (h ++ g) i = hget h i := by
  unfold hget; rw [List.getElem?_append_left hi]
theorem hget_append_new {h g : Heap} {k : Nat} : hget (h ++ g) (h.length + k) = hget g k := by
  unfold hget; rw [List.getElem?_append_right (by omega)]; simp
theorem hget_lt {h : Heap} {i : Nat} {b : Blk} (hb : hget h i = some b) : i < h.length := by
  unfold hget at hb
  cases hi : h[i]? with
  | none => rw [hi] at hb; simp at hb
  | some x => exact (List.getElem?_eq_some_iff.1 hi).1
theorem hget_set {h : Heap} {i j : Nat} {b : Option Blk} : hget (h.set i b) j = if i = j ∧ i < h.length then b else hget h j := by
  unfold hget
  rw [List.getElem?_set]
  by_cases hij : i = j
  · subst hij
    by_cases hl : i < h.length
    · simp [hl]
    · simp [hl]
  · simp [hij]
theorem RelH.lt {ι : List Place} {h : Heap} {w : World} (R : RelH ι h w) {i : Nat} {b : Blk} (hb : hget h i = some b) : i < ι.length := by
  rw [R.len]; exact hget_lt hb
/-- A block's reading hangs on the world's block alone. -/
theorem BlkR.world {ι : List Place} {w w' : World} {p : Place} {b : Blk} (r : BlkR ι w p b) (hb : solid b = true → w'.heap[p.block]? = w.heap[p.block]?) (hs : w.heap.size ≤ w'.heap.size) : BlkR ι w' p b := by
  cases b with
  | void u => exact r
  | cells cs o u =>
    replace hb := hb rfl
    have hc : ∀ k, w'.cell? ⟨p.block, k, none⟩ = w.cell? ⟨p.block, k, none⟩ := fun k => by simp [World.cell?, hb]
    have hf : ∀ k, w'.frozen? ⟨p.block, k, none⟩ = w.frozen? ⟨p.block, k, none⟩ := fun k => by simp [World.frozen?, hb]
    obtain ⟨h1, h2, h3⟩ := r
    refine ⟨fun k x hx => by rw [hc]; exact h1 k x hx, Nat.lt_of_lt_of_le h2 hs, fun ho => ?_⟩
    obtain ⟨a, b, c⟩ := h3 ho
    exact ⟨a, b, fun k hk => by rw [hc, hf]; exact c k hk⟩
  | map es c =>
    obtain ⟨es', h1, h2⟩ := r
    exact ⟨es', by rw [hb rfl]; exact h1, h2⟩
theorem BlkR.mono {ι κ : List Place} (h : ι <+: κ) {w : World} {p : Place} {b : Blk} (r : BlkR ι w p b) : BlkR κ w p b := by
  cases b with
  | cells cs o u =>
    obtain ⟨h1, h2, h3⟩ := r
    exact ⟨fun k x hx => let ⟨y, a, b⟩ := h1 k x hx; ⟨y, a, b.mono h⟩, h2, h3⟩
  | map es c =>
    obtain ⟨es', h1, h2⟩ := r
    exact ⟨es', h1, h2.mono h⟩
  | void u => exact r
theorem owns_solid {b : Blk} (h : owns b = true) : solid b = true := by cases b <;> first | rfl | cases h
theorem BlkR.lt {ι : List Place} {w : World} {p : Place} {b : Blk} (r : BlkR ι w p b) (hs : solid b = true) : p.block < w.heap.size := by
  cases b with
  | cells cs o u => exact r.2.1
  | map es c =>
    obtain ⟨es', h1, _⟩ := r
    exact (Array.getElem?_eq_some_iff.1 h1).1
  | void u => cases hs
/-- The world with all blocks as they were. -/
theorem RelH.world {ι : List Place} {h : Heap} {w w' : World} (R : RelH ι h w) (hb : ∀ b, b < w.heap.size → w'.heap[b]? = w.heap[b]?) (hs : w.heap.size ≤ w'.heap.size) : RelH ι h w' :=
  ⟨R.len, fun i b hi => let ⟨p, hp, r⟩ := R.blk i b hi; ⟨p, hp, r.world (fun q => hb _ (r.lt q)) hs⟩, R.apart⟩
theorem Grow.world {ι : List Place} {h : Heap} {w w' : World} (hb : ∀ b, b < w.heap.size → w'.heap[b]? = w.heap[b]?) (hs : w.heap.size ≤ w'.heap.size) (ho : w'.os = w.os) (ht : w'.tape = w.tape) (hu : w'.output = w.output) : Grow ι h w ι h w' :=
  ⟨List.prefix_refl _, ho, ht, hu, hs, fun b hlt _ => hb b hlt, fun i c p h1 h2 h3 => .inl ⟨i, c, p, h1, h2, h3, rfl⟩⟩
/-- A draw. -/
theorem RelH.drew {ι : List Place} {h : Heap} {w : World} (R : RelH ι h w) (n : Nat) : RelH ι h { w with drawn := n } := R.world (fun _ _ => rfl) (Nat.le_refl _)
theorem Grow.drew {ι : List Place} {h : Heap} {w : World} (n : Nat) : Grow ι h w ι h { w with drawn := n } := .world (fun _ _ => rfl) (Nat.le_refl _) rfl rfl rfl
theorem heap_alloc_lt {w : World} {o : Obj} {b : Nat} (h : b < w.heap.size) : (w.alloc o).heap[b]? = w.heap[b]? := by
  show (w.heap.push o)[b]? = _
  rw [Array.getElem?_push, if_neg (by omega)]
/-- A new block. -/
theorem RelH.new {ι : List Place} {h : Heap} {w : World} (R : RelH ι h w) {c : Array Value} {e : TypeId} {cs : List Value} (hr : VRs ι cs (c.toList.take cs.length)) {room : Nat} (h1 : cs.length ≤ room) (h2 : room ≤ c.size) (unit : Nat) :
    RelH (ι ++ [⟨w.heap.size, 0, room, unit⟩]) (h ++ [some (.cells cs true unit)]) (w.alloc (.cells c e)) ∧
      Grow ι h w (ι ++ [⟨w.heap.size, 0, room, unit⟩]) (h ++ [some (.cells cs true unit)]) (w.alloc (.cells c e)) := by
  have hpre : ι <+: ι ++ [⟨w.heap.size, 0, room, unit⟩] := List.prefix_append _ _
  have hsz : (w.alloc (.cells c e)).heap.size = w.heap.size + 1 := by simp
  have hcell : ∀ k, (w.alloc (.cells c e)).cell? ⟨w.heap.size, k, none⟩ = c[k]? := fun k => by simp
  have hfz : ∀ k, (w.alloc (.cells c e)).frozen? ⟨w.heap.size, k, none⟩ = false := fun k => by simp
  have old : ∀ i b, hget h i = some b → ∃ p, (ι ++ [⟨w.heap.size, 0, room, unit⟩])[i]? = some p ∧ BlkR (ι ++ [⟨w.heap.size, 0, room, unit⟩]) (w.alloc (.cells c e)) p b ∧ (solid b = true → p.block < w.heap.size) ∧ ι[i]? = some p := by
    intro i b hi
    obtain ⟨p, hp, r⟩ := R.blk i b hi
    refine ⟨p, ?_, (r.world (fun q => heap_alloc_lt (r.lt q)) (by simp)).mono hpre, r.lt, hp⟩
    rw [List.getElem?_append_left (R.lt hi)]; exact hp
  have newb : (ι ++ [⟨w.heap.size, 0, room, unit⟩])[h.length]? = some ⟨w.heap.size, 0, room, unit⟩ := by
    rw [← R.len]; simp
  have which : ∀ i b, hget (h ++ [some (.cells cs true unit)]) i = some b → hget h i = some b ∧ i < h.length ∨ i = h.length ∧ b = .cells cs true unit := by
    intro i b hi
    have hlt := hget_lt hi
    by_cases hl : i < h.length
    · left; rw [hget_append hl] at hi; exact ⟨hi, hl⟩
    · right
      have : i = h.length := by simp at hlt; omega
      subst this
      have e := hget_append_new (h := h) (g := [some (Blk.cells cs true unit)]) (k := 0)
      simp only [Nat.add_zero] at e
      rw [e] at hi
      simp [hget] at hi
      exact ⟨rfl, hi.symm⟩
  refine ⟨⟨by simp [R.len], ?_, ?_⟩, hpre, rfl, rfl, rfl, by simp, fun b hb _ => heap_alloc_lt hb, ?_⟩
  · intro i b hi
    rcases which i b hi with ⟨ho, _⟩ | ⟨rfl, rfl⟩
    · obtain ⟨p, a, b, _⟩ := old i b ho; exact ⟨p, a, b⟩
    · refine ⟨_, newb, ?_, by simp, fun _ => ⟨h1, rfl, fun k hk => ?_⟩⟩
      · intro k x hx
        obtain ⟨y, hy, r⟩ := hr.get' hx
        refine ⟨y, ?_, r.mono hpre⟩
        simp only [Nat.zero_add, hcell]
        have hk : k < cs.length := (List.getElem?_eq_some_iff.1 hx).1
        rw [List.getElem?_take_of_lt hk] at hy
        simpa using hy
      · have hk' : k < room := hk
        simp only [Nat.zero_add, hcell, hfz]
        exact ⟨⟨c[k]'(by omega), by simp⟩, trivial⟩
  · intro i j b d p q hb ho hd hsd hij hp hq
    rcases which i b hb with ⟨h1', _⟩ | ⟨rfl, rfl⟩
    · obtain ⟨p', a1, _, a3, a4⟩ := old i b h1'
      rw [hp] at a1; simp at a1; subst a1
      rcases which j d hd with ⟨h2', _⟩ | ⟨rfl, rfl⟩
      · obtain ⟨q', b1, _, b3, b4⟩ := old j d h2'
        rw [hq] at b1; simp at b1; subst b1
        exact R.apart i j b d p q h1' ho h2' hsd hij a4 b4
      · rw [newb] at hq; simp at hq; subst hq
        exact Nat.ne_of_lt (a3 (owns_solid ho))
    · rw [newb] at hp; simp at hp; subst hp
      rcases which j d hd with ⟨h2', _⟩ | ⟨rfl, rfl⟩
      · obtain ⟨q', b1, _, b3, b4⟩ := old j d h2'
        rw [hq] at b1; simp at b1; subst b1
        exact (Nat.ne_of_lt (b3 hsd)).symm
      · exact absurd rfl hij
  · intro i b p hb ho hp
    rcases which i b hb with ⟨h1', _⟩ | ⟨rfl, rfl⟩
    · obtain ⟨p', a1, _, a3, a4⟩ := old i b h1'
      rw [hp] at a1; simp at a1; subst a1
      exact .inl ⟨i, b, p, h1', ho, a4, rfl⟩
    · rw [newb] at hp; simp at hp; subst hp
      exact .inr (Nat.le_refl _)
theorem RelH.forget {ι : List Place} {h : Heap} {w : World} (R : RelH ι h w) (i : Nat) : RelH ι (h.set i none) w := by
  have key : ∀ j b, hget (h.set i none) j = some b → hget h j = some b := by
    intro j b hj
    rw [hget_set] at hj
    split at hj
    · simp at hj
    · exact hj
  exact ⟨by simp [R.len], fun j b hj => R.blk j b (key j b hj), fun a c b d p q h1 h2 h3 => R.apart a c b d p q (key a b h1) h2 (key c d h3)⟩
theorem Grow.forget {ι : List Place} {h : Heap} {w : World} (i : Nat) : Grow ι h w ι (h.set i none) w := by
  refine ⟨List.prefix_refl _, rfl, rfl, rfl, Nat.le_refl _, fun _ _ _ => rfl, fun j c p h1 h2 h3 => .inl ⟨j, c, p, ?_, h2, h3, rfl⟩⟩
  rw [hget_set] at h1
  split at h1
  · simp at h1
  · exact h1
theorem World.heap_setCells {b : Nat} : ∀ (vs : List Value) (o : Nat) (w : World) (k : Nat), k ≠ b → (w.setCells b o vs).heap[k]? = w.heap[k]?
  | [], _, _, _, _ => rfl
  | v :: r, o, w, k, h => by
    rw [World.setCells, World.heap_setCells r (o + 1) _ k h]
    simp only [World.setCell, Array.getElem?_modify]
    rw [if_neg (by simpa using fun e => h e.symm)]
theorem World.size_setCells {b : Nat} : ∀ (vs : List Value) (o : Nat) (w : World), (w.setCells b o vs).heap.size = w.heap.size
  | [], _, _ => rfl
  | v :: r, o, w => by rw [World.setCells, World.size_setCells r]; simp [World.setCell]
theorem World.os_setCells {b : Nat} : ∀ (vs : List Value) (o : Nat) (w : World), (w.setCells b o vs).os = w.os ∧ (w.setCells b o vs).tape = w.tape ∧ (w.setCells b o vs).output = w.output
  | [], _, _ => ⟨rfl, rfl, rfl⟩
  | v :: r, o, w => by rw [World.setCells]; exact World.os_setCells r (o + 1) _
theorem setL_get_in : ∀ (us cs : List Value) (k j : Nat), j < us.length → k + us.length ≤ cs.length → (setL cs k us)[k + j]? = us[j]?
  | [], _, _, _, h, _ => by simp at h
  | u :: us, cs, k, j, h, hl => by
    cases j with
    | zero =>
      simp only [setL, Nat.add_zero]
      have : (setL (cs.set k u) (k + 1) us)[k]? = (cs.set k u)[k]? := by
        have key : ∀ (us cs : List Value) (m j : Nat), j < m → (setL cs m us)[j]? = cs[j]? := by
          intro us
          induction us with
          | nil => intro cs m j _; rfl
          | cons v us ih => intro cs m j hj; rw [setL, ih _ _ _ (by omega), List.getElem?_set_ne (by omega)]
        exact key us _ _ _ (by omega)
      rw [this]
      simp at hl
      simp [show k < cs.length by omega]
    | succ j =>
      have := setL_get_in us (cs.set k u) (k + 1) j (by simpa using h) (by simp at hl ⊢; omega)
      rw [show k + (j + 1) = k + 1 + j by omega, setL, this]; simp
theorem setL_get_out : ∀ (us cs : List Value) (k j : Nat), j < k ∨ k + us.length ≤ j → (setL cs k us)[j]? = cs[j]?
  | [], _, _, _, _ => rfl
  | u :: us, cs, k, j, h => by
    rw [setL, setL_get_out us _ _ _ (by simp at h; omega), List.getElem?_set_ne (by simp at h; omega)]
/-- Stores, in a row, into an own block. -/
theorem RelH.store' {ι : List Place} {h : Heap} {w : World} (R : RelH ι h w) {i k : Nat} {cs cs' : List Value} {unit : Nat} (hg : hget h i = some (.cells cs true unit)) {p : Place} (hp : ι[i]? = some p) {us vs : List Value} (hr : VRs ι us vs) (hk : k + us.length ≤ p.room) (hl' : cs'.length ≤ p.room)
    (hget' : ∀ j x, cs'[j]? = some x → (∃ m, j = k + m ∧ us[m]? = some x) ∨ ((j < k ∨ k + us.length ≤ j) ∧ cs[j]? = some x)) :
    RelH ι (h.set i (some (.cells cs' true unit))) (w.setCells p.block (p.off + k) vs) ∧ Grow ι h w ι (h.set i (some (.cells cs' true unit))) (w.setCells p.block (p.off + k) vs) ∧
      (∀ j, j < vs.length → (w.cell? ⟨p.block, p.off + k + j, none⟩).isSome = true) ∧ (∀ j, j < vs.length → w.frozen? ⟨p.block, p.off + k + j, none⟩ = false) := by
  obtain ⟨p', hp', hb⟩ := R.blk i _ hg
  rw [hp] at hp'; simp at hp'; subst hp'
  obtain ⟨hc, hlt, hown⟩ := hb
  obtain ⟨hroom, hunit, hcells⟩ := hown rfl
  have hlen := hr.length
  have c1 : ∀ j, j < vs.length → (w.cell? ⟨p.block, p.off + k + j, none⟩).isSome = true := fun j hj => by
    obtain ⟨⟨y, hy⟩, _⟩ := hcells (k + j) (by omega)
    rw [show p.off + k + j = p.off + (k + j) by omega, hy]; rfl
  have c2 : ∀ j, j < vs.length → w.frozen? ⟨p.block, p.off + k + j, none⟩ = false := fun j hj => by
    have := (hcells (k + j) (by omega)).2
    rw [show p.off + k + j = p.off + (k + j) by omega]; exact this
  have hin := fun j hj => World.cell?_setCells_in p.block vs (p.off + k) w c1 j hj
  have hout : ∀ q : Addr, (q.off < p.off + k ∨ p.off + k + vs.length ≤ q.off) → (w.setCells p.block (p.off + k) vs).cell? q = w.cell? q := fun q hq => World.cell?_setCells_out p.block vs _ w q (fun _ _ => hq)
  have hself : BlkR ι (w.setCells p.block (p.off + k) vs) p (.cells cs' true unit) := by
    refine ⟨?_, by rw [World.size_setCells]; exact hlt, fun _ => ⟨hl', hunit, fun j hj => ?_⟩⟩
    · intro j x hx
      rcases hget' j x hx with ⟨m, rfl, hm⟩ | ⟨hj, hx⟩
      · obtain ⟨y, hy, r⟩ := hr.get' hm
        refine ⟨y, ?_, r⟩
        have hml := (List.getElem?_eq_some_iff.1 hy).1
        have := hin m hml
        rw [show p.off + (k + m) = p.off + k + m by omega, this]
        rw [List.getElem?_eq_getElem hml] at hy; exact hy
      · obtain ⟨y, hy, r⟩ := hc j x hx
        exact ⟨y, by rw [hout _ (by simp; omega)]; exact hy, r⟩
    · constructor
      · by_cases hjk : j < k ∨ k + vs.length ≤ j
        · rw [hout _ (by simp; omega)]; exact (hcells j hj).1
        · have := hin (j - k) (by omega)
          rw [show p.off + j = p.off + k + (j - k) by omega, this]
          exact ⟨vs[j - k]'(by omega), rfl⟩
      · rw [World.frozen?_setCells]; exact (hcells j hj).2
  have which : ∀ j b, hget (h.set i (some (.cells cs' true unit))) j = some b → (j = i ∧ b = .cells cs' true unit) ∨ (j ≠ i ∧ hget h j = some b) := by
    intro j b hj
    rw [hget_set] at hj
    split at hj
    · rename_i hij; simp at hj; exact .inl ⟨hij.1.symm, hj.symm⟩
    · rename_i hij
      by_cases hji : j = i
      · subst hji; exact absurd ⟨rfl, hget_lt hg⟩ hij
      · exact .inr ⟨hji, hj⟩
  refine ⟨⟨by simp [R.len], ?_, ?_⟩, ⟨List.prefix_refl _, (World.os_setCells vs _ w).1, (World.os_setCells vs _ w).2.1, (World.os_setCells vs _ w).2.2, by rw [World.size_setCells]; exact Nat.le_refl _, ?_, ?_⟩, c1, c2⟩
  · intro j b hj
    rcases which j b hj with ⟨rfl, rfl⟩ | ⟨hji, hj⟩
    · exact ⟨p, hp, hself⟩
    · obtain ⟨q, hq, r⟩ := R.blk j b hj
      refine ⟨q, hq, r.world (fun hs => World.heap_setCells vs _ w _ ?_) (by rw [World.size_setCells]; exact Nat.le_refl _)⟩
      exact (R.apart i j _ b p q hg rfl hj hs (fun e => hji e.symm) hp hq).symm
  · intro a c b d q q' h1 h2 h3 hsd h4 h5 h6
    have own' : ∀ j b, hget (h.set i (some (.cells cs' true unit))) j = some b → ∃ b', hget h j = some b' ∧ (owns b = true → owns b' = true) ∧ (solid b = true → solid b' = true) := by
      intro j b hj
      rcases which j b hj with ⟨rfl, rfl⟩ | ⟨_, hj⟩
      · exact ⟨_, hg, fun _ => rfl, fun _ => rfl⟩
      · exact ⟨b, hj, id, id⟩
    obtain ⟨b', e1, e2, _⟩ := own' a b h1
    obtain ⟨d', e3, _, e4⟩ := own' c d h3
    exact R.apart a c b' d' q q' e1 (e2 h2) e3 (e4 hsd) h4 h5 h6
  · intro b _ hb
    exact World.heap_setCells vs _ w b (fun e => hb i _ p hg rfl hp e.symm)
  · intro j c q h1 h2 h3
    rcases which j c h1 with ⟨rfl, rfl⟩ | ⟨_, hj⟩
    · exact .inl ⟨j, _, q, hg, rfl, h3, rfl⟩
    · exact .inl ⟨j, c, q, hj, h2, h3, rfl⟩
theorem RelH.store {ι : List Place} {h : Heap} {w : World} (R : RelH ι h w) {i k : Nat} {cs : List Value} {unit : Nat} (hg : hget h i = some (.cells cs true unit)) {p : Place} (hp : ι[i]? = some p) {us vs : List Value} (hr : VRs ι us vs) (hk : k + us.length ≤ cs.length) :
    RelH ι (h.set i (some (.cells (setL cs k us) true unit))) (w.setCells p.block (p.off + k) vs) ∧ Grow ι h w ι (h.set i (some (.cells (setL cs k us) true unit))) (w.setCells p.block (p.off + k) vs) ∧
      (∀ j, j < vs.length → (w.cell? ⟨p.block, p.off + k + j, none⟩).isSome = true) ∧ (∀ j, j < vs.length → w.frozen? ⟨p.block, p.off + k + j, none⟩ = false) := by
  obtain ⟨p', hp', hb⟩ := R.blk i _ hg
  rw [hp] at hp'; simp at hp'; subst hp'
  have hroom := (hb.2.2 rfl).1
  refine R.store' hg hp hr (by omega) (by rw [setL_length]; exact hroom) fun j x hx => ?_
  by_cases hj : j < k ∨ k + us.length ≤ j
  · rw [setL_get_out us cs k j hj] at hx; exact .inr ⟨hj, hx⟩
  · have hj' : j = k + (j - k) := by omega
    rw [hj', setL_get_in us cs k (j - k) (by omega) hk] at hx
    exact .inl ⟨j - k, hj', hx⟩
/-- An own block, seen from another place on, under a new number; the old number is let go. -/
theorem RelH.moved {ι : List Place} {h : Heap} {w : World} (R : RelH ι h w) {i k : Nat} {cs : List Value} {unit : Nat} (hg : hget h i = some (.cells cs true unit)) {p : Place} (hp : ι[i]? = some p) (hk : k ≤ cs.length) :
    RelH (ι ++ [⟨p.block, p.off + k, p.room - k, unit⟩]) (h.set i none ++ [some (.cells (cs.drop k) true unit)]) w ∧ Grow ι h w (ι ++ [⟨p.block, p.off + k, p.room - k, unit⟩]) (h.set i none ++ [some (.cells (cs.drop k) true unit)]) w := by
  obtain ⟨p', hp', hb⟩ := R.blk i _ hg
  rw [hp] at hp'; simp at hp'; subst hp'
  obtain ⟨hc, hlt, hown⟩ := hb
  obtain ⟨hroom, hunit, hcells⟩ := hown rfl
  have hpre : ι <+: ι ++ [⟨p.block, p.off + k, p.room - k, unit⟩] := List.prefix_append _ _
  have hls : (h.set i none).length = h.length := by simp
  have newb : (ι ++ [⟨p.block, p.off + k, p.room - k, unit⟩])[h.length]? = some ⟨p.block, p.off + k, p.room - k, unit⟩ := by
    rw [← R.len]; simp
  have which : ∀ j b, hget (h.set i none ++ [some (.cells (cs.drop k) true unit)]) j = some b → (j ≠ i ∧ j < h.length ∧ hget h j = some b) ∨ (j = h.length ∧ b = .cells (cs.drop k) true unit) := by
    intro j b hj
    have hjl := hget_lt hj
    by_cases hl : j < h.length
    · rw [hget_append (by simpa using hl), hget_set] at hj
      split at hj
      · simp at hj
      · rename_i hij
        exact .inl ⟨fun e => hij ⟨e.symm, by rw [← e]; exact hl⟩, hl, hj⟩
    · have : j = h.length := by simp at hjl; omega
      subst this
      have e := hget_append_new (h := h.set i none) (g := [some (Blk.cells (cs.drop k) true unit)]) (k := 0)
      simp only [Nat.add_zero, hls] at e
      rw [e] at hj
      simp [hget] at hj
      exact .inr ⟨rfl, hj.symm⟩
  have oldp : ∀ j b q, hget h j = some b → (ι ++ [⟨p.block, p.off + k, p.room - k, unit⟩])[j]? = some q → ι[j]? = some q := by
    intro j b q hj hq
    rwa [List.getElem?_append_left (R.lt hj)] at hq
  refine ⟨⟨by simp [R.len], ?_, ?_⟩, hpre, rfl, rfl, rfl, Nat.le_refl _, fun _ _ _ => rfl, ?_⟩
  · intro j b hj
    rcases which j b hj with ⟨_, _, ho⟩ | ⟨rfl, rfl⟩
    · obtain ⟨q, hq, r⟩ := R.blk j b ho
      exact ⟨q, by rw [List.getElem?_append_left (R.lt ho)]; exact hq, r.mono hpre⟩
    · refine ⟨_, newb, ?_, hlt, fun _ => ⟨by simp; omega, rfl, fun m hm => ?_⟩⟩
      · intro m x hx
        rw [List.getElem?_drop] at hx
        obtain ⟨y, hy, r⟩ := hc _ x hx
        exact ⟨y, by rw [show p.off + k + m = p.off + (k + m) by omega]; exact hy, r.mono hpre⟩
      · have hm' : m < p.room - k := hm
        rw [show p.off + k + m = p.off + (k + m) by omega]
        exact hcells (k + m) (by omega)
  · intro j l b d q q' hb ho hd hsd hjl hq hq'
    rcases which j b hb with ⟨hji, _, h1⟩ | ⟨rfl, rfl⟩
    · rcases which l d hd with ⟨hli, _, h2⟩ | ⟨rfl, rfl⟩
      · exact R.apart j l b d q q' h1 ho h2 hsd hjl (oldp j b q h1 hq) (oldp l d q' h2 hq')
      · rw [newb] at hq'; simp at hq'; subst hq'
        exact R.apart j i b _ q p h1 ho hg rfl hji (oldp j b q h1 hq) hp
    · rw [newb] at hq; simp at hq; subst hq
      rcases which l d hd with ⟨hli, _, h2⟩ | ⟨rfl, rfl⟩
      · exact R.apart i l _ d p q' hg rfl h2 hsd (fun e => hli e.symm) hp (oldp l d q' h2 hq')
      · exact absurd rfl hjl
  · intro j c q hj ho hq
    rcases which j c hj with ⟨_, _, h1⟩ | ⟨rfl, rfl⟩
    · exact .inl ⟨j, c, q, h1, ho, oldp j c q h1 hq, rfl⟩
    · rw [newb] at hq; simp at hq; subst hq
      exact .inl ⟨i, _, p, hg, rfl, hp, rfl⟩
end Go.Sx
