/-
  Walks by Sx; no condition beyond those that stand in each statement.
-/
import Derived.Test.YtfjdbhgnnpmceaaSxb9
section
/-
  Sx, part AY: bytes that a slice tells. Own words; no condition.
-/
namespace Go.Sx
open Go
variable {P : Program} {ty : TypeId → Option TD}
/-- A slice of the bytes b, that may be cut. -/
def BS (H : Heap) (v : Value) (b : List UInt8) : Prop :=
  ∃ a c, v = .slice a b.length c ∧ ((a = none ∧ b = [] ∧ c = 0) ∨ ∃ i k cs, a = some ⟨i, k, none⟩ ∧ cellsAt H i = some cs ∧ slc cs k b.length = some (u8s b) ∧ (c < OPEN ∧ b.length ≤ c ∨ c = OPEN ∧ ownUnit H i = some 1))
theorem cellsAt_old {H : Heap} {i : Nat} {cs : List Value} (h : cellsAt H i = some cs) (L : Heap) : cellsAt (H ++ L) i = some cs := Agree.cellsAt (fun _ _ q => hget_old q L) h
theorem ownUnit_old {H : Heap} {i u : Nat} (h : ownUnit H i = some u) (L : Heap) : ownUnit (H ++ L) i = some u := Agree.ownUnit (fun _ _ q => hget_old q L) h
theorem BS.agree {H H' : Heap} (g : Agree H H') {v : Value} {b : List UInt8} (h : BS H v b) : BS H' v b := by
  obtain ⟨a, c, rfl, h⟩ := h
  refine ⟨a, c, rfl, ?_⟩
  rcases h with h | ⟨i, k, cs, rfl, h1, h2, h3⟩
  · exact .inl h
  · exact .inr ⟨i, k, cs, rfl, g.cellsAt h1, h2, h3.imp id fun ⟨e, q⟩ => ⟨e, g.ownUnit q⟩⟩
theorem BS.mono {H : Heap} {v : Value} {b : List UInt8} (h : BS H v b) (L : Heap) : BS (H ++ L) v b := h.agree fun _ _ q => hget_old q L
theorem BS.row {H : Heap} {a : Option Addr} {n c : Nat} {b : List UInt8} (h : BS H (.slice a n c) b) : rowOf 1 H (.slice a n c) = some (u8s b) ∧ b.length = n := by
  obtain ⟨a', c', e, h⟩ := h
  simp only [Value.slice.injEq] at e
  obtain ⟨rfl, rfl, rfl⟩ := e
  rcases h with ⟨rfl, rfl, rfl⟩ | ⟨i, k, cs, rfl, h1, h2, _⟩
  · exact ⟨rfl, rfl⟩
  · exact ⟨by simp only [rowOf, h1, Option.bind_some, Nat.mul_one, h2], rfl⟩
theorem bs_get {cs : List Value} {k n : Nat} {b : List UInt8} (h : slc cs k n = some (u8s b)) (hn : b.length = n) {j : Nat} (hj : j < n) : cs[k + j]? = some (.int .u8 (ix b j).toNat) := by
  obtain ⟨h1, h2⟩ := slc_some h
  have e : cs[k + j]? = ((cs.drop k).take n)[j]? := by rw [List.getElem?_take_of_lt hj, List.getElem?_drop]
  rw [e, ← h2]
  simp only [u8s, List.getElem?_map]
  rw [List.getElem?_eq_getElem (by omega), ix_eq (by omega)]
  rfl
theorem BS.view {H : Heap} {v : Value} {b : List UInt8} (h : BS H v b) : (v = .slice none 0 0 ∧ b = []) ∨ ∃ i k c cs, v = .slice (some ⟨i, k, none⟩) b.length c ∧ (∀ L, cellsB (hget (H ++ L) i) = some cs) ∧ ∀ j, j < b.length → cs[k + j]? = some (.int .u8 (ix b j).toNat) := by
  obtain ⟨a, c, rfl, h⟩ := h
  rcases h with ⟨rfl, rfl, rfl⟩ | ⟨i, k, cs, rfl, h1, h2, _⟩
  · exact .inl ⟨rfl, rfl⟩
  · exact .inr ⟨i, k, c, cs, rfl, fun L => by rw [← cellsAt_eq]; exact cellsAt_old h1 L, fun j hj => bs_get h2 rfl hj⟩
theorem slc_part {cs : List Value} {k : Nat} {b : List UInt8} (h : slc cs k b.length = some (u8s b)) {l u : Nat} (hl : l ≤ u) (hu : u ≤ b.length) : slc cs (k + l) (u - l) = some (u8s ((b.take u).drop l)) := by
  obtain ⟨h1, h2⟩ := slc_some h
  unfold slc
  rw [if_pos (by omega)]
  have e : u8s ((b.take u).drop l) = ((u8s b).take u).drop l := by simp [u8s, List.map_take, List.map_drop]
  rw [e, h2, List.take_take, Nat.min_eq_left hu, List.drop_take, List.drop_drop]
/-- A part of a slice of bytes. -/
theorem BS.cut {H : Heap} {a : Option Addr} {n c e : Nat} {b : List UInt8} {D : TD} (h : BS H (.slice a n c) b) (he : ty e = some D) (hs : D.size = 1) {l u : Nat} (hl : l ≤ u) (hu : u ≤ b.length) {lo hi : Option Value}
    (hlo : (lo = none ∧ l = 0) ∨ ∃ k, lo = some (.int k (l : Int))) (hhi : (hi = none ∧ u = b.length) ∨ ∃ k, hi = some (.int k (u : Int))) :
    ∃ a' c', (∀ H', Agree H H' → slcD ty H' (.slice e) (.slice a n c) lo hi none = some (.slice a' (u - l) c')) ∧ BS H (.slice a' (u - l) c') ((b.take u).drop l) := by
  have hlen : ((b.take u).drop l).length = u - l := by simp; omega
  obtain ⟨a', c', q, h⟩ := h
  simp only [Value.slice.injEq] at q
  obtain ⟨rfl, rfl, rfl⟩ := q
  have bl : ∀ x, boundC lo 0 u = some x ↔ x = l := by
    intro x
    rcases hlo with ⟨rfl, rfl⟩ | ⟨k, rfl⟩
    · simp; omega
    · simp [hl]; omega
  have bl' : boundC lo 0 u = some l := (bl l).2 rfl
  have bh : ∀ cap, b.length ≤ cap → boundC hi b.length cap = some u := by
    intro cap hc
    rcases hhi with ⟨rfl, rfl⟩ | ⟨k, rfl⟩
    · simp [hc]
    · simp; omega
  rcases h with ⟨rfl, rfl, rfl⟩ | ⟨i, k, cs, rfl, h1, h2, h3⟩
  · have hu0 : u = 0 := by simpa using hu
    subst hu0
    have hl0 : l = 0 := by omega
    subst hl0
    have h0O : ¬ (0 : Nat) = OPEN := by unfold OPEN; omega
    refine ⟨none, 0, fun H' _ => ?_, none, 0, rfl, .inl ⟨rfl, rfl, rfl⟩⟩
    have b0 : boundC hi 0 0 = some 0 := bh 0 (Nat.le_refl _)
    simp only [List.length_nil, slcD_nil, he, Option.bind_some, h0O, if_false, slcE_2, b0, bl']
  · rcases h3 with ⟨h3, h4⟩ | ⟨rfl, h3⟩
    · have hcO : ¬ c = OPEN := by omega
      have hcO' : ¬ c - l = OPEN := by omega
      by_cases hcl : c = l
      · subst hcl
        have hub : u = b.length := by omega
        have hcb : c = u := by omega
        refine ⟨some ⟨i, k, none⟩, 0, fun H' _ => ?_, some ⟨i, k, none⟩, 0, by rw [hlen], .inr ⟨i, k, cs, rfl, h1, ?_, .inl ⟨by unfold OPEN; omega, by rw [hlen]; omega⟩⟩⟩
        · simp only [slcD_slice, he, Option.bind_some, hcO, if_false, slcN_2, bh _ h4, bl', if_true, mkSl_eq, Nat.sub_self]
          rw [if_neg (by unfold OPEN; omega)]
        · have hz : (b.take u).drop c = [] := List.eq_nil_of_length_eq_zero (by rw [hlen]; omega)
          rw [hz]
          obtain ⟨q1, _⟩ := slc_some h2
          unfold slc
          rw [if_pos (by simp; omega)]
          simp [u8s]
      · refine ⟨some ⟨i, k + l, none⟩, c - l, fun H' _ => ?_, some ⟨i, k + l, none⟩, c - l, by rw [hlen], .inr ⟨i, k + l, cs, rfl, h1, ?_, .inl ⟨by omega, by rw [hlen]; omega⟩⟩⟩
        · simp only [slcD_slice, he, Option.bind_some, hcO, if_false, slcN_2, bh _ h4, bl', hcl, mkSl_eq, hs, Nat.mul_one, hcO']
        · rw [hlen]; exact slc_part h2 hl hu
    · refine ⟨some ⟨i, k + l, none⟩, OPEN, fun H' g => ?_, some ⟨i, k + l, none⟩, OPEN, by rw [hlen], .inr ⟨i, k + l, cs, rfl, h1, ?_, .inr ⟨rfl, h3⟩⟩⟩
      · simp only [slcD_slice, he, Option.bind_some, if_true, slcO_2, bh _ (Nat.le_refl _), bl', hs, Nat.mul_one, g.ownUnit h3]
      · rw [hlen]; exact slc_part h2 hl hu
theorem BS.grown {H : Heap} {i : Nat} {b : List UInt8} {n : Nat} (hg : hget H i = some (grown (u8s b) 1)) (hn : b.length = n) : BS H (.slice (some ⟨i, 0, none⟩) n OPEN) b := by
  subst hn
  refine ⟨_, OPEN, rfl, .inr ⟨i, 0, u8s b, rfl, by rw [cellsAt_eq, hg, cellsB_grown], ?_, .inr ⟨rfl, by rw [ownUnit_eq, hg, unitB_grown]⟩⟩⟩
  unfold slc
  rw [if_pos (by simp)]
  simp [List.take_of_length_le]
theorem BS.cells {H : Heap} {i k : Nat} {o : Bool} {u : Nat} {b b0 : List UInt8} {n c : Nat} (hg : hget H i = some (.cells (u8s b0) o u)) (hb : (b0.drop k).take n = b) (hk : k + n ≤ b0.length) (hc : n ≤ c) (hO : c < 1180591620717411303424) : BS H (.slice (some ⟨i, k, none⟩) n c) b := by
  have hn : b.length = n := by rw [← hb]; simp; omega
  refine ⟨_, c, by rw [hn], .inr ⟨i, k, u8s b0, rfl, by rw [cellsAt_eq, hg, cellsB_eq], ?_, .inl ⟨hO, by omega⟩⟩⟩
  unfold slc
  rw [if_pos (by simp; omega), hn, ← hb]
  simp [u8s, List.map_take, List.map_drop]
theorem BS.nil {H : Heap} : BS H (.slice none 0 0) [] := ⟨none, 0, rfl, .inl ⟨rfl, rfl, rfl⟩⟩
theorem typV_BS {h : Heap} {m : Nat} {t e : TypeId} {x : Value} (ht : P.underlying t = some (.slice e)) (he : P.underlying e = some (.int .u8)) (hc : P.cellsOf e = 1) (q : TypV P h (m + 2) t x) : ∃ b : List UInt8, BS h x b ∧ b.length ≤ maxLen := by
  unfold TypV at q
  rw [ht] at q
  simp only at q
  unfold Typ at q
  rw [ht] at q
  simp only [hc, Nat.mul_one] at q
  have hO : maxLen < OPEN := by decide +kernel
  rcases q with q | ⟨i, len, cap, l, h1, h2, h3, h4, h5, h6⟩
  · simp at q; subst q
    exact ⟨[], BS.nil, Nat.zero_le _⟩
  · simp at h1; subst h1
    obtain ⟨bs, rfl⟩ := u8_list l fun j hj => by
      have := h6 j (by omega)
      unfold Typ at this
      rw [he] at this
      exact this
    have hbl : bs.length = cap := by simpa using h5
    exact ⟨bs.take len, BS.cells h4 (by simp) (by omega) h2 (by rw [← OPEN_eq]; omega), by simp; omega⟩
/-- The same, told by units of another size. -/
theorem RelH.moved' (un : Nat) {ι : List Place} {h : Heap} {w : World} (R : RelH ι h w) {i k : Nat} {cs : List Value} {unit : Nat} (hg : hget h i = some (.cells cs true unit)) {p : Place} (hp : ι[i]? = some p) (hk : k ≤ cs.length) :
    RelH (ι ++ [⟨p.block, p.off + k, p.room - k, un⟩]) (h.set i none ++ [some (.cells (cs.drop k) true un)]) w ∧ Grow ι h w (ι ++ [⟨p.block, p.off + k, p.room - k, un⟩]) (h.set i none ++ [some (.cells (cs.drop k) true un)]) w := by
  obtain ⟨p', hp', hb⟩ := R.blk i _ hg
  rw [hp] at hp'; simp at hp'; subst hp'
  obtain ⟨hc, hlt, hown⟩ := hb
  obtain ⟨hroom, hunit, hcells⟩ := hown rfl
  have hpre : ι <+: ι ++ [⟨p.block, p.off + k, p.room - k, un⟩] := List.prefix_append _ _
  have hls : (h.set i none).length = h.length := by simp
  have newb : (ι ++ [⟨p.block, p.off + k, p.room - k, un⟩])[h.length]? = some ⟨p.block, p.off + k, p.room - k, un⟩ := by
    rw [← R.len]; simp
  have which : ∀ j b, hget (h.set i none ++ [some (.cells (cs.drop k) true un)]) j = some b → (j ≠ i ∧ j < h.length ∧ hget h j = some b) ∨ (j = h.length ∧ b = .cells (cs.drop k) true un) := by
    intro j b hj
    have hjl := hget_lt hj
    by_cases hl : j < h.length
    · rw [hget_append (by simpa using hl), hget_set] at hj
      split at hj
      · simp at hj
      · rename_i hij
        exact .inl ⟨fun e => hij ⟨e.symm, by rw [← e]; exact hl⟩, hl, hj⟩
    · have : j = h.length := by simp at hjl; omega
      subst this
      have e := hget_append_new (h := h.set i none) (g := [some (Blk.cells (cs.drop k) true un)]) (k := 0)
      simp only [Nat.add_zero, hls] at e
      rw [e] at hj
      simp [hget] at hj
      exact .inr ⟨rfl, hj.symm⟩
  have oldp : ∀ j b q, hget h j = some b → (ι ++ [⟨p.block, p.off + k, p.room - k, un⟩])[j]? = some q → ι[j]? = some q := by
    intro j b q hj hq
    rwa [List.getElem?_append_left (R.lt hj)] at hq
  refine ⟨⟨by simp [R.len], ?_, ?_⟩, hpre, rfl, rfl, rfl, Nat.le_refl _, fun _ _ _ => rfl, ?_⟩
  · intro j b hj
    rcases which j b hj with ⟨_, _, ho⟩ | ⟨rfl, rfl⟩
    · obtain ⟨q, hq, r⟩ := R.blk j b ho
      exact ⟨q, by rw [List.getElem?_append_left (R.lt ho)]; exact hq, r.mono hpre⟩
    · refine ⟨_, newb, ?_, hlt, fun _ => ⟨by simp; omega, rfl, fun m hm => ?_⟩⟩
      · intro m x hx
        rw [List.getElem?_drop] at hx
        obtain ⟨y, hy, r⟩ := hc _ x hx
        exact ⟨y, by rw [show p.off + k + m = p.off + (k + m) by omega]; exact hy, r.mono hpre⟩
      · have hm' : m < p.room - k := hm
        rw [show p.off + k + m = p.off + (k + m) by omega]
        exact hcells (k + m) (by omega)
  · intro j l b d q q' hb ho hd hsd hjl hq hq'
    rcases which j b hb with ⟨hji, _, h1⟩ | ⟨rfl, rfl⟩
    · rcases which l d hd with ⟨hli, _, h2⟩ | ⟨rfl, rfl⟩
      · exact R.apart j l b d q q' h1 ho h2 hsd hjl (oldp j b q h1 hq) (oldp l d q' h2 hq')
      · rw [newb] at hq'; simp at hq'; subst hq'
        exact R.apart j i b _ q p h1 ho hg rfl hji (oldp j b q h1 hq) hp
    · rw [newb] at hq; simp at hq; subst hq
      rcases which l d hd with ⟨hli, _, h2⟩ | ⟨rfl, rfl⟩
      · exact R.apart i l _ d p q' hg rfl h2 hsd (fun e => hli e.symm) hp (oldp l d q' h2 hq')
      · exact absurd rfl hjl
  · intro j c q hj ho hq
    rcases which j c hj with ⟨_, _, h1⟩ | ⟨rfl, rfl⟩
    · exact .inl ⟨j, c, q, h1, ho, oldp j c q h1 hq, rfl⟩
    · rw [newb] at hq; simp at hq; subst hq
      exact .inl ⟨i, _, p, hg, rfl, hp, rfl⟩
/-- A slice that is full, of a block of one's own, told as one that has grown. -/
theorem cw_open {P : Program} {N : Nat} (t z : Nat) {c : Code} {tm : List (Nat × Ent)} {h : Heap} {Q : Exit → St → Prop} {i n u : Nat} {cs : List Value} (ht : lk tm t = some (.v (.slice (some ⟨i, 0, none⟩) n n))) (hg : hget h i = some (.cells cs true u)) (hn : n * z = cs.length) (h0 : cs ≠ []) (hO : n < OPEN)
    (k : CW P N c ⟨(t, .v (.slice (some ⟨h.length, 0, none⟩) n OPEN)) :: tm, h.set i none ++ [some (grown cs z)]⟩ Q) : CW P N c ⟨tm, h⟩ Q := by
  intro ι ac w L
  obtain ⟨p, hp, hb⟩ := L.1.blk i _ hg
  obtain ⟨r1, r2⟩ := L.1.moved' z hg hp (k := 0) (Nat.zero_le _)
  simp only [List.drop_zero, Nat.add_zero, Nat.sub_zero] at r1 r2
  rw [cells_grown h0] at r1 r2
  have hpre : ι <+: ι ++ [⟨p.block, p.off, p.room, z⟩] := List.prefix_append _ _
  have newb : (ι ++ [⟨p.block, p.off, p.room, z⟩])[h.length]? = some ⟨p.block, p.off, p.room, z⟩ := by rw [← L.1.len]; simp
  have L' : Like (ι ++ [⟨p.block, p.off, p.room, z⟩]) ⟨(t, .v (.slice (some ⟨h.length, 0, none⟩) n OPEN)) :: tm, h.set i none ++ [some (grown cs z)]⟩ N ac w := by
    refine ⟨r1, L.2.1, L.2.2.1, fun t' e he => ?_⟩
    simp only [lk] at he
    split at he
    · rename_i htt; subst htt
      simp at he; subst he
      obtain ⟨y, hy, hr⟩ := L.2.2.2 t _ ht
      refine ⟨y, hy, ?_⟩
      have hr' : VR ι (.slice (some ⟨i, 0, none⟩) n n) y := hr
      show VR _ _ y
      rcases hr'.slice_inv with ⟨i', k', q, he, hq, hno, rfl⟩ | ⟨i', k', q, c', he, ho, hq, hlc, hrm, rfl⟩ | ⟨b, _, h0', rfl, _⟩ | ⟨ho, _⟩
      · simp at he; obtain ⟨rfl, rfl⟩ := he
        rw [hp] at hq; simp at hq; subst hq
        have := VR.sliceO (ι := ι ++ [⟨p.block, p.off, p.room, z⟩]) h.length 0 n n ⟨p.block, p.off, p.room, z⟩ newb (Nat.le_refl _) (by simp [hn]; exact (hb.2.2 rfl).1)
        simpa using this
      · exact absurd ho (by omega)
      · subst h0'
        exact .sliceE _ _ _ _ newb
      · exact absurd ho (by omega)
    · obtain ⟨y, hy, hr⟩ := L.2.2.2 t' e he
      exact ⟨y, hy, hr.mono hpre⟩
  exact Code.wp_mono (fun e a' w' q => Goes.trans r2 q) (k _ ac w L')
end Go.Sx
end
section
/-
  Sx, part AZ: more rules for loops. Own words; no condition.
-/
namespace Go.Sx
open Go
variable {P : Program} {X : Mode} {ty : TypeId → Option TD} {N : Nat}
@[congr] theorem req_congr {α : Type} {o o' : Option α} {K : α → Prop} (h : o = o') : req o K = req o' K := by rw [h]
/-- A loop that counts: what the state is at the head of each round, after what is not said but by Φ. -/
theorem W_forS {α : Type} (T : TyOk P ty) (X : Mode) {c : Code} {s : St} {Q : Exit → St → Prop} (S : Nat → α → St) (Φ : Nat → α → Prop) (n : Nat) (h0 : ∃ a, Φ 0 a ∧ subT (S 0 a).tm s.tm ∧ (S 0 a).h = s.h)
    (round : ∀ i a, i ≤ n → Φ i a → ∀ (K : St → Prop) (Q' : Exit → St → Prop), (∀ tm' h' a', i < n → Φ (i + 1) a' → subT (S (i + 1) a').tm tm' → (S (i + 1) a').h = h' → (S i a).h.length ≤ h'.length → K ⟨tm', h'⟩) → (∀ e s, Q e s → Q' e s) → W P X ty N c (S i a) (thenC K Q')) : CW P N (.loop c) s Q := by
  obtain ⟨a, h1, h2, h3⟩ := h0
  refine W_while T X (fun w s => ∃ i a, w = n - i ∧ i ≤ n ∧ Φ i a ∧ s = S i a) n (S 0 a) ⟨0, a, by omega, by omega, h1, rfl⟩ h2 h3 ?_
  rintro w s ⟨i, a, rfl, hi, hΦ, rfl⟩ K Q' hK hQ
  exact round i a hi hΦ K Q' (fun tm' h' a' h1 h2 h3 h4 h5 => hK _ ⟨n - (i + 1), S (i + 1) a', by omega, ⟨i + 1, a', rfl, by omega, h2, rfl⟩, h3, h4, by rw [h4]; exact h5⟩) hQ
end Go.Sx
end
