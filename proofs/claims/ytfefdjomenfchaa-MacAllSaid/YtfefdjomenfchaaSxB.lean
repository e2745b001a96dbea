/-
  Sx, part B: how canonical values, heaps and slots stand to a world. Own words; no condition.
-/
import Derived.Test.YtfefdjomenfchaaSxA
namespace Go.Sx
open Go

/-- Where a canonical block lies, and how many cells there are from there on. -/
structure Place where
  block : Nat
  off : Nat
  room : Nat
  unit : Nat

inductive VR (ι : List Place) : Value → Value → Prop
  | same (v : Value) : closed1 v = true → VR ι v v
  | ptr (i k : Nat) (p : Place) : ι[i]? = some p → VR ι (.pointer (some ⟨i, k, none⟩)) (.pointer (some ⟨p.block, p.off + k, none⟩))
  | slice (i k len cap : Nat) (p : Place) : ι[i]? = some p → cap ≠ OPEN → VR ι (.slice (some ⟨i, k, none⟩) len cap) (.slice (some ⟨p.block, p.off + k, none⟩) len cap)
  | sliceO (i k len cap : Nat) (p : Place) : ι[i]? = some p → len ≤ cap → k + cap * p.unit ≤ p.room → VR ι (.slice (some ⟨i, k, none⟩) len OPEN) (.slice (some ⟨p.block, p.off + k, none⟩) len cap)
  | sliceE (i k : Nat) (p : Place) (b : Addr) : ι[i]? = some p → VR ι (.slice (some ⟨i, k, none⟩) 0 OPEN) (.slice (some b) 0 0)
  | sliceN (i k : Nat) (p : Place) : ι[i]? = some p → VR ι (.slice (some ⟨i, k, none⟩) 0 OPEN) (.slice none 0 0)
  | sliceZ (i k : Nat) (p : Place) (b : Addr) : ι[i]? = some p → VR ι (.slice (some ⟨i, k, none⟩) 0 0) (.slice (some b) 0 0)
  | iface (t : TypeId) (x y : Value) : VR ι x y → VR ι (.iface t x) (.iface t y)
  | agg (xs ys : Array Value) : xs.size = ys.size → (∀ (k : Nat) (x y : Value), xs[k]? = some x → ys[k]? = some y → VR ι x y) → VR ι (.agg xs) (.agg ys)
  | tuple (xs ys : Array Value) : xs.size = ys.size → (∀ (k : Nat) (x y : Value), xs[k]? = some x → ys[k]? = some y → VR ι x y) → VR ι (.tuple xs) (.tuple ys)
  | func (fn : Fn) (xs ys us vs : Array Value) : xs.size = ys.size → (∀ (k : Nat) (x y : Value), xs[k]? = some x → ys[k]? = some y → VR ι x y) →
      us.size = vs.size → (∀ (k : Nat) (x y : Value), us[k]? = some x → vs[k]? = some y → VR ι x y) → VR ι (.func fn xs us) (.func fn ys vs)
  | map (i : Nat) (p : Place) : ι[i]? = some p → VR ι (.map (some i)) (.map (some p.block))

theorem VR.mono {ι κ : List Place} (h : ι <+: κ) {x y : Value} (r : VR ι x y) : VR κ x y := by
  have hg : ∀ {i : Nat} {p : Place}, ι[i]? = some p → κ[i]? = some p := by
    intro i p hi
    obtain ⟨t, rfl⟩ := h
    rw [List.getElem?_append_left (List.getElem?_eq_some_iff.1 hi).1]; exact hi
  induction r with
  | same v h => exact .same v h
  | ptr i k p hp => exact .ptr i k p (hg hp)
  | slice i k l c p hp hc => exact .slice i k l c p (hg hp) hc
  | sliceO i k l c p hp h1 h2 => exact .sliceO i k l c p (hg hp) h1 h2
  | sliceE i k p b hp => exact .sliceE i k p b (hg hp)
  | sliceN i k p hp => exact .sliceN i k p (hg hp)
  | sliceZ i k p b hp => exact .sliceZ i k p b (hg hp)
  | iface t x y _ ih => exact .iface t x y ih
  | agg xs ys hs _ ih => exact .agg xs ys hs ih
  | tuple xs ys hs _ ih => exact .tuple xs ys hs ih
  | func fn xs ys us vs h1 _ h2 _ i1 i2 => exact .func fn xs ys us vs h1 i1 h2 i2
  | map i p hp => exact .map i p (hg hp)

/-- Rows of values, pairwise. -/
def VRs (ι : List Place) : List Value → List Value → Prop
  | [], [] => True
  | x :: xs, y :: ys => VR ι x y ∧ VRs ι xs ys
  | _, _ => False
theorem VRs.mono {ι κ : List Place} (h : ι <+: κ) : ∀ {xs ys : List Value}, VRs ι xs ys → VRs κ xs ys
  | [], [], _ => trivial
  | _ :: _, _ :: _, ⟨a, b⟩ => ⟨a.mono h, VRs.mono h b⟩
  | [], _ :: _, h => h.elim
  | _ :: _, [], h => h.elim
theorem VRs.length {ι : List Place} : ∀ {xs ys : List Value}, VRs ι xs ys → xs.length = ys.length
  | [], [], _ => rfl
  | _ :: _, _ :: _, ⟨_, b⟩ => by simp [VRs.length b]
  | [], _ :: _, h => h.elim
  | _ :: _, [], h => h.elim
theorem VRs.get {ι : List Place} : ∀ {xs ys : List Value}, VRs ι xs ys → ∀ (k : Nat) (x y : Value), xs[k]? = some x → ys[k]? = some y → VR ι x y
  | [], _, _, _, _, _, h, _ => by simp at h
  | _ :: _, _ :: _, ⟨a, _⟩, 0, _, _, hx, hy => by simp at hx hy; subst hx; subst hy; exact a
  | _ :: _, _ :: _, ⟨_, b⟩, k + 1, _, _, hx, hy => VRs.get b k _ _ (by simpa using hx) (by simpa using hy)
  | _ :: _, [], h, _, _, _, _, _ => h.elim
theorem VRs.get' {ι : List Place} {xs ys : List Value} (h : VRs ι xs ys) {k : Nat} {x : Value} (hx : xs[k]? = some x) : ∃ y, ys[k]? = some y ∧ VR ι x y := by
  have hk : k < ys.length := by rw [← h.length]; exact (List.getElem?_eq_some_iff.1 hx).1
  exact ⟨ys[k], by simp [hk], h.get k x _ hx (by simp [hk])⟩
theorem VRs.of {ι : List Place} : ∀ {xs ys : List Value}, xs.length = ys.length → (∀ (k : Nat) (x y : Value), xs[k]? = some x → ys[k]? = some y → VR ι x y) → VRs ι xs ys
  | [], [], _, _ => trivial
  | _ :: _, _ :: _, hl, h => ⟨h 0 _ _ rfl rfl, VRs.of (by simpa using hl) fun k x y hx hy => h (k + 1) x y (by simpa using hx) (by simpa using hy)⟩
  | [], _ :: _, h, _ => by simp at h
  | _ :: _, [], h, _ => by simp at h
theorem VRs.append {ι : List Place} : ∀ {xs ys us vs : List Value}, VRs ι xs ys → VRs ι us vs → VRs ι (xs ++ us) (ys ++ vs)
  | [], [], _, _, _, h => h
  | _ :: _, _ :: _, _, _, ⟨a, b⟩, h => ⟨a, VRs.append b h⟩
  | [], _ :: _, _, _, h, _ => h.elim
  | _ :: _, [], _, _, h, _ => h.elim
theorem VRs.drop {ι : List Place} : ∀ {xs ys : List Value} (k : Nat), VRs ι xs ys → VRs ι (xs.drop k) (ys.drop k)
  | _, _, 0, h => h
  | [], [], _ + 1, _ => trivial
  | _ :: _, _ :: _, k + 1, ⟨_, b⟩ => VRs.drop k b
  | [], _ :: _, _, h => h.elim
  | _ :: _, [], _, h => h.elim
theorem VRs.take {ι : List Place} : ∀ {xs ys : List Value} (k : Nat), VRs ι xs ys → VRs ι (xs.take k) (ys.take k)
  | _, _, 0, _ => by simp [VRs]
  | [], [], _ + 1, _ => trivial
  | _ :: _, _ :: _, k + 1, ⟨a, b⟩ => ⟨a, VRs.take k b⟩
  | [], _ :: _, _, h => h.elim
  | _ :: _, [], _, h => h.elim
theorem VRs.set {ι : List Place} {x y : Value} (hv : VR ι x y) : ∀ {xs ys : List Value} (k : Nat), VRs ι xs ys → VRs ι (xs.set k x) (ys.set k y)
  | [], [], _, _ => trivial
  | _ :: _, _ :: _, 0, ⟨_, b⟩ => ⟨hv, b⟩
  | _ :: _, _ :: _, k + 1, ⟨a, b⟩ => ⟨a, VRs.set hv k b⟩
  | [], _ :: _, _, h => h.elim
  | _ :: _, [], _, h => h.elim
theorem VRs.setL {ι : List Place} : ∀ {us vs : List Value}, VRs ι us vs → ∀ {xs ys : List Value} (k : Nat), VRs ι xs ys → VRs ι (setL xs k us) (setL ys k vs)
  | [], [], _, _, _, _, h => h
  | _ :: _, _ :: _, ⟨a, b⟩, _, _, k, h => VRs.setL b (k + 1) (VRs.set a k h)
  | [], _ :: _, h, _, _, _, _ => h.elim
  | _ :: _, [], h, _, _, _, _ => h.elim
theorem VRs.closed {ι : List Place} : ∀ {xs : List Value}, (∀ x ∈ xs, closed1 x = true) → VRs ι xs xs
  | [], _ => trivial
  | x :: _, h => ⟨.same x (h x (by simp)), VRs.closed fun y hy => h y (by simp [hy])⟩
theorem VR.agg' {ι : List Place} {xs ys : Array Value} (h : VRs ι xs.toList ys.toList) : VR ι (.agg xs) (.agg ys) :=
  .agg xs ys (by simpa using h.length) fun k x y hx hy => h.get k x y (by simpa using hx) (by simpa using hy)
theorem VR.tuple' {ι : List Place} {xs ys : Array Value} (h : VRs ι xs.toList ys.toList) : VR ι (.tuple xs) (.tuple ys) :=
  .tuple xs ys (by simpa using h.length) fun k x y hx hy => h.get k x y (by simpa using hx) (by simpa using hy)
theorem VR.agg_inv {ι : List Place} {xs : Array Value} {y : Value} (h : VR ι (.agg xs) y) : ∃ ys : Array Value, y = .agg ys ∧ VRs ι xs.toList ys.toList := by
  cases h with
  | same _ h => simp [closed1] at h
  | agg _ ys hs hk => exact ⟨ys, rfl, .of (by simpa using hs) fun k x y hx hy => hk k x y (by simpa using hx) (by simpa using hy)⟩
theorem VR.tuple_inv {ι : List Place} {xs : Array Value} {y : Value} (h : VR ι (.tuple xs) y) : ∃ ys : Array Value, y = .tuple ys ∧ VRs ι xs.toList ys.toList := by
  cases h with
  | same _ h => simp [closed1] at h
  | tuple _ ys hs hk => exact ⟨ys, rfl, .of (by simpa using hs) fun k x y hx hy => hk k x y (by simpa using hx) (by simpa using hy)⟩
theorem VR.func_inv {ι : List Place} {fn : Fn} {xs us : Array Value} {y : Value} (h : VR ι (.func fn xs us) y) :
    ∃ ys vs : Array Value, y = .func fn ys vs ∧ VRs ι xs.toList ys.toList ∧ VRs ι us.toList vs.toList := by
  cases h with
  | same _ h => simp [closed1] at h
  | func _ _ ys _ vs h1 k1 h2 k2 =>
    exact ⟨ys, vs, rfl, .of (by simpa using h1) fun k x y hx hy => k1 k x y (by simpa using hx) (by simpa using hy), .of (by simpa using h2) fun k x y hx hy => k2 k x y (by simpa using hx) (by simpa using hy)⟩
theorem VR.closed_inv {ι : List Place} {x y : Value} (h : VR ι x y) (hc : closed1 x = true) : y = x := by
  cases h <;> first | rfl | (simp [closed1] at hc)
theorem VR.int_inv {ι : List Place} {k : IntKind} {n : Int} {y : Value} (h : VR ι (.int k n) y) : y = .int k n := h.closed_inv rfl
theorem VR.bool_inv {ι : List Place} {b : Bool} {y : Value} (h : VR ι (.bool b) y) : y = .bool b := h.closed_inv rfl
theorem VR.string_inv {ι : List Place} {b : ByteArray} {y : Value} (h : VR ι (.string b) y) : y = .string b := h.closed_inv rfl
theorem VR.ptr_inv {ι : List Place} {i k : Nat} {y : Value} (h : VR ι (.pointer (some ⟨i, k, none⟩)) y) : ∃ p, ι[i]? = some p ∧ y = .pointer (some ⟨p.block, p.off + k, none⟩) := by
  cases h with
  | same _ h => simp [closed1] at h
  | ptr _ _ p hp => exact ⟨p, hp, rfl⟩
theorem VR.ptr_inv' {ι : List Place} {a : Addr} {y : Value} (h : VR ι (.pointer (some a)) y) : ∃ i k p, a = ⟨i, k, none⟩ ∧ ι[i]? = some p ∧ y = .pointer (some ⟨p.block, p.off + k, none⟩) := by
  cases h with
  | same _ h => simp [closed1] at h
  | ptr i k p hp => exact ⟨i, k, p, rfl, hp, rfl⟩
theorem VR.iface_inv {ι : List Place} {t : TypeId} {x y : Value} (h : VR ι (.iface t x) y) : ∃ z, y = .iface t z ∧ VR ι x z := by
  cases h with
  | same _ h => simp [closed1] at h
  | iface _ _ z hz => exact ⟨z, rfl, hz⟩
/-- What a slice is. -/
theorem VR.slice_inv {ι : List Place} {a : Addr} {len cap : Nat} {y : Value} (h : VR ι (.slice (some a) len cap) y) :
    (∃ i k p, a = ⟨i, k, none⟩ ∧ ι[i]? = some p ∧ cap ≠ OPEN ∧ y = .slice (some ⟨p.block, p.off + k, none⟩) len cap) ∨
    (∃ i k p c, a = ⟨i, k, none⟩ ∧ cap = OPEN ∧ ι[i]? = some p ∧ len ≤ c ∧ k + c * p.unit ≤ p.room ∧ y = .slice (some ⟨p.block, p.off + k, none⟩) len c) ∨
    (∃ b, (cap = OPEN ∨ cap = 0) ∧ len = 0 ∧ y = .slice (some b) 0 0 ∧ ∃ i k p, a = ⟨i, k, none⟩ ∧ ι[i]? = some p) ∨
    (cap = OPEN ∧ len = 0 ∧ y = .slice none 0 0 ∧ ∃ i k p, a = ⟨i, k, none⟩ ∧ ι[i]? = some p) := by
  cases h with
  | same _ h => simp [closed1] at h
  | slice i k _ _ p hp hc => exact .inl ⟨i, k, p, rfl, hp, hc, rfl⟩
  | sliceO i k _ c p hp h1 h2 => exact .inr (.inl ⟨i, k, p, c, rfl, rfl, hp, h1, h2, rfl⟩)
  | sliceE i k p b hp => exact .inr (.inr (.inl ⟨b, .inl rfl, rfl, rfl, i, k, p, rfl, hp⟩))
  | sliceN i k p hp => exact .inr (.inr (.inr ⟨rfl, rfl, rfl, i, k, p, rfl, hp⟩))
  | sliceZ i k p b hp => exact .inr (.inr (.inl ⟨b, .inr rfl, rfl, rfl, i, k, p, rfl, hp⟩))
theorem VR.cells {ι : List Place} {x y : Value} (h : VR ι x y) : VRs ι x.cells.toList y.cells.toList := by
  by_cases hx : ∃ xs, x = .agg xs
  · obtain ⟨xs, rfl⟩ := hx
    obtain ⟨ys, rfl, hr⟩ := h.agg_inv
    exact hr
  · have hy : ¬ ∃ ys, y = .agg ys := by
      rintro ⟨ys, rfl⟩
      cases h with
      | same _ h => simp [closed1] at h
      | agg xs _ _ _ => exact hx ⟨xs, rfl⟩
    have e : ∀ z : Value, (¬ ∃ zs, z = .agg zs) → z.cells = #[z] := by
      intro z hz
      cases z <;> first | rfl | exact absurd ⟨_, rfl⟩ hz
    rw [e x hx, e y hy]
    exact ⟨h, trivial⟩
theorem VR.one1 {ι : List Place} {x y : Value} (h : VR ι x y) (ho : one1 x = true) : one1 y = true := by
  cases h <;> first | exact ho | rfl | (simp [Sx.one1] at ho)

/-- A map's entries, pairwise. -/
def EsR (ι : List Place) : List MapEntry → List MapEntry → Prop
  | [], [] => True
  | x :: xs, y :: ys => VR ι x.key y.key ∧ VR ι x.val y.val ∧ x.born = y.born ∧ EsR ι xs ys
  | _, _ => False
theorem EsR.mono {ι κ : List Place} (h : ι <+: κ) : ∀ {xs ys : List MapEntry}, EsR ι xs ys → EsR κ xs ys
  | [], [], _ => trivial
  | _ :: _, _ :: _, ⟨a, b, c, d⟩ => ⟨a.mono h, b.mono h, c, EsR.mono h d⟩
  | [], _ :: _, h => h.elim
  | _ :: _, [], h => h.elim

/-- What a block of the canonical heap says of the world. -/
def BlkR (ι : List Place) (w : World) (p : Place) : Blk → Prop
  | .cells cs own unit => (∀ k x, cs[k]? = some x → ∃ y, w.cell? ⟨p.block, p.off + k, none⟩ = some y ∧ VR ι x y) ∧ p.block < w.heap.size ∧
      (own = true → cs.length ≤ p.room ∧ p.unit = unit ∧ ∀ k, k < p.room → (∃ y, w.cell? ⟨p.block, p.off + k, none⟩ = some y) ∧ w.frozen? ⟨p.block, p.off + k, none⟩ = false)
  | .map es clock => ∃ es', w.heap[p.block]? = some (.map es' clock) ∧ EsR ι es es'.toList
  | .void u => p.room = 0 ∧ p.unit = u
def owns : Blk → Bool
  | .cells _ o _ => o
  | .map _ _ => true
  | .void _ => false
/-- Whether there is anything in it. -/
def solid : Blk → Bool
  | .void _ => false
  | _ => true
/-- The heap. -/
structure RelH (ι : List Place) (h : Heap) (w : World) : Prop where
  len : ι.length = h.length
  blk : ∀ i b, hget h i = some b → ∃ p, ι[i]? = some p ∧ BlkR ι w p b
  apart : ∀ i j b c p q, hget h i = some b → owns b = true → hget h j = some c → solid c = true → i ≠ j → ι[i]? = some p → ι[j]? = some q → p.block ≠ q.block
/-- What became of the world: only own blocks may have turned. -/
structure Grow (ι : List Place) (h : Heap) (w : World) (κ : List Place) (h' : Heap) (w' : World) : Prop where
  pre : ι <+: κ
  os : w'.os = w.os
  tape : w'.tape = w.tape
  output : w'.output = w.output
  size : w.heap.size ≤ w'.heap.size
  keep : ∀ b, b < w.heap.size → (∀ i c p, hget h i = some c → owns c = true → ι[i]? = some p → p.block ≠ b) → w'.heap[b]? = w.heap[b]?
  own : ∀ i c p, hget h' i = some c → owns c = true → κ[i]? = some p → (∃ j d q, hget h j = some d ∧ owns d = true ∧ ι[j]? = some q ∧ p.block = q.block) ∨ w.heap.size ≤ p.block
theorem Grow.refl (ι : List Place) (h : Heap) (w : World) : Grow ι h w ι h w :=
  ⟨List.prefix_refl _, rfl, rfl, rfl, Nat.le_refl _, fun _ _ _ => rfl, fun i c p h1 h2 h3 => .inl ⟨i, c, p, h1, h2, h3, rfl⟩⟩
theorem Grow.trans {ι κ μ : List Place} {h h' h'' : Heap} {w w' w'' : World} (g : Grow ι h w κ h' w') (g' : Grow κ h' w' μ h'' w'') : Grow ι h w μ h'' w'' where
  pre := g.pre.trans g'.pre
  os := g'.os.trans g.os
  tape := g'.tape.trans g.tape
  output := g'.output.trans g.output
  size := Nat.le_trans g.size g'.size
  keep := fun b hb hk => by
    rw [g'.keep b (Nat.lt_of_lt_of_le hb g.size) ?_, g.keep b hb hk]
    intro i c p h1 h2 h3 e
    rcases g.own i c p h1 h2 h3 with ⟨j, d, q, a1, a2, a3, a4⟩ | hle
    · exact hk j d q a1 a2 a3 (a4.symm.trans e)
    · omega
  own := fun i c p h1 h2 h3 => by
    rcases g'.own i c p h1 h2 h3 with ⟨j, d, q, a1, a2, a3, a4⟩ | hle
    · rcases g.own j d q a1 a2 a3 with ⟨j', d', q', b1, b2, b3, b4⟩ | hle
      · exact .inl ⟨j', d', q', b1, b2, b3, a4.trans b4⟩
      · exact .inr (by omega)
    · exact .inr (Nat.le_trans g.size hle)
/-- Slots. -/
def ER (ι : List Place) : Ent → Value → Prop
  | .v x, y => VR ι x y
  | .g β x, y => if β = true then VR ι x y else y = undef
def RelT (ι : List Place) (tm : List (Nat × Ent)) (N : Nat) (a : Act) : Prop :=
  a.defers = [] ∧ a.tmps.size = N ∧ ∀ t e, lk tm t = some e → ∃ y, a.tmps[t]? = some y ∧ ER ι e y
theorem ER.mono {ι κ : List Place} (h : ι <+: κ) {e : Ent} {y : Value} (r : ER ι e y) : ER κ e y := by
  cases e with
  | v x => exact VR.mono h r
  | g β x =>
    simp only [ER] at *
    by_cases hb : β = true
    · rw [if_pos hb] at *; exact VR.mono h r
    · rw [if_neg hb] at *; exact r
theorem RelT.mono {ι κ : List Place} (h : ι <+: κ) {tm : List (Nat × Ent)} {N : Nat} {a : Act} (r : RelT ι tm N a) : RelT κ tm N a :=
  ⟨r.1, r.2.1, fun t e ht => let ⟨y, h1, h2⟩ := r.2.2 t e ht; ⟨y, h1, h2.mono h⟩⟩
/-- An operand's value. -/
theorem RelT.ev {ι : List Place} {tm : List (Nat × Ent)} {N : Nat} {a : Act} (r : RelT ι tm N a) {γ : Bool} (hγ : γ = true) {x : Operand} {v : Value} (h : Sx.ev γ tm x = some v) : VR ι v (a.eval x) := by
  cases x with
  | tmp t =>
    simp only [Sx.ev] at h
    cases hl : lk tm t with
    | none => simp [hl] at h
    | some e =>
      obtain ⟨y, hy, he⟩ := r.2.2 t e hl
      have ha : a.eval (.tmp t) = y := by simp [Act.eval, hy]
      rw [ha]
      cases e with
      | v x => simp [hl] at h; subst h; exact he
      | g β x =>
        simp only [hl] at h
        split at h
        · rename_i hb
          simp at h; subst h
          simp only [ER, hb hγ, if_true] at he
          exact he
        · simp at h
  | const c =>
    simp only [Sx.ev] at h
    split at h
    · rename_i hc; simp at h; subst h; exact .same _ hc
    · simp at h
  | global g => simp [Sx.ev] at h
  | func f =>
    simp [Sx.ev] at h; subst h
    exact .func _ _ _ _ _ rfl (fun k x y hx => by simp at hx) rfl (fun k x y hx => by simp at hx)
theorem RelT.evs {ι : List Place} {tm : List (Nat × Ent)} {N : Nat} {a : Act} (r : RelT ι tm N a) {γ : Bool} (hγ : γ = true) : ∀ {xs : List Operand} {vs : List Value}, Sx.evs γ tm xs = some vs → VRs ι vs (xs.map a.eval)
  | [], vs, h => by simp [Sx.evs, all2] at h; subst h; trivial
  | x :: xs, vs, h => by
    simp only [Sx.evs, List.map_cons, all2, Option.bind_eq_some_iff, Option.map_eq_some_iff] at h
    obtain ⟨v, hv, l, hl, rfl⟩ := h
    exact ⟨r.ev hγ hv, RelT.evs r hγ (xs := xs) hl⟩
theorem RelT.put {ι : List Place} {tm : List (Nat × Ent)} {N : Nat} {a : Act} (r : RelT ι tm N a) {d : Option Tmp} (hd : ∀ t, d = some t → t < N) {e : Ent} {y : Value} (he : ER ι e y) : RelT ι (Sx.put d e tm) N (a.put d y) := by
  cases d with
  | none => exact r
  | some t =>
    refine ⟨r.1, by simp [Act.put, r.2.1], fun u e' hu => ?_⟩
    simp only [Sx.put, lk] at hu
    split at hu
    · rename_i htu
      subst htu
      simp at hu; subst hu
      refine ⟨y, ?_, he⟩
      have := hd t rfl
      simp [Act.put, r.2.1, this]
    · rename_i htu
      obtain ⟨z, hz, hz'⟩ := r.2.2 u e' hu
      exact ⟨z, by simp [Act.put, Array.getElem?_setIfInBounds_ne htu, hz], hz'⟩
/-- What is known of the types is so. -/
structure TyOk (P : Program) (ty : TypeId → Option TD) : Prop where
  und : ∀ t d, ty t = some d → P.underlying t = some d.desc
  inf : ∀ t d, ty t = some d → ∃ i v, P.info? t = some i ∧ i.size = d.size ∧ i.bytes = d.bytes ∧ i.zero = some v ∧ v.cells.toList = d.zero ∧ d.zero.length = d.size ∧ (∀ z ∈ d.zero, closed1 z = true)
  eqf : ∀ t d, ty t = some d → d.eqf = true → ∀ (w : World) xs ys b, flatEq d.zero xs ys = some b → (Op.equal t (.agg xs.toArray) (.agg ys.toArray)).run P w = .ok b w ∧ P.eqGuardType P.depth t = false
end Go.Sx
