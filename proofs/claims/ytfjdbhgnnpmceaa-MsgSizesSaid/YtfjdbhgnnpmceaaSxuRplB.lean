/-
  Walks by Sx; no condition beyond those that stand in each statement.
-/
import Derived.Test.YtfjdbhgnnpmceaaSxuRplA
namespace Go.Proofs
open Go Go.Sx
set_option maxRecDepth 100000
/-- A reply, and what of it is no int as ints. -/
structure An where
  kind : Int
  seq : Int
  role : Int
  who : Int
  epoch : Int
  cod0 : Int
  m0 : UInt8
  m1 : UInt8
  m2 : UInt8
  m3 : UInt8
  m4 : UInt8
  m5 : UInt8
  m6 : UInt8
  m7 : UInt8
  code : Int
  n0 : Int
  n1 : Int
  n2 : Int
  n3 : Int
  n4 : Int
  n5 : Int
  n6 : Int
  n7 : Int
deriving DecidableEq
def An.cells (a : An) : List Value := [.int .i64 a.kind, .int .i64 a.seq, .int .i64 a.role, .int .i64 a.who, .int .i64 a.epoch, .int .i64 a.cod0, .int .u8 a.m0.toNat, .int .u8 a.m1.toNat, .int .u8 a.m2.toNat, .int .u8 a.m3.toNat, .int .u8 a.m4.toNat, .int .u8 a.m5.toNat, .int .u8 a.m6.toNat, .int .u8 a.m7.toNat, .int .i64 a.code, .int .i64 a.n0, .int .i64 a.n1, .int .i64 a.n2, .int .i64 a.n3, .int .i64 a.n4, .int .i64 a.n5, .int .i64 a.n6, .int .i64 a.n7]
@[simp] theorem An.cells_length (a : An) : a.cells.length = 23 := rfl
def An.zero : An := ⟨0, 0, 0, 0, 0, 0, 0, 0, 0, 0, 0, 0, 0, 0, 0, 0, 0, 0, 0, 0, 0, 0, 0⟩
def An.of (k : Int) : An := ⟨k, 0, 0, 0, 0, 0, 0, 0, 0, 0, 0, 0, 0, 0, 0, 0, 0, 0, 0, 0, 0, 0, 0⟩
def An.get (a : An) : Nat → Int
  | 0 => a.kind | 1 => a.seq | 2 => a.role | 3 => a.who | 4 => a.epoch | 5 => a.cod0 | 14 => a.code | 15 => a.n0 | 16 => a.n1 | 17 => a.n2 | 18 => a.n3 | 19 => a.n4 | 20 => a.n5 | 21 => a.n6 | 22 => a.n7 | _ => 0
def An.put (a : An) (k : Nat) (v : Int) : An :=
  match k with
  | 0 => { a with kind := v } | 1 => { a with seq := v } | 2 => { a with role := v } | 3 => { a with who := v } | 4 => { a with epoch := v } | 5 => { a with cod0 := v } | 14 => { a with code := v } | 15 => { a with n0 := v } | 16 => { a with n1 := v } | 17 => { a with n2 := v } | 18 => { a with n3 := v } | 19 => { a with n4 := v } | 20 => { a with n5 := v } | 21 => { a with n6 := v } | 22 => { a with n7 := v } | _ => a
def okA (k : Nat) : Prop := k = 0 ∨ k = 1 ∨ k = 2 ∨ k = 3 ∨ k = 4 ∨ k = 5 ∨ k = 14 ∨ k = 15 ∨ k = 16 ∨ k = 17 ∨ k = 18 ∨ k = 19 ∨ k = 20 ∨ k = 21 ∨ k = 22
theorem An.get_cells (a : An) {k : Nat} (h : okA k) : a.cells[k]? = some (.int .i64 (a.get k)) := by
  rcases h with rfl | rfl | rfl | rfl | rfl | rfl | rfl | rfl | rfl | rfl | rfl | rfl | rfl | rfl | rfl <;> rfl
theorem An.put_cells (a : An) {k : Nat} (h : okA k) (v : Int) : a.cells.set k (.int .i64 v) = (a.put k v).cells := by
  rcases h with rfl | rfl | rfl | rfl | rfl | rfl | rfl | rfl | rfl | rfl | rfl | rfl | rfl | rfl | rfl <;> rfl
def wrR : List Fs → An → List UInt8 → Option (List UInt8 × An)
  | [], a, o => some (o, a)
  | f :: r, a, o => if a.get f.k < f.lo ∨ f.hi < a.get f.k then none else wrR r (a.put f.k 0) (o ++ f.bytes (a.get f.k))
def rdR : List Fs → An → List UInt8 → Option An
  | [], a, b => if b = [] then some a else none
  | f :: r, a, b => if b.length < f.sz then none else if f.num (b.take f.sz) < f.lo ∨ f.hi < f.num (b.take f.sz) then none else rdR r (a.put f.k (f.num (b.take f.sz))) (b.drop f.sz)
def Fs.goodA (f : Fs) : Prop := f.now = false ∧ okA f.k
theorem goodA_rd {f : Fs} (h : f.goodA) (a : An) (B : List Value) : f.rd a.cells B = a.get f.k ∧ f.stA a.cells = (fun v => (a.put f.k v).cells) ∧ f.stB B = (fun _ => B) ∧ f.at a.cells B := by
  obtain ⟨now, k, lo, hi, sz, ax⟩ := f
  obtain ⟨rfl, h⟩ := h
  refine ⟨?_, ?_, ?_, a.get k, ?_⟩
  · simp only [Fs.rd, Fs.sel, Bool.false_eq_true, if_false]; rw [An.get_cells a h]
  · funext v; simp only [Fs.stA, Bool.false_eq_true, if_false]; exact An.put_cells a h v
  · funext v; simp [Fs.stB]
  · simp only [Fs.sel, Bool.false_eq_true, if_false]; exact An.get_cells a h
theorem wrV_A : ∀ (fs : List Fs) (a : An) (B : List Value) (o : List UInt8), (∀ f ∈ fs, f.goodA) → wrV fs a.cells B o = (wrR fs a o).map fun p => (p.1, p.2.cells, B)
  | [], a, B, o, _ => rfl
  | f :: r, a, B, o, h => by
    obtain ⟨h1, h2, h3, _⟩ := goodA_rd (h f (by simp)) a B
    simp only [wrV, wrR, h1, h2, h3]
    split
    · rfl
    · exact wrV_A r _ _ _ fun g hg => h g (by simp [hg])
theorem rdV_A : ∀ (fs : List Fs) (a : An) (B : List Value) (b : List UInt8), (∀ f ∈ fs, f.goodA) → rdV fs a.cells B b = (rdR fs a b).map fun p => (p.cells, B)
  | [], a, B, b, _ => by simp only [rdV, rdR]; split <;> rfl
  | f :: r, a, B, b, h => by
    obtain ⟨h1, h2, h3, _⟩ := goodA_rd (h f (by simp)) a B
    simp only [rdV, rdR, h2, h3]
    split
    · rfl
    · split
      · rfl
      · exact rdV_A r _ _ _ fun g hg => h g (by simp [hg])
theorem rpFs_cases {k : Int} {fs : List Fs} (h : rpFs k = some fs) :
    (k = 129 ∧ fs = nFs 8) ∨ (k = 130 ∧ fs = [⟨false, 2, 0, 3, 1, false⟩, wF, eF]) ∨ (k = 131 ∧ fs = [sF]) ∨ (k = 132 ∧ fs = [sF, cF]) ∨ (k = 133 ∧ fs = [eF]) ∨ (k = 134 ∧ fs = [wF, eF]) ∨ (k = 135 ∧ fs = [wF, eF]) ∨ (k = 136 ∧ fs = [wF, cF]) := by
  unfold rpFs at h
  by_cases c : k = 129
  · rw [if_pos c] at h; cases h; exact .inl ⟨c, rfl⟩
  rw [if_neg c] at h; clear c
  by_cases c : k = 130
  · rw [if_pos c] at h; cases h; exact .inr (.inl ⟨c, rfl⟩)
  rw [if_neg c] at h; clear c
  by_cases c : k = 131
  · rw [if_pos c] at h; cases h; exact .inr (.inr (.inl ⟨c, rfl⟩))
  rw [if_neg c] at h; clear c
  by_cases c : k = 132
  · rw [if_pos c] at h; cases h; exact .inr (.inr (.inr (.inl ⟨c, rfl⟩)))
  rw [if_neg c] at h; clear c
  by_cases c : k = 133
  · rw [if_pos c] at h; cases h; exact .inr (.inr (.inr (.inr (.inl ⟨c, rfl⟩))))
  rw [if_neg c] at h; clear c
  by_cases c : k = 134
  · rw [if_pos c] at h; cases h; exact .inr (.inr (.inr (.inr (.inr (.inl ⟨c, rfl⟩)))))
  rw [if_neg c] at h; clear c
  by_cases c : k = 135
  · rw [if_pos c] at h; cases h; exact .inr (.inr (.inr (.inr (.inr (.inr (.inl ⟨c, rfl⟩))))))
  rw [if_neg c] at h; clear c
  by_cases c : k = 136
  · rw [if_pos c] at h; cases h; exact .inr (.inr (.inr (.inr (.inr (.inr (.inr (⟨c, rfl⟩)))))))
  rw [if_neg c] at h; clear c
  cases h
theorem rpFs_good {k : Int} {fs : List Fs} (h : rpFs k = some fs) : (∀ f ∈ fs, f.goodA) ∧ fs.length ≤ 100 ∧ 129 ≤ k ∧ k ≤ 136 ∧ ∀ f ∈ fs, f.k ≠ 0 := by
  rcases rpFs_cases h with ⟨rfl, rfl⟩ | ⟨rfl, rfl⟩ | ⟨rfl, rfl⟩ | ⟨rfl, rfl⟩ | ⟨rfl, rfl⟩ | ⟨rfl, rfl⟩ | ⟨rfl, rfl⟩ | ⟨rfl, rfl⟩ <;> simp [Fs.goodA, okA, sF, eF, wF, cF, nF, nFs, List.range_succ]
theorem wrR_kind : ∀ (fs : List Fs) (a : An) (o : List UInt8), (∀ f ∈ fs, f.k ≠ 0) → ∀ o' a', wrR fs a o = some (o', a') → a'.kind = a.kind
  | [], a, o, _, o', a', h => by simp only [wrR, Option.some.injEq, Prod.mk.injEq] at h; rw [h.2]
  | f :: r, a, o, g, o', a', h => by
    simp only [wrR] at h
    split at h
    · cases h
    · rw [wrR_kind r _ _ (fun x hx => g x (by simp [hx])) _ _ h]
      unfold An.put; split <;> first | rfl | exact absurd ‹_› (g f (by simp))
theorem u8z (a : UInt8) : a.toNat = 0 ↔ a = 0 := ⟨fun h => UInt8.toNat.inj (by simpa using h), fun h => by rw [h]; rfl⟩
set_option maxHeartbeats 1000000 in
theorem flatEq_Az (a : An) (k : Int) : flatEq [.int .i64 0, .int .i64 0, .int .i64 0, .int .i64 0, .int .i64 0, .int .i64 0, .int .u8 0, .int .u8 0, .int .u8 0, .int .u8 0, .int .u8 0, .int .u8 0, .int .u8 0, .int .u8 0, .int .i64 0, .int .i64 0, .int .i64 0, .int .i64 0, .int .i64 0, .int .i64 0, .int .i64 0, .int .i64 0, .int .i64 0] a.cells [.int .i64 k, .int .i64 0, .int .i64 0, .int .i64 0, .int .i64 0, .int .i64 0, .int .u8 0, .int .u8 0, .int .u8 0, .int .u8 0, .int .u8 0, .int .u8 0, .int .u8 0, .int .u8 0, .int .i64 0, .int .i64 0, .int .i64 0, .int .i64 0, .int .i64 0, .int .i64 0, .int .i64 0, .int .i64 0, .int .i64 0] = some (decide (a = An.of k)) := by
  obtain ⟨a0, a1, a2, a3, a4, a5, a6, a7, a8, a9, a10, a11, a12, a13, a14, a15, a16, a17, a18, a19, a20, a21, a22⟩ := a
  simp only [An.cells, An.of, flatEq, and_self, if_true, Option.map_some, Option.some.injEq]
  rw [Bool.eq_iff_iff]
  simp [u8z]
/-- A reply. -/
structure Rp where
  kind : Int
  seq : Int
  role : Int
  who : Int
  epoch : Int
  code : Int
  n0 : UInt8
  n1 : UInt8
  n2 : UInt8
  n3 : UInt8
  n4 : UInt8
  n5 : UInt8
  n6 : UInt8
  n7 : UInt8
deriving DecidableEq
def Rp.cells (r : Rp) : List Value := [.int .i64 r.kind, .int .i64 r.seq, .int .i64 r.role, .int .i64 r.who, .int .i64 r.epoch, .int .i64 r.code, .int .u8 r.n0.toNat, .int .u8 r.n1.toNat, .int .u8 r.n2.toNat, .int .u8 r.n3.toNat, .int .u8 r.n4.toNat, .int .u8 r.n5.toNat, .int .u8 r.n6.toNat, .int .u8 r.n7.toNat]
@[simp] theorem Rp.cells_length (r : Rp) : r.cells.length = 14 := rfl
def Rp.nonce (r : Rp) : List UInt8 := [r.n0, r.n1, r.n2, r.n3, r.n4, r.n5, r.n6, r.n7]
/-- As it is written. -/
def Rp.an (r : Rp) : An := ⟨r.kind, r.seq, r.role, r.who, r.epoch, 0, 0, 0, 0, 0, 0, 0, 0, 0, r.code, r.n0.toNat, r.n1.toNat, r.n2.toNat, r.n3.toNat, r.n4.toNat, r.n5.toNat, r.n6.toNat, r.n7.toNat⟩
def putR (r : Rp) : Option (List UInt8) := (rpFs r.kind).bind fun fs => (wrR fs r.an [b8 r.kind]).bind fun p => if p.2 = An.of r.kind then some p.1 else none
theorem u8e (a b : UInt8) : ((a.toNat : Int) = b.toNat) ↔ a = b := ⟨fun h => UInt8.toNat.inj (by omega), fun h => by rw [h]⟩
def Rp.zero : Rp := ⟨0, 0, 0, 0, 0, 0, 0, 0, 0, 0, 0, 0, 0, 0⟩
theorem flatEq_Rz (a b : Rp) : flatEq [.int .i64 0, .int .i64 0, .int .i64 0, .int .i64 0, .int .i64 0, .int .i64 0, .int .u8 0, .int .u8 0, .int .u8 0, .int .u8 0, .int .u8 0, .int .u8 0, .int .u8 0, .int .u8 0] a.cells b.cells = some (decide (a = b)) := by
  obtain ⟨a0, a1, a2, a3, a4, a5, a6, a7, a8, a9, a10, a11, a12, a13⟩ := a
  obtain ⟨b0, b1, b2, b3, b4, b5, b6, b7, b8, b9, b10, b11, b12, b13⟩ := b
  simp only [Rp.cells, flatEq, and_self, if_true, Option.map_some, Option.some.injEq]
  rw [Bool.eq_iff_iff]
  simp [u8e]
theorem Rp.oneV (m : Rp) (j : Nat) (h : j < m.cells.length) : one1 m.cells[j] = true := by
  have : ∀ x ∈ m.cells, one1 x = true := by simp [Rp.cells, one1]
  exact this _ (List.getElem_mem h)
theorem Rp.oneM (m : Rp) : ∀ x ∈ m.cells, one1 x = true := by simp [Rp.cells, one1]
theorem An.oneM (m : An) : ∀ x ∈ m.cells, one1 x = true := by simp [An.cells, one1]
end Go.Proofs
