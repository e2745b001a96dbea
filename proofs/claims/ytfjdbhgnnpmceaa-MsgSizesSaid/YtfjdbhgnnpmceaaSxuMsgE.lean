/-
  Walks by Sx; no condition beyond those that stand in each statement.
-/
import Derived.Test.YtfjdbhgnnpmceaaSxuMsgD
namespace Go.Proofs
open Go Go.Sx
set_option maxRecDepth 100000
/-- A message. -/
structure Mg where
  kind : Int
  seq : Int
  role : Int
  to : Int
  epoch : Int
  mode : Int
  cls : Int
  now : Bool
  x0 : Int
  x1 : Int
  x2 : Int
  x3 : Int
deriving DecidableEq
def Mg.cells (m : Mg) : List Value := [.int .i64 m.kind, .int .i64 m.seq, .int .i64 m.role, .int .i64 m.to, .int .i64 m.epoch, .int .i64 m.mode, .int .i64 m.cls, .bool m.now, .int .i64 m.x0, .int .i64 m.x1, .int .i64 m.x2, .int .i64 m.x3]
@[simp] theorem Mg.cells_length (m : Mg) : m.cells.length = 12 := rfl
def Mg.zero : Mg := ⟨0, 0, 0, 0, 0, 0, 0, false, 0, 0, 0, 0⟩
/-- With a kind, and nothing more. -/
def Mg.of (k : Int) : Mg := ⟨k, 0, 0, 0, 0, 0, 0, false, 0, 0, 0, 0⟩
def Mg.get (m : Mg) : Nat → Int
  | 0 => m.kind | 1 => m.seq | 2 => m.role | 3 => m.to | 4 => m.epoch | 5 => m.mode | 6 => m.cls | 8 => m.x0 | 9 => m.x1 | 10 => m.x2 | 11 => m.x3 | _ => 0
def Mg.put (m : Mg) (k : Nat) (v : Int) : Mg :=
  match k with
  | 0 => { m with kind := v } | 1 => { m with seq := v } | 2 => { m with role := v } | 3 => { m with to := v } | 4 => { m with epoch := v } | 5 => { m with mode := v } | 6 => { m with cls := v }
  | 8 => { m with x0 := v } | 9 => { m with x1 := v } | 10 => { m with x2 := v } | 11 => { m with x3 := v } | _ => m
theorem lt12 {k : Nat} (h : k < 12) (h7 : k ≠ 7) : k = 0 ∨ k = 1 ∨ k = 2 ∨ k = 3 ∨ k = 4 ∨ k = 5 ∨ k = 6 ∨ k = 8 ∨ k = 9 ∨ k = 10 ∨ k = 11 := by omega
theorem Mg.get_cells (m : Mg) {k : Nat} (h : k < 12) (h7 : k ≠ 7) : m.cells[k]? = some (.int .i64 (m.get k)) := by
  rcases lt12 h h7 with rfl | rfl | rfl | rfl | rfl | rfl | rfl | rfl | rfl | rfl | rfl <;> rfl
theorem Mg.put_cells (m : Mg) {k : Nat} (h : k < 12) (h7 : k ≠ 7) (v : Int) : m.cells.set k (.int .i64 v) = (m.put k v).cells := by
  rcases lt12 h h7 with rfl | rfl | rfl | rfl | rfl | rfl | rfl | rfl | rfl | rfl | rfl <;> rfl
def Fs.good (f : Fs) : Prop := if f.now = true then f.k = 0 else f.k < 12 ∧ f.k ≠ 7
def Fs.val (f : Fs) (m : Mg) (n : Int) : Int := if f.now = true then n else m.get f.k
def Fs.setM (f : Fs) (m : Mg) (v : Int) : Mg := if f.now = true then m else m.put f.k v
def Fs.setN (f : Fs) (n v : Int) : Int := if f.now = true then v else n
def wrM : List Fs → Mg → Int → List UInt8 → Option (List UInt8 × Mg × Int)
  | [], m, n, o => some (o, m, n)
  | f :: r, m, n, o => if f.val m n < f.lo ∨ f.hi < f.val m n then none else wrM r (f.setM m 0) (f.setN n 0) (o ++ f.bytes (f.val m n))
def rdM : List Fs → Mg → Int → List UInt8 → Option (Mg × Int)
  | [], m, n, b => if b = [] then some (m, n) else none
  | f :: r, m, n, b => if b.length < f.sz then none else if f.num (b.take f.sz) < f.lo ∨ f.hi < f.num (b.take f.sz) then none else rdM r (f.setM m (f.num (b.take f.sz))) (f.setN n (f.num (b.take f.sz))) (b.drop f.sz)
theorem good_rd {f : Fs} (h : f.good) (m : Mg) (n : Int) : f.rd m.cells [.int .i64 n] = f.val m n ∧ f.stA m.cells = (fun v => (f.setM m v).cells) ∧ f.stB [.int .i64 n] = (fun v => [.int .i64 (f.setN n v)]) ∧ f.at m.cells [.int .i64 n] := by
  obtain ⟨now, k, lo, hi, sz, ax⟩ := f
  cases now
  · simp only [Fs.good, Bool.false_eq_true, if_false] at h
    refine ⟨?_, ?_, rfl, m.get k, ?_⟩
    · simp [Fs.rd, Fs.sel, Fs.val, Mg.get_cells m h.1 h.2]
    · funext v; simp [Fs.stA, Fs.setM, Mg.put_cells m h.1 h.2]
    · simp only [Fs.sel, Bool.false_eq_true, if_false]; exact Mg.get_cells m h.1 h.2
  · simp only [Fs.good, if_true] at h
    subst h
    exact ⟨rfl, rfl, rfl, n, rfl⟩
theorem wrV_M : ∀ (fs : List Fs) (m : Mg) (n : Int) (o : List UInt8), (∀ f ∈ fs, f.good) → wrV fs m.cells [.int .i64 n] o = (wrM fs m n o).map fun p => (p.1, p.2.1.cells, [.int .i64 p.2.2])
  | [], m, n, o, _ => rfl
  | f :: r, m, n, o, h => by
    obtain ⟨h1, h2, h3, _⟩ := good_rd (h f (by simp)) m n
    simp only [wrV, wrM, h1, h2, h3]
    split
    · rfl
    · exact wrV_M r _ _ _ fun g hg => h g (by simp [hg])
theorem rdV_M : ∀ (fs : List Fs) (m : Mg) (n : Int) (b : List UInt8), (∀ f ∈ fs, f.good) → rdV fs m.cells [.int .i64 n] b = (rdM fs m n b).map fun p => (p.1.cells, [.int .i64 p.2])
  | [], m, n, b, _ => by simp only [rdV, rdM]; split <;> rfl
  | f :: r, m, n, b, h => by
    obtain ⟨h1, h2, h3, _⟩ := good_rd (h f (by simp)) m n
    simp only [rdV, rdM, h2, h3]
    split
    · rfl
    · split
      · rfl
      · exact rdV_M r _ _ _ fun g hg => h g (by simp [hg])
theorem msgFs_cases {k : Int} {fs : List Fs} (h : msgFs k = some fs) :
    (k = 1 ∧ fs = [⟨false, 2, 0, 3, 1, false⟩]) ∨ (k = 2 ∧ fs = [⟨false, 2, 0, 3, 1, false⟩]) ∨ (k = 3 ∧ fs = [sF]) ∨ (k = 4 ∧ fs = [sF]) ∨ (k = 5 ∧ fs = [sF, ⟨true, 0, 0, 1, 1, false⟩]) ∨ (k = 6 ∧ fs = [sF, ⟨false, 3, 0, 4, 1, false⟩]) ∨ (k = 7 ∧ fs = [sF, eF]) ∨ (k = 8 ∧ fs = [sF]) ∨ (k = 9 ∧ fs = [sF]) ∨ (k = 10 ∧ fs = [sF, eF, ⟨false, 5, 0, 4, 1, false⟩]) ∨ (k = 11 ∧ fs = [sF, eF, ⟨false, 6, 1, 3, 1, false⟩, xF 8, xF 9, xF 10, xF 11]) := by
  unfold msgFs at h
  by_cases c : k = 1
  · rw [if_pos c] at h; cases h; exact .inl ⟨c, rfl⟩
  rw [if_neg c] at h; clear c
  by_cases c : k = 2
  · rw [if_pos c] at h; cases h; exact .inr (.inl ⟨c, rfl⟩)
  rw [if_neg c] at h; clear c
  by_cases c : k = 3
  · rw [if_pos c] at h; cases h; exact .inr (.inr (.inl ⟨c, rfl⟩))
  rw [if_neg c] at h; clear c
  by_cases c : k = 4
  · rw [if_pos c] at h; cases h; exact .inr (.inr (.inr (.inl ⟨c, rfl⟩)))
  rw [if_neg c] at h; clear c
  by_cases c : k = 5
  · rw [if_pos c] at h; cases h; exact .inr (.inr (.inr (.inr (.inl ⟨c, rfl⟩))))
  rw [if_neg c] at h; clear c
  by_cases c : k = 6
  · rw [if_pos c] at h; cases h; exact .inr (.inr (.inr (.inr (.inr (.inl ⟨c, rfl⟩)))))
  rw [if_neg c] at h; clear c
  by_cases c : k = 7
  · rw [if_pos c] at h; cases h; exact .inr (.inr (.inr (.inr (.inr (.inr (.inl ⟨c, rfl⟩))))))
  rw [if_neg c] at h; clear c
  by_cases c : k = 8
  · rw [if_pos c] at h; cases h; exact .inr (.inr (.inr (.inr (.inr (.inr (.inr (.inl ⟨c, rfl⟩)))))))
  rw [if_neg c] at h; clear c
  by_cases c : k = 9
  · rw [if_pos c] at h; cases h; exact .inr (.inr (.inr (.inr (.inr (.inr (.inr (.inr (.inl ⟨c, rfl⟩))))))))
  rw [if_neg c] at h; clear c
  by_cases c : k = 10
  · rw [if_pos c] at h; cases h; exact .inr (.inr (.inr (.inr (.inr (.inr (.inr (.inr (.inr (.inl ⟨c, rfl⟩)))))))))
  rw [if_neg c] at h; clear c
  by_cases c : k = 11
  · rw [if_pos c] at h; cases h; exact .inr (.inr (.inr (.inr (.inr (.inr (.inr (.inr (.inr (.inr ⟨c, rfl⟩)))))))))
  rw [if_neg c] at h; clear c
  cases h
theorem msgFs_good {k : Int} {fs : List Fs} (h : msgFs k = some fs) : (∀ f ∈ fs, f.good) ∧ fs.length ≤ 100 ∧ 1 ≤ k ∧ k ≤ 11 := by
  rcases msgFs_cases h with ⟨rfl, rfl⟩ | ⟨rfl, rfl⟩ | ⟨rfl, rfl⟩ | ⟨rfl, rfl⟩ | ⟨rfl, rfl⟩ | ⟨rfl, rfl⟩ | ⟨rfl, rfl⟩ | ⟨rfl, rfl⟩ | ⟨rfl, rfl⟩ | ⟨rfl, rfl⟩ | ⟨rfl, rfl⟩ <;> simp [Fs.good, sF, eF, xF]
/-- What a message is put as. -/
def putP (m : Mg) : Option (List UInt8) :=
  match msgFs m.kind with
  | none => none
  | some fs => match wrM fs { m with now := false } (if m.now = true then 1 else 0) [UInt8.ofNat m.kind.toNat] with
    | none => none
    | some p => if p.2.2 = 0 ∧ p.2.1 = Mg.of m.kind then some p.1 else none
/-- What bytes say. -/
def takeP (b : List UInt8) : Option Mg :=
  match b with
  | [] => none
  | k :: r => match msgFs k.toNat with
    | none => none
    | some fs => match rdM fs (Mg.of k.toNat) 0 r with
      | none => none
      | some p => some { p.1 with now := p.2 == 1 }
theorem flatEq_Mg (a b : Mg) : flatEq Mg.zero.cells a.cells b.cells = some (decide (a = b)) := by
  obtain ⟨a0, a1, a2, a3, a4, a5, a6, a7, a8, a9, a10, a11⟩ := a
  obtain ⟨b0, b1, b2, b3, b4, b5, b6, b7, b8, b9, b10, b11⟩ := b
  simp only [Mg.cells, Mg.zero, flatEq, and_self, if_true, Option.map_some, Option.some.injEq]
  rw [Bool.eq_iff_iff]
  simp
end Go.Proofs
