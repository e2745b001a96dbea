/-
  Walks by Sx; no condition beyond those that stand in each statement.
-/
import Derived.Test.YtfjdbhgnnpmceaaSxuRefE
namespace Go.Proofs
open Go Go.Sx
set_option maxRecDepth 100000
theorem be_1 (v : Nat) : be 1 v = [UInt8.ofNat v] := by simp [be, putB]
theorem guard_eq {α : Type} {p q : Prop} [Decidable p] [Decidable q] {x y : α} (h : p ↔ q) (e : p → x = y) : (if p then some x else none) = (if q then some y else none) := by
  by_cases hp : p
  · rw [if_pos hp, if_pos (h.1 hp), e hp]
  · rw [if_neg hp, if_neg (fun q => hp (h.2 q))]
theorem putP_bind (m : Mg) : putP m = (msgFs m.kind).bind fun fs => (wrM fs { m with now := false } (if m.now = true then 1 else 0) [UInt8.ofNat m.kind.toNat]).bind fun p => if p.2.2 = 0 ∧ p.2.1 = Mg.of m.kind then some p.1 else none := by
  unfold putP
  cases msgFs m.kind with
  | none => rfl
  | some fs => simp only [Option.bind_some]; cases wrM fs _ _ _ <;> rfl
theorem gd1 {α : Type} {c d : Prop} [Decidable c] [Decidable d] {x : Option α} : (if c then none else if d then none else x) = if c ∨ d then none else x := by
  by_cases c <;> by_cases d <;> simp [*]
theorem gd2 {α β : Type} {c : Prop} [Decidable c] {x : α} {f : α → Option β} : (if c then none else some x).bind f = if c then none else f x := by
  by_cases c <;> simp [*]
theorem gd3 {α : Type} {c q : Prop} [Decidable c] [Decidable q] {y : α} : (if c then none else if q then some y else none) = if ¬c ∧ q then some y else none := by
  by_cases c <;> by_cases q <;> simp [*]
theorem fits_kind {m : Mg} (h : fitsP m) : 1 ≤ m.kind ∧ m.kind ≤ 11 := by
  obtain ⟨_, _, _, _, h, _⟩ := h; exact h
set_option maxHeartbeats 4000000 in
theorem putP_eq (m : Mg) : putP m = rPutP m := by
  rw [putP_bind]
  obtain ⟨k0, k1, k2, k3, k4, k5, k6, k7, k8, k9, k10, k11⟩ := m
  by_cases c1 : k0 = 1
  · subst c1
    cases k7
    all_goals
      simp [gd1, gd2, gd3, msgFs, wrM, Fs.val, Fs.setM, Fs.setN, Mg.get, Mg.put, Fs.bytes, Mg.of, rPutP, bytesP, namedP, fitsP, inP, be_1, b8, sF, eF, xF, xsB, List.range_succ]
      try
        refine guard_eq ?_ ?_
        · constructor
          · intro h; omega
          · intro h; omega
        · simp
  by_cases c2 : k0 = 2
  · subst c2
    cases k7
    all_goals
      simp [gd1, gd2, gd3, msgFs, wrM, Fs.val, Fs.setM, Fs.setN, Mg.get, Mg.put, Fs.bytes, Mg.of, rPutP, bytesP, namedP, fitsP, inP, be_1, b8, sF, eF, xF, xsB, List.range_succ]
      try
        refine guard_eq ?_ ?_
        · constructor
          · intro h; omega
          · intro h; omega
        · simp
  by_cases c3 : k0 = 3
  · subst c3
    cases k7
    all_goals
      simp [gd1, gd2, gd3, msgFs, wrM, Fs.val, Fs.setM, Fs.setN, Mg.get, Mg.put, Fs.bytes, Mg.of, rPutP, bytesP, namedP, fitsP, inP, be_1, b8, sF, eF, xF, xsB, List.range_succ]
      try
        refine guard_eq ?_ ?_
        · constructor
          · intro h; omega
          · intro h; omega
        · simp
  by_cases c4 : k0 = 4
  · subst c4
    cases k7
    all_goals
      simp [gd1, gd2, gd3, msgFs, wrM, Fs.val, Fs.setM, Fs.setN, Mg.get, Mg.put, Fs.bytes, Mg.of, rPutP, bytesP, namedP, fitsP, inP, be_1, b8, sF, eF, xF, xsB, List.range_succ]
      try
        refine guard_eq ?_ ?_
        · constructor
          · intro h; omega
          · intro h; omega
        · simp
  by_cases c5 : k0 = 5
  · subst c5
    cases k7
    all_goals
      simp [gd1, gd2, gd3, msgFs, wrM, Fs.val, Fs.setM, Fs.setN, Mg.get, Mg.put, Fs.bytes, Mg.of, rPutP, bytesP, namedP, fitsP, inP, be_1, b8, sF, eF, xF, xsB, List.range_succ]
      try
        refine guard_eq ?_ ?_
        · constructor
          · intro h; omega
          · intro h; omega
        · simp
  by_cases c6 : k0 = 6
  · subst c6
    cases k7
    all_goals
      simp [gd1, gd2, gd3, msgFs, wrM, Fs.val, Fs.setM, Fs.setN, Mg.get, Mg.put, Fs.bytes, Mg.of, rPutP, bytesP, namedP, fitsP, inP, be_1, b8, sF, eF, xF, xsB, List.range_succ]
      try
        refine guard_eq ?_ ?_
        · constructor
          · intro h; omega
          · intro h; omega
        · simp
  by_cases c7 : k0 = 7
  · subst c7
    cases k7
    all_goals
      simp [gd1, gd2, gd3, msgFs, wrM, Fs.val, Fs.setM, Fs.setN, Mg.get, Mg.put, Fs.bytes, Mg.of, rPutP, bytesP, namedP, fitsP, inP, be_1, b8, sF, eF, xF, xsB, List.range_succ]
      try
        refine guard_eq ?_ ?_
        · constructor
          · intro h; omega
          · intro h; omega
        · simp
  by_cases c8 : k0 = 8
  · subst c8
    cases k7
    all_goals
      simp [gd1, gd2, gd3, msgFs, wrM, Fs.val, Fs.setM, Fs.setN, Mg.get, Mg.put, Fs.bytes, Mg.of, rPutP, bytesP, namedP, fitsP, inP, be_1, b8, sF, eF, xF, xsB, List.range_succ]
      try
        refine guard_eq ?_ ?_
        · constructor
          · intro h; omega
          · intro h; omega
        · simp
  by_cases c9 : k0 = 9
  · subst c9
    cases k7
    all_goals
      simp [gd1, gd2, gd3, msgFs, wrM, Fs.val, Fs.setM, Fs.setN, Mg.get, Mg.put, Fs.bytes, Mg.of, rPutP, bytesP, namedP, fitsP, inP, be_1, b8, sF, eF, xF, xsB, List.range_succ]
      try
        refine guard_eq ?_ ?_
        · constructor
          · intro h; omega
          · intro h; omega
        · simp
  by_cases c10 : k0 = 10
  · subst c10
    cases k7
    all_goals
      simp [gd1, gd2, gd3, msgFs, wrM, Fs.val, Fs.setM, Fs.setN, Mg.get, Mg.put, Fs.bytes, Mg.of, rPutP, bytesP, namedP, fitsP, inP, be_1, b8, sF, eF, xF, xsB, List.range_succ]
      try
        refine guard_eq ?_ ?_
        · constructor
          · intro h; omega
          · intro h; omega
        · simp
  by_cases c11 : k0 = 11
  · subst c11
    cases k7
    all_goals
      simp [gd1, gd2, gd3, msgFs, wrM, Fs.val, Fs.setM, Fs.setN, Mg.get, Mg.put, Fs.bytes, Mg.of, rPutP, bytesP, namedP, fitsP, inP, be_1, b8, sF, eF, xF, xsB, List.range_succ]
      try
        refine guard_eq ?_ ?_
        · constructor
          · intro h; omega
          · intro h; omega
        · simp
  have e1 : msgFs k0 = none := by simp [msgFs, c1, c2, c3, c4, c5, c6, c7, c8, c9, c10, c11]
  have e2 : ¬ fitsP ⟨k0, k1, k2, k3, k4, k5, k6, k7, k8, k9, k10, k11⟩ := fun h => by
    have := fits_kind h
    simp only at this
    omega
  simp [e1, rPutP, e2]
end Go.Proofs
