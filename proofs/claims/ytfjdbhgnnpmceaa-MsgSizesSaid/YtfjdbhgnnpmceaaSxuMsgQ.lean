/-
  Walks by Sx; no condition beyond those that stand in each statement.
-/
import Derived.Test.YtfjdbhgnnpmceaaSxuMsgP
namespace Go.Proofs
open Go Go.Sx
set_option maxRecDepth 100000
/-- A number's bytes give the number back. -/
theorem takeN_putB : ∀ (n v : Nat), v < 2 ^ (8 * n) → takeN ((List.range n).map (putB v n)) = v := by
  intro n
  induction n with
  | zero => intro v h; simp [takeN] at *; omega
  | succ n ih =>
    intro v h
    rw [List.range_succ, List.map_append, List.map_singleton, takeN_snoc]
    have e : (List.range n).map (putB v (n + 1)) = (List.range n).map (putB (v / 256) n) := by
      apply List.map_congr_left
      intro j hj
      have hj : j < n := by simpa using hj
      unfold putB
      have : 2 ^ (8 * (n + 1 - 1 - j)) = 256 * 2 ^ (8 * (n - 1 - j)) := by
        rw [show n + 1 - 1 - j = (n - 1 - j) + 1 by omega, Nat.mul_add, Nat.pow_add]; simp [Nat.mul_comm]
      rw [this, ← Nat.div_div_eq_div_mul]
    have hlt : v / 256 < 2 ^ (8 * n) := by
      rw [Nat.div_lt_iff_lt_mul (by decide)]
      rw [Nat.mul_add, Nat.pow_add] at h
      simpa using h
    rw [e, ih _ hlt]
    have : (putB v (n + 1) n).toNat = v % 256 := by
      unfold putB
      simp
    rw [this]
    omega
theorem takeN_be (n v : Nat) (h : v < 256 ^ n) : takeN (be n v) = v := takeN_putB n v (by rw [Nat.pow_mul]; exact h)
theorem takeN_inj : ∀ (n : Nat) (a b : List UInt8), a.length = n → b.length = n → takeN a = takeN b → a = b := by
  intro n
  induction n with
  | zero => intro a b ha hb _; rw [List.length_eq_zero_iff.1 ha, List.length_eq_zero_iff.1 hb]
  | succ n ih =>
    intro a b ha hb h
    rcases List.eq_nil_or_concat a with rfl | ⟨a', x, rfl⟩
    · simp at ha
    rcases List.eq_nil_or_concat b with rfl | ⟨b', y, rfl⟩
    · simp at hb
    rw [List.concat_eq_append, List.concat_eq_append] at *
    rw [takeN_snoc, takeN_snoc] at h
    have hx := x.toNat_lt
    have hy := y.toNat_lt
    have e1 : takeN a' = takeN b' := by omega
    have e2 : x = y := UInt8.toNat.inj (by omega)
    rw [ih a' b' (by simpa using ha) (by simpa using hb) e1, e2]
theorem be_takeN (l : List UInt8) : be l.length (takeN l) = l :=
  takeN_inj l.length _ _ (by simp) rfl (takeN_be _ _ (takeN_lt l))
theorem be_takeN' {l : List UInt8} {n : Nat} (h : l.length = n) : be n (takeN l) = l := by rw [← h]; exact be_takeN l
theorem takeN_1 (x : UInt8) : takeN [x] = x.toNat := by simp [takeN]
theorem sx_be {x : Int} (h1 : -32768 ≤ x) (h2 : x ≤ 32767) : sx (takeN (be 2 (x % 65536).toNat)) = x := by
  rw [takeN_be _ _ (by omega)]
  simp [sx, IntKind.wrap, IntKind.bits, IntKind.signed]
  split <;> omega
theorem be_sx {l : List UInt8} (h : l.length = 2) : be 2 (sx (takeN l) % 65536).toNat = l ∧ -32768 ≤ sx (takeN l) ∧ sx (takeN l) ≤ 32767 := by
  have hl := takeN_lt l
  rw [h] at hl
  have e : (sx (takeN l) % 65536).toNat = takeN l ∧ -32768 ≤ sx (takeN l) ∧ sx (takeN l) ≤ 32767 := by
    simp [sx, IntKind.wrap, IntKind.bits, IntKind.signed]
    split <;> omega
  exact ⟨by rw [e.1]; exact be_takeN' h, e.2⟩
theorem b8_toNat (k : UInt8) : b8 (k.toNat : Int) = k := by simp [b8]
theorem rPutP_some {m : Mg} {b : List UInt8} : rPutP m = some b ↔ fitsP m ∧ namedP m = m ∧ bytesP m = b := by
  unfold rPutP
  by_cases h : fitsP m ∧ namedP m = m
  · rw [if_pos h]; simp [h]
  · rw [if_neg h]; simp; intro a b; exact absurd ⟨a, b⟩ h
/-- How long a message is. -/
def sizeP (k : Int) : Nat := if k = 1 ∨ k = 2 then 2 else if k = 5 ∨ k = 6 then 6 else if k = 7 then 7 else if k = 10 then 8 else if k = 11 then 16 else 5
theorem bytes_size (m : Mg) : (bytesP m).length = sizeP m.kind := by
  obtain ⟨k0, k1, k2, k3, k4, k5, k6, k7, k8, k9, k10, k11⟩ := m
  by_cases c1 : k0 = 1
  · subst c1; simp [bytesP, sizeP]
  by_cases c2 : k0 = 2
  · subst c2; simp [bytesP, sizeP]
  by_cases c5 : k0 = 5
  · subst c5; simp [bytesP, sizeP]
  by_cases c6 : k0 = 6
  · subst c6; simp [bytesP, sizeP]
  by_cases c7 : k0 = 7
  · subst c7; simp [bytesP, sizeP]
  by_cases c10 : k0 = 10
  · subst c10; simp [bytesP, sizeP]
  by_cases c11 : k0 = 11
  · subst c11; simp [bytesP, sizeP, xsB_length]
  simp [bytesP, sizeP, c1, c2, c5, c6, c7, c10, c11]
theorem bytes_head (m : Mg) : ∃ r, bytesP m = b8 m.kind :: r := by
  unfold bytesP; split <;> exact ⟨_, rfl⟩
theorem takeP_bind (k : UInt8) (r : List UInt8) : takeP (k :: r) = (msgFs k.toNat).bind fun fs => (rdM fs (Mg.of k.toNat) 0 r).map fun p => { p.1 with now := p.2 == 1 } := by
  simp only [takeP]
  cases msgFs (k.toNat : Int) with
  | none => rfl
  | some fs => simp only [Option.bind_some]; cases rdM fs _ 0 r <;> rfl
theorem tk1 {k : Int} (h0 : 0 ≤ k) (h1 : k ≤ 255) : ((takeN [UInt8.ofNat k.toNat] : Nat) : Int) = k := by rw [takeN_1]; simp; omega
theorem tkn {k : Int} (n : Nat) (h0 : 0 ≤ k) (h1 : k < (256 ^ n : Nat)) : ((takeN (List.take n (be n k.toNat)) : Nat) : Int) = k := by
  rw [List.take_of_length_le (by simp), takeN_be _ _ (by omega)]; omega
theorem tks {k : Int} (h0 : -32768 ≤ k) (h1 : k ≤ 32767) : sx (takeN (List.take 2 (be 2 (k % 65536).toNat))) = k := by
  rw [List.take_of_length_le (by simp)]; exact sx_be h0 h1
set_option maxHeartbeats 8000000 in
theorem take_put {m : Mg} {b : List UInt8} (h : rPutP m = some b) : takeP b = some m := by
  obtain ⟨hf, hn, rfl⟩ := rPutP_some.1 h
  clear h
  obtain ⟨k0, k1, k2, k3, k4, k5, k6, k7, k8, k9, k10, k11⟩ := m
  have hk := fits_kind hf
  simp only at hk
  simp only [fitsP, inP] at hf
  have lk1 : ¬ k1 < 0 := by omega
  have hk1 : ¬ 4294967295 < k1 := by omega
  have lk4 : ¬ k4 < 0 := by omega
  have hk4 : ¬ 65535 < k4 := by omega
  have lk2 : ¬ k2 < 0 := by omega
  have hk2 : ¬ 3 < k2 := by omega
  have lk3 : ¬ k3 < 0 := by omega
  have hk3 : ¬ 4 < k3 := by omega
  have lk5 : ¬ k5 < 0 := by omega
  have hk5 : ¬ 4 < k5 := by omega
  have lk8 : ¬ k8 < (-32768) := by omega
  have hk8 : ¬ 32767 < k8 := by omega
  have lk9 : ¬ k9 < (-32768) := by omega
  have hk9 : ¬ 32767 < k9 := by omega
  have lk10 : ¬ k10 < (-32768) := by omega
  have hk10 : ¬ 32767 < k10 := by omega
  have lk11 : ¬ k11 < (-32768) := by omega
  have hk11 : ¬ 32767 < k11 := by omega
  have hk6 : ¬ 3 < k6 := by have := hf.2.2.2.2.2.2.2.2.2.2; omega
  have tk2 : ((takeN [UInt8.ofNat k2.toNat] : Nat) : Int) = k2 := tk1 (by omega) (by omega)
  have tk3 : ((takeN [UInt8.ofNat k3.toNat] : Nat) : Int) = k3 := tk1 (by omega) (by omega)
  have tk5 : ((takeN [UInt8.ofNat k5.toNat] : Nat) : Int) = k5 := tk1 (by omega) (by omega)
  have tk1' : ((takeN (List.take 4 (be 4 k1.toNat)) : Nat) : Int) = k1 := tkn 4 (by omega) (by omega)
  have tk4' : ((takeN (List.take 2 (be 2 k4.toNat)) : Nat) : Int) = k4 := tkn 2 (by omega) (by omega)
  have tk8 : sx (takeN (List.take 2 (be 2 (k8 % 65536).toNat))) = k8 := tks (by omega) (by omega)
  have tk9 : sx (takeN (List.take 2 (be 2 (k9 % 65536).toNat))) = k9 := tks (by omega) (by omega)
  have tk10 : sx (takeN (List.take 2 (be 2 (k10 % 65536).toNat))) = k10 := tks (by omega) (by omega)
  have tk11 : sx (takeN (List.take 2 (be 2 (k11 % 65536).toNat))) = k11 := tks (by omega) (by omega)
  have b1 : ((takeN (be 4 k1.toNat) : Nat) : Int) = k1 := by rw [takeN_be _ _ (by omega)]; omega
  have b4 : ((takeN (be 2 k4.toNat) : Nat) : Int) = k4 := by rw [takeN_be _ _ (by omega)]; omega
  have c1' := sx_be (x := k8) (by omega) (by omega)
  have c2' := sx_be (x := k9) (by omega) (by omega)
  have c3' := sx_be (x := k10) (by omega) (by omega)
  have c4' := sx_be (x := k11) (by omega) (by omega)
  by_cases c1 : k0 = 1
  · subst c1
    simp [namedP] at hn
    simp [bytesP, b8, takeP_bind, msgFs, rdM, Fs.num, Fs.setM, Fs.setN, Mg.put, Mg.of, lk2, hk2, tk2]
    try omega
  by_cases c2 : k0 = 2
  · subst c2
    simp [namedP] at hn
    simp [bytesP, b8, takeP_bind, msgFs, rdM, Fs.num, Fs.setM, Fs.setN, Mg.put, Mg.of, lk2, hk2, tk2]
    try omega
  by_cases c3 : k0 = 3
  · subst c3
    simp [namedP] at hn
    simp [bytesP, b8, takeP_bind, msgFs, rdM, sF, Fs.num, Fs.setM, Fs.setN, Mg.put, Mg.of, lk1, hk1, tk1']
    try omega
  by_cases c4 : k0 = 4
  · subst c4
    simp [namedP] at hn
    simp [bytesP, b8, takeP_bind, msgFs, rdM, sF, Fs.num, Fs.setM, Fs.setN, Mg.put, Mg.of, lk1, hk1, tk1']
    try omega
  by_cases c5 : k0 = 5
  · subst c5
    simp [namedP] at hn
    cases k7
    all_goals
      simp [bytesP, b8, takeP_bind, msgFs, rdM, sF, Fs.num, Fs.setM, Fs.setN, Mg.put, Mg.of, show takeN [0] = 0 from rfl, show takeN [1] = 1 from rfl, b1, lk1, hk1]
      try omega
  by_cases c6 : k0 = 6
  · subst c6
    simp [namedP] at hn
    simp [bytesP, b8, takeP_bind, msgFs, rdM, sF, Fs.num, Fs.setM, Fs.setN, Mg.put, Mg.of, b1, lk1, hk1, lk3, hk3, tk3]
    try omega
  by_cases c7 : k0 = 7
  · subst c7
    simp [namedP] at hn
    simp [bytesP, b8, takeP_bind, msgFs, rdM, sF, eF, Fs.num, Fs.setM, Fs.setN, Mg.put, Mg.of, b1, lk1, hk1, lk4, hk4, tk4']
    try omega
  by_cases c8 : k0 = 8
  · subst c8
    simp [namedP] at hn
    simp [bytesP, b8, takeP_bind, msgFs, rdM, sF, Fs.num, Fs.setM, Fs.setN, Mg.put, Mg.of, lk1, hk1, tk1']
    try omega
  by_cases c9 : k0 = 9
  · subst c9
    simp [namedP] at hn
    simp [bytesP, b8, takeP_bind, msgFs, rdM, sF, Fs.num, Fs.setM, Fs.setN, Mg.put, Mg.of, lk1, hk1, tk1']
    try omega
  by_cases c10 : k0 = 10
  · subst c10
    simp [namedP] at hn
    simp [bytesP, b8, takeP_bind, msgFs, rdM, sF, eF, Fs.num, Fs.setM, Fs.setN, Mg.put, Mg.of, b1, b4, lk1, hk1, lk4, hk4, lk5, hk5, tk5]
    try omega
  by_cases c11 : k0 = 11
  · subst c11
    simp [namedP] at hn
    have lk6 : ¬ k6 < 1 := by have := hf.2.2.2.2.2.2.2.2.2.2; simp at this; omega
    have tk6 : ((takeN [UInt8.ofNat k6.toNat] : Nat) : Int) = k6 := tk1 (by omega) (by omega)
    simp [bytesP, b8, takeP_bind, msgFs, rdM, sF, eF, xF, Fs.num, Fs.setM, Fs.setN, Mg.put, Mg.get, Mg.of, b1, b4, c1', c2', c3', lk1, hk1, lk4, hk4, lk8, hk8, lk9, hk9, lk10, hk10, lk11, hk11, hk6, tk11, lk6, tk6, xsB, List.range_succ]
    try omega
  omega
end Go.Proofs
