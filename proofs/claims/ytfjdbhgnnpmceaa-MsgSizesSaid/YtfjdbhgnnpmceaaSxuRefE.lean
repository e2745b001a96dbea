/-
  Walks by Sx; no condition beyond those that stand in each statement.
-/
import Derived.Test.YtfjdbhgnnpmceaaSxuRefD
import Derived.Laws.Bits128
namespace Go.Proofs
open Go Go.Sx
set_option maxRecDepth 100000
theorem and_i64_mask (k : Nat) (hk : k ≤ 32) (n : Int) : Go.bits .and .i64 n (2 ^ k - 1 : Nat) = n % (2 ^ k : Nat) := by
  have hlt : 2 ^ k ≤ 2 ^ 32 := Nat.pow_le_pow_right (by decide) hk
  have hpos : 0 < 2 ^ k := Nat.two_pow_pos k
  have h127 : (BitVec.ofInt 64 ((2 ^ k - 1 : Nat) : Int)).toNat = 2 ^ k - 1 := by
    rw [BitVec.toNat_ofInt]; omega
  have key : (BitVec.ofInt 64 n &&& BitVec.ofInt 64 ((2 ^ k - 1 : Nat) : Int)).toNat = (n % ((2 ^ 64 : Nat) : Int)).toNat % 2 ^ k := by
    rw [BitVec.toNat_and, BitVec.toNat_ofInt, h127, Nat.and_two_pow_sub_one_eq_mod]
  show IntKind.i64.wrap ((BitVec.ofInt 64 n &&& BitVec.ofInt 64 ((2 ^ k - 1 : Nat) : Int)).toNat : Nat) = _
  rw [key, IntKind.wrap_i64]
  have h2 : ((n % ((2 ^ 64 : Nat) : Int)).toNat % 2 ^ k : Nat) = (n % ((2 ^ k : Nat) : Int)).toNat := by
    have h3 : ((2 ^ 64 : Nat) : Int) = (2 ^ k : Nat) * (2 ^ (64 - k) : Nat) := by
      rw [← Int.natCast_mul, ← Nat.pow_add]; congr 2; omega
    have h4 : ((((n % ((2 ^ 64 : Nat) : Int)).toNat % 2 ^ k : Nat)) : Int) = n % ((2 ^ k : Nat) : Int) := by
      rw [Int.natCast_emod, Int.toNat_of_nonneg (Int.emod_nonneg _ (by decide))]
      exact Int.emod_emod_of_dvd n ⟨_, h3⟩
    omega
  rw [h2]
  have h5 := Int.emod_nonneg n (show ((2 ^ k : Nat) : Int) ≠ 0 by omega)
  have h6 := Int.emod_lt_of_pos n (show (0 : Int) < ((2 ^ k : Nat) : Int) by omega)
  omega
theorem and_255 (n : Int) : Go.bits .and .i64 n 255 = n % 256 := and_i64_mask 8 (by decide) n
theorem and_65535 (n : Int) : Go.bits .and .i64 n 65535 = n % 65536 := and_i64_mask 16 (by decide) n
theorem and_max32 (n : Int) : Go.bits .and .i64 n 4294967295 = n % 4294967296 := and_i64_mask 32 (by decide) n
theorem and_3 (n : Int) : Go.bits .and .i64 n 3 = n % 4 := and_i64_mask 2 (by decide) n
def xw : Sx.Mode := fun _ => false
attribute [local simp] xw and_255 and_65535 and_max32 and_3
theorem w64 {n : Int} (h1 : -9223372036854775808 ≤ n) (h2 : n ≤ 9223372036854775807) : IntKind.i64.wrap n = n := by rw [IntKind.wrap_i64]; omega
/-- What a number is in the end, of so many. -/
def modP (n : Int) (k : Nat) : Int := (n.tmod k + k).tmod k
theorem modP_lt (n : Int) {k : Nat} (hk : 0 < k) : 0 ≤ modP n k ∧ modP n k < k := by
  have h1 : n.tmod k < k := Int.tmod_lt_of_pos _ (by omega)
  have h2 : -(k : Int) < n.tmod k := by
    have := Int.lt_tmod_of_pos n (b := (k : Int)) (by omega)
    omega
  unfold modP
  rw [Int.tmod_eq_emod_of_nonneg (by omega)]
  exact ⟨Int.emod_nonneg _ (by omega), Int.emod_lt_of_pos _ (by omega)⟩
theorem modW (n : Int) {k : Nat} (hk : 0 < k) (h : k < 1000) : (IntKind.i64.wrap (n.tmod k + k)).tmod k = modP n k := by
  have h1 : n.tmod k < k := Int.tmod_lt_of_pos _ (by omega)
  have h2 : -(k : Int) < n.tmod k := by
    have := Int.lt_tmod_of_pos n (b := (k : Int)) (by omega)
    omega
  rw [w64 (by omega) (by omega)]; rfl
theorem mod11 (n : Int) : (IntKind.i64.wrap (n.tmod 11 + 11)).tmod 11 = modP n 11 := modW n (by decide) (by decide)
theorem mod5 (n : Int) : (IntKind.i64.wrap (n.tmod 5 + 5)).tmod 5 = modP n 5 := modW n (by decide) (by decide)
theorem mod3 (n : Int) : (IntKind.i64.wrap (n.tmod 3 + 3)).tmod 3 = modP n 3 := modW n (by decide) (by decide)
theorem modS (n : Int) {k : Nat} (hk : 0 < k) (h : k < 1000) : IntKind.i64.wrap (1 + modP n k) = 1 + modP n k := by
  have := modP_lt n hk
  exact w64 (by omega) (by omega)
/-- Within its bounds, as made. -/
def boundP (m : Mg) : Prop :=
  inP m.x0 (-32768) 32767 ∧ inP m.x1 (-32768) 32767 ∧ inP m.x2 (-32768) 32767 ∧ inP m.x3 (-32768) 32767 ∧ inP m.kind 1 11 ∧ inP m.seq 0 4294967295 ∧ inP m.epoch 0 65535 ∧ inP m.role 0 3 ∧ inP m.to 0 4 ∧ inP m.mode 0 4 ∧ inP m.cls 1 3
def baseP (m : Mg) : Prop := inP m.kind 1 11 ∧ inP m.seq 0 4294967295 ∧ inP m.epoch 0 65535 ∧ inP m.role 0 3 ∧ inP m.to 0 4 ∧ inP m.mode 0 4 ∧ inP m.cls 1 3
theorem named_kind (m : Mg) : (namedP m).kind = m.kind := by
  obtain ⟨k0, k1, k2, k3, k4, k5, k6, k7, k8, k9, k10, k11⟩ := m
  by_cases c1 : k0 = 1
  · subst c1; rfl
  by_cases c2 : k0 = 2
  · subst c2; rfl
  by_cases c5 : k0 = 5
  · subst c5; rfl
  by_cases c6 : k0 = 6
  · subst c6; rfl
  by_cases c7 : k0 = 7
  · subst c7; rfl
  by_cases c10 : k0 = 10
  · subst c10; rfl
  by_cases c11 : k0 = 11
  · subst c11; rfl
  simp [namedP, c1, c2, c5, c6, c7, c10, c11]
theorem named_named (m : Mg) : namedP (namedP m) = namedP m := by
  obtain ⟨k0, k1, k2, k3, k4, k5, k6, k7, k8, k9, k10, k11⟩ := m
  by_cases c1 : k0 = 1
  · subst c1; rfl
  by_cases c2 : k0 = 2
  · subst c2; rfl
  by_cases c5 : k0 = 5
  · subst c5; rfl
  by_cases c6 : k0 = 6
  · subst c6; rfl
  by_cases c7 : k0 = 7
  · subst c7; rfl
  by_cases c10 : k0 = 10
  · subst c10; rfl
  by_cases c11 : k0 = 11
  · subst c11; rfl
  simp [namedP, c1, c2, c5, c6, c7, c10, c11]
theorem named_fits {m : Mg} (h : boundP m) : fitsP (namedP m) := by
  obtain ⟨k0, k1, k2, k3, k4, k5, k6, k7, k8, k9, k10, k11⟩ := m
  simp only [boundP, inP] at h
  by_cases c1 : k0 = 1
  · subst c1; simp [namedP, fitsP, inP]; omega
  by_cases c2 : k0 = 2
  · subst c2; simp [namedP, fitsP, inP]; omega
  by_cases c5 : k0 = 5
  · subst c5; simp [namedP, fitsP, inP]; omega
  by_cases c6 : k0 = 6
  · subst c6; simp [namedP, fitsP, inP]; omega
  by_cases c7 : k0 = 7
  · subst c7; simp [namedP, fitsP, inP]; omega
  by_cases c10 : k0 = 10
  · subst c10; simp [namedP, fitsP, inP]; omega
  by_cases c11 : k0 = 11
  · subst c11; simp [namedP, fitsP, inP]; omega
  simp [namedP, fitsP, inP, c1, c2, c5, c6, c7, c10, c11]; omega
variable (T : TyOk Try.prog (tyOf Try.prog Try.eqs)) (hm : Try.prog.follows .mixedOrders = true)
include T
set_option maxHeartbeats 4000000 in
theorem fit_fn (m : Mg) (H : Heap) : Sx.Fn Try.prog 14 [.agg m.cells.toArray] H fun r h => ∃ x : Mg, r = .agg x.cells.toArray ∧ fitsP x ∧ namedP x = x ∧ ∃ L, h = H ++ L := by
  refine fn_w T xw Try.func14 rfl (by kernel_rfl) Try.results14 Try.ntmps14 (by simp) fun R hR => ?_
  obtain ⟨k0, k1, k2, k3, k4, k5, k6, k7, k8, k9, k10, k11⟩ := m
  simp [Mg.cells, mod11, mod5, mod3, modS]
  refine W_forS (α := Mg) T xw (fun i a => ⟨[(1, .v (.pointer (some ⟨H.length, 0, none⟩))), (2, .v (.pointer (some ⟨H.length + 1, 0, none⟩))), (3, .v (.int .i64 i))], H ++ [some (.cells a.cells true 0), some (.cells Mg.zero.cells true 0)]⟩) (fun i a => baseP a ∧ ∀ j, j < i → inP (a.get (8 + j)) (-32768) 32767) 4 ⟨⟨1 + modP k0 11, k1 % 4294967296, k2 % 4, modP k3 5, k4 % 65536, modP k5 5, 1 + modP k6 3, k7, k8, k9, k10, k11⟩, ⟨?_, by simp⟩, by simp, rfl⟩ ?_
  · have m0 := modP_lt k0 (k := 11) (by decide)
    have m3 := modP_lt k3 (k := 5) (by decide)
    have m5 := modP_lt k5 (k := 5) (by decide)
    have m6 := modP_lt k6 (k := 3) (by decide)
    simp only [baseP, inP]
    omega
  intro i a hi ⟨hb, hx⟩ K Q hK hQ
  simp
  refine ⟨fun h => ?_, fun h => ?_⟩
  · rw [Mg.get_cells a (k := 8 + i) (by omega) (by omega)]
    have w1 : IntKind.i64.wrap (a.get (8 + i) % 65536 - 32768) = a.get (8 + i) % 65536 - 32768 := w64 (by omega) (by omega)
    have w2 : IntKind.i64.wrap ((i : Int) + 1) = i + 1 := w64 (by omega) (by omega)
    simp [w1, w2]
    refine ⟨h, by omega, hK _ _ (a.put (8 + i) (a.get (8 + i) % 65536 - 32768)) (by omega) ⟨?_, ?_⟩ (by simp) (by simp [Mg.put_cells a (k := 8 + i) (by omega) (by omega)]) (by simp)⟩
    · match i, (show i < 4 by omega) with
      | 0, _ => exact hb
      | 1, _ => exact hb
      | 2, _ => exact hb
      | 3, _ => exact hb
    · intro j hj
      have g1 : inP (a.get (8 + i) % 65536 - 32768) (-32768) 32767 := by simp only [inP]; omega
      match i, (show i < 4 by omega), j, hj with
      | 0, _, 0, _ => exact g1
      | 1, _, 0, _ => exact hx 0 (by omega)
      | 1, _, 1, _ => exact g1
      | 2, _, 0, _ => exact hx 0 (by omega)
      | 2, _, 1, _ => exact hx 1 (by omega)
      | 2, _, 2, _ => exact g1
      | 3, _, 0, _ => exact hx 0 (by omega)
      | 3, _, 1, _ => exact hx 1 (by omega)
      | 3, _, 2, _ => exact hx 2 (by omega)
      | 3, _, 3, _ => exact g1
  · have h4 : i = 4 := by omega
    subst h4
    refine hQ _ _ ?_
    have hbo : boundP a := by
      obtain ⟨b1, b2, b3, b4, b5, b6, b7⟩ := hb
      exact ⟨hx 0 (by omega), hx 1 (by omega), hx 2 (by omega), hx 3 (by omega), b1, b2, b3, b4, b5, b6, b7⟩
    simp [Mg.take12]
    refine CallK.of (named_fn T _ _) ?_
    rintro _ _ ⟨rfl, L2, rfl⟩
    have ez : setL Mg.zero.cells 0 (namedP a).cells = (namedP a).cells := rfl
    simp [ez, Mg.take12]
    exact ⟨Mg.oneM _, Ans.refl (hR _ _ ⟨_, rfl, named_fits hbo, named_named a, _, rfl⟩)⟩
end Go.Proofs
