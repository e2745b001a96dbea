/-
  Walks by Sx; no condition beyond those that stand in each statement.
-/
import Derived.Test.YtfefdjomenfchaaSxsShaG
import Derived.Test.YtfefdjomenfchaaSxsMacD
import Derived.Test.YtfefdjomenfchaaSxAW
namespace Go.Proofs
open Go Go.Sx
set_option maxRecDepth 100000
attribute [local simp] xs setL_all
variable (T : TyOk Try.prog (tyOf Try.prog Try.eqs)) (hm : Try.prog.follows .mixedOrders = true)
theorem zerosN_3 (l : List Value) (n : Nat) : zerosN l (n + 1) = l ++ zerosN l n := rfl
theorem low_byte (n j : Nat) (hn : n ≤ 1073741824) (hj : j < 8) : IntKind.u8.wrap (Go.bits .and .u64 ((n : Int) * 8 / 2 ^ (8 * (7 - (j : Int))).toNat) 255) = ((UInt8.ofNat (8 * n / 256 ^ (7 - j))).toNat : Int) := by
  have e : (8 * (7 - (j : Int))).toNat = 8 * (7 - j) := by omega
  have e2 : ((n : Int) * 8 / 2 ^ (8 * (7 - j))) = ((8 * n / 256 ^ (7 - j) : Nat) : Int) := by
    rw [show (256 : Nat) = 2 ^ 8 from rfl, ← Nat.pow_mul, Int.natCast_ediv]
    congr 1
    omega
  have hd : 8 * n / 256 ^ (7 - j) ≤ 8 * n := Nat.div_le_self _ _
  rw [e, e2, show (255 : Int) = ((255 : Nat) : Int) from rfl, bits_and_u64_nat _ _ (by omega) (by omega), show (255 : Nat) = 2 ^ 8 - 1 from rfl, Nat.and_two_pow_sub_one_eq_mod]
  simp [IntKind.wrap, IntKind.bits, IntKind.signed]
def padZ (n : Nat) : Nat := (n + 72) / 64 * 64 - n - 9
include T
set_option maxHeartbeats 1000000 in
theorem ref04_Pad_fn (b : List UInt8) (n : Nat) (hn : b.length = n) (hb : n ≤ 1073741824) (H : Heap) (a : Option Addr) (c : Nat) (hr : rowOf 1 H (.slice a n c) = some (u8s b)) :
    Sx.Fn Try.prog 18 [.slice a n c] H fun r h => ∃ p L, r = .slice (some ⟨H.length + p, 0, none⟩) (padL b).length OPEN ∧ h = H ++ L ∧ hget L p = some (grown (u8s (padL b)) 1) := by
  refine fn_w T xs Try.func18 rfl (by kernel_rfl) Try.results18 Try.ntmps18 (by simp) fun R hR => ?_
  have hrow : ∀ L, rowOf 1 (H ++ L) (.slice a n c) = some (u8s b) := fun L => Agree.rowOf (fun _ _ q => hget_old q L) hr
  simp [hrow, hn, zerosN_3]
  repeat refine ⟨by omega, ?_⟩
  refine W_forE T xs H (fun i (p : Nat) => [(0, .v (.slice a n c)), (3, .v (.slice (some ⟨H.length + p, 0, none⟩) (n + 1 + i) OPEN))]) (fun i p L => hget L p = some (grown (u8s (b ++ 128 :: List.replicate i 0)) 1)) (padZ n) ⟨3, _, ?_, by simp, rfl⟩ ?_
  · simp [u8s]
  intro i p L hi h1 K Q hK hQ
  have hp : p < L.length := hget_lt h1
  have h35 : n + 1 + i + 1 ≤ 35184372088832 := by unfold padZ at *; omega
  have hl : (b ++ 128 :: List.replicate i 0).length = n + 1 + i := by simp [hn]; omega
  simp [h1, hget_append hp, h35, zerosN_3, hl]
  refine ⟨by omega, ⟨fun hc => ?_, fun hc => ?_⟩⟩
  · have hiz : i < padZ n := by unfold padZ at *; omega
    exact hK _ _ (L.length + 1) hiz (by rw [hget_snoc (by simp)]; simp [u8s, List.replicate_succ']) (by simp; omega) (by simp; omega)
  refine hQ _ _ ?_
  have hiz : i = padZ n := by unfold padZ at *; omega
  subst hiz
  obtain ⟨Zs, hZs⟩ : ∃ Zs, Zs = b ++ 128 :: List.replicate (padZ n) 0 := ⟨_, rfl⟩
  have hZl : Zs.length = n + 1 + padZ n := by rw [hZs]; exact hl
  rw [← hZs] at h1
  have hmb : n + 1 + padZ n ≤ 1073741924 := by unfold padZ; omega
  have hpd : padL b = Zs ++ lowB (8 * n) 8 := by rw [hZs]; unfold padL padZ; rw [hn]; simp [List.append_assoc]
  generalize n + 1 + padZ n = m at *
  simp
  repeat refine ⟨by omega, ?_⟩
  refine W_forE T xs H (fun j (p : Nat) => [(3, .v (.slice (some ⟨H.length + p, 0, none⟩) (m + j) OPEN)), (4, .v (.int .u64 ((n : Int) * 8))), (5, .v (.int .i64 (7 - (j : Int))))]) (fun j p L => hget L p = some (grown (u8s (Zs ++ (lowB (8 * n) 8).take j)) 1)) 8 ⟨p, _, by simpa using h1, by simp, rfl⟩ ?_
  clear h1 hp hK hQ Q K hl
  intro j p L hj h1 K Q hK hQ
  have hp : p < L.length := hget_lt h1
  have hll := lowB_length (8 * n) 8
  have hl : (Zs ++ (lowB (8 * n) 8).take j).length = m + j := by rw [List.length_append, hZl, List.length_take, hll]; omega
  simp [h1, hget_append hp, zerosN_3, hl]
  refine ⟨fun hc => ?_, fun hc => ?_⟩
  · have hlb := low_byte n j (by omega) (by omega)
    have hbj := lowB_ix (8 * n) 8 j (by omega)
    rw [show 8 - 1 - j = 7 - j by omega] at hbj
    have htk : (lowB (8 * n) 8).take (j + 1) = (lowB (8 * n) 8).take j ++ [UInt8.ofNat (8 * n / 256 ^ (7 - j))] := by
      rw [List.take_add_one, List.getElem?_eq_getElem (by omega), ← hbj, ix_eq (by omega)]
      rfl
    repeat refine ⟨by omega, ?_⟩
    rw [hlb]
    exact hK _ _ (L.length + 1) (by omega) (by rw [hget_snoc (by simp), htk]; simp [u8s]) (by simp; omega) (by simp; omega)
  · have hj8 : j = 8 := by omega
    subst hj8
    rw [List.take_of_length_le (by rw [lowB_length]; exact Nat.le_refl _), ← hpd] at h1
    have hpl : (padL b).length = m + 8 := by rw [hpd, List.length_append, lowB_length, hZl]
    refine hQ _ _ ?_
    simp
    exact Ans.refl (hR _ _ ⟨p, L, by rw [hpl], rfl, h1⟩)
end Go.Proofs
