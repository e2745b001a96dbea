/-
  Walks by Sx; no condition beyond those that stand in each statement.
-/
import Derived.Test.YtfefdjomenfchaaSxsRefB
namespace Go.Proofs
open Go Go.Sx
set_option maxRecDepth 100000
attribute [local simp] xs wrap_u32_nat u32_mul u32_or' u32_xor' u32_and' u32_add u32_div w32_set u32_not' setL_all
variable (T : TyOk Try.prog (tyOf Try.prog Try.eqs)) (hm : Try.prog.follows .mixedOrders = true)
theorem wrap_u8_nat' (n : Nat) : IntKind.u8.wrap (n : Int) = ((UInt8.ofNat n).toNat : Int) := by
  simp [IntKind.wrap, IntKind.bits, IntKind.signed]
theorem outB_ref (V : List UInt32) (i : Nat) : IntKind.u8.wrap ((an (u32n ((ix V (i / 4)).toNat / 2 ^ (24 - 8 * (i % 4)))) 255).toNat : Int) = ((outB V i).toNat : Int) := by
  unfold outB
  rw [wrap_u8_nat']
  congr 1
  simp only [an, UInt8.toNat_ofNat', UInt32.toNat_and]
  rw [show (255 : UInt32).toNat = 2 ^ 8 - 1 from rfl, Nat.and_two_pow_sub_one_eq_mod, Nat.mod_mod]
include T hm
set_option maxHeartbeats 1000000 in
theorem ref04_Sum_fn (b : List UInt8) (n : Nat) (hn : b.length = n) (hb : n ≤ 1073741824) (H : Heap) (a : Option Addr) (c : Nat) (hr : rowOf 1 H (.slice a n c) = some (u8s b)) :
    Sx.Fn Try.prog 16 [.slice a n c] H fun r h => r = .agg (u8s (sumL b)).toArray ∧ h = H := by
  refine fn_w T xs Try.func16 rfl (by kernel_rfl) Try.results16 Try.ntmps16 (by simp) fun R hR => ?_
  simp
  refine CallK.of (ref04_Pad_fn T b n hn hb _ a c (Agree.rowOf (fun _ _ q => hget_old q _) hr)) ?_
  rintro _ _ ⟨p, L, rfl, rfl, h1⟩
  obtain ⟨m, hm'⟩ : ∃ m, m = (padL b).length := ⟨_, rfl⟩
  have hn64 : m = m / 64 * 64 := by rw [hm', padL_length]; omega
  have hnb : m ≤ n + 72 := by rw [hm', padL_length]; omega
  rw [← hm']
  generalize hp : padL b = P at *
  have hpl : p < L.length := hget_lt h1
  simp
  refine CallK.of (ref04_Start_fn T hm _) ?_
  rintro _ _ ⟨rfl, rfl⟩
  simp
  refine W_forE T xs H (fun k (_ : Unit) => [(2, .v (.pointer (some ⟨H.length, 0, none⟩))), (3, .v (.slice (some ⟨H.length + (p + 1), 0, none⟩) m OPEN)), (4, .v (.pointer (some ⟨H.length + (L.length + 1), 0, none⟩))), (5, .v (.int .i64 (64 * k : Nat)))]) (fun k _ M => ∃ J, M = some (.cells (u8s (List.replicate 32 0)) true 0) :: (L ++ some (.cells (w32 (hs P k)) true 0) :: J)) (m / 64) ⟨(), _, ⟨[], rfl⟩, by simp [Nat.add_assoc, Nat.add_comm 1], rfl⟩ ?_
  rintro k _ _ hk ⟨J, rfl⟩ K Q hK hQ
  simp
  refine ⟨fun hc => ?_, fun hc => ?_⟩
  · refine cw_drawl T hm xs [2, 3, 4, 5, 6] (.soft 0 true <| .soft 1 false <| .soft 2 false <| .soft 3 false <| .soft 4 false <| .soft 5 true <| .alt 6 false (.stop) (.stop)) (by kernel_rfl) fun K2 hK2 => ?_
    have hk' : k < m / 64 := by omega
    have n0 : ((64 : Int) * k).toNat = 64 * k := by omega
    have n1 : ((64 : Int) * k + 64).toNat = 64 * k + 64 := by omega
    have n2 : 64 * k + 64 - 64 * k = 64 := by omega
    have n3 : min 64 (P.length - 64 * k) = 64 := by omega
    have hlen : ((P.drop (64 * k)).take 64).length = 64 := by simp; omega
    have htk : ((P.drop (64 * k)).take 64).take 64 = (P.drop (64 * k)).take 64 := List.take_of_length_le (by omega)
    simp [hget_append hpl, h1, n0, n1, n2, n3, htk]
    repeat refine ⟨by omega, ?_⟩
    refine hK2 _ ?_
    simp [hs_length, hs_take, hlen, htk]
    refine CallK.of (ref04_Block_fn T hm (hs P k) (hs_length P k) _ hlen _) ?_
    rintro _ _ ⟨rfl, rfl⟩
    simp [hs_length, blk_length]
    repeat refine ⟨by omega, ?_⟩
    exact hK _ _ () (by omega) ⟨J ++ [some (.cells (u8s ((P.drop (64 * k)).take 64)) true 0)], rfl⟩ (by simp; omega) (by simp)
  · refine hQ _ _ ?_
    have hkm : k = m / 64 := by omega
    subst hkm
    have hsum : sumL b = (List.range 32).map (outB (hs P (m / 64))) := by rw [sumL, hp, ← hm']
    have hvl := hs_length P (m / 64)
    have hvt := hs_take P (m / 64)
    generalize hs P (m / 64) = V at *
    simp
    refine W_for T xs (fun i => ⟨[(2, .v (.pointer (some ⟨H.length, 0, none⟩))), (4, .v (.pointer (some ⟨H.length + (L.length + 1), 0, none⟩))), (7, .v (.pointer (some ⟨H.length + (L.length + (J.length + 1) + 1), 0, none⟩))), (8, .v (.int .i64 i))], H ++ some (.cells (u8s (List.replicate 32 0)) true 0) :: (L ++ some (.cells (w32 V) true 0) :: (J ++ [some (.cells (u8s (front (outB V) 32 i)) true 0)]))⟩) 32 ⟨by simp, by simp; rfl⟩ ?_
    clear hK hQ K Q
    intro i hi K Q hK hQ
    have e1 : ((i : Int) / 4).toNat = i / 4 := by omega
    have e2 : ((8 : Int) * (3 - ((i : Int) % 4))).toNat = 24 - 8 * (i % 4) := by omega
    have hfl := front_length (outB V) 32 i (by omega)
    simp [e1, e2, hfl, hvl]
    refine ⟨fun hc => ?_, fun hc => ?_⟩
    · repeat refine ⟨by omega, ?_⟩
      have e3 : IntKind.u8.wrap (Go.bits .and .u32 (((ix V (i / 4)).toNat : Int).fdiv (2 ^ min (24 - 8 * (i % 4)) 32)) 255) = ((outB V i).toNat : Int) := by
        rw [Nat.min_eq_left (by omega), fdiv_shr, show (255 : Int) = ((255 : UInt32).toNat : Int) from rfl, u32_and', outB_ref]
      rw [e3, u8s_set, front_set (outB V) 32 i (by omega)]
      exact hK _ _ (by omega) (by simp) rfl (by simp)
    · have hi32 : i = 32 := by omega
      subst hi32
      have hft : (front (outB V) 32 32).take 32 = front (outB V) 32 32 := List.take_of_length_le (by omega)
      refine hQ _ _ ?_
      simp [hfl, hft]
      rw [front_full, ← hsum]
      exact Ans.plain (plain_u8s _) (hR _ _ ⟨rfl, rfl⟩)
end Go.Proofs
