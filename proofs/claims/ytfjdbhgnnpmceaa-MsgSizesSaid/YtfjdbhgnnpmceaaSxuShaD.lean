/-
  Walks by Sx; no condition beyond those that stand in each statement.
-/
import Derived.Test.YtfjdbhgnnpmceaaSxuShaC
namespace Go.Proofs
open Go Go.Sx
set_option maxRecDepth 100000
attribute [local simp] xs wrap_u32_nat u32_mul u32_or' u32_xor' u32_and' u32_add u32_div w32_set setL_all
variable (T : TyOk Try.prog (tyOf Try.prog Try.eqs)) (hm : Try.prog.follows .mixedOrders = true)
/-- The sum so far, block by block. -/
def hs (p : List UInt8) : Nat → List UInt32
  | 0 => hh
  | k + 1 => blk (hs p k) ((p.drop (64 * k)).take 64)
theorem hs_length (p : List UInt8) : ∀ k, (hs p k).length = 8
  | 0 => rfl
  | k + 1 => blk_length _ (hs_length p k) _
theorem hs_take (p : List UInt8) (k : Nat) : (hs p k).take 8 = hs p k := List.take_of_length_le (by rw [hs_length]; exact Nat.le_refl _)
/-- Words as bytes. -/
def outB (h : List UInt32) (i : Nat) : UInt8 := UInt8.ofNat (u32n ((ix h (i / 4)).toNat / 2 ^ (24 - 8 * (i % 4)))).toNat
def sumL (b : List UInt8) : List UInt8 := (List.range 32).map (outB (hs (padL b) ((padL b).length / 64)))
theorem sumL_length (b : List UInt8) : (sumL b).length = 32 := by simp [sumL]
theorem Row_mono {H : Heap} {a : Option Addr} {n c : Nat} {l : List Value} (r : Row H a n c l) (L : Heap) : Row (H ++ L) a n c l := by
  obtain ⟨h1, h2, h3, h4⟩ := r
  refine ⟨h1, h2, h3, ?_⟩
  rcases h4 with h | ⟨i, k, cs, o, u, e, hc, h5, h6⟩
  · exact .inl h
  · exact .inr ⟨i, k, cs, o, u, e, hget_old hc L, h5, h6⟩
include T hm
theorem sha_Sum_fn (b : List UInt8) (hb : b.length ≤ 1099511627776) (H : Heap) (a : Option Addr) (c : Nat) (hr : Byt H a c b) :
    Sx.Fn Try.prog 47 [.slice a b.length c] H fun r h => r = .agg (u8s (sumL b)).toArray ∧ h = H := by
  refine fn_start T Try.func47 rfl (by kernel_rfl) Try.results47 Try.ntmps47 (by simp) ?_
  intro Q hQ
  simp only [argTm]
  obtain ⟨n, hn⟩ : ∃ n, n = (padL b).length := ⟨_, rfl⟩
  have hn64 : n = n / 64 * 64 := by rw [hn, padL_length]; omega
  have hnb : n ≤ b.length + 72 := by rw [hn, padL_length]; omega
  have hn0 : 0 < n := by rw [hn, padL_length]; omega
  refine cw_step T xs [0, 2] fun K1 hK1 => ?_
  simp
  refine hK1 _ ?_; clear hK1 K1
  refine cw_step T xs [0, 2, 3] fun K2 hK2 => ?_
  simp
  refine CallK.of (sha_Start_fn T hm _) ?_
  rintro _ _ ⟨rfl, rfl⟩
  simp
  refine hK2 _ ?_; clear hK2 K2
  refine cw_seq fun K3 hK3 => ?_
  refine cw_step T xs [2, 3, 4] fun K4 hK4 => ?_
  simp
  refine CallK.of (sha_Pad_fn T b hb _ a c (hr.mono _)) ?_
  rintro _ _ ⟨rfl, rfl⟩
  rw [← hn]
  generalize hp : padL b = p at *
  simp
  refine hK4 _ ?_; clear hK4 K4
  refine cw_block ?_
  refine cw_while (fun z s => ∃ k o, z = n / 64 - k ∧ k ≤ n / 64 ∧ (k < n / 64 → o = 64 * k) ∧ s = ⟨[(2, .v (.pointer (some ⟨H.length, 0, none⟩))), (3, .v (.pointer (some ⟨H.length + 1, 0, none⟩))), (4, .v (.slice (some ⟨H.length + 2, o, none⟩) (n - 64 * k) (n - 64 * k)))], H ++ [some (.cells (u8s (List.replicate 32 0)) true 0), some (.cells (w32 (hs p k)) true 0), some (.cells (u8s p) true 0)]⟩) (n / 64) ⟨0, 0, by omega, by omega, by omega, by rfl⟩ ?_
  rintro z s ⟨k, o, rfl, hk, ho, rfl⟩
  refine cw_seq fun K5 hK5 => ?_
  refine cw_step T xs [2, 3, 4, 12] fun K6 hK6 => ?_
  simp
  refine hK6 _ ?_; clear hK6 K6
  refine cw_cond rfl (fun hc => ?_) (fun hc => ?_)
  · try simp at hc
    refine cw_skip ?_
    refine hK5 _ ?_; clear hK5
    refine cw_seq fun K7 hK7 => ?_
    refine cw_block ?_
    refine cw_drawl T hm xs [2, 3, 4] (.soft 0 true <| .soft 1 false <| .soft 2 true <| .soft 3 true <| .alt 4 true (.alt 5 false (.stop) (.stop)) (.stop)) (by kernel_rfl) fun K8 hK8 => ?_
    have hk : k < n / 64 := by omega
    have ho' := ho hk
    subst ho'
    have hlen : ((p.drop (64 * k)).take 64).length = 64 := by simp [← hn]; omega
    simp [← hn, hs_length, hs_take]
    repeat refine ⟨by omega, ?_⟩
    refine CallK.of (sha_Block_fn T hm (hs p k) (hs_length p k) _ hlen _) ?_
    rintro _ _ ⟨rfl, rfl⟩
    simp [hs_length, blk_length]
    refine hK8 _ ?_; clear hK8 K8
    refine hK7 _ ?_; clear hK7
    refine cw_last T xs [2, 3, 4] fun K9 hK9 => ?_
    have hO : OPEN = 1180591620717411303424 := rfl
    have hno : ¬ (n - 64 * k = OPEN) := by omega
    have hno2 : ¬ (n - 64 * k - 64 = OPEN) := by omega
    simp [hno, hno2]
    repeat refine ⟨by omega, ?_⟩
    refine hK9 _ ?_; clear hK9 K9
    refine round_end (n / 64 - (k + 1)) (by omega) ⟨k + 1, if n - 64 * k = 64 then 64 * k else 64 * k + 64, rfl, by omega, fun h => by rw [if_neg (by omega)]; omega, ?_⟩ (by simp)
    rw [show n - 64 * (k + 1) = n - 64 * k - 64 by omega]; rfl
  · try simp at hc
    refine cw_exit ?_
    have hk : k = n / 64 := by omega
    subst hk
    have hsum : sumL b = (List.range 32).map (outB (hs p (n / 64))) := by rw [sumL, hp, ← hn]
    have hvl := hs_length p (n / 64)
    have hvt := hs_take p (n / 64)
    generalize hs p (n / 64) = V at *
    refine hK3 _ ?_; clear hK3
    refine cw_step T xs [2, 3, 5] fun K10 hK10 => ?_
    simp
    refine hK10 _ ?_; clear hK10 K10
    refine cw_seq fun K11 hK11 => ?_
    refine cw_step T xs [2, 3, 5, 20] fun K12 hK12 => ?_
    simp
    refine hK12 _ ?_; clear hK12 K12
    refine cw_block ?_
    refine cw_while (fun z s => ∃ i, z = 32 - i ∧ i ≤ 32 ∧ s = ⟨[(2, .v (.pointer (some ⟨H.length, 0, none⟩))), (3, .v (.pointer (some ⟨H.length + 1, 0, none⟩))), (5, .v (.pointer (some ⟨H.length + 3, 0, none⟩))), (20, .v (.int .i64 i))], H ++ [some (.cells (u8s (List.replicate 32 0)) true 0), some (.cells (w32 V) true 0), some (.cells (u8s p) true 0), some (.cells (u8s (front (outB V) 32 i)) true 0)]⟩) 32 ⟨0, by omega, by omega, by rfl⟩ ?_
    rintro z s ⟨i, rfl, hi, rfl⟩
    refine cw_step T xs [2, 3, 5, 20, 21] fun K13 hK13 => ?_
    simp
    refine hK13 _ ?_; clear hK13 K13
    refine cw_seq fun K14 hK14 => ?_
    refine cw_cond rfl (fun hc => ?_) (fun hc => ?_)
    · try simp at hc
      refine cw_skip ?_
      refine hK14 _ ?_; clear hK14
      refine cw_seq fun K15 hK15 => ?_
      refine cw_block ?_
      refine cw_step T xs [2, 3, 5, 6, 20] fun K16 hK16 => ?_
      simp
      refine hK16 _ ?_; clear hK16 K16
      refine cw_last T xs [2, 3, 5, 20] fun K17 hK17 => ?_
      have e1 : ((i : Int) / 4).toNat = i / 4 := by omega
      have e2 : ((24 : Int) - 8 * ((i : Int) % 4)).toNat = 24 - 8 * (i % 4) := by omega
      have hfl := front_length (outB V) 32 i (by omega)
      simp [e1, e2, hfl, hvl]
      repeat refine ⟨by omega, ?_⟩
      have e3 : (u8s (front (outB V) 32 i)).set i (.int .u8 (IntKind.u8.wrap (((u32n ((ix V (i / 4)).toNat / 2 ^ (24 - 8 * (i % 4)))).toNat : Nat) : Int))) = u8s (front (outB V) 32 (i + 1)) := by
        rw [u8s_put]; exact congrArg u8s (front_set (outB V) 32 i (by omega))
      rw [show min (24 - 8 * (i % 4)) 32 = 24 - 8 * (i % 4) by omega, fdiv_shr, e3]
      refine hK17 _ ?_; clear hK17 K17
      refine hK15 _ ?_; clear hK15
      refine cw_last T xs [2, 3, 5, 20] fun K18 hK18 => ?_
      simp
      refine ⟨by omega, ?_⟩
      refine hK18 _ ?_; clear hK18 K18
      refine round_end (32 - (i + 1)) (by omega) ⟨i + 1, rfl, by omega, ?_⟩ (by simp)
      rfl
    · try simp at hc
      refine cw_exit ?_
      refine hK11 _ ?_; clear hK11
      refine cw_step T xs [2] fun K19 hK19 => ?_
      have hi32 : i = 32 := by omega
      subst hi32
      have hfl := front_length (outB V) 32 32 (by omega)
      have hft : (front (outB V) 32 32).take 32 = front (outB V) 32 32 := List.take_of_length_le (by omega)
      simp [hfl, hft]
      refine hK19 _ ?_; clear hK19 K19
      rw [front_full]
      have hsl : (List.map (outB V) (List.range 32)).take 32 = List.map (outB V) (List.range 32) := List.take_of_length_le (by simp)
      exact cw_ret (hQ _ (.agg (u8s (sumL b)).toArray) _ _ (resC_one (by simp [hsum, hsl])) (Ret.plain (plain_u8s _)) ⟨rfl, rfl⟩).2
theorem sha_Sum_l (b : List UInt8) (n : Nat) (hn : b.length = n) (hb : n ≤ 1099511627776) (H : Heap) (a : Option Addr) (c : Nat) (hr : rowOf 1 H (.slice a n c) = some (u8s b)) :
    Sx.Fn Try.prog 47 [.slice a n c] H fun r h => r = .agg (u8s (sumL b)).toArray ∧ h = H := by
  subst hn; exact sha_Sum_fn T hm b hb H a c hr
omit hm in
theorem sha_Pad_l (b : List UInt8) (n : Nat) (hn : b.length = n) (hb : n ≤ 1099511627776) (H : Heap) (a : Option Addr) (c : Nat) (hr : rowOf 1 H (.slice a n c) = some (u8s b)) :
    Sx.Fn Try.prog 64 [.slice a n c] H fun r h => r = .slice (some ⟨H.length, 0, none⟩) (padL b).length (padL b).length ∧ h = H ++ [some (.cells (u8s (padL b)) true 0)] := by
  subst hn; exact sha_Pad_fn T b hb H a c hr
end Go.Proofs
