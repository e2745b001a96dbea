/-
  Walks by Sx; no condition beyond those that stand in each statement.
-/
import Derived.Test.YtfjdbhgnnpmceaaSxuShaB
namespace Go.Proofs
open Go Go.Sx
set_option maxRecDepth 100000
attribute [local simp] xs wrap_u32_nat u32_mul u32_or' u32_xor' u32_and' u32_add u32_div w32_set
variable (T : TyOk Try.prog (tyOf Try.prog Try.eqs)) (hm : Try.prog.follows .mixedOrders = true)
/-- The low bytes of a number, the highest one first. -/
def lowB (m : Nat) : Nat → List UInt8
  | 0 => []
  | j + 1 => UInt8.ofNat (m / 256 ^ j) :: lowB m j
theorem lowB_length (m : Nat) : ∀ j, (lowB m j).length = j
  | 0 => rfl
  | j + 1 => by simp [lowB, lowB_length m j]
def padL (b : List UInt8) : List UInt8 := b ++ 128 :: (List.replicate ((b.length + 72) / 64 * 64 - b.length - 9) 0 ++ lowB (8 * b.length) 8)
theorem padL_length (b : List UInt8) : (padL b).length = (b.length + 72) / 64 * 64 := by
  simp [padL, lowB_length]; omega
theorem lowB_zero (m : Nat) : ∀ j, m / 256 ^ j = 0 → ∀ k, lowB m (j + k) = List.replicate k 0 ++ lowB m j
  | j, h, 0 => by simp
  | j, h, k + 1 => by
    have : m / 256 ^ (j + k) = 0 := by
      rw [Nat.pow_add, ← Nat.div_div_eq_div_mul, h]; simp
    rw [← Nat.add_assoc, lowB, this, lowB_zero m j h k, List.replicate_succ]; rfl
def dv (m j : Nat) : Nat := m / 256 ^ j
theorem dv_zero (m : Nat) : dv m 0 = m := by simp [dv]
theorem dv_succ (m j : Nat) : (dv m j : Int) / 256 = (dv m (j + 1) : Int) := by
  rw [show (256 : Int) = ((256 : Nat) : Int) from rfl, ← Int.natCast_ediv, dv, dv, Nat.pow_succ, Nat.div_div_eq_div_mul]
theorem dv_le (m j : Nat) : dv m j ≤ m := Nat.div_le_self _ _
/-- What is filled, when j bytes of the number stand. -/
def padC (b : List UInt8) (q m j : Nat) : List UInt8 := b ++ 128 :: (List.replicate (q - j) 0 ++ lowB m j)
theorem padC_length (b : List UInt8) (q m j : Nat) (h : j ≤ q) : (padC b q m j).length = b.length + 1 + q := by
  simp [padC, lowB_length]; omega
theorem padC_set (b : List UInt8) (q m j : Nat) (hj : j < q) : (padC b q m j).set (b.length + (q - j)) (UInt8.ofNat (dv m j)) = padC b q m (j + 1) := by
  unfold padC
  rw [List.set_append_right _ _ (by omega)]
  congr 1
  rw [show b.length + (q - j) - b.length = (q - (j + 1)) + 1 by omega, List.set_cons_succ, show q - j = (q - (j + 1)) + 1 by omega]
  congr 1
  rw [List.replicate_succ', List.append_assoc, List.set_append_right _ _ (by simp)]
  simp [lowB, dv]
theorem padC_done (b : List UInt8) (q m j : Nat) (h8 : 8 ≤ q) (hj : j ≤ 8) (h : dv m j = 0) : padC b q m j = padC b q m 8 := by
  unfold padC
  have := lowB_zero m j h (8 - j)
  rw [show j + (8 - j) = 8 by omega] at this
  rw [this, ← List.append_assoc (List.replicate (q - 8) (0 : UInt8)), List.replicate_append_replicate, show q - 8 + (8 - j) = q - j by omega]
/-- The bytes that a slice tells. -/
def Byt (H : Heap) (a : Option Addr) (c : Nat) (b : List UInt8) : Prop := rowOf 1 H (.slice a b.length c) = some (u8s b)
theorem Byt.mono {H : Heap} {a : Option Addr} {c : Nat} {b : List UInt8} (r : Byt H a c b) (L : Heap) : Byt (H ++ L) a c b :=
  Agree.rowOf (fun _ _ q => hget_old q L) r
theorem Byt.of {H : Heap} {a : Option Addr} {c : Nat} {b : List UInt8} (r : Row H a b.length c (u8s b)) : Byt H a c b := by
  unfold Byt
  obtain ⟨h1, _, _, h2⟩ := r
  rcases h2 with ⟨rfl, hn, _⟩ | ⟨i, k, cs, o, u, rfl, hc, hk, e⟩
  · have : b = [] := List.eq_nil_of_length_eq_zero (by omega)
    subst this; simp [u8s]
  · simp [hc, hk, e]
include T
theorem sha_Pad_fn (b : List UInt8) (hb : b.length ≤ 1099511627776) (H : Heap) (a : Option Addr) (c : Nat) (hr : Byt H a c b) :
    Sx.Fn Try.prog 64 [.slice a b.length c] H fun r h => r = .slice (some ⟨H.length, 0, none⟩) (padL b).length (padL b).length ∧ h = H ++ [some (.cells (u8s (padL b)) true 0)] := by
  refine fn_start T Try.func64 rfl (by kernel_rfl) Try.results64 Try.ntmps64 (by simp) ?_
  intro Q hQ
  simp only [argTm]
  obtain ⟨n, hn⟩ : ∃ n, n = (b.length + 72) / 64 * 64 := ⟨_, rfl⟩
  obtain ⟨q, hq⟩ : ∃ q, n = b.length + 1 + q := ⟨n - b.length - 1, by omega⟩
  have hq8 : 8 ≤ q := by omega
  refine cw_step T xs [0] fun K1 hK1 => ?_
  simp
  refine hK1 _ ?_; clear hK1 K1
  refine cw_step T xs [0, 3] fun K2 hK2 => ?_
  simp
  rw [show ((b.length : Int) + 1 + 8 + 64 - 1) / 64 * 64 = (n : Int) by omega]
  repeat refine ⟨by omega, ?_⟩
  refine hK2 _ ?_; clear hK2 K2
  refine cw_step T xs [0, 3, 4] fun K3 hK3 => ?_
  simp [zeros_u8]
  repeat refine ⟨by omega, ?_⟩
  refine hK3 _ ?_; clear hK3 K3
  have hrow : rowOf 1 (H ++ [some (.cells (u8s (List.replicate n 0)) true 0)]) (.slice a b.length c) = some (u8s b) := hr.mono _
  have hmin : min b.length n = b.length := by omega
  have hset : setL (u8s (List.replicate n 0)) 0 (u8s b) = u8s (b ++ List.replicate (q + 1) 0) := by
    rw [setL_eq _ _ _ (by simp; omega)]
    simp [show n - b.length = q + 1 by omega]
  refine cw_step T xs [0, 3, 4] fun K4 hK4 => ?_
  simp [hrow, hmin, hset]
  repeat refine ⟨by omega, ?_⟩
  refine hK4 _ ?_; clear hK4 K4
  obtain ⟨m, hm⟩ : ∃ m, m = 8 * b.length := ⟨_, rfl⟩
  have hset2 : (u8s (b ++ List.replicate (q + 1) 0)).set b.length (.int .u8 128) = u8s (padC b q m 0) := by
    have e : (Value.int .u8 128) = .int .u8 ((128 : UInt8).toNat : Int) := rfl
    rw [e, u8s_set, List.set_append_right _ _ (Nat.le_refl _), Nat.sub_self, List.replicate_succ, List.set_cons_zero]
    simp [lowB, padC]
  have hset3 : u8s (b ++ List.replicate (q + 1) 0) = u8s (b ++ 0 :: List.replicate q 0) := by rw [List.replicate_succ]
  refine cw_step T xs [0, 3, 4] fun K5 hK5 => ?_
  rw [show b ++ List.replicate (q + 1) 0 = (b ++ List.replicate (q + 1) 0).map id by simp] at hset2 ⊢
  generalize hZ : (b ++ List.replicate (q + 1) (0 : UInt8)).map id = Z at *
  have hZl : Z.length = n := by rw [← hZ]; simp; omega
  clear hZ hset hset3
  simp [hset2, hZl]
  repeat refine ⟨by omega, ?_⟩
  refine hK5 _ ?_; clear hK5 K5 hset2 hZl Z
  refine cw_seq fun K6 hK6 => ?_
  refine cw_step T xs [4, 5, 6] fun K7 hK7 => ?_
  simp
  rw [show (b.length : Int) * 8 = (dv m 0 : Int) by rw [dv_zero]; omega]
  have hm0 := dv_le m 0
  repeat refine ⟨by omega, ?_⟩
  refine hK7 _ ?_; clear hK7 K7
  have hm8 : dv m 8 = 0 := by unfold dv; omega
  have hpadE : padL b = padC b q m 8 := by
    rw [padL, padC, ← hn, show n - b.length - 9 = q - 8 by omega, hm]
  refine cw_block ?_
  refine cw_while (fun z s => ∃ j, z = 8 - j ∧ j ≤ 8 ∧ s = ⟨[(4, .v (.slice (some ⟨H.length, 0, none⟩) n n)), (5, .v (.int .i64 ((n : Int) - 1 - j))), (6, .v (.int .u64 (dv m j : Int)))], H ++ [some (.cells (u8s (padC b q m j)) true 0)]⟩) 8 ⟨0, by omega, by omega, by simp⟩ ?_
  rintro z s ⟨j, rfl, hj, rfl⟩
  have hpl := padC_length b q m j (by omega)
  have hml := dv_le m j
  have hml' := dv_le m (j + 1)
  refine cw_seq fun K8 hK8 => ?_
  refine cw_step T xs [4, 5, 6, 31] fun K9 hK9 => ?_
  simp
  refine hK9 _ ?_; clear hK9 K9
  refine cw_cond rfl (fun hc => ?_) (fun hc => ?_)
  · try simp at hc
    have hj8 : j < 8 := by
      rcases Nat.lt_or_ge j 8 with h | h
      · exact h
      · have : j = 8 := by omega
        subst this; omega
    refine cw_skip ?_
    refine hK8 _ ?_; clear hK8
    refine cw_seq fun K10 hK10 => ?_
    refine cw_block ?_
    refine cw_last T xs [4, 5, 6] fun K11 hK11 => ?_
    have hidx : ((n : Int) - 1 - j).toNat = b.length + (q - j) := by omega
    simp [hidx, hpl, u8s_put, padC_set b q m j (by omega)]
    repeat refine ⟨by omega, ?_⟩
    refine hK11 _ ?_; clear hK11 K11
    refine hK10 _ ?_; clear hK10
    refine cw_last T xs [4, 5, 6] fun K12 hK12 => ?_
    simp [dv_succ]
    repeat refine ⟨by omega, ?_⟩
    refine hK12 _ ?_; clear hK12 K12
    refine round_end (8 - (j + 1)) (by omega) ⟨j + 1, rfl, by omega, ?_⟩ (by simp)
    rw [show (n : Int) - 1 - j - 1 = (n : Int) - 1 - (j + 1 : Nat) by omega]
  · try simp at hc
    have hd := padC_done b q m j hq8 hj (by omega)
    refine cw_exit ?_
    refine hK6 _ ?_; clear hK6
    refine cw_step T xs [2] fun K13 hK13 => ?_
    simp
    refine hK13 _ ?_; clear hK13 K13
    have hpl2 := padL_length b
    exact cw_ret (hQ _ _ _ _ rfl (Ret.refl _ _ _) ⟨by rw [hpl2, ← hn], by rw [hpadE, hd]⟩).2
end Go.Proofs
