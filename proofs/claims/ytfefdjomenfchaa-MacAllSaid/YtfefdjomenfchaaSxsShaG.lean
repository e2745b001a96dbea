/-
  Walks by Sx; no condition beyond those that stand in each statement.
-/
import Derived.Test.YtfefdjomenfchaaSxsShaF
namespace Go.Proofs
open Go Go.Sx
set_option maxRecDepth 100000
attribute [local simp] xs wrap_u32_nat u32_mul u32_or' u32_or8 u32_xor' u32_and' u32_add u32_div w32_set setL_all
variable (T : TyOk Try.prog (tyOf Try.prog Try.eqs)) (hm : Try.prog.follows .mixedOrders = true)
theorem agree_pre (H A B : Heap) : Agree (H ++ A) (H ++ B) = Agree A B := by
  induction H with
  | nil => rfl
  | cons b H ih => simp only [List.cons_append, agree_cons, ih]
theorem lowB_ix (m : Nat) : ∀ (n j : Nat), j < n → ix (lowB m n) j = UInt8.ofNat (m / 256 ^ (n - 1 - j))
  | n + 1, 0, _ => by simp [lowB, ix]
  | n + 1, j + 1, h => by
    have ih := lowB_ix m n j (by omega)
    rw [show n + 1 - 1 - (j + 1) = n - 1 - j by omega, ← ih]
    simp [lowB, ix]
theorem padL_take (b : List UInt8) : (padL b).take b.length = b := by simp [padL]
theorem padL_one (b : List UInt8) : ix (padL b) b.length = 128 := by simp [padL, ix]
theorem padL_mid (b : List UInt8) (i : Nat) (h1 : b.length < i) (h2 : i + 8 < (padL b).length) : ix (padL b) i = 0 := by
  rw [padL_length] at h2
  obtain ⟨k, rfl⟩ : ∃ k, i = b.length + (k + 1) := ⟨i - b.length - 1, by omega⟩
  unfold padL ix
  rw [getElem!_pos _ _ (by simp [lowB_length]; omega), List.getElem_append_right (by omega)]
  simp only [Nat.add_sub_cancel_left, List.getElem_cons_succ]
  rw [List.getElem_append_left (by simp; omega)]
  simp
theorem padL_low (b : List UInt8) (j : Nat) (hj : j < 8) : ix (padL b) ((padL b).length - 8 + j) = UInt8.ofNat (8 * b.length / 256 ^ (7 - j)) := by
  have hl := lowB_ix (8 * b.length) 8 j hj
  rw [show 8 - 1 - j = 7 - j by omega] at hl
  rw [← hl]
  have e : (padL b).length - 8 + j = b.length + (((b.length + 72) / 64 * 64 - b.length - 9 + j) + 1) := by rw [padL_length]; omega
  rw [e]
  unfold padL ix
  rw [getElem!_pos _ _ (by simp [lowB_length]; omega), List.getElem_append_right (by omega)]
  simp only [Nat.add_sub_cancel_left, List.getElem_cons_succ]
  rw [List.getElem_append_right (by simp), getElem!_pos _ _ (by rw [lowB_length]; omega)]
  congr 1
  simp
theorem padL_inj {x y : List UInt8} (hx : 8 * x.length < 65536) (hy : 8 * y.length < 65536) (h : padL x = padL y) : x = y := by
  have l : x.length = y.length := by
    have a6 := padL_low x 6 (by omega)
    have a7 := padL_low x 7 (by omega)
    have b6 := padL_low y 6 (by omega)
    have b7 := padL_low y 7 (by omega)
    rw [h] at a6 a7
    have c6 := congrArg UInt8.toNat (a6.symm.trans b6)
    have c7 := congrArg UInt8.toNat (a7.symm.trans b7)
    simp at c6 c7
    omega
  have := congrArg (List.take x.length) h
  rw [padL_take, l, padL_take] at this
  exact this
theorem padL_eq {x y : List UInt8} (hx : 8 * x.length < 65536) (hy : 8 * y.length < 65536) : (padL x == padL y) = (x == y) := by
  rw [Bool.eq_iff_iff]
  simp only [beq_iff_eq]
  exact ⟨padL_inj hx hy, fun h => by rw [h]⟩
/-- The number behind, byte by byte. -/
def manyN (n j : Nat) : Nat := 8 * n / 256 ^ (8 - j)
theorem manyN_succ (n j : Nat) (hj : j < 8) : 256 * manyN n j + (UInt8.ofNat (8 * n / 256 ^ (7 - j))).toNat = manyN n (j + 1) := by
  unfold manyN
  rw [show 8 - j = (7 - j) + 1 by omega, show 8 - (j + 1) = 7 - j by omega, Nat.pow_succ, ← Nat.div_div_eq_div_mul]
  simp
  omega
theorem manyN_le (n j : Nat) : manyN n j ≤ 8 * n := Nat.div_le_self _ _
include T hm
theorem law04_ShaPads_fn (l0 k0 : List UInt8) (a b : Option Addr) (n0 m0 c d : Nat) (hn0 : l0.length = n0) (hm0 : k0.length = m0) (H : Heap) (hr0 : Row H a n0 c (u8s l0)) (hs0 : Row H b m0 d (u8s k0)) :
    Sx.Fn Try.prog 4 [.slice a n0 c, .slice b m0 d] H fun r _ => r = .bool true := by
  refine fn_start T Try.func4 rfl (by kernel_rfl) Try.results4 Try.ntmps4 (by simp) ?_
  intro Q hQ
  simp only [argTm]
  refine cw_step T xs [0, 1] fun K1 hK1 => ?_
  simp
  refine hK1 _ ?_; clear hK1 K1
  refine cw_step T xs [0, 1, 5] fun K2 hK2 => ?_
  simp
  refine CallK.of (law04_shown_fn T hm _) ?_
  rintro _ hx ⟨rfl, he⟩
  replace he := he.symm
  subst he
  simp
  refine hK2 _ ?_; clear hK2 K2
  refine cw_step T xs [1, 5, 6] fun K3 hK3 => ?_
  simp
  refine CallK.of (law04_few_fn T a n0 c _ _ hr0) ?_
  rintro _ hx ⟨rfl, he⟩
  replace he := he.symm
  subst he
  simp
  refine hK3 _ ?_; clear hK3 K3
  refine cw_step T xs [5, 6, 7] fun K4 hK4 => ?_
  simp
  refine CallK.of (law04_few_fn T b m0 d _ _ hs0) ?_
  rintro _ hx ⟨rfl, he⟩
  replace he := he.symm
  subst he
  simp
  refine hK4 _ ?_; clear hK4 K4
  obtain ⟨x, hx⟩ : ∃ x, x = l0.take (min n0 300) := ⟨_, rfl⟩
  obtain ⟨y, hy⟩ : ∃ y, y = k0.take (min m0 300) := ⟨_, rfl⟩
  have hrow0 : rowOf 1 H (.slice a (min n0 300) c) = some (u8s x) := by rw [hx]; exact Row.first hr0 _ (by omega) hn0
  have hros0 : rowOf 1 H (.slice b (min m0 300) d) = some (u8s y) := by rw [hy]; exact Row.first hs0 _ (by omega) hm0
  have hxl : x.length = min n0 300 := by rw [hx]; simp; omega
  have hyl : y.length = min m0 300 := by rw [hy]; simp; omega
  have hn3 : min n0 300 ≤ 300 := by omega
  have hm3 : min m0 300 ≤ 300 := by omega
  generalize min n0 300 = n at *
  generalize min m0 300 = m at *
  clear hr0 hs0 hn0 hm0 hx hy
  have hrow : ∀ L, rowOf 1 (H ++ L) (.slice a n c) = some (u8s x) := fun L => Agree.rowOf (fun _ _ q => hget_old q L) hrow0
  have hros : ∀ L, rowOf 1 (H ++ L) (.slice b m d) = some (u8s y) := fun L => Agree.rowOf (fun _ _ q => hget_old q L) hros0
  refine cw_step T xs [5, 6, 7, 8] fun K5 hK5 => ?_
  simp
  refine CallK.of (sha_Pad_l T x n hxl (by omega) _ a c hrow0) ?_
  rintro _ _ ⟨rfl, rfl⟩
  obtain ⟨p, hp⟩ : ∃ p, p = padL x := ⟨_, rfl⟩
  obtain ⟨N, hN⟩ : ∃ N, N = p.length := ⟨_, rfl⟩
  have hpl : p.length = N := hN.symm
  have hN1 : N = (n + 72) / 64 * 64 := by rw [hN, hp, padL_length, hxl]
  rw [← hp, ← hN]
  simp
  refine hK5 _ ?_; clear hK5 K5
  refine cw_step T xs [5, 6, 7, 8, 9] fun K6 hK6 => ?_
  simp
  refine hK6 _ ?_; clear hK6 K6
  have f1 : p.take n = x := by rw [hp, ← hxl]; exact padL_take x
  have f2 : ix p n = 128 := by rw [hp, ← hxl]; exact padL_one x
  have f3 : ∀ i, n < i → i + 8 < N → ix p i = 0 := fun i h1 h2 => by rw [hp]; exact padL_mid x i (by omega) (by rw [← hp]; omega)
  have f4 : ∀ j, j < 8 → ix p (N - 8 + j) = UInt8.ofNat (8 * n / 256 ^ (7 - j)) := fun j hj => by rw [hN, hp, ← hxl]; exact padL_low x j hj
  refine cw_seq fun K7 hK7 => ?_
  refine cw_draw T hm xs [6, 7, 8, 9, 49] (.soft 0 false <| .soft 1 false <| .soft 2 false <| .soft 3 false <| .soft 4 false <| .soft 5 false <| .soft 6 false <| .soft 7 false <| .soft 8 false <| .soft 9 false <| .soft 10 false <| .soft 11 false <| .soft 12 false <| .soft 13 false <| .soft 14 false <| .soft 15 true <| .soft 16 true <| .soft 17 false <| .soft 18 true <| .soft 19 false <| .soft 20 false <| .soft 21 false <| .soft 22 false <| .soft 23 false <| .soft 24 false <| .soft 25 true <| .soft 26 false <| .soft 27 false <| .stop) (by kernel_rfl) fun K8 hK8 => ?_
  have hNO : ¬ N = OPEN := by unfold OPEN; omega
  simp [hrow, f1, f2, hNO]
  refine ⟨by omega, by omega, by omega, by omega, fun _ => ⟨by omega, by omega, by omega, by omega, ?_⟩, fun h => absurd h (by omega)⟩
  refine hK8 _ ?_; clear hK8 K8
  refine cw_cond rfl (fun hc => ?_) (fun hc => ?_)
  · cases hc
  · refine cw_skip ?_
    refine hK7 _ ?_; clear hK7
    refine cw_step T xs [6, 7, 8, 9, 10] fun K10 hK10 => ?_
    simp
    refine hK10 _ ?_; clear hK10 K10
    refine cw_seq fun K11 hK11 => ?_
    refine cw_step T xs [6, 7, 8, 9, 10, 11] fun K12 hK12 => ?_
    simp
    refine ⟨by omega, ?_⟩
    refine hK12 _ ?_; clear hK12 K12
    have em0 : manyN n 0 = 0 := by unfold manyN; exact Nat.div_eq_of_lt (by simp; omega)
    have eN8 : ((N : Int) - 8) = ((N - 8 : Nat) : Int) := by omega
    refine cw_block ?_
    refine cw_while (fun w s => ∃ j, w = 8 - j ∧ j ≤ 8 ∧ s = ⟨[(6, .v (.slice a n c)), (7, .v (.slice b m d)), (8, .v (.slice (some ⟨H.length, 0, none⟩) N N)), (9, .v (.int .i64 n)), (10, .v (.int .i64 (manyN n j))), (11, .v (.int .i64 (N - 8 + j : Nat)))], H ++ [some (.cells (u8s p) true 0)]⟩) 8 ⟨0, by omega, by omega, by rw [em0, eN8]; rfl⟩ ?_
    rintro w s ⟨j, rfl, hj, rfl⟩
    refine cw_seq fun K13 hK13 => ?_
    refine cw_step T xs [6, 7, 8, 9, 10, 11, 56] fun K14 hK14 => ?_
    simp
    refine hK14 _ ?_; clear hK14 K14
    refine cw_cond rfl (fun hc => ?_) (fun hc => ?_)
    · try simp at hc
      refine cw_skip ?_
      refine hK13 _ ?_; clear hK13
      refine cw_seq fun K15 hK15 => ?_
      refine cw_block ?_
      refine cw_last T xs [6, 7, 8, 9, 10, 11] fun K16 hK16 => ?_
      have g1 := f4 j (by omega)
      have g2 := manyN_succ n j (by omega)
      have g3 := manyN_le n (j + 1)
      have g4 := manyN_le n j
      have g5 : (((N - 8 : Nat) : Int) + (j : Int)).toNat = N - 8 + j := by omega
      have g6 : (256 : Int) * (manyN n j : Int) + ((UInt8.ofNat (8 * n / 256 ^ (7 - j))).toNat : Int) = (manyN n (j + 1) : Int) := by omega
      simp only [UInt8.toNat_ofNat'] at g6
      have g7 : 8 * n / 256 ^ (7 - j) % 256 < 256 := Nat.mod_lt _ (by decide)
      simp [g1, hpl, g5, g6]
      refine ⟨by omega, by omega, by omega, by omega, by omega, ?_⟩
      refine hK16 _ ?_; clear hK16 K16
      refine hK15 _ ?_; clear hK15
      refine cw_last T xs [6, 7, 8, 9, 10, 11] fun K17 hK17 => ?_
      simp
      refine ⟨by omega, ?_⟩
      refine hK17 _ ?_; clear hK17 K17
      refine round_end (8 - (j + 1)) (by omega) ⟨j + 1, rfl, by omega, ?_⟩ (by simp)
      simp at g6
      rw [show ((N - 8 + (j + 1) : Nat) : Int) = ((N - 8 : Nat) : Int) + (j : Int) + 1 by omega, g6]
    · try simp at hc
      refine cw_exit ?_
      refine hK11 _ ?_; clear hK11
      have hj8 : j = 8 := by omega
      subst hj8
      have hmany : manyN n 8 = 8 * n := by simp [manyN]
      rw [hmany]
      refine cw_seq fun K18 hK18 => ?_
      refine cw_step T xs [6, 7, 8, 9, 10, 12] fun K19 hK19 => ?_
      simp
      refine ⟨by omega, ?_⟩
      refine hK19 _ ?_; clear hK19 K19
      refine cw_block ?_
      refine cw_while (fun w s => ∃ i, w = N - 8 - i ∧ n < i ∧ i ≤ N - 8 ∧ s = ⟨[(6, .v (.slice a n c)), (7, .v (.slice b m d)), (8, .v (.slice (some ⟨H.length, 0, none⟩) N N)), (9, .v (.int .i64 n)), (10, .v (.int .i64 ((8 * n : Nat) : Int))), (12, .v (.int .i64 i))], H ++ [some (.cells (u8s p) true 0)]⟩) (N - 8 - (n + 1)) ⟨n + 1, by omega, by omega, by omega, by rfl⟩ ?_
      rintro w s ⟨i, rfl, hi1, hi2, rfl⟩
      refine cw_seq fun K20 hK20 => ?_
      refine cw_step T xs [6, 7, 8, 9, 10, 12, 73] fun K21 hK21 => ?_
      simp
      refine ⟨by omega, ?_⟩
      refine hK21 _ ?_; clear hK21 K21
      refine cw_cond rfl (fun hc => ?_) (fun hc => ?_)
      · try simp at hc
        refine cw_skip ?_
        refine hK20 _ ?_; clear hK20
        refine cw_seq fun K22 hK22 => ?_
        refine cw_block ?_
        refine cw_step T xs [6, 7, 8, 9, 10, 12, 80] fun K23 hK23 => ?_
        have h3 := f3 i hi1 (by omega)
        simp [h3, hpl]
        refine ⟨by omega, ?_⟩
        refine hK23 _ ?_; clear hK23 K23
        refine cw_cond rfl (fun hc => ?_) (fun hc => ?_)
        · cases hc
        · refine cw_skip ?_
          refine hK22 _ ?_; clear hK22
          refine cw_last T xs [6, 7, 8, 9, 10, 12] fun K25 hK25 => ?_
          simp
          refine ⟨by omega, ?_⟩
          refine hK25 _ ?_; clear hK25 K25
          refine round_end (N - 8 - (i + 1)) (by omega) ⟨i + 1, rfl, by omega, by omega, ?_⟩ (by simp)
          rfl
      · try simp at hc
        refine cw_exit ?_
        refine hK18 _ ?_; clear hK18
        refine cw_draw T hm xs [4] (.soft 0 false <| .soft 1 false <| .soft 2 false <| .soft 3 false <| .soft 4 false <| .soft 5 false <| .soft 6 true <| .soft 7 false <| .soft 11 false <| .soft 12 true <| .soft 13 false <| .soft 14 true <| .soft 15 false <| .alt 8 true (.soft 9 true <| .soft 10 false <| .soft 16 false <| .soft 17 false <| .soft 18 false <| .stop) (.stop)) (by kernel_rfl) fun K26 hK26 => ?_
        have hpt : p.take N = p := List.take_of_length_le (by omega)
        simp [hrow, hros, hpt]
        refine ⟨by omega, by omega, ?_⟩
        refine CallK.of (sha_Pad_l T y m hyl (by omega) _ b d (hros _)) ?_
        rintro _ _ ⟨rfl, rfl⟩
        have hpe : (p == padL y) = (x == y) := by rw [hp]; exact padL_eq (by omega) (by omega)
        have hyt : (padL y).take (padL y).length = padL y := List.take_of_length_le (by omega)
        simp [hpe, hyt, agree_pre]
        refine hK26 _ ?_; clear hK26 K26
        exact cw_ret (hQ _ (.bool true) _ _ (resC_one (by simp)) (Ret.plain rfl) rfl).2
end Go.Proofs
