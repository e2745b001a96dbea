/-
  Walks by Sx; no condition beyond those that stand in each statement.
-/
import Derived.Test.YtfefdjomenfchaaSxsShaE
namespace Go.Proofs
open Go Go.Sx
set_option maxRecDepth 100000
attribute [local simp] xs wrap_u32_nat u32_mul u32_or' u32_or8 u32_xor' u32_and' u32_add u32_div w32_set setL_all
variable (T : TyOk Try.prog (tyOf Try.prog Try.eqs)) (hm : Try.prog.follows .mixedOrders = true)
/-- A word out of bytes. -/
def accW (s : List UInt8) (i : Nat) : Nat → UInt32
  | 0 => 0
  | k + 1 => oo (u32n ((accW s i k).toNat * 256)) (u32n (ix s (4 * i + k)).toNat)
theorem oo_byte (x : Nat) (b : Nat) (hb : b < 256) (hx : x * 256 + b < 4294967296) : (oo (u32n (x * 256)) (u32n b)).toNat = x * 256 + b := by
  have h := Nat.shiftLeft_add_eq_or_of_lt (i := 8) (b := b) (by omega) x
  rw [Nat.shiftLeft_eq] at h
  simp only [oo, UInt32.toNat_or, u32n, UInt32.toNat_ofNat']
  rw [Nat.mod_eq_of_lt (by omega), Nat.mod_eq_of_lt (by omega)]
  exact h.symm
theorem ix_range (f : Nat → UInt8) (n j : Nat) (h : j < n) : ix ((List.range n).map f) j = f j := by simp [ix, h]
theorem accW_all (V : List UInt32) (i : Nat) (hi : i < 8) : accW ((List.range 32).map (outB V)) i 4 = ix V i := by
  obtain ⟨v, hv⟩ : ∃ v, v = (ix V i).toNat := ⟨_, rfl⟩
  have hv32 : v < 4294967296 := by rw [hv]; exact (ix V i).toNat_lt
  have hb : ∀ k, k < 4 → (ix ((List.range 32).map (outB V)) (4 * i + k)).toNat = v / 2 ^ (24 - 8 * k) % 256 := by
    intro k hk
    rw [ix_range _ _ _ (by omega)]
    unfold outB
    rw [show (4 * i + k) / 4 = i by omega, show (4 * i + k) % 4 = k by omega, ← hv]
    simp only [u32n, UInt32.toNat_ofNat', UInt8.toNat_ofNat']
    have : v / 2 ^ (24 - 8 * k) ≤ v := Nat.div_le_self _ _
    omega
  have b0 := hb 0 (by omega)
  have b1 := hb 1 (by omega)
  have b2 := hb 2 (by omega)
  have b3 := hb 3 (by omega)
  simp only [Nat.mul_zero, Nat.sub_zero, Nat.reduceMul, Nat.reduceSub, Nat.reducePow] at b0 b1 b2 b3
  apply UInt32.toNat_inj.1
  rw [← hv]
  have a1 : (accW ((List.range 32).map (outB V)) i 1).toNat = v / 16777216 % 256 := by
    rw [accW, accW, show (0 : UInt32).toNat * 256 = 0 * 256 from rfl, oo_byte _ _ (by omega) (by omega), b0]; omega
  have a2 : (accW ((List.range 32).map (outB V)) i 2).toNat = v / 65536 := by
    rw [accW, a1, oo_byte _ _ (by omega) (by omega), b1]; omega
  have a3 : (accW ((List.range 32).map (outB V)) i 3).toNat = v / 256 := by
    rw [accW, a2, oo_byte _ _ (by omega) (by omega), b2]; omega
  rw [accW, a3, oo_byte _ _ (by omega) (by omega), b3]
  omega
theorem Row.first {H : Heap} {a : Option Addr} {n c : Nat} {l : List UInt8} (r : Row H a n c (u8s l)) (k : Nat) (hk : k ≤ n) (hlen : l.length = n) : rowOf 1 H (.slice a k c) = some (u8s (l.take k)) := by
  obtain ⟨h1, h2, h3, h4⟩ := r
  rcases h4 with ⟨rfl, rfl, rfl⟩ | ⟨i, kk, cs, o, u, rfl, hc, h5, h6⟩
  · have : l = [] := List.eq_nil_of_length_eq_zero hlen
    subst this
    simp [u8s]
  · simp [hc]
    refine ⟨by omega, ?_⟩
    rw [show List.take k (List.drop kk cs) = ((cs.drop kk).take n).take k by rw [List.take_take]; congr 1; omega, h6]
    simp
include T hm
theorem law04_ShaBlocks_fn (l0 : List UInt8) (a : Option Addr) (n0 c : Nat) (hn0 : l0.length = n0) (H : Heap) (hr0 : Row H a n0 c (u8s l0)) :
    Sx.Fn Try.prog 5 [.slice a n0 c] H fun r _ => r = .bool true := by
  refine fn_start T Try.func5 rfl (by kernel_rfl) Try.results5 Try.ntmps5 (by simp) ?_
  intro Q hQ
  simp only [argTm]
  refine cw_step T xs [0] fun K1 hK1 => ?_
  simp
  refine hK1 _ ?_; clear hK1 K1
  refine cw_step T xs [0, 3] fun K2 hK2 => ?_
  simp
  refine CallK.of (law04_shown_fn T hm _) ?_
  rintro _ hx ⟨rfl, he⟩
  replace he := he.symm
  subst he
  simp
  refine hK2 _ ?_; clear hK2 K2
  refine cw_step T xs [3, 4] fun K3 hK3 => ?_
  simp
  refine CallK.of (law04_few_fn T a n0 c _ _ hr0) ?_
  rintro _ hx ⟨rfl, he⟩
  replace he := he.symm
  subst he
  simp
  refine hK3 _ ?_; clear hK3 K3
  obtain ⟨b, hb⟩ : ∃ b, b = l0.take (min n0 300) := ⟨_, rfl⟩
  have hrow : rowOf 1 H (.slice a (min n0 300) c) = some (u8s b) := by rw [hb]; exact Row.first hr0 _ (by omega) hn0
  have hbl : b.length = min n0 300 := by rw [hb]; simp; omega
  have hm3 : min n0 300 ≤ 300 := by omega
  generalize min n0 300 = m at *
  clear hr0 hn0 hb
  obtain ⟨N, hN⟩ : ∃ N, N = (padL b).length := ⟨_, rfl⟩
  have hn64 : N = N / 64 * 64 := by rw [hN, padL_length]; omega
  have hnb : N ≤ b.length + 72 := by rw [hN, padL_length]; omega
  refine cw_step T xs [3, 4, 5] fun K4 hK4 => ?_
  simp
  refine CallK.of (sha_Pad_l T b m hbl (by omega) _ a c hrow) ?_
  rintro _ _ ⟨rfl, rfl⟩
  rw [← hN]
  simp
  refine hK4 _ ?_; clear hK4 K4
  refine cw_step T xs [3, 4, 5, 6] fun K5 hK5 => ?_
  simp
  refine CallK.of (sha_Start_fn T hm _) ?_
  rintro _ _ ⟨rfl, rfl⟩
  simp
  refine hK5 _ ?_; clear hK5 K5
  refine cw_seq fun K6 hK6 => ?_
  refine cw_step T xs [3, 4, 5, 6, 7] fun K7 hK7 => ?_
  simp
  refine hK7 _ ?_; clear hK7 K7
  obtain ⟨p, hp⟩ : ∃ p, p = padL b := ⟨_, rfl⟩
  rw [← hp] at hN ⊢
  have hpl : p.length = N := hN.symm
  refine cw_block ?_
  refine cw_while (fun w s => ∃ i L, w = N / 64 - i ∧ i ≤ N / 64 ∧ s = ⟨[(3, .v (.bool true)), (4, .v (.slice a m c)), (5, .v (.slice (some ⟨H.length, 0, none⟩) N N)), (6, .v (.pointer (some ⟨H.length + 1, 0, none⟩))), (7, .v (.int .i64 (64 * i : Nat)))], H ++ (some (.cells (u8s p) true 0) :: some (.cells (w32 (hs p i)) true 0) :: L)⟩) (N / 64) ⟨0, [], by omega, by omega, by simp [hs]⟩ ?_
  rintro w s ⟨i, L, rfl, hi, rfl⟩
  refine cw_seq fun K8 hK8 => ?_
  refine cw_step T xs [3, 4, 5, 6, 7, 23] fun K9 hK9 => ?_
  simp
  refine ⟨by omega, ?_⟩
  refine hK9 _ ?_; clear hK9 K9
  refine cw_cond rfl (fun hc => ?_) (fun hc => ?_)
  · try simp at hc
    refine cw_skip ?_
    refine hK8 _ ?_; clear hK8
    refine cw_seq fun K10 hK10 => ?_
    refine cw_block ?_
    refine cw_step T xs [3, 4, 5, 6, 7, 8] fun K11 hK11 => ?_
    simp
    refine hK11 _ ?_; clear hK11 K11
    refine cw_draw T hm xs [3, 4, 5, 6, 7, 8] (.soft 0 true <| .soft 1 false <| .soft 2 false <| .soft 3 false <| .soft 4 false <| .soft 5 true <| .alt 6 false (.stop) (.stop)) (by kernel_rfl) fun K12 hK12 => ?_
    have e1 : ((64 : Int) * (i : Int) + 64).toNat = 64 * i + 64 := by omega
    have e2 : ((64 : Int) * (i : Int)).toNat = 64 * i := by omega
    have e3 : 64 * i + 64 - 64 * i = 64 := by omega
    have e4 : ¬ N = 64 * i := by omega
    have e5 : min 64 (p.length - 64 * i) = 64 := by omega
    have hN1 : ¬ N = OPEN := by unfold OPEN; omega
    have hN2 : ¬ N - 64 * i = OPEN := by unfold OPEN; omega
    obtain ⟨y, hy⟩ : ∃ y, y = (p.drop (64 * i)).take 64 := ⟨_, rfl⟩
    have hyl : y.length = 64 := by rw [hy]; simp; omega
    have hyt : y.take 64 = y := List.take_of_length_le (by omega)
    have hy1 : ∀ x ∈ u8s y, one1 x = true := List.all_eq_true.1 (u8s_one1 y)
    simp [e1, e2, e3, e4, e5, hN1, hN2, ← hy, hyt, hyl]
    refine ⟨by omega, by omega, by omega, by omega, hy1, ?_⟩
    refine hK12 _ ?_; clear hK12 K12
    have hhl := hs_length p i
    have hht := hs_take p i
    refine cw_last T xs [3, 4, 5, 6, 7] fun K13 hK13 => ?_
    simp [hhl, hht, hyl, hyt]
    refine CallK.of (sha_Block_fn T hm (hs p i) hhl y hyl _) ?_
    rintro _ _ ⟨rfl, rfl⟩
    have hbl2 : (blk (hs p i) y).length = 8 := blk_length _ hhl y
    simp [hhl, hbl2]
    refine hK13 _ ?_; clear hK13 K13
    refine hK10 _ ?_; clear hK10
    refine cw_last T xs [3, 4, 5, 6, 7] fun K14 hK14 => ?_
    simp
    refine ⟨by omega, ?_⟩
    refine hK14 _ ?_; clear hK14 K14
    refine round_end (N / 64 - (i + 1)) (by omega) ⟨i + 1, L ++ [some (.cells (u8s y) true 0)], rfl, by omega, ?_⟩ (by simp)
    rw [hs, ← hy]
    simp
    omega
  · try simp at hc
    have hi64 : i = N / 64 := by omega
    obtain ⟨V, hV⟩ : ∃ V, V = hs p i := ⟨_, rfl⟩
    have hVl : V.length = 8 := by rw [hV]; exact hs_length p i
    have hVt : V.take 8 = V := by rw [hV]; exact hs_take p i
    obtain ⟨S, hS⟩ : ∃ S, S = sumL b := ⟨_, rfl⟩
    have hSl : S.length = 32 := by rw [hS]; exact sumL_length b
    have hSt : S.take 32 = S := List.take_of_length_le (by omega)
    have hSV : S = (List.range 32).map (outB V) := by rw [hS, sumL, ← hp, hpl, ← hi64, hV]
    rw [← hV]
    refine cw_exit ?_
    refine hK6 _ ?_; clear hK6
    refine cw_step T xs [3, 6, 9] fun K15 hK15 => ?_
    simp
    refine CallK.of (sha_Sum_l T hm b m hbl (by omega) _ a c (Agree.rowOf (fun _ _ q => hget_old q _) hrow)) ?_
    rintro _ _ ⟨rfl, rfl⟩
    rw [← hS]
    simp [hSl]
    refine hK15 _ ?_; clear hK15 K15
    refine cw_seq fun K16 hK16 => ?_
    refine cw_step T xs [3, 6, 9, 10] fun K17 hK17 => ?_
    simp
    refine hK17 _ ?_; clear hK17 K17
    obtain ⟨G, hG⟩ : ∃ G, G = H ++ (some (.cells (u8s p) true 0) :: some (.cells (w32 V) true 0) :: (L ++ [some (.cells (u8s S) true 0)])) := ⟨_, rfl⟩
    have g1 : hget G (H.length + 1) = some (.cells (w32 V) true 0) := by rw [hG]; simp
    have g2 : hget G (H.length + (L.length + 1 + 1)) = some (.cells (u8s S) true 0) := by rw [hG]; simp
    have hGl : H.length ≤ G.length := by rw [hG]; simp
    rw [← hG]
    refine cw_block ?_
    refine cw_while (fun w s => ∃ i, w = 8 - i ∧ i ≤ 8 ∧ s = ⟨[(3, .v (.bool true)), (6, .v (.pointer (some ⟨H.length + 1, 0, none⟩))), (9, .v (.pointer (some ⟨H.length + (L.length + 1 + 1), 0, none⟩))), (10, .v (.int .i64 i))], G⟩) 8 ⟨0, by omega, by omega, by rfl⟩ ?_
    rintro w s ⟨i, rfl, hi8, rfl⟩
    refine cw_seq fun K18 hK18 => ?_
    refine cw_step T xs [3, 6, 9, 10, 40] fun K19 hK19 => ?_
    simp
    refine hK19 _ ?_; clear hK19 K19
    refine cw_cond rfl (fun hc => ?_) (fun hc => ?_)
    · try simp at hc
      refine cw_skip ?_
      refine hK18 _ ?_; clear hK18
      refine cw_seq fun K20 hK20 => ?_
      refine cw_block ?_
      refine cw_step T xs [3, 6, 9, 10, 11] fun K21 hK21 => ?_
      simp
      refine hK21 _ ?_; clear hK21 K21
      refine cw_seq fun K22 hK22 => ?_
      refine cw_step T xs [3, 6, 9, 10, 11, 12] fun K23 hK23 => ?_
      simp
      refine hK23 _ ?_; clear hK23 K23
      refine cw_block ?_
      refine cw_while (fun w s => ∃ k, w = 4 - k ∧ k ≤ 4 ∧ s = ⟨[(3, .v (.bool true)), (6, .v (.pointer (some ⟨H.length + 1, 0, none⟩))), (9, .v (.pointer (some ⟨H.length + (L.length + 1 + 1), 0, none⟩))), (10, .v (.int .i64 i)), (11, .v (.int .u32 (accW S i k).toNat)), (12, .v (.int .i64 k))], G⟩) 4 ⟨0, by omega, by omega, by rfl⟩ ?_
      rintro w s ⟨k, rfl, hk, rfl⟩
      refine cw_seq fun K24 hK24 => ?_
      refine cw_step T xs [3, 6, 9, 10, 11, 12, 44] fun K25 hK25 => ?_
      simp
      refine hK25 _ ?_; clear hK25 K25
      refine cw_cond rfl (fun hc => ?_) (fun hc => ?_)
      · try simp at hc
        refine cw_skip ?_
        refine hK24 _ ?_; clear hK24
        refine cw_seq fun K26 hK26 => ?_
        refine cw_block ?_
        refine cw_last T xs [3, 6, 9, 10, 11, 12] fun K27 hK27 => ?_
        have e1 : ((4 : Int) * (i : Int) + (k : Int)).toNat = 4 * i + k := by omega
        simp [g2, hSl, e1]
        refine ⟨by omega, by omega, by omega, by omega, ?_⟩
        refine hK27 _ ?_; clear hK27 K27
        refine hK26 _ ?_; clear hK26
        refine cw_last T xs [3, 6, 9, 10, 11, 12] fun K28 hK28 => ?_
        simp
        refine ⟨by omega, ?_⟩
        refine hK28 _ ?_; clear hK28 K28
        refine round_end (4 - (k + 1)) (by omega) ⟨k + 1, rfl, by omega, ?_⟩ (by simp)
        rfl
      · try simp at hc
        refine cw_exit ?_
        refine hK22 _ ?_; clear hK22
        have hk4 : k = 4 := by omega
        subst hk4
        have hacc : accW S i 4 = ix V i := by rw [hSV]; exact accW_all V i (by omega)
        rw [hacc]
        refine cw_step T xs [3, 6, 9, 10, 61] fun K29 hK29 => ?_
        simp [g1, hVl]
        refine ⟨by omega, by omega, ?_⟩
        refine hK29 _ ?_; clear hK29 K29
        refine cw_cond rfl (fun hc => ?_) (fun hc => ?_)
        · cases hc
        · refine cw_skip ?_
          refine hK20 _ ?_; clear hK20
          refine cw_last T xs [3, 6, 9, 10] fun K31 hK31 => ?_
          simp
          refine ⟨by omega, ?_⟩
          refine hK31 _ ?_; clear hK31 K31
          refine round_end (8 - (i + 1)) (by omega) ⟨i + 1, rfl, by omega, ?_⟩ (by simp)
          rfl
    · try simp at hc
      refine cw_exit ?_
      refine hK16 _ ?_; clear hK16
      refine cw_step T xs [2] fun K32 hK32 => ?_
      simp
      refine hK32 _ ?_; clear hK32 K32
      exact cw_ret (hQ _ (.bool true) _ _ (resC_one (by simp)) (by rw [hG]; exact Ret.plain rfl) rfl).2
end Go.Proofs
