/-
  Walks by Sx; no condition beyond those that stand in each statement.
-/
import Derived.Test.YtfjdbhgnnpmceaaSxuShaA
namespace Go.Proofs
open Go Go.Sx
set_option maxRecDepth 100000
attribute [local simp] xs wrap_u32_nat u32_mul u32_or' u32_xor' u32_and' u32_add u32_div w32_set
variable (T : TyOk Try.prog (tyOf Try.prog Try.eqs)) (hm : Try.prog.follows .mixedOrders = true)
include T hm
theorem sha_Block_fn0 (h : List UInt32) (hl : h.length = 8) (b : List UInt8) (bl : b.length = 64) :
    Sx.Fn Try.prog 65 [.agg (w32 h).toArray, .agg (u8s b).toArray] [] fun r _ => r = .agg (w32 (blk h b)).toArray := by
  refine fn_start T Try.func65 rfl (by kernel_rfl) Try.results65 Try.ntmps65 (by simp) ?_
  intro Q hQ
  simp only [argTm]
  refine cw_step T xs [2, 3, 4] fun K1 hK1 => ?_
  simp
  refine hK1 _ ?_; clear hK1 K1
  refine cw_step T xs [2, 3, 4, 5] fun K2 hK2 => ?_
  simp
  refine hK2 _ ?_; clear hK2 K2
  refine cw_seq fun K3 hK3 => ?_
  refine cw_step T xs [2, 3, 4, 5, 23] fun K4 hK4 => ?_
  simp
  refine hK4 _ ?_; clear hK4 K4
  refine cw_block ?_
  refine cw_while (fun m s => ∃ i, m = 64 - i ∧ i ≤ 64 ∧ s = ⟨[(2, .v (.pointer (some ⟨0, 0, none⟩))), (3, .v (.pointer (some ⟨1, 0, none⟩))), (4, .v (.pointer (some ⟨2, 0, none⟩))), (5, .v (.pointer (some ⟨3, 0, none⟩))), (23, .v (.int .i64 i))], [some (.cells (w32 h) true 0), some (.cells (u8s b) true 0), some (.cells (w32 (List.replicate 8 0)) true 0), some (.cells (w32 (wl b i ++ List.replicate (64 - i) 0)) true 0)]⟩) 64 ⟨0, by omega, by omega, by rfl⟩ ?_
  rintro m s ⟨i, rfl, hi, rfl⟩
  refine cw_step T xs [2, 3, 4, 5, 23, 24] fun K5 hK5 => ?_
  simp
  refine hK5 _ ?_; clear hK5 K5
  refine cw_seq fun K6 hK6 => ?_
  refine cw_cond rfl (fun hc => ?_) (fun hc => ?_)
  · try simp at hc
    refine cw_skip ?_
    refine hK6 _ ?_; clear hK6 K6
    refine cw_seq fun K7 hK7 => ?_
    refine cw_block ?_
    refine cw_step T xs [2, 3, 4, 5, 6, 23] fun K8 hK8 => ?_
    simp
    refine hK8 _ ?_; clear hK8 K8
    refine cw_seq fun K9 hK9 => ?_
    refine cw_step T xs [2, 3, 4, 5, 6, 23, 27] fun K10 hK10 => ?_
    simp
    refine hK10 _ ?_; clear hK10 K10
    refine cw_cond rfl (fun hc => ?_) (fun hc => ?_)
    · try simp at hc
      refine cw_draw T hm xs [2, 3, 4, 5, 23] (.soft 0 false <| .soft 1 false <| .soft 2 false <| .soft 3 false <| .soft 4 true <| .soft 5 true <| .soft 6 false <| .soft 7 false <| .soft 8 false <| .soft 9 false <| .soft 10 false <| .soft 11 true <| .soft 12 true <| .soft 13 false <| .soft 14 false <| .soft 15 false <| .soft 16 false <| .soft 17 false <| .soft 18 false <| .soft 19 true <| .soft 20 true <| .soft 21 false <| .soft 22 false <| .soft 23 false <| .soft 24 false <| .soft 25 false <| .soft 26 false <| .soft 27 true <| .soft 28 true <| .soft 29 false <| .soft 30 false <| .alt 31 false (.stop) (.stop)) (by kernel_rfl) fun K11 hK11 => ?_
      have hi16 : i < 16 := by omega
      have n0 : ((4 : Int) * i).toNat = 4 * i := by omega
      have n1 : ((4 : Int) * i + 1).toNat = 4 * i + 1 := by omega
      have n2 : ((4 : Int) * i + 2).toNat = 4 * i + 2 := by omega
      have n3 : ((4 : Int) * i + 3).toNat = 4 * i + 3 := by omega
      simp [n0, n1, n2, n3]
      repeat refine ⟨by omega, ?_⟩
      refine hK11 _ ?_; clear hK11 K11
      refine cw_exit ?_
      refine hK7 _ ?_; clear hK7
      refine cw_last T xs [2, 3, 4, 5, 23] fun K12 hK12 => ?_
      simp
      refine ⟨by omega, ?_⟩
      refine hK12 _ ?_; clear hK12 K12
      refine round_end (64 - (i + 1)) (by omega) ⟨i + 1, rfl, by omega, ?_⟩ (by simp)
      rw [wl_set b i (by omega) _ (by rw [nextW, if_pos hi16]; rfl)]
      rfl
    · try simp at hc
      refine cw_skip ?_
      refine hK9 _ ?_; clear hK9
      refine cw_draw T hm xs [2, 3, 4, 5, 6, 7, 8, 23] (.soft 0 false <| .soft 1 false <| .soft 2 false <| .soft 3 true <| .soft 4 false <| .soft 5 false <| .soft 6 false <| .soft 7 true <| .soft 8 false <| .soft 9 false <| .stop) (by kernel_rfl) fun K13 hK13 => ?_
      have hi16 : 16 ≤ i := by omega
      have n15 : ((i : Int) - 15).toNat = i - 15 := by omega
      have n2 : ((i : Int) - 2).toNat = i - 2 := by omega
      have n16 : ((i : Int) - 16).toNat = i - 16 := by omega
      have n7 : ((i : Int) - 7).toNat = i - 7 := by omega
      have wg : ∀ j, j < i → ix (wl b i ++ List.replicate (64 - i) 0) j = ix (wl b i) j := fun j hj => ix_left (by rw [wl_length]; exact hj)
      simp [n15, n2, wl_length]
      repeat refine ⟨by omega, ?_⟩
      rw [wg _ (by omega), wg _ (by omega)]
      refine hK13 _ ?_; clear hK13 K13
      refine cw_drawl T hm xs [2, 3, 4, 5, 23] (.soft 0 false <| .soft 1 false <| .soft 2 false <| .soft 3 false <| .soft 4 true <| .soft 5 false <| .soft 7 false <| .soft 10 false <| .soft 11 false <| .soft 14 false <| .soft 15 false <| .soft 16 false <| .soft 17 true <| .soft 19 false <| .soft 21 false <| .soft 24 false <| .soft 25 false <| .alt 6 true (.alt 8 true (.soft 9 false <| .soft 12 false <| .soft 13 false <| .soft 18 false <| .alt 20 true (.alt 22 true (.soft 23 false <| .soft 26 false <| .soft 27 false <| .soft 28 false <| .alt 29 false (.stop) (.stop)) (.stop)) (.stop)) (.stop)) (.stop)) (by kernel_rfl) fun K14 hK14 => ?_
      simp [n16, n7, wl_length]
      repeat refine ⟨by omega, ?_⟩
      refine CallK.of (sha_right_l T _ 7 7 rfl (by decide) _) ?_
      rintro _ _ ⟨rfl, rfl⟩
      simp
      refine CallK.of (sha_right_l T _ 18 18 rfl (by decide) _) ?_
      rintro _ _ ⟨rfl, rfl⟩
      simp
      refine CallK.of (sha_right_l T _ 17 17 rfl (by decide) _) ?_
      rintro _ _ ⟨rfl, rfl⟩
      simp
      refine CallK.of (sha_right_l T _ 19 19 rfl (by decide) _) ?_
      rintro _ _ ⟨rfl, rfl⟩
      simp [wl_length, wg (i - 16) (by omega), wg (i - 7) (by omega)]
      repeat refine ⟨by omega, ?_⟩
      rw [wl_set' b i (by omega) _ (by rw [nextW, if_neg (by omega)]; rfl)]
      refine hK14 _ ?_; clear hK14 K14
      refine hK7 _ ?_; clear hK7
      refine cw_last T xs [2, 3, 4, 5, 23] fun K15 hK15 => ?_
      simp
      refine ⟨by omega, ?_⟩
      refine hK15 _ ?_; clear hK15 K15
      refine round_end (64 - (i + 1)) (by omega) ⟨i + 1, rfl, by omega, ?_⟩ (by simp)
      rw [show 63 - i = 64 - (i + 1) by omega]
      rfl
  · try simp at hc
    refine cw_exit ?_
    have hi64 : i = 64 := by omega
    subst hi64
    rw [Nat.sub_self, List.replicate_zero, List.append_nil]
    obtain ⟨W, hW⟩ : ∃ W, W = wl b 64 := ⟨_, rfl⟩
    have hWl : W.length = 64 := by rw [hW, wl_length]
    have hblk : blk h b = List.zipWith ad h (rnds W (ofL h) 64).list := by rw [hW]; rfl
    rw [← hW]
    clear hW
    refine hK3 _ ?_; clear hK3
    refine cw_draw T hm xs [2, 4, 5, 9, 10, 11, 12, 13, 14, 15, 16] (.soft 0 false <| .soft 1 true <| .soft 2 false <| .soft 3 true <| .soft 4 false <| .soft 5 true <| .soft 6 false <| .soft 7 true <| .soft 8 false <| .soft 9 true <| .soft 10 false <| .soft 11 true <| .soft 12 false <| .soft 13 true <| .soft 14 false <| .soft 15 true <| .soft 16 false <| .soft 17 false <| .soft 18 false <| .soft 19 false <| .soft 20 false <| .soft 21 false <| .soft 22 false <| .soft 23 false <| .stop) (by kernel_rfl) fun K16 hK16 => ?_
    simp
    repeat refine ⟨by omega, ?_⟩
    refine hK16 _ ?_; clear hK16 K16
    refine cw_seq fun K17 hK17 => ?_
    refine cw_step T xs [2, 4, 5, 9, 10, 11, 12, 13, 14, 15, 16, 113, 114] fun K18 hK18 => ?_
    simp
    refine CallK.of (sha_rounds_fn T hm _) ?_
    rintro _ _ ⟨rfl, rfl⟩
    simp
    refine hK18 _ ?_; clear hK18 K18
    refine cw_block ?_
    refine cw_while (fun m s => ∃ j, m = 64 - j ∧ j ≤ 64 ∧ s = ⟨[(2, .v (.pointer (some ⟨0, 0, none⟩))), (4, .v (.pointer (some ⟨2, 0, none⟩))), (5, .v (.pointer (some ⟨3, 0, none⟩))), (9, .v (.int .u32 (rnds (W) (ofL h) j).a.toNat)), (10, .v (.int .u32 (rnds (W) (ofL h) j).b.toNat)), (11, .v (.int .u32 (rnds (W) (ofL h) j).c.toNat)), (12, .v (.int .u32 (rnds (W) (ofL h) j).d.toNat)), (13, .v (.int .u32 (rnds (W) (ofL h) j).e.toNat)), (14, .v (.int .u32 (rnds (W) (ofL h) j).f.toNat)), (15, .v (.int .u32 (rnds (W) (ofL h) j).g.toNat)), (16, .v (.int .u32 (rnds (W) (ofL h) j).h.toNat)), (113, .v (.agg (w32 kk).toArray)), (114, .v (.int .i64 j))], [some (.cells (w32 h) true 0), some (.cells (u8s b) true 0), some (.cells (w32 (List.replicate 8 0)) true 0), some (.cells (w32 (W)) true 0)]⟩) 64 ⟨0, by omega, by omega, by rfl⟩ ?_
    rintro m s ⟨j, rfl, hj, rfl⟩
    refine cw_step T xs [2, 4, 5, 9, 10, 11, 12, 13, 14, 15, 16, 113, 114, 115] fun K19 hK19 => ?_
    simp
    refine hK19 _ ?_; clear hK19 K19
    refine cw_seq fun K20 hK20 => ?_
    refine cw_cond rfl (fun hc => ?_) (fun hc => ?_)
    · try simp at hc
      refine cw_skip ?_
      refine hK20 _ ?_; clear hK20 K20
      refine cw_seq fun K21 hK21 => ?_
      refine cw_block ?_
      refine cw_step T xs [2, 4, 5, 9, 10, 11, 12, 13, 14, 15, 16, 17, 18, 113, 114] fun K22 hK22 => ?_
      simp
      repeat refine ⟨by omega, ?_⟩
      refine hK22 _ ?_; clear hK22 K22
      refine cw_draw T hm xs [2, 4, 5, 9, 10, 11, 12, 13, 14, 15, 19, 113, 114] (.soft 0 false <| .soft 1 false <| .soft 3 false <| .soft 6 false <| .soft 10 false <| .soft 11 false <| .soft 12 false <| .soft 13 false <| .soft 14 false <| .soft 15 false <| .soft 16 false <| .soft 18 false <| .soft 20 false <| .soft 21 false <| .soft 22 true <| .alt 2 true (.alt 4 true (.soft 5 false <| .alt 7 true (.soft 8 false <| .soft 9 false <| .soft 17 false <| .soft 19 false <| .soft 23 false <| .soft 24 false <| .stop) (.stop)) (.stop)) (.stop)) (by kernel_rfl) fun K23 hK23 => ?_
      simp [hWl]
      repeat refine ⟨by omega, ?_⟩
      refine CallK.of (sha_right_l T _ 6 6 rfl (by decide) _) ?_
      rintro _ _ ⟨rfl, rfl⟩
      simp
      refine CallK.of (sha_right_l T _ 11 11 rfl (by decide) _) ?_
      rintro _ _ ⟨rfl, rfl⟩
      simp
      refine CallK.of (sha_right_l T _ 25 25 rfl (by decide) _) ?_
      rintro _ _ ⟨rfl, rfl⟩
      simp
      refine hK23 _ ?_; clear hK23 K23
      refine cw_step T xs [2, 4, 5, 9, 10, 11, 12, 13, 14, 15, 19, 20, 113, 114] fun K24 hK24 => ?_
      simp
      refine CallK.of (sha_right_l T _ 2 2 rfl (by decide) _) ?_
      rintro _ _ ⟨rfl, rfl⟩
      simp
      refine CallK.of (sha_right_l T _ 13 13 rfl (by decide) _) ?_
      rintro _ _ ⟨rfl, rfl⟩
      simp
      refine CallK.of (sha_right_l T _ 22 22 rfl (by decide) _) ?_
      rintro _ _ ⟨rfl, rfl⟩
      simp
      refine hK24 _ ?_; clear hK24 K24
      refine cw_last T xs [2, 4, 5, 9, 10, 11, 12, 13, 14, 15, 16, 113, 114] fun K25 hK25 => ?_
      simp
      refine hK25 _ ?_; clear hK25 K25
      refine hK21 _ ?_; clear hK21
      refine cw_last T xs [2, 4, 5, 9, 10, 11, 12, 13, 14, 15, 16, 113, 114] fun K26 hK26 => ?_
      simp
      refine ⟨by omega, ?_⟩
      refine hK26 _ ?_; clear hK26 K26
      refine round_end (64 - (j + 1)) (by omega) ⟨j + 1, rfl, by omega, ?_⟩ (by simp)
      rfl
    · try simp at hc
      refine cw_exit ?_
      have hj64 : j = 64 := by omega
      subst hj64
      obtain ⟨V, hV⟩ : ∃ V, V = rnds W (ofL h) 64 := ⟨_, rfl⟩
      rw [← hV] at hblk ⊢
      clear hV
      refine hK17 _ ?_; clear hK17
      refine cw_seq fun K27 hK27 => ?_
      refine cw_step T xs [2, 4, 183, 184] fun K28 hK28 => ?_
      simp
      refine hK28 _ ?_; clear hK28 K28
      refine cw_block ?_
      refine cw_while (fun m s => ∃ j, m = 8 - j ∧ j ≤ 8 ∧ s = ⟨[(2, .v (.pointer (some ⟨0, 0, none⟩))), (4, .v (.pointer (some ⟨2, 0, none⟩))), (183, .v (.agg (w32 V.list).toArray)), (184, .v (.int .i64 j))], [some (.cells (w32 (zfront h V.list j)) true 0), some (.cells (u8s b) true 0), some (.cells (w32 (List.replicate 8 0)) true 0), some (.cells (w32 (W)) true 0)]⟩) 8 ⟨0, by omega, by omega, by rfl⟩ ?_
      rintro m s ⟨q, rfl, hq, rfl⟩
      refine cw_step T xs [2, 4, 183, 184, 185] fun K29 hK29 => ?_
      simp
      refine hK29 _ ?_; clear hK29 K29
      refine cw_seq fun K30 hK30 => ?_
      refine cw_cond rfl (fun hc => ?_) (fun hc => ?_)
      · try simp at hc
        refine cw_skip ?_
        refine hK30 _ ?_; clear hK30 K30
        refine cw_seq fun K31 hK31 => ?_
        refine cw_block ?_
        refine cw_step T xs [2, 4, 21, 22, 183, 184] fun K32 hK32 => ?_
        simp
        repeat refine ⟨by omega, ?_⟩
        refine hK32 _ ?_; clear hK32 K32
        refine cw_last T xs [2, 4, 183, 184] fun K33 hK33 => ?_
        have hzl := zfront_length h V.list (by simp [hl]) q
        simp [hzl, hl, zfront_ix h V.list (by simp [hl]) q (by omega), zfront_set h V.list (by simp [hl]) q (by omega)]
        repeat refine ⟨by omega, ?_⟩
        refine hK33 _ ?_; clear hK33 K33
        refine hK31 _ ?_; clear hK31
        refine cw_last T xs [2, 4, 183, 184] fun K34 hK34 => ?_
        simp
        refine ⟨by omega, ?_⟩
        refine hK34 _ ?_; clear hK34 K34
        refine round_end (8 - (q + 1)) (by omega) ⟨q + 1, rfl, by omega, ?_⟩ (by simp)
        rfl
      · try simp at hc
        refine cw_exit ?_
        have hq8 : q = 8 := by omega
        subst hq8
        refine hK27 _ ?_; clear hK27
        refine cw_step T xs [4] fun K35 hK35 => ?_
        have hzl := zfront_length h V.list (by simp [hl]) 8
        have hz8 : zfront h V.list 8 = blk h b := by
          rw [zfront, List.take_of_length_le (by simp [hl]), List.drop_eq_nil_of_le (by omega), List.append_nil, hblk]
        have hbl : (blk h b).length = 8 := by rw [← hz8, hzl, hl]
        have htk : List.take 8 (blk h b) = blk h b := List.take_of_length_le (by omega)
        simp [hz8, hbl, htk]
        refine hK35 _ ?_; clear hK35 K35
        have hs := setL_all (w32 [0, 0, 0, 0, 0, 0, 0, 0]) (w32 (blk h b)) (by simp [hbl])
        exact cw_ret (hQ _ (.agg (w32 (blk h b)).toArray) _ _ (resC_one (by simp [hbl, htk, hs])) (Ret.refl _ _ _) rfl).2


omit hm T in
theorem blk_length (h : List UInt32) (hl : h.length = 8) (b : List UInt8) : (blk h b).length = 8 := by simp [blk, hl]
theorem sha_Block_fn (h : List UInt32) (hl : h.length = 8) (b : List UInt8) (bl : b.length = 64) (H : Heap) :
    Sx.Fn Try.prog 65 [.agg (w32 h).toArray, .agg (u8s b).toArray] H fun r g => r = .agg (w32 (blk h b)).toArray ∧ g = H :=
  fn_plain (by simp [plain_w32, plain_u8s]) (plain_w32 _) (sha_Block_fn0 T hm h hl b bl) (fun _ _ h => h) H
end Go.Proofs
