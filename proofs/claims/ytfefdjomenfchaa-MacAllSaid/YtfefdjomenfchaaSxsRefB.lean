/-
  Walks by Sx; no condition beyond those that stand in each statement.
-/
import Derived.Test.YtfefdjomenfchaaSxsRefA
import Derived.Test.YtfefdjomenfchaaSxAW
namespace Go.Proofs
open Go Go.Sx
set_option maxRecDepth 100000
attribute [local simp] xs wrap_u32_nat u32_mul u32_or' u32_xor' u32_and' u32_add u32_div w32_set u32_not' setL_all
variable (T : TyOk Try.prog (tyOf Try.prog Try.eqs)) (hm : Try.prog.follows .mixedOrders = true)
theorem nextW_ref (b : List UInt8) (l : List UInt32) (i : Nat) : nextW b l (i + 16) = ad (ad (ad (ix l i) (ix l (i + 9))) (xo (xo (rotr (ix l (i + 1)) 7) (rotr (ix l (i + 1)) 18)) (u32n ((ix l (i + 1)).toNat / 8)))) (xo (xo (rotr (ix l (i + 14)) 17) (rotr (ix l (i + 14)) 19)) (u32n ((ix l (i + 14)).toNat / 1024))) := by
  rw [nextW, if_neg (by omega), show i + 16 - 16 = i by omega, show i + 16 - 15 = i + 1 by omega, show i + 16 - 7 = i + 9 by omega, show i + 16 - 2 = i + 14 by omega]
  simp only [ad, xo, sg0, sg1]
  rw [UInt32.add_assoc (ix l i), UInt32.add_comm _ (ix l (i + 9)), ← UInt32.add_assoc]
theorem ch_eq (e f g : UInt32) : xo (an e f) (an (xo 4294967295 e) g) = g ^^^ (e &&& (f ^^^ g)) := by
  apply UInt32.eq_of_toBitVec_eq
  apply BitVec.eq_of_getLsbD_eq
  intro i hi
  simp only [xo, an, UInt32.toBitVec_xor, UInt32.toBitVec_and, BitVec.getLsbD_xor, BitVec.getLsbD_and]
  have : (4294967295 : UInt32).toBitVec.getLsbD i = true := by
    show (BitVec.allOnes 32).getLsbD i = true
    rw [BitVec.getLsbD_allOnes]; simpa using hi
  rw [this]
  cases e.toBitVec.getLsbD i <;> cases f.toBitVec.getLsbD i <;> cases g.toBitVec.getLsbD i <;> rfl
theorem maj_eq (a b c : UInt32) : oo (oo (an a b) (an a c)) (an b c) = (a &&& b) ^^^ (a &&& c) ^^^ (b &&& c) := by
  apply UInt32.eq_of_toBitVec_eq
  apply BitVec.eq_of_getLsbD_eq
  intro i hi
  simp only [oo, an, UInt32.toBitVec_xor, UInt32.toBitVec_and, UInt32.toBitVec_or, BitVec.getLsbD_xor, BitVec.getLsbD_and, BitVec.getLsbD_or]
  cases a.toBitVec.getLsbD i <;> cases b.toBitVec.getLsbD i <;> cases c.toBitVec.getLsbD i <;> rfl
include T hm
set_option maxHeartbeats 1000000 in
theorem ref04_Block_fn0 (h : List UInt32) (hl : h.length = 8) (b : List UInt8) (bl : b.length = 64) :
    Sx.Fn Try.prog 20 [.agg (w32 h).toArray, .agg (u8s b).toArray] [] fun r _ => r = .agg (w32 (blk h b)).toArray := by
  refine fn_w T xs Try.func20 rfl (by kernel_rfl) Try.results20 Try.ntmps20 (by simp) fun R hR => ?_
  simp
  refine W_for T xs (fun i => ⟨[(2, .v (.pointer (some ⟨0, 0, none⟩))), (3, .v (.pointer (some ⟨1, 0, none⟩))), (4, .v (.pointer (some ⟨2, 0, none⟩))), (5, .v (.pointer (some ⟨3, 0, none⟩))), (6, .v (.int .i64 i))], [some (.cells (w32 h) true 0), some (.cells (u8s b) true 0), some (.cells (w32 (List.replicate 8 0)) true 0), some (.cells (w32 (wl b i ++ List.replicate (64 - i) 0)) true 0)]⟩) 16 ⟨by simp, rfl⟩ ?_
  intro i hi K Q hK hQ
  simp
  refine ⟨fun hc => ?_, fun hc => ?_⟩
  · refine cw_drawnR T hm xs [2, 3, 4, 5, 6] (.soft 0 false <| .soft 1 false <| .soft 2 false <| .soft 3 false <| .soft 4 true <| .soft 5 true <| .soft 6 false <| .soft 7 false <| .soft 8 false <| .soft 9 false <| .soft 10 false <| .soft 11 true <| .soft 12 true <| .soft 13 false <| .soft 14 false <| .soft 15 false <| .soft 16 false <| .soft 17 false <| .soft 18 false <| .soft 19 true <| .soft 20 true <| .soft 21 false <| .soft 22 false <| .soft 23 false <| .soft 24 false <| .soft 25 false <| .soft 26 false <| .soft 27 true <| .soft 28 true <| .soft 29 false <| .soft 30 false <| .alt 31 false (.stop) (.stop)) (by kernel_rfl) ?_
    have n0 : ((4 : Int) * i).toNat = 4 * i := by omega
    have n1 : ((4 : Int) * i + 1).toNat = 4 * i + 1 := by omega
    have n2 : ((4 : Int) * i + 2).toNat = 4 * i + 2 := by omega
    have n3 : ((4 : Int) * i + 3).toNat = 4 * i + 3 := by omega
    simp [n0, n1, n2, n3]
    repeat refine ⟨by omega, ?_⟩
    rw [wl_set b i (by omega) _ (by rw [nextW, if_pos (by omega)]; rfl)]
    exact hK _ _ (by omega) (by simp) rfl (by simp)
  · have hi16 : i = 16 := by omega
    subst hi16
    refine hQ _ _ ?_
    clear hK hQ K Q
    simp
    refine W_for T xs (fun i => ⟨[(2, .v (.pointer (some ⟨0, 0, none⟩))), (4, .v (.pointer (some ⟨2, 0, none⟩))), (5, .v (.pointer (some ⟨3, 0, none⟩))), (7, .v (.int .i64 (i + 16 : Nat)))], [some (.cells (w32 h) true 0), some (.cells (u8s b) true 0), some (.cells (w32 (List.replicate 8 0)) true 0), some (.cells (w32 (wl b (i + 16) ++ List.replicate (64 - (i + 16)) 0)) true 0)]⟩) 48 ⟨by simp, rfl⟩ ?_
    intro i hi K Q hK hQ
    have n15 : ((i : Int) + 16 - 15).toNat = i + 16 - 15 := by omega
    have n2 : ((i : Int) + 16 - 2).toNat = i + 16 - 2 := by omega
    have n16 : ((i : Int) + 16 - 16).toNat = i + 16 - 16 := by omega
    have n7 : ((i : Int) + 16 - 7).toNat = i + 16 - 7 := by omega
    have ni : ((i : Int) + 16).toNat = i + 16 := by omega
    have wg : ∀ j, j < i + 16 → ix (wl b (i + 16) ++ List.replicate (48 - i) 0) j = ix (wl b (i + 16)) j := fun j hj => ix_left (by rw [wl_length]; exact hj)
    simp [n15, n2, wl_length]
    refine ⟨fun hc => ?_, fun hc => ?_⟩
    · repeat refine ⟨by omega, ?_⟩
      rw [wg _ (by omega), wg _ (by omega)]
      refine cw_drawnR T hm xs [2, 4, 5, 7] (.soft 0 false <| .soft 1 false <| .soft 2 false <| .soft 3 false <| .soft 4 true <| .soft 5 false <| .soft 6 false <| .soft 7 false <| .soft 8 true <| .soft 9 false <| .soft 10 false <| .soft 12 false <| .soft 15 false <| .soft 16 false <| .soft 19 false <| .soft 21 false <| .soft 24 false <| .soft 25 false <| .alt 11 true (.alt 13 true (.soft 14 false <| .soft 17 false <| .soft 18 false <| .alt 20 true (.alt 22 true (.soft 23 false <| .soft 26 false <| .soft 27 false <| .soft 28 false <| .alt 29 false (.stop) (.stop)) (.stop)) (.stop)) (.stop)) (.stop)) (by kernel_rfl) ?_
      simp [n16, n7, ni, wl_length]
      repeat refine ⟨by omega, ?_⟩
      refine CallK.of (ref04_turn_l T hm _ 7 7 rfl (by decide) _) ?_
      rintro _ _ ⟨rfl, rfl⟩
      simp
      refine CallK.of (ref04_turn_l T hm _ 18 18 rfl (by decide) _) ?_
      rintro _ _ ⟨rfl, rfl⟩
      simp
      refine CallK.of (ref04_turn_l T hm _ 17 17 rfl (by decide) _) ?_
      rintro _ _ ⟨rfl, rfl⟩
      simp
      refine CallK.of (ref04_turn_l T hm _ 19 19 rfl (by decide) _) ?_
      rintro _ _ ⟨rfl, rfl⟩
      simp [wl_length, wg i (by omega), wg (i + 9) (by omega), ni]
      repeat refine ⟨by omega, ?_⟩
      have e := wl_set' b (i + 16) (by omega) _ rfl
      rw [show 64 - (i + 16) = 48 - i by omega, show 64 - (i + 16 + 1) = 47 - i by omega, show i + 16 + 1 = i + 1 + 16 by omega] at e
      rw [nextW_ref] at e
      rw [e]
      exact hK _ _ (by omega) (by simp; omega) (by show _ = _; rw [show 64 - (i + 1 + 16) = 47 - i by omega]; rfl) (by simp)
    · have hi48 : i = 48 := by omega
      subst hi48
      refine hQ _ _ ?_
      clear hK hQ K Q
      simp
      obtain ⟨W, hW⟩ : ∃ W, W = wl b 64 := ⟨_, rfl⟩
      have hWl : W.length = 64 := by rw [hW, wl_length]
      have hblk : blk h b = List.zipWith ad h (rnds W (ofL h) 64).list := by rw [hW]; rfl
      rw [← hW]
      clear hW
      refine CallK.of (ref04_roots_fn T hm _) ?_
      rintro _ _ ⟨rfl, rfl⟩
      simp [hl]
      refine W_for T xs (fun j => ⟨[(2, .v (.pointer (some ⟨0, 0, none⟩))), (4, .v (.pointer (some ⟨2, 0, none⟩))), (5, .v (.pointer (some ⟨3, 0, none⟩))), (10, .v (.pointer (some ⟨4, 0, none⟩))), (11, .v (.pointer (some ⟨5, 0, none⟩))), (12, .v (.int .i64 j))], [some (.cells (w32 h) true 0), some (.cells (u8s b) true 0), some (.cells (w32 (List.replicate 8 0)) true 0), some (.cells (w32 W) true 0), some (.cells (w32 kk) true 0), some (.cells (w32 (rnds W (ofL h) j).list) true 0)]⟩) 64 ⟨by simp, ?_⟩ ?_
      · rw [List.take_of_length_le (show h.length ≤ 8 by omega)]
        show _ = _
        rw [show (rnds W (ofL h) 0).list = h from ofL_list h hl]
        rfl
      intro j hj K Q hK hQ
      obtain ⟨V, hV⟩ : ∃ V, V = rnds W (ofL h) j := ⟨_, rfl⟩
      have hV1 : rnds W (ofL h) (j + 1) = rnd V (ix kk j) (ix W j) := by rw [hV]; rfl
      obtain ⟨v0, v1, v2, v3, v4, v5, v6, v7⟩ := V
      simp only [← hV, V8.list]
      simp
      refine ⟨fun hc => ?_, fun hc => ?_⟩
      · refine cw_drawnR T hm xs [2, 4, 5, 10, 11, 12, 14, 15] (.soft 0 false <| .soft 1 true <| .soft 2 false <| .soft 4 false <| .soft 7 false <| .soft 11 false <| .soft 12 false <| .soft 13 true <| .soft 14 false <| .soft 15 false <| .soft 16 false <| .soft 17 false <| .soft 18 true <| .soft 19 false <| .soft 20 false <| .soft 22 false <| .soft 23 false <| .soft 24 true <| .soft 26 false <| .soft 27 false <| .soft 28 true <| .alt 3 true (.alt 5 true (.soft 6 false <| .alt 8 true (.soft 9 false <| .soft 10 false <| .soft 21 false <| .soft 25 false <| .soft 29 false <| .soft 30 false <| .stop) (.stop)) (.stop)) (.stop)) (by kernel_rfl) ?_
        simp [hWl]
        repeat refine ⟨by omega, ?_⟩
        refine CallK.of (ref04_turn_l T hm _ 6 6 rfl (by decide) _) ?_
        rintro _ _ ⟨rfl, rfl⟩
        simp
        refine CallK.of (ref04_turn_l T hm _ 11 11 rfl (by decide) _) ?_
        rintro _ _ ⟨rfl, rfl⟩
        simp
        refine CallK.of (ref04_turn_l T hm _ 25 25 rfl (by decide) _) ?_
        rintro _ _ ⟨rfl, rfl⟩
        simp
        refine cw_drawnR T hm xs [2, 4, 5, 10, 11, 12, 15, 16] (.soft 0 false <| .soft 2 false <| .soft 5 false <| .soft 8 false <| .soft 9 false <| .soft 10 true <| .soft 11 false <| .soft 12 false <| .soft 13 false <| .soft 14 true <| .soft 15 false <| .soft 16 false <| .soft 17 false <| .soft 18 true <| .soft 19 false <| .soft 20 true <| .soft 21 false <| .soft 22 false <| .alt 1 true (.alt 3 true (.soft 4 false <| .alt 6 true (.soft 7 false <| .soft 23 false <| .soft 24 false <| .stop) (.stop)) (.stop)) (.stop)) (by kernel_rfl) ?_
        simp
        refine CallK.of (ref04_turn_l T hm _ 2 2 rfl (by decide) _) ?_
        rintro _ _ ⟨rfl, rfl⟩
        simp
        refine CallK.of (ref04_turn_l T hm _ 13 13 rfl (by decide) _) ?_
        rintro _ _ ⟨rfl, rfl⟩
        simp
        refine CallK.of (ref04_turn_l T hm _ 22 22 rfl (by decide) _) ?_
        rintro _ _ ⟨rfl, rfl⟩
        simp
        repeat refine ⟨by omega, ?_⟩
        rw [ch_eq, maj_eq]
        exact hK _ _ (by omega) (by simp) (by simp only [hV1]; rfl) (by simp)
      · have hj64 : j = 64 := by omega
        subst hj64
        refine hQ _ _ ?_
        clear hK hQ K Q
        simp
        rw [← hV] at hblk
        have hzz : [v0, v1, v2, v3, v4, v5, v6, v7] = V8.list ⟨v0, v1, v2, v3, v4, v5, v6, v7⟩ := rfl
        rw [hzz]
        clear hzz hV hV1
        obtain ⟨V, hV⟩ : ∃ V, V = V8.list ⟨v0, v1, v2, v3, v4, v5, v6, v7⟩ := ⟨_, rfl⟩
        rw [← hV] at hblk ⊢
        have hVl : V.length = h.length := by rw [hV, hl]; rfl
        clear hV
        refine W_for T xs (fun j => ⟨[(2, .v (.pointer (some ⟨0, 0, none⟩))), (4, .v (.pointer (some ⟨2, 0, none⟩))), (11, .v (.pointer (some ⟨5, 0, none⟩))), (17, .v (.int .i64 j))], [some (.cells (w32 (zfront h V j)) true 0), some (.cells (u8s b) true 0), some (.cells (w32 (List.replicate 8 0)) true 0), some (.cells (w32 W) true 0), some (.cells (w32 kk) true 0), some (.cells (w32 V) true 0)]⟩) 8 ⟨by simp, rfl⟩ ?_
        intro q hq K Q hK hQ
        have hzl := zfront_length h V hVl q
        simp [hzl, hl]
        refine ⟨fun hc => ?_, fun hc => ?_⟩
        · refine cw_drawnR T hm xs [2, 4, 11, 17] (.soft 0 false <| .soft 1 false <| .soft 2 false <| .soft 3 true <| .soft 4 false <| .soft 5 false <| .soft 6 true <| .soft 7 false <| .soft 8 false <| .alt 9 false (.stop) (.stop)) (by kernel_rfl) ?_
          simp [hzl, hVl, hl, zfront_ix h V hVl q (by omega), zfront_set h V hVl q (by omega)]
          repeat refine ⟨by omega, ?_⟩
          exact hK _ _ (by omega) (by simp) rfl (by simp)
        · have hq8 : q = 8 := by omega
          subst hq8
          have hz8 : zfront h V 8 = blk h b := by
            rw [zfront, List.take_of_length_le (by simp [hl, hVl]), List.drop_eq_nil_of_le (by omega), List.append_nil, hblk]
          have hbl : (blk h b).length = 8 := by rw [← hz8, hzl, hl]
          have htk : List.take 8 (blk h b) = blk h b := List.take_of_length_le (by omega)
          refine hQ _ _ ?_
          simp [hz8, hbl, htk]
          exact Ans.refl (hR _ _ rfl)
theorem ref04_Block_fn (h : List UInt32) (hl : h.length = 8) (b : List UInt8) (bl : b.length = 64) (H : Heap) :
    Sx.Fn Try.prog 20 [.agg (w32 h).toArray, .agg (u8s b).toArray] H fun r g => r = .agg (w32 (blk h b)).toArray ∧ g = H :=
  fn_plain (by simp [plain_w32, plain_u8s]) (plain_w32 _) (ref04_Block_fn0 T hm h hl b bl) (fun _ _ h => h) H
end Go.Proofs
