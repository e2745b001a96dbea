/-
  Walks by Sx; no condition beyond those that stand in each statement.
-/
import Derived.Test.YtfefdjomenfchaaSxsMacD
import Derived.Test.YtfefdjomenfchaaSxsFlat
namespace Go.Proofs
open Go Go.Sx
set_option maxRecDepth 100000
attribute [local simp] xs setL_all u8_xor u8_or
variable (T : TyOk Try.prog (tyOf Try.prog Try.eqs)) (hm : Try.prog.follows .mixedOrders = true)
theorem key64_sum (k : List UInt8) (h : 64 < k.length) : key64 (sumL k) = key64 k := by
  unfold key64
  rw [if_pos h, if_neg (by rw [sumL_length]; omega)]
theorem key64_more (k : List UInt8) (j : Nat) (h : k.length + j ≤ 64) : key64 (k ++ List.replicate j 0) = key64 k := by
  unfold key64
  rw [if_neg (by simp; omega), if_neg (by omega)]
  simp only [List.append_assoc, List.replicate_append_replicate, List.length_append, List.length_replicate]
  congr 2
  omega
theorem macL_sum (k b : List UInt8) (h : 64 < k.length) : macL (sumL k) b = macL k b := by unfold macL; rw [key64_sum k h]
theorem macL_more (k b : List UInt8) (j : Nat) (h : k.length + j ≤ 64) : macL (k ++ List.replicate j 0) b = macL k b := by unfold macL; rw [key64_more k j h]
theorem wf_byte (n : Nat) (h : n < 256) : IntKind.i64.wrap (n : Int) = n := by simp [IntKind.wrap, IntKind.bits, IntKind.signed]; omega
include T hm
theorem law05_MacKeys_fn (k0 x0 : List UInt8) (z : Nat) (hz : z < 256) (a b : Option Addr) (n0 m0 c d : Nat) (hn0 : k0.length = n0) (hm0 : x0.length = m0) (H : Heap) (hr0 : Row H a n0 c (u8s k0)) (hs0 : Row H b m0 d (u8s x0)) :
    Sx.Fn Try.prog 11 [.slice a n0 c, .slice b m0 d, .int .u8 z] H fun r _ => r = .bool true := by
  refine fn_start T Try.func11 rfl (by kernel_rfl) Try.results11 Try.ntmps11 (by simp) ?_
  intro Q hQ
  simp only [argTm]
  refine cw_step T xs [0, 1, 2] fun K1 hK1 => ?_
  simp
  refine hK1 _ ?_; clear hK1 K1
  refine cw_step T xs [0, 1, 2, 7] fun K2 hK2 => ?_
  simp
  refine CallK.of (law05_shown_fn T hm _) ?_
  rintro _ hx ⟨rfl, he⟩
  replace he := he.symm
  subst he
  simp
  refine hK2 _ ?_; clear hK2 K2
  refine cw_step T xs [1, 2, 7, 8] fun K3 hK3 => ?_
  simp
  refine CallK.of (law05_few_fn T a n0 c _ _ hr0) ?_
  rintro _ hx ⟨rfl, he⟩
  replace he := he.symm
  subst he
  simp
  refine hK3 _ ?_; clear hK3 K3
  refine cw_step T xs [2, 7, 8, 9] fun K4 hK4 => ?_
  simp
  refine CallK.of (law05_few_fn T b m0 d _ _ hs0) ?_
  rintro _ hx ⟨rfl, he⟩
  replace he := he.symm
  subst he
  simp
  refine hK4 _ ?_; clear hK4 K4
  obtain ⟨k, hk⟩ : ∃ k, k = k0.take (min n0 150) := ⟨_, rfl⟩
  obtain ⟨x, hx⟩ : ∃ x, x = x0.take (min m0 150) := ⟨_, rfl⟩
  have q1 := Row.first hr0 (min n0 150) (by omega) hn0
  have q2 := Row.first hs0 (min m0 150) (by omega) hm0
  rw [← hk] at q1
  rw [← hx] at q2
  have r1 := rowOf_all q1
  have r2 := rowOf_all q2
  have hkl : k.length = min n0 150 := by rw [hk]; simp; omega
  have hxl : x.length = min m0 150 := by rw [hx]; simp; omega
  have b1 : min n0 150 ≤ 150 := by omega
  have b2 : min m0 150 ≤ 150 := by omega
  generalize min n0 150 = n at *
  generalize min m0 150 = m at *
  clear hr0 hs0 hn0 hm0 hk hx
  obtain ⟨M, hM⟩ : ∃ M, M = macL k x := ⟨_, rfl⟩
  have hMl : M.length = 32 := by rw [hM]; exact macL_length k x
  refine cw_seq fun K5 hK5 => ?_
  refine cw_step T xs [2, 7, 8, 9, 20] fun K6 hK6 => ?_
  simp
  refine hK6 _ ?_; clear hK6 K6
  refine cw_cond rfl (fun hc => ?_) (fun hc => ?_)
  · try simp at hc
    obtain ⟨S, hS⟩ : ∃ S, S = sumL k := ⟨_, rfl⟩
    have hSl : S.length = 32 := by rw [hS]; exact sumL_length k
    have hSt : S.take 32 = S := List.take_of_length_le (by omega)
    refine cw_step T xs [7, 8, 9, 10] fun K7 hK7 => ?_
    simp
    refine CallK.of (sha_Sum_l T hm k n hkl (by omega) _ a c q1) ?_
    rintro _ hx ⟨rfl, he⟩
    replace he := he.symm
    subst he
    rw [← hS]
    simp [hSl]
    refine hK7 _ ?_; clear hK7 K7
    refine cw_draw T hm xs [6] (.soft 0 false <| .soft 1 false <| .soft 2 false <| .soft 3 false <| .soft 5 true <| .soft 6 false <| .alt 4 true (.alt 7 false (.soft 8 false <| .soft 9 false <| .soft 10 false <| .stop) (.stop)) (.stop)) (by kernel_rfl) fun K8 hK8 => ?_
    simp [hSl]
    refine CallK.of (mac_Of_fn T hm k n hkl (by omega) x m hxl (by omega) _ a c (r1 _) b d (r2 _)) ?_
    rintro _ _ ⟨rfl, rfl⟩
    simp [hSl]
    refine CallK.of (mac_Of_fn T hm S 32 hSl (by omega) x m hxl (by omega) _ _ 32 (by simp [hSl, hSt]) b d (r2 _)) ?_
    rintro _ _ ⟨rfl, rfl⟩
    have hSM : macL S x = M := by rw [hS, hM]; exact macL_sum k x (by omega)
    rw [hSM, ← hM]
    simp [flatEq_u8b, hMl]
    refine hK8 _ ?_; clear hK8 K8
    exact cw_ret (hQ _ (.bool true) _ _ (resC_one (by simp)) (Ret.plain rfl) rfl).2
  · try simp at hc
    refine cw_skip ?_
    refine hK5 _ ?_; clear hK5
    refine cw_step T xs [2, 7, 8, 9, 11] fun K9 hK9 => ?_
    have g9 : ∀ (p : Nat) (L : Heap) (cp u : Nat), hget L p = some (.cells (u8s (k ++ List.replicate 0 0)) true u) → ((cp = OPEN ∧ u = 1) ∨ (cp = 0 ∧ n = 0)) →
        K9 ⟨[(2, .v (.int .u8 z)), (7, .v (.bool true)), (8, .v (.slice a n c)), (9, .v (.slice b m d)), (11, .v (.slice (some ⟨H.length + p, 0, none⟩) n cp))], H ++ L⟩ := by
      intro p L cp u h1 h2
      refine hK9 _ ?_; clear hK9 K9
      refine cw_seq fun K10 hK10 => ?_
      refine cw_step T xs [2, 7, 8, 9, 11, 12] fun K11 hK11 => ?_
      simp
      refine hK11 _ ?_; clear hK11 K11
      refine cw_block ?_
      refine cw_while (fun w s => ∃ i p L cp u, w = z - i ∧ i ≤ z ∧ n + i ≤ 64 ∧ hget L p = some (.cells (u8s (k ++ List.replicate i 0)) true u) ∧ ((cp = OPEN ∧ u = 1) ∨ (cp = 0 ∧ n + i = 0)) ∧ s = ⟨[(2, .v (.int .u8 z)), (7, .v (.bool true)), (8, .v (.slice a n c)), (9, .v (.slice b m d)), (11, .v (.slice (some ⟨H.length + p, 0, none⟩) (n + i) cp)), (12, .v (.int .i64 i))], H ++ L⟩) z ⟨0, p, L, cp, u, by omega, by omega, by omega, h1, by omega, by rfl⟩ ?_
      clear h1 h2
      rintro w s ⟨i, p, L, cp, u, rfl, hi, hi64, h1, h2, rfl⟩
      refine cw_seq fun K12 hK12 => ?_
      refine cw_step T xs [2, 7, 8, 9, 11, 12, 44] fun K13 hK13 => ?_
      simp [wf_byte z hz]
      have g44 : K13 ⟨[(2, .v (.int .u8 z)), (7, .v (.bool true)), (8, .v (.slice a n c)), (9, .v (.slice b m d)), (11, .v (.slice (some ⟨H.length + p, 0, none⟩) (n + i) cp)), (12, .v (.int .i64 i)), (44, .v (.bool (decide (i < z ∧ n + i < 64))))], H ++ L⟩ := by
        refine hK13 _ ?_; clear hK13 K13
        refine cw_cond rfl (fun hc => ?_) (fun hc => ?_)
        · try simp at hc
          refine cw_skip ?_
          refine hK12 _ ?_; clear hK12
          refine cw_seq fun K14 hK14 => ?_
          refine cw_block ?_
          refine cw_last T xs [2, 7, 8, 9, 11, 12] fun K15 hK15 => ?_
          have hp : p < L.length := hget_lt h1
          have h35 : n + i + 1 ≤ 35184372088832 := by omega
          rcases h2 with ⟨rfl, rfl⟩ | ⟨rfl, h0⟩
          · simp [h1, hget_append hp, hkl, h35, zerosN_s]
            refine hK15 _ ?_; clear hK15 K15
            refine hK14 _ ?_; clear hK14
            refine cw_last T xs [2, 7, 8, 9, 11, 12] fun K16 hK16 => ?_
            simp
            refine ⟨by omega, ?_⟩
            refine hK16 _ ?_; clear hK16 K16
            refine round_end (z - (i + 1)) (by omega) ⟨i + 1, L.length + 1, (L ++ [some (Blk.cells [Value.int .u8 0] true 0)]).set p none ++ [some (Blk.cells (u8s (k ++ List.replicate i 0) ++ [Value.int .u8 0]) true 1)], OPEN, 1, rfl, by omega, by omega, ?_, .inl ⟨rfl, rfl⟩, ?_⟩ (by simp; omega)
            · have e := hget_append_new (h := (L ++ [some (Blk.cells [Value.int .u8 0] true 0)]).set p none) (g := [some (Blk.cells (u8s (k ++ List.replicate i 0) ++ [Value.int .u8 0]) true 1)]) (k := 0)
              rw [List.length_set, List.length_append] at e
              refine e.trans ?_
              simp [u8s, List.replicate_succ']
            · rfl
          · have hn0 : n = 0 := by omega
            have hi0 : i = 0 := by omega
            subst hn0; subst hi0
            simp [h1, hget_append hp, hkl, zerosN_s]
            refine hK15 _ ?_; clear hK15 K15
            refine hK14 _ ?_; clear hK14
            refine cw_last T xs [2, 7, 8, 9, 11, 12] fun K16 hK16 => ?_
            simp
            skip
            refine hK16 _ ?_; clear hK16 K16
            refine round_end (z - 1) (by omega) ⟨1, L.length + 1, L ++ [some (.cells [.int .u8 0] true 0), some (.cells [.int .u8 0] true 1)], OPEN, 1, rfl, by omega, by omega, ?_, .inl ⟨rfl, rfl⟩, ?_⟩ (by simp)
            · cases List.eq_nil_of_length_eq_zero hkl
              have e := hget_append_new (h := L) (g := [some (.cells [.int .u8 0] true 0), some (.cells [.int .u8 0] true 1)]) (k := 1)
              refine e.trans ?_
              rfl
            · rfl
        · try simp at hc
          refine cw_exit ?_
          refine hK10 _ ?_; clear hK10
          have hp : p < L.length := hget_lt h1
          obtain ⟨kz, hkz⟩ : ∃ kz, kz = k ++ List.replicate i 0 := ⟨_, rfl⟩
          rw [← hkz] at h1
          have hkzl : kz.length = n + i := by rw [hkz]; simp [hkl]
          have hkzt : kz.take (n + i) = kz := List.take_of_length_le (by omega)
          have hrow : rowOf 1 (H ++ L) (.slice (some ⟨H.length + p, 0, none⟩) (n + i) cp) = some (u8s kz) := by simp [h1, hkzl, hkzt]
          have hkM : macL kz x = M := by rw [hkz, hM]; exact macL_more k x i (by omega)
          have hM8 : (M.take 8).length = 8 := by simp [hMl]
          refine cw_step T xs [6] fun K17 hK17 => ?_
          simp
          refine CallK.of (mac_Of_fn T hm k n hkl (by omega) x m hxl (by omega) _ a c (r1 _) b d (r2 _)) ?_
          rintro _ _ ⟨rfl, rfl⟩
          rw [← hM]
          simp
          refine CallK.of (mac_Of_fn T hm kz (n + i) hkzl (by omega) x m hxl (by omega) _ _ cp hrow b d (r2 _)) ?_
          rintro _ _ ⟨rfl, rfl⟩
          rw [hkM]
          simp [flatEq_u8b, hMl]
          refine CallK.of (mac_Tag_fn T hm k n hkl (by omega) x m hxl (by omega) _ a c (r1 _) b d (r2 _)) ?_
          rintro _ _ ⟨rfl, rfl⟩
          rw [← hM]
          simp
          refine CallK.of (mac_Tag_fn T hm kz (n + i) hkzl (by omega) x m hxl (by omega) _ _ cp hrow b d (r2 _)) ?_
          rintro _ _ ⟨rfl, rfl⟩
          rw [hkM]
          simp [flatEq_u8b, hMl, hM8]
          refine hK17 _ ?_; clear hK17 K17
          exact cw_ret (hQ _ (.bool true) _ _ (resC_one (by simp)) (Ret.plain rfl) rfl).2
      refine ⟨by omega, fun h => ?_, fun h => ?_⟩
      · have e : decide ((n : Int) + (i : Int) < 64) = decide (i < z ∧ n + i < 64) := by
          congr 1
          apply propext
          omega
        rw [e]; exact g44
      · have e : decide (i < z ∧ n + i < 64) = false := by simp; omega
        rw [e] at g44; exact g44
    clear hK9
    rcases Nat.eq_zero_or_pos n with h0 | h0
    · subst h0
      cases List.eq_nil_of_length_eq_zero hkl
      simp [r1]
      exact g9 0 [some (.cells [] true 0)] 0 0 rfl (.inr ⟨rfl, rfl⟩)
    · have h0' : ¬ n = 0 := by omega
      have h0'' : n ≤ 35184372088832 := by omega
      simp [r1, hkl, h0', h0'']
      exact g9 1 [some (.cells [] true 0), some (.cells (u8s k) true 1)] OPEN 1 (by simp) (.inl ⟨rfl, rfl⟩)
end Go.Proofs
