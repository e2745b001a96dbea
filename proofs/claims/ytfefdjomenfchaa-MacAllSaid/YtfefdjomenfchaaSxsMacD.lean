/-
  Walks by Sx; no condition beyond those that stand in each statement.
-/
import Derived.Test.YtfefdjomenfchaaSxsMacC
import Derived.Test.YtfefdjomenfchaaSxsShaF
namespace Go.Proofs
open Go Go.Sx
set_option maxRecDepth 100000
attribute [local simp] xs setL_all u8_xor u8_or
variable (T : TyOk Try.prog (tyOf Try.prog Try.eqs)) (hm : Try.prog.follows .mixedOrders = true)
theorem rowOf_all {H : Heap} {a : Option Addr} {n c : Nat} {l : List Value} (h : rowOf 1 H (.slice a n c) = some l) : ∀ L, rowOf 1 (H ++ L) (.slice a n c) = some l := fun L => Agree.rowOf (fun _ _ q => hget_old q L) h
theorem beq_swap (x y : List UInt8) : (y == x) = (x == y) := by
  rw [Bool.eq_iff_iff]; simp only [beq_iff_eq]; exact ⟨fun h => h.symm, fun h => h.symm⟩
include T hm
theorem law05_MacTags_fn (k0 x0 y0 : List UInt8) (a b e : Option Addr) (n0 m0 o0 c d f : Nat) (hn0 : k0.length = n0) (hm0 : x0.length = m0) (ho0 : y0.length = o0) (H : Heap) (hr0 : Row H a n0 c (u8s k0)) (hs0 : Row H b m0 d (u8s x0)) (ht0 : Row H e o0 f (u8s y0)) :
    Sx.Fn Try.prog 12 [.slice a n0 c, .slice b m0 d, .slice e o0 f] H fun r _ => r = .bool true := by
  refine fn_start T Try.func12 rfl (by kernel_rfl) Try.results12 Try.ntmps12 (by simp) ?_
  intro Q hQ
  simp only [argTm]
  refine cw_step T xs [0, 1, 2] fun K1 hK1 => ?_
  simp
  refine hK1 _ ?_; clear hK1 K1
  refine cw_step T xs [0, 1, 2, 7] fun K2 hK2 => ?_
  simp
  refine CallK.of (law05_shown_fn T hm _) ?_
  rintro _ hx ⟨rfl, he⟩
  replace he := he.symm
  subst he
  simp
  refine hK2 _ ?_; clear hK2 K2
  refine cw_step T xs [1, 2, 7, 8] fun K3 hK3 => ?_
  simp
  refine CallK.of (law05_few_fn T a n0 c _ _ hr0) ?_
  rintro _ hx ⟨rfl, he⟩
  replace he := he.symm
  subst he
  simp
  refine hK3 _ ?_; clear hK3 K3
  refine cw_step T xs [2, 7, 8, 9] fun K4 hK4 => ?_
  simp
  refine CallK.of (law05_few_fn T b m0 d _ _ hs0) ?_
  rintro _ hx ⟨rfl, he⟩
  replace he := he.symm
  subst he
  simp
  refine hK4 _ ?_; clear hK4 K4
  refine cw_step T xs [7, 8, 9, 10] fun K5 hK5 => ?_
  simp
  refine CallK.of (law05_few_fn T e o0 f _ _ ht0) ?_
  rintro _ hx ⟨rfl, he⟩
  replace he := he.symm
  subst he
  simp
  refine hK5 _ ?_; clear hK5 K5
  obtain ⟨k, hk⟩ : ∃ k, k = k0.take (min n0 150) := ⟨_, rfl⟩
  obtain ⟨x, hx⟩ : ∃ x, x = x0.take (min m0 150) := ⟨_, rfl⟩
  obtain ⟨y, hy⟩ : ∃ y, y = y0.take (min o0 150) := ⟨_, rfl⟩
  have r1 := rowOf_all (Row.first hr0 (min n0 150) (by omega) hn0)
  have r2 := rowOf_all (Row.first hs0 (min m0 150) (by omega) hm0)
  have r3 := rowOf_all (Row.first ht0 (min o0 150) (by omega) ho0)
  have q1 := Row.first hr0 (min n0 150) (by omega) hn0
  have q2 := Row.first hs0 (min m0 150) (by omega) hm0
  rw [← hk] at r1 q1
  rw [← hx] at r2 q2
  rw [← hy] at r3
  have hkl : k.length = min n0 150 := by rw [hk]; simp; omega
  have hxl : x.length = min m0 150 := by rw [hx]; simp; omega
  have hyl : y.length = min o0 150 := by rw [hy]; simp; omega
  have b1 : min n0 150 ≤ 150 := by omega
  have b2 : min m0 150 ≤ 150 := by omega
  have b3 : min o0 150 ≤ 150 := by omega
  generalize min n0 150 = n at *
  generalize min m0 150 = m at *
  generalize min o0 150 = o at *
  clear hr0 hs0 ht0 hn0 hm0 ho0 hk hx hy
  obtain ⟨S, hS⟩ : ∃ S, S = macL k x := ⟨_, rfl⟩
  have hSl : S.length = 32 := by rw [hS]; exact macL_length k x
  refine cw_step T xs [7, 8, 9, 10, 11] fun K6 hK6 => ?_
  simp
  refine CallK.of (mac_Of_fn T hm k n hkl (by omega) x m hxl (by omega) _ a c q1 b d q2) ?_
  rintro _ hx ⟨rfl, he⟩
  replace he := he.symm
  subst he
  rw [← hS]
  simp [hSl]
  refine hK6 _ ?_; clear hK6 K6
  refine cw_step T xs [7, 9, 10, 11, 12] fun K7 hK7 => ?_
  simp
  refine CallK.of (mac_Tag_fn T hm k n hkl (by omega) x m hxl (by omega) _ a c (r1 _) b d (r2 _)) ?_
  rintro _ _ ⟨rfl, rfl⟩
  rw [← hS]
  simp [hSl]
  refine hK7 _ ?_; clear hK7 K7
  refine cw_seq fun K8 hK8 => ?_
  refine cw_step T xs [7, 9, 10, 11, 12, 13] fun K9 hK9 => ?_
  simp
  refine hK9 _ ?_; clear hK9 K9
  have htk : ∀ i, i < 8 → ix (S.take 8) i = ix S i := fun i hi => by rw [ix_eq (by simp; omega), ix_eq (by omega), List.getElem_take]
  refine cw_block ?_
  refine cw_while (fun w s => ∃ i, w = 8 - i ∧ i ≤ 8 ∧ s = ⟨[(7, .v (.bool true)), (9, .v (.slice b m d)), (10, .v (.slice e o f)), (11, .v (.pointer (some ⟨H.length, 0, none⟩))), (12, .v (.pointer (some ⟨H.length + 1, 0, none⟩))), (13, .v (.int .i64 i))], H ++ [some (.cells (u8s S) true 0), some (.cells (u8s (S.take 8)) true 0)]⟩) 8 ⟨0, by omega, by omega, by rfl⟩ ?_
  rintro w s ⟨i, rfl, hi, rfl⟩
  refine cw_seq fun K10 hK10 => ?_
  refine cw_step T xs [7, 9, 10, 11, 12, 13, 28] fun K11 hK11 => ?_
  simp
  refine hK11 _ ?_; clear hK11 K11
  refine cw_cond rfl (fun hc => ?_) (fun hc => ?_)
  · try simp at hc
    have ht := htk i (by omega)
    refine cw_skip ?_
    refine hK10 _ ?_; clear hK10
    refine cw_seq fun K12 hK12 => ?_
    refine cw_block ?_
    refine cw_draw T hm xs [7, 9, 10, 11, 12, 13, 37] (.soft 0 false <| .soft 1 false <| .soft 2 true <| .soft 3 false <| .soft 4 false <| .soft 5 true <| .soft 6 false <| .stop) (by kernel_rfl) fun K13 hK13 => ?_
    simp [hSl, ht]
    refine ⟨by omega, by omega, by omega, by omega, ?_⟩
    refine hK13 _ ?_; clear hK13 K13
    refine cw_cond rfl (fun hc => ?_) (fun hc => ?_)
    · cases hc
    · refine cw_skip ?_
      refine hK12 _ ?_; clear hK12
      refine cw_last T xs [7, 9, 10, 11, 12, 13] fun K15 hK15 => ?_
      simp
      refine ⟨by omega, ?_⟩
      refine hK15 _ ?_; clear hK15 K15
      refine round_end (8 - (i + 1)) (by omega) ⟨i + 1, rfl, by omega, ?_⟩ (by simp)
      rfl
  · try simp at hc
    refine cw_exit ?_
    refine hK8 _ ?_; clear hK8
    refine cw_draw T hm xs [6] (.soft 0 false <| .soft 1 false <| .soft 2 false <| .soft 3 false <| .soft 5 false <| .soft 6 true <| .soft 7 false <| .soft 8 true <| .soft 9 false <| .alt 4 true (.soft 10 false <| .soft 11 false <| .soft 12 false <| .soft 13 false <| .soft 14 false <| .soft 16 false <| .soft 17 false <| .alt 15 true (.alt 18 true (.soft 19 false <| .soft 20 false <| .soft 21 false <| .stop) (.stop)) (.stop)) (.stop)) (by kernel_rfl) fun K16 hK16 => ?_
    simp [r2, r3]
    refine CallK.of (mac_Same_fn T hm x m hxl (by omega) y o hyl (by omega) _ b d (r2 _) e f (r3 _)) ?_
    rintro _ _ ⟨rfl, rfl⟩
    simp
    refine CallK.of (mac_Same_fn T hm y o hyl (by omega) x m hxl (by omega) _ e f (r3 _) b d (r2 _)) ?_
    rintro _ _ ⟨rfl, rfl⟩
    simp
    refine CallK.of (mac_Same_fn T hm x m hxl (by omega) y o hyl (by omega) _ b d (r2 _) e f (r3 _)) ?_
    rintro _ _ ⟨rfl, rfl⟩
    simp [beq_swap x y]
    refine hK16 _ ?_; clear hK16 K16
    exact cw_ret (hQ _ (.bool true) _ _ (resC_one (by simp)) (Ret.plain rfl) rfl).2
end Go.Proofs
