/-
  Walks by Sx; no condition beyond those that stand in each statement.
-/
import Derived.Test.YtfefdjomenfchaaSxsChainC
namespace Go.Proofs
open Go Go.Sx
set_option maxRecDepth 100000
attribute [local simp] xs setL_all rc_one1
variable (T : TyOk Try.prog (tyOf Try.prog Try.eqs)) (hm : Try.prog.follows .mixedOrders = true)
theorem zerosN_one (l : List Value) : zerosN l 1 = l := by simp [zerosN]
theorem recRow_one {H : Heap} {i : Nat} {a : Rc} (h : hget H i = some (.cells a.cells true 0)) : RecRow H (some ⟨i, 0, none⟩) 1 [a] :=
  ⟨rfl, .inr ⟨i, 0, a.cells, true, 0, rfl, h, by simp, fun j hj => by
    have : j = 0 := by simpa using hj
    subst this; rfl⟩⟩
include T hm
theorem law23_ChainSums_fn (l : List UInt8) (hl : l.length = 64) (a b : Rc) :
    Sx.Fn Try.prog 8 [.agg (u8s l).toArray, .agg a.cells.toArray, .agg b.cells.toArray] [] fun r _ => r = .bool true := by
  refine fn_start T Try.func8 rfl (by kernel_rfl) Try.results8 Try.ntmps8 (by simp) ?_
  intro Q hQ
  simp only [argTm]
  have hra := rc_length a
  have hrb := rc_length b
  refine cw_step T xs [3, 4, 5] fun K1 hK1 => ?_
  simp [hl]
  refine hK1 _ ?_; clear hK1 K1
  refine cw_step T xs [3, 4, 5, 7] fun K2 hK2 => ?_
  simp
  refine CallK.of (law23_shown_fn T hm _) ?_
  rintro _ _ ⟨rfl, rfl⟩
  simp
  refine hK2 _ ?_; clear hK2 K2
  have hat : a.cells.take 6 = a.cells := rfl
  have hbt : b.cells.take 6 = b.cells := rfl
  refine cw_step T xs [3, 4, 5, 7, 8] fun K3 hK3 => ?_
  simp [hat]
  refine CallK.of (chain_Bytes_fn T a _) ?_
  rintro _ _ ⟨rfl, rfl⟩
  simp
  refine hK3 _ ?_; clear hK3 K3
  refine cw_step T xs [3, 4, 5, 7, 8, 9] fun K4 hK4 => ?_
  simp [hbt]
  refine CallK.of (chain_Bytes_fn T b _) ?_
  rintro _ _ ⟨rfl, rfl⟩
  simp
  refine hK4 _ ?_; clear hK4 K4
  obtain ⟨p, q, rfl, hp, hq⟩ : ∃ p q, l = p ++ q ∧ p.length = 32 ∧ q.length = 32 := ⟨l.take 32, l.drop 32, by simp, by simp [hl], by simp [hl]⟩
  have hpt : p.take 32 = p := List.take_of_length_le (by omega)
  have hp42 : p.take 42 = p := List.take_of_length_le (by omega)
  have hqt : q.take 32 = q := List.take_of_length_le (by omega)
  have hbl : (p ++ recB a).length = 42 := by simp [hp]
  have hrt : (recB a).take 10 = recB a := List.take_of_length_le (by simp)
  have hrt2 : (recB b).take 10 = recB b := List.take_of_length_le (by simp)
  have hsl := sumL_length (p ++ recB a)
  have hst : (sumL (p ++ recB a)).take 32 = sumL (p ++ recB a) := List.take_of_length_le (by omega)
  refine cw_draw T hm xs [3, 4, 5, 7, 8, 9, 10] (.soft 1 false <| .soft 2 true <| .soft 4 true <| .alt 0 true (.alt 3 true (.alt 5 true (.alt 6 true (.alt 7 true (.alt 8 false (.stop) (.stop)) (.stop)) (.alt 7 true (.alt 6 true (.alt 8 false (.stop) (.stop)) (.stop)) (.stop))) (.alt 7 true (.alt 5 true (.alt 6 true (.alt 8 false (.stop) (.stop)) (.stop)) (.stop)) (.stop))) (.alt 7 true (.alt 3 true (.alt 5 true (.alt 6 true (.alt 8 false (.stop) (.stop)) (.stop)) (.stop)) (.stop)) (.stop))) (.alt 7 true (.alt 0 true (.alt 3 true (.alt 5 true (.alt 6 true (.alt 8 false (.stop) (.stop)) (.stop)) (.stop)) (.stop)) (.stop)) (.stop))) (by kernel_rfl) fun K5 hK5 => ?_
  obtain ⟨S, hS⟩ : ∃ S, S = sumL (p ++ recB a) := ⟨_, rfl⟩
  have hSl : S.length = 32 := by rw [hS]; exact hsl
  have hSt : S.take 32 = S := List.take_of_length_le (by omega)
  have g : ∀ (L : Heap) (i : Nat), hget L i = some (.cells (u8s S) true 0) → K5 ⟨[(3, .v (.pointer (some ⟨0, 0, none⟩))), (4, .v (.pointer (some ⟨1, 0, none⟩))), (5, .v (.pointer (some ⟨2, 0, none⟩))), (7, .v (.bool true)), (8, .v (.pointer (some ⟨3, 0, none⟩))), (9, .v (.pointer (some ⟨4, 0, none⟩))), (10, .v (.pointer (some ⟨i + 5, 0, none⟩)))],
      some (.cells (u8s (p ++ q)) true 0) :: some (.cells a.cells true 0) :: some (.cells b.cells true 0) :: some (.cells (u8s (recB a)) true 0) :: some (.cells (u8s (recB b)) true 0) :: L⟩ := by
    intro L i hL
    refine hK5 _ ?_; clear hK5 K5
    have hnl : (nextL q b).length = 32 := sumL_length _
    refine cw_step T xs [3, 4, 5, 7, 10, 11] fun K6 hK6 => ?_
    have g2 : ∀ m : Bool, (m = true → p = q ∧ recB a = recB b) → K6 ⟨[(3, .v (.pointer (some ⟨0, 0, none⟩))), (4, .v (.pointer (some ⟨1, 0, none⟩))), (5, .v (.pointer (some ⟨2, 0, none⟩))), (7, .v (.bool true)), (10, .v (.pointer (some ⟨i + 5, 0, none⟩))), (11, .v (.bool m))],
        some (.cells (u8s (p ++ q)) true 0) :: some (.cells a.cells true 0) :: some (.cells b.cells true 0) :: some (.cells (u8s (recB a)) true 0) :: some (.cells (u8s (recB b)) true 0) :: L⟩ := by
      intro m hmm
      refine hK6 _ ?_; clear hK6 K6
      have hzl : (nextL zero32 a).length = 32 := sumL_length _
      have hzh : headL zero32 [a] = nextL zero32 a := rfl
      have hpn : nextL p a = S := by rw [hS]; rfl
      refine cw_draw T hm xs [6] (.soft 0 false <| .soft 1 false <| .soft 2 false <| .soft 3 true <| .soft 4 true <| .soft 6 true <| .alt 5 true (.soft 7 false <| .soft 8 false <| .soft 9 false <| .soft 10 false <| .soft 11 false <| .soft 12 false <| .soft 13 false <| .soft 14 true <| .soft 15 true <| .soft 17 true <| .alt 16 true (.soft 18 false <| .soft 19 false <| .soft 20 false <| .soft 21 false <| .soft 22 true <| .soft 25 false <| .soft 26 true <| .alt 23 true (.alt 24 true (.alt 27 true (.soft 28 false <| .soft 29 false <| .soft 30 false <| .stop) (.stop)) (.stop)) (.stop)) (.stop)) (.stop)) (by kernel_rfl) fun K7 hK7 => ?_
      cases m
      · clear hmm
        simp [hp, hq, hpt, hqt, List.take_append, List.drop_append, hat, hbt, hL, hSl, hSt]
        refine CallK.of (chain_Next_fn T hm p hp a _) ?_
        rintro _ _ ⟨rfl, rfl⟩
        simp [hL, hpn, flatEq_u8s, hSl, hSt, hat, zerosN_one]
        refine CallK.of (chain_Of_fn T hm [a] 1 (by decide) _ _ _ (recRow_one (by simp))) ?_
        rintro _ _ ⟨rfl, rfl⟩
        simp
        refine CallK.of (chain_Next_fn T hm zero32 rfl a _) ?_
        rintro _ _ ⟨rfl, rfl⟩
        simp [flatEq_u8s, hzl, hzh]
        refine hK7 _ ?_; clear hK7 K7
        exact cw_ret (hQ _ (.bool true) _ _ (resC_one (by simp)) (Ret.refl _ _ _) rfl).2
      · obtain ⟨rfl, hab⟩ := hmm rfl
        have hpn2 : nextL p b = S := by rw [hS, nextL, hab]
        simp [hp, hq, hpt, hqt, List.take_append, List.drop_append, hat, hbt, hL, hSl, hSt]
        refine CallK.of (chain_Next_fn T hm p hp a _) ?_
        rintro _ _ ⟨rfl, rfl⟩
        simp [hL, hp, hpn, hpt, hbt, flatEq_u8s, hSl, hSt, hat, List.drop_append]
        refine CallK.of (chain_Next_fn T hm p hp b _) ?_
        rintro _ _ ⟨rfl, rfl⟩
        simp [hL, hpn2, flatEq_u8s, hSl, hSt, hat, zerosN_one]
        refine CallK.of (chain_Of_fn T hm [a] 1 (by decide) _ _ _ (recRow_one (by simp))) ?_
        rintro _ _ ⟨rfl, rfl⟩
        simp
        refine CallK.of (chain_Next_fn T hm zero32 rfl a _) ?_
        rintro _ _ ⟨rfl, rfl⟩
        simp [flatEq_u8s, hzl, hzh]
        refine hK7 _ ?_; clear hK7 K7
        exact cw_ret (hQ _ (.bool true) _ _ (resC_one (by simp)) (Ret.refl _ _ _) rfl).2
    simp [hp, hq, hpt, hqt, List.take_append, List.drop_append, hrt, hrt2, flatEq_u8s]
    refine ⟨fun e => g2 _ (fun h => ⟨e, by simpa using h⟩), fun _ => g2 false (by simp)⟩
  clear hK5
  simp [hp, hq, hpt, List.take_append, List.drop_append, hrt]
  repeat' (with_reducible refine And.intro ?_ ?_)
  all_goals
    refine CallK.of (sha_Sum_l T hm (p ++ recB a) 42 hbl (by omega) _ _ OPEN (by simp [hp, hp42, hrt, List.take_append])) ?_
    rintro _ _ ⟨rfl, rfl⟩
    rw [← hS]
    simp [hSl, hSt]
    first | exact g _ 0 rfl | exact g _ 1 rfl | exact g _ 2 rfl | exact g _ 3 rfl | exact g _ 4 rfl
end Go.Proofs
