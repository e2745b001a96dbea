/-
  Walks by Sx; no condition beyond those that stand in each statement.
-/
import Derived.Test.YtfefdjomenfchaaSxsMacB
import Derived.Test.YtfefdjomenfchaaSxsMacV
namespace Go.Proofs
open Go Go.Sx
set_option maxRecDepth 100000
attribute [local simp] xs setL_all u8_xor u8_or
variable (T : TyOk Try.prog (tyOf Try.prog Try.eqs)) (hm : Try.prog.follows .mixedOrders = true)
theorem fill_k : fillC (aplace 1) (zerosN [Value.int IntKind.u8 0] 4) [(0, Value.int IntKind.u8 74), (1, Value.int IntKind.u8 101), (2, Value.int IntKind.u8 102), (3, Value.int IntKind.u8 101)] = some (u8s keyJ) := by rfl
theorem fill_t : fillC (aplace 1) (zerosN [Value.int IntKind.u8 0] 28) [(0, Value.int IntKind.u8 119), (1, Value.int IntKind.u8 104), (2, Value.int IntKind.u8 97), (3, Value.int IntKind.u8 116), (4, Value.int IntKind.u8 32), (5, Value.int IntKind.u8 100), (6, Value.int IntKind.u8 111), (7, Value.int IntKind.u8 32), (8, Value.int IntKind.u8 121), (9, Value.int IntKind.u8 97), (10, Value.int IntKind.u8 32), (11, Value.int IntKind.u8 119), (12, Value.int IntKind.u8 97), (13, Value.int IntKind.u8 110), (14, Value.int IntKind.u8 116), (15, Value.int IntKind.u8 32), (16, Value.int IntKind.u8 102), (17, Value.int IntKind.u8 111), (18, Value.int IntKind.u8 114), (19, Value.int IntKind.u8 32), (20, Value.int IntKind.u8 110), (21, Value.int IntKind.u8 111), (22, Value.int IntKind.u8 116), (23, Value.int IntKind.u8 104), (24, Value.int IntKind.u8 105), (25, Value.int IntKind.u8 110), (26, Value.int IntKind.u8 103), (27, Value.int IntKind.u8 63)] = some (u8s textJ) := by rfl
theorem keyJ_len : keyJ.length = 4 := rfl
theorem textJ_len : textJ.length = 28 := rfl
attribute [local simp high] fill_k fill_t
attribute [local simp] keyJ_len textJ_len
include T hm
theorem law05_shown_fn0 : Sx.Fn Try.prog 29 [] [] fun r _ => r = .bool true := by
  refine fn_start T Try.func29 rfl (by kernel_rfl) Try.results29 Try.ntmps29 (by simp) ?_
  intro Q hQ
  simp only [argTm]
  refine cw_step T xs [] fun K1 hK1 => ?_
  simp
  refine hK1 _ ?_; clear hK1 K1
  obtain ⟨kj, tj, S, hkj, htj, hS, hSl, h4⟩ := ex_all
  have hkl : kj.length = 4 := by rw [hkj]; rfl
  have htl : tj.length = 28 := by rw [htj]; rfl
  have hSt : S.take 32 = S := List.take_of_length_le (by omega)
  obtain ⟨S', e0⟩ := four_of h4
  have i0 : S[0]'(by omega) = 91 := by simp [e0]
  have i1 : S[1]'(by omega) = 220 := by simp [e0]
  have i2 : S[2]'(by omega) = 193 := by simp [e0]
  have i3 : S[3]'(by omega) = 70 := by simp [e0]
  refine cw_step T xs [1] fun K2 hK2 => ?_
  simp
  rw [← hkj, ← htj]
  have hkt : kj.take 4 = kj := List.take_of_length_le (by omega)
  have htt : tj.take 28 = tj := List.take_of_length_le (by omega)
  refine CallK.of (mac_Of_fn T hm kj 4 hkl (by omega) tj 28 htl (by omega) _ _ _ (by simp [hkl, hkt]) _ _ (by simp [htl, htt])) ?_
  rintro _ _ ⟨rfl, rfl⟩
  rw [← hS]
  simp [hSl]
  refine hK2 _ ?_; clear hK2 K2
  refine cw_draw T hm xs [0] (.soft 0 false <| .soft 1 true <| .soft 2 false <| .soft 3 false <| .soft 4 false <| .soft 5 true <| .soft 6 false <| .soft 7 false <| .soft 8 false <| .soft 9 false <| .soft 10 true <| .soft 11 false <| .soft 12 false <| .soft 13 false <| .soft 14 false <| .soft 15 true <| .soft 16 false <| .soft 17 false <| .soft 18 false <| .soft 19 true <| .soft 20 true <| .alt 21 true (.soft 22 false <| .soft 23 false <| .stop) (.stop)) (by kernel_rfl) fun K3 hK3 => ?_
  simp [hSl, i0, i1, i2, i3]
  refine CallK.of (mac_Same_fn T hm S 32 hSl (by omega) S 32 hSl (by omega) _ _ 32 (by simp [hSl, hSt]) _ 32 (by simp [hSl, hSt])) ?_
  rintro _ _ ⟨rfl, rfl⟩
  simp
  refine hK3 _ ?_; clear hK3 K3
  exact cw_ret (hQ _ (.bool true) _ _ (resC_one (by simp)) (Ret.refl _ _ _) rfl).2
theorem law05_shown_fn (H : Heap) : Sx.Fn Try.prog 29 [] H fun r h => r = .bool true ∧ h = H :=
  fn_plain rfl rfl (law05_shown_fn0 T hm) (fun _ _ h => h) H
end Go.Proofs
