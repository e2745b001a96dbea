/-
  Walks by Sx; no condition beyond those that stand in each statement.
-/
import Derived.Test.YtfefdjomenfchaaSxsSumV
namespace Go.Proofs
open Go Go.Sx
set_option maxRecDepth 100000
attribute [local simp] xs setL_all
variable (T : TyOk Try.prog (tyOf Try.prog Try.eqs)) (hm : Try.prog.follows .mixedOrders = true)
theorem four_of {l : List UInt8} {a b c d : UInt8} (h : l.take 4 = [a, b, c, d]) : ∃ m, l = a :: b :: c :: d :: m := by
  refine ⟨l.drop 4, ?_⟩
  have := List.take_append_drop 4 l
  rw [h] at this
  exact this.symm
theorem zerosN_s (l : List Value) (n : Nat) : zerosN l (n + 1) = l ++ zerosN l n := rfl
include T hm
theorem law04_shown_fn0 : Sx.Fn Try.prog 13 [] [] fun r _ => r = .bool true := by
  refine fn_start T Try.func13 rfl (by kernel_rfl) Try.results13 Try.ntmps13 (by simp) ?_
  intro Q hQ
  simp only [argTm]
  refine cw_step T xs [] fun K1 hK1 => ?_
  simp
  refine hK1 _ ?_; clear hK1 K1
  obtain ⟨S, hS⟩ : ∃ S, S = sumL [] := ⟨_, rfl⟩
  have hSl : S.length = 32 := by rw [hS]; exact sumL_length _
  obtain ⟨S', e0⟩ := four_of (show S.take 4 = [227, 176, 196, 66] by rw [hS]; exact sum_nil)
  obtain ⟨V, hV⟩ : ∃ V, V = sumL [97, 98, 99] := ⟨_, rfl⟩
  have hVl : V.length = 32 := by rw [hV]; exact sumL_length _
  obtain ⟨V', e1⟩ := four_of (show V.take 4 = [186, 120, 22, 191] by rw [hV]; exact sum_abc)
  refine cw_step T xs [1] fun K2 hK2 => ?_
  simp
  refine CallK.of (sha_Sum_l T hm [] 0 rfl (by omega) _ _ _ rfl) ?_
  rintro _ _ ⟨rfl, rfl⟩
  rw [← hS]
  simp [hSl]
  refine hK2 _ ?_; clear hK2 K2
  refine cw_step T xs [1, 2] fun K3 hK3 => ?_
  simp [zerosN_s]
  refine CallK.of (sha_Sum_l T hm [97, 98, 99] 3 rfl (by omega) _ _ _ (by simp [u8s])) ?_
  rintro _ _ ⟨rfl, rfl⟩
  rw [← hV]
  simp [hVl]
  refine hK3 _ ?_; clear hK3 K3
  have i0 : S[0]'(by omega) = 227 := by simp [e0]
  have i1 : S[1]'(by omega) = 176 := by simp [e0]
  have i2 : S[2]'(by omega) = 196 := by simp [e0]
  have i3 : S[3]'(by omega) = 66 := by simp [e0]
  have j0 : V[0]'(by omega) = 186 := by simp [e1]
  have j1 : V[1]'(by omega) = 120 := by simp [e1]
  have j2 : V[2]'(by omega) = 22 := by simp [e1]
  have j3 : V[3]'(by omega) = 191 := by simp [e1]
  refine cw_step T xs [0] fun K4 hK4 => ?_
  simp [hSl, hVl, i0, i1, i2, i3, j0, j1, j2, j3]
  refine hK4 _ ?_; clear hK4 K4
  exact cw_ret (hQ _ (.bool true) _ _ (resC_one (by simp)) (Ret.refl _ _ _) rfl).2
theorem law04_shown_fn (H : Heap) : Sx.Fn Try.prog 13 [] H fun r h => r = .bool true ∧ h = H :=
  fn_plain rfl rfl (law04_shown_fn0 T hm) (fun _ _ h => h) H
omit hm in
theorem law04_few_fn (a : Option Addr) (n c : Nat) (l : List Value) (H : Heap) (hr : Row H a n c l) :
    Sx.Fn Try.prog 14 [.slice a n c] H fun r h => (r = .slice a (min n 300) c) ∧ h = H := by
  refine fn_start T Try.func14 rfl (by kernel_rfl) Try.results14 Try.ntmps14 (by simp) ?_
  intro Q hQ
  simp only [argTm]
  refine cw_step T xs [0] fun K1 hK1 => ?_
  simp
  refine hK1 _ ?_; clear hK1 K1
  obtain ⟨h1, hco, hnc, h2⟩ := hr
  rcases h2 with ⟨rfl, rfl, rfl⟩ | ⟨i, k, cs, o, u, rfl, hc, h5, h6⟩
  · refine cw_step T xs [2] fun K2 hK2 => ?_
    simp
    refine hK2 _ ?_; clear hK2 K2
    exact cw_ret (hQ _ (.slice none (min 0 300) 0) _ _ (resC_one (by simp)) (Ret.refl _ _ _) ⟨rfl, rfl⟩).2
  · refine cw_step T xs [2] fun K2 hK2 => ?_
    have hmn : (if (300 : Int) < (n : Int) then (300 : Int) else (n : Int)) = ((min n 300 : Nat) : Int) := by split <;> omega
    simp [hco, hmn]
    refine ⟨by omega, ?_⟩
    refine hK2 _ ?_; clear hK2 K2
    exact cw_ret (hQ _ (.slice (some ⟨i, k, none⟩) (min n 300) c) _ _ (resC_one (by simp)) (Ret.refl _ _ _) ⟨rfl, rfl⟩).2
end Go.Proofs
