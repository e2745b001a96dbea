/-
  Walks by Sx; no condition beyond those that stand in each statement.
-/
import Derived.Test.YtfjdbhgnnpmceaaSxuShaD
namespace Go.Proofs
open Go Go.Sx
set_option maxRecDepth 100000
def xm : Sx.Mode
  | .i64 => true
  | .i32 => true
  | .u64 => true
  | _ => false
attribute [local simp] xm
variable (T : TyOk Try.prog (tyOf Try.prog Try.eqs))
def putB (v n : Nat) (j : Nat) : UInt8 := UInt8.ofNat (v / 2 ^ (8 * (n - 1 - j)))
include T
theorem put_fn (v : Nat) (hv : v < 18446744073709551616) (n : Nat) (hn : n ≤ 8) (hb : n < 8 → v / 2 ^ (8 * n) = 0) (H : Heap) :
    Sx.Fn Try.prog 41 [.int .u64 v, .int .i64 n] H fun r h => r = .tuple #[.slice (some ⟨H.length, 0, none⟩) n n, .int .i64 0] ∧ h = H ++ [some (.cells (u8s ((List.range n).map (putB v n))) true 0)] := by
  refine fn_start T Try.func41 rfl (by kernel_rfl) Try.results41 Try.ntmps41 (by simp) ?_
  intro Q hQ
  simp only [argTm]
  refine cw_step T xm [0,1] fun K hK => ?_
  simp
  refine hK _ ?_; clear hK K
  refine cw_seq fun K hK => ?_
  refine cw_step T xm [0,1,24] fun K2 hK2 => ?_
  simp
  have e : (8 * (n : Int)).toNat = 8 * n := by omega
  have g : K2 ⟨[(0, .v (.int .u64 v)), (1, .v (.int .i64 n)), (24, .v (.bool false))], H⟩ := by
    refine hK2 _ ?_; clear hK2 K2
    refine cw_cond rfl (fun h => absurd h (by decide)) fun _ => ?_
    refine cw_skip ?_
    refine hK _ ?_; clear hK K
    refine cw_step T xm [0,1,6] fun K hK => ?_
    simp
    refine ⟨by omega, ?_⟩
    refine hK _ ?_; clear hK K
    refine cw_seq fun K hK => ?_
    refine cw_step T xm [0,1,6,27,28] fun K2 hK2 => ?_
    simp
    refine hK2 _ ?_; clear hK2 K2
    refine cw_block ?_
    refine cw_while (fun m s => ∃ i, m = n - i ∧ i ≤ n ∧ s = ⟨[(0, .v (.int .u64 v)), (1, .v (.int .i64 n)), (6, .v (.slice (some ⟨H.length, 0, none⟩) n n)), (27, .v (.int .i64 n)), (28, .v (.int .i64 i))], H ++ [some (.cells (u8s ((List.range i).map (putB v n) ++ List.replicate (n - i) 0)) true 0)]⟩) n ⟨0, by omega, by omega, by simp [zeros_u8]⟩ ?_
    rintro m s ⟨i, rfl, hi, rfl⟩
    refine cw_step T xm [0,1,6,27,28,29] fun K2 hK2 => ?_
    simp
    refine hK2 _ ?_; clear hK2 K2
    refine cw_seq fun K2 hK2 => ?_
    refine cw_cond rfl (fun h => cw_skip ?_) fun h => cw_exit ?_
    · have h : i < n := by simpa using h
      refine hK2 _ ?_; clear hK2 K2
      refine cw_seq fun K2 hK2 => ?_
      refine cw_block ?_
      refine cw_step T xm [0,1,6,27,28,7] fun K3 hK3 => ?_
      simp
      refine hK3 _ ?_; clear hK3 K3
      refine cw_last T xm [0,1,6,27,28] fun K3 hK3 => ?_
      simp
      refine ⟨by omega, by omega, by omega, by omega, by omega, by omega, ?_⟩
      refine hK3 _ ?_; clear hK3 K3
      refine hK2 _ ?_; clear hK2 K2
      refine cw_last T xm [0,1,6,27,28] fun K3 hK3 => ?_
      simp
      refine ⟨by omega, hK3 _ ?_⟩; clear hK3 K3
      refine round_end (n - (i + 1)) (by omega) ⟨i + 1, rfl, h, ?_⟩ (by simp)
      have e2 : ((v : Int) / 2 ^ (8 * ((n : Int) - 1 - i)).toNat) = ((v / 2 ^ (8 * (n - 1 - i)) : Nat) : Int) := by
        rw [show (8 * ((n : Int) - 1 - i)).toNat = 8 * (n - 1 - i) by omega]; simp
      rw [e2, u8s_put, ← front_step (putB v n) 0 n i h]
      rfl
    · have h : ¬ i < n := by simpa using h
      refine hK _ ?_; clear hK K hK2 K2
      have hi : i = n := by omega
      subst hi
      refine cw_step T xm [4, 5] fun K hK => ?_
      simp
      refine hK _ ?_; clear hK K
      refine cw_ret (hQ _ _ _ _ rfl (Ret.refl _ _ _) ⟨rfl, ?_⟩).2
      simp
  refine ⟨⟨fun _ => ⟨fun h => ⟨by omega, by omega, ?_⟩, fun h => g⟩, fun h => absurd h (by omega)⟩, fun h => absurd h (by omega)⟩
  have e3 : ((v : Int) / 2 ^ (8 * (n : Int)).toNat) = 0 := by rw [e]; have := hb (by omega); exact_mod_cast this
  simpa [e3] using g
end Go.Proofs
