/-
  Walks by Sx; no condition beyond those that stand in each statement.
-/
import Derived.Test.YtfefdjomenfchaaSxsChainA
namespace Go.Proofs
open Go Go.Sx
set_option maxRecDepth 100000
attribute [local simp] xs setL_all
variable (T : TyOk Try.prog (tyOf Try.prog Try.eqs)) (hm : Try.prog.follows .mixedOrders = true)
/-- A row of records. -/
def RecRow (H : Heap) (a : Option Addr) (n : Nat) (l : List Rc) : Prop :=
  l.length = n ∧ ((a = none ∧ n = 0) ∨ ∃ i k cs o u, a = some ⟨i, k, none⟩ ∧ hget H i = some (.cells cs o u) ∧ k + 6 * n ≤ cs.length ∧ ∀ j (hj : j < l.length), (cs.drop (k + 6 * j)).take 6 = (l[j]).cells)
theorem RecRow.mono {H : Heap} {a : Option Addr} {n : Nat} {l : List Rc} (r : RecRow H a n l) (L : Heap) : RecRow (H ++ L) a n l := by
  obtain ⟨h1, h2⟩ := r
  refine ⟨h1, ?_⟩
  rcases h2 with h | ⟨i, k, cs, o, u, e, hc, h5, h6⟩
  · exact .inl h
  · exact .inr ⟨i, k, cs, o, u, e, hget_old hc L, h5, h6⟩
@[simp] theorem rc_length (r : Rc) : r.cells.length = 6 := Eq.trans rfl rfl
theorem headL_snoc (h : List UInt8) (l : List Rc) (r : Rc) : headL h (l ++ [r]) = nextL (headL h l) r := by simp [headL]
theorem rc_one1 (r : Rc) : r.cells.all one1 = true := rfl
attribute [local simp] rc_one1
include T hm
theorem chain_Of_fn (l : List Rc) (n : Nat) (hn9 : n ≤ 9223372036854775807) (H : Heap) (a : Option Addr) (c : Nat) (hr : RecRow H a n l) :
    Sx.Fn Try.prog 25 [.slice a n c] H fun v g => v = .agg (u8s (headL zero32 l)).toArray ∧ g = H := by
  refine fn_start T Try.func25 rfl (by kernel_rfl) Try.results25 Try.ntmps25 (by simp) ?_
  intro Q hQ
  simp only [argTm]
  refine cw_step T xs [0, 2] fun K1 hK1 => ?_
  simp
  refine hK1 _ ?_; clear hK1 K1
  refine cw_step T xs [0, 2, 3] fun K2 hK2 => ?_
  simp
  refine hK2 _ ?_; clear hK2 K2
  refine cw_seq fun K3 hK3 => ?_
  refine cw_step T xs [2, 3, 6, 7, 8] fun K4 hK4 => ?_
  simp
  refine hK4 _ ?_; clear hK4 K4
  refine cw_block ?_
  refine cw_while (fun m s => ∃ i L, m = n - i ∧ i ≤ n ∧ s = ⟨[(2, .v (.pointer (some ⟨H.length, 0, none⟩))), (3, .v (.pointer (some ⟨H.length + 1, 0, none⟩))), (6, .v (.slice a n c)), (7, .v (.int .i64 n)), (8, .v (.int .i64 i))], H ++ (some (.cells (u8s zero32) true 0) :: some (.cells (u8s (headL zero32 (l.take i))) true 0) :: L)⟩) n ⟨0, [], by omega, by omega, by rfl⟩ ?_
  rintro m s ⟨i, L, rfl, hi, rfl⟩
  refine cw_step T xs [2, 3, 6, 7, 8, 9] fun K5 hK5 => ?_
  simp
  refine hK5 _ ?_; clear hK5 K5
  refine cw_seq fun K6 hK6 => ?_
  refine cw_cond rfl (fun hc => ?_) (fun hc => ?_)
  · try simp at hc
    have hin : i < l.length := by rw [hr.1]; exact hc
    obtain ⟨hln, h2⟩ := hr
    rcases h2 with ⟨_, h0⟩ | ⟨bi, k, cs, o, u, rfl, hg, hk, hel⟩
    · omega
    have hei := hel i hin
    have hg' := hget_old hg (some (.cells (u8s zero32) true 0) :: some (.cells (u8s (headL zero32 (l.take i))) true 0) :: L)
    have hhl := headL_length (l.take i) zero32 (by rfl)
    have hht : (headL zero32 (l.take i)).take 32 = headL zero32 (l.take i) := List.take_of_length_le (by omega)
    refine cw_skip ?_
    refine hK6 _ ?_; clear hK6
    refine cw_seq fun K7 hK7 => ?_
    refine cw_block ?_
    have hm6 : i * 6 = 6 * i := by omega
    refine cw_step T xs [2, 3, 5, 6, 7, 8] fun K8 hK8 => ?_
    simp [hg', hm6, hei]
    refine ⟨by omega, by omega, fun j hj => List.all_eq_true.1 (rc_one1 l[i]) _ (List.getElem_mem _), ?_⟩
    refine hK8 _ ?_; clear hK8 K8
    refine cw_last T xs [2, 3, 6, 7, 8] fun K9 hK9 => ?_
    simp [hhl, hht]
    refine CallK.of (chain_Next_fn T hm (headL zero32 (l.take i)) hhl l[i] _) ?_
    rintro _ _ ⟨rfl, rfl⟩
    have hnl : (nextL (headL zero32 (l.take i)) l[i]).length = 32 := sumL_length _
    simp [hhl, hnl]
    refine hK9 _ ?_; clear hK9 K9
    refine hK7 _ ?_; clear hK7
    refine cw_last T xs [2, 3, 6, 7, 8] fun K10 hK10 => ?_
    simp
    refine ⟨by omega, ?_⟩
    refine hK10 _ ?_; clear hK10 K10
    refine round_end (n - (i + 1)) (by omega) ⟨i + 1, L ++ [some (.cells l[i].cells true 0)], rfl, by omega, ?_⟩ (by simp)
    rw [List.take_add_one, List.getElem?_eq_getElem hin, Option.toList_some, headL_snoc]
    rfl
  · try simp at hc
    refine cw_exit ?_
    refine hK3 _ ?_; clear hK3
    refine cw_step T xs [2] fun K11 hK11 => ?_
    have hil : l.take i = l := List.take_of_length_le (by have := hr.1; omega)
    have hhl := headL_length l zero32 (by rfl)
    have hht : (headL zero32 l).take 32 = headL zero32 l := List.take_of_length_le (by omega)
    simp [hil, hhl, hht, show zero32.length = 32 from rfl]
    refine hK11 _ ?_; clear hK11 K11
    exact cw_ret (hQ _ (.agg (u8s (headL zero32 l)).toArray) _ _ (resC_one (by simp [hhl, hht])) (Ret.plain (plain_u8s _)) ⟨rfl, rfl⟩).2
theorem law23_shown_fn (H : Heap) : Sx.Fn Try.prog 23 [] H fun r h => r = .bool true ∧ h = H :=
  fn_run T hm (n := 1000) (d := 10) noMore_ok rfl rfl (by kernel_rfl) H
end Go.Proofs
