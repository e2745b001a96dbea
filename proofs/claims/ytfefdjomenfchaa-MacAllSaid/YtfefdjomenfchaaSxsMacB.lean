/-
  Walks by Sx; no condition beyond those that stand in each statement.
-/
import Derived.Test.YtfefdjomenfchaaSxsMacA
namespace Go.Proofs
open Go Go.Sx
set_option maxRecDepth 100000
attribute [local simp] xs setL_all u8_xor u8_or
variable (T : TyOk Try.prog (tyOf Try.prog Try.eqs)) (hm : Try.prog.follows .mixedOrders = true)
def unl (a b : List UInt8) : Nat → UInt8
  | 0 => 0
  | i + 1 => ob (unl a b i) (xb (ix a i) (ix b i))
theorem ob_zero (x y : UInt8) : ob x y = 0 ↔ x = 0 ∧ y = 0 := by
  unfold ob
  constructor
  · intro h
    have := congrArg UInt8.toNat h
    rw [UInt8.toNat_or] at this
    have h2 := Nat.or_eq_zero_iff.1 this
    exact ⟨UInt8.toNat_inj.1 h2.1, UInt8.toNat_inj.1 h2.2⟩
  · rintro ⟨rfl, rfl⟩; rfl
theorem xb_zero (x y : UInt8) : xb x y = 0 ↔ x = y := by
  unfold xb
  constructor
  · intro h
    have e : y = x ^^^ (x ^^^ y) := by rw [← UInt8.xor_assoc, UInt8.xor_self, UInt8.zero_xor]
    rw [h] at e
    simpa using e.symm
  · rintro rfl; simp
theorem unl_zero (a b : List UInt8) : ∀ n, unl a b n = 0 ↔ ∀ i, i < n → ix a i = ix b i
  | 0 => by simp [unl]
  | n + 1 => by
    rw [unl, ob_zero, xb_zero, unl_zero a b n]
    constructor
    · rintro ⟨h1, h2⟩ i hi
      rcases Nat.lt_succ_iff_lt_or_eq.1 hi with h | rfl
      · exact h1 i h
      · exact h2
    · intro h
      exact ⟨fun i hi => h i (by omega), h n (by omega)⟩
theorem unl_eq (a b : List UInt8) (h : a.length = b.length) : decide (unl a b a.length = 0) = (a == b) := by
  rw [Bool.eq_iff_iff]
  simp only [decide_eq_true_eq, beq_iff_eq, unl_zero]
  constructor
  · intro q
    apply List.ext_getElem h
    intro i h1 h2
    have := q i h1
    rwa [ix_eq h1, ix_eq h2] at this
  · rintro rfl i _; rfl
theorem row_at {H : Heap} {a : Option Addr} {n c : Nat} {b : List UInt8} (hr : rowOf 1 H (.slice a n c) = some (u8s b)) (hn : b.length = n) {i : Nat} (hi : i < n) :
    ∃ bi k cs o u, a = some ⟨bi, k, none⟩ ∧ hget H bi = some (.cells cs o u) ∧ k + n ≤ cs.length ∧ ∀ j, j < n → cs[k + j]? = some (.int .u8 (ix b j).toNat) := by
  match a, hr with
  | none, hr =>
    cases b with
    | nil => simp at hn; omega
    | cons x r => simp [u8s] at hr
  | some ⟨bi, k, some _⟩, hr => exact absurd hr (by simp [rowOf])
  | some ⟨bi, k, none⟩, hr =>
    simp only [rowOf_some, Nat.mul_one] at hr
    cases hg : cellsAt H bi with
    | none => rw [hg] at hr; simp at hr
    | some cs =>
      rw [hg] at hr
      simp only [Option.bind_some, slc, Option.ite_none_right_eq_some, Option.some.injEq] at hr
      obtain ⟨h1, h2⟩ := hr
      unfold Sx.cellsAt at hg
      split at hg
      · rename_i cs' o u hgg
        simp only [Option.some.injEq] at hg
        subst hg
        refine ⟨bi, k, _, o, u, rfl, hgg, h1, fun j hj => ?_⟩
        have e : cs'[k + j]? = ((cs'.drop k).take n)[j]? := by rw [List.getElem?_take_of_lt hj, List.getElem?_drop]
        rw [e, h2]
        simp only [u8s, List.getElem?_map]
        rw [List.getElem?_eq_getElem (by omega), ix_eq (by omega)]
        rfl
      · simp only [Option.some.injEq] at hg
        subst hg
        simp at h1
        omega
      · simp at hg
include T hm
theorem mac_Same_fn (x : List UInt8) (n : Nat) (hn : x.length = n) (hnb : n ≤ 1073741824) (y : List UInt8) (m : Nat) (hmy : y.length = m) (hmb : m ≤ 1073741824) (H : Heap) (a : Option Addr) (c : Nat) (hr : rowOf 1 H (.slice a n c) = some (u8s x)) (b : Option Addr) (d : Nat) (hs : rowOf 1 H (.slice b m d) = some (u8s y)) :
    Sx.Fn Try.prog 35 [.slice a n c, .slice b m d] H fun r h => r = .bool (x == y) ∧ h = H := by
  refine fn_start T Try.func35 rfl (by kernel_rfl) Try.results35 Try.ntmps35 (by simp) ?_
  intro Q hQ
  simp only [argTm]
  refine cw_step T xs [0, 1] fun K1 hK1 => ?_
  simp
  refine hK1 _ ?_; clear hK1 K1
  refine cw_seq fun K2 hK2 => ?_
  refine cw_step T xs [0, 1, 11] fun K3 hK3 => ?_
  simp
  refine hK3 _ ?_; clear hK3 K3
  refine cw_cond rfl (fun hc => ?_) (fun hc => ?_)
  · try simp at hc
    have hxy : (x == y) = false := by
      rw [Bool.eq_false_iff]
      intro h
      have := congrArg List.length (eq_of_beq h)
      omega
    rw [hxy] at hQ
    refine cw_step T xs [4] fun K4 hK4 => ?_
    simp
    refine hK4 _ ?_; clear hK4 K4
    exact cw_ret (hQ _ (.bool false) _ _ (resC_one (by simp)) (Ret.refl _ _ _) ⟨rfl, rfl⟩).2
  · try simp at hc
    have hnm : n = m := by omega
    subst hnm
    refine cw_skip ?_
    refine hK2 _ ?_; clear hK2
    refine cw_step T xs [0, 1, 5] fun K5 hK5 => ?_
    simp
    refine hK5 _ ?_; clear hK5 K5
    refine cw_seq fun K6 hK6 => ?_
    refine cw_step T xs [0, 1, 5, 13, 14] fun K7 hK7 => ?_
    simp
    refine hK7 _ ?_; clear hK7 K7
    refine cw_block ?_
    refine cw_while (fun w s => ∃ i, w = n - i ∧ i ≤ n ∧ s = ⟨[(0, .v (.slice a n c)), (1, .v (.slice b n d)), (5, .v (.int .u8 (unl x y i).toNat)), (13, .v (.int .i64 n)), (14, .v (.int .i64 i))], H⟩) n ⟨0, by omega, by omega, by rfl⟩ ?_
    rintro w s ⟨i, rfl, hi, rfl⟩
    refine cw_step T xs [0, 1, 5, 13, 14, 15] fun K8 hK8 => ?_
    simp
    refine hK8 _ ?_; clear hK8 K8
    refine cw_seq fun K9 hK9 => ?_
    refine cw_cond rfl (fun hc => ?_) (fun hc => ?_)
    · try simp at hc
      obtain ⟨bi, kk, cs, o, u, rfl, hg, hle, hat⟩ := row_at hr hn (i := i) (by omega)
      obtain ⟨bi', kk', cs', o', u', rfl, hg', hle', hat'⟩ := row_at hs hmy (i := i) (by omega)
      have h1 := hat i (by omega)
      have h2 := hat' i (by omega)
      refine cw_skip ?_
      refine hK9 _ ?_; clear hK9
      refine cw_seq fun K10 hK10 => ?_
      refine cw_block ?_
      refine cw_step T xs [0, 1, 5, 6, 13, 14] fun K11 hK11 => ?_
      simp
      refine hK11 _ ?_; clear hK11 K11
      refine cw_drawl T hm xs [0, 1, 5, 13, 14] (.soft 0 false <| .soft 1 false <| .soft 2 false <| .soft 3 false <| .soft 4 true <| .soft 5 false <| .soft 6 false <| .soft 7 false <| .soft 8 true <| .soft 9 false <| .soft 10 false <| .soft 11 false <| .stop) (by kernel_rfl) fun K12 hK12 => ?_
      simp [hg, hg', h1, h2]
      refine ⟨by omega, ?_⟩
      refine hK12 _ ?_; clear hK12 K12
      refine hK10 _ ?_; clear hK10
      refine cw_last T xs [0, 1, 5, 13, 14] fun K13 hK13 => ?_
      simp
      refine ⟨by omega, ?_⟩
      refine hK13 _ ?_; clear hK13 K13
      refine round_end (n - (i + 1)) (by omega) ⟨i + 1, rfl, by omega, ?_⟩ (by simp)
      rfl
    · try simp at hc
      refine cw_exit ?_
      refine hK6 _ ?_; clear hK6
      refine cw_step T xs [4] fun K14 hK14 => ?_
      simp
      have hin : i = n := by omega
      subst hin
      have he : decide ((unl x y i).toNat = 0) = (x == y) := by
        rw [← unl_eq x y (by omega), hn]
        congr 1
        apply propext
        constructor
        · intro h; exact UInt8.toNat_inj.1 h
        · intro h; rw [h]; rfl
      rw [he]
      refine hK14 _ ?_; clear hK14 K14
      exact cw_ret (hQ _ (.bool (x == y)) _ _ (resC_one (by simp)) (Ret.refl _ _ _) ⟨rfl, rfl⟩).2
theorem mac_Tag_fn (k : List UInt8) (n : Nat) (hn : k.length = n) (hnb : n ≤ 1073741824) (b : List UInt8) (m : Nat) (hm' : b.length = m) (hmb : m ≤ 1073741824) (H : Heap) (a : Option Addr) (c : Nat) (hr : rowOf 1 H (.slice a n c) = some (u8s k)) (a2 : Option Addr) (d : Nat) (hs : rowOf 1 H (.slice a2 m d) = some (u8s b)) :
    Sx.Fn Try.prog 33 [.slice a n c, .slice a2 m d] H fun r h => r = .agg (u8s ((macL k b).take 8)).toArray ∧ h = H := by
  refine fn_start T Try.func33 rfl (by kernel_rfl) Try.results33 Try.ntmps33 (by simp) ?_
  intro Q hQ
  simp only [argTm]
  refine cw_step T xs [0, 1, 4] fun K1 hK1 => ?_
  simp
  refine hK1 _ ?_; clear hK1 K1
  have hMl := macL_length k b
  have hMt : (macL k b).take 32 = macL k b := List.take_of_length_le (by omega)
  refine cw_step T xs [4, 5] fun K2 hK2 => ?_
  simp
  refine CallK.of (mac_Of_fn T hm k n hn hnb b m hm' hmb _ a c (Agree.rowOf (fun _ _ q => hget_old q _) hr) a2 d (Agree.rowOf (fun _ _ q => hget_old q _) hs)) ?_
  rintro _ _ ⟨rfl, rfl⟩
  simp [hMl]
  refine hK2 _ ?_; clear hK2 K2
  refine cw_step T xs [4] fun K3 hK3 => ?_
  simp [hMl]
  refine hK3 _ ?_; clear hK3 K3
  exact cw_ret (hQ _ (.agg (u8s ((macL k b).take 8)).toArray) _ _ (resC_one (by simp [hMl, List.take_take])) (Ret.plain (plain_u8s _)) ⟨rfl, rfl⟩).2
omit hm in
theorem law05_few_fn (a : Option Addr) (n c : Nat) (l : List Value) (H : Heap) (hr : Row H a n c l) :
    Sx.Fn Try.prog 30 [.slice a n c] H fun r h => (r = .slice a (min n 150) c) ∧ h = H := by
  refine fn_start T Try.func30 rfl (by kernel_rfl) Try.results30 Try.ntmps30 (by simp) ?_
  intro Q hQ
  simp only [argTm]
  refine cw_step T xs [0] fun K1 hK1 => ?_
  simp
  refine hK1 _ ?_; clear hK1 K1
  obtain ⟨h1, hco, hnc, h2⟩ := hr
  rcases h2 with ⟨rfl, rfl, rfl⟩ | ⟨i, k, cs, o, u, rfl, hc, h5, h6⟩
  · refine cw_step T xs [2] fun K2 hK2 => ?_
    simp
    refine hK2 _ ?_; clear hK2 K2
    exact cw_ret (hQ _ (.slice none (min 0 150) 0) _ _ (resC_one (by simp)) (Ret.refl _ _ _) ⟨rfl, rfl⟩).2
  · refine cw_step T xs [2] fun K2 hK2 => ?_
    have hmn : (if (150 : Int) < (n : Int) then (150 : Int) else (n : Int)) = ((min n 150 : Nat) : Int) := by split <;> omega
    simp [hco, hmn]
    refine ⟨by omega, ?_⟩
    refine hK2 _ ?_; clear hK2 K2
    exact cw_ret (hQ _ (.slice (some ⟨i, k, none⟩) (min n 150) c) _ _ (resC_one (by simp)) (Ret.refl _ _ _) ⟨rfl, rfl⟩).2
end Go.Proofs
