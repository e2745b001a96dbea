/-
  Walks by Sx; no condition beyond those that stand in each statement.
-/
import Derived.Test.YtnbmjpcnjjpcpaaSxtPack
import Derived.Test.YtnbmjpcnjjpcpaaSxT
namespace Go.Proofs
open Go Go.Sx
set_option maxRecDepth 100000
attribute [local simp] xm
variable (T : TyOk Try.prog (tyOf Try.prog Try.eqs))
/-- A number's bytes give the number back. -/
theorem takeN_putB : ∀ (n v : Nat), v < 2 ^ (8 * n) → takeN ((List.range n).map (putB v n)) = v := by
  intro n
  induction n with
  | zero => intro v h; simp [takeN] at *; omega
  | succ n ih =>
    intro v h
    rw [List.range_succ, List.map_append, List.map_singleton, takeN_snoc]
    have e : (List.range n).map (putB v (n + 1)) = (List.range n).map (putB (v / 256) n) := by
      apply List.map_congr_left
      intro j hj
      have hj : j < n := by simpa using hj
      unfold putB
      have : 2 ^ (8 * (n + 1 - 1 - j)) = 256 * 2 ^ (8 * (n - 1 - j)) := by
        rw [show n + 1 - 1 - j = (n - 1 - j) + 1 by omega, Nat.mul_add, Nat.pow_add]; simp [Nat.mul_comm]
      rw [this, ← Nat.div_div_eq_div_mul]
    have hlt : v / 256 < 2 ^ (8 * n) := by
      rw [Nat.div_lt_iff_lt_mul (by decide)]
      rw [Nat.mul_add, Nat.pow_add] at h
      simpa using h
    rw [e, ih _ hlt]
    have : (putB v (n + 1) n).toNat = v % 256 := by
      unfold putB
      simp
    rw [this]
    omega
theorem putB_tail (v n : Nat) : ((List.range (n + 1)).map (putB v (n + 1))).drop 1 = (List.range n).map (putB v n) := by
  rw [← List.map_drop]
  apply List.ext_getElem
  · simp
  · intro j h1 h2
    simp only [List.getElem_drop, List.getElem_map, List.getElem_range, putB]
    rw [show n + 1 - 1 - (1 + j) = n - 1 - j by omega]
theorem and_mask (a b : Nat) (ha : a < 18446744073709551616) (hb : b < 64) : Go.bits .and .u64 (a : Int) ((2 : Int) ^ b - 1) = ((a % 2 ^ b : Nat) : Int) := by
  have h2 : 2 ^ b ≤ 2 ^ 63 := Nat.pow_le_pow_right (by decide) (by omega)
  have e : ((2 : Int) ^ b - 1) = ((2 ^ b - 1 : Nat) : Int) := by
    have : 1 ≤ 2 ^ b := Nat.one_le_two_pow
    rw [Int.natCast_sub this]
    simp
  rw [e, bits_and_u64_nat _ _ ha (by omega), Nat.and_two_pow_sub_one_eq_mod]
theorem row_own (H : Heap) (l : List UInt8) (n : Nat) (hl : l.length = n) (hn : n ≤ 8) : Row (H ++ [some (.cells (u8s l) true 0)]) (some ⟨H.length, 0, none⟩) n n (u8s l) :=
  ⟨by simp [hl], by unfold OPEN; omega, Nat.le_refl _, .inr ⟨H.length, 0, u8s l, true, 0, rfl, by simp, by simp [hl], by rw [List.drop_zero]; exact List.take_of_length_le (by simp [hl])⟩⟩
include T
theorem take_fn' (bs : List UInt8) (n : Nat) (hl : bs.length = n) (hn : n ≤ 8) (H : Heap) (a : Option Addr) (c : Nat) (hr : Row H a n c (u8s bs)) :
    Sx.Fn Try.prog 15 [.slice a n c] H fun r h => r = .tuple #[.int .u64 (takeN bs), .int .i64 0] ∧ h = H := by
  subst hl; exact take_fn T bs hn H a c hr
theorem shown_fn (hm : Try.prog.follows .mixedOrders = true) (H : Heap) : Sx.Fn Try.prog 12 [] H fun r h => r = .bool true ∧ h = H :=
  fn_run T hm (n := 1000) (d := 10) noMore_ok rfl rfl (by kernel_rfl) H
theorem packBack_fn (hm : Try.prog.follows .mixedOrders = true) (v m : Nat) (hv : v < 18446744073709551616) (hmm : m < 256) : Sx.Fn Try.prog 7 [.int .u64 v, .int .u8 m] [] fun r _ => r = .bool true := by
  refine fn_start T Try.func7 rfl (by kernel_rfl) Try.results7 Try.ntmps7 (by simp) ?_
  intro Q hQ
  simp only [argTm]
  refine cw_step T xm [0,1] fun K hK => ?_
  simp
  refine hK _ ?_; clear hK K
  refine cw_step T xm [0,1,5] fun K hK => ?_
  simp
  refine CallK.of (shown_fn T hm _) ?_
  rintro _ h ⟨rfl, rfl⟩
  simp
  refine hK _ ?_; clear hK K
  refine cw_step T xm [0,1,5,6] fun K hK => ?_
  simp
  refine ⟨by omega, hK _ ?_⟩; clear hK K
  obtain ⟨k, hk, hk9⟩ : ∃ k : Nat, ((m : Int) % 9) = k ∧ k < 9 := ⟨m % 9, by omega, by omega⟩
  rw [hk]
  clear hk hmm
  refine cw_step T xm [0,5,6,7] fun K hK => ?_
  simp
  refine hK _ ?_; clear hK K
  refine cw_join fun K hK hW => ?_
  refine cw_step T xm [0,5,6,7,20] fun K2 hK2 => ?_
  simp
  refine hK2 _ ?_; clear hK2 K2
  -- the number that fits
  obtain ⟨x, hx, hxd⟩ : ∃ x : Nat, x < 18446744073709551616 ∧ x = if k < 8 then v % 2 ^ (8 * k) else v := by
    refine ⟨if k < 8 then v % 2 ^ (8 * k) else v, ?_, rfl⟩
    split
    · exact Nat.lt_of_le_of_lt (Nat.mod_le _ _) hv
    · exact hv
  have hfit : x < 2 ^ (8 * k) := by
    rw [hxd]
    split
    · exact Nat.mod_lt _ (Nat.two_pow_pos _)
    · have : k = 8 := by omega
      subst this; exact hv
  have g : K ⟨[(5, .v (.bool true)), (6, .v (.int .i64 k)), (7, .v (.int .u64 x))], []⟩ := by
    clear hW
    refine hK _ ?_; clear hK K hxd
    have hb : k < 8 → x / 2 ^ (8 * k) = 0 := fun _ => Nat.div_eq_of_lt hfit
    refine cw_step T xm [5, 6, 7, 8, 9] fun K8 hK8 => ?_
    simp
    refine CallK.of (put_fn T x hx k (by omega) hb _) ?_
    rintro _ _ ⟨rfl, rfl⟩
    simp
    refine hK8 _ ?_; clear hK8 K8
    refine cw_step T xm [5, 6, 7, 8, 9, 10, 11] fun K9 hK9 => ?_
    simp
    refine CallK.of (take_fn' T ((List.range k).map (putB x k)) k (by simp) (by omega) _ _ _ (row_own [] _ k (by simp) (by omega))) ?_
    rintro _ _ ⟨rfl, rfl⟩
    simp [takeN_putB _ _ hfit]
    refine hK9 _ ?_; clear hK9 K9
    refine cw_seq fun K10 hK10 => ?_
    refine cw_step T xm [6, 7, 8, 58] fun K11 hK11 => ?_
    simp
    refine hK11 _ ?_; clear hK11 K11
    refine cw_cond rfl (fun hc => absurd hc (by simp)) (fun hc => ?_)
    refine cw_skip ?_
    refine hK10 _ ?_; clear hK10 K10
    refine cw_seq fun K13 hK13 => ?_
    refine cw_step T xm [6, 7, 8, 60] fun K14 hK14 => ?_
    simp
    refine hK14 _ ?_; clear hK14 K14
    refine cw_cond rfl (fun hc => ?_) (fun hc => ?_)
    · refine cw_step T xm [4] fun K15 hK15 => ?_
      simp
      refine hK15 _ ?_; clear hK15 K15
      exact cw_ret (hQ _ _ _ _ rfl (Ret.refl _ _ _) rfl).2
    · have hk0 : 0 < k := by simp at hc; omega
      obtain ⟨j, rfl⟩ : ∃ j, k = j + 1 := ⟨k - 1, by omega⟩
      have hj : ((j : Int) + 1 - 1) = j := by omega
      have hq : x / 2 ^ (8 * j) < 256 := by
        rw [Nat.div_lt_iff_lt_mul (Nat.two_pow_pos _)]
        rw [Nat.mul_add, Nat.pow_add] at hfit
        omega
      have h0 : (putB x (j + 1) 0).toNat = x / 2 ^ (8 * j) := by simp [putB]; omega
      refine cw_skip ?_
      refine hK13 _ ?_; clear hK13 K13
      refine cw_step T xm [8, 12, 13] fun K16 hK16 => ?_
      simp [hj]
      refine ⟨by omega, ?_⟩
      by_cases hz : x / 2 ^ (8 * j) = 0
      · refine CallK.of (put_fn T x hx j (by omega) (fun _ => hz) _) ?_
        rintro _ _ ⟨rfl, rfl⟩
        simp
        refine hK16 _ ?_; clear hK16 K16
        refine cw_seq fun K17 hK17 => ?_
        refine cw_step T xm [8, 12, 13, 71] fun K18 hK18 => ?_
        simp [h0, hz]
        refine hK18 _ ?_; clear hK18 K18
        refine cw_cond rfl (fun hc => absurd hc (by simp)) (fun hc => ?_)
        refine cw_skip ?_
        refine hK17 _ ?_; clear hK17 K17
        refine cw_draw T hm xm [4] (.soft 0 false <| .soft 1 false <| .soft 2 false <| .soft 3 false <| .soft 4 true <| .soft 5 false <| .soft 6 true <| .soft 7 true <| .soft 8 false <| .soft 9 false <| .soft 10 false <| .stop) (by kernel_rfl) fun K20 hK20 => ?_
        have e1 : List.take j (List.map (putB x j) (List.range j)) = List.map (putB x j) (List.range j) := List.take_of_length_le (by simp)
        have e2 : List.take j (List.drop 1 (List.map (putB x (j+1)) (List.range (j+1)))) = List.map (putB x j) (List.range j) := by rw [putB_tail]; exact e1
        have ho : ¬ (j + 1 = OPEN) := by unfold OPEN; omega
        have ho2 : ¬ (j = OPEN) := by unfold OPEN; omega
        have e3 : List.take j (List.drop (if j = 0 then 0 else 1) (List.map (putB x (j+1)) (List.range (j+1)))) = List.map (putB x j) (List.range j) := by
          by_cases hj0 : j = 0
          · subst hj0; rfl
          · rw [if_neg hj0]; exact e2
        simp [ho, ho2, e1, e3]
        refine ⟨by omega, by split <;> omega, ?_⟩
        refine hK20 _ ?_; clear hK20 K20
        exact cw_ret (hQ _ _ _ _ rfl (Ret.refl _ _ _) rfl).2
      · refine CallK.of (put_err T x j hx (by omega) hz _) ?_
        rintro _ _ ⟨rfl, rfl⟩
        simp
        refine hK16 _ ?_; clear hK16 K16
        refine cw_seq fun K17 hK17 => ?_
        refine cw_step T xm [8, 12, 13, 71] fun K18 hK18 => ?_
        simp [h0, hz]
        refine hK18 _ ?_; clear hK18 K18
        refine cw_cond rfl (fun hc => ?_) (fun hc => absurd hc (by simp [show ¬ ((x : Int) / 2 ^ (8 * j) = 0) from fun h => hz (by exact_mod_cast h)]))
        refine cw_step T xm [4] fun K19 hK19 => ?_
        simp
        refine hK19 _ ?_; clear hK19 K19
        exact cw_ret (hQ _ _ _ _ rfl (Ret.refl _ _ _) rfl).2
  refine cw_cond rfl (fun hk8 => ?_) (fun hk8 => ?_)
  · have hk8 : k < 8 := by simp at hk8; omega
    rw [if_pos hk8] at hxd
    refine cw_last T xm [5,6,7] fun K2 hK2 => ?_
    have e : (8 * (k : Int)).toNat = 8 * k := by omega
    have h2 : 2 ^ (8 * k) ≤ 2 ^ 56 := Nat.pow_le_pow_right (by decide) (by omega)
    have h3 : ((2 : Int) ^ (8 * k)) ≤ 2 ^ 56 := by exact_mod_cast h2
    have h4 : 1 ≤ 2 ^ (8 * k) := Nat.one_le_two_pow
    have h5 : (1 : Int) ≤ 2 ^ (8 * k) := by exact_mod_cast h4
    simp [e]
    refine ⟨by omega, by omega, by omega, ?_⟩
    rw [and_mask v (8 * k) hv (by omega), ← hxd]
    exact hK2 _ g
  · have hk8 : ¬ k < 8 := by simp at hk8; omega
    rw [if_neg hk8] at hxd
    subst hxd
    exact cw_skip (hW _ _ _ (by simp) g)
end Go.Proofs
