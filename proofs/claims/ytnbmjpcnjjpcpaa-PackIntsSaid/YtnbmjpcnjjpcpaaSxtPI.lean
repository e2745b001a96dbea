/-
  Walks by Sx; no condition beyond those that stand in each statement.
-/
import Derived.Test.YtnbmjpcnjjpcpaaSxtPB
import Derived.Laws.Bits128
namespace Go.Proofs
open Go Go.Sx
set_option maxRecDepth 100000
attribute [local simp] xm
variable (T : TyOk Try.prog (tyOf Try.prog Try.eqs))
theorem and_i64_65535 (n : Int) : Go.bits .and .i64 n 65535 = n % 65536 := by
  have h127 : (BitVec.ofInt 64 65535).toNat = 2 ^ 16 - 1 := by decide
  have key : (BitVec.ofInt 64 n &&& BitVec.ofInt 64 65535).toNat = (n % ((2 ^ 64 : Nat) : Int)).toNat % 2 ^ 16 := by
    rw [BitVec.toNat_and, BitVec.toNat_ofInt, h127, Nat.and_two_pow_sub_one_eq_mod]
  show IntKind.i64.wrap ((BitVec.ofInt 64 n &&& BitVec.ofInt 64 65535).toNat : Nat) = n % 65536
  rw [key, IntKind.wrap_i64]
  omega
theorem row_at (H : Heap) (i : Nat) (l : List UInt8) (n : Nat) (hl : l.length = n) (hn : n ≤ 8) (o : Bool) (u : Nat) (hi : hget H i = some (.cells (u8s l) o u)) : Row H (some ⟨i, 0, none⟩) n n (u8s l) :=
  ⟨by simp [hl], by unfold OPEN; omega, Nat.le_refl _, .inr ⟨i, 0, u8s l, o, u, rfl, hi, by simp [hl], by rw [List.drop_zero]; exact List.take_of_length_le (by simp [hl])⟩⟩
theorem takeN_two (v : Nat) (hv : v < 65536) : takeN ((List.range 2).map (putB v 2)) = v := takeN_putB 2 v (by simpa using hv)
theorem putB_two (v w : Nat) (hv : v < 65536) (hw : w < 65536) : (List.range 2).map (putB v 2) = (List.range 2).map (putB w 2) ↔ v = w :=
  ⟨fun h => by rw [← takeN_two v hv, ← takeN_two w hw, h], fun h => by rw [h]⟩
include T
theorem takeInt_fn' (bs : List UInt8) (hl : bs.length = 2) (H : Heap) (a : Option Addr) (c : Nat) (hr : Row H a 2 c (u8s bs)) :
    Sx.Fn Try.prog 16 [.slice a 2 c] H fun r h => r = .tuple #[.int .i64 (IntKind.i16.wrap (takeN bs)), .int .i64 0] ∧ h = H := by
  have := takeInt_fn T bs hl H a c (by rw [hl]; exact hr)
  rw [hl] at this; exact this
theorem putInt_err (n : Int) (h0 : ¬ (-32768 ≤ n ∧ n < 32768)) (H : Heap) :
    Sx.Fn Try.prog 14 [.int .i64 n] H fun r h => r = .tuple #[.slice none 0 0, .int .i64 1] ∧ h = H := by
  refine fn_start T Try.func14 rfl (by kernel_rfl) Try.results14 Try.ntmps14 (by simp) ?_
  intro Q hQ
  simp only [argTm]
  refine cw_step T xm [0] fun K1 hK1 => ?_
  simp
  refine hK1 _ ?_; clear hK1 K1
  refine cw_seq fun K2 hK2 => ?_
  refine cw_step T xm [0, 9] fun K3 hK3 => ?_
  simp
  have g : K3 ⟨[(0, .v (.int .i64 n)), (9, .v (.bool true))], H⟩ := by
    refine hK3 _ ?_; clear hK3 K3
    refine cw_cond rfl (fun hc => ?_) (fun hc => by cases hc)
    refine cw_step T xm [2, 3] fun K4 hK4 => ?_
    simp
    refine hK4 _ ?_; clear hK4 K4
    exact cw_ret (hQ _ _ _ _ rfl (Ret.refl _ _ _) ⟨rfl, rfl⟩).2
  refine ⟨fun h1 => ?_, fun _ => g⟩
  have : decide (32768 ≤ n) = true := by simp; omega
  simpa [this] using g
theorem packInts_fn (a b : Int) (ha : -9223372036854775808 ≤ a ∧ a ≤ 9223372036854775807) (hb : -9223372036854775808 ≤ b ∧ b ≤ 9223372036854775807) : Sx.Fn Try.prog 9 [.int .i64 a, .int .i64 b] [] fun r _ => r = .bool true := by
  refine fn_start T Try.func9 rfl (by kernel_rfl) Try.results9 Try.ntmps9 (by simp) ?_
  intro Q hQ
  simp only [argTm]
  obtain ⟨x, hx⟩ : ∃ x, x = a % 65536 - 32768 := ⟨_, rfl⟩
  obtain ⟨y, hy⟩ : ∃ y, y = b % 65536 - 32768 := ⟨_, rfl⟩
  refine cw_step T xm [0, 1] fun K1 hK1 => ?_
  simp
  refine hK1 _ ?_; clear hK1 K1
  refine cw_step T xm [0, 1, 5] fun K2 hK2 => ?_
  simp
  refine CallK.of (shown_fn T _) ?_
  rintro _ _ ⟨rfl, rfl⟩
  simp
  refine hK2 _ ?_; clear hK2 K2
  refine cw_step T xm [0, 1, 5, 6] fun K3 hK3 => ?_
  simp [and_i64_65535]
  rw [← hx]
  repeat refine ⟨by omega, ?_⟩
  refine hK3 _ ?_; clear hK3 K3
  refine cw_step T xm [0, 5, 6, 7] fun K4 hK4 => ?_
  simp [and_i64_65535]
  rw [← hy]
  repeat refine ⟨by omega, ?_⟩
  refine hK4 _ ?_; clear hK4 K4
  refine cw_step T xm [0, 5, 6, 7, 8, 9] fun K5 hK5 => ?_
  simp
  refine CallK.of (putInt_fn T x (by omega) (by omega) _) ?_
  rintro _ _ ⟨rfl, rfl⟩
  simp
  refine hK5 _ ?_; clear hK5 K5
  refine cw_step T xm [0, 5, 6, 7, 8, 9, 10, 11] fun K6 hK6 => ?_
  simp
  refine CallK.of (putInt_fn T y (by omega) (by omega) _) ?_
  rintro _ _ ⟨rfl, rfl⟩
  simp
  refine hK6 _ ?_; clear hK6 K6
  have hwx : IntKind.i16.wrap (takeN ((List.range 2).map (putB (x % 65536).toNat 2)) : Int) = x := by
    rw [takeN_two _ (by omega)]; simp [IntKind.wrap, IntKind.bits, IntKind.signed]; omega
  have hwy : IntKind.i16.wrap (takeN ((List.range 2).map (putB (y % 65536).toNat 2)) : Int) = y := by
    rw [takeN_two _ (by omega)]; simp [IntKind.wrap, IntKind.bits, IntKind.signed]; omega
  have hxy : (List.map (putB (x % 65536).toNat 2) (List.range 2) == List.map (putB (y % 65536).toNat 2) (List.range 2)) = decide (x = y) := by
    rw [Bool.eq_iff_iff]
    simp only [beq_iff_eq, decide_eq_true_eq]
    rw [putB_two _ _ (by omega) (by omega)]
    omega
  have hpl : (List.map (putB (x % 65536).toNat 2) (List.range 2)).length = 2 := by simp
  have hql : (List.map (putB (y % 65536).toNat 2) (List.range 2)).length = 2 := by simp
  generalize List.map (putB (x % 65536).toNat 2) (List.range 2) = p at *
  generalize List.map (putB (y % 65536).toNat 2) (List.range 2) = q at *
  refine cw_step T xm [0, 5, 6, 7, 8, 9, 10, 11, 12, 13] fun K7 hK7 => ?_
  simp
  refine CallK.of (takeInt_fn' T p hpl _ _ _ (row_at _ 0 p 2 hpl (by omega) true 0 rfl)) ?_
  rintro _ _ ⟨rfl, rfl⟩
  simp [hwx]
  refine hK7 _ ?_; clear hK7 K7
  refine cw_step T xm [0, 5, 6, 7, 8, 9, 10, 11, 12, 13, 14, 15] fun K8 hK8 => ?_
  simp
  refine CallK.of (takeInt_fn' T q hql _ _ _ (row_at _ 1 q 2 hql (by omega) true 0 rfl)) ?_
  rintro _ _ ⟨rfl, rfl⟩
  simp [hwy]
  refine hK8 _ ?_; clear hK8 K8
  have hp2 : List.take 2 p = p := List.take_of_length_le (by omega)
  have hq2 : List.take 2 q = q := List.take_of_length_le (by omega)
  refine cw_step T xm [0, 5, 6, 7, 8, 9, 10, 11, 12, 13, 14, 15, 16, 17] fun K9 hK9 => ?_
  simp
  by_cases hr : -32768 ≤ a ∧ a < 32768
  · refine CallK.of (putInt_fn T a (by omega) (by omega) _) ?_
    rintro _ _ ⟨rfl, rfl⟩
    simp
    refine hK9 _ ?_; clear hK9 K9
    refine cw_step T xm [5, 6, 7, 8, 9, 10, 11, 12, 13, 14, 15, 16, 17, 18] fun K10 hK10 => ?_
    have e1 : decide (-32768 ≤ a) = true := by simp; omega
    have e2 : decide (a ≤ 32767) = true := by simp; omega
    simp [e1, e2]
    refine hK10 _ ?_; clear hK10 K10
    refine cw_step T xm [4] fun K11 hK11 => ?_
    simp [hpl, hql, hp2, hq2, hxy]
    refine hK11 _ ?_; clear hK11 K11
    exact cw_ret (hQ _ _ _ _ rfl (Ret.refl _ _ _) rfl).2
  · refine CallK.of (putInt_err T a hr _) ?_
    rintro _ _ ⟨rfl, rfl⟩
    simp
    refine hK9 _ ?_; clear hK9 K9
    refine cw_step T xm [5, 6, 7, 8, 9, 10, 11, 12, 13, 14, 15, 16, 17, 18] fun K10 hK10 => ?_
    have g : K10 ⟨[(5, .v (.bool true)), (6, .v (.int .i64 x)), (7, .v (.int .i64 y)), (8, .v (.slice (some ⟨0, 0, none⟩) 2 2)), (9, .v (.int .i64 0)), (10, .v (.slice (some ⟨1, 0, none⟩) 2 2)), (11, .v (.int .i64 0)), (12, .v (.int .i64 x)), (13, .v (.int .i64 0)), (14, .v (.int .i64 y)), (15, .v (.int .i64 0)), (16, .v (.slice none 0 0)), (17, .v (.int .i64 1)), (18, .v (.bool false))], [some (.cells (u8s p) true 0), some (.cells (u8s q) true 0)]⟩ := by
      refine hK10 _ ?_; clear hK10 K10
      refine cw_step T xm [4] fun K11 hK11 => ?_
      simp [hpl, hql, hp2, hq2, hxy]
      refine hK11 _ ?_; clear hK11 K11
      exact cw_ret (hQ _ _ _ _ rfl (Ret.refl _ _ _) rfl).2
    simp
    refine ⟨fun h => ?_, fun h => g⟩
    have e2 : decide (a ≤ 32767) = false := by simp; omega
    simpa [e2] using g
end Go.Proofs
namespace Go.Proofs
open Go Go.Sx Go.RowKit
theorem eqsOk_nil (P : Program) : EqsOk P [] := fun t ht => by cases ht
theorem T_try : TyOk Try.prog (tyOf Try.prog Try.eqs) := tyOk _ _ (eqsOk_nil _)
theorem packBack_run (hm : Try.prog.follows .mixedOrders = true) (W : World) (a0 a1 : Int) (w0 : (Lit.int .u64 a0).wf = true) (w1 : (Lit.int .u8 a1).wf = true) :
    Calls Try.prog 7 #[.int .u64 a0, .int .u8 a1] W fun e w' => e = .returned (.bool true) ∧ Below W.heap.size W w' := by
  simp only [Lit.wf, Bool.and_eq_true, decide_eq_true_eq, IntKind.min, IntKind.max, IntKind.bits, IntKind.signed] at w0 w1
  obtain ⟨v, rfl⟩ : ∃ v : Nat, a0 = v := ⟨a0.toNat, by simp at w0; omega⟩
  obtain ⟨m, rfl⟩ : ∃ m : Nat, a1 = m := ⟨a1.toNat, by simp at w1; omega⟩
  exact law_run (ι := []) (h := []) (packBack_fn T_try hm v m (by simp at w0; omega) (by simp at w1; omega)) rfl (fun i b hb => by simp [hget] at hb) ⟨.same _ rfl, .same _ rfl, trivial⟩
theorem packInts_run (W : World) (a0 a1 : Int) (w0 : (Lit.int .i64 a0).wf = true) (w1 : (Lit.int .i64 a1).wf = true) :
    Calls Try.prog 9 #[.int .i64 a0, .int .i64 a1] W fun e w' => e = .returned (.bool true) ∧ Below W.heap.size W w' := by
  simp only [Lit.wf, Bool.and_eq_true, decide_eq_true_eq, IntKind.min, IntKind.max, IntKind.bits, IntKind.signed] at w0 w1
  exact law_run (ι := []) (h := []) (packInts_fn T_try a0 a1 (by simp at w0; omega) (by simp at w1; omega)) rfl (fun i b hb => by simp [hget] at hb) ⟨.same _ rfl, .same _ rfl, trivial⟩
end Go.Proofs
