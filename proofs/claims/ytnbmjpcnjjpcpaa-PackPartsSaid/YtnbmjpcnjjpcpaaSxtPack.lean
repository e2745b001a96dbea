/-
  Walks by Sx; no condition beyond those that stand in each statement.
-/
import Derived.Test.YtnbmjpcnjjpcpaaSxW
import Derived.Test.YtnbmjpcnjjpcpaaSxTyTry
namespace Go.Proofs
open Go Go.Sx
set_option maxRecDepth 100000
def xm : Sx.Mode
  | .i64 => true
  | .i32 => true
  | .u64 => true
  | _ => false
attribute [local simp] xm
variable (T : TyOk Try.prog (tyOf Try.prog Try.eqs))
def putB (v n : Nat) (j : Nat) : UInt8 := UInt8.ofNat (v / 2 ^ (8 * (n - 1 - j)))
include T
theorem put_fn (v : Nat) (hv : v < 18446744073709551616) (n : Nat) (hn : n ≤ 8) (hb : n < 8 → v / 2 ^ (8 * n) = 0) (H : Heap) :
    Sx.Fn Try.prog 13 [.int .u64 v, .int .i64 n] H fun r h => r = .tuple #[.slice (some ⟨H.length, 0, none⟩) n n, .int .i64 0] ∧ h = H ++ [some (.cells (u8s ((List.range n).map (putB v n))) true 0)] := by
  refine fn_start T Try.func13 rfl (by kernel_rfl) Try.results13 Try.ntmps13 (by simp) ?_
  intro Q hQ
  simp only [argTm]
  refine cw_step T xm [0,1] fun K hK => ?_
  simp
  refine hK _ ?_; clear hK K
  refine cw_seq fun K hK => ?_
  refine cw_step T xm [0,1,24] fun K2 hK2 => ?_
  simp
  have e : (8 * (n : Int)).toNat = 8 * n := by omega
  have g : K2 ⟨[(0, .v (.int .u64 v)), (1, .v (.int .i64 n)), (24, .v (.bool false))], H⟩ := by
    refine hK2 _ ?_; clear hK2 K2
    refine cw_cond rfl (fun h => absurd h (by decide)) fun _ => ?_
    refine cw_skip ?_
    refine hK _ ?_; clear hK K
    refine cw_step T xm [0,1,6] fun K hK => ?_
    simp
    refine ⟨by omega, ?_⟩
    refine hK _ ?_; clear hK K
    refine cw_seq fun K hK => ?_
    refine cw_step T xm [0,1,6,27,28] fun K2 hK2 => ?_
    simp
    refine hK2 _ ?_; clear hK2 K2
    refine cw_block ?_
    refine cw_while (fun m s => ∃ i, m = n - i ∧ i ≤ n ∧ s = ⟨[(0, .v (.int .u64 v)), (1, .v (.int .i64 n)), (6, .v (.slice (some ⟨H.length, 0, none⟩) n n)), (27, .v (.int .i64 n)), (28, .v (.int .i64 i))], H ++ [some (.cells (u8s ((List.range i).map (putB v n) ++ List.replicate (n - i) 0)) true 0)]⟩) n ⟨0, by omega, by omega, by simp [zeros_u8]⟩ ?_
    rintro m s ⟨i, rfl, hi, rfl⟩
    refine cw_step T xm [0,1,6,27,28,29] fun K2 hK2 => ?_
    simp
    refine hK2 _ ?_; clear hK2 K2
    refine cw_seq fun K2 hK2 => ?_
    refine cw_cond rfl (fun h => cw_skip ?_) fun h => cw_exit ?_
    · have h : i < n := by simpa using h
      refine hK2 _ ?_; clear hK2 K2
      refine cw_seq fun K2 hK2 => ?_
      refine cw_block ?_
      refine cw_step T xm [0,1,6,27,28,7] fun K3 hK3 => ?_
      simp
      refine hK3 _ ?_; clear hK3 K3
      refine cw_last T xm [0,1,6,27,28] fun K3 hK3 => ?_
      simp
      refine ⟨by omega, by omega, by omega, by omega, by omega, by omega, ?_⟩
      refine hK3 _ ?_; clear hK3 K3
      refine hK2 _ ?_; clear hK2 K2
      refine cw_last T xm [0,1,6,27,28] fun K3 hK3 => ?_
      simp
      refine ⟨by omega, hK3 _ ?_⟩; clear hK3 K3
      refine round_end (n - (i + 1)) (by omega) ⟨i + 1, rfl, h, ?_⟩ (by simp)
      have e2 : ((v : Int) / 2 ^ (8 * ((n : Int) - 1 - i)).toNat) = ((v / 2 ^ (8 * (n - 1 - i)) : Nat) : Int) := by
        rw [show (8 * ((n : Int) - 1 - i)).toNat = 8 * (n - 1 - i) by omega]; simp
      rw [e2, u8s_put, ← front_step (putB v n) 0 n i h]
      rfl
    · have h : ¬ i < n := by simpa using h
      refine hK _ ?_; clear hK K hK2 K2
      have hi : i = n := by omega
      subst hi
      refine cw_step T xm [4, 5] fun K hK => ?_
      simp
      refine hK _ ?_; clear hK K
      refine cw_ret (hQ _ _ _ _ rfl (Ret.refl _ _ _) ⟨rfl, ?_⟩).2
      simp
  refine ⟨⟨fun _ => ⟨fun h => ⟨by omega, by omega, ?_⟩, fun h => g⟩, fun h => absurd h (by omega)⟩, fun h => absurd h (by omega)⟩
  have e3 : ((v : Int) / 2 ^ (8 * (n : Int)).toNat) = 0 := by rw [e]; have := hb (by omega); exact_mod_cast this
  simpa [e3] using g
omit T in
theorem or8 (a b : Nat) (ha : a * 256 < 18446744073709551616) (hb : b < 256) : Go.bits .or .u64 ((a : Int) * 256) (b : Int) = ((a * 256 + b : Nat) : Int) := by
  have e : ((a : Int) * 256) = ((a * 256 : Nat) : Int) := by simp
  rw [e, bits_or_u64_nat _ _ ha (by omega)]
  have := Nat.shiftLeft_add_eq_or_of_lt (a := a) (b := b) (i := 8) (by simpa using hb)
  rw [Nat.shiftLeft_eq] at this
  rw [← this]
def takeN (l : List UInt8) : Nat := l.foldl (fun a b => a * 256 + b.toNat) 0
omit T in
theorem takeN_snoc (l : List UInt8) (b : UInt8) : takeN (l ++ [b]) = takeN l * 256 + b.toNat := by simp [takeN]
omit T in
theorem takeN_lt' : ∀ (l : List UInt8) (a : Nat), l.foldl (fun a b => a * 256 + b.toNat) a < (a + 1) * 256 ^ l.length
  | [], a => by simp
  | b :: l, a => by
    have h := takeN_lt' l (a * 256 + b.toNat)
    have hb := b.toNat_lt
    rw [List.foldl_cons, List.length_cons, Nat.pow_succ]
    refine Nat.lt_of_lt_of_le h ?_
    rw [Nat.mul_comm (256 ^ l.length), ← Nat.mul_assoc]
    exact Nat.mul_le_mul_right _ (by omega)
omit T in
theorem takeN_lt (l : List UInt8) : takeN l < 256 ^ l.length := by simpa [takeN] using takeN_lt' l 0
theorem take_fn (bs : List UInt8) (hn : bs.length ≤ 8) (H : Heap) (a : Option Addr) (c : Nat) (hr : Row H a bs.length c (u8s bs)) :
    Sx.Fn Try.prog 15 [.slice a bs.length c] H fun r h => r = .tuple #[.int .u64 (takeN bs), .int .i64 0] ∧ h = H := by
  refine fn_start T Try.func15 rfl (by kernel_rfl) Try.results15 Try.ntmps15 (by simp) ?_
  intro Q hQ
  simp only [argTm]
  refine cw_step T xm [0] fun K hK => ?_
  simp
  refine hK _ ?_; clear hK K
  refine cw_seq fun K hK => ?_
  refine cw_step T xm [0,9] fun K2 hK2 => ?_
  simp
  refine hK2 _ ?_; clear hK2 K2
  refine cw_cond rfl (fun h => absurd h (by simp; omega)) fun _ => ?_
  refine cw_skip ?_
  refine hK _ ?_; clear hK K
  refine cw_step T xm [0,4] fun K hK => ?_
  simp
  refine hK _ ?_; clear hK K
  refine cw_seq fun K hK => ?_
  refine cw_step T xm [4,10,11,12] fun K2 hK2 => ?_
  simp
  refine hK2 _ ?_; clear hK2 K2
  refine cw_block ?_
  refine cw_while (fun m s => ∃ i, m = bs.length - i ∧ i ≤ bs.length ∧ s = ⟨[(4, .v (.int .u64 (takeN (bs.take i)))), (10, .v (.slice a bs.length c)), (11, .v (.int .i64 bs.length)), (12, .v (.int .i64 i))], H⟩) bs.length ⟨0, by omega, by omega, by simp [takeN]⟩ ?_
  rintro m s ⟨i, rfl, hi, rfl⟩
  refine cw_step T xm [4,10,11,12,13] fun K2 hK2 => ?_
  simp
  refine hK2 _ ?_; clear hK2 K2
  refine cw_seq fun K2 hK2 => ?_
  refine cw_cond rfl (fun h => cw_skip ?_) fun h => cw_exit ?_
  · have h : i < bs.length := by simpa using h
    refine hK2 _ ?_; clear hK2 K2
    refine cw_seq fun K2 hK2 => ?_
    refine cw_block ?_
    obtain ⟨b, k, cs, o, u, rfl, hg, hk, he⟩ := hr.get h
    have hx : cs[k + i]? = some (.int .u8 (bs[i].toNat)) := by rw [he, u8s_get]; simp [h]
    refine cw_step T xm [4,10,11,12,6] fun K3 hK3 => ?_
    simp [hg, hx, h]
    refine hK3 _ ?_; clear hK3 K3
    refine cw_last T xm [4,10,11,12] fun K3 hK3 => ?_
    have hlt : takeN (bs.take i) * 256 < 18446744073709551616 := by
      have h1 := takeN_lt (bs.take i)
      rw [List.length_take, Nat.min_eq_left hi] at h1
      have h2 : 256 ^ i ≤ 256 ^ 7 := Nat.pow_le_pow_right (by decide) (by omega)
      omega
    have hb : (bs[i].toNat : Int) ≤ 18446744073709551615 := by have := bs[i].toNat_lt; omega
    simp [hb]
    refine ⟨by omega, hK3 _ ?_⟩; clear hK3 K3
    refine hK2 _ ?_; clear hK2 K2
    refine cw_last T xm [4,10,11,12] fun K3 hK3 => ?_
    simp
    refine ⟨by omega, hK3 _ ?_⟩; clear hK3 K3
    refine round_end (bs.length - (i + 1)) (by omega) ⟨i + 1, rfl, h, ?_⟩ (Nat.le_refl _)
    rw [or8 _ _ hlt bs[i].toNat_lt, List.take_add_one, List.getElem?_eq_getElem h, Option.toList_some, takeN_snoc]
    rfl
  · have h : ¬ i < bs.length := by simpa using h
    refine hK _ ?_; clear hK K hK2 K2
    have hi : i = bs.length := by omega
    subst hi
    refine cw_step T xm [2, 3] fun K hK => ?_
    simp
    refine hK _ ?_; clear hK K
    exact cw_ret (hQ _ _ _ _ rfl (Ret.refl _ _ _) ⟨rfl, rfl⟩).2
theorem put_err (v n : Nat) (hv : v < 18446744073709551616) (hn : n < 8) (hb : v / 2 ^ (8 * n) ≠ 0) (H : Heap) :
    Sx.Fn Try.prog 13 [.int .u64 v, .int .i64 n] H fun r h => r = .tuple #[.slice none 0 0, .int .i64 1] ∧ h = H := by
  refine fn_start T Try.func13 rfl (by kernel_rfl) Try.results13 Try.ntmps13 (by simp) ?_
  intro Q hQ
  simp only [argTm]
  refine cw_step T xm [0,1] fun K hK => ?_
  simp
  refine hK _ ?_; clear hK K
  refine cw_seq fun K hK => ?_
  refine cw_step T xm [0,1,24] fun K2 hK2 => ?_
  simp
  have e : (8 * (n : Int)).toNat = 8 * n := by omega
  have e3 : ¬ ((v : Int) / 2 ^ (8 * (n : Int)).toNat) = 0 := by rw [e]; intro h; exact hb (by exact_mod_cast h)
  refine ⟨⟨fun _ => ⟨fun h => ⟨by omega, by omega, ?_⟩, fun h => absurd h (by omega)⟩, fun h => absurd h (by omega)⟩, fun h => absurd h (by omega)⟩
  simp [e3]
  refine hK2 _ ?_; clear hK2 K2
  refine cw_cond rfl (fun _ => ?_) (fun h => absurd h (by decide))
  refine cw_step T xm [4,5] fun K2 hK2 => ?_
  simp
  refine hK2 _ ?_; clear hK2 K2
  exact cw_ret (hQ _ _ _ _ rfl (Ret.refl _ _ _) ⟨rfl, rfl⟩).2
theorem putInt_fn (n : Int) (h1 : -32768 ≤ n) (h2 : n < 32768) (H : Heap) :
    Sx.Fn Try.prog 14 [.int .i64 n] H fun r h => r = .tuple #[.slice (some ⟨H.length, 0, none⟩) 2 2, .int .i64 0] ∧ h = H ++ [some (.cells (u8s ((List.range 2).map (putB (n % 65536).toNat 2))) true 0)] := by
  refine fn_start T Try.func14 rfl (by kernel_rfl) Try.results14 Try.ntmps14 (by simp) ?_
  intro Q hQ
  simp only [argTm]
  refine cw_step T xm [0] fun K hK => ?_
  simp
  refine hK _ ?_; clear hK K
  refine cw_seq fun K hK => ?_
  refine cw_step T xm [0,9] fun K2 hK2 => ?_
  simp
  refine ⟨fun _ => ?_, fun h => absurd h (by omega)⟩
  refine hK2 _ ?_; clear hK2 K2
  refine cw_cond rfl (fun h => absurd h (by simp; omega)) fun _ => ?_
  refine cw_skip ?_
  refine hK _ ?_; clear hK K
  have hw0 : IntKind.u16.wrap n = ((n % 65536).toNat : Int) := by
    simp [IntKind.wrap, IntKind.bits, IntKind.signed]; omega
  obtain ⟨v, hv⟩ : ∃ v : Nat, v = (n % 65536).toNat := ⟨_, rfl⟩
  rw [← hv] at hw0 hQ
  refine cw_step T xm [2, 3] fun K hK => ?_
  simp [hw0]
  refine ⟨by omega, ?_⟩
  refine CallK.of (put_fn T v (by omega) 2 (by omega) (fun _ => by simp; omega) H) ?_
  rintro v h ⟨rfl, rfl⟩
  simp
  refine hK _ ?_; clear hK K
  refine cw_ret (hQ _ _ _ _ rfl (Ret.refl _ _ _) ⟨rfl, ?_⟩).2
  simp
theorem takeInt_fn (bs : List UInt8) (hn : bs.length = 2) (H : Heap) (a : Option Addr) (c : Nat) (hr : Row H a bs.length c (u8s bs)) :
    Sx.Fn Try.prog 16 [.slice a bs.length c] H fun r h => r = .tuple #[.int .i64 (IntKind.i16.wrap (takeN bs)), .int .i64 0] ∧ h = H := by
  refine fn_start T Try.func16 rfl (by kernel_rfl) Try.results16 Try.ntmps16 (by simp) ?_
  intro Q hQ
  simp only [argTm]
  refine cw_step T xm [0] fun K hK => ?_
  simp
  refine hK _ ?_; clear hK K
  refine cw_seq fun K hK => ?_
  refine cw_step T xm [0,8] fun K2 hK2 => ?_
  simp
  refine hK2 _ ?_; clear hK2 K2
  refine cw_cond rfl (fun h => absurd h (by simp; omega)) fun _ => ?_
  refine cw_skip ?_
  refine hK _ ?_; clear hK K
  refine cw_step T xm [4] fun K hK => ?_
  simp
  refine CallK.of (take_fn T bs (by omega) H a c hr) ?_
  rintro v h ⟨rfl, rfl⟩
  simp
  refine hK _ ?_; clear hK K
  have hw : -32768 ≤ IntKind.i16.wrap (takeN bs) ∧ IntKind.i16.wrap (takeN bs) ≤ 32767 := by
    simp [IntKind.wrap, IntKind.bits, IntKind.signed]; omega
  refine cw_step T xm [2,3] fun K hK => ?_
  simp
  refine ⟨by omega, hK _ ?_⟩; clear hK K
  exact cw_ret (hQ _ _ _ _ rfl (Ret.refl _ _ _) ⟨rfl, rfl⟩).2
end Go.Proofs
