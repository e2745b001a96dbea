/-
  A small number is below 0 just if its first byte is 128 or more, and what is one below the other one's opposite has all bits turned, for every number; no condition.
-/
import Derived.Test.YtnbmjpcnjjpcpaaPPackSignsx1
import Derived.Laws.BitsLemmas
import Derived.Laws.BitsAllLaws
import Derived.Lib.Bytes
import Derived.KernelRfl
namespace Go.Proofs.Ytnbmjpcnjjpcpaa.Pure
open Go.RowKit Go.Proofs.Ytnbmjpcnjjpcpaa.PPackSigns Go.Proofs.YtnbmjpcnjjpcpaaW.PrintWords Go.Proofs.YtnbmjpcnjjpcpaaW.PrintLast Go.Proofs.YtnbmjpcnjjpcpaaW.PrintMore
open Go.Lib
set_option maxRecDepth 100000
set_option linter.unusedVariables false

theorem put0 (n : Int) (h0 : 0 ≤ n) (h1 : n < 1) : pack_Put.f 12 n 0 = some ([], 0) := by
  have e : pack_Put.f 12 n 0 = if ((0 : Int) < 8 ∧ shr .u64 n 0 ≠ 0) then some ([], 1) else some ([], 0) := by
    have hs : shr .u64 n 0 = n / 1 := rfl
    have hz : shr .u64 n 0 = 0 := by rw [hs]; omega
    have hw : wrap64 (8 * 0) = 0 := by kernel_rfl
    have hn : ((shr .u64 n (wrap64 (8 * 0))) != 0) = false := by rw [hw, hz]; rfl
    rw [if_neg (by simp [hz])]
    unfold pack_Put.f
    rw [if_neg (by decide), if_neg (by decide), if_pos (by decide), if_pos (by rw [hw]; decide), hn]
    have hk : pack_Put.j0 12 n 0 false = some ([], 0) := by kernel_rfl
    exact hk
  rw [e, if_neg (by rintro ⟨_, h⟩; apply h; show n / 1 = 0; omega)]
  all_goals rfl
theorem put1 (n : Int) (h0 : 0 ≤ n) (h1 : n < 256) : pack_Put.f 12 n 1 = some ([n / 1 % 256], 0) := by
  have e : pack_Put.f 12 n 1 = if ((1 : Int) < 8 ∧ shr .u64 n 8 ≠ 0) then some ([], 1) else some ([shr .u64 n 0 % 256], 0) := by
    have hs : shr .u64 n 8 = n / 256 := rfl
    have hz : shr .u64 n 8 = 0 := by rw [hs]; omega
    have hw : wrap64 (8 * 1) = 8 := by kernel_rfl
    have hn : ((shr .u64 n (wrap64 (8 * 1))) != 0) = false := by rw [hw, hz]; rfl
    rw [if_neg (by simp [hz])]
    unfold pack_Put.f
    rw [if_neg (by decide), if_neg (by decide), if_pos (by decide), if_pos (by rw [hw]; decide), hn]
    have hk : pack_Put.j0 12 n 1 false = some ([shr .u64 n 0 % 256], 0) := by kernel_rfl
    exact hk
  rw [e, if_neg (by rintro ⟨_, h⟩; apply h; show n / 256 = 0; omega)]
  rfl
theorem put2 (n : Int) (h0 : 0 ≤ n) (h1 : n < 65536) : pack_Put.f 12 n 2 = some ([n / 256 % 256, n / 1 % 256], 0) := by
  have e : pack_Put.f 12 n 2 = if ((2 : Int) < 8 ∧ shr .u64 n 16 ≠ 0) then some ([], 1) else some ([shr .u64 n 8 % 256, shr .u64 n 0 % 256], 0) := by
    have hs : shr .u64 n 16 = n / 65536 := rfl
    have hz : shr .u64 n 16 = 0 := by rw [hs]; omega
    have hw : wrap64 (8 * 2) = 16 := by kernel_rfl
    have hn : ((shr .u64 n (wrap64 (8 * 2))) != 0) = false := by rw [hw, hz]; rfl
    rw [if_neg (by simp [hz])]
    unfold pack_Put.f
    rw [if_neg (by decide), if_neg (by decide), if_pos (by decide), if_pos (by rw [hw]; decide), hn]
    have hk : pack_Put.j0 12 n 2 false = some ([shr .u64 n 8 % 256, shr .u64 n 0 % 256], 0) := by kernel_rfl
    exact hk
  rw [e, if_neg (by rintro ⟨_, h⟩; apply h; show n / 65536 = 0; omega)]
  rfl
theorem put3 (n : Int) (h0 : 0 ≤ n) (h1 : n < 16777216) : pack_Put.f 12 n 3 = some ([n / 65536 % 256, n / 256 % 256, n / 1 % 256], 0) := by
  have e : pack_Put.f 12 n 3 = if ((3 : Int) < 8 ∧ shr .u64 n 24 ≠ 0) then some ([], 1) else some ([shr .u64 n 16 % 256, shr .u64 n 8 % 256, shr .u64 n 0 % 256], 0) := by
    have hs : shr .u64 n 24 = n / 16777216 := rfl
    have hz : shr .u64 n 24 = 0 := by rw [hs]; omega
    have hw : wrap64 (8 * 3) = 24 := by kernel_rfl
    have hn : ((shr .u64 n (wrap64 (8 * 3))) != 0) = false := by rw [hw, hz]; rfl
    rw [if_neg (by simp [hz])]
    unfold pack_Put.f
    rw [if_neg (by decide), if_neg (by decide), if_pos (by decide), if_pos (by rw [hw]; decide), hn]
    have hk : pack_Put.j0 12 n 3 false = some ([shr .u64 n 16 % 256, shr .u64 n 8 % 256, shr .u64 n 0 % 256], 0) := by kernel_rfl
    exact hk
  rw [e, if_neg (by rintro ⟨_, h⟩; apply h; show n / 16777216 = 0; omega)]
  rfl
theorem put4 (n : Int) (h0 : 0 ≤ n) (h1 : n < 4294967296) : pack_Put.f 12 n 4 = some ([n / 16777216 % 256, n / 65536 % 256, n / 256 % 256, n / 1 % 256], 0) := by
  have e : pack_Put.f 12 n 4 = if ((4 : Int) < 8 ∧ shr .u64 n 32 ≠ 0) then some ([], 1) else some ([shr .u64 n 24 % 256, shr .u64 n 16 % 256, shr .u64 n 8 % 256, shr .u64 n 0 % 256], 0) := by
    have hs : shr .u64 n 32 = n / 4294967296 := rfl
    have hz : shr .u64 n 32 = 0 := by rw [hs]; omega
    have hw : wrap64 (8 * 4) = 32 := by kernel_rfl
    have hn : ((shr .u64 n (wrap64 (8 * 4))) != 0) = false := by rw [hw, hz]; rfl
    rw [if_neg (by simp [hz])]
    unfold pack_Put.f
    rw [if_neg (by decide), if_neg (by decide), if_pos (by decide), if_pos (by rw [hw]; decide), hn]
    have hk : pack_Put.j0 12 n 4 false = some ([shr .u64 n 24 % 256, shr .u64 n 16 % 256, shr .u64 n 8 % 256, shr .u64 n 0 % 256], 0) := by kernel_rfl
    exact hk
  rw [e, if_neg (by rintro ⟨_, h⟩; apply h; show n / 4294967296 = 0; omega)]
  rfl
theorem put5 (n : Int) (h0 : 0 ≤ n) (h1 : n < 1099511627776) : pack_Put.f 12 n 5 = some ([n / 4294967296 % 256, n / 16777216 % 256, n / 65536 % 256, n / 256 % 256, n / 1 % 256], 0) := by
  have e : pack_Put.f 12 n 5 = if ((5 : Int) < 8 ∧ shr .u64 n 40 ≠ 0) then some ([], 1) else some ([shr .u64 n 32 % 256, shr .u64 n 24 % 256, shr .u64 n 16 % 256, shr .u64 n 8 % 256, shr .u64 n 0 % 256], 0) := by
    have hs : shr .u64 n 40 = n / 1099511627776 := rfl
    have hz : shr .u64 n 40 = 0 := by rw [hs]; omega
    have hw : wrap64 (8 * 5) = 40 := by kernel_rfl
    have hn : ((shr .u64 n (wrap64 (8 * 5))) != 0) = false := by rw [hw, hz]; rfl
    rw [if_neg (by simp [hz])]
    unfold pack_Put.f
    rw [if_neg (by decide), if_neg (by decide), if_pos (by decide), if_pos (by rw [hw]; decide), hn]
    have hk : pack_Put.j0 12 n 5 false = some ([shr .u64 n 32 % 256, shr .u64 n 24 % 256, shr .u64 n 16 % 256, shr .u64 n 8 % 256, shr .u64 n 0 % 256], 0) := by kernel_rfl
    exact hk
  rw [e, if_neg (by rintro ⟨_, h⟩; apply h; show n / 1099511627776 = 0; omega)]
  rfl
theorem put6 (n : Int) (h0 : 0 ≤ n) (h1 : n < 281474976710656) : pack_Put.f 12 n 6 = some ([n / 1099511627776 % 256, n / 4294967296 % 256, n / 16777216 % 256, n / 65536 % 256, n / 256 % 256, n / 1 % 256], 0) := by
  have e : pack_Put.f 12 n 6 = if ((6 : Int) < 8 ∧ shr .u64 n 48 ≠ 0) then some ([], 1) else some ([shr .u64 n 40 % 256, shr .u64 n 32 % 256, shr .u64 n 24 % 256, shr .u64 n 16 % 256, shr .u64 n 8 % 256, shr .u64 n 0 % 256], 0) := by
    have hs : shr .u64 n 48 = n / 281474976710656 := rfl
    have hz : shr .u64 n 48 = 0 := by rw [hs]; omega
    have hw : wrap64 (8 * 6) = 48 := by kernel_rfl
    have hn : ((shr .u64 n (wrap64 (8 * 6))) != 0) = false := by rw [hw, hz]; rfl
    rw [if_neg (by simp [hz])]
    unfold pack_Put.f
    rw [if_neg (by decide), if_neg (by decide), if_pos (by decide), if_pos (by rw [hw]; decide), hn]
    have hk : pack_Put.j0 12 n 6 false = some ([shr .u64 n 40 % 256, shr .u64 n 32 % 256, shr .u64 n 24 % 256, shr .u64 n 16 % 256, shr .u64 n 8 % 256, shr .u64 n 0 % 256], 0) := by kernel_rfl
    exact hk
  rw [e, if_neg (by rintro ⟨_, h⟩; apply h; show n / 281474976710656 = 0; omega)]
  rfl
theorem put7 (n : Int) (h0 : 0 ≤ n) (h1 : n < 72057594037927936) : pack_Put.f 12 n 7 = some ([n / 281474976710656 % 256, n / 1099511627776 % 256, n / 4294967296 % 256, n / 16777216 % 256, n / 65536 % 256, n / 256 % 256, n / 1 % 256], 0) := by
  have e : pack_Put.f 12 n 7 = if ((7 : Int) < 8 ∧ shr .u64 n 56 ≠ 0) then some ([], 1) else some ([shr .u64 n 48 % 256, shr .u64 n 40 % 256, shr .u64 n 32 % 256, shr .u64 n 24 % 256, shr .u64 n 16 % 256, shr .u64 n 8 % 256, shr .u64 n 0 % 256], 0) := by
    have hs : shr .u64 n 56 = n / 72057594037927936 := rfl
    have hz : shr .u64 n 56 = 0 := by rw [hs]; omega
    have hw : wrap64 (8 * 7) = 56 := by kernel_rfl
    have hn : ((shr .u64 n (wrap64 (8 * 7))) != 0) = false := by rw [hw, hz]; rfl
    rw [if_neg (by simp [hz])]
    unfold pack_Put.f
    rw [if_neg (by decide), if_neg (by decide), if_pos (by decide), if_pos (by rw [hw]; decide), hn]
    have hk : pack_Put.j0 12 n 7 false = some ([shr .u64 n 48 % 256, shr .u64 n 40 % 256, shr .u64 n 32 % 256, shr .u64 n 24 % 256, shr .u64 n 16 % 256, shr .u64 n 8 % 256, shr .u64 n 0 % 256], 0) := by kernel_rfl
    exact hk
  rw [e, if_neg (by rintro ⟨_, h⟩; apply h; show n / 72057594037927936 = 0; omega)]
  rfl
theorem put8 (n : Int) (h0 : 0 ≤ n) (h1 : n < 18446744073709551616) : pack_Put.f 12 n 8 = some ([n / 72057594037927936 % 256, n / 281474976710656 % 256, n / 1099511627776 % 256, n / 4294967296 % 256, n / 16777216 % 256, n / 65536 % 256, n / 256 % 256, n / 1 % 256], 0) := by
  have e : pack_Put.f 12 n 8 = if ((8 : Int) < 8 ∧ shr .u64 n 64 ≠ 0) then some ([], 1) else some ([shr .u64 n 56 % 256, shr .u64 n 48 % 256, shr .u64 n 40 % 256, shr .u64 n 32 % 256, shr .u64 n 24 % 256, shr .u64 n 16 % 256, shr .u64 n 8 % 256, shr .u64 n 0 % 256], 0) := by
    skip
    skip
    skip
    skip
    rw [if_neg (by simp)]
    unfold pack_Put.f
    rw [if_neg (by decide), if_neg (by decide), if_neg (by decide)]
    have hk : pack_Put.j0 12 n 8 false = some ([shr .u64 n 56 % 256, shr .u64 n 48 % 256, shr .u64 n 40 % 256, shr .u64 n 32 % 256, shr .u64 n 24 % 256, shr .u64 n 16 % 256, shr .u64 n 8 % 256, shr .u64 n 0 % 256], 0) := by kernel_rfl
    exact hk
  rw [e, if_neg (by simp)]
  rfl
theorem bytes_eq {a b : Int} (a0 : 0 ≤ a) (a1 : a < 256) (b0 : 0 ≤ b) (b1 : b < 256) : (UInt8.ofNat a.toNat = UInt8.ofNat b.toNat) ↔ a = b := by
  constructor
  · intro h
    have h' := congrArg UInt8.toNat h
    simp at h'
    omega
  · rintro rfl; rfl
theorem bytes_lt {a b : Int} (a0 : 0 ≤ a) (a1 : a < 256) (b0 : 0 ≤ b) (b1 : b < 256) : (UInt8.ofNat a.toNat < UInt8.ofNat b.toNat) ↔ a < b := by
  rw [UInt8.lt_iff_toNat_lt]; simp; omega
theorem mask16 (a : Int) : ∃ m : Int, Go.bits .and .i64 a 65535 = m ∧ 0 ≤ m ∧ m < 65536 := by
  refine ⟨_, rfl, ?_⟩
  have e : (BitVec.ofInt 64 a &&& BitVec.ofInt 64 65535).toNat < 65536 := by
    have : (BitVec.ofInt 64 65535).toNat = 65535 := by decide
    rw [BitVec.toNat_and, this]
    exact Nat.lt_of_le_of_lt Nat.and_le_right (by decide)
  show 0 ≤ IntKind.i64.wrap ((BitVec.ofInt 64 a &&& BitVec.ofInt 64 65535).toNat : Int) ∧ IntKind.i64.wrap ((BitVec.ofInt 64 a &&& BitVec.ofInt 64 65535).toNat : Int) < 65536
  rw [IntKind.wrap_i64]
  omega
theorem putInt (x : Int) (h0 : -32768 ≤ x) (h1 : x < 32768) : pack_PutInt.f 12 x = some ([x % 65536 / 256 % 256, x % 65536 % 256], 0) := by
  unfold pack_PutInt.f
  rw [if_neg (by omega), if_neg (by omega)]
  have w : IntKind.u64.wrap (IntKind.u16.wrap x) = x % 65536 := by
    simp only [IntKind.wrap, IntKind.bits, IntKind.signed]; simp; omega
  rw [w, put2 _ (by omega) (by omega)]
  simp
theorem shown : sidesticklaw02_shown.f 12 = some true := by
  unfold sidesticklaw02_shown.f
  rw [put3 258 (by decide) (by decide), putInt (-2) (by decide) (by decide)]
  have h : ((some ([258 / 65536 % 256, 258 / 256 % 256, 258 / 1 % 256], 0) : Option (List Int × Int)).bind fun bt109 => ((some ([-2 % 65536 / 256 % 256, -2 % 65536 % 256], 0) : Option (List Int × Int)).bind fun bt113 => (if (strOfNums bt109.1).toList = ([0, 1, 2] : List UInt8) then (if bt109.2 = 0 then (if (strOfNums bt113.1).toList = ([255, 254] : List UInt8) then (some (bt113.2 == 0)) else (some false)) else (some false)) else (some false)))) = some true := by
    simp only [Option.bind_some, strOfNums_toList]
    rw [if_pos (by kernel_rfl), if_pos trivial, if_pos (by kernel_rfl)]
    rfl
  exact h

theorem PackSigns : sidesticklaw02_PackSigns.Pure := by
  intro a wa
  refine ⟨12, ?_⟩
  obtain ⟨m, hm, m0, m1⟩ := mask16 a
  unfold sidesticklaw02_PackSigns.f
  rw [hm]
  have w1 : wrap64 (m - 32768) = m - 32768 := by unfold wrap64; omega
  have w2 : wrap64 (-1 - (m - 32768)) = 32767 - m := by unfold wrap64; omega
  rw [w1, w2, shown, putInt (m - 32768) (by omega) (by omega), putInt (32767 - m) (by omega) (by omega)]
  simp only [Option.bind_some, if_true]
  have r0 : ∀ x y : Int, rd [x, y] 0 = x := fun _ _ => rfl
  have r1 : ∀ x y : Int, rd [x, y] 1 = y := fun _ _ => rfl
  simp only [r0, r1]
  have x255 : ∀ x : Int, 0 ≤ x → x < 256 → Go.bits .xor .u8 x (255 - x) = 255 := by
    intro x h0 h1
    rw [u8_xor x (255 - x) h0 h1 (by omega) (by omega)]
    obtain ⟨n, rfl⟩ := Int.eq_ofNat_of_zero_le h0
    have hn : n < 256 := by omega
    have e : (255 - (n : Int)).toNat = 255 - n := by omega
    rw [e, Int.toNat_natCast]
    have : ∀ n : Fin 256, n.val ^^^ (255 - n.val) = 255 := by decide
    have := this ⟨n, hn⟩
    simp at this
    exact_mod_cast this
  have e0 : (32767 - m) % 65536 / 256 % 256 = 255 - (m - 32768) % 65536 / 256 % 256 := by omega
  have e1 : (32767 - m) % 65536 % 256 = 255 - (m - 32768) % 65536 % 256 := by omega
  rw [e0, e1, x255 _ (by omega) (by omega), x255 _ (by omega) (by omega)]
  have hs : (decide ((m - 32768) % 65536 / 256 % 256 ≥ 128) == decide (m - 32768 < 0)) = true := by
    rw [Bool.beq_eq_decide_eq, decide_eq_true_eq, decide_eq_decide]; omega
  rw [hs]
  rfl

end Go.Proofs.Ytnbmjpcnjjpcpaa.Pure
