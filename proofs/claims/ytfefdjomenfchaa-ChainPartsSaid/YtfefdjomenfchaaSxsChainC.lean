/-
  Walks by Sx; no condition beyond those that stand in each statement.
-/
import Derived.Test.YtfefdjomenfchaaSxsChainB
import Derived.Laws.Bits128
namespace Go.Proofs
open Go Go.Sx
set_option maxRecDepth 100000
attribute [local simp] xs setL_all rc_one1
variable (T : TyOk Try.prog (tyOf Try.prog Try.eqs)) (hm : Try.prog.follows .mixedOrders = true)
theorem and_i64_mask (k : Nat) (hk : k ≤ 32) (n : Int) : Go.bits .and .i64 n (2 ^ k - 1 : Nat) = n % (2 ^ k : Nat) := by
  have hlt : 2 ^ k ≤ 2 ^ 32 := Nat.pow_le_pow_right (by decide) hk
  have hpos : 0 < 2 ^ k := Nat.two_pow_pos k
  have h127 : (BitVec.ofInt 64 ((2 ^ k - 1 : Nat) : Int)).toNat = 2 ^ k - 1 := by
    rw [BitVec.toNat_ofInt]; omega
  have key : (BitVec.ofInt 64 n &&& BitVec.ofInt 64 ((2 ^ k - 1 : Nat) : Int)).toNat = (n % ((2 ^ 64 : Nat) : Int)).toNat % 2 ^ k := by
    rw [BitVec.toNat_and, BitVec.toNat_ofInt, h127, Nat.and_two_pow_sub_one_eq_mod]
  show IntKind.i64.wrap ((BitVec.ofInt 64 n &&& BitVec.ofInt 64 ((2 ^ k - 1 : Nat) : Int)).toNat : Nat) = _
  rw [key, IntKind.wrap_i64]
  have h2 : ((n % ((2 ^ 64 : Nat) : Int)).toNat % 2 ^ k : Nat) = (n % ((2 ^ k : Nat) : Int)).toNat := by
    have h3 : ((2 ^ 64 : Nat) : Int) = (2 ^ k : Nat) * (2 ^ (64 - k) : Nat) := by
      rw [← Int.natCast_mul, ← Nat.pow_add]; congr 2; omega
    have h4 : ((((n % ((2 ^ 64 : Nat) : Int)).toNat % 2 ^ k : Nat)) : Int) = n % ((2 ^ k : Nat) : Int) := by
      rw [Int.natCast_emod, Int.toNat_of_nonneg (Int.emod_nonneg _ (by decide))]
      exact Int.emod_emod_of_dvd n ⟨_, h3⟩
    omega
  rw [h2]
  have h5 := Int.emod_nonneg n (show ((2 ^ k : Nat) : Int) ≠ 0 by omega)
  have h6 := Int.emod_lt_of_pos n (show (0 : Int) < ((2 ^ k : Nat) : Int) by omega)
  omega
theorem and_255 (n : Int) : Go.bits .and .i64 n 255 = n % 256 := and_i64_mask 8 (by decide) n
theorem and_65535 (n : Int) : Go.bits .and .i64 n 65535 = n % 65536 := and_i64_mask 16 (by decide) n
theorem and_max32 (n : Int) : Go.bits .and .i64 n 4294967295 = n % 4294967296 := and_i64_mask 32 (by decide) n
attribute [local simp] and_255 and_65535 and_max32
def Rc.small (r : Rc) : Rc := ⟨r.k % 256, r.s % 256, r.q % 4294967296, r.e % 65536, r.c % 256, r.h % 256⟩
/-- A record that may be. -/
def Rc.May (r : Rc) : Prop := 0 ≤ r.k ∧ r.k < 256 ∧ 0 ≤ r.s ∧ r.s < 256 ∧ 0 ≤ r.q ∧ r.q < 4294967296 ∧ 0 ≤ r.e ∧ r.e < 65536 ∧ 0 ≤ r.c ∧ r.c < 256 ∧ 0 ≤ r.h ∧ r.h < 256
theorem Rc.small_may (r : Rc) : r.small.May := by
  unfold Rc.May Rc.small
  simp only
  omega
theorem recB_big (x : Rc) (n : Nat) : recB ⟨x.k + 256 * n, x.s - 256 * n, x.q + n * 4294967296, x.e + 65536 * n, x.c, x.h + 256 * n⟩ = recB x := by
  have e1 : (x.k + 256 * (n : Int)) % 256 = x.k % 256 := by omega
  have e2 : (x.s - 256 * (n : Int)) % 256 = x.s % 256 := by omega
  have e3 : (x.q + (n : Int) * 4294967296) % 4294967296 = x.q % 4294967296 := by omega
  have e4 : (x.e + 65536 * (n : Int)) % 65536 = x.e % 65536 := by omega
  have e5 : (x.h + 256 * (n : Int)) % 256 = x.h % 256 := by omega
  simp only [recB, b8, m32, m16, e1, e2, e3, e4, e5]
def takeN (l : List UInt8) : Nat := l.foldl (fun a b => a * 256 + b.toNat) 0
theorem takeN_snoc (l : List UInt8) (b : UInt8) : takeN (l ++ [b]) = takeN l * 256 + b.toNat := by simp [takeN]
/-- A number's bytes give the number back. -/
theorem takeN_putB : ∀ (n v : Nat), v < 2 ^ (8 * n) → takeN ((List.range n).map (putB v n)) = v := by
  intro n
  induction n with
  | zero => intro v h; simp [takeN] at *; omega
  | succ n ih =>
    intro v h
    rw [List.range_succ, List.map_append, List.map_singleton, takeN_snoc]
    have e : (List.range n).map (putB v (n + 1)) = (List.range n).map (putB (v / 256) n) := by
      apply List.map_congr_left
      intro j hj
      have hj : j < n := by simpa using hj
      unfold putB
      have : 2 ^ (8 * (n + 1 - 1 - j)) = 256 * 2 ^ (8 * (n - 1 - j)) := by
        rw [show n + 1 - 1 - j = (n - 1 - j) + 1 by omega, Nat.mul_add, Nat.pow_add]; simp [Nat.mul_comm]
      rw [this, ← Nat.div_div_eq_div_mul]
    have hlt : v / 256 < 2 ^ (8 * n) := by
      rw [Nat.div_lt_iff_lt_mul (by decide)]
      rw [Nat.mul_add, Nat.pow_add] at h
      simpa using h
    rw [e, ih _ hlt]
    have : (putB v (n + 1) n).toNat = v % 256 := by
      unfold putB
      simp
    rw [this]
    omega
def isU8 : Value → Bool
  | .int .u8 _ => true
  | _ => false
@[simp] theorem isU8_int (n : Int) : isU8 (.int .u8 n) = true := rfl
theorem flatEq_u8s : ∀ (zs : List Value) (l m : List UInt8), zs.all isU8 = true → l.length = zs.length → m.length = zs.length → flatEq zs (u8s l) (u8s m) = some (l == m)
  | [], l, m, _, h1, h2 => by
    cases List.eq_nil_of_length_eq_zero h1
    cases List.eq_nil_of_length_eq_zero h2
    rfl
  | z :: zs, l, m, h, h1, h2 => by
    cases l with
    | nil => simp at h1
    | cons a l =>
      cases m with
      | nil => simp at h2
      | cons b m =>
        simp only [List.all_cons, Bool.and_eq_true] at h
        have ih := flatEq_u8s zs l m h.2 (by simpa using h1) (by simpa using h2)
        obtain ⟨z0, z1⟩ := h
        cases z with
        | int k n =>
          cases k <;> simp [isU8] at z0
          have hu : ∀ (x : UInt8) (t : List UInt8), u8s (x :: t) = .int .u8 x.toNat :: u8s t := fun _ _ => rfl
          rw [hu, hu, flatEq, if_pos ⟨rfl, rfl⟩, ih]
          simp only [Option.map_some, Option.some.injEq]
          rw [List.cons_beq_cons]
          congr 1
          rw [Bool.eq_iff_iff]
          simp only [beq_iff_eq]
          constructor
          · intro e; exact UInt8.toNat_inj.1 (by omega)
          · rintro rfl; rfl
        | _ => simp [isU8] at z0
theorem b8_inj {n m : Int} (h : b8 n = b8 m) (h1 : 0 ≤ n) (h2 : n < 256) (h3 : 0 ≤ m) (h4 : m < 256) : n = m := by
  have := congrArg UInt8.toNat h
  simp [b8] at this
  omega
theorem putL_inj {n v w : Nat} (h : putL v n = putL w n) (hv : v < 2 ^ (8 * n)) (hw : w < 2 ^ (8 * n)) : v = w := by
  rw [← takeN_putB n v hv, ← takeN_putB n w hw]
  exact congrArg takeN h
theorem recB_inj {x y : Rc} (hx : x.May) (hy : y.May) (h : recB x = recB y) : x = y := by
  obtain ⟨x1, x2, x3, x4, x5, x6, x7, x8, x9, x10, x11, x12⟩ := hx
  obtain ⟨y1, y2, y3, y4, y5, y6, y7, y8, y9, y10, y11, y12⟩ := hy
  unfold recB at h
  obtain ⟨h, h3⟩ := List.append_inj h (by simp)
  obtain ⟨h, h2⟩ := List.append_inj h (by simp)
  obtain ⟨h0, h1⟩ := List.append_inj h (by simp)
  simp only [List.cons.injEq, and_true] at h0 h3
  have p1 := putL_inj h1 (m32_lt _) (m32_lt _)
  have p2 := putL_inj h2 (m16_lt _) (m16_lt _)
  unfold m32 at p1
  unfold m16 at p2
  have e1 := b8_inj h0.1 x1 x2 y1 y2
  have e2 := b8_inj h0.2 x3 x4 y3 y4
  have e3 : x.q = y.q := by omega
  have e4 : x.e = y.e := by omega
  have e5 := b8_inj h3.1 x9 x10 y9 y10
  have e6 := b8_inj h3.2 x11 x12 y11 y12
  cases x; cases y
  simp_all
theorem recB_eq {x y : Rc} (hx : x.May) (hy : y.May) : (recB x == recB y) = (x.k == y.k && (x.s == y.s && (x.q == y.q && (x.e == y.e && (x.c == y.c && x.h == y.h))))) := by
  rw [Bool.eq_iff_iff]
  simp only [Bool.and_eq_true, beq_iff_eq]
  constructor
  · intro h
    cases recB_inj hx hy h
    simp
  · rintro ⟨h1, h2, h3, h4, h5, h6⟩
    cases x; cases y
    simp_all
include T
theorem law23_small_fn0 (r : Rc) :
    Sx.Fn Try.prog 28 [.agg r.cells.toArray] [] fun v _ => v = .agg r.small.cells.toArray := by
  refine fn_start T Try.func28 rfl (by kernel_rfl) Try.results28 Try.ntmps28 (by simp) ?_
  intro Q hQ
  simp only [argTm, Rc.cells]
  refine cw_step T xs [1, 2] fun K1 hK1 => ?_
  simp
  refine hK1 _ ?_; clear hK1 K1
  refine cw_step T xs [2] fun K2 hK2 => ?_
  simp
  refine hK2 _ ?_; clear hK2 K2
  exact cw_ret (hQ _ (.agg r.small.cells.toArray) _ _ (resC_one (by simp [Rc.small, Rc.cells])) (Ret.refl _ _ _) rfl).2
theorem law23_small_fn (r : Rc) (H : Heap) : Sx.Fn Try.prog 28 [.agg r.cells.toArray] H fun v h => v = .agg r.small.cells.toArray ∧ h = H :=
  fn_plain (by simp only [List.all_cons, List.all_nil, Rc.plain, Bool.and_true]) (Rc.plain _) (law23_small_fn0 T r) (fun _ _ h => h) H
include hm
theorem law23_ChainBytes_fn (a b : Rc) (n : Nat) (hn : n < 256) :
    Sx.Fn Try.prog 7 [.agg a.cells.toArray, .agg b.cells.toArray, .int .u8 n] [] fun r _ => r = .bool true := by
  refine fn_start T Try.func7 rfl (by kernel_rfl) Try.results7 Try.ntmps7 (by simp) ?_
  intro Q hQ
  simp only [argTm]
  have hra := rc_length a
  have hrb := rc_length b
  refine cw_step T xs [2, 3, 4] fun K1 hK1 => ?_
  simp
  refine hK1 _ ?_; clear hK1 K1
  refine cw_step T xs [2, 3, 4, 7] fun K2 hK2 => ?_
  simp
  refine CallK.of (law23_shown_fn T hm _) ?_
  rintro _ _ ⟨rfl, rfl⟩
  simp
  refine hK2 _ ?_; clear hK2 K2
  refine cw_step T xs [2, 4, 7, 8] fun K3 hK3 => ?_
  simp
  refine CallK.of (law23_small_fn T a _) ?_
  rintro _ _ ⟨rfl, rfl⟩
  simp
  refine hK3 _ ?_; clear hK3 K3
  refine cw_step T xs [2, 7, 8, 9] fun K4 hK4 => ?_
  simp
  refine CallK.of (law23_small_fn T b _) ?_
  rintro _ _ ⟨rfl, rfl⟩
  simp
  refine hK4 _ ?_; clear hK4 K4
  obtain ⟨x, hx⟩ : ∃ x, x = a.small := ⟨_, rfl⟩
  obtain ⟨y, hy⟩ : ∃ y, y = b.small := ⟨_, rfl⟩
  have bx : x.May := by rw [hx]; exact a.small_may
  have by' : y.May := by rw [hy]; exact b.small_may
  rw [← hx, ← hy]
  clear hx hy
  obtain ⟨x1, x2, x3, x4, x5, x6, x7, x8, x9, x10, x11, x12⟩ := bx
  have hxl := rc_length x
  refine cw_step T xs [7, 8, 9, 10] fun K5 hK5 => ?_
  rw [show x.cells = [.int .i64 x.k, .int .i64 x.s, .int .i64 x.q, .int .i64 x.e, .int .i64 x.c, .int .i64 x.h] from rfl]
  simp
  repeat refine ⟨by omega, ?_⟩
  refine hK5 _ ?_; clear hK5 K5
  have bx : x.May := ⟨x1, x2, x3, x4, x5, x6, x7, x8, x9, x10, x11, x12⟩
  obtain ⟨z, hz⟩ : ∃ z : Rc, z = ⟨x.k + 256 * n, x.s - 256 * n, x.q + n * 4294967296, x.e + 65536 * n, x.c, x.h + 256 * n⟩ := ⟨_, rfl⟩
  have hzc : [Value.int .i64 (x.k + 256 * n), .int .i64 (x.s - 256 * n), .int .i64 (x.q + n * 4294967296), .int .i64 (x.e + 65536 * n), .int .i64 x.c, .int .i64 (x.h + 256 * n)] = z.cells := by rw [hz]; rfl
  have hxc : [Value.int .i64 x.k, .int .i64 x.s, .int .i64 x.q, .int .i64 x.e, .int .i64 x.c, .int .i64 x.h] = x.cells := rfl
  rw [hzc, hxc]
  have hzb : recB z = recB x := by rw [hz]; exact recB_big x n
  clear hzc hxc hz x1 x2 x3 x4 x5 x6 x7 x8 x9 x10 x11 x12
  have hxt : x.cells.take 6 = x.cells := rfl
  have hyt : y.cells.take 6 = y.cells := rfl
  have hzt : z.cells.take 6 = z.cells := rfl
  refine cw_draw T hm xs [6] (.soft 0 false <| .soft 1 false <| .soft 2 true <| .soft 4 true <| .soft 7 true <| .soft 8 true <| .soft 9 false <| .alt 3 true (.alt 5 true (.soft 6 false <| .soft 10 false <| .soft 11 false <| .soft 12 false <| .soft 13 true <| .soft 15 true <| .alt 14 true (.alt 16 true (.soft 17 false <| .soft 18 false <| .soft 19 false <| .stop) (.stop)) (.stop)) (.stop)) (.stop)) (by kernel_rfl) fun K6 hK6 => ?_
  simp [hxt, hyt, hzt]
  refine CallK.of (chain_Bytes_fn T x _) ?_
  rintro _ _ ⟨rfl, rfl⟩
  simp
  refine CallK.of (chain_Bytes_fn T y _) ?_
  rintro _ _ ⟨rfl, rfl⟩
  simp [flatEq_u8s, recB_eq bx by', hxt, hyt, hzt]
  refine CallK.of (chain_Bytes_fn T z _) ?_
  rintro _ _ ⟨rfl, rfl⟩
  simp [hxt, hyt, hzt]
  refine CallK.of (chain_Bytes_fn T x _) ?_
  rintro _ _ ⟨rfl, rfl⟩
  simp [flatEq_u8s, hzb]
  refine hK6 _ ?_; clear hK6 K6
  exact cw_ret (hQ _ (.bool true) _ _ (resC_one (by simp)) (Ret.refl _ _ _) rfl).2
end Go.Proofs
