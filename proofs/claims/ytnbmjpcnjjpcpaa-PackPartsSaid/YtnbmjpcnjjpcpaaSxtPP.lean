/-
  Walks by Sx; no condition beyond those that stand in each statement.
-/
import Derived.Test.YtnbmjpcnjjpcpaaSxtPB
import Derived.Test.YtnbmjpcnjjpcpaaSxO
import Derived.Test.YtnbmjpcnjjpcpaaSxsWord
namespace Go.Proofs
open Go Go.Sx
set_option maxRecDepth 100000
attribute [local simp] xm
variable (T : TyOk Try.prog (tyOf Try.prog Try.eqs))
theorem row_cell {H : Heap} {a : Option Addr} {n c : Nat} {b : List UInt8} (hr : rowOf 1 H (.slice a n c) = some (u8s b)) (hn : b.length = n) {i : Nat} (hi : i < n) :
    ∃ bi k cs o u, a = some ⟨bi, k, none⟩ ∧ hget H bi = some (.cells cs o u) ∧ k + n ≤ cs.length ∧ cs[k + i]? = (u8s b)[i]? := by
  match a, hr with
  | none, hr =>
    cases b with
    | nil => simp at hn; omega
    | cons x r => simp [u8s] at hr
  | some ⟨bi, k, some _⟩, hr => exact absurd hr (by simp [rowOf])
  | some ⟨bi, k, none⟩, hr =>
    simp only [rowOf_some, Nat.mul_one] at hr
    cases hg : cellsAt H bi with
    | none => rw [hg] at hr; simp at hr
    | some cs =>
      rw [hg] at hr
      simp only [Option.bind_some, slc, Option.ite_none_right_eq_some, Option.some.injEq] at hr
      obtain ⟨h1, h2⟩ := hr
      unfold Sx.cellsAt at hg
      split at hg
      · rename_i cs' o u hgg
        simp only [Option.some.injEq] at hg
        subst hg
        refine ⟨bi, k, _, o, u, rfl, hgg, h1, ?_⟩
        rw [← h2, List.getElem?_take_of_lt hi, List.getElem?_drop]
      · simp at hg
/-- Two parts of a number, and its bytes. -/
theorem parts (x y m k : Nat) (hx : x < 2 ^ (8 * m)) (hy : y < 2 ^ (8 * k)) : (List.range (m + k)).map (putB (x * 2 ^ (8 * k) + y) (m + k)) = (List.range m).map (putB x m) ++ (List.range k).map (putB y k) := by
  apply List.ext_getElem
  · simp
  · intro j h1 h2
    have hj : j < m + k := by simpa using h1
    simp only [List.getElem_map, List.getElem_range]
    by_cases hjm : j < m
    · rw [List.getElem_append_left (by simpa using hjm)]
      simp only [List.getElem_map, List.getElem_range, putB]
      congr 1
      have e : 2 ^ (8 * (m + k - 1 - j)) = 2 ^ (8 * k) * 2 ^ (8 * (m - 1 - j)) := by
        rw [← Nat.pow_add]; congr 1; omega
      rw [e, ← Nat.div_div_eq_div_mul]
      congr 1
      rw [Nat.mul_comm, Nat.mul_add_div (Nat.two_pow_pos _), Nat.div_eq_of_lt hy, Nat.add_zero]
    · rw [List.getElem_append_right (by simp; omega)]
      simp only [List.getElem_map, List.getElem_range, putB, List.length_map, List.length_range]
      have e0 : m + k - 1 - j = k - 1 - (j - m) := by omega
      rw [e0]
      obtain ⟨i, hi⟩ : ∃ i, i = j - m := ⟨_, rfl⟩
      rw [← hi]
      have hik : i < k := by omega
      have e : 2 ^ (8 * k) = 2 ^ (8 * (k - 1 - i)) * (256 * 2 ^ (8 * i)) := by
        rw [show (256 : Nat) = 2 ^ 8 by rfl, ← Nat.pow_add, ← Nat.pow_add]; congr 1; omega
      have e2 : (x * 2 ^ (8 * k) + y) / 2 ^ (8 * (k - 1 - i)) = 256 * (x * 2 ^ (8 * i)) + y / 2 ^ (8 * (k - 1 - i)) := by
        rw [e, show x * (2 ^ (8 * (k - 1 - i)) * (256 * 2 ^ (8 * i))) = 2 ^ (8 * (k - 1 - i)) * (256 * (x * 2 ^ (8 * i))) by
          rw [Nat.mul_left_comm x, Nat.mul_left_comm x 256], Nat.mul_add_div (Nat.two_pow_pos _)]
      rw [e2]
      apply UInt8.toNat_inj.1
      simp
theorem or_parts (x y k : Nat) (hy : y < 2 ^ (8 * k)) (hx : x * 2 ^ (8 * k) + y < 18446744073709551616) : Go.bits .or .u64 ((x * 2 ^ (8 * k) : Nat) : Int) (y : Int) = ((x * 2 ^ (8 * k) + y : Nat) : Int) := by
  rw [bits_or_u64_nat _ _ (by omega) (by omega)]
  have := Nat.shiftLeft_add_eq_or_of_lt (a := x) (b := y) (i := 8 * k) hy
  rw [Nat.shiftLeft_eq] at this
  rw [← this]
include T
theorem take_row (bs : List UInt8) (hn : bs.length ≤ 8) (H : Heap) (a : Option Addr) (c : Nat) (hr : rowOf 1 H (.slice a bs.length c) = some (u8s bs)) :
    Sx.Fn Try.prog 15 [.slice a bs.length c] H fun r h => r = .tuple #[.int .u64 (takeN bs), .int .i64 0] ∧ h = H := by
  refine fn_start T Try.func15 rfl (by kernel_rfl) Try.results15 Try.ntmps15 (by simp) ?_
  intro Q hQ
  simp only [argTm]
  refine cw_step T xm [0] fun K hK => ?_
  simp
  refine hK _ ?_; clear hK K
  refine cw_seq fun K hK => ?_
  refine cw_step T xm [0,9] fun K2 hK2 => ?_
  simp
  refine hK2 _ ?_; clear hK2 K2
  refine cw_cond rfl (fun h => absurd h (by simp; omega)) fun _ => ?_
  refine cw_skip ?_
  refine hK _ ?_; clear hK K
  refine cw_step T xm [0,4] fun K hK => ?_
  simp
  refine hK _ ?_; clear hK K
  refine cw_seq fun K hK => ?_
  refine cw_step T xm [4,10,11,12] fun K2 hK2 => ?_
  simp
  refine hK2 _ ?_; clear hK2 K2
  refine cw_block ?_
  refine cw_while (fun m s => ∃ i, m = bs.length - i ∧ i ≤ bs.length ∧ s = ⟨[(4, .v (.int .u64 (takeN (bs.take i)))), (10, .v (.slice a bs.length c)), (11, .v (.int .i64 bs.length)), (12, .v (.int .i64 i))], H⟩) bs.length ⟨0, by omega, by omega, by simp [takeN]⟩ ?_
  rintro m s ⟨i, rfl, hi, rfl⟩
  refine cw_step T xm [4,10,11,12,13] fun K2 hK2 => ?_
  simp
  refine hK2 _ ?_; clear hK2 K2
  refine cw_seq fun K2 hK2 => ?_
  refine cw_cond rfl (fun h => cw_skip ?_) fun h => cw_exit ?_
  · have h : i < bs.length := by simpa using h
    refine hK2 _ ?_; clear hK2 K2
    refine cw_seq fun K2 hK2 => ?_
    refine cw_block ?_
    obtain ⟨b, k, cs, o, u, rfl, hg, hk, he⟩ := row_cell hr rfl h
    have hx : cs[k + i]? = some (.int .u8 (bs[i].toNat)) := by rw [he, u8s_get]; simp [h]
    refine cw_step T xm [4,10,11,12,6] fun K3 hK3 => ?_
    simp [hg, hx, h]
    refine hK3 _ ?_; clear hK3 K3
    refine cw_last T xm [4,10,11,12] fun K3 hK3 => ?_
    have hlt : takeN (bs.take i) * 256 < 18446744073709551616 := by
      have h1 := takeN_lt (bs.take i)
      rw [List.length_take, Nat.min_eq_left hi] at h1
      have h2 : 256 ^ i ≤ 256 ^ 7 := Nat.pow_le_pow_right (by decide) (by omega)
      omega
    have hb : (bs[i].toNat : Int) ≤ 18446744073709551615 := by have := bs[i].toNat_lt; omega
    simp [hb]
    refine ⟨by omega, hK3 _ ?_⟩; clear hK3 K3
    refine hK2 _ ?_; clear hK2 K2
    refine cw_last T xm [4,10,11,12] fun K3 hK3 => ?_
    simp
    refine ⟨by omega, hK3 _ ?_⟩; clear hK3 K3
    refine round_end (bs.length - (i + 1)) (by omega) ⟨i + 1, rfl, h, ?_⟩ (Nat.le_refl _)
    rw [or8 _ _ hlt bs[i].toNat_lt, List.take_add_one, List.getElem?_eq_getElem h, Option.toList_some, takeN_snoc]
    rfl
  · have h : ¬ i < bs.length := by simpa using h
    refine hK _ ?_; clear hK K hK2 K2
    have hi : i = bs.length := by omega
    subst hi
    refine cw_step T xm [2, 3] fun K hK => ?_
    simp
    refine hK _ ?_; clear hK K
    exact cw_ret (hQ _ _ _ _ rfl (Ret.refl _ _ _) ⟨rfl, rfl⟩).2
theorem packParts_fn (hm : Try.prog.follows .mixedOrders = true) (a b : Nat) (ha : a < 4294967296) (hb : b < 4294967296) (s0 s1 : UInt8) :
    Sx.Fn Try.prog 8 [.int .u32 a, .int .u32 b, .agg (u8s [s0, s1]).toArray] [] fun r _ => r = .bool true := by
  refine fn_start T Try.func8 rfl (by kernel_rfl) Try.results8 Try.ntmps8 (by simp) ?_
  intro Q hQ
  simp only [argTm]
  refine cw_step T xm [0, 1, 5] fun K1 hK1 => ?_
  simp
  refine hK1 _ ?_; clear hK1 K1
  refine cw_step T xm [0, 1, 5, 7] fun K2 hK2 => ?_
  simp
  refine CallK.of (shown_fn T hm _) ?_
  rintro _ _ ⟨rfl, rfl⟩
  simp
  refine hK2 _ ?_; clear hK2 K2
  refine cw_step T xm [0, 1, 5, 7, 8] fun K3 hK3 => ?_
  simp
  have hs0 := s0.toNat_lt
  have hs1 := s1.toNat_lt
  refine ⟨by omega, ?_⟩
  obtain ⟨m, hm5, hmlt⟩ : ∃ m : Nat, ((s0.toNat : Int) % 5) = m ∧ m < 5 := ⟨s0.toNat % 5, by omega, by omega⟩
  rw [hm5]
  refine hK3 _ ?_; clear hK3 K3
  refine cw_step T xm [0, 1, 7, 8, 9] fun K4 hK4 => ?_
  simp
  refine ⟨by omega, ?_⟩
  obtain ⟨k, hk5, hklt⟩ : ∃ k : Nat, ((s1.toNat : Int) % 5) = k ∧ k < 5 := ⟨s1.toNat % 5, by omega, by omega⟩
  rw [hk5]
  refine hK4 _ ?_; clear hK4 K4
  have pm : 2 ^ (8 * m) ≤ 2 ^ 32 := Nat.pow_le_pow_right (by decide) (by omega)
  have pk : 2 ^ (8 * k) ≤ 2 ^ 32 := Nat.pow_le_pow_right (by decide) (by omega)
  have qm := Nat.two_pow_pos (8 * m)
  have qk := Nat.two_pow_pos (8 * k)
  obtain ⟨x, hx⟩ : ∃ x, x = a % 2 ^ (8 * m) := ⟨_, rfl⟩
  obtain ⟨y, hy⟩ : ∃ y, y = b % 2 ^ (8 * k) := ⟨_, rfl⟩
  have hxf : x < 2 ^ (8 * m) := by rw [hx]; exact Nat.mod_lt _ qm
  have hyf : y < 2 ^ (8 * k) := by rw [hy]; exact Nat.mod_lt _ qk
  have tm' : ((8 : Int) * (m : Int)).toNat = 8 * m := by omega
  have tk' : ((8 : Int) * (k : Int)).toNat = 8 * k := by omega
  have am := and_mask a (8 * m) (by omega) (by omega)
  have ak := and_mask b (8 * k) (by omega) (by omega)
  rw [← hx] at am
  rw [← hy] at ak
  have c8m : ((2 ^ (8 * m) : Nat) : Int) = 2 ^ (8 * m) := by simp
  have c8k : ((2 ^ (8 * k) : Nat) : Int) = 2 ^ (8 * k) := by simp
  have im1 : (1 : Int) ≤ 2 ^ (8 * m) := by rw [← c8m]; omega
  have im2 : (2 : Int) ^ (8 * m) ≤ 4294967296 := by rw [← c8m]; omega
  have ik1 : (1 : Int) ≤ 2 ^ (8 * k) := by rw [← c8k]; omega
  have ik2 : (2 : Int) ^ (8 * k) ≤ 4294967296 := by rw [← c8k]; omega
  refine cw_step T xm [1, 7, 8, 9, 10] fun K5 hK5 => ?_
  simp [tm', am]
  refine ⟨by omega, by omega, ⟨by omega, by omega, by omega, by omega⟩, by omega, ?_⟩
  refine hK5 _ ?_; clear hK5 K5
  refine cw_step T xm [7, 8, 9, 10, 11] fun K6 hK6 => ?_
  simp [tk', ak]
  refine ⟨by omega, by omega, ⟨by omega, by omega, by omega, by omega⟩, by omega, ?_⟩
  refine hK6 _ ?_; clear hK6 K6
  have hx64 : x < 18446744073709551616 := by omega
  have hy64 : y < 18446744073709551616 := by omega
  refine cw_step T xm [7, 8, 9, 10, 11, 12, 13] fun K7 hK7 => ?_
  simp
  refine CallK.of (put_fn T x hx64 m (by omega) (fun _ => Nat.div_eq_of_lt hxf) _) ?_
  rintro _ _ ⟨rfl, rfl⟩
  obtain ⟨P, hP⟩ : ∃ P, P = (List.range m).map (putB x m) := ⟨_, rfl⟩
  have hPl : P.length = m := by rw [hP]; simp
  rw [← hP]
  simp
  refine hK7 _ ?_; clear hK7 K7
  refine cw_step T xm [7, 8, 9, 10, 11, 12, 13, 14, 15] fun K8 hK8 => ?_
  simp
  refine CallK.of (put_fn T y hy64 k (by omega) (fun _ => Nat.div_eq_of_lt hyf) _) ?_
  rintro _ _ ⟨rfl, rfl⟩
  obtain ⟨R, hR⟩ : ∃ R, R = (List.range k).map (putB y k) := ⟨_, rfl⟩
  have hRl : R.length = k := by rw [hR]; simp
  rw [← hR]
  simp
  refine hK8 _ ?_; clear hK8 K8
  obtain ⟨z, hz⟩ : ∃ z, z = x * 2 ^ (8 * k) + y := ⟨_, rfl⟩
  have e2 : 2 ^ (8 * (m + k)) = 2 ^ (8 * m) * 2 ^ (8 * k) := by rw [← Nat.pow_add]; congr 1; omega
  have hzf : z < 2 ^ (8 * (m + k)) := by
    rw [hz, e2]
    have h1 : (x + 1) * 2 ^ (8 * k) ≤ 2 ^ (8 * m) * 2 ^ (8 * k) := Nat.mul_le_mul_right _ hxf
    rw [Nat.add_mul] at h1
    omega
  have h64 : 2 ^ (8 * (m + k)) ≤ 2 ^ 64 := Nat.pow_le_pow_right (by decide) (by omega)
  have hz64 : z < 18446744073709551616 := by omega
  have hor := or_parts x y k hyf (by omega)
  rw [← hz] at hor
  have hxs : x * 2 ^ (8 * k) ≤ 18446744073709551615 := by omega
  have cxk : ((x * 2 ^ (8 * k) : Nat) : Int) = (x : Int) * 2 ^ (8 * k) := by simp
  have hxi1 : (0 : Int) ≤ (x : Int) * 2 ^ (8 * k) := by rw [← cxk]; omega
  have hxi2 : (x : Int) * 2 ^ (8 * k) ≤ 18446744073709551615 := by rw [← cxk]; omega
  have hor' : Go.bits .or .u64 ((x : Int) * 2 ^ (8 * k)) (y : Int) = (z : Int) := by rw [← cxk]; exact hor
  have hall : (List.range (m + k)).map (putB z (m + k)) = P ++ R := by rw [hz, hP, hR]; exact parts x y m k hxf hyf
  have htake : takeN (P ++ R) = z := by rw [← hall]; exact takeN_putB (m + k) z hzf
  refine cw_step T xm [7, 9, 10, 11, 12, 13, 14, 15, 16, 17] fun K9 hK9 => ?_
  simp [tk', hor']
  rw [show ((m : Int) + (k : Int)) = ((m + k : Nat) : Int) by simp]
  refine ⟨by omega, ⟨by omega, by omega, hxi1, hxi2⟩, by omega, ?_⟩
  refine CallK.of (put_fn T z hz64 (m + k) (by omega) (fun _ => Nat.div_eq_of_lt hzf) _) ?_
  rintro _ _ ⟨rfl, rfl⟩
  rw [hall]
  simp
  refine hK9 _ ?_; clear hK9 K9
  have hPRl : (P ++ R).length = m + k := by simp [hPl, hRl]
  have g : ∀ (L : Heap) (sl : Value), True := fun _ _ => trivial
  refine cw_step T xm [7, 9, 10, 11, 12, 13, 14, 15, 16, 17, 18, 19] fun K10 hK10 => ?_
  have g10 : ∀ L : Heap, K10 ⟨[(7, .v (.bool true)), (9, .v (.int .i64 k)), (10, .v (.int .u64 x)), (11, .v (.int .u64 y)), (12, .v (.slice (some ⟨1, 0, none⟩) m m)), (13, .v (.int .i64 0)), (14, .v (.slice (some ⟨2, 0, none⟩) k k)), (15, .v (.int .i64 0)), (16, .v (.slice (some ⟨3, 0, none⟩) (m + k) (m + k))), (17, .v (.int .i64 0)), (18, .v (.int .u64 z)), (19, .v (.int .i64 0))],
      some (.cells (u8s [s0, s1]) true 0) :: some (.cells (u8s P) true 0) :: some (.cells (u8s R) true 0) :: some (.cells (u8s (P ++ R)) true 0) :: L⟩ := by
    intro L
    refine hK10 _ ?_; clear hK10 K10
    have hPt : P.take m = P := List.take_of_length_le (by omega)
    have hRt : R.take k = R := List.take_of_length_le (by omega)
    have hPRt : (P ++ R).take (m + k) = P ++ R := List.take_of_length_le (by omega)
    refine cw_step T xm [6] fun K11 hK11 => ?_
    simp [hPt, hRt, hPRt, hPl, hRl, hPRl, tk', hor']
    refine ⟨?_, by omega, ⟨by omega, by omega, hxi1, hxi2⟩, ?_⟩
    · show P.toArray.size + R.toArray.size ≤ 9223372036854775807
      simp only [List.size_toArray]
      omega
    refine hK11 _ ?_; clear hK11 K11
    exact cw_ret (hQ _ (.bool true) _ _ (resC_one (by simp)) (Ret.plain (H := []) rfl) rfl).2
  have hPt : P.take m = P := List.take_of_length_le (by omega)
  have hRt : R.take k = R := List.take_of_length_le (by omega)
  have hPRt : (P ++ R).take (m + k) = P ++ R := List.take_of_length_le (by omega)
  have take_n : ∀ (bs : List UInt8) (n : Nat), bs.length = n → n ≤ 8 → ∀ (H : Heap) (a : Option Addr) (c : Nat), rowOf 1 H (.slice a n c) = some (u8s bs) → Sx.Fn Try.prog 15 [.slice a n c] H fun r h => r = .tuple #[.int .u64 (takeN bs), .int .i64 0] ∧ h = H := by
    intro bs n hl h8 H a c hr
    subst hl
    exact take_row T bs h8 H a c hr
  have d1 : m ≤ 35184372088832 := by omega
  have d2 : k ≤ 35184372088832 := by omega
  have d3 : m + k ≤ 35184372088832 := by omega
  have d4 : ¬ m + k ≤ m ∨ k = 0 := by omega
  rcases Nat.eq_zero_or_pos m with h0 | h0 <;> rcases Nat.eq_zero_or_pos k with h1 | h1
  · subst h0; subst h1
    cases List.eq_nil_of_length_eq_zero hPl
    cases List.eq_nil_of_length_eq_zero hRl
    simp
    refine CallK.of (take_n [] 0 rfl (by omega) _ _ 0 (by simp [u8s])) ?_
    rintro _ _ ⟨rfl, rfl⟩
    rw [show takeN [] = z from htake]
    simp
    exact g10 _
  · subst h0
    cases List.eq_nil_of_length_eq_zero hPl
    have h1' : ¬ k = 0 := by omega
    simp [hRl, hRt, h1', d2]
    refine CallK.of (take_n R k hRl (by omega) _ _ OPEN (by simp [hRl, hRt])) ?_
    rintro _ _ ⟨rfl, rfl⟩
    rw [show takeN R = z from htake]
    simp
    have q := g10 [some (.cells [] true 0), some (.cells (u8s R) true 1)]
    rw [Nat.zero_add] at q
    exact q
  · subst h1
    cases List.eq_nil_of_length_eq_zero hRl
    have h0' : ¬ m = 0 := by omega
    rw [List.append_nil] at htake
    simp [hPl, hPt, h0', d1]
    refine CallK.of (take_n P m hPl (by omega) _ _ OPEN (by simp [hPl, hPt])) ?_
    rintro _ _ ⟨rfl, rfl⟩
    rw [htake]
    simp
    have q := g10 [some (.cells [] true 0), none, some (.cells (u8s P) true 1)]
    rw [List.append_nil] at q
    exact q
  · have h0' : ¬ m = 0 := by omega
    have h1' : ¬ k = 0 := by omega
    simp [hPl, hPt, hRl, hRt, h0', h1', d1, d2, d3]
    refine CallK.of (take_n (P ++ R) (m + k) hPRl (by omega) _ _ OPEN (by rw [rowOf_some]; simp [hPl, hRl, hPRt])) ?_
    rintro _ _ ⟨rfl, rfl⟩
    rw [htake]
    simp
    exact g10 _
end Go.Proofs
namespace Go.Proofs
open Go Go.Sx
theorem T_tryP : TyOk Try.prog (tyOf Try.prog Try.eqs) := tyOk _ _ (fun t ht => by cases ht)
theorem wf_u32 {n : Int} (w : (Lit.int .u32 n).wf = true) : ∃ v : Nat, n = v ∧ v < 4294967296 := by
  simp only [Lit.wf, Bool.and_eq_true, decide_eq_true_eq, IntKind.min, IntKind.max, IntKind.bits, IntKind.signed] at w
  simp at w
  exact ⟨n.toNat, by omega, by omega⟩
theorem typ_w {h : Heap} {x : Value} {f : Nat} (q : TypV Try.prog h (f + 1) 23 x) : ∃ n : Nat, x = .int .u32 n ∧ n < 4294967296 := by
  unfold TypV at q
  rw [Try.underlying23] at q
  simp only at q
  unfold Typ at q
  rw [Try.underlying23] at q
  simp only at q
  obtain ⟨n, hx, w⟩ := q
  simp only [List.cons.injEq, and_true] at hx
  subst hx
  obtain ⟨v, rfl, hv⟩ := wf_u32 w
  exact ⟨v, rfl, hv⟩
theorem typ_2 {h : Heap} {x : Value} {f : Nat} (q : TypV Try.prog h (f + 2) 43 x) : ∃ s0 s1 : UInt8, x = .agg (u8s [s0, s1]).toArray := by
  unfold TypV at q
  rw [Try.underlying43] at q
  simp only at q
  obtain ⟨cs, rfl, q⟩ := q
  unfold Typ at q
  rw [Try.underlying43] at q
  simp only at q
  obtain ⟨hl, q⟩ := q
  have hc : Try.prog.cellsOf 43 = 2 := by kernel_rfl
  have c5 : Try.prog.cellsOf 5 = 1 := by kernel_rfl
  rw [hc] at hl
  simp only [c5, Nat.mul_one] at q
  obtain ⟨bs, hb⟩ := u8_list cs.toList fun j hj => by
    have := q j (by omega)
    unfold Typ at this
    rw [Try.underlying5] at this
    exact this
  have hbl : bs.length = 2 := by have := congrArg List.length hb; rw [u8s_length] at this; omega
  match bs, hbl with
  | [s0, s1], _ => exact ⟨s0, s1, by rw [← hb]⟩
theorem packParts_law (hm : Try.prog.follows .mixedOrders = true) {h : Heap} {x0 x1 x2 : Value} (t0 : TypV Try.prog h 4 23 x0) (t1 : TypV Try.prog h 4 23 x1) (t2 : TypV Try.prog h 4 43 x2) :
    Sx.Fn Try.prog 8 [x0, x1, x2] h fun v _ => v = .bool true := by
  obtain ⟨a, rfl, ha⟩ := typ_w t0
  obtain ⟨b, rfl, hb⟩ := typ_w t1
  obtain ⟨s0, s1, rfl⟩ := typ_2 t2
  exact (fn_plain (by simp only [List.all_cons, List.all_nil, plain_u8s, Bool.and_true]; rfl) rfl (packParts_fn T_tryP hm a b ha hb s0 s1) (fun _ _ h => h) h).mono fun _ _ q => q.1
end Go.Proofs
